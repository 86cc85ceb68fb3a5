/- The plain law of EventsCenters. -/
import Derived.Test.YtmocoljbdiphoaaRef
set_option linter.unusedSimpArgs false
namespace Go.Pv
open Go
theorem plain_EventsCenters (x0 : SEngine) (x1 : Int) (_ : wf_SEngine x0) (_ : (fun n => (Lit.int .i64 n).wf = true) x1) : magnetolaw23_EventsCenters x0 x1 = some true := by
  unfold magnetolaw23_EventsCenters
  rw [awake23]
  simp only [Option.bind_some, Bool.not_true, cond_false]
  rw [rvalid_eq, Center_eq]
  simp only [Option.bind_some]
  cases hd : decide (engP x0)
  · rfl
  · have he := of_decide_eq_true hd
    simp only [Bool.not_true, cond_false]
    rw [place_eq _ _ (by obtain ⟨_, h, _⟩ := he; omega)]
    simp only [Option.bind_some]
    have hm := idx_mem x1 x0.Order
    have hn : decide (idx x1 x0.Order 0 < 0) = !decide (x1 ∈ x0.Order) := by
      rw [← hm, Bool.eq_iff_iff]; simp
    rw [hn]
    cases hc : decide (x1 ∈ x0.Order)
    · rfl
    · simp only [Bool.not_true, cond_false]
      rw [rcenter_eq _ _ he (of_decide_eq_true hc)]
      simp only [Option.bind_some, beq_self_eq_true, cond_true]
end Go.Pv
