/- The plain law of EventsPlans. -/
import Derived.Test.YtmocoljbdiphoaaRef
set_option linter.unusedSimpArgs false
namespace Go.Pv
open Go
theorem plain_EventsPlans (x0 : SEngine) (x1 : List SFire) (x2 : Int) (_ : wf_SEngine x0) (_ : (wfL wf_SFire) x1) (_ : (fun n => (Lit.int .i64 n).wf = true) x2) : magnetolaw23_EventsPlans x0 x1 x2 = some true := by
  unfold magnetolaw23_EventsPlans
  rw [awake23]
  simp only [Option.bind_some, Bool.not_true, cond_false]
  cases h20 : decide ((x1.length : Int) > 20)
  · have hl : x1.length ≤ 20 := by simp at h20; omega
    simp only [cond_false]
    rw [plan_eq _ _ _ (by omega), rvalid_eq]
    simp only [Option.bind_some]
    cases hd : decide (engP x0)
    · unfold planV; rw [hd]; rfl
    · simp only [Bool.not_true, cond_false]
      rw [rplan_eq _ _ _ (by omega) (of_decide_eq_true hd)]
      simp only [Option.bind_some, beq_self_eq_true, cond_true]
      have := planV_len x0 x1 x2 (by omega)
      rw [equalE_self _ (by omega)]
      rfl
  · rfl
end Go.Pv
