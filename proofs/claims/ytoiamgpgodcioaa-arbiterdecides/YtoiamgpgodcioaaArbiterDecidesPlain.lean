/- The plain law of ArbiterDecides. -/
import Derived.Test.YtoiamgpgodcioaaRef
set_option linter.unusedSimpArgs false
namespace Go.Pv
open Go
theorem plain_ArbiterDecides (x0 : List SRequest) (x1 : Int) (x2 : Int) (_ : (wfL wf_SRequest) x0) (_ : (fun n => (Lit.int .i64 n).wf = true) x1) (_ : (fun n => (Lit.int .i64 n).wf = true) x2) : magnetolaw36_ArbiterDecides x0 x1 x2 = some true := by
  unfold magnetolaw36_ArbiterDecides
  rw [awake36]
  simp only [Option.bind_some, Bool.not_true, Bool.false_or]
  cases h100 : decide ((x0.length : Int) > 100)
  · have hl : x0.length ≤ 100 := by have := of_decide_eq_false h100; omega
    simp only [cond_false]
    rw [Bounds_eq _ _ _ (by omega), Decide_eq _ _ _ (by omega)]
    simp only [Option.bind_some]
    rw [rangeM_steps _ (by omega)]
    have k := stepsL_any (f := magnetolaw36_ArbiterDecides_b1) (p := fun _ => false) (r := false) x0 0 (fun i y _ => by
      unfold magnetolaw36_ArbiterDecides_b1
      rw [valid_eq, rvalid_eq]
      simp)
    rw [k, show (x0.any fun _ => false) = false by simp]
    simp only [cond_false, Option.bind_some]
    rw [check_eq _ _ _ (by omega), Option.bind_some, chk_bool]
    by_cases h : chk x0 x1 x2 = 0
    · obtain ⟨d, h1, _, _⟩ := interval_eq (chk_zero.1 h)
      rw [decide_eq_true h, if_pos h, if_pos h, h1]
      simp [rng]
    · rw [decide_eq_false h, if_neg h, if_neg h]
      simp
  · rfl
end Go.Pv
