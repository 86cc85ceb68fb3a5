/- The plain law of ArbiterSteps. -/
import Derived.Test.YtoiamgpgodcioaaRef
set_option linter.unusedSimpArgs false
namespace Go.Pv
open Go
theorem plain_ArbiterSteps (x0 : SGrant) (x1 : List SRequest) (x2 : Int) (x3 : Int) (x4 : Int) (x5 : Int) (_ : wf_SGrant x0) (_ : (wfL wf_SRequest) x1) (_ : (fun n => (Lit.int .i64 n).wf = true) x2) (_ : (fun n => (Lit.int .i64 n).wf = true) x3) (_ : (fun n => (Lit.int .i64 n).wf = true) x4) (_ : (fun n => (Lit.int .i64 n).wf = true) x5) : magnetolaw36_ArbiterSteps x0 x1 x2 x3 x4 x5 = some true := by
  unfold magnetolaw36_ArbiterSteps
  rw [awake36]
  simp only [Option.bind_some, Bool.not_true, Bool.false_or]
  cases h100 : decide ((x1.length : Int) > 100)
  · have hl : x1.length ≤ 100 := by have := of_decide_eq_false h100; omega
    simp only [cond_false]
    unfold arbiter_Step arbiter_torque magnetoref36_Torque
    simp only [Option.bind_some]
    cases hg : ((!((decide (x0.Torque ≥ (-5000))) && (decide (x0.Torque ≤ 10000)))) || (decide (x0.Source < (-1)))) || (decide (x0.Source > 15))
    · simp only [cond_false]
      rw [given_eq _ _ _ (by omega), check_eq _ _ _ (by omega)]
      simp only [Option.bind_some]
      rw [chk_bool]
      by_cases h : chk x1 x2 x3 = 0
      · have hf := chk_zero.1 h
        rw [decide_eq_true h]
        simp only [Bool.not_true, cond_false]
        cases hr : ((((decide (x4 < 0)) || (decide (x4 > 20000))) || (decide (x5 < 0))) || (decide (x5 > 20000)))
        · simp only [cond_false]
          rw [decide_eq hf, Decide_eq _ _ _ (by omega), Bounds_eq _ _ _ (by omega), if_pos h, if_pos h]
          simp only [Option.bind_some, bne_self_eq_false, Bool.or_self, cond_false, beq_self_eq_true, Bool.and_true, Bool.true_and]
          have hr := fin_range (l := x1) hf.ord
          generalize maxI (fin x1 x2 x3).low (w64 (x0.Torque - x5)) = a
          generalize w64 (x0.Torque + x4) = b
          have h1 : maxI (minI (minI a b) (fin x1 x2 x3).high) x2 ≤ (fin x1 x2 x3).high ∧ maxI (minI (minI a b) (fin x1 x2 x3).high) x2 ≥ x2 := by
            generalize minI a b = c
            unfold maxI minI; repeat' split
            all_goals omega
          rw [decide_eq_true h1.1, decide_eq_true h1.2]
          rfl
        · rfl
      · rw [decide_eq_false h]
        simp
    · rfl
  · rfl
end Go.Pv
