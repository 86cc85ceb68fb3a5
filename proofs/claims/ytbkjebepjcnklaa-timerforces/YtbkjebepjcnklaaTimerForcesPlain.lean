/- The plain law of TimerForces. -/
import Derived.Test.YtbkjebepjcnklaaBase
set_option linter.unusedSimpArgs false
namespace Go.Pv
open Go

theorem plain_TimerForces (x0 : STimer) (x1 : Int) (x2 : Bool) (_ : wf_STimer x0) (_ : (fun n => (Lit.int .i64 n).wf = true) x1) (_ : (fun _ => True) x2) : magnetolaw24_TimerForces x0 x1 x2 = some true := by
  unfold magnetolaw24_TimerForces
  rw [awake24]
  simp only [Option.bind_some, Bool.not_true, Bool.false_or]
  cases h100 : decide ((x0.Channels.length : Int) > 100)
  · simp only [cond_false]
    rw [first_eq]
    cases hv : timB x0
    · rw [force_bad x0 x1 x2 1 (by rw [hv]; rfl) rfl]
      rfl
    · have hl := timB_len hv
      cases hb : badC x0 x1
      · obtain ⟨j, rfl, hj⟩ := badC_nat hb
        rw [force_eq x0 _ x2 j rfl hj hv]
        simp only [Option.bind_some, Bool.not_true, cond_false, bne_self_eq_false]
        rw [copy_eq _ (by omega)]
        simp only [Option.bind_some, getI_get _ _ hj, setM_nat _ _ _ hj]
        rw [same_self _ (by simp; omega)]
        simp only [Option.bind_some, Bool.not_true, Bool.or_self, cond_false]
        cases hq : (x0.Channels[j].Level == x2)
        · have hq' : (x2 == x0.Channels[j].Level) = false := by
            rw [beq_eq_false_iff_ne] at hq ⊢; exact Ne.symm hq
          rw [hq']
          simp only [cond_false]
          rw [equal_self _ (by simp)]
          rfl
        · have hq' : (x2 == x0.Channels[j].Level) = true := by
            rw [beq_iff_eq] at hq ⊢; exact hq.symm
          rw [hq']
          rfl
      · rw [force_bad x0 x1 x2 2 (by rw [hv, hb]; rfl) rfl]
        rfl
  · rfl
end Go.Pv
