/- The plain law of TimerArms. -/
import Derived.Test.YtbkjebepjcnklaaBase
set_option linter.unusedSimpArgs false
namespace Go.Pv
open Go

theorem new_bad (n : Int) (h : ((decide (n < 1)) || (decide (n > 16))) = true) : timer_New n = some (tz, 2) := by
  unfold timer_New; rw [h]; rfl

theorem plain_TimerArms (x0 : STimer) (x1 : Int) (x2 : Int) (x3 : Int) (x4 : Bool) (_ : wf_STimer x0) (_ : (fun n => (Lit.int .i64 n).wf = true) x1) (_ : (fun n => (Lit.int .i64 n).wf = true) x2) (_ : (fun n => (Lit.int .i64 n).wf = true) x3) (_ : (fun _ => True) x4) : magnetolaw24_TimerArms x0 x1 x2 x3 x4 = some true := by
  unfold magnetolaw24_TimerArms
  rw [awake24]
  simp only [Option.bind_some, Bool.not_true, Bool.false_or]
  cases h100 : decide ((x0.Channels.length : Int) > 100)
  · simp only [cond_false]
    -- New
    have hnew : ∃ r2 : STimer × Int, timer_New x1 = some r2 ∧ (bif ((decide (x1 < 1)) || (decide (x1 > 16))) then (Option.bind (magnetolaw24_none r2.1) fun v3 => bif ((!v3) || (r2.2 != 2)) then (some (Sum.inr false)) else (some (Sum.inl ()))) else (Option.bind (Option.bind (makeM x1 (⟨false, 0, false, false⟩ : SChannel)) fun l => Option.bind (magnetoref24_Same r2.1 (⟨0, l⟩ : STimer)) fun v4 => some ((!v4) || (r2.2 != 0))) fun (v5 : Bool) => bif v5 then (some (Sum.inr false)) else (some (Sum.inl ())))) = (some (Sum.inl ()) : Option (Unit ⊕ Bool)) := by
      cases hb : ((decide (x1 < 1)) || (decide (x1 > 16)))
      · have hb0 := hb
        simp only [Bool.or_eq_false_iff, decide_eq_false_iff_not] at hb
        obtain ⟨n, rfl⟩ : ∃ n : Nat, x1 = (n : Int) := ⟨x1.toNat, by omega⟩
        refine ⟨_, new_eq n (by omega) (by omega), ?_⟩
        simp only [cond_false]
        rw [makeM_nat _ (by omega)]
        simp only [Option.bind_some]
        rw [same_self _ (by simp; omega)]
        rfl
      · exact ⟨_, new_bad x1 hb, rfl⟩
    obtain ⟨r2, hn1, hn2⟩ := hnew
    rw [hn1]
    simp only [Option.bind_some]
    rw [hn2]
    simp only [Option.bind_some]
    rw [tvalid, rvalid, first_eq]
    cases hv : timB x0
    · rw [arm_bad x0 x2 x3 x4 1 (by rw [hv]; rfl) rfl, disarm_bad x0 x2 1 (by rw [hv]; rfl) rfl]
      rfl
    · have hl := timB_len hv
      cases hb : badC x0 x2
      · obtain ⟨j, rfl, hj⟩ := badC_nat hb
        rw [arm_eq x0 _ x3 x4 j rfl hj hv, disarm_eq x0 _ j rfl hj hv]
        simp only [Option.bind_some, Bool.not_true, cond_false, bne_self_eq_false, beq_self_eq_true]
        rw [copy_eq _ (by omega)]
        simp only [Option.bind_some, getI_get _ _ hj, setM_nat _ _ _ hj]
        rw [same_self _ (by simp; omega)]
        simp only [Option.bind_some, Bool.not_true, Bool.or_self, cond_false]
        cases h1 : decide (x3 ≤ x0.Now)
        · simp only [cond_false]
          unfold MAXT
          cases h2 : decide (x3 > 1099511627776)
          · simp only [cond_false]
            have hs : ∀ (l : List SChannel) (y : SChannel), j < l.length → setM l (j : Int) y = some (l.set j y) := fun l y h => setM_nat l j y h
            rw [hs _ _ (by simpa using hj)]
            simp only [Option.bind_some]
            rw [hs _ _ (by simpa using hj)]
            simp only [Option.bind_some]
            rw [hs _ _ (by simpa using hj)]
            simp only [Option.bind_some, List.set_set]
            rw [same_self _ (by simp; omega)]
            rfl
          · rfl
        · rfl
      · rw [arm_bad x0 x2 x3 x4 2 (by rw [hv, hb]; rfl) rfl, disarm_bad x0 x2 2 (by rw [hv, hb]; rfl) rfl]
        rfl
  · rfl
end Go.Pv
