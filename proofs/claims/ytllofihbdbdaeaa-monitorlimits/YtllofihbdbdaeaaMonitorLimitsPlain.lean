/- The plain law of MonitorLimits. -/
import Derived.Test.YtllofihbdbdaeaaMonitorPermitsPlain
set_option linter.unusedSimpArgs false
namespace Go.Pv
open Go

/-- What is permitted, where all arguments are in order: c is the map's, the same for all requests. -/
theorem permitted_ok (t : STables) (x1 x2 : Int) (hm : mapB t.Wish = true) (ho : (bif !(decide (x1 ≥ 0) && decide (x1 ≤ 1000)) then true else !(decide (x2 ≥ 0) && decide (x2 ≤ 12000))) = false) :
    ∃ c : Int, ∀ l : List SRequest, l.all reqB = true → l.length ≤ 32 →
      monitor_Permitted t x1 x2 l = some (w64 (maxI 0 (minI (l.foldl (permH (l.foldl permG (-5000, -1)).2) 10000) (maxI (minI (maxI c (-5000)) 10000) (l.foldl permG (-5000, -1)).1)) + 100), 0) := by
  obtain ⟨c, c1, c2⟩ := corner_eq t.Wish x2 x1 hm
  refine ⟨c, fun l hq hl => ?_⟩
  unfold monitor_Permitted
  rw [valid_eq]
  simp only [Option.bind_some]
  rw [badreq_eq l (by omega), hm, hq]
  simp only [Bool.not_true, cond_false, Option.bind_some]
  have h32 : decide ((l.length : Int) > 32) = false := by simp; omega
  rw [h32]
  simp only [cond_false]
  unfold monitor_within
  simp only [Option.bind_some, bif_some]
  rw [ho]
  simp only [cond_false, c1, Option.bind_some]
  rw [perm1 l (by omega)]
  simp only [Option.bind_some]
  rw [perm2 l (by omega)]
  rfl

theorem permitted_bad (t : STables) (x1 x2 : Int) (l : List SRequest) (hl : l.length ≤ 32) (h : (mapB t.Wish = true ∧ l.all reqB = true ∧ (bif !(decide (x1 ≥ 0) && decide (x1 ≤ 1000)) then true else !(decide (x2 ≥ 0) && decide (x2 ≤ 12000))) = false) → False) :
    monitor_Permitted t x1 x2 l = some (0, bif mapB t.Wish && l.all reqB then 2 else 1) := by
  unfold monitor_Permitted
  rw [valid_eq]
  simp only [Option.bind_some]
  rw [badreq_eq l (by omega)]
  cases hm : mapB t.Wish
  · rfl
  · simp only [Bool.not_true, cond_false, Option.bind_some]
    cases hq : l.all reqB
    · rfl
    · have h32 : decide ((l.length : Int) > 32) = false := by simp; omega
      simp only [Bool.not_true, cond_false, h32]
      unfold monitor_within
      simp only [Option.bind_some, bif_some]
      cases ho : (bif !(decide (x1 ≥ 0) && decide (x1 ≤ 1000)) then true else !(decide (x2 ≥ 0) && decide (x2 ≤ 12000)))
      · exact (h ⟨hm, hq, ho⟩).elim
      · rfl

theorem permG_prio : ∀ (l : List SRequest) (s : Int × Int), s.2 ≤ 14 → (∀ r ∈ l, r.Priority ≤ 14) → (l.foldl permG s).2 ≤ 14
  | [], s, hs, _ => hs
  | y :: l, s, hs, h => by
    refine permG_prio l _ ?_ (fun r hr => h r (List.mem_cons_of_mem _ hr))
    have hy := h y (List.mem_cons_self ..)
    unfold permG maxI
    cases ((y.Kind == 2) || (y.Kind == 3)) <;> simp only [Bool.not_true, Bool.not_false, cond_true, cond_false]
    · exact hs
    · split <;> omega

theorem plain_MonitorLimits (x0 : STables) (x1 : Int) (x2 : Int) (x3 : List SRequest) (x4 : Int) (_ : wf_STables x0) (_ : (fun n => (Lit.int .i64 n).wf = true) x1) (_ : (fun n => (Lit.int .i64 n).wf = true) x2) (g3 : (wfL wf_SRequest) x3) (_ : (fun n => (Lit.int .i64 n).wf = true) x4) : magnetolaw39_MonitorLimits x0 x1 x2 x3 x4 = some true := by
  unfold magnetolaw39_MonitorLimits
  rw [awake_true]
  simp only [Option.bind_some, Bool.not_true, cond_false]
  cases h0 : (((decide ((x3.length : Int) > 31)) || (decide (x4 < (-5000)))) || (decide (x4 > 10000)))
  · simp only [cond_false]
    simp only [Bool.or_eq_false_iff, decide_eq_false_iff_not] at h0
    obtain ⟨⟨h31, hlo⟩, hhi⟩ := h0
    have hl : x3.length ≤ 31 := by omega
    have hc : slices_ContainsFunc_sRequest x3 magnetolaw39_MonitorLimits_1 = some (x3.any fun r => decide (r.Priority > 14)) := index_any x3 (by omega) magnetolaw39_MonitorLimits_1 _ (fun y _ => rfl)
    rw [hc]
    simp only [Option.bind_some]
    cases h14 : x3.any fun r => decide (r.Priority > 14)
    · simp only [cond_false]
      have hp : ∀ r ∈ x3, r.Priority ≤ 14 := fun r hr => by
        have := List.any_eq_false.1 h14 r hr
        simp at this; omega
      have ha : slices_Clone_sRequest x3 = some x3 := by
        unfold slices_Clone_sRequest appendM
        simp; omega
      have hb : appendM x3 [(⟨9, 1, x4, 15⟩ : SRequest)] = some (x3 ++ [⟨9, 1, x4, 15⟩]) := by
        unfold appendM; simp; omega
      have hr : reqB (⟨9, 1, x4, 15⟩ : SRequest) = true := by unfold reqB; simp; omega
      have hq2 : (x3 ++ [(⟨9, 1, x4, 15⟩ : SRequest)]).all reqB = x3.all reqB := by simp [hr]
      rw [ha]
      simp only [Option.bind_some, hb]
      by_cases hgood : mapB x0.Wish = true ∧ x3.all reqB = true ∧ (bif !(decide (x1 ≥ 0) && decide (x1 ≤ 1000)) then true else !(decide (x2 ≥ 0) && decide (x2 ≤ 12000))) = false
      · obtain ⟨c, hc⟩ := permitted_ok x0 x1 x2 hgood.1 hgood.2.2
        rw [hc x3 hgood.2.1 (by omega), hc _ (hq2.trans hgood.2.1) (by simp; omega)]
        simp only [Option.bind_some, List.foldl_append, List.foldl_cons, List.foldl_nil]
        have hG : permG (x3.foldl permG (-5000, -1)) ⟨9, 1, x4, 15⟩ = x3.foldl permG (-5000, -1) := rfl
        rw [hG]
        have hpr := permG_prio x3 (-5000, -1) (by decide) hp
        generalize x3.foldl permG (-5000, -1) = s at hpr ⊢
        have hH : ∀ z : Int, permH s.2 z ⟨9, 1, x4, 15⟩ = minI z x4 := fun z => by
          unfold permH
          have : decide ((15 : Int) > s.2) = true := by simp; omega
          rw [this]; rfl
        rw [hH]
        have hlim : x3.foldl (permH s.2) 10000 ≤ 10000 := by
          have := folds2 x3 s.2 10000 (by omega)
          rw [this]; unfold minI; split <;> omega
        generalize x3.foldl (permH s.2) 10000 = L at hlim ⊢
        have hA : maxI (minI (maxI c (-5000)) 10000) s.1 ≥ -5000 := by unfold maxI minI; repeat' split <;> omega
        generalize maxI (minI (maxI c (-5000)) 10000) s.1 = A at hA ⊢
        have k1 : 0 ≤ maxI 0 (minI L A) ∧ maxI 0 (minI L A) ≤ 10000 := by unfold maxI minI; repeat' split <;> omega
        have k2 : 0 ≤ maxI 0 (minI (minI L x4) A) ∧ maxI 0 (minI (minI L x4) A) ≤ 10000 := by unfold maxI minI; repeat' split <;> omega
        have k3 : 0 ≤ maxI x4 0 ∧ maxI x4 0 ≤ 10000 := by unfold maxI; split <;> omega
        rw [w64_of (n := maxI 0 (minI L A) + 100) (by omega) (by omega), w64_of (n := maxI 0 (minI (minI L x4) A) + 100) (by omega) (by omega), w64_of (n := maxI x4 0 + 100) (by omega) (by omega)]
        have e1 : maxI 0 (minI (minI L x4) A) + 100 ≤ maxI 0 (minI L A) + 100 := by unfold maxI minI; repeat' split <;> omega
        have e2 : maxI 0 (minI (minI L x4) A) + 100 ≤ maxI x4 0 + 100 := by unfold maxI minI; repeat' split <;> omega
        have e3 : maxI 0 (minI (minI L x4) A) + 100 ≥ minI (maxI 0 (minI L A) + 100) (maxI x4 0 + 100) := by unfold maxI minI; repeat' split <;> omega
        simp [e1, e2, e3]
      · rw [permitted_bad x0 x1 x2 x3 (by omega) hgood, permitted_bad x0 x1 x2 _ (by simp; omega) (by rw [hq2]; exact hgood), hq2]
        cases (mapB x0.Wish && x3.all reqB) <;> rfl
    · rfl
  · rfl
end Go.Pv
