/- The plain law of MonitorPermits. -/
import Derived.Test.YtllofihbdbdaeaaAwake
import Derived.Test.YtllofihbdbdaeaaCorner
set_option linter.unusedSimpArgs false
namespace Go.Pv
open Go

def reqB (r : SRequest) : Bool := ((!(((decide (r.Source < 0)) || (decide (r.Source > 15))) || (decide (r.Priority < 0)) || (decide (r.Priority > 15)))) && ((decide (r.Torque ≥ (-5000))) && (decide (r.Torque ≤ 10000)))) && ((r.Kind == 1) || (decide (r.Source ≤ 1) && ((r.Kind == 2) || (r.Kind == 3))))

theorem req_mon (r : SRequest) : arbiter_Valid r = some (reqB r) := by
  unfold arbiter_Valid arbiter_torque reqB
  generalize decide (r.Source < 0) = a, decide (r.Source > 15) = b, decide (r.Priority < 0) = c, decide (r.Priority > 15) = d, decide (r.Torque ≥ (-5000)) = e, decide (r.Torque ≤ 10000) = f, (r.Kind == 1) = h, decide (r.Source ≤ 1) = i, (r.Kind == 2) = j, (r.Kind == 3) = k
  generalize (((a || b) || c) || d) = A, (j || k) = B
  cases A <;> cases e <;> cases f <;> cases h <;> cases i <;> cases B <;> rfl

theorem req_ref (r : SRequest) : magnetoref36_Valid r = some (reqB r) := by
  have hk : ((decide (r.Kind < 1)) || (decide (r.Kind > 3))) = !((r.Kind == 1) || ((r.Kind == 2) || (r.Kind == 3))) := by
    rw [Bool.eq_iff_iff]; simp; omega
  have h : magnetoref36_Valid r = some (!(((((decide (r.Source < 0)) || (decide (r.Source > 15))) || (decide (r.Priority < 0))) || (decide (r.Priority > 15))) || !((decide (r.Torque ≥ (-5000))) && (decide (r.Torque ≤ 10000))) || ((decide (r.Kind < 1)) || (decide (r.Kind > 3)))) && ((decide (r.Source ≤ 1)) || (r.Kind == 1))) := by
    unfold magnetoref36_Valid magnetoref36_Torque
    generalize decide (r.Source < 0) = a, decide (r.Source > 15) = b, decide (r.Priority < 0) = c, decide (r.Priority > 15) = d, decide (r.Torque ≥ (-5000)) = e, decide (r.Torque ≤ 10000) = f, decide (r.Kind < 1) = j, decide (r.Kind > 3) = k
    generalize (((a || b) || c) || d) = A, ((decide (r.Source ≤ 1)) || (r.Kind == 1)) = B
    cases A <;> cases e <;> cases f <;> cases j <;> cases k <;> cases B <;> rfl
  rw [h, hk]
  unfold reqB
  have h12 : (r.Kind == 1) = true → (r.Kind == 2) = false := by simp; omega
  generalize decide (r.Source < 0) = a, decide (r.Source > 15) = b, decide (r.Priority < 0) = c, decide (r.Priority > 15) = d, decide (r.Torque ≥ (-5000)) = e, decide (r.Torque ≤ 10000) = f, (r.Kind == 1) = h, decide (r.Source ≤ 1) = i, (r.Kind == 2) = j, (r.Kind == 3) = k
  generalize (((a || b) || c) || d) = A, (j || k) = B
  cases A <;> cases e <;> cases f <;> cases h <;> cases i <;> cases B <;> rfl

theorem requests_eq (l : List SRequest) (hl : l.length ≤ 40) : magnetoref39_Requests l = some (l.all reqB) := by
  unfold magnetoref39_Requests
  have k := loopM_allL (mb := magnetoref39_Requests_b1 l) (fun i => (i : Int)) (p := reqB) (b0 := .inl (l.length : Int)) (b1 := .inr false) l (by simp [magnetoref39_Requests_b1]) (fun j y hy => by
    have hj := (List.getElem?_eq_some_iff.1 hy).1
    unfold magnetoref39_Requests_b1
    have e : decide ((j : Int) < (l.length : Int)) = true := by simp; omega
    rw [e, getI_nat, hy]
    simp only [Option.bind_some, cond_true, req_ref, w64_succ j (by omega)]
    cases reqB y <;> rfl)
  rw [show ((0 : Nat) : Int) = 0 from rfl] at k
  rw [k]
  cases l.all reqB <;> rfl

theorem badreq_eq (l : List SRequest) (hl : l.length ≤ 40) : slices_ContainsFunc_sRequest l monitor_Permitted_1 = some (!l.all reqB) := by
  have k := index_any l (by omega) monitor_Permitted_1 (fun r => !reqB r) (fun y _ => by simp [monitor_Permitted_1, req_mon])
  have e2 : (l.any fun z => !reqB z) = !l.all reqB := by rw [List.any_eq_not_all_not]; simp
  rw [e2] at k
  exact k

def permG (s : Int × Int) (y : SRequest) : Int × Int :=
  bif !((y.Kind == 2) || (y.Kind == 3)) then s else (bif y.Source == 1 then maxI s.1 (minI y.Torque 1500) else s.1, maxI s.2 y.Priority)
def permH (p : Int) (s : Int) (y : SRequest) : Int := bif (y.Kind == 1) && decide (y.Priority > p) then minI s y.Torque else s
def refG (s : Int × Int) (y : SRequest) : Int × Int :=
  bif !((y.Kind == 2) || (y.Kind == 3)) then s else (bif y.Source == 1 then maxI s.1 y.Torque else s.1, maxI s.2 y.Priority)

theorem perm1 (l : List SRequest) (hl : l.length ≤ 40) (s : Int × Int) : rangeM l monitor_Permitted_b1 s = some (.inl (l.foldl permG s)) := by
  rw [rangeM_steps _ (by omega)]
  refine stepsL_fold l 0 s fun i s y _ => ?_
  unfold monitor_Permitted_b1 monitor_raises permG
  simp only [Option.bind_some]
  cases ((y.Kind == 2) || (y.Kind == 3)) <;> cases (y.Source == 1) <;> rfl

theorem perm2 (l : List SRequest) (hl : l.length ≤ 40) (q : Int × Int) (s : Int) : rangeM l (monitor_Permitted_b2 q) s = some (.inl (l.foldl (permH q.2) s)) := by
  rw [rangeM_steps _ (by omega)]
  refine stepsL_fold l 0 s fun i s y _ => ?_
  unfold monitor_Permitted_b2 permH
  cases ((y.Kind == 1) && decide (y.Priority > q.2)) <;> rfl

theorem gtmax (a b : Int) : (bif decide (b > a) then b else a) = maxI a b := by
  unfold maxI; by_cases h : b > a <;> simp [h]
theorem ltmin (a b : Int) : (bif decide (b < a) then b else a) = minI a b := by
  unfold minI; by_cases h : b < a <;> simp [h]

theorem ref1 (l : List SRequest) (hl : l.length ≤ 40) (s : Int × Int) : loopM (magnetoref39_Permitted_b1 l) (s.1, s.2, 0) = some (.inl ((l.foldl refG s).1, (l.foldl refG s).2, (l.length : Int))) := by
  have k := loopM_fold (mb := magnetoref39_Permitted_b1 l) (fun i s => (s.1, s.2, (i : Int))) (g := refG) (out := fun s => .inl (s.1, s.2, (l.length : Int))) l s (fun s => by simp [magnetoref39_Permitted_b1]) (fun j s y hy => by
    have hj := (List.getElem?_eq_some_iff.1 hy).1
    unfold magnetoref39_Permitted_b1 magnetoref39_Raises refG
    have e : decide ((j : Int) < (l.length : Int)) = true := by simp; omega
    simp only [e, getI_nat, hy, Option.bind_some, cond_true, w64_succ j (by omega), maxI_gt]
    rw [← gtmax s.1 y.Torque]
    cases ((y.Kind == 2) || (y.Kind == 3)) <;> cases (y.Source == 1) <;> cases decide (y.Torque > s.1) <;> rfl)
  exact k

theorem ref2 (l : List SRequest) (hl : l.length ≤ 40) (q : Int × Int × Int) (s : Int) : loopM (magnetoref39_Permitted_b2 l q) (s, 0) = some (.inl (l.foldl (permH q.2.1) s, (l.length : Int))) := by
  have k := loopM_fold (mb := magnetoref39_Permitted_b2 l q) (fun i s => (s, (i : Int))) (g := permH q.2.1) (out := fun s => .inl (s, (l.length : Int))) l s (fun s => by simp [magnetoref39_Permitted_b2]) (fun j s y hy => by
    have hj := (List.getElem?_eq_some_iff.1 hy).1
    unfold magnetoref39_Permitted_b2 permH
    have e : decide ((j : Int) < (l.length : Int)) = true := by simp; omega
    simp only [e, getI_nat, hy, Option.bind_some, cond_true, w64_succ j (by omega)]
    rw [← ltmin s y.Torque]
    cases (y.Kind == 1) <;> cases decide (y.Priority > q.2.1) <;> cases decide (y.Torque < s) <;> rfl)
  exact k

theorem fold_rel {α β γ : Type} (R : β → γ → Prop) (g : β → α → β) (g' : γ → α → γ) (h : ∀ s s' y, R s s' → R (g s y) (g' s' y)) : ∀ (l : List α) (s : β) (s' : γ), R s s' → R (l.foldl g s) (l.foldl g' s')
  | [], _, _, r => r
  | y :: l, s, s', r => fold_rel R g g' h l _ _ (h s s' y r)

theorem folds1 (l : List SRequest) : (l.foldl permG (-5000, -1)).1 = minI (l.foldl refG (-5000, -1)).1 1500 ∧ (l.foldl permG (-5000, -1)).2 = (l.foldl refG (-5000, -1)).2 := by
  refine fold_rel (fun s s' => s.1 = minI s'.1 1500 ∧ s.2 = s'.2) permG refG ?_ l (-5000, -1) (-5000, -1) ⟨by decide, rfl⟩
  rintro ⟨a, b⟩ ⟨c, d⟩ y ⟨h1, h2⟩
  simp only at h1 h2
  subst h1 h2
  unfold permG refG
  cases ((y.Kind == 2) || (y.Kind == 3)) <;> cases (y.Source == 1) <;> simp only [Bool.not_true, Bool.not_false, cond_true, cond_false, and_self]
  refine ⟨?_, trivial⟩
  unfold minI maxI
  split <;> split <;> split <;> (try split) <;> (try split) <;> omega

theorem folds2 (l : List SRequest) (p most : Int) (h : most ≤ 10000) : l.foldl (permH p) most = minI most (l.foldl (permH p) 10000) := by
  refine (fold_rel (fun s s' => s' = minI most s) (permH p) (permH p) ?_ l 10000 most (by unfold minI; split <;> omega))
  rintro a b y rfl
  unfold permH
  cases ((y.Kind == 1) && decide (y.Priority > p)) <;> simp only [cond_true, cond_false]
  unfold minI
  repeat' split
  all_goals omega

theorem limit_eq (v lo hi : Int) (h : lo ≤ hi) : magnetoref39_limit v lo hi = some (minI (maxI v lo) hi) := by
  unfold magnetoref39_limit minI maxI
  by_cases h1 : v < lo
  · have : ¬ hi < lo := by omega
    simp [h1, this]
  · by_cases h2 : v > hi
    · simp [h1, h2]
    · have : ¬ hi < v := by omega
      simp [h1, h2, this]

theorem ltminS (a b : Int) : (bif decide (a > b) then some b else some a) = some (minI a b) := by
  unfold minI; by_cases h : b < a <;> simp [h]

theorem plain_MonitorPermits (x0 : STables) (x1 : Int) (x2 : Int) (x3 : List SRequest) (_ : wf_STables x0) (_ : (fun n => (Lit.int .i64 n).wf = true) x1) (_ : (fun n => (Lit.int .i64 n).wf = true) x2) (_ : (wfL wf_SRequest) x3) : magnetolaw39_MonitorPermits x0 x1 x2 x3 = some true := by
  unfold magnetolaw39_MonitorPermits
  rw [awake_true]
  simp only [Option.bind_some, Bool.not_true, cond_false]
  cases h40 : decide ((x3.length : Int) > 40)
  · have hl : x3.length ≤ 40 := by simp at h40; omega
    unfold monitor_Permitted magnetoref39_Map
    rw [valid_eq, refValid_eq]
    simp only [Option.bind_some, cond_false]
    rw [badreq_eq x3 hl, requests_eq x3 hl]
    cases hm : mapB x0.Wish
    · rfl
    · simp only [Bool.not_true, cond_false, Option.bind_some]
      cases hq : x3.all reqB
      · rfl
      · simp only [Bool.not_true, cond_false]
        cases h32 : decide ((x3.length : Int) > 32)
        · simp only [cond_false]
          unfold monitor_within magnetoref39_In
          simp only [Option.bind_some, bif_some]
          generalize (bif !(decide (x1 ≥ 0) && decide (x1 ≤ 1000)) then true else !(decide (x2 ≥ 0) && decide (x2 ≤ 12000))) = out
          cases out
          · simp only [cond_false]
            obtain ⟨c, c1, c2⟩ := corner_eq x0.Wish x2 x1 hm
            unfold magnetoref39_Permitted
            rw [c1, c2]
            simp only [Option.bind_some]
            rw [perm1 x3 hl]
            simp only [Option.bind_some]
            rw [perm2 x3 hl]
            simp only [Option.bind_some]
            have r1 := ref1 x3 hl (-5000, -1)
            simp only at r1
            rw [r1]
            simp only [Option.bind_some]
            have f1 := folds1 x3
            generalize x3.foldl permG (-5000, -1) = s at f1 ⊢
            generalize x3.foldl refG (-5000, -1) = q at f1 ⊢
            obtain ⟨a, b⟩ := s
            obtain ⟨i, j⟩ := q
            obtain ⟨f1, f2⟩ := f1
            simp only at f1 f2
            subst f2
            rw [limit_eq c (-5000) 10000 (by decide)]
            simp only [Option.bind_some, ltminS]
            rw [← f1]
            have ha : a ≤ 1500 := by rw [f1]; unfold minI; split <;> omega
            simp only [maxI_gt, Option.bind_some]
            rw [ref2 x3 hl]
            simp only [Option.bind_some]
            have hV : minI (maxI c (-5000)) 10000 ≤ 10000 := by unfold minI; split <;> omega
            generalize minI (maxI c (-5000)) 10000 = V at hV ⊢
            have hM : maxI V a ≤ 10000 := by unfold maxI; split <;> omega
            rw [folds2 x3 b (maxI V a) hM, limit_eq _ 0 10000 (by decide)]
            simp only [Option.bind_some]
            generalize x3.foldl (permH b) 10000 = lim
            generalize maxI V a = M at hM ⊢
            have e : maxI 0 (minI lim M) = minI (maxI (minI M lim) 0) 10000 := by
              unfold minI maxI
              repeat' split
              all_goals omega
            rw [e]
            simp
          · rfl
        · rfl
  · rfl
end Go.Pv
