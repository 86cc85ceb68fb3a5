/- The plain law of EventsDue. -/
import Derived.Test.YtmocoljbdiphoaaDue
set_option linter.unusedSimpArgs false
namespace Go.Pv
open Go

theorem rins_loop {l : List SEvent} {a d : Int} (ha : angB a = true) (hl : ∀ x ∈ l, evP x) (s : List Int × Int) (hin : AllD (InL l) s.1) (hn : s.1.length ≤ 1000000) : ∀ i, i ≤ s.1.length → (∀ j (h : j < s.1.length), i ≤ j → d < key l a s.1[j]) →
    ∃ k, k ≤ i ∧ loopM (magnetoref23_Due_b2 l a s d) (i : Int) = some (.inl (k : Int)) ∧ (∀ j (h : j < s.1.length), k ≤ j → d < key l a s.1[j]) ∧ (∀ (h : k - 1 < s.1.length), 0 < k → ¬ d < key l a s.1[k - 1])
  | 0, _, hj => ⟨0, Nat.le_refl _, loopM_out rfl, hj, fun _ h => by omega⟩
  | i + 1, hi, hj => by
    obtain ⟨x, hx, mx⟩ := inL_get (hin _ (List.getElem_mem (show i < s.1.length by omega)))
    have px := hl x mx
    unfold evP at px
    have hb : magnetoref23_Due_b2 l a s d ((i + 1 : Nat) : Int) = some (bif decide (key l a (s.1[i]'(by omega)) > d) then .inl (i : Int) else .inr (.inl ((i + 1 : Nat) : Int))) := by
      unfold magnetoref23_Due_b2
      rw [show decide (((i + 1 : Nat) : Int) > 0) = true from decide_eq_true (by omega), w64_of (n := ((i + 1 : Nat) : Int) - 1) (by omega) (by omega), show ((i + 1 : Nat) : Int) - 1 = (i : Int) by omega, getI_get s.1 i (by omega)]
      simp only [cond_true, Option.bind_some]
      rw [hx]
      simp only [Option.bind_some]
      rw [rdist_in ha (angB_iff.2 px.1), key_of hx]
      simp only [Option.bind_some]
      cases decide (dst a x.Angle > d) <;> rfl
    by_cases hc : key l a (s.1[i]'(by omega)) > d
    · rw [decide_eq_true hc] at hb
      rw [loopM_next hb]
      obtain ⟨k, h1, h2, h3, h4⟩ := rins_loop ha hl s hin hn i (by omega) (fun j h hij => by
        by_cases e : j = i
        · subst e; exact hc
        · exact hj j h (by omega))
      exact ⟨k, by omega, h2, h3, h4⟩
    · rw [decide_eq_false hc] at hb
      exact ⟨i + 1, Nat.le_refl _, loopM_out hb, hj, fun _ _ => hc⟩

theorem rdue_ok {l : List SEvent} {a b : Int} (ha : angB a = true) (hb : angB b = true) (hbad : badE l = false) : ∃ r, magnetoref23_Due l a b = some r ∧ DueOk l a b r := by
  obtain ⟨hn, hl⟩ := badE_false hbad
  unfold magnetoref23_Due
  obtain ⟨o, h1, r, h2, h3⟩ := loopM_inv (mb := magnetoref23_Due_b1 l a b) (fun i s => s.2 = (i : Int) ∧ Srt (gD l a) s.1 ∧ Sta (InL l) (gD l a) (idxs (inq a (dst a b)) (l.take i) 0) s.1) (fun o => ∃ r, o = .inl (r, (l.length : Int)) ∧ DueOk l a b r) l.length 0 ([], 0) ⟨rfl, .nil, Sta.refl _⟩ (fun i _ hi s hs => by
    obtain ⟨s1, s2⟩ := s
    obtain ⟨e1, e2, e3⟩ := hs
    simp only at e1 e2 e3
    subst e1
    have hi : i < l.length := by omega
    have px := hl _ (List.getElem_mem hi)
    unfold evP at px
    have hin : AllD (InL l) s1 := e3.all (idxs_in (by omega))
    have hlen := e3.len
    have hil := idxs_len (inq a (dst a b)) (l.take i) 0
    rw [List.length_take] at hil
    have hsn : idxs (inq a (dst a b)) (l.take (i + 1)) 0 = idxs (inq a (dst a b)) (l.take i) 0 ++ (bif inq a (dst a b) l[i] then [(i : Int)] else []) := by
      rw [List.take_succ_eq_append_getElem hi, idxs_snoc, List.length_take, Nat.min_eq_left (by omega), Nat.zero_add]
    unfold magnetoref23_Due_b1
    simp only
    rw [show decide ((i : Int) < (l.length : Int)) = true from decide_eq_true (by omega), getI_get _ _ hi, w64_of (n := (i : Int) + 1) (by omega) (by omega)]
    simp only [cond_true, Option.bind_some]
    rw [rdist_in ha (angB_iff.2 px.1), rdist_in ha hb]
    simp only [Option.bind_some]
    cases hq : inq a (dst a b) l[i]
    · have : decide (dst a l[i].Angle ≥ dst a b) = true := decide_eq_true (by have := of_decide_eq_false hq; omega)
      rw [this]
      refine ⟨_, rfl, rfl, e2, ?_⟩
      rw [hsn, hq]
      simpa using e3
    · have hlt := of_decide_eq_true hq
      rw [decide_eq_false (show ¬ (dst a l[i].Angle ≥ dst a b) by omega)]
      simp only [cond_false]
      have hki : key l a (i : Int) = dst a l[i].Angle := key_of (getI_get _ _ hi)
      have hii : InL l (i : Int) := ⟨by omega, by omega⟩
      obtain ⟨k, k1, k2, k3, k4⟩ := rins_loop (d := dst a l[i].Angle) ha hl (s1, (i : Int)) hin (by simp only; omega) s1.length (Nat.le_refl _) (fun j h hij => by simp only at h; omega)
      simp only at k1 k2 k3 k4
      rw [k2]
      simp only [Option.bind_some]
      have q1 : sliceM s1 0 (k : Int) = some (s1.take k) := by
        unfold sliceM
        rw [if_pos ⟨by omega, by omega, by omega⟩]; simp
      have q2 : sliceM s1 (k : Int) (s1.length : Int) = some (s1.drop k) := by
        unfold sliceM
        rw [if_pos ⟨by omega, by omega, by omega⟩]
        simp only [Int.toNat_natCast]
        rw [List.take_of_length_le (by rw [List.length_drop]; omega)]
      rw [q1]
      simp only [Option.bind_some]
      rw [appendM_ok _ _ (by simp only [List.length_nil, List.length_take]; omega)]
      simp only [Option.bind_some]
      rw [appendM_ok _ _ (by simp only [List.nil_append, List.length_take, List.length_singleton]; omega)]
      simp only [Option.bind_some]
      rw [q2]
      simp only [Option.bind_some]
      rw [appendM_ok _ _ (by simp only [List.nil_append, List.length_append, List.length_drop, List.length_take, List.length_singleton]; omega)]
      simp only [Option.bind_some, List.nil_append]
      refine ⟨_, rfl, rfl, ?_, ?_⟩
      · show Srt (gD l a) (s1.take k ++ [(i : Int)] ++ s1.drop k)
        rw [List.append_assoc]
        have hdr : ∀ x ∈ s1.drop k, dst a l[i].Angle < key l a x := fun x hx => by
          obtain ⟨j, hj, rfl⟩ := List.mem_iff_getElem.1 hx
          rw [List.length_drop] at hj
          rw [List.getElem_drop]
          exact k3 _ (by omega) (by omega)
        have htk : ∀ x ∈ s1.take k, key l a x ≤ dst a l[i].Angle := fun x hx => by
          obtain ⟨j, hj, rfl⟩ := List.mem_iff_getElem.1 hx
          rw [List.length_take] at hj
          rw [List.getElem_take]
          have h5 := k4 (by omega) (by omega)
          by_cases e : j = k - 1
          · subst e; omega
          · have h6 := srt_get e2 (i := j) (j := k - 1) (by omega) (by omega) (by omega)
            rw [gD_lt ha hl (hin _ (List.getElem_mem _)) (hin _ (List.getElem_mem _)), decide_eq_false_iff_not] at h6
            omega
        refine Srt.app (List.Pairwise.sublist (List.take_sublist _ _) e2) ?_ fun x hx y hy => ?_
        · rw [List.singleton_append, Srt, List.pairwise_cons]
          refine ⟨fun y hy => ?_, List.Pairwise.sublist (List.drop_sublist _ _) e2⟩
          rw [gD_lt ha hl (hin _ (List.mem_of_mem_drop hy)) hii, decide_eq_false_iff_not, hki]
          have := hdr y hy
          omega
        · have hx2 := htk x hx
          rw [List.singleton_append] at hy
          rcases List.mem_cons.1 hy with rfl | hy
          · rw [gD_lt ha hl hii (hin _ (List.mem_of_mem_take hx)), decide_eq_false_iff_not, hki]; omega
          · rw [gD_lt ha hl (hin _ (List.mem_of_mem_drop hy)) (hin _ (List.mem_of_mem_take hx)), decide_eq_false_iff_not]
            have := hdr y hy
            omega
      · rw [hsn, hq]
        simp only [cond_true]
        have t1 : Sta (InL l) (gD l a) (idxs (inq a (dst a b)) (l.take i) 0 ++ [(i : Int)]) (s1 ++ [(i : Int)]) := Sta.app e3 (Sta.refl _)
        refine Sta.trans t1 ?_
        have t2 : Sta (InL l) (gD l a) (s1.drop k ++ [(i : Int)]) ([(i : Int)] ++ s1.drop k) := Sta.swap (gD_sw ha hl) (fun x hx => hin x (List.mem_of_mem_drop hx)) (fun x hx => by simp at hx; subst hx; exact hii) (fun x hx y hy => by
          simp at hy; subst hy
          rw [gD_lt ha hl hii (hin _ (List.mem_of_mem_drop hx)), decide_eq_true_eq, hki]
          obtain ⟨j, hj, rfl⟩ := List.mem_iff_getElem.1 hx
          rw [List.length_drop] at hj
          rw [List.getElem_drop]
          exact k3 _ (by omega) (by omega))
        have t3 := Sta.app (Sta.refl (D := InL l) (g := gD l a) (s1.take k)) t2
        rw [← List.append_assoc, List.take_append_drop, ← List.append_assoc] at t3
        exact t3) (fun s hs => by
    obtain ⟨s1, s2⟩ := s
    obtain ⟨e1, e2, e3⟩ := hs
    simp only [Nat.zero_add] at e1 e2 e3
    subst e1
    rw [List.take_length] at e3
    unfold magnetoref23_Due_b1
    simp only
    rw [show decide ((l.length : Int) < (l.length : Int)) = false by simp]
    exact ⟨_, rfl, s1, rfl, ⟨e2, e3⟩⟩)
  subst h2
  rw [h1]
  exact ⟨r, rfl, h3⟩

theorem plain_EventsDue (x0 : List SEvent) (x1 : Int) (x2 : Int) (_ : (wfL wf_SEvent) x0) (_ : (fun n => (Lit.int .i64 n).wf = true) x1) (_ : (fun n => (Lit.int .i64 n).wf = true) x2) : magnetolaw23_EventsDue x0 x1 x2 = some true := by
  unfold magnetolaw23_EventsDue
  rw [awake23]
  simp only [Option.bind_some, Bool.not_true, cond_false]
  cases hg : ((decide ((x0.length : Int) > 100)) && (decide ((x0.length : Int) ≤ 1000)))
  · simp only [cond_false]
    unfold magnetoref23_Angle
    have e : ∀ a : Int, (decide (a ≥ 0) && decide (a < 46080)) = angB a := fun _ => rfl
    rw [list_eq, dist_val]
    cases hbad : badE x0
    · obtain ⟨hn, hl⟩ := badE_false hbad
      cases hang : (angB x1 && angB x2)
      · rw [due_range hbad hang]
        simp only [Option.bind_some, cond_false]
        rw [e, e]
        cases h1 : angB x1
        · rfl
        · rw [h1, Bool.true_and] at hang
          rw [hang]; rfl
      · rw [Bool.and_eq_true] at hang
        obtain ⟨r, h1, h2⟩ := due_ok hang.1 hang.2 hbad
        obtain ⟨s, h3, h4⟩ := rdue_ok hang.1 hang.2 hbad
        have hrs := due_uniq hang.1 hl h2 h4
        subst hrs
        have hlen := due_len h2
        rw [h1, h3, rdist_in hang.1 hang.2]
        simp only [Option.bind_some, cond_true]
        rw [e, e, hang.1, hang.2]
        simp only [Bool.not_true, cond_false, Option.bind_some, bne_self_eq_false, beq_self_eq_true, cond_true, Bool.not_false]
        rw [equalI_self _ (by omega)]
        rfl
    · rw [due_bad hbad]
      simp only [Option.bind_some]
      rw [e, e]
      cases h1 : angB x1
      · rfl
      · cases h2 : angB x2
        · rfl
        · rw [rdist_in h1 h2]
          simp
  · rfl
end Go.Pv
