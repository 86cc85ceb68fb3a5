/- The plain law of ArbiterObeys. -/
import Derived.Test.YtoiamgpgodcioaaRef
set_option linter.unusedSimpArgs false
namespace Go.Pv
open Go
/-- f is the first of the greatest priority in L. -/
def Top (L : List SRequest) (f : SRequest) : Prop := (∀ x ∈ L, x.Priority ≤ f.Priority) ∧ ∃ t, L.filter (fun r => r.Priority == f.Priority) = f :: t
theorem top_snoc {L : List SRequest} {f x : SRequest} (h : Top L f) : Top (L ++ [x]) (bif decide (x.Priority > f.Priority) then x else f) := by
  obtain ⟨h1, t, h2⟩ := h
  cases hc : decide (x.Priority > f.Priority)
  · have hc := of_decide_eq_false hc
    refine ⟨fun y hy => ?_, ?_⟩
    · rcases List.mem_append.1 hy with hy | hy
      · exact h1 y hy
      · simp at hy; subst hy; simp only [cond_false]; omega
    · simp only [cond_false]
      rw [List.filter_append, h2]
      exact ⟨_, rfl⟩
  · have hc := of_decide_eq_true hc
    refine ⟨fun y hy => ?_, ?_⟩
    · simp only [cond_true]
      rcases List.mem_append.1 hy with hy | hy
      · have := h1 y hy; omega
      · simp at hy; subst hy; omega
    · simp only [cond_true]
      have : L.filter (fun r => r.Priority == x.Priority) = [] := by
        rw [List.filter_eq_nil_iff]
        intro y hy h
        have := h1 y hy
        simp at h
        omega
      rw [List.filter_append, this]
      exact ⟨[], by simp⟩
theorem top_head {l : List SRequest} (h : AllD DR l) {f : SRequest} (ht : Top l f) (hf : DR f) : ∃ q, ordL l = f :: q := by
  obtain ⟨h1, t, h2⟩ := ht
  have hfl : f ∈ l := (List.mem_filter.1 (by rw [h2]; exact List.mem_cons_self ..) : f ∈ l ∧ _).1
  have hm := (mem_ordL h).2 hfl
  have hs := ordK_srt h 16
  have hfil := ordK_filter l f.Priority 16
  unfold DR at hf
  rw [if_pos (by omega), h2] at hfil
  cases hq : ordL l with
  | nil => rw [show ordL l = ordK l 16 from rfl] at hq; rw [hq] at hfil; simp at hfil
  | cons y q =>
    rw [show ordL l = ordK l 16 from rfl] at hq
    rw [hq] at hs hfil
    have hy : y ∈ l := (mem_ordL h).1 (by rw [show ordL l = ordK l 16 from rfl, hq]; exact List.mem_cons_self ..)
    have hyp : y.Priority = f.Priority := by
      have a1 := h1 y hy
      have hm' : f ∈ y :: q := by rw [← hq]; exact hm
      rcases List.mem_cons.1 hm' with e | hm'
      · rw [e]
      · have a2 := (List.pairwise_cons.1 hs).1 f hm'
        rw [lt_dec (h f hfl) (h y hy), decide_eq_false_iff_not] at a2
        omega
    rw [List.filter_cons_of_pos (by simpa using hyp)] at hfil
    rw [(List.cons.inj hfil).1]
    exact ⟨q, rfl⟩
theorem plain_ArbiterObeys (x0 : List SRequest) (x1 : Int) (x2 : Int) (_ : (wfL wf_SRequest) x0) (_ : (fun n => (Lit.int .i64 n).wf = true) x1) (_ : (fun n => (Lit.int .i64 n).wf = true) x2) : magnetolaw36_ArbiterObeys x0 x1 x2 = some true := by
  unfold magnetolaw36_ArbiterObeys
  rw [awake36]
  simp only [Option.bind_some, Bool.not_true, Bool.false_or]
  cases h32 : decide ((x0.length : Int) > 32)
  · have hl : x0.length ≤ 32 := by have := of_decide_eq_false h32; omega
    simp only [cond_false]
    rw [check_eq _ _ _ (by omega)]
    simp only [Option.bind_some]
    rw [chk_bool]
    by_cases h : chk x0 x1 x2 = 0
    · have hf := chk_zero.1 h
      rw [decide_eq_true h, Bounds_eq _ _ _ (by omega), Decide_eq _ _ _ (by omega), if_pos h, if_pos h]
      have hr := fin_range (l := x0) hf.ord
      simp only [Bool.not_true, cond_false, Option.bind_some, bne_self_eq_false, Bool.or_self, Bool.false_or]
      rw [show decide ((fin x0 x1 x2).low > (fin x0 x1 x2).high) = false from decide_eq_false (by omega), show decide ((fin x0 x1 x2).low < x1) = false from decide_eq_false (by omega), show decide ((fin x0 x1 x2).high > x2) = false from decide_eq_false (by omega)]
      simp only [Bool.or_self, cond_false]
      cases x0 with
      | nil =>
        have : fin [] x1 x2 = ⟨x1, x2, -1⟩ := rfl
        rw [this]
        simp
      | cons y l =>
        rw [show (((y :: l).length : Int) == 0) = false by simp; omega]
        simp only [cond_false]
        rw [show getI (y :: l) 0 = some y from rfl]
        simp only [Option.bind_some]
        obtain ⟨s, k1, k2⟩ := rangeM_inv (R := Empty) (y :: l) (by omega) magnetolaw36_ArbiterObeys_b1 (fun i f => (i = 0 → f = y) ∧ (0 < i → Top ((y :: l).take i) f)) y ⟨fun _ => rfl, fun h => by omega⟩ (fun j hj s hs => by
          refine ⟨bif decide ((y :: l)[j].Priority > s.Priority) then (y :: l)[j] else s, ?_, fun h => by omega, fun _ => ?_⟩
          · unfold magnetolaw36_ArbiterObeys_b1
            cases decide ((y :: l)[j].Priority > s.Priority) <;> rfl
          · by_cases h0 : j = 0
            · subst h0
              have := hs.1 rfl
              subst this
              have e : (bif decide ((s :: l)[0].Priority > s.Priority) then (s :: l)[0] else s) = s := by
                cases decide ((s :: l)[0].Priority > s.Priority) <;> rfl
              rw [e]
              refine ⟨fun x hx => ?_, [], ?_⟩
              · simp at hx; subst hx; exact Int.le_refl _
              · simp
            · rw [List.take_succ_eq_append_getElem hj]
              exact top_snoc (hs.2 (by omega)))
        rw [k1]
        simp only [Option.bind_some]
        have ht := k2.2 (by simp)
        rw [List.take_length] at ht
        obtain ⟨t, hfl⟩ := ht.2
        have hmem : s ∈ y :: l := (List.mem_filter.1 (by rw [hfl]; exact List.mem_cons_self ..) : s ∈ y :: l ∧ _).1
        obtain ⟨q, hq⟩ := top_head hf.dr ht (hf.dr s hmem)
        have hk := hf.kinds s hmem
        have hfin : fin (y :: l) x1 x2 = q.foldl stp (stp (s0 x1 x2) s) := by unfold fin; rw [hq]; rfl
        have h1 := stp_range (r := s) (s := s0 x1 x2) hf.ord
        have h2 := fold_range q (stp (s0 x1 x2) s) h1.2.1
        rw [← hfin] at h2
        have hins : ins (s0 x1 x2) s = maxI x1 (minI x2 s.Torque) := rfl
        rw [← hins]
        have hkind : ((s.Kind == 2) || decide ((fin (y :: l) x1 x2).high ≤ ins (s0 x1 x2) s)) = true := by
          by_cases e : s.Kind = 2
          · rw [e]; rfl
          · have : (stp (s0 x1 x2) s).high = ins (s0 x1 x2) s := by unfold stp nhi; simp only; rw [if_neg e]
            rw [decide_eq_true (show (fin (y :: l) x1 x2).high ≤ ins (s0 x1 x2) s by omega)]; simp
        have hkind2 : ((s.Kind == 1) || decide ((fin (y :: l) x1 x2).low ≥ ins (s0 x1 x2) s)) = true := by
          by_cases e : s.Kind = 1
          · rw [e]; rfl
          · have : (stp (s0 x1 x2) s).low = ins (s0 x1 x2) s := by unfold stp nlo; simp only; rw [if_neg e]
            rw [decide_eq_true (show (fin (y :: l) x1 x2).low ≥ ins (s0 x1 x2) s by omega)]; simp
        rw [hkind, hkind2]
        rfl
    · rw [decide_eq_false h]; rfl
  · rfl
end Go.Pv
