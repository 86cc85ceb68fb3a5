/- The reference's interval. Plain Lean. -/
import Derived.Test.YtoiamgpgodcioaaBase
set_option linter.unusedSimpArgs false
namespace Go.Pv
open Go

/-- The marks behind a priority. -/
def mrk (p : Int) : Sarbiter_span → List SRequest → List Bool → List Bool
  | s, r :: l, b :: d => bif r.Priority == p then chg s r :: mrk p (stp s r) l d else b :: mrk p s l d
  | _, _, _ => []
/-- The sources of what is marked. -/
def pck : List SRequest → List Bool → List Int
  | r :: l, b :: d => (bif b then [r.Source] else []) ++ pck l d
  | _, _ => []

theorem mrk_len (p : Int) : ∀ (l : List SRequest) (d : List Bool) (s : Sarbiter_span), d.length = l.length → (mrk p s l d).length = l.length
  | [], [], _, _ => rfl
  | [], b :: d, _, h => by simp at h
  | r :: l, [], _, h => by simp at h
  | r :: l, b :: d, s, h => by
    simp only [List.length_cons, Nat.add_right_cancel_iff] at h
    unfold mrk
    cases r.Priority == p
    · simp only [cond_false, List.length_cons, mrk_len p l d s h]
    · simp only [cond_true, List.length_cons, mrk_len p l d _ h]

theorem mrk_pck (p : Int) : ∀ (l : List SRequest) (d : List Bool) (s : Sarbiter_span), d.length = l.length → (∀ (j : Nat) (r : SRequest), l[j]? = some r → r.Priority = p → d[j]? = some false) → (pck l (mrk p s l d)).Perm (pck l d ++ dec s (l.filter fun r => r.Priority == p))
  | [], [], _, _, _ => .refl _
  | [], b :: d, _, h, _ => by simp at h
  | r :: l, [], _, h, _ => by simp at h
  | r :: l, b :: d, s, h, hf => by
    simp only [List.length_cons, Nat.add_right_cancel_iff] at h
    have hf' : ∀ (j : Nat) (x : SRequest), l[j]? = some x → x.Priority = p → d[j]? = some false := fun j x hx hp => by
      have := hf (j + 1) x (by simpa using hx) hp
      simpa using this
    unfold mrk
    rw [List.filter_cons]
    cases hr : r.Priority == p
    · simp only [cond_false, pck, Bool.false_eq_true, if_false, List.append_assoc]
      exact List.Perm.append_left _ (mrk_pck p l d s h hf')
    · have hb : b = false := by
        have := hf 0 r (by simp) (by simpa using hr)
        simpa using this
      subst hb
      simp only [cond_true, pck, cond_false, if_true, dec, List.nil_append]
      have ih := mrk_pck p l d (stp s r) h hf'
      refine (List.Perm.append_left _ ih).trans ?_
      rw [← List.append_assoc, ← List.append_assoc]
      exact List.Perm.append_right _ List.perm_append_comm

theorem mrk_get (p : Int) : ∀ (l : List SRequest) (d : List Bool) (s : Sarbiter_span) (j : Nat) (r : SRequest), d.length = l.length → l[j]? = some r → r.Priority ≠ p → (mrk p s l d)[j]? = d[j]?
  | [], _, _, j, r, _, h, _ => by simp at h
  | r0 :: l, [], _, _, _, h, _, _ => by simp at h
  | r0 :: l, b :: d, s, j, r, h, hj, hp => by
    simp only [List.length_cons, Nat.add_right_cancel_iff] at h
    unfold mrk
    match j, hj with
    | 0, hj =>
      simp at hj
      subst hj
      rw [show (r0.Priority == p) = false by simpa using hp]
      rfl
    | j + 1, hj =>
      simp at hj
      cases r0.Priority == p
      · simpa using mrk_get p l d s j r h hj hp
      · simpa using mrk_get p l d (stp s r0) j r h hj hp

def rng (s : Sarbiter_span) : SRange := ⟨s.low, s.high⟩

theorem inner_eq (l : List SRequest) (p : Int) (st : Int × Int × SRange × List Bool) (hst : st.2.1 = p) (hl : l.length ≤ 1000) (hk : ∀ r ∈ l, r.Kind = 1 ∨ r.Kind = 2 ∨ r.Kind = 3) : ∀ (rest : List SRequest) (i : Nat) (s : Sarbiter_span) (A d : List Bool), l.drop i = rest → i + rest.length = l.length → A.length = i → d.length = rest.length →
    loopM (magnetoref36_Interval_b2 l st) (s.source, (i : Int), rng s, A ++ d) = some (.inl (((rest.filter fun r => r.Priority == p).foldl stp s).source, (l.length : Int), rng ((rest.filter fun r => r.Priority == p).foldl stp s), A ++ mrk p s rest d))
  | [], i, s, A, d, hd, hi, hA, hdl => by
    have : d = [] := List.length_eq_zero_iff.1 hdl
    subst this
    simp only [List.length_nil, Nat.add_zero] at hi
    have hb : magnetoref36_Interval_b2 l st (s.source, (i : Int), rng s, A ++ []) = some (.inr (.inl (s.source, (i : Int), rng s, A ++ []))) := by
      unfold magnetoref36_Interval_b2
      simp only
      rw [show decide ((i : Int) < (l.length : Int)) = false from decide_eq_false (by omega)]; rfl
    rw [loopM_out hb, hi]
    rfl
  | y :: rest, i, s, A, [], hd, hi, hA, hdl => by simp at hdl
  | y :: rest, i, s, A, b :: d, hd, hi, hA, hdl => by
    simp only [List.length_cons, Nat.add_right_cancel_iff] at hdl
    simp only [List.length_cons] at hi
    have hy : l[i]? = some y := by rw [← List.head?_drop, hd]; rfl
    have hky := hk y (List.mem_of_getElem? hy)
    have hrest : l.drop (i + 1) = rest := by rw [← List.drop_drop, hd]; rfl
    rw [List.filter_cons]
    cases hp : y.Priority == p
    · have hb : magnetoref36_Interval_b2 l st (s.source, (i : Int), rng s, A ++ b :: d) = some (.inl (s.source, ((i + 1 : Nat) : Int), rng s, (A ++ [b]) ++ d)) := by
        unfold magnetoref36_Interval_b2
        simp only
        rw [show decide ((i : Int) < (l.length : Int)) = true from decide_eq_true (by omega), getI_nat, hy, hst, w64_of (n := (i : Int) + 1) (by omega) (by omega)]
        simp only [cond_true, Option.bind_some]
        have : (y.Priority != p) = true := by unfold bne; rw [hp]; rfl
        rw [this]
        simp
      rw [loopM_next hb, inner_eq l p st hst hl hk rest (i + 1) s (A ++ [b]) d hrest (by omega) (by simp [hA]) hdl]
      simp [mrk, hp]
    · have hb : magnetoref36_Interval_b2 l st (s.source, (i : Int), rng s, A ++ b :: d) = some (.inl ((stp s y).source, ((i + 1 : Nat) : Int), rng (stp s y), (A ++ [chg s y]) ++ d)) := by
        unfold magnetoref36_Interval_b2
        simp only
        rw [show decide ((i : Int) < (l.length : Int)) = true from decide_eq_true (by omega), getI_nat l, hy, hst, w64_of (n := (i : Int) + 1) (by omega) (by omega)]
        simp only [cond_true, Option.bind_some]
        have : (y.Priority != p) = false := by unfold bne; rw [hp]; rfl
        rw [this]
        simp only [cond_false]
        rw [show rng s = ⟨s.low, s.high⟩ from rfl, rnarrow_eq s y hky]
        simp only [Option.bind_some]
        have hs : (bif (nlo s y != s.low) then (some y.Source) else (some s.source)) = some (stp s y).source := by
          unfold stp
          by_cases h1 : nlo s y = s.low
          · rw [show (nlo s y != s.low) = false by simpa using h1, if_pos h1]; rfl
          · rw [show (nlo s y != s.low) = true by simpa using h1, if_neg h1]; rfl
        rw [hs]
        simp only [Option.bind_some]
        rw [getI_mid A b d (by omega)]
        simp only [Option.bind_some]
        rw [setM_mid A b _ d (by omega)]
        simp only [Option.bind_some]
        have hc : (!((nlo s y == s.low) && ((nhi s y == s.high) && true))) = chg s y := by
          unfold chg; rw [Bool.and_true]; rfl
        rw [hc]
        simp [rng, stp]
      rw [loopM_next hb, inner_eq l p st hst hl hk rest (i + 1) (stp s y) (A ++ [chg s y]) d hrest (by omega) (by simp [hA]) hdl]
      simp [mrk, hp]

theorem interval_eq {l : List SRequest} {low high : Int} (h : Fine l low high) : ∃ d : List Bool, magnetoref36_Interval l low high = some (rng (fin l low high), (fin l low high).source, d) ∧ d.length = l.length ∧ (pck l d).Perm (dec (s0 low high) (ordL l)) := by
  unfold magnetoref36_Interval
  have hl := h.len
  rw [makeM_nat _ (by omega)]
  simp only [Option.bind_some]
  obtain ⟨b, h1, d, h2, h3, h4⟩ := loopM_inv (mb := magnetoref36_Interval_b1 l) (fun k st => ∃ (s : Sarbiter_span) (d : List Bool), st = (s.source, 15 - (k : Int), rng s, d) ∧ s = (ordK l k).foldl stp (s0 low high) ∧ d.length = l.length ∧ (∀ (j : Nat) (r : SRequest), l[j]? = some r → r.Priority ≤ 15 - (k : Int) → d[j]? = some false) ∧ (pck l d).Perm (dec (s0 low high) (ordK l k)))
    (fun b => ∃ d : List Bool, b = .inl ((fin l low high).source, (-1 : Int), rng (fin l low high), d) ∧ d.length = l.length ∧ (pck l d).Perm (dec (s0 low high) (ordL l))) 16 0 (-1, 15, ⟨low, high⟩, List.replicate l.length false) ⟨s0 low high, List.replicate l.length false, rfl, rfl, by simp, fun j r hj _ => by
      have := (List.getElem?_eq_some_iff.1 hj).1
      rw [List.getElem?_replicate, if_pos this], by
      have : ∀ m : List SRequest, pck m (List.replicate m.length false) = [] := by
        intro m
        induction m with
        | nil => rfl
        | cons r m ih => simp only [List.length_cons, List.replicate_succ, pck, cond_false, List.nil_append, ih]
      rw [this]
      exact .refl _⟩ (fun k _ hk st hst => by
      obtain ⟨s, d, rfl, hs, hd, hf, hp⟩ := hst
      have hin := inner_eq l (15 - (k : Int)) (s.source, 15 - (k : Int), rng s, d) rfl (by omega) h.kinds l 0 s [] d (by simp) (by simp) rfl hd
      simp only [List.nil_append] at hin
      refine ⟨((((l.filter fun r => r.Priority == 15 - (k : Int)).foldl stp s).source), 15 - ((k + 1 : Nat) : Int), rng ((l.filter fun r => r.Priority == 15 - (k : Int)).foldl stp s), mrk (15 - (k : Int)) s l d), ?_, _, _, rfl, ?_, ?_, ?_, ?_⟩
      · unfold magnetoref36_Interval_b1
        simp only
        rw [show decide (15 - (k : Int) ≥ 0) = true from decide_eq_true (by omega), w64_of (n := 15 - (k : Int) - 1) (by omega) (by omega)]
        simp only [cond_true]
        rw [show (0 : Int) = ((0 : Nat) : Int) from rfl, hin]
        simp only [Option.bind_some]
        rw [show 15 - (k : Int) - 1 = 15 - ((k + 1 : Nat) : Int) by omega]
      · rw [ordK_succ, List.foldl_append, ← hs]
        rfl
      · exact mrk_len _ _ _ _ hd
      · intro j r hj hp
        rw [mrk_get _ l d s j r hd hj (by omega)]
        exact hf j r hj (by omega)
      · rw [ordK_succ, dec_app, ← hs]
        exact (mrk_pck _ l d s hd (fun j r hj hp => hf j r hj (by omega))).trans (List.Perm.append_right _ hp)) (fun st hst => by
      obtain ⟨s, d, rfl, hs, hd, hf, hp⟩ := hst
      simp only [Nat.zero_add] at hs hp
      refine ⟨.inl (s.source, -1, rng s, d), ?_, d, ?_, hd, hp⟩
      · unfold magnetoref36_Interval_b1
        simp only
        rw [show decide (15 - ((0 + 16 : Nat) : Int) ≥ 0) = false from decide_eq_false (by omega)]
        rfl
      · rw [hs]; rfl)
  subst h2
  rw [h1]
  exact ⟨d, rfl, h3, h4⟩

theorem pck_snoc : ∀ (l : List SRequest) (d : List Bool) (r : SRequest) (b : Bool), d.length = l.length → pck (l ++ [r]) (d ++ [b]) = pck l d ++ (bif b then [r.Source] else [])
  | [], [], r, b, _ => by simp [pck]
  | [], x :: d, _, _, h => by simp at h
  | x :: l, [], _, _, h => by simp at h
  | x :: l, y :: d, r, b, h => by
    simp only [List.length_cons, Nat.add_right_cancel_iff] at h
    simp only [List.cons_append, pck, pck_snoc l d r b h, List.append_assoc]
theorem pck_len : ∀ (l : List SRequest) (d : List Bool), (pck l d).length ≤ l.length
  | [], d => by cases d <;> simp [pck]
  | x :: l, [] => by simp [pck]
  | x :: l, y :: d => by
    have := pck_len l d
    unfold pck
    cases y
    · simp only [cond_false, List.nil_append, List.length_cons]; omega
    · simp only [cond_true, List.length_append, List.length_cons, List.length_nil]; omega

/-- Sorted ints of the same elements are one list. -/
theorem sortI_perm {l m : List Int} (h : l.Perm m) : (l.mergeSort fun x y => decide (x ≤ y)) = m.mergeSort fun x y => decide (x ≤ y) := by
  have tr : ∀ a b c : Int, decide (a ≤ b) = true → decide (b ≤ c) = true → decide (a ≤ c) = true := fun a b c h1 h2 => by simp only [decide_eq_true_eq] at *; omega
  have tt : ∀ a b : Int, (decide (a ≤ b) || decide (b ≤ a)) = true := fun a b => by simp only [Bool.or_eq_true, decide_eq_true_eq]; omega
  have s1 := List.pairwise_mergeSort (le := fun x y : Int => decide (x ≤ y)) tr tt l
  have s2 := List.pairwise_mergeSort (le := fun x y : Int => decide (x ≤ y)) tr tt m
  have hp := (List.mergeSort_perm l fun x y : Int => decide (x ≤ y)).trans (h.trans (List.mergeSort_perm m fun x y : Int => decide (x ≤ y)).symm)
  have key : ∀ {a b : List Int}, a.Pairwise (fun x y => decide (x ≤ y) = true) → b.Pairwise (fun x y => decide (x ≤ y) = true) → a.Perm b → a = b := by
    intro a
    induction a with
    | nil => intro b _ _ hp; exact hp.nil_eq
    | cons x a ih =>
      intro b ha hb hp
      cases b with
      | nil => have := hp.length_eq; simp at this
      | cons y b =>
        have hxy : x = y := by
          have h1 : x ∈ y :: b := hp.mem_iff.1 (List.mem_cons_self ..)
          have h2 : y ∈ x :: a := hp.mem_iff.2 (List.mem_cons_self ..)
          rcases List.mem_cons.1 h1 with h1 | h1
          · exact h1
          · rcases List.mem_cons.1 h2 with h2 | h2
            · exact h2.symm
            · have a1 := of_decide_eq_true ((List.pairwise_cons.1 ha).1 y h2)
              have a2 := of_decide_eq_true ((List.pairwise_cons.1 hb).1 x h1)
              omega
        subst hxy
        rw [ih (List.pairwise_cons.1 ha).2 (List.pairwise_cons.1 hb).2 (List.Perm.cons_inv hp)]
  exact key s1 s2 hp
end Go.Pv
