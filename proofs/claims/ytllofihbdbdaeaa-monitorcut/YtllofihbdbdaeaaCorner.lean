/- The corner of a map: the monitor's and the reference's. Plain Lean. -/
import Derived.Test.YtllofihbdbdaeaaSurface
set_option linter.unusedSimpArgs false
namespace Go.Pv
open Go

theorem around_up (l : List Int) (x : Int) (hl : l.length ≤ 32) : ∀ (k i : Nat) (s : Int), i + k = l.length → 0 ≤ s → s < l.length →
    ∃ u : Int, 0 ≤ u ∧ u < l.length ∧ stepsN (monitor_around_b1 l x) k (i : Int) s = some (.inl u) ∧ loopM (magnetoref39_Around_b1 l x) ((i : Int), s) = some (.inl ((l.length : Int), u)) := by
  intro k
  induction k with
  | zero =>
    intro i s hi h0 h1
    have e : decide ((i : Int) < (l.length : Int)) = false := by rw [decide_eq_false_iff_not]; omega
    have hii : (i : Int) = (l.length : Int) := by omega
    refine ⟨s, h0, h1, rfl, loopM_out ?_⟩
    simp only [magnetoref39_Around_b1, e, cond_false, hii]
    simp
  | succ k ih =>
    intro i s hi h0 h1
    have hil : i < l.length := by omega
    have e : decide ((i : Int) < (l.length : Int)) = true := by rw [decide_eq_true_eq]; omega
    have ew := w64_succ i (by omega)
    by_cases hx : l[i] ≤ x
    · obtain ⟨u, a, b, c, d⟩ := ih (i + 1) (i : Int) (by omega) (by omega) (by omega)
      refine ⟨u, a, b, ?_, ?_⟩
      · simp only [stepsN, monitor_around_b1, getI_nat, List.getElem?_eq_getElem hil, Option.bind_some, hx, decide_true, cond_true]
        push_cast at c
        exact c
      · rw [loopM_next (s' := (((i + 1 : Nat) : Int), (i : Int)))]
        · exact d
        · simp only [magnetoref39_Around_b1, e, cond_true, getI_nat, List.getElem?_eq_getElem hil, Option.bind_some, hx, decide_true, ew]
    · obtain ⟨u, a, b, c, d⟩ := ih (i + 1) s (by omega) h0 h1
      refine ⟨u, a, b, ?_, ?_⟩
      · simp only [stepsN, monitor_around_b1, getI_nat, List.getElem?_eq_getElem hil, Option.bind_some, hx, decide_false, cond_false]
        push_cast at c
        exact c
      · rw [loopM_next (s' := (((i + 1 : Nat) : Int), s))]
        · exact d
        · simp only [magnetoref39_Around_b1, e, cond_true, getI_nat, List.getElem?_eq_getElem hil, Option.bind_some, hx, decide_false, cond_false, ew]

theorem around_down (l : List Int) (x : Int) (hl : l.length ≤ 32) : ∀ (k : Nat) (a : Int), k ≤ l.length → 0 ≤ a → a < l.length →
    ∃ u : Int, 0 ≤ u ∧ u < l.length ∧ loopM (magnetoref39_Around_b2 l x) ((k : Int) - 1, a) = some (.inl (-1, u)) ∧ (k = 0 → u = a) ∧ (0 < k → ∀ y, l[0]? = some y → x ≤ y → u = 0) := by
  intro k
  induction k with
  | zero =>
    intro a _ h0 h1
    refine ⟨a, h0, h1, loopM_out ?_, fun _ => rfl, fun h => absurd h (by omega)⟩
    simp [magnetoref39_Around_b2]
  | succ k ih =>
    intro a hk h0 h1
    have hkl : k < l.length := by omega
    have e0 : ((k + 1 : Nat) : Int) - 1 = (k : Int) := by omega
    have e : decide ((k : Int) ≥ 0) = true := by rw [decide_eq_true_eq]; omega
    have ew : w64 ((k : Int) - 1) = (k : Int) - 1 := w64_of (by omega) (by omega)
    rw [e0]
    by_cases hx : l[k] ≥ x
    · obtain ⟨u, a1, a2, a3, a4, a5⟩ := ih (k : Int) (by omega) (by omega) (by omega)
      refine ⟨u, a1, a2, ?_, fun h => absurd h (by omega), fun _ y hy hxy => ?_⟩
      · rw [loopM_next (s' := ((k : Int) - 1, (k : Int)))]
        · exact a3
        · simp only [magnetoref39_Around_b2, e, cond_true, getI_nat, List.getElem?_eq_getElem hkl, Option.bind_some, hx, decide_true, ew]
      · by_cases hk0 : k = 0
        · rw [a4 hk0, hk0]; rfl
        · exact a5 (by omega) y hy hxy
    · obtain ⟨u, a1, a2, a3, a4, a5⟩ := ih a (by omega) h0 h1
      refine ⟨u, a1, a2, ?_, fun h => absurd h (by omega), fun _ y hy hxy => ?_⟩
      · rw [loopM_next (s' := ((k : Int) - 1, a))]
        · exact a3
        · simp only [magnetoref39_Around_b2, e, cond_true, getI_nat, List.getElem?_eq_getElem hkl, Option.bind_some, hx, decide_false, cond_false, ew]
      · by_cases hk0 : k = 0
        · subst hk0
          rw [List.getElem?_eq_getElem hkl, Option.some.injEq] at hy
          omega
        · exact a5 (by omega) y hy hxy

theorem around_eq (l : List Int) (x : Int) (h2 : 2 ≤ l.length) (hl : l.length ≤ 32) : ∃ p : Int × Int, 0 ≤ p.1 ∧ p.1 < l.length ∧ 0 ≤ p.2 ∧ p.2 < l.length ∧ monitor_around l x = some p ∧ magnetoref39_Around l x = some p := by
  obtain ⟨u, a1, a2, a3, a4⟩ := around_up l x hl l.length 0 0 (by omega) (by omega) (by omega)
  obtain ⟨v, b1, b2, b3, _, b5⟩ := around_down l x hl l.length ((l.length : Int) - 1) (Nat.le_refl _) (by omega) (by omega)
  have ew : w64 ((l.length : Int) - 1) = (l.length : Int) - 1 := w64_of (by omega) (by omega)
  have h0 : 0 < l.length := by omega
  refine ⟨(u, v), a1, a2, b1, b2, ?_, ?_⟩
  · unfold monitor_around
    rw [rangeN_steps _ (by omega)]
    rw [show ((0 : Nat) : Int) = 0 from rfl] at a3
    rw [a3]
    simp only [Option.bind_some, ew]
    have b3' : loopM (monitor_around_b2 l x) ((l.length : Int) - 1, (l.length : Int) - 1) = some (.inl (-1, v)) := b3
    rw [b3']
    simp only [Option.bind_some]
    rw [show (0 : Int) = ((0 : Nat) : Int) from rfl, getI_nat, List.getElem?_eq_getElem h0]
    simp only [Option.bind_some]
    by_cases hx : x < l[0]
    · have := b5 (by omega) l[0] (List.getElem?_eq_getElem h0) (by omega)
      subst this
      simp [hx]
    · simp [hx]
  · unfold magnetoref39_Around
    rw [show ((0 : Nat) : Int) = 0 from rfl] at a4
    rw [a4]
    simp only [Option.bind_some, ew]
    rw [b3]
    rfl

theorem getI_lt {α : Type} (l : List α) (i : Int) (h0 : 0 ≤ i) (h1 : i < l.length) : ∃ y, y ∈ l ∧ getI l i = some y := by
  have h : i.toNat < l.length := by omega
  exact ⟨l[i.toNat], List.getElem_mem h, by unfold getI; rw [if_pos h0, List.getElem?_eq_getElem h]⟩

theorem maxI_gt (a b : Int) : (bif decide (b > a) then some b else some a) = some (maxI a b) := by
  unfold maxI
  by_cases h : b > a
  · have : a < b := h
    simp [h]
    try omega
  · have : ¬ a < b := h
    simp [h]
    try omega

theorem corner_eq (m : SMap) (x y : Int) (h : mapB m = true) : ∃ c, monitor_corner m x y = some c ∧ magnetoref39_Corner m x y = some c := by
  unfold mapB at h
  simp only [Bool.and_eq_true, Bool.not_eq_true', List.all_eq_true] at h
  obtain ⟨⟨⟨hx, hy⟩, hz⟩, hr⟩ := h
  have lx := axB_len hx
  have ly := axB_len hy
  have lz : m.Z.length = m.X.length := by simp at hz; omega
  obtain ⟨p, p1, p2, p3, p4, p5, p6⟩ := around_eq m.X x lx.1 lx.2
  obtain ⟨q, q1, q2, q3, q4, q5, q6⟩ := around_eq m.Y y ly.1 ly.2
  obtain ⟨r1, rm1, re1⟩ := getI_lt m.Z p.1 p1 (by omega)
  obtain ⟨r2, rm2, re2⟩ := getI_lt m.Z p.2 p3 (by omega)
  have len : ∀ r ∈ m.Z, r.length = m.Y.length := by
    intro r hrm
    have := hr r hrm
    unfold rowB at this
    simp at this
    omega
  obtain ⟨z1, _, e1⟩ := getI_lt r1 q.1 q1 (by rw [len r1 rm1]; exact q2)
  obtain ⟨z2, _, e2⟩ := getI_lt r1 q.2 q3 (by rw [len r1 rm1]; exact q4)
  obtain ⟨z3, _, e3⟩ := getI_lt r2 q.1 q1 (by rw [len r2 rm2]; exact q2)
  obtain ⟨z4, _, e4⟩ := getI_lt r2 q.2 q3 (by rw [len r2 rm2]; exact q4)
  refine ⟨maxI (maxI (maxI z1 z2) z3) z4, ?_, ?_⟩
  · simp only [monitor_corner, p5, q5, Option.bind_some, re1, re2, e1, e2, e3, e4]
  · simp only [magnetoref39_Corner, p6, q6, Option.bind_some, re1, re2, e1, e2, e3, e4, maxI_gt]
end Go.Pv
