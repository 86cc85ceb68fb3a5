/- Part Xg: loops by invariants, lists. Plain Lean. -/
import Derived.Test.YtmocoljbdiphoaaPvXe
namespace Go.Pv
open Go.RowKit

theorem stepsN_inv {S R : Type} (f : Int → S → Option (Fl S R)) (I : Nat → S → Prop) : ∀ (k i : Nat) (s : S), I i s → (∀ j, i ≤ j → j < i + k → ∀ s, I j s → ∃ s', f (j : Int) s = some (.next s') ∧ I (j + 1) s') → ∃ s', stepsN f k (i : Int) s = some (.inl s') ∧ I (i + k) s'
  | 0, i, s, h, _ => ⟨s, rfl, h⟩
  | k + 1, i, s, h, st => by
    obtain ⟨s1, h1, h2⟩ := st i (Nat.le_refl _) (by omega) s h
    obtain ⟨s2, h3, h4⟩ := stepsN_inv f I k (i + 1) s1 h2 (fun j a b => st j (by omega) (by omega))
    refine ⟨s2, ?_, by rw [show i + (k + 1) = i + 1 + k by omega]; exact h4⟩
    simp only [stepsN, h1, Option.bind_some]
    exact h3

theorem rangeN_inv {S R : Type} (n : Nat) (hn : n ≤ 9223372036854775807) (f : Int → S → Option (Fl S R)) (I : Nat → S → Prop) (s : S) (h : I 0 s) (st : ∀ j, j < n → ∀ s, I j s → ∃ s', f (j : Int) s = some (.next s') ∧ I (j + 1) s') : ∃ s', rangeN (n : Int) f s = some (.inl s') ∧ I n s' := by
  obtain ⟨s', h1, h2⟩ := stepsN_inv f I n 0 s h (fun j _ b => st j (by omega))
  refine ⟨s', ?_, by simpa using h2⟩
  rw [rangeN_steps _ hn]
  exact h1

theorem stepsL_inv {α S R : Type} (f : Int → α → S → Option (Fl S R)) (l : List α) (I : Nat → S → Prop) : ∀ (r : List α) (i : Nat) (s : S), l.drop i = r → I i s → (∀ j (hj : j < l.length), i ≤ j → ∀ s, I j s → ∃ s', f (j : Int) l[j] s = some (.next s') ∧ I (j + 1) s') → ∃ s', stepsL f r (i : Int) s = some (.inl s') ∧ I (i + r.length) s'
  | [], i, s, _, h, _ => ⟨s, rfl, h⟩
  | y :: r, i, s, hd, h, st => by
    have hi : i < l.length := by
      have := congrArg List.length hd; simp at this; omega
    have hy : l[i] = y := by
      have h1 : l[i]? = some y := by rw [← List.head?_drop, hd]; rfl
      rw [List.getElem?_eq_getElem hi] at h1; exact Option.some.inj h1
    obtain ⟨s1, h1, h2⟩ := st i hi (Nat.le_refl _) s h
    obtain ⟨s2, h3, h4⟩ := stepsL_inv f l I r (i + 1) s1 (by rw [← List.drop_drop, hd]; rfl) h2 (fun j a b => st j a (by omega))
    refine ⟨s2, ?_, by rw [List.length_cons, show i + (r.length + 1) = i + 1 + r.length by omega]; exact h4⟩
    rw [hy] at h1
    simp only [stepsL, h1, Option.bind_some]
    exact h3

theorem rangeM_inv {α S R : Type} (l : List α) (hn : l.length ≤ 9223372036854775807) (f : Int → α → S → Option (Fl S R)) (I : Nat → S → Prop) (s : S) (h : I 0 s) (st : ∀ j (hj : j < l.length), ∀ s, I j s → ∃ s', f (j : Int) l[j] s = some (.next s') ∧ I (j + 1) s') : ∃ s', rangeM l f s = some (.inl s') ∧ I l.length s' := by
  obtain ⟨s', h1, h2⟩ := stepsL_inv f l I l 0 s rfl h (fun j a _ => st j a)
  refine ⟨s', ?_, by simpa using h2⟩
  rw [rangeM_steps _ hn]
  exact h1

theorem loopM_inv {S B : Type} {mb : S → Option (S ⊕ B)} (I : Nat → S → Prop) (J : B → Prop) : ∀ (n k : Nat) (s : S), I k s → (∀ j, k ≤ j → j < k + n → ∀ s, I j s → ∃ s', mb s = some (.inl s') ∧ I (j + 1) s') → (∀ s, I (k + n) s → ∃ b, mb s = some (.inr b) ∧ J b) → ∃ b, loopM mb s = some b ∧ J b
  | 0, k, s, h, _, e => by
    obtain ⟨b, h1, h2⟩ := e s h
    exact ⟨b, loopM_out h1, h2⟩
  | n + 1, k, s, h, st, e => by
    obtain ⟨s', h1, h2⟩ := st k (Nat.le_refl _) (by omega) s h
    rw [loopM_next h1]
    exact loopM_inv I J n (k + 1) s' h2 (fun j a b => st j (by omega) (by omega)) (by rw [show k + 1 + n = k + (n + 1) by omega]; exact e)

/-- A search in a list with an answer at its first find. -/
theorem stepsL_any {α R : Type} {f : Int → α → Unit → Option (Fl Unit R)} {p : α → Bool} {r : R} (l : List α) (i : Int) (h : ∀ i, ∀ y ∈ l, f i y () = some (bif p y then .ret r else .next ())) :
    stepsL f l i () = some (bif l.any p then .inr r else .inl ()) := by
  induction l generalizing i with
  | nil => rfl
  | cons y l ih =>
    simp only [stepsL, h i y (List.mem_cons_self ..), Option.bind_some, List.any_cons]
    cases hp : p y
    · simpa using ih (i + 1) (fun i y' hy => h i y' (List.mem_cons_of_mem _ hy))
    · rfl

theorem setM_nat {α : Type} (l : List α) (i : Nat) (y : α) (h : i < l.length) : setM l (i : Int) y = some (l.set i y) := by
  unfold setM; rw [if_pos ⟨by omega, by omega⟩]; rfl
theorem getI_get {α : Type} (l : List α) (i : Nat) (h : i < l.length) : getI l (i : Int) = some l[i] := by rw [getI_nat, List.getElem?_eq_getElem h]
theorem makeM_nat {α : Type} (n : Nat) (h : n ≤ 1073741824) (z : α) : makeM (n : Int) z = some (List.replicate n z) := by
  unfold makeM; rw [if_pos ⟨by omega, by omega⟩]; rfl
theorem appendM_ok {α : Type} (l r : List α) (h : l.length + r.length ≤ 1073741824) : appendM l r = some (l ++ r) := by
  unfold appendM; rw [if_pos h]
theorem copyL_same {α : Type} (l r : List α) (h : l.length = r.length) : copyL l r = r := by
  unfold copyL; rw [h, List.take_length, ← h, List.drop_length, List.append_nil]
end Go.Pv
