/- More of the library, as it computes. Plain Lean. -/
import Derived.Test.YtoiamgpgodcioaaRef
set_option linter.unusedSimpArgs false
namespace Go.Pv
open Go

theorem compL_len2 (l : List Int) : (compL l).length ≤ l.length := by
  have key : ∀ (l : List Int) p, (compG p l).length ≤ l.length := by
    intro l
    induction l with
    | nil => intro p; exact Nat.le_refl _
    | cons y l ih =>
      intro p
      unfold compG
      have := ih y
      cases y == p
      · simp only [cond_false, List.length_cons]; omega
      · simp only [cond_true, List.length_cons]; omega
  cases l with
  | nil => exact Nat.le_refl _
  | cons x l => simp only [compL, List.length_cons]; have := key l x; omega
theorem srcs_len {l : List SRequest} {low high : Int} (h : Fine l low high) : (srcs l low high).length ≤ 32 := by
  have h1 := compL_len2 ((dec (s0 low high) (ordL l)).mergeSort fun x y => decide (x ≤ y))
  rw [List.length_mergeSort] at h1
  have h2 := dec_len (s0 low high) (ordL l)
  have h3 := ordL_len h
  have h4 := h.len
  unfold srcs
  omega
theorem mem_srcs {l : List SRequest} {low high : Int} {x : Int} : x ∈ srcs l low high ↔ x ∈ dec (s0 low high) (ordL l) := by
  unfold srcs
  rw [mem_compL]
  exact (List.mergeSort_perm _ _).mem_iff

theorem containsI_eq (s : List Int) (v : Int) (h : s.length ≤ 1000000) : slices_Contains_sint s v = some (decide (v ∈ s)) := by
  unfold slices_Contains_sint slices_Index_sint
  have : rangeN (s.length : Int) (slices_Index_sint_b1 s v) () = stepsL (fun (i : Int) x (_ : Unit) => bif (v == x) then (some (Fl.ret i)) else (some (Fl.next ()))) s 0 () := rangeN_list s (by omega) _ ()
  rw [this]
  obtain ⟨r, h1, h2⟩ := stepsL_index (f := fun (i : Int) x (_ : Unit) => bif (v == x) then (some (Fl.ret i)) else (some (Fl.next ()))) (p := fun x => v == x) s 0 (Int.le_refl 0) (fun i y _ => by rw [bsome])
  rw [h1]
  have ha : s.any (fun x => v == x) = decide (v ∈ s) := by
    rw [Bool.eq_iff_iff, List.any_eq_true, decide_eq_true_eq]
    constructor
    · rintro ⟨x, hx, e⟩
      have : v = x := by simpa using e
      rw [this]; exact hx
    · intro hv
      exact ⟨v, hv, by simp⟩
  rw [ha] at h2
  cases r with
  | inl u =>
    simp only [Option.bind_some] at h2 ⊢
    rw [h2]; rfl
  | inr j =>
    simp only [Option.bind_some] at h2 ⊢
    rw [decide_eq_true h2.1, h2.2]

theorem grow_eq (n : Nat) (h : n ≤ 1000000) : slices_Grow_sRequest (n : Int) = some [] := by
  unfold slices_Grow_sRequest
  rw [show decide ((n : Int) < 0) = false from decide_eq_false (by omega), w64_of (n := 0 - 0) (by omega) (by omega), w64_of (n := (n : Int) - (0 - 0)) (by omega) (by omega)]
  simp only [cond_false, Option.bind_some]
  by_cases h0 : n = 0
  · subst h0
    rfl
  · rw [show decide ((n : Int) - (0 - 0) > 0) = true from decide_eq_true (by omega)]
    simp only [cond_true]
    unfold zerosM
    rw [if_pos ⟨by omega, by omega⟩]
    simp only [Option.bind_some]
    unfold sliceM
    rw [if_pos ⟨by omega, by omega, by omega⟩]
    simp

theorem concat_eq (l m : List SRequest) (h : l.length + m.length ≤ 100000) : slices_Concat_sRequest [l, m] = some (l ++ m) := by
  unfold slices_Concat_sRequest
  rw [rangeM_steps _ (by simp)]
  simp only [stepsL, slices_Concat_sRequest_b1]
  rw [w64_of (n := 0 + (l.length : Int)) (by omega) (by omega), show decide (0 + (l.length : Int) < 0) = false from decide_eq_false (by omega)]
  simp only [cond_false, Option.bind_some]
  rw [w64_of (n := 0 + (l.length : Int) + (m.length : Int)) (by omega) (by omega), show decide (0 + (l.length : Int) + (m.length : Int) < 0) = false from decide_eq_false (by omega)]
  simp only [cond_false, Option.bind_some]
  rw [show 0 + (l.length : Int) + (m.length : Int) = ((l.length + m.length : Nat) : Int) by omega, grow_eq _ (by omega)]
  simp only [Option.bind_some]
  rw [rangeM_steps _ (by simp)]
  simp only [stepsL, slices_Concat_sRequest_b2]
  rw [appendM_ok _ _ (by simp only [List.length_nil]; omega)]
  simp only [Option.bind_some, List.nil_append]
  rw [appendM_ok _ _ (by omega)]
  rfl

theorem slice_to (l : List SRequest) (i : Nat) (h : i ≤ l.length) : sliceM l 0 (i : Int) = some (l.take i) := by
  unfold sliceM
  rw [if_pos ⟨by omega, by omega, by omega⟩]; simp
theorem slice_from (l : List SRequest) (i : Nat) (h : i ≤ l.length) : sliceM l (i : Int) (l.length : Int) = some (l.drop i) := by
  unfold sliceM
  rw [if_pos ⟨by omega, by omega, by omega⟩]
  simp only [Int.toNat_natCast]
  rw [List.take_of_length_le (by rw [List.length_drop]; omega)]

/-! Reverse. -/
theorem rev_loop : ∀ (k : Nat) (M : List SRequest), M.length ≤ k → ∀ (P Q : List SRequest) (j : Int), j = (P.length : Int) + (M.length : Int) - 1 → P.length + M.length ≤ 1000000 →
    ∃ i' j', loopM slices_Reverse_sRequest_b1 ((P.length : Int), j, P ++ (M ++ Q)) = some (.inl (i', j', P ++ (M.reverse ++ Q)))
  | 0, M, hk, P, Q, j, hj, hN => by
    have : M = [] := List.length_eq_zero_iff.1 (by omega)
    subst this
    refine ⟨(P.length : Int), j, loopM_out ?_⟩
    unfold slices_Reverse_sRequest_b1
    simp only [List.length_nil] at hj
    rw [show decide ((P.length : Int) < j) = false from decide_eq_false (by omega)]
    rfl
  | k + 1, [], hk, P, Q, j, hj, hN => rev_loop k [] (by simp) P Q j hj hN
  | k + 1, [x], hk, P, Q, j, hj, hN => by
    refine ⟨(P.length : Int), j, loopM_out ?_⟩
    unfold slices_Reverse_sRequest_b1
    simp only [List.length_singleton] at hj
    rw [show decide ((P.length : Int) < j) = false from decide_eq_false (by omega)]
    rfl
  | k + 1, x :: z :: M, hk, P, Q, j, hj, hN => by
    have hne : z :: M ≠ [] := by simp
    obtain ⟨S, y, hS⟩ : ∃ S y, z :: M = S ++ [y] := ⟨(z :: M).dropLast, (z :: M).getLast hne, (List.dropLast_concat_getLast hne).symm⟩
    rw [hS] at hk hj hN ⊢
    simp only [List.length_cons, List.length_append, List.length_nil] at hk hj hN
    obtain ⟨i', j', h1⟩ := rev_loop k S (by omega) (P ++ [y]) (x :: Q) (j - 1) (by simp only [List.length_append, List.length_singleton]; omega) (by simp only [List.length_append, List.length_singleton]; omega)
    refine ⟨i', j', ?_⟩
    have e : loopM slices_Reverse_sRequest_b1 ((P.length : Int), j, P ++ (x :: (S ++ [y]) ++ Q)) = loopM slices_Reverse_sRequest_b1 (((P ++ [y]).length : Int), j - 1, (P ++ [y]) ++ (S ++ x :: Q)) := by
      refine loopM_next ?_
      unfold slices_Reverse_sRequest_b1
      simp only
      rw [show decide ((P.length : Int) < j) = true from decide_eq_true (by omega), w64_of (n := (P.length : Int) + 1) (by omega) (by omega), w64_of (n := j - 1) (by omega) (by omega)]
      simp only [cond_true]
      have sw := swap2 P x S y Q (i := (P.length : Int)) (j := j) rfl (by omega) (fun (f2 : List SRequest) => some (Sum.inl ((P.length : Int) + 1, j - 1, f2) : (Int × Int × List SRequest) ⊕ ((Int × Int × List SRequest) ⊕ Empty)))
      rw [show P ++ (x :: (S ++ [y]) ++ Q) = P ++ x :: (S ++ y :: Q) by simp, sw]
      simp
    rw [e, h1]
    simp

theorem reverse_eq (l : List SRequest) (h : l.length ≤ 1000000) : slices_Reverse_sRequest l = some l.reverse := by
  unfold slices_Reverse_sRequest
  rw [w64_of (n := (l.length : Int) - 1) (by omega) (by omega)]
  obtain ⟨i', j', h1⟩ := rev_loop l.length l (Nat.le_refl _) [] [] ((l.length : Int) - 1) (by simp) (by simp; omega)
  simp only [List.length_nil, List.nil_append, List.append_nil] at h1
  rw [show (0 : Int) = ((0 : Nat) : Int) from rfl, h1]
  rfl
end Go.Pv
