/- Part Xk: slices.SortStableFunc, as it computes: that it sorts, and keeps the order of equals. Plain Lean. (The functions are those that gen2.py prints for an instance, with a type in the element's place.) -/
import Derived.Test.YtmocoljbdiphoaaPvXg
import Derived.Test.YtmocoljbdiphoaaPvXi
set_option linter.unusedSimpArgs false
namespace Go.Pv
open Go
/-- slices.insertionSortCmpFunc -/
noncomputable def g_insertionSortCmpFunc_b2 {α : Type} (a : Int) (cmp : α → α → Option Int) (s2 : Int × List α) : Option ((Int × List α) ⊕ ((Int × List α) ⊕ Empty)) :=
  Option.bind (bif (decide (s2.1 > a)) then (Option.bind (getI s2.2 s2.1) fun x => Option.bind (getI s2.2 (w64 (s2.1 - 1))) fun x2 => Option.bind (cmp x x2) fun v => some (decide (v < 0))) else (some false)) fun (v2 : Bool) => bif v2 then (Option.bind (Option.bind (getI s2.2 (w64 (s2.1 - 1))) fun x3 => Option.bind (getI s2.2 s2.1) fun x4 => Option.bind (setM s2.2 s2.1 x3) fun l => Option.bind (getI l (w64 (s2.1 - 1))) fun _ => Option.bind (setM l (w64 (s2.1 - 1)) x4) fun l2 => some l2) fun (f2 : List α) => some (.inl (w64 (s2.1 - 1), f2))) else (some (.inr (.inl (s2.1, s2.2))))
noncomputable def g_insertionSortCmpFunc_b1 {α : Type} (a : Int) (b2 : Int) (cmp : α → α → Option Int) (s : Int × List α) : Option ((Int × List α) ⊕ ((Int × List α) ⊕ Empty)) :=
  bif (decide (s.1 < b2)) then (Option.bind (loopM (g_insertionSortCmpFunc_b2 a cmp) (s.1, s.2)) fun (t : (Int × List α) ⊕ Empty) => match t with | .inl s3 => (some (.inl (w64 (s.1 + 1), s3.2))) | .inr r => r.elim) else (some (.inr (.inl (s.1, s.2))))
noncomputable def g_insertionSortCmpFunc {α : Type} (data : List α) (a : Int) (b2 : Int) (cmp : α → α → Option Int) : Option (List α) :=
  Option.bind (loopM (g_insertionSortCmpFunc_b1 a b2 cmp) (w64 (a + 1), data)) fun (t : (Int × List α) ⊕ Empty) => match t with | .inl s4 => (some s4.2) | .inr r => r.elim
/-- slices.swapRangeCmpFunc -/
noncomputable def g_swapRangeCmpFunc_b1 {α : Type} (a : Int) (b2 : Int) (n2 : Int) (s : Int × List α) : Option ((Int × List α) ⊕ ((Int × List α) ⊕ Empty)) :=
  bif (decide (s.1 < n2)) then (Option.bind (Option.bind (getI s.2 (w64 (b2 + s.1))) fun x => Option.bind (getI s.2 (w64 (a + s.1))) fun x2 => Option.bind (setM s.2 (w64 (a + s.1)) x) fun l => Option.bind (getI l (w64 (b2 + s.1))) fun _ => Option.bind (setM l (w64 (b2 + s.1)) x2) fun l2 => some l2) fun (f2 : List α) => some (.inl (w64 (s.1 + 1), f2))) else (some (.inr (.inl (s.1, s.2))))
noncomputable def g_swapRangeCmpFunc {α : Type} (data : List α) (a : Int) (b2 : Int) (n2 : Int) (_ : α → α → Option Int) : Option (List α) :=
  Option.bind (loopM (g_swapRangeCmpFunc_b1 a b2 n2) (0, data)) fun (t : (Int × List α) ⊕ Empty) => match t with | .inl s2 => (some s2.2) | .inr r => r.elim
/-- slices.rotateCmpFunc -/
noncomputable def g_rotateCmpFunc_b1 {α : Type} (m2 : Int) (cmp : α → α → Option Int) (s : Int × Int × List α) : Option ((Int × Int × List α) ⊕ ((Int × Int × List α) ⊕ Empty)) :=
  bif (s.1 != s.2.1) then (bif (decide (s.1 > s.2.1)) then (Option.bind (g_swapRangeCmpFunc s.2.2 (w64 (m2 - s.1)) m2 s.2.1 cmp) fun v => some (.inl (w64 (s.1 - s.2.1), s.2.1, v))) else (Option.bind (g_swapRangeCmpFunc s.2.2 (w64 (m2 - s.1)) (w64 ((w64 (m2 + s.2.1)) - s.1)) s.1 cmp) fun v2 => some (.inl (s.1, w64 (s.2.1 - s.1), v2)))) else (some (.inr (.inl (s.1, s.2.1, s.2.2))))
noncomputable def g_rotateCmpFunc {α : Type} (data : List α) (a : Int) (m2 : Int) (b2 : Int) (cmp : α → α → Option Int) : Option (List α) :=
  Option.bind (loopM (g_rotateCmpFunc_b1 m2 cmp) (w64 (m2 - a), w64 (b2 - m2), data)) fun (t : (Int × Int × List α) ⊕ Empty) => match t with | .inl s2 => (Option.bind (g_swapRangeCmpFunc s2.2.2 (w64 (m2 - s2.1)) m2 s2.1 cmp) fun v3 => some v3) | .inr r => r.elim
/-- slices.symMergeCmpFunc -/
noncomputable def g_symMergeCmpFunc_b1 {α : Type} (data : List α) (a : Int) (cmp : α → α → Option Int) (s : Int × Int) : Option ((Int × Int) ⊕ ((Int × Int) ⊕ Empty)) :=
  bif (decide (s.1 < s.2)) then (Option.bind (getI data (w64 (bitShr .u64 (IntKind.u64.wrap (w64 (s.1 + s.2))) 1))) fun x => Option.bind (getI data a) fun x2 => Option.bind (cmp x x2) fun v => bif (decide (v < 0)) then (some (.inl (w64 ((w64 (bitShr .u64 (IntKind.u64.wrap (w64 (s.1 + s.2))) 1)) + 1), s.2))) else (some (.inl (s.1, w64 (bitShr .u64 (IntKind.u64.wrap (w64 (s.1 + s.2))) 1))))) else (some (.inr (.inl (s.1, s.2))))
noncomputable def g_symMergeCmpFunc_b2 {α : Type} (s2 : Int × Int) (s3 : Int × List α) : Option ((Int × List α) ⊕ ((Int × List α) ⊕ Empty)) :=
  bif (decide (s3.1 < (w64 (s2.1 - 1)))) then (Option.bind (Option.bind (getI s3.2 (w64 (s3.1 + 1))) fun x3 => Option.bind (getI s3.2 s3.1) fun x4 => Option.bind (setM s3.2 s3.1 x3) fun l => Option.bind (getI l (w64 (s3.1 + 1))) fun _ => Option.bind (setM l (w64 (s3.1 + 1)) x4) fun l2 => some l2) fun (f2 : List α) => some (.inl (w64 (s3.1 + 1), f2))) else (some (.inr (.inl (s3.1, s3.2))))
noncomputable def g_symMergeCmpFunc_b3 {α : Type} (data : List α) (m2 : Int) (cmp : α → α → Option Int) (s5 : Int × Int) : Option ((Int × Int) ⊕ ((Int × Int) ⊕ Empty)) :=
  bif (decide (s5.1 < s5.2)) then (Option.bind (getI data m2) fun x6 => Option.bind (getI data (w64 (bitShr .u64 (IntKind.u64.wrap (w64 (s5.1 + s5.2))) 1))) fun x7 => Option.bind (cmp x6 x7) fun v2 => bif (!(decide (v2 < 0))) then (some (.inl (w64 ((w64 (bitShr .u64 (IntKind.u64.wrap (w64 (s5.1 + s5.2))) 1)) + 1), s5.2))) else (some (.inl (s5.1, w64 (bitShr .u64 (IntKind.u64.wrap (w64 (s5.1 + s5.2))) 1))))) else (some (.inr (.inl (s5.1, s5.2))))
noncomputable def g_symMergeCmpFunc_b4 {α : Type} (s6 : Int × Int) (s7 : Int × List α) : Option ((Int × List α) ⊕ ((Int × List α) ⊕ Empty)) :=
  bif (decide (s7.1 > s6.1)) then (Option.bind (Option.bind (getI s7.2 (w64 (s7.1 - 1))) fun x8 => Option.bind (getI s7.2 s7.1) fun x9 => Option.bind (setM s7.2 s7.1 x8) fun l3 => Option.bind (getI l3 (w64 (s7.1 - 1))) fun _ => Option.bind (setM l3 (w64 (s7.1 - 1)) x9) fun l4 => some l4) fun (f3 : List α) => some (.inl (w64 (s7.1 - 1), f3))) else (some (.inr (.inl (s7.1, s7.2))))
noncomputable def g_symMergeCmpFunc_b5 {α : Type} (data : List α) (a : Int) (m2 : Int) (b2 : Int) (cmp : α → α → Option Int) (s10 : Int × Int) : Option ((Int × Int) ⊕ ((Int × Int) ⊕ Empty)) :=
  bif (decide (s10.1 < s10.2)) then (Option.bind (getI data (w64 ((w64 ((w64 ((w64 (bitShr .u64 (IntKind.u64.wrap (w64 (a + b2))) 1)) + m2)) - 1)) - (w64 (bitShr .u64 (IntKind.u64.wrap (w64 (s10.1 + s10.2))) 1))))) fun x11 => Option.bind (getI data (w64 (bitShr .u64 (IntKind.u64.wrap (w64 (s10.1 + s10.2))) 1))) fun x12 => Option.bind (cmp x11 x12) fun v3 => bif (!(decide (v3 < 0))) then (some (.inl (w64 ((w64 (bitShr .u64 (IntKind.u64.wrap (w64 (s10.1 + s10.2))) 1)) + 1), s10.2))) else (some (.inl (s10.1, w64 (bitShr .u64 (IntKind.u64.wrap (w64 (s10.1 + s10.2))) 1))))) else (some (.inr (.inl (s10.1, s10.2))))
noncomputable def g_symMergeCmpFunc_s {α : Type} (rc : List α → Int → Int → Int → (α → α → Option Int) → Option (List α)) (data : List α) (a : Int) (m2 : Int) (b2 : Int) (cmp : α → α → Option Int) : Option (List α) :=
  bif ((w64 (m2 - a)) == 1) then (Option.bind (loopM (g_symMergeCmpFunc_b1 data a cmp) (m2, b2)) fun (t : (Int × Int) ⊕ Empty) => match t with | .inl s2 => (Option.bind (loopM (g_symMergeCmpFunc_b2 s2) (a, data)) fun (t : (Int × List α) ⊕ Empty) => match t with | .inl s4 => (some s4.2) | .inr r => r.elim) | .inr r => r.elim) else (bif ((w64 (b2 - m2)) == 1) then (Option.bind (loopM (g_symMergeCmpFunc_b3 data m2 cmp) (a, m2)) fun (t : (Int × Int) ⊕ Empty) => match t with | .inl s6 => (Option.bind (loopM (g_symMergeCmpFunc_b4 s6) (m2, data)) fun (t : (Int × List α) ⊕ Empty) => match t with | .inl s8 => (some s8.2) | .inr r => r.elim) | .inr r => r.elim) else (Option.bind (bif (decide (m2 > (w64 (bitShr .u64 (IntKind.u64.wrap (w64 (a + b2))) 1)))) then (some (w64 ((w64 ((w64 (bitShr .u64 (IntKind.u64.wrap (w64 (a + b2))) 1)) + m2)) - b2), w64 (bitShr .u64 (IntKind.u64.wrap (w64 (a + b2))) 1))) else (some (a, m2))) fun (s9 : Int × Int) => Option.bind (loopM (g_symMergeCmpFunc_b5 data a m2 b2 cmp) (s9.1, s9.2)) fun (t : (Int × Int) ⊕ Empty) => match t with | .inl s11 => (Option.bind (bif ((decide (s11.1 < m2)) && (decide (m2 < (w64 ((w64 ((w64 (bitShr .u64 (IntKind.u64.wrap (w64 (a + b2))) 1)) + m2)) - s11.1))))) then (Option.bind (g_rotateCmpFunc data s11.1 m2 (w64 ((w64 ((w64 (bitShr .u64 (IntKind.u64.wrap (w64 (a + b2))) 1)) + m2)) - s11.1)) cmp) fun v4 => some v4) else (some data)) fun (f4 : List α) => Option.bind (bif ((decide (a < s11.1)) && (decide (s11.1 < (w64 (bitShr .u64 (IntKind.u64.wrap (w64 (a + b2))) 1))))) then (Option.bind (rc f4 a s11.1 (w64 (bitShr .u64 (IntKind.u64.wrap (w64 (a + b2))) 1)) cmp) fun v5 => some v5) else (some f4)) fun (f5 : List α) => bif ((decide ((w64 (bitShr .u64 (IntKind.u64.wrap (w64 (a + b2))) 1)) < (w64 ((w64 ((w64 (bitShr .u64 (IntKind.u64.wrap (w64 (a + b2))) 1)) + m2)) - s11.1)))) && (decide ((w64 ((w64 ((w64 (bitShr .u64 (IntKind.u64.wrap (w64 (a + b2))) 1)) + m2)) - s11.1)) < b2))) then (Option.bind (rc f5 (w64 (bitShr .u64 (IntKind.u64.wrap (w64 (a + b2))) 1)) (w64 ((w64 ((w64 (bitShr .u64 (IntKind.u64.wrap (w64 (a + b2))) 1)) + m2)) - s11.1)) b2 cmp) fun v6 => some v6) else (some f5)) | .inr r => r.elim))
noncomputable def g_symMergeCmpFunc {α : Type} : Nat → List α → Int → Int → Int → (α → α → Option Int) → Option (List α)
  | 0 => fun _ _ _ _ _ => none
  | fu + 1 => g_symMergeCmpFunc_s (g_symMergeCmpFunc fu)
/-- slices.stableCmpFunc -/
noncomputable def g_stableCmpFunc_b1 {α : Type} (n2 : Int) (cmp : α → α → Option Int) (s : Int × Int × List α) : Option ((Int × Int × List α) ⊕ ((Int × Int × List α) ⊕ Empty)) :=
  bif (decide (s.2.1 ≤ n2)) then (Option.bind (g_insertionSortCmpFunc s.2.2 s.1 s.2.1 cmp) fun v => some (.inl (s.2.1, w64 (s.2.1 + 20), v))) else (some (.inr (.inl (s.1, s.2.1, s.2.2))))
noncomputable def g_stableCmpFunc_b3 {α : Type} (n2 : Int) (cmp : α → α → Option Int) (s3 : Int × List α) (s4 : Int × Int × List α) : Option ((Int × Int × List α) ⊕ ((Int × Int × List α) ⊕ Empty)) :=
  bif (decide (s4.2.1 ≤ n2)) then (Option.bind (g_symMergeCmpFunc 64 s4.2.2 s4.1 (w64 (s4.1 + s3.1)) s4.2.1 cmp) fun v3 => some (.inl (s4.2.1, w64 (s4.2.1 + (w64 (2 * s3.1))), v3))) else (some (.inr (.inl (s4.1, s4.2.1, s4.2.2))))
noncomputable def g_stableCmpFunc_b2 {α : Type} (n2 : Int) (cmp : α → α → Option Int) (s3 : Int × List α) : Option ((Int × List α) ⊕ ((Int × List α) ⊕ Empty)) :=
  bif (decide (s3.1 < n2)) then (Option.bind (loopM (g_stableCmpFunc_b3 n2 cmp s3) (0, w64 (2 * s3.1), s3.2)) fun (t : (Int × Int × List α) ⊕ Empty) => match t with | .inl s5 => (bif (decide ((w64 (s5.1 + s3.1)) < n2)) then (Option.bind (g_symMergeCmpFunc 64 s5.2.2 s5.1 (w64 (s5.1 + s3.1)) n2 cmp) fun v4 => some (.inl (w64 (s3.1 * 2), v4))) else (some (.inl (w64 (s3.1 * 2), s5.2.2)))) | .inr r => r.elim) else (some (.inr (.inl (s3.1, s3.2))))
noncomputable def g_stableCmpFunc {α : Type} (data : List α) (n2 : Int) (cmp : α → α → Option Int) : Option (List α) :=
  Option.bind (loopM (g_stableCmpFunc_b1 n2 cmp) (0, 20, data)) fun (t : (Int × Int × List α) ⊕ Empty) => match t with | .inl s2 => (Option.bind (g_insertionSortCmpFunc s2.2.2 s2.1 n2 cmp) fun v2 => Option.bind (loopM (g_stableCmpFunc_b2 n2 cmp) (20, v2)) fun (t : (Int × List α) ⊕ Empty) => match t with | .inl s6 => (some s6.2) | .inr r => r.elim) | .inr r => r.elim
/-- slices.SortStableFunc -/
noncomputable def g_SortStableFunc {α : Type} (x : List α) (cmp : α → α → Option Int) : Option (List α) :=
  Option.bind (g_stableCmpFunc x (x.length : Int) cmp) fun v => some v

section
variable {α β : Type}

theorem getI_mid (P : List α) (x : α) (R : List α) {i : Int} (h : i = (P.length : Int)) : getI (P ++ x :: R) i = some x := by
  subst h; rw [getI_nat, List.getElem?_append_right (Nat.le_refl _), Nat.sub_self]; rfl
theorem setM_mid (P : List α) (x y : α) (R : List α) {i : Int} (h : i = (P.length : Int)) : setM (P ++ x :: R) i y = some (P ++ y :: R) := by
  subst h; rw [setM_nat _ _ _ (by simp), List.set_append_right _ _ (Nat.le_refl _), Nat.sub_self]; rfl

/-- The left one is written first. -/
theorem swap2 (P : List α) (x : α) (M : List α) (y : α) (Q : List α) {i j : Int} (hi : i = (P.length : Int)) (hj : j = (P.length : Int) + 1 + (M.length : Int)) (k : List α → Option β) :
    (Option.bind (Option.bind (getI (P ++ x :: (M ++ y :: Q)) j) fun u => Option.bind (getI (P ++ x :: (M ++ y :: Q)) i) fun v => Option.bind (setM (P ++ x :: (M ++ y :: Q)) i u) fun l => Option.bind (getI l j) fun _ => Option.bind (setM l j v) fun l2 => some l2) k) = k (P ++ y :: (M ++ x :: Q)) := by
  have e : ∀ z w : α, P ++ z :: (M ++ w :: Q) = (P ++ z :: M) ++ w :: Q := fun z w => by simp
  have hj2 : ∀ z : α, j = ((P ++ z :: M).length : Int) := fun z => by rw [List.length_append, List.length_cons]; omega
  have g1 : getI (P ++ x :: (M ++ y :: Q)) j = some y := by rw [e]; exact getI_mid _ _ _ (hj2 x)
  have g3 : getI (P ++ y :: (M ++ y :: Q)) j = some y := by rw [e]; exact getI_mid _ _ _ (hj2 y)
  have s2 : setM (P ++ y :: (M ++ y :: Q)) j x = some (P ++ y :: (M ++ x :: Q)) := by rw [e, e]; exact setM_mid _ _ _ _ (hj2 y)
  rw [g1, Option.bind_some, getI_mid _ _ _ hi, Option.bind_some, setM_mid _ _ _ _ hi, Option.bind_some, g3, Option.bind_some, s2]
  rfl

/-- Neighbours; the right one is written first. -/
theorem swap3 (P : List α) (x y : α) (Q : List α) {i j : Int} (hi : i = (P.length : Int)) (hj : j = (P.length : Int) + 1) (k : List α → Option β) :
    (Option.bind (Option.bind (getI (P ++ x :: y :: Q) i) fun u => Option.bind (getI (P ++ x :: y :: Q) j) fun v => Option.bind (setM (P ++ x :: y :: Q) j u) fun l => Option.bind (getI l i) fun _ => Option.bind (setM l i v) fun l2 => some l2) k) = k (P ++ y :: x :: Q) := by
  have e : ∀ z w : α, P ++ z :: w :: Q = (P ++ [z]) ++ w :: Q := fun z w => by simp
  have hj2 : ∀ z : α, j = ((P ++ [z]).length : Int) := fun z => by rw [List.length_append, List.length_singleton]; omega
  have g1 : getI (P ++ x :: y :: Q) j = some y := by rw [e]; exact getI_mid _ _ _ (hj2 x)
  have s1 : setM (P ++ x :: y :: Q) j x = some (P ++ x :: x :: Q) := by rw [e, e]; exact setM_mid _ _ _ _ (hj2 x)
  rw [getI_mid _ _ _ hi, Option.bind_some, g1, Option.bind_some, s1, Option.bind_some, getI_mid _ _ _ hi, Option.bind_some, setM_mid _ _ _ _ hi]
  rfl

/-! Ranges change places. -/
theorem swr_loop (n a b : Int) : ∀ (X Y P M Q : List α) (i : Int), X.length = Y.length → a + i = (P.length : Int) → b + i = (P.length : Int) + (X.length : Int) + (M.length : Int) → n = i + (X.length : Int) → 0 ≤ i → 0 ≤ a → 0 ≤ b → P.length + X.length + M.length + Y.length ≤ 1073741824 →
    loopM (g_swapRangeCmpFunc_b1 a b n) (i, P ++ (X ++ (M ++ (Y ++ Q)))) = some (.inl (n, P ++ (Y ++ (M ++ (X ++ Q)))))
  | [], Y, P, M, Q, i, hl, _, _, hn, _, _, _, _ => by
    have : Y = [] := List.length_eq_zero_iff.1 hl.symm
    subst this
    refine loopM_out ?_
    unfold g_swapRangeCmpFunc_b1
    simp only [List.length_nil] at hn
    rw [show decide (i < n) = false from decide_eq_false (by omega)]
    have : i = n := by omega
    subst this
    rfl
  | x :: X, [], P, M, Q, i, hl, _, _, _, _, _, _, _ => by simp at hl
  | x :: X, y :: Y, P, M, Q, i, hl, ha, hb, hn, h0, ha0, hb0, hN => by
    simp only [List.length_cons] at hl hb hn hN
    have e1 : P ++ (x :: X ++ (M ++ (y :: Y ++ Q))) = P ++ x :: ((X ++ M) ++ y :: (Y ++ Q)) := by simp
    have e2 : P ++ y :: ((X ++ M) ++ x :: (Y ++ Q)) = (P ++ [y]) ++ (X ++ ((M ++ [x]) ++ (Y ++ Q))) := by simp
    have e3 : P ++ (y :: Y ++ (M ++ (x :: X ++ Q))) = (P ++ [y]) ++ (Y ++ ((M ++ [x]) ++ (X ++ Q))) := by simp
    rw [e1, e3, ← swr_loop n a b X Y (P ++ [y]) (M ++ [x]) Q (i + 1) (by omega) (by rw [List.length_append, List.length_singleton]; omega) (by simp only [List.length_append, List.length_singleton]; omega) (by omega) (by omega) ha0 hb0 (by rw [List.length_append, List.length_append]; simp only [List.length_singleton]; omega), ← e2]
    refine loopM_next ?_
    unfold g_swapRangeCmpFunc_b1
    simp only
    rw [show decide (i < n) = true from decide_eq_true (by omega), w64_of (n := b + i) (by omega) (by omega), w64_of (n := a + i) (by omega) (by omega), w64_of (n := i + 1) (by omega) (by omega)]
    simp only [cond_true]
    rw [swap2 P x (X ++ M) y (Y ++ Q) ha (by rw [List.length_append]; omega)]

theorem swapRange_eq (cmp : α → α → Option Int) (P X M Y Q : List α) {a b n : Int} (hl : X.length = Y.length) (ha : a = (P.length : Int)) (hb : b = (P.length : Int) + (X.length : Int) + (M.length : Int)) (hn : n = (X.length : Int)) (hN : P.length + X.length + M.length + Y.length ≤ 1073741824) :
    g_swapRangeCmpFunc (P ++ (X ++ (M ++ (Y ++ Q)))) a b n cmp = some (P ++ (Y ++ (M ++ (X ++ Q)))) := by
  unfold g_swapRangeCmpFunc
  rw [swr_loop n a b X Y P M Q 0 hl (by omega) (by omega) (by omega) (by omega) (by omega) (by omega) hN]
  rfl

/-! Rotation. -/
theorem rot_loop (cmp : α → α → Option Int) (m : Int) : ∀ (k : Nat) (P X Y Q : List α), X.length + Y.length ≤ k → 0 < X.length → 0 < Y.length → m = (P.length : Int) + (X.length : Int) → P.length + X.length + Y.length + Q.length ≤ 1073741824 →
    ∃ P' X' Y' Q', loopM (g_rotateCmpFunc_b1 m cmp) ((X.length : Int), (Y.length : Int), P ++ (X ++ (Y ++ Q))) = some (.inl ((X'.length : Int), (Y'.length : Int), P' ++ (X' ++ (Y' ++ Q')))) ∧ X'.length = Y'.length ∧ m = (P'.length : Int) + (X'.length : Int) ∧ P' ++ (Y' ++ (X' ++ Q')) = P ++ (Y ++ (X ++ Q)) ∧ P'.length + X'.length + Y'.length + Q'.length = P.length + X.length + Y.length + Q.length
  | 0, P, X, Y, Q, hk, hx, _, _, _ => by omega
  | k + 1, P, X, Y, Q, hk, hx, hy, hm, hN => by
    rcases Nat.lt_trichotomy X.length Y.length with h | h | h
    · -- the left one is shorter
      obtain ⟨Y1, Y2, rfl, h2⟩ : ∃ Y1 Y2, Y = Y1 ++ Y2 ∧ Y2.length = X.length := ⟨Y.take (Y.length - X.length), Y.drop (Y.length - X.length), by rw [List.take_append_drop], by rw [List.length_drop]; omega⟩
      rw [List.length_append] at hk h hy hN
      obtain ⟨P', X', Y', Q', r1, r2, r3, r4, r5⟩ := rot_loop cmp m k P Y2 Y1 (X ++ Q) (by omega) (by omega) (by omega) (by omega) (by rw [List.length_append]; omega)
      refine ⟨P', X', Y', Q', ?_, r2, r3, ?_, by rw [List.length_append] at *; omega⟩
      · rw [← r1]
        refine loopM_next ?_
        unfold g_rotateCmpFunc_b1
        simp only [List.length_append]
        rw [show ((X.length : Int) != ((Y1.length + Y2.length : Nat) : Int)) = true by simp; omega, show decide ((X.length : Int) > ((Y1.length + Y2.length : Nat) : Int)) = false from decide_eq_false (by omega)]
        simp only [cond_true, cond_false]
        rw [w64_of (n := m - (X.length : Int)) (by omega) (by omega), w64_of (n := m + ((Y1.length + Y2.length : Nat) : Int)) (by omega) (by omega), w64_of (n := m + ((Y1.length + Y2.length : Nat) : Int) - (X.length : Int)) (by omega) (by omega), w64_of (n := ((Y1.length + Y2.length : Nat) : Int) - (X.length : Int)) (by omega) (by omega)]
        rw [show P ++ (X ++ (Y1 ++ Y2 ++ Q)) = P ++ (X ++ (Y1 ++ (Y2 ++ Q))) by simp, swapRange_eq cmp P X Y1 Y2 Q h2.symm (by omega) (by omega) rfl (by omega)]
        simp only [Option.bind_some]
        rw [show ((Y1.length + Y2.length : Nat) : Int) - (X.length : Int) = (Y1.length : Int) by omega, h2]
      · rw [r4]; simp
    · refine ⟨P, X, Y, Q, ?_, h, hm, rfl, rfl⟩
      refine loopM_out ?_
      unfold g_rotateCmpFunc_b1
      simp only
      rw [show ((X.length : Int) != (Y.length : Int)) = false by simp; omega]
      rfl
    · obtain ⟨X1, X2, rfl, h2⟩ : ∃ X1 X2, X = X1 ++ X2 ∧ X1.length = Y.length := ⟨X.take Y.length, X.drop Y.length, by rw [List.take_append_drop], by rw [List.length_take]; omega⟩
      rw [List.length_append] at hk h hx hN hm
      obtain ⟨P', X', Y', Q', r1, r2, r3, r4, r5⟩ := rot_loop cmp m k (P ++ Y) X2 X1 Q (by omega) (by omega) (by omega) (by rw [List.length_append]; omega) (by rw [List.length_append]; omega)
      refine ⟨P', X', Y', Q', ?_, r2, r3, ?_, by rw [List.length_append] at *; omega⟩
      · rw [← r1]
        refine loopM_next ?_
        unfold g_rotateCmpFunc_b1
        simp only [List.length_append]
        rw [show (((X1.length + X2.length : Nat) : Int) != (Y.length : Int)) = true by simp; omega, show decide (((X1.length + X2.length : Nat) : Int) > (Y.length : Int)) = true from decide_eq_true (by omega)]
        simp only [cond_true, cond_false]
        rw [w64_of (n := m - ((X1.length + X2.length : Nat) : Int)) (by omega) (by omega), w64_of (n := ((X1.length + X2.length : Nat) : Int) - (Y.length : Int)) (by omega) (by omega)]
        rw [show P ++ (X1 ++ X2 ++ (Y ++ Q)) = P ++ (X1 ++ (X2 ++ (Y ++ Q))) by simp, swapRange_eq cmp P X1 X2 Y Q h2 (by omega) (by omega) (by omega) (by omega)]
        simp only [Option.bind_some]
        rw [show ((X1.length + X2.length : Nat) : Int) - (Y.length : Int) = (X2.length : Int) by omega, h2]
        simp
      · rw [r4]; simp

theorem rotate_eq (cmp : α → α → Option Int) (P X Y Q : List α) {a m b : Int} (hx : 0 < X.length) (hy : 0 < Y.length) (ha : a = (P.length : Int)) (hm : m = (P.length : Int) + (X.length : Int)) (hb : b = m + (Y.length : Int)) (hN : P.length + X.length + Y.length + Q.length ≤ 1073741824) :
    g_rotateCmpFunc (P ++ (X ++ (Y ++ Q))) a m b cmp = some (P ++ (Y ++ (X ++ Q))) := by
  unfold g_rotateCmpFunc
  rw [w64_of (n := m - a) (by omega) (by omega), w64_of (n := b - m) (by omega) (by omega), show m - a = (X.length : Int) by omega, show b - m = (Y.length : Int) by omega]
  obtain ⟨P', X', Y', Q', r1, r2, r3, r4, r5⟩ := rot_loop cmp m (X.length + Y.length) P X Y Q (Nat.le_refl _) hx hy hm hN
  rw [r1]
  simp only [Option.bind_some]
  rw [w64_of (n := m - (X'.length : Int)) (by omega) (by omega)]
  have := swapRange_eq cmp P' X' [] Y' Q' (a := m - (X'.length : Int)) (b := m) (n := (X'.length : Int)) r2 (by omega) (by simp only [List.length_nil]; omega) rfl (by simp only [List.length_nil]; omega)
  simp only [List.nil_append] at this
  rw [this, Option.bind_some, r4]
end

section
variable {α : Type} {D : α → Prop} {g : α → α → Option Int}

/-- What is asked of a comparison on what D holds: it answers; less is a strict weak order. -/
structure SW (D : α → Prop) (g : α → α → Option Int) : Prop where
  ans : ∀ x y, D x → D y → ∃ c, g x y = some c
  asym : ∀ x y, D x → D y → ltM g x y = true → ltM g y x = false
  ntrans : ∀ x y z, D x → D y → D z → ltM g x y = false → ltM g y z = false → ltM g x z = false

theorem SW.cmp (h : SW D g) {x y : α} (hx : D x) (hy : D y) : ∃ c, g x y = some c ∧ decide (c < 0) = ltM g x y := by
  obtain ⟨c, hc⟩ := h.ans x y hx hy
  exact ⟨c, hc, by unfold ltM; rw [hc]; rfl⟩

abbrev AllD (D : α → Prop) (l : List α) : Prop := ∀ x ∈ l, D x
def eqv (g : α → α → Option Int) (x y : α) : Bool := !ltM g x y && !ltM g y x
/-- The same elements; those that are alike in their order. -/
structure Sta (D : α → Prop) (g : α → α → Option Int) (l r : List α) : Prop where
  perm : r.Perm l
  same : ∀ x, D x → r.filter (eqv g x) = l.filter (eqv g x)
abbrev Srt (g : α → α → Option Int) (l : List α) : Prop := l.Pairwise fun x y => ltM g y x = false

theorem Sta.refl (l : List α) : Sta D g l l := ⟨.refl _, fun _ _ => rfl⟩
theorem Sta.trans {l r s : List α} (h : Sta D g l r) (k : Sta D g r s) : Sta D g l s := ⟨k.perm.trans h.perm, fun x hx => (k.same x hx).trans (h.same x hx)⟩
theorem Sta.app {A A' B B' : List α} (h : Sta D g A A') (k : Sta D g B B') : Sta D g (A ++ B) (A' ++ B') :=
  ⟨h.perm.append k.perm, fun x hx => by rw [List.filter_append, List.filter_append, h.same x hx, k.same x hx]⟩
theorem Sta.len {l r : List α} (h : Sta D g l r) : r.length = l.length := h.perm.length_eq
theorem Sta.all {l r : List α} (h : Sta D g l r) (hl : AllD D l) : AllD D r := fun x hx => hl x (h.perm.mem_iff.1 hx)
theorem Sta.swap (hs : SW D g) {A B : List α} (hA : AllD D A) (hB : AllD D B) (h : ∀ a ∈ A, ∀ b ∈ B, ltM g b a = true) : Sta D g (A ++ B) (B ++ A) := by
  refine ⟨List.perm_append_comm, fun x hx => ?_⟩
  rw [List.filter_append, List.filter_append]
  by_cases he : ∃ a ∈ A, eqv g x a = true
  · obtain ⟨a, ha, hxa⟩ := he
    have : B.filter (eqv g x) = [] := by
      rw [List.filter_eq_nil_iff]
      intro b hb hxb
      unfold eqv at hxa hxb
      simp only [Bool.and_eq_true, Bool.not_eq_true'] at hxa hxb
      have := hs.ntrans b x a (hB b hb) hx (hA a ha) hxb.2 hxa.1
      rw [h a ha b hb] at this
      cases this
    rw [this, List.nil_append, List.append_nil]
  · have : A.filter (eqv g x) = [] := by
      rw [List.filter_eq_nil_iff]
      intro a ha hxa
      exact he ⟨a, ha, hxa⟩
    rw [this, List.nil_append, List.append_nil]
theorem Srt.app {A B : List α} (hA : Srt g A) (hB : Srt g B) (h : ∀ a ∈ A, ∀ b ∈ B, ltM g b a = false) : Srt g (A ++ B) := List.pairwise_append.2 ⟨hA, hB, h⟩
theorem SW.irr (hs : SW D g) {x : α} (hx : D x) : ltM g x x = false := by
  cases h : ltM g x x
  · rfl
  · have := hs.asym x x hx hx h; rw [h] at this; cases this

/-! Insertion. -/
theorem ins_inner (hs : SW D g) (a : Int) : ∀ (n : Nat) (R1 : List α), R1.length = n → ∀ (P : List α) (x : α) (R2 Q : List α), a = (P.length : Int) → AllD D R1 → D x → AllD D R2 → Srt g (R1 ++ R2) → (∀ r ∈ R2, ltM g x r = true) → P.length + R1.length ≤ 1073741824 →
    ∃ (j : Int) (R' : List α), loopM (g_insertionSortCmpFunc_b2 a g) ((P.length : Int) + (R1.length : Int), P ++ (R1 ++ x :: (R2 ++ Q))) = some (.inl (j, P ++ (R' ++ Q))) ∧ Srt g R' ∧ Sta D g (R1 ++ x :: R2) R' := by
  intro n
  induction n with
  | zero =>
    intro R1 h1 P x R2 Q ha _ hx hR2 hsrt hlt hN
    have : R1 = [] := List.length_eq_zero_iff.1 h1
    subst this
    refine ⟨(P.length : Int) + ((0 : Nat) : Int), x :: R2, loopM_out ?_, ?_, Sta.refl _⟩
    · unfold g_insertionSortCmpFunc_b2
      simp only [List.length_nil]
      rw [show decide ((P.length : Int) + ((0 : Nat) : Int) > a) = false from decide_eq_false (by omega)]
      rfl
    · rw [Srt, List.pairwise_cons]
      exact ⟨fun r hr => hs.asym x r hx (hR2 r hr) (hlt r hr), by simpa using hsrt⟩
  | succ n ih =>
    intro R1 h1 P x R2 Q ha hR1 hx hR2 hsrt hlt hN
    have hne : R1 ≠ [] := by intro h; subst h; simp at h1
    obtain ⟨S, y, rfl⟩ : ∃ S y, R1 = S ++ [y] := ⟨R1.dropLast, R1.getLast hne, (List.dropLast_concat_getLast hne).symm⟩
    rw [List.length_append, List.length_singleton] at h1 hN
    have hy : D y := hR1 y (by simp)
    have hS : AllD D S := fun z hz => hR1 z (by simp [hz])
    obtain ⟨c, hc, hcl⟩ := hs.cmp hx hy
    have e1 : P ++ (S ++ [y] ++ x :: (R2 ++ Q)) = (P ++ S) ++ y :: x :: (R2 ++ Q) := by simp
    have e2 : P ++ (S ++ [y] ++ x :: (R2 ++ Q)) = (P ++ S ++ [y]) ++ x :: (R2 ++ Q) := by simp
    have hj : (P.length : Int) + (((S ++ [y]).length : Nat) : Int) = (P.length : Int) + (S.length : Int) + 1 := by rw [List.length_append, List.length_singleton]; omega
    have hb : g_insertionSortCmpFunc_b2 a g ((P.length : Int) + (((S ++ [y]).length : Nat) : Int), P ++ (S ++ [y] ++ x :: (R2 ++ Q))) = some (bif ltM g x y then .inl ((P.length : Int) + (S.length : Int), P ++ (S ++ x :: (y :: R2 ++ Q))) else .inr (.inl ((P.length : Int) + (S.length : Int) + 1, P ++ (S ++ [y] ++ x :: (R2 ++ Q))))) := by
      unfold g_insertionSortCmpFunc_b2
      simp only
      rw [hj, w64_of (n := (P.length : Int) + (S.length : Int) + 1 - 1) (by omega) (by omega), show (P.length : Int) + (S.length : Int) + 1 - 1 = (P.length : Int) + (S.length : Int) by omega]
      rw [show decide ((P.length : Int) + (S.length : Int) + 1 > a) = true from decide_eq_true (by omega)]
      have g1 : getI (P ++ (S ++ [y] ++ x :: (R2 ++ Q))) ((P.length : Int) + (S.length : Int) + 1) = some x := by rw [e2]; exact getI_mid _ _ _ (by simp only [List.length_append, List.length_singleton]; omega)
      have g2 : getI (P ++ (S ++ [y] ++ x :: (R2 ++ Q))) ((P.length : Int) + (S.length : Int)) = some y := by rw [e1]; exact getI_mid _ _ _ (by simp only [List.length_append]; omega)
      have sw := swap3 (P ++ S) y x (R2 ++ Q) (i := (P.length : Int) + (S.length : Int)) (j := (P.length : Int) + (S.length : Int) + 1) (by simp only [List.length_append]; omega) (by simp only [List.length_append]; omega) (fun (f2 : List α) => some (Sum.inl ((P.length : Int) + (S.length : Int), f2) : (Int × List α) ⊕ ((Int × List α) ⊕ Empty)))
      rw [← e1] at sw
      simp only [cond_true]
      rw [sw, g1, Option.bind_some, g2, Option.bind_some, hc, Option.bind_some, hcl, Option.bind_some]
      cases ltM g x y
      · rfl
      · simp
    cases hxy : ltM g x y
    · rw [hxy] at hb
      refine ⟨(P.length : Int) + (S.length : Int) + 1, S ++ [y] ++ x :: R2, ?_, ?_, Sta.refl _⟩
      · rw [loopM_out hb]; simp
      · have h2 := List.pairwise_append.1 hsrt
        refine Srt.app h2.1 ?_ fun p hp q hq => ?_
        · rw [Srt, List.pairwise_cons]
          exact ⟨fun r hr => hs.asym x r hx (hR2 r hr) (hlt r hr), h2.2.1⟩
        · rcases List.mem_cons.1 hq with rfl | hq
          · rcases List.mem_append.1 hp with hp | hp
            · have h3 := (List.pairwise_append.1 h2.1).2.2 p hp y (by simp)
              exact hs.ntrans q y p hx hy (hS p hp) hxy h3
            · rw [List.mem_singleton] at hp; subst hp; exact hxy
          · exact h2.2.2 p hp q hq
    · rw [hxy] at hb
      rw [loopM_next hb]
      obtain ⟨j, R', r1, r2, r3⟩ := ih S (by omega) P x (y :: R2) Q ha hS hx (fun z hz => by rcases List.mem_cons.1 hz with rfl | hz; exact hy; exact hR2 z hz) (by simpa using hsrt) (fun r hr => by
        rcases List.mem_cons.1 hr with rfl | hr
        · exact hxy
        · exact hlt r hr) (by omega)
      refine ⟨j, R', r1, r2, Sta.trans ?_ r3⟩
      have h4 : Sta D g ([y] ++ [x]) ([x] ++ [y]) := Sta.swap hs (fun z hz => by simp at hz; subst hz; exact hy) (fun z hz => by simp at hz; subst hz; exact hx) (fun p hp q hq => by simp at hp hq; subst hp; subst hq; exact hxy)
      have h5 := Sta.app (Sta.refl (D := D) (g := g) S) (Sta.app h4 (Sta.refl R2))
      simpa using h5

theorem ins_outer (hs : SW D g) (a b : Int) (P Q : List α) (ha : a = (P.length : Int)) : ∀ (T R : List α), b = (P.length : Int) + (R.length : Int) + (T.length : Int) → AllD D R → AllD D T → Srt g R → P.length + R.length + T.length ≤ 1073741824 →
    ∃ R', loopM (g_insertionSortCmpFunc_b1 a b g) ((P.length : Int) + (R.length : Int), P ++ (R ++ (T ++ Q))) = some (.inl (b, P ++ (R' ++ Q))) ∧ Srt g R' ∧ Sta D g (R ++ T) R'
  | [], R, hb, _, _, hR, _ => by
    refine ⟨R, loopM_out ?_, hR, by rw [List.append_nil]; exact Sta.refl _⟩
    unfold g_insertionSortCmpFunc_b1
    simp only [List.length_nil] at hb
    simp only
    rw [show decide ((P.length : Int) + (R.length : Int) < b) = false from decide_eq_false (by omega), show (P.length : Int) + (R.length : Int) = b by omega]
    simp
  | x :: T, R, hb, dR, dT, hR, hN => by
    simp only [List.length_cons] at hb hN
    obtain ⟨j, R1, r1, r2, r3⟩ := ins_inner hs a R.length R rfl P x [] (T ++ Q) ha dR (dT x (List.mem_cons_self ..)) (fun z hz => by cases hz) (by rw [List.append_nil]; exact hR) (fun z hz => by cases hz) (by omega)
    have hl : R1.length = R.length + 1 := by have := r3.len; simpa using this
    obtain ⟨R', s1, s2, s3⟩ := ins_outer hs a b P Q ha T R1 (by omega) (r3.all (fun z hz => by
      rcases List.mem_append.1 hz with hz | hz
      · exact dR z hz
      · simp at hz; subst hz; exact dT z (by simp))) (fun z hz => dT z (by simp [hz])) r2 (by omega)
    refine ⟨R', ?_, s2, Sta.trans ?_ s3⟩
    · rw [← s1]
      refine loopM_next ?_
      unfold g_insertionSortCmpFunc_b1
      simp only
      rw [show decide ((P.length : Int) + (R.length : Int) < b) = true from decide_eq_true (by omega), w64_of (n := (P.length : Int) + (R.length : Int) + 1) (by omega) (by omega)]
      simp only [cond_true]
      have e : P ++ (R ++ (x :: T ++ Q)) = P ++ (R ++ x :: ([] ++ (T ++ Q))) := by simp
      rw [e, r1]
      simp only [Option.bind_some]
      rw [hl, show (P.length : Int) + ((R.length + 1 : Nat) : Int) = (P.length : Int) + (R.length : Int) + 1 by omega]
    · have := Sta.app r3 (Sta.refl (D := D) (g := g) T)
      simpa using this

theorem insertion_eq (hs : SW D g) (P A Q : List α) {a b : Int} (ha : a = (P.length : Int)) (hb : b = (P.length : Int) + (A.length : Int)) (dA : AllD D A) (hN : P.length + A.length ≤ 1073741824) :
    ∃ R, g_insertionSortCmpFunc (P ++ (A ++ Q)) a b g = some (P ++ (R ++ Q)) ∧ Srt g R ∧ Sta D g A R := by
  unfold g_insertionSortCmpFunc
  rw [w64_of (n := a + 1) (by omega) (by omega)]
  cases A with
  | nil =>
    refine ⟨[], ?_, .nil, Sta.refl _⟩
    simp only [List.length_nil] at hb
    have : g_insertionSortCmpFunc_b1 a b g (a + 1, P ++ ([] ++ Q)) = some (.inr (.inl (a + 1, P ++ ([] ++ Q)))) := by
      unfold g_insertionSortCmpFunc_b1
      simp only
      rw [show decide (a + 1 < b) = false from decide_eq_false (by omega)]
      rfl
    rw [loopM_out this]; rfl
  | cons x T =>
    simp only [List.length_cons] at hb hN
    obtain ⟨R', s1, s2, s3⟩ := ins_outer hs a b P Q ha T [x] (by simp only [List.length_singleton]; omega) (fun z hz => by simp at hz; subst hz; exact dA z (by simp)) (fun z hz => dA z (by simp [hz])) (by simp) (by simp only [List.length_singleton]; omega)
    refine ⟨R', ?_, s2, s3⟩
    simp only [List.length_singleton] at s1
    rw [show a + 1 = (P.length : Int) + ((1 : Nat) : Int) by omega]
    have e : P ++ (x :: T ++ Q) = P ++ ([x] ++ (T ++ Q)) := by simp
    rw [e, s1]
    rfl

/-! A search by halves. -/
theorem bin_loop {mb : Int × Int → Option ((Int × Int) ⊕ ((Int × Int) ⊕ Empty))} (q : Int → Bool) (lo hi : Int)
    (hstep : ∀ i j, lo ≤ i → i < j → j ≤ hi → mb (i, j) = some (.inl (bif q ((i + j) / 2) then ((i + j) / 2 + 1, j) else (i, (i + j) / 2)))) (hstop : ∀ i, lo ≤ i → i ≤ hi → mb (i, i) = some (.inr (.inl (i, i)))) :
    ∀ (k : Nat) (i j : Int), (j - i).toNat ≤ k → lo ≤ i → i ≤ j → j ≤ hi → (i = lo ∨ q (i - 1) = true) → (j = hi ∨ q j = false) → ∃ s, loopM mb (i, j) = some (.inl (s, s)) ∧ lo ≤ s ∧ s ≤ hi ∧ (s = lo ∨ q (s - 1) = true) ∧ (s = hi ∨ q s = false)
  | 0, i, j, hk, h1, h2, h3, h4, h5 => by
    have : i = j := by omega
    subst this
    exact ⟨i, loopM_out (hstop i h1 h3), h1, h3, h4, h5⟩
  | k + 1, i, j, hk, h1, h2, h3, h4, h5 => by
    rcases Int.lt_or_eq_of_le h2 with h | h
    · have hst := hstep i j h1 h h3
      cases hq : q ((i + j) / 2)
      · rw [hq] at hst
        rw [loopM_next hst]
        exact bin_loop q lo hi hstep hstop k i ((i + j) / 2) (by omega) h1 (by omega) (by omega) h4 (.inr hq)
      · rw [hq] at hst
        rw [loopM_next hst]
        exact bin_loop q lo hi hstep hstop k ((i + j) / 2 + 1) j (by omega) (by omega) (by omega) h3 (.inr (by rw [Int.add_sub_cancel]; exact hq)) h5
    · subst h
      exact ⟨i, loopM_out (hstop i h1 h3), h1, h3, h4, h5⟩
end

section
variable {α : Type} {D : α → Prop} {g : α → α → Option Int}

/-- What a search asks at place h of a list. -/
def atI (l : List α) (h : Int) (p : α → Bool) : Bool := match getI l h with | some z => p z | none => false
theorem atI_of {l : List α} {h : Int} {z : α} (e : getI l h = some z) (p : α → Bool) : atI l h p = p z := by unfold atI; rw [e]

theorem getI_seg (P A Q : List α) (t : Nat) (h : t < A.length) {i : Int} (hi : i = (P.length : Int) + (t : Int)) : getI (P ++ (A ++ Q)) i = some A[t] := by
  subst hi
  rw [show (P.length : Int) + (t : Int) = ((P.length + t : Nat) : Int) by omega, getI_nat, List.getElem?_append_right (by omega), Nat.add_sub_cancel_left, List.getElem?_append_left h, List.getElem?_eq_getElem h]

/-- The moves of the one at the left end to the right. -/
theorem shiftR (s : Int × Int) : ∀ (B P : List α) (x : α) (R : List α), s.1 - 1 = (P.length : Int) + (B.length : Int) → P.length + B.length ≤ 1073741824 →
    loopM (g_symMergeCmpFunc_b2 s) ((P.length : Int), P ++ x :: (B ++ R)) = some (.inl ((P.length : Int) + (B.length : Int), P ++ (B ++ x :: R)))
  | [], P, x, R, hs, hN => by
    refine loopM_out ?_
    unfold g_symMergeCmpFunc_b2
    simp only [List.length_nil] at hs ⊢
    rw [w64_of (n := s.1 - 1) (by omega) (by omega), show decide ((P.length : Int) < s.1 - 1) = false from decide_eq_false (by omega), show (P.length : Int) + ((0 : Nat) : Int) = (P.length : Int) by omega]
    rfl
  | y :: B, P, x, R, hs, hN => by
    simp only [List.length_cons] at hs hN
    have ih := shiftR s B (P ++ [y]) x R (by simp only [List.length_append, List.length_singleton]; omega) (by simp only [List.length_append, List.length_singleton]; omega)
    have e : loopM (g_symMergeCmpFunc_b2 s) ((P.length : Int), P ++ x :: (y :: B ++ R)) = loopM (g_symMergeCmpFunc_b2 s) (((P ++ [y]).length : Int), (P ++ [y]) ++ x :: (B ++ R)) := by
      refine loopM_next ?_
      unfold g_symMergeCmpFunc_b2
      simp only
      rw [w64_of (n := s.1 - 1) (by omega) (by omega), w64_of (n := (P.length : Int) + 1) (by omega) (by omega), show decide ((P.length : Int) < s.1 - 1) = true from decide_eq_true (by omega)]
      simp only [cond_true]
      have sw := swap2 P x [] y (B ++ R) (i := (P.length : Int)) (j := (P.length : Int) + 1) rfl (by simp only [List.length_nil]; omega) (fun (f2 : List α) => some (Sum.inl ((P.length : Int) + 1, f2) : (Int × List α) ⊕ ((Int × List α) ⊕ Empty)))
      simp only [List.nil_append] at sw
      rw [show x :: (y :: B ++ R) = x :: y :: (B ++ R) from rfl, sw]
      simp
    rw [e, ih]
    have hl : (((P ++ [y]).length : Nat) : Int) + (B.length : Int) = (P.length : Int) + (((y :: B).length : Nat) : Int) := by
      simp only [List.length_append, List.length_cons, List.length_nil]; omega
    rw [hl, show P ++ [y] ++ (B ++ x :: R) = P ++ (y :: B ++ x :: R) by simp]

/-- The moves of the one at the right end to the left. -/
theorem shiftL (s : Int × Int) : ∀ (n : Nat) (A : List α), A.length = n → ∀ (P : List α) (x : α) (R : List α), s.1 = (P.length : Int) → P.length + A.length ≤ 1073741824 →
    loopM (g_symMergeCmpFunc_b4 s) ((P.length : Int) + (A.length : Int), P ++ (A ++ x :: R)) = some (.inl ((P.length : Int), P ++ x :: (A ++ R))) := by
  intro n
  induction n with
  | zero =>
    intro A hA P x R hs hN
    have : A = [] := List.length_eq_zero_iff.1 hA
    subst this
    refine loopM_out ?_
    unfold g_symMergeCmpFunc_b4
    simp only [List.length_nil]
    rw [show decide ((P.length : Int) + ((0 : Nat) : Int) > s.1) = false from decide_eq_false (by omega), show (P.length : Int) + ((0 : Nat) : Int) = (P.length : Int) by omega]
    rfl
  | succ n ih =>
    intro A hA P x R hs hN
    have hne : A ≠ [] := by intro h; subst h; simp at hA
    obtain ⟨S, y, rfl⟩ : ∃ S y, A = S ++ [y] := ⟨A.dropLast, A.getLast hne, (List.dropLast_concat_getLast hne).symm⟩
    rw [List.length_append, List.length_singleton] at hA hN
    have ih' := ih S (by omega) P x (y :: R) hs (by omega)
    have e : loopM (g_symMergeCmpFunc_b4 s) ((P.length : Int) + (((S ++ [y]).length : Nat) : Int), P ++ ((S ++ [y]) ++ x :: R)) = loopM (g_symMergeCmpFunc_b4 s) ((P.length : Int) + (S.length : Int), P ++ (S ++ x :: y :: R)) := by
      refine loopM_next ?_
      have hj : (P.length : Int) + (((S ++ [y]).length : Nat) : Int) = (P.length : Int) + (S.length : Int) + 1 := by rw [List.length_append, List.length_singleton]; omega
      unfold g_symMergeCmpFunc_b4
      simp only
      rw [hj, w64_of (n := (P.length : Int) + (S.length : Int) + 1 - 1) (by omega) (by omega), show (P.length : Int) + (S.length : Int) + 1 - 1 = (P.length : Int) + (S.length : Int) by omega, show decide ((P.length : Int) + (S.length : Int) + 1 > s.1) = true from decide_eq_true (by omega)]
      simp only [cond_true]
      have e1 : P ++ (S ++ [y] ++ x :: R) = (P ++ S) ++ y :: x :: R := by simp
      have sw := swap3 (P ++ S) y x R (i := (P.length : Int) + (S.length : Int)) (j := (P.length : Int) + (S.length : Int) + 1) (by simp only [List.length_append]; omega) (by simp only [List.length_append]; omega) (fun (f2 : List α) => some (Sum.inl ((P.length : Int) + (S.length : Int), f2) : (Int × List α) ⊕ ((Int × List α) ⊕ Empty)))
      rw [e1, sw]
      simp
    rw [e, ih']
    simp

theorem srt_get {A : List α} (h : Srt g A) {i j : Nat} (hi : i < A.length) (hj : j < A.length) (hij : i < j) : ltM g A[j] A[i] = false := by
  rw [Srt, List.pairwise_iff_getElem] at h
  exact h i j hi hj hij

/-- The base where the left part is one element. -/
theorem sym_left (hs : SW D g) (P : List α) (x : α) (B Q : List α) {a m b : Int} (ha : a = (P.length : Int)) (hm : m = a + 1) (hb : b = m + (B.length : Int)) (dx : D x) (dB : AllD D B) (sB : Srt g B) (hN : P.length + B.length ≤ 1000000000) :
    ∃ R, (Option.bind (loopM (g_symMergeCmpFunc_b1 (P ++ x :: (B ++ Q)) a g) (m, b)) fun (t : (Int × Int) ⊕ Empty) => match t with | .inl s2 => (Option.bind (loopM (g_symMergeCmpFunc_b2 s2) (a, P ++ x :: (B ++ Q))) fun (t : (Int × List α) ⊕ Empty) => match t with | .inl s4 => (some s4.2) | .inr r => r.elim) | .inr r => r.elim) = some (P ++ (R ++ Q)) ∧ Srt g R ∧ Sta D g (x :: B) R := by
  have ga : getI (P ++ x :: (B ++ Q)) a = some x := getI_mid _ _ _ ha
  have gB : ∀ (t : Nat) (ht : t < B.length) (i : Int), i = m + (t : Int) → getI (P ++ x :: (B ++ Q)) i = some B[t] := fun t ht i hi => by
    have e : P ++ x :: (B ++ Q) = (P ++ [x]) ++ (B ++ Q) := by simp
    rw [e]
    exact getI_seg _ _ _ t ht (by simp only [List.length_append, List.length_singleton]; omega)
  obtain ⟨s, k1, k2, k3, k4, k5⟩ := bin_loop (mb := g_symMergeCmpFunc_b1 (P ++ x :: (B ++ Q)) a g) (fun h => atI (P ++ x :: (B ++ Q)) h fun z => ltM g z x) m b (fun i j h1 h2 h3 => by
    have hg := gB ((i + j) / 2 - m).toNat (by omega) ((i + j) / 2) (by omega)
    rw [atI_of hg]
    unfold g_symMergeCmpFunc_b1
    simp only
    rw [show decide (i < j) = true from decide_eq_true h2, half_eq (x := i + j) (by omega) (by omega), w64_of (n := (i + j) / 2 + 1) (by omega) (by omega)]
    simp only [cond_true]
    obtain ⟨c, hc, hcl⟩ := hs.cmp (dB _ (List.getElem_mem (show ((i + j) / 2 - m).toNat < B.length by omega))) dx
    rw [hg, Option.bind_some, ga, Option.bind_some, hc, Option.bind_some, hcl]
    cases ltM g (B[((i + j) / 2 - m).toNat]'(by omega)) x <;> rfl) (fun i h1 h2 => by
    unfold g_symMergeCmpFunc_b1
    simp only
    rw [show decide (i < i) = false from decide_eq_false (by omega)]
    rfl) (b - m).toNat m b (Nat.le_refl _) (by omega) (by omega) (by omega) (.inl rfl) (.inl rfl)
  rw [k1]
  simp only [Option.bind_some]
  obtain ⟨B1, B2, rfl, hB1⟩ : ∃ B1 B2, B = B1 ++ B2 ∧ B1.length = (s - m).toNat := ⟨B.take (s - m).toNat, B.drop (s - m).toNat, by rw [List.take_append_drop], by rw [List.length_take]; omega⟩
  rw [List.length_append] at hb hN
  have lo : ∀ z ∈ B1, ltM g z x = true := fun z hz => by
    obtain ⟨t, ht, rfl⟩ := List.mem_iff_getElem.1 hz
    have hlast : ltM g (B1[B1.length - 1]'(by omega)) x = true := by
      rcases k4 with k4 | k4
      · omega
      · rw [atI_of (gB (B1.length - 1) (by rw [List.length_append]; omega) (s - 1) (by omega)), List.getElem_append_left (by omega)] at k4
        exact k4
    by_cases e : t = B1.length - 1
    · subst e; exact hlast
    · have h1 := srt_get (List.pairwise_append.1 sB).1 (i := t) (j := B1.length - 1) ht (by omega) (by omega)
      cases h2 : ltM g B1[t] x
      · have := hs.ntrans _ _ _ (dB _ (List.mem_append_left _ (List.getElem_mem (show B1.length - 1 < B1.length by omega)))) (dB _ (List.mem_append_left _ hz)) dx h1 h2
        rw [hlast] at this; cases this
      · rfl
  have hi : ∀ z ∈ B2, ltM g z x = false := fun z hz => by
    obtain ⟨t, ht, rfl⟩ := List.mem_iff_getElem.1 hz
    have hfirst : ltM g (B2[0]'(by omega)) x = false := by
      rcases k5 with k5 | k5
      · omega
      · rw [atI_of (gB B1.length (by rw [List.length_append]; omega) s (by omega)), List.getElem_append_right (Nat.le_refl _)] at k5
        simpa using k5
    by_cases e : t = 0
    · subst e; exact hfirst
    · have h1 := srt_get (List.pairwise_append.1 sB).2.1 (i := 0) (j := t) (by omega) ht (by omega)
      exact hs.ntrans _ _ _ (dB _ (List.mem_append_right _ hz)) (dB _ (List.mem_append_right _ (List.getElem_mem (show 0 < B2.length by omega)))) dx h1 hfirst
  have dB1 : AllD D B1 := fun z hz => dB z (List.mem_append_left _ hz)
  have dB2 : AllD D B2 := fun z hz => dB z (List.mem_append_right _ hz)
  refine ⟨B1 ++ x :: B2, ?_, ?_, ?_⟩
  · have h1 := shiftR (s, s) B1 P x (B2 ++ Q) (by simp only; omega) (by omega)
    rw [ha, List.append_assoc, h1]
    simp
  · refine Srt.app (List.pairwise_append.1 sB).1 ?_ fun p hp q hq => ?_
    · rw [Srt, List.pairwise_cons]
      exact ⟨hi, (List.pairwise_append.1 sB).2.1⟩
    · rcases List.mem_cons.1 hq with rfl | hq
      · exact hs.asym _ _ (dB1 p hp) dx (lo p hp)
      · exact (List.pairwise_append.1 sB).2.2 p hp q hq
  · have h1 : Sta D g ([x] ++ B1) (B1 ++ [x]) := Sta.swap hs (fun z hz => by simp at hz; subst hz; exact dx) dB1 (fun p hp q hq => by simp at hp; subst hp; exact lo q hq)
    have := Sta.app h1 (Sta.refl (D := D) (g := g) B2)
    simpa using this

/-- The base where the right part is one element. -/
theorem sym_right (hs : SW D g) (P : List α) (x : α) (A Q : List α) {a m : Int} (ha : a = (P.length : Int)) (hm : m = a + (A.length : Int)) (dx : D x) (dA : AllD D A) (sA : Srt g A) (hN : P.length + A.length ≤ 1000000000) :
    ∃ R, (Option.bind (loopM (g_symMergeCmpFunc_b3 (P ++ (A ++ x :: Q)) m g) (a, m)) fun (t : (Int × Int) ⊕ Empty) => match t with | .inl s6 => (Option.bind (loopM (g_symMergeCmpFunc_b4 s6) (m, P ++ (A ++ x :: Q))) fun (t : (Int × List α) ⊕ Empty) => match t with | .inl s8 => (some s8.2) | .inr r => r.elim) | .inr r => r.elim) = some (P ++ (R ++ Q)) ∧ Srt g R ∧ Sta D g (A ++ [x]) R := by
  have gm : getI (P ++ (A ++ x :: Q)) m = some x := by
    have e : P ++ (A ++ x :: Q) = (P ++ A) ++ x :: Q := by simp
    rw [e]
    exact getI_mid _ _ _ (by simp only [List.length_append]; omega)
  have gA : ∀ (t : Nat) (ht : t < A.length) (i : Int), i = a + (t : Int) → getI (P ++ (A ++ x :: Q)) i = some A[t] := fun t ht i hi => getI_seg _ _ _ t ht (by omega)
  obtain ⟨s, k1, k2, k3, k4, k5⟩ := bin_loop (mb := g_symMergeCmpFunc_b3 (P ++ (A ++ x :: Q)) m g) (fun h => atI (P ++ (A ++ x :: Q)) h fun z => !ltM g x z) a m (fun i j h1 h2 h3 => by
    have hg := gA ((i + j) / 2 - a).toNat (by omega) ((i + j) / 2) (by omega)
    rw [atI_of hg]
    unfold g_symMergeCmpFunc_b3
    simp only
    rw [show decide (i < j) = true from decide_eq_true h2, half_eq (x := i + j) (by omega) (by omega), w64_of (n := (i + j) / 2 + 1) (by omega) (by omega)]
    simp only [cond_true]
    obtain ⟨c, hc, hcl⟩ := hs.cmp dx (dA _ (List.getElem_mem (show ((i + j) / 2 - a).toNat < A.length by omega)))
    rw [gm, Option.bind_some, hg, Option.bind_some, hc, Option.bind_some, hcl]
    cases ltM g x (A[((i + j) / 2 - a).toNat]'(by omega)) <;> rfl) (fun i h1 h2 => by
    unfold g_symMergeCmpFunc_b3
    simp only
    rw [show decide (i < i) = false from decide_eq_false (by omega)]
    rfl) (m - a).toNat a m (Nat.le_refl _) (by omega) (by omega) (by omega) (.inl rfl) (.inl rfl)
  rw [k1]
  simp only [Option.bind_some]
  obtain ⟨A1, A2, rfl, hA1⟩ : ∃ A1 A2, A = A1 ++ A2 ∧ A1.length = (s - a).toNat := ⟨A.take (s - a).toNat, A.drop (s - a).toNat, by rw [List.take_append_drop], by rw [List.length_take]; omega⟩
  rw [List.length_append] at hm hN
  have dA1 : AllD D A1 := fun z hz => dA z (List.mem_append_left _ hz)
  have dA2 : AllD D A2 := fun z hz => dA z (List.mem_append_right _ hz)
  have lo : ∀ z ∈ A1, ltM g x z = false := fun z hz => by
    obtain ⟨t, ht, rfl⟩ := List.mem_iff_getElem.1 hz
    have hlast : ltM g x (A1[A1.length - 1]'(by omega)) = false := by
      rcases k4 with k4 | k4
      · omega
      · rw [atI_of (gA (A1.length - 1) (by rw [List.length_append]; omega) (s - 1) (by omega)), List.getElem_append_left (by omega)] at k4
        simpa using k4
    by_cases e : t = A1.length - 1
    · subst e; exact hlast
    · have h1 := srt_get (List.pairwise_append.1 sA).1 (i := t) (j := A1.length - 1) ht (by omega) (by omega)
      exact hs.ntrans _ _ _ dx (dA1 _ (List.getElem_mem (show A1.length - 1 < A1.length by omega))) (dA1 _ hz) hlast h1
  have hi : ∀ z ∈ A2, ltM g x z = true := fun z hz => by
    obtain ⟨t, ht, rfl⟩ := List.mem_iff_getElem.1 hz
    have hfirst : ltM g x (A2[0]'(by omega)) = true := by
      rcases k5 with k5 | k5
      · omega
      · rw [atI_of (gA A1.length (by rw [List.length_append]; omega) s (by omega)), List.getElem_append_right (Nat.le_refl _)] at k5
        simpa using k5
    by_cases e : t = 0
    · subst e; exact hfirst
    · have h1 := srt_get (List.pairwise_append.1 sA).2.1 (i := 0) (j := t) (by omega) ht (by omega)
      cases h2 : ltM g x A2[t]
      · have := hs.ntrans _ _ _ dx (dA2 _ hz) (dA2 _ (List.getElem_mem (show 0 < A2.length by omega))) h2 h1
        rw [hfirst] at this; cases this
      · rfl
  refine ⟨A1 ++ x :: A2, ?_, ?_, ?_⟩
  · have h1 := shiftL (s, s) A2.length A2 rfl (P ++ A1) x Q (by simp only [List.length_append]; omega) (by simp only [List.length_append]; omega)
    have e1 : P ++ (A1 ++ A2 ++ x :: Q) = (P ++ A1) ++ (A2 ++ x :: Q) := by simp
    rw [e1, show m = (((P ++ A1).length : Nat) : Int) + (A2.length : Int) by simp only [List.length_append]; omega, h1]
    simp
  · refine Srt.app (List.pairwise_append.1 sA).1 ?_ fun p hp q hq => ?_
    · rw [Srt, List.pairwise_cons]
      exact ⟨fun z hz => hs.asym _ _ dx (dA2 z hz) (hi z hz), (List.pairwise_append.1 sA).2.1⟩
    · rcases List.mem_cons.1 hq with rfl | hq
      · exact lo p hp
      · exact (List.pairwise_append.1 sA).2.2 p hp q hq
  · have h1 : Sta D g (A2 ++ [x]) ([x] ++ A2) := Sta.swap hs dA2 (fun z hz => by simp at hz; subst hz; exact dx) (fun p hp q hq => by simp at hq; subst hq; exact hi p hp)
    have := Sta.app (Sta.refl (D := D) (g := g) A1) h1
    simpa using this
end

section
variable {α : Type} {D : α → Prop} {g : α → α → Option Int}

theorem symMerge_eq (hs : SW D g) : ∀ (fu : Nat) (P A B Q : List α) (a m b : Int), a = (P.length : Int) → m = a + (A.length : Int) → b = m + (B.length : Int) → 0 < A.length → 0 < B.length → A.length + B.length ≤ 2 ^ fu → AllD D A → AllD D B → Srt g A → Srt g B → P.length + A.length + B.length + Q.length ≤ 1000000000 →
    ∃ R, g_symMergeCmpFunc fu (P ++ (A ++ (B ++ Q))) a m b g = some (P ++ (R ++ Q)) ∧ Srt g R ∧ Sta D g (A ++ B) R := by
  intro fu
  induction fu with
  | zero => intro P A B Q a m b _ _ _ h1 h2 h3; exfalso; simp at h3; omega
  | succ fu ih =>
    intro P A B Q a m b ha hm hb hA hB hsz dA dB sA sB hN
    rw [show g_symMergeCmpFunc (α := α) (fu + 1) = g_symMergeCmpFunc_s (g_symMergeCmpFunc fu) from rfl]
    unfold g_symMergeCmpFunc_s
    rw [w64_of (n := m - a) (by omega) (by omega), w64_of (n := b - m) (by omega) (by omega), half_eq (x := a + b) (by omega) (by omega)]
    by_cases hA1 : A.length = 1
    · -- one element at the left
      obtain ⟨x, rfl⟩ : ∃ x, A = [x] := List.length_eq_one_iff.1 hA1
      rw [show (m - a == 1) = true by simp; simp only [List.length_singleton] at hm; omega]
      simp only [cond_true]
      obtain ⟨R, r1, r2, r3⟩ := sym_left hs P x B Q (a := a) (m := m) (b := b) ha (by simp only [List.length_singleton] at hm; omega) hb (dA x (by simp)) dB sB (by omega)
      exact ⟨R, r1, r2, r3⟩
    · rw [show (m - a == 1) = false by simp; omega]
      simp only [cond_false]
      by_cases hB1 : B.length = 1
      · obtain ⟨x, rfl⟩ : ∃ x, B = [x] := List.length_eq_one_iff.1 hB1
        rw [show (b - m == 1) = true by simp; simp only [List.length_singleton] at hb; omega]
        simp only [cond_true]
        exact sym_right hs P x A Q (a := a) (m := m) ha hm (dB x (by simp)) dA sA (by omega)
      · rw [show (b - m == 1) = false by simp; omega]
        simp only [cond_false]
        generalize hmid : (a + b) / 2 = mid
        rw [w64_of (n := mid + m) (by omega) (by omega), w64_of (n := mid + m - b) (by omega) (by omega)]
        have hL : (P ++ (A ++ (B ++ Q))) = P ++ ((A ++ B) ++ Q) := by simp
        have gA : ∀ (t : Nat) (ht : t < A.length) (i : Int), i = a + (t : Int) → getI (P ++ (A ++ (B ++ Q))) i = some A[t] := fun t ht i hi => getI_seg _ _ _ t ht (by omega)
        have gB : ∀ (t : Nat) (ht : t < B.length) (i : Int), i = m + (t : Int) → getI (P ++ (A ++ (B ++ Q))) i = some B[t] := fun t ht i hi => by
          have e : P ++ (A ++ (B ++ Q)) = (P ++ A) ++ (B ++ Q) := by simp
          rw [e]
          exact getI_seg _ _ _ t ht (by simp only [List.length_append]; omega)
        obtain ⟨lo, hi, hpair, hlo1, hlohi, hhi1, hcase⟩ : ∃ lo hi : Int, (bif decide (m > mid) then some (mid + m - b, mid) else some (a, m)) = some (lo, hi) ∧ a ≤ lo ∧ lo ≤ hi ∧ hi ≤ m ∧ ((m > mid ∧ lo = mid + m - b ∧ hi = mid) ∨ (m ≤ mid ∧ lo = a ∧ hi = m)) := by
          by_cases h : m > mid
          · exact ⟨mid + m - b, mid, by rw [decide_eq_true h]; rfl, by omega, by omega, by omega, .inl ⟨h, rfl, rfl⟩⟩
          · exact ⟨a, m, by rw [decide_eq_false h]; rfl, by omega, by omega, by omega, .inr ⟨by omega, rfl, rfl⟩⟩
        rw [hpair]
        simp only [Option.bind_some]
        obtain ⟨s, k1, k2, k3, k4, k5⟩ := bin_loop (mb := g_symMergeCmpFunc_b5 (P ++ (A ++ (B ++ Q))) a m b g) (fun h => atI (P ++ (A ++ (B ++ Q))) h fun x => atI (P ++ (A ++ (B ++ Q))) (mid + m - 1 - h) fun y => !ltM g y x) lo hi (fun i j h1 h2 h3 => by
          have hg := gA ((i + j) / 2 - a).toNat (by omega) ((i + j) / 2) (by omega)
          have hg2 := gB (mid + m - 1 - (i + j) / 2 - m).toNat (by omega) (mid + m - 1 - (i + j) / 2) (by omega)
          rw [atI_of hg, atI_of hg2]
          unfold g_symMergeCmpFunc_b5
          simp only
          rw [show decide (i < j) = true from decide_eq_true h2, half_eq (x := i + j) (by omega) (by omega), half_eq (x := a + b) (by omega) (by omega), hmid, w64_of (n := (i + j) / 2 + 1) (by omega) (by omega), w64_of (n := mid + m) (by omega) (by omega), w64_of (n := mid + m - 1) (by omega) (by omega), w64_of (n := mid + m - 1 - (i + j) / 2) (by omega) (by omega)]
          simp only [cond_true]
          obtain ⟨c, hc, hcl⟩ := hs.cmp (dB _ (List.getElem_mem (show (mid + m - 1 - (i + j) / 2 - m).toNat < B.length by omega))) (dA _ (List.getElem_mem (show ((i + j) / 2 - a).toNat < A.length by omega)))
          rw [hg2, Option.bind_some, hg, Option.bind_some, hc, Option.bind_some, hcl]
          cases ltM g (B[(mid + m - 1 - (i + j) / 2 - m).toNat]'(by omega)) (A[((i + j) / 2 - a).toNat]'(by omega)) <;> rfl) (fun i h1 h2 => by
          unfold g_symMergeCmpFunc_b5
          simp only
          rw [show decide (i < i) = false from decide_eq_false (by omega)]
          rfl) (hi - lo).toNat lo hi (Nat.le_refl _) (by omega) (by omega) (by omega) (.inl rfl) (.inl rfl)
        rw [k1]
        simp only [Option.bind_some]
        rw [w64_of (n := mid + m - s) (by omega) (by omega)]
        have hs1 : a ≤ s ∧ s ≤ m ∧ m ≤ mid + m - s ∧ mid + m - s ≤ b := by omega
        obtain ⟨A1, A2, rfl, hA1⟩ : ∃ A1 A2, A = A1 ++ A2 ∧ A1.length = (s - a).toNat := ⟨A.take (s - a).toNat, A.drop (s - a).toNat, by rw [List.take_append_drop], by rw [List.length_take]; omega⟩
        obtain ⟨B1, B2, rfl, hB1⟩ : ∃ B1 B2, B = B1 ++ B2 ∧ B1.length = (mid - s).toNat := ⟨B.take (mid - s).toNat, B.drop (mid - s).toNat, by rw [List.take_append_drop], by rw [List.length_take]; omega⟩
        rw [List.length_append] at hm hb hA hB
        rw [List.length_append, List.length_append] at hsz hN
        have dA1 : AllD D A1 := fun z hz => dA z (List.mem_append_left _ hz)
        have dA2 : AllD D A2 := fun z hz => dA z (List.mem_append_right _ hz)
        have dB1 : AllD D B1 := fun z hz => dB z (List.mem_append_left _ hz)
        have dB2 : AllD D B2 := fun z hz => dB z (List.mem_append_right _ hz)
        obtain ⟨sA1, sA2, sA12⟩ := List.pairwise_append.1 sA
        obtain ⟨sB1, sB2, sB12⟩ := List.pairwise_append.1 sB
        -- what the search has found
        have lt1 : ∀ x ∈ A2, ∀ y ∈ B1, ltM g y x = true := fun x hx y hy => by
          obtain ⟨t, ht, rfl⟩ := List.mem_iff_getElem.1 hx
          obtain ⟨u, hu, rfl⟩ := List.mem_iff_getElem.1 hy
          have hbase : ltM g (B1[B1.length - 1]'(by omega)) (A2[0]'(by omega)) = true := by
            rcases k5 with k5 | k5
            · omega
            · rw [atI_of (gA A1.length (by rw [List.length_append]; omega) s (by omega)), atI_of (gB (B1.length - 1) (by rw [List.length_append]; omega) (mid + m - 1 - s) (by omega)), List.getElem_append_right (Nat.le_refl _), List.getElem_append_left (by omega)] at k5
              simpa using k5
          have h1 : ltM g (A2[t]) (A2[0]'(by omega)) = false := by
            by_cases e : t = 0
            · subst e; exact hs.irr (dA2 _ hx)
            · exact srt_get sA2 (by omega) ht (by omega)
          have h2 : ltM g (B1[B1.length - 1]'(by omega)) (B1[u]) = false := by
            by_cases e : u = B1.length - 1
            · subst e; exact hs.irr (dB1 _ hy)
            · exact srt_get sB1 hu (by omega) (by omega)
          have dl : D (B1[B1.length - 1]'(by omega)) := dB1 _ (List.getElem_mem (by omega))
          have df : D (A2[0]'(by omega)) := dA2 _ (List.getElem_mem (by omega))
          cases h3 : ltM g B1[u] A2[t]
          · have h4 := hs.ntrans _ _ _ (dB1 _ hy) (dA2 _ hx) df h3 h1
            have h5 := hs.ntrans _ _ _ dl (dB1 _ hy) df h2 h4
            rw [hbase] at h5; cases h5
          · rfl
        have lt2 : ∀ x ∈ A1, ∀ y ∈ B2, ltM g y x = false := fun x hx y hy => by
          obtain ⟨t, ht, rfl⟩ := List.mem_iff_getElem.1 hx
          obtain ⟨u, hu, rfl⟩ := List.mem_iff_getElem.1 hy
          have hbase : ltM g (B2[0]'(by omega)) (A1[A1.length - 1]'(by omega)) = false := by
            rcases k4 with k4 | k4
            · omega
            · rw [atI_of (gA (A1.length - 1) (by rw [List.length_append]; omega) (s - 1) (by omega)), atI_of (gB B1.length (by rw [List.length_append]; omega) (mid + m - 1 - (s - 1)) (by omega)), List.getElem_append_right (Nat.le_refl _), List.getElem_append_left (by omega)] at k4
              simpa using k4
          have dl : D (A1[A1.length - 1]'(by omega)) := dA1 _ (List.getElem_mem (by omega))
          have df : D (B2[0]'(by omega)) := dB2 _ (List.getElem_mem (by omega))
          have h1 : ltM g (A1[A1.length - 1]'(by omega)) (A1[t]) = false := by
            by_cases e : t = A1.length - 1
            · subst e; exact hs.irr (dA1 _ hx)
            · exact srt_get sA1 ht (by omega) (by omega)
          have h2 : ltM g (B2[u]) (B2[0]'(by omega)) = false := by
            by_cases e : u = 0
            · subst e; exact hs.irr (dB2 _ hy)
            · exact srt_get sB2 (by omega) hu (by omega)
          exact hs.ntrans _ _ _ (dB2 _ hy) dl (dA1 _ hx) (hs.ntrans _ _ _ (dB2 _ hy) df dl h2 hbase) h1
        -- the turn
        have hrot : (Option.bind (bif (decide (s < m) && decide (m < mid + m - s)) then (Option.bind (g_rotateCmpFunc (P ++ (A1 ++ A2 ++ (B1 ++ B2 ++ Q))) s m (mid + m - s) g) fun v4 => some v4) else (some (P ++ (A1 ++ A2 ++ (B1 ++ B2 ++ Q))))) : (List α → Option (List α)) → Option (List α)) = fun k => k (P ++ (A1 ++ (B1 ++ (A2 ++ (B2 ++ Q))))) := by
          funext k
          by_cases h : s < m ∧ m < mid + m - s
          · rw [decide_eq_true h.1, decide_eq_true h.2]
            have e : P ++ (A1 ++ A2 ++ (B1 ++ B2 ++ Q)) = (P ++ A1) ++ (A2 ++ (B1 ++ (B2 ++ Q))) := by simp
            rw [e, rotate_eq g (P ++ A1) A2 B1 (B2 ++ Q) (by omega) (by omega) (by simp only [List.length_append]; omega) (by simp only [List.length_append]; omega) (by omega) (by simp only [List.length_append]; omega)]
            simp
          · have e : P ++ (A1 ++ A2 ++ (B1 ++ B2 ++ Q)) = P ++ (A1 ++ (B1 ++ (A2 ++ (B2 ++ Q)))) := by
              by_cases h2 : A2 = []
              · subst h2; simp
              · have : B1 = [] := by
                  have h3 : 0 < A2.length := List.length_pos_iff.2 h2
                  exact List.length_eq_zero_iff.1 (by omega)
                subst this; simp
            rw [show (decide (s < m) && decide (m < mid + m - s)) = false by rw [Bool.and_eq_false_iff, decide_eq_false_iff_not, decide_eq_false_iff_not]; omega, e]
            rfl
        rw [hrot]
        dsimp only
        -- the left half
        obtain ⟨R1, rec1, sR1, tR1⟩ : ∃ R1, (Option.bind (bif (decide (a < s) && decide (s < mid)) then (Option.bind (g_symMergeCmpFunc fu (P ++ (A1 ++ (B1 ++ (A2 ++ (B2 ++ Q))))) a s mid g) fun v5 => some v5) else (some (P ++ (A1 ++ (B1 ++ (A2 ++ (B2 ++ Q))))))) : (List α → Option (List α)) → Option (List α)) = (fun k => k (P ++ (R1 ++ (A2 ++ (B2 ++ Q))))) ∧ Srt g R1 ∧ Sta D g (A1 ++ B1) R1 := by
          by_cases h : a < s ∧ s < mid
          · obtain ⟨R1, r1, r2, r3⟩ := ih P A1 B1 (A2 ++ (B2 ++ Q)) a s mid ha (by omega) (by omega) (by omega) (by omega) (by rw [Nat.pow_succ] at hsz; omega) dA1 dB1 sA1 sB1 (by simp only [List.length_append]; omega)
            refine ⟨R1, ?_, r2, r3⟩
            funext k
            rw [decide_eq_true h.1, decide_eq_true h.2]
            simp only [Bool.and_self, cond_true]
            rw [r1]
            rfl
          · refine ⟨A1 ++ B1, ?_, ?_, Sta.refl _⟩
            · funext k
              rw [show (decide (a < s) && decide (s < mid)) = false by rw [Bool.and_eq_false_iff, decide_eq_false_iff_not, decide_eq_false_iff_not]; omega]
              simp
            · by_cases h2 : A1 = []
              · subst h2; simpa using sB1
              · have : B1 = [] := by
                  have h3 : 0 < A1.length := List.length_pos_iff.2 h2
                  exact List.length_eq_zero_iff.1 (by omega)
                subst this; rw [List.append_nil]; exact sA1
        rw [rec1]
        dsimp only
        have lR1 : R1.length = A1.length + B1.length := by have := tR1.len; simpa using this
        -- the right half
        obtain ⟨R2, rec2, sR2, tR2⟩ : ∃ R2, (bif (decide (mid < mid + m - s) && decide (mid + m - s < b)) then (Option.bind (g_symMergeCmpFunc fu (P ++ (R1 ++ (A2 ++ (B2 ++ Q)))) mid (mid + m - s) b g) fun v6 => some v6) else (some (P ++ (R1 ++ (A2 ++ (B2 ++ Q)))))) = some (P ++ (R1 ++ R2 ++ Q)) ∧ Srt g R2 ∧ Sta D g (A2 ++ B2) R2 := by
          by_cases h : mid < mid + m - s ∧ mid + m - s < b
          · obtain ⟨R2, r1, r2, r3⟩ := ih (P ++ R1) A2 B2 Q mid (mid + m - s) b (by simp only [List.length_append]; omega) (by omega) (by omega) (by omega) (by omega) (by rw [Nat.pow_succ] at hsz; omega) dA2 dB2 sA2 sB2 (by simp only [List.length_append]; omega)
            refine ⟨R2, ?_, r2, r3⟩
            rw [decide_eq_true h.1, decide_eq_true h.2]
            simp only [Bool.and_self, cond_true]
            rw [show P ++ (R1 ++ (A2 ++ (B2 ++ Q))) = (P ++ R1) ++ (A2 ++ (B2 ++ Q)) by simp, r1]
            simp
          · refine ⟨A2 ++ B2, ?_, ?_, Sta.refl _⟩
            · rw [show (decide (mid < mid + m - s) && decide (mid + m - s < b)) = false by rw [Bool.and_eq_false_iff, decide_eq_false_iff_not, decide_eq_false_iff_not]; omega]
              simp
            · by_cases h2 : A2 = []
              · subst h2; simpa using sB2
              · have : B2 = [] := by
                  have h3 : 0 < A2.length := List.length_pos_iff.2 h2
                  exact List.length_eq_zero_iff.1 (by omega)
                subst this; rw [List.append_nil]; exact sA2
        refine ⟨R1 ++ R2, rec2, Srt.app sR1 sR2 fun p hp q hq => ?_, ?_⟩
        · have hp' := tR1.perm.mem_iff.1 hp
          have hq' := tR2.perm.mem_iff.1 hq
          rcases List.mem_append.1 hp' with hp' | hp' <;> rcases List.mem_append.1 hq' with hq' | hq'
          · exact sA12 p hp' q hq'
          · exact lt2 p hp' q hq'
          · exact hs.asym _ _ (dB1 p hp') (dA2 q hq') (lt1 q hq' p hp')
          · exact sB12 p hp' q hq'
        · have h1 : Sta D g (A2 ++ B1) (B1 ++ A2) := Sta.swap hs dA2 dB1 lt1
          have h2 := Sta.app (Sta.refl (D := D) (g := g) A1) (Sta.app h1 (Sta.refl B2))
          have h3 := Sta.app tR1 tR2
          refine Sta.trans ?_ h3
          have e1 : A1 ++ (A2 ++ B1 ++ B2) = A1 ++ A2 ++ (B1 ++ B2) := by simp
          have e2 : A1 ++ (B1 ++ A2 ++ B2) = A1 ++ B1 ++ (A2 ++ B2) := by simp
          rw [e1, e2] at h2
          exact h2
end

section
variable {α : Type} {D : α → Prop} {g : α → α → Option Int}

theorem le64 {n : Nat} (h : n ≤ 4000000000) : n ≤ 2 ^ 64 := Nat.le_trans h (by decide)
theorem le25 {n : Nat} (h : n ≤ 400000000) : n ≤ 20 * 2 ^ 25 := Nat.le_trans h (by decide)

/-! The blocks. -/
/-- What a list of sorted runs of bs each, and a shorter one, is. -/
structure Runs (D : α → Prop) (g : α → α → Option Int) (bs : Nat) (L : List α) (Bs : List (List α)) (T : List α) : Prop where
  eq : L = Bs.flatten ++ T
  blk : ∀ B ∈ Bs, B.length = bs ∧ Srt g B
  rest : T.length < bs

theorem flatten_len {bs : Nat} : ∀ {Bs : List (List α)}, (∀ B ∈ Bs, B.length = bs ∧ Srt g B) → Bs.flatten.length = Bs.length * bs
  | [], _ => by simp
  | B :: Bs, h => by
    rw [List.flatten_cons, List.length_append, flatten_len fun X hX => h X (List.mem_cons_of_mem _ hX), (h B (List.mem_cons_self ..)).1, List.length_cons, Nat.succ_mul]; omega

theorem st1_loop (hs : SW D g) (n : Int) : ∀ (k : Nat) (L P : List α), L.length ≤ k → n = (P.length : Int) + (L.length : Int) → AllD D L → P.length + L.length ≤ 1000000000 →
    ∃ (Bs : List (List α)) (T : List α) (a' b' : Int), loopM (g_stableCmpFunc_b1 n g) ((P.length : Int), (P.length : Int) + 20, P ++ L) = some (.inl (a', b', P ++ (Bs.flatten ++ T))) ∧ a' = (P.length : Int) + (Bs.flatten.length : Int) ∧ (∀ B ∈ Bs, B.length = 20 ∧ Srt g B) ∧ T.length < 20 ∧ Sta D g L (Bs.flatten ++ T)
  | 0, L, P, hk, hn, dL, hN => by
    refine ⟨[], L, (P.length : Int), (P.length : Int) + 20, loopM_out ?_, by simp, by simp, by omega, Sta.refl L⟩
    unfold g_stableCmpFunc_b1
    simp only
    rw [show decide ((P.length : Int) + 20 ≤ n) = false from decide_eq_false (by omega)]
    simp
  | k + 1, L, P, hk, hn, dL, hN => by
    by_cases h : 20 ≤ L.length
    · obtain ⟨A, L', rfl, hA⟩ : ∃ A L', L = A ++ L' ∧ A.length = 20 := ⟨L.take 20, L.drop 20, by rw [List.take_append_drop], by rw [List.length_take]; omega⟩
      rw [List.length_append] at hk hn hN
      have dA : AllD D A := fun z hz => dL z (List.mem_append_left _ hz)
      obtain ⟨R, r1, r2, r3⟩ := insertion_eq hs P A L' (a := (P.length : Int)) (b := (P.length : Int) + 20) rfl (by omega) dA (by omega)
      have hR : R.length = 20 := by rw [r3.len, hA]
      obtain ⟨Bs, T, a', b', s1, s2, s3, s4, s5⟩ := st1_loop hs n k L' (P ++ R) (by omega) (by rw [List.length_append]; omega) (fun z hz => dL z (List.mem_append_right _ hz)) (by rw [List.length_append]; omega)
      refine ⟨R :: Bs, T, a', b', ?_, ?_, ?_, s4, ?_⟩
      · have e : loopM (g_stableCmpFunc_b1 n g) ((P.length : Int), (P.length : Int) + 20, P ++ (A ++ L')) = loopM (g_stableCmpFunc_b1 n g) (((P ++ R).length : Int), ((P ++ R).length : Int) + 20, (P ++ R) ++ L') := by
          refine loopM_next ?_
          unfold g_stableCmpFunc_b1
          simp only
          rw [show decide ((P.length : Int) + 20 ≤ n) = true from decide_eq_true (by omega), w64_of (n := (P.length : Int) + 20 + 20) (by omega) (by omega)]
          simp only [cond_true]
          rw [r1, Option.bind_some, List.length_append, hR, List.append_assoc, show ((P.length + 20 : Nat) : Int) = (P.length : Int) + 20 by omega]
        rw [e, s1]
        simp
      · rw [List.flatten_cons, List.length_append, hR]
        rw [List.length_append, hR] at s2
        omega
      · intro B hB
        rcases List.mem_cons.1 hB with rfl | hB
        · exact ⟨hR, r2⟩
        · exact s3 B hB
      · have := Sta.app r3 s5
        simpa using this
    · refine ⟨[], L, (P.length : Int), (P.length : Int) + 20, loopM_out ?_, by simp, by simp, by omega, Sta.refl L⟩
      unfold g_stableCmpFunc_b1
      simp only
      rw [show decide ((P.length : Int) + 20 ≤ n) = false from decide_eq_false (by omega)]
      simp

theorem st3_loop (hs : SW D g) (n : Int) (bs : Nat) (s3 : Int × List α) (hbs : s3.1 = (bs : Int)) (h0 : 0 < bs) (hb1 : bs ≤ 1000000000) : ∀ (k : Nat) (Bs : List (List α)), Bs.length ≤ k → ∀ (P T : List α), n = (P.length : Int) + (Bs.flatten.length : Int) + (T.length : Int) → AllD D Bs.flatten → AllD D T → (∀ B ∈ Bs, B.length = bs ∧ Srt g B) → T.length < bs → P.length + Bs.flatten.length + T.length ≤ 1000000000 →
    ∃ (Bs' R : List (List α)) (a' b' : Int), loopM (g_stableCmpFunc_b3 n g s3) ((P.length : Int), (P.length : Int) + 2 * (bs : Int), P ++ (Bs.flatten ++ T)) = some (.inl (a', b', P ++ (Bs'.flatten ++ (R.flatten ++ T)))) ∧ a' = (P.length : Int) + (Bs'.flatten.length : Int) ∧ (∀ B ∈ Bs', B.length = 2 * bs ∧ Srt g B) ∧ (R = [] ∨ ∃ A, R = [A] ∧ A.length = bs ∧ Srt g A) ∧ Sta D g Bs.flatten (Bs'.flatten ++ R.flatten) := by
  intro k
  induction k with
  | zero =>
    intro Bs hk P T hn dB dT hB hT hN
    have : Bs = [] := List.length_eq_zero_iff.1 (by omega)
    subst this
    simp only [List.flatten_nil, List.length_nil, List.nil_append] at *
    refine ⟨[], [], (P.length : Int), (P.length : Int) + 2 * (bs : Int), loopM_out ?_, by simp, by simp, .inl rfl, Sta.refl _⟩
    unfold g_stableCmpFunc_b3
    simp only
    rw [show decide ((P.length : Int) + 2 * (bs : Int) ≤ n) = false from decide_eq_false (by omega)]
    simp
  | succ k ih =>
    intro Bs hk P T hn dB dT hB hT hN
    match Bs with
    | [] =>
      simp only [List.flatten_nil, List.length_nil, List.nil_append] at *
      refine ⟨[], [], (P.length : Int), (P.length : Int) + 2 * (bs : Int), loopM_out ?_, by simp, by simp, .inl rfl, Sta.refl _⟩
      unfold g_stableCmpFunc_b3
      simp only
      rw [show decide ((P.length : Int) + 2 * (bs : Int) ≤ n) = false from decide_eq_false (by omega)]
      simp
    | [A] =>
      have hA := hB A (by simp)
      simp only [List.flatten_cons, List.flatten_nil, List.append_nil] at *
      refine ⟨[], [A], (P.length : Int), (P.length : Int) + 2 * (bs : Int), loopM_out ?_, by simp, by simp, .inr ⟨A, rfl, hA⟩, by simpa using Sta.refl A⟩
      unfold g_stableCmpFunc_b3
      simp only
      rw [show decide ((P.length : Int) + 2 * (bs : Int) ≤ n) = false from decide_eq_false (by omega)]
      simp
    | A :: B :: Bs =>
      have hA := hB A (by simp)
      have hB' := hB B (by simp)
      simp only [List.flatten_cons, List.length_append, List.length_cons] at hn hN hk
      have dA : AllD D A := fun z hz => dB z (by simp [hz])
      have dB1 : AllD D B := fun z hz => dB z (by simp [hz])
      have dBs : AllD D Bs.flatten := fun z hz => dB z (by simp only [List.flatten_cons, List.mem_append]; exact .inr (.inr hz))
      obtain ⟨R, r1, r2, r3⟩ := symMerge_eq hs 64 P A B (Bs.flatten ++ T) (P.length : Int) ((P.length : Int) + (bs : Int)) ((P.length : Int) + 2 * (bs : Int)) rfl (by omega) (by omega) (by omega) (by omega) (le64 (by omega)) dA dB1 hA.2 hB'.2 (by rw [List.length_append]; omega)
      have hR : R.length = 2 * bs := by have := r3.len; rw [List.length_append] at this; omega
      obtain ⟨Bs', R', a', b', s1, s2, s4, s5, s6⟩ := ih Bs (by omega) (P ++ R) T (by rw [List.length_append]; omega) dBs dT (fun X hX => hB X (by simp [hX])) hT (by rw [List.length_append]; omega)
      refine ⟨R :: Bs', R', a', b', ?_, ?_, ?_, s5, ?_⟩
      · have e : loopM (g_stableCmpFunc_b3 n g s3) ((P.length : Int), (P.length : Int) + 2 * (bs : Int), P ++ ((A :: B :: Bs).flatten ++ T)) = loopM (g_stableCmpFunc_b3 n g s3) (((P ++ R).length : Int), ((P ++ R).length : Int) + 2 * (bs : Int), (P ++ R) ++ (Bs.flatten ++ T)) := by
          refine loopM_next ?_
          unfold g_stableCmpFunc_b3
          simp only
          rw [hbs, show decide ((P.length : Int) + 2 * (bs : Int) ≤ n) = true from decide_eq_true (by omega), w64_of (n := (P.length : Int) + (bs : Int)) (by omega) (by omega), w64_of (n := 2 * (bs : Int)) (by omega) (by omega), w64_of (n := (P.length : Int) + 2 * (bs : Int) + 2 * (bs : Int)) (by omega) (by omega)]
          simp only [cond_true]
          rw [show P ++ ((A :: B :: Bs).flatten ++ T) = P ++ (A ++ (B ++ (Bs.flatten ++ T))) by simp, r1, Option.bind_some, List.length_append, hR, List.append_assoc, show ((P.length + 2 * bs : Nat) : Int) = (P.length : Int) + 2 * (bs : Int) by omega]
        rw [e, s1]
        simp
      · rw [List.flatten_cons, List.length_append, hR]
        rw [List.length_append, hR] at s2
        omega
      · intro X hX
        rcases List.mem_cons.1 hX with rfl | hX
        · exact ⟨hR, r2⟩
        · exact s4 X hX
      · have := Sta.app r3 s6
        simpa using this

theorem st2_loop (hs : SW D g) (n : Int) : ∀ (k bs : Nat) (L : List α) (Bs : List (List α)) (T : List α), n = (L.length : Int) → L.length ≤ bs * 2 ^ k → 0 < bs → bs ≤ 1000000000 → L.length ≤ 400000000 → AllD D L → Runs D g bs L Bs T → Srt g T →
    ∃ c R, loopM (g_stableCmpFunc_b2 n g) ((bs : Int), L) = some (.inl (c, R)) ∧ Srt g R ∧ Sta D g L R := by
  have stop : ∀ (bs : Nat) (L : List α) (Bs : List (List α)) (T : List α), n = (L.length : Int) → L.length ≤ bs → Runs D g bs L Bs T → Srt g T → ∃ c R, loopM (g_stableCmpFunc_b2 n g) ((bs : Int), L) = some (.inl (c, R)) ∧ Srt g R ∧ Sta D g L R := by
    intro bs L Bs T hn hl hr hT
    refine ⟨(bs : Int), L, loopM_out ?_, ?_, Sta.refl _⟩
    · unfold g_stableCmpFunc_b2
      simp only
      rw [show decide ((bs : Int) < n) = false from decide_eq_false (by omega)]
      rfl
    · have he := hr.eq
      have hfl := flatten_len (g := g) hr.blk
      match Bs, hr, he, hfl with
      | [], _, he, _ => rw [he]; simpa using hT
      | [A], hr, he, _ =>
        have hA := hr.blk A (by simp)
        have hlen : L.length = A.length + T.length := by rw [he]; simp
        have : T = [] := List.length_eq_zero_iff.1 (by omega)
        subst this
        rw [he]; simpa using hA.2
      | A :: B :: Bs, hr, he, hfl =>
        exfalso
        have hA := hr.blk A (by simp)
        have hB := hr.blk B (by simp)
        have hlen : L.length = A.length + (B.length + Bs.flatten.length) + T.length := by rw [he]; simp; omega
        have := hr.rest
        omega
  intro k
  induction k with
  | zero =>
    intro bs L Bs T hn hl _ _ _ _ hr hT
    exact stop bs L Bs T hn (by simpa using hl) hr hT
  | succ k ih =>
    intro bs L Bs T hn hl h0 hb1 hL1 dL hr hT
    by_cases hlt : L.length ≤ bs
    · exact stop bs L Bs T hn hlt hr hT
    · have he := hr.eq
      have hlen : L.length = Bs.flatten.length + T.length := by rw [he, List.length_append]
      have dB : AllD D Bs.flatten := fun z hz => dL z (by rw [he]; exact List.mem_append_left _ hz)
      have dT : AllD D T := fun z hz => dL z (by rw [he]; exact List.mem_append_right _ hz)
      obtain ⟨Bs', R, a', b', s1, s2, s3, s4, s5⟩ := st3_loop hs n bs ((bs : Int), L) rfl h0 hb1 Bs.length Bs (Nat.le_refl _) [] T (by simp only [List.length_nil]; omega) dB dT hr.blk hr.rest (by simp only [List.length_nil]; omega)
      simp only [List.length_nil, List.nil_append] at s1 s2
      rw [← he, show ((0 : Nat) : Int) + 2 * (bs : Int) = 2 * (bs : Int) by omega, show ((0 : Nat) : Int) = 0 from rfl] at s1
      have l5 := s5.len
      rw [List.length_append] at l5
      have hfin : ∃ T', g_stableCmpFunc_b2 n g ((bs : Int), L) = some (.inl (((2 * bs : Nat) : Int), Bs'.flatten ++ T')) ∧ Srt g T' ∧ T'.length < 2 * bs ∧ Sta D g (R.flatten ++ T) T' := by
        have body : ∀ X : List α, (bif decide (w64 (a' + (bs : Int)) < n) then (Option.bind (g_symMergeCmpFunc 64 (Bs'.flatten ++ (R.flatten ++ T)) a' (w64 (a' + (bs : Int))) n g) fun v4 => (some (.inl (w64 ((bs : Int) * 2), v4)) : Option ((Int × List α) ⊕ ((Int × List α) ⊕ Empty)))) else (some (.inl (w64 ((bs : Int) * 2), Bs'.flatten ++ (R.flatten ++ T))))) = some (.inl (((2 * bs : Nat) : Int), X)) → g_stableCmpFunc_b2 n g ((bs : Int), L) = some (.inl (((2 * bs : Nat) : Int), X)) := fun X hX => by
          unfold g_stableCmpFunc_b2
          simp only
          rw [show decide ((bs : Int) < n) = true from decide_eq_true (by omega), w64_of (n := 2 * (bs : Int)) (by omega) (by omega)]
          simp only [cond_true]
          rw [s1]
          exact hX
        rcases s4 with rfl | ⟨A, rfl, hA, hsA⟩
        · simp only [List.flatten_nil, List.nil_append, List.length_nil] at *
          refine ⟨T, body _ ?_, hT, by have := hr.rest; omega, Sta.refl _⟩
          rw [w64_of (n := a' + (bs : Int)) (by omega) (by omega), w64_of (n := (bs : Int) * 2) (by omega) (by omega), show decide (a' + (bs : Int) < n) = false from decide_eq_false (by have := hr.rest; omega)]
          rw [show (bs : Int) * 2 = ((2 * bs : Nat) : Int) by omega]
          rfl
        · simp only [List.flatten_cons, List.flatten_nil, List.append_nil] at *
          by_cases hT0 : T = []
          · subst hT0
            simp only [List.append_nil, List.length_nil] at *
            refine ⟨A, body _ ?_, hsA, by omega, Sta.refl _⟩
            rw [w64_of (n := a' + (bs : Int)) (by omega) (by omega), w64_of (n := (bs : Int) * 2) (by omega) (by omega), show decide (a' + (bs : Int) < n) = false from decide_eq_false (by omega)]
            rw [show (bs : Int) * 2 = ((2 * bs : Nat) : Int) by omega]
            rfl
          · have hTp : 0 < T.length := List.length_pos_iff.2 hT0
            have hrr := hr.rest
            have dA : AllD D A := s5.all dB |> fun h z hz => h z (List.mem_append_right _ hz)
            obtain ⟨R', r1, r2, r3⟩ := symMerge_eq hs 64 Bs'.flatten A T [] a' (a' + (bs : Int)) n (by omega) (by omega) (by omega) (by omega) hTp (le64 (by omega)) dA dT hsA hT (by simp only [List.length_nil]; omega)
            simp only [List.append_nil] at r1
            refine ⟨R', body _ ?_, r2, by have := r3.len; rw [List.length_append] at this; omega, r3⟩
            rw [w64_of (n := a' + (bs : Int)) (by omega) (by omega), w64_of (n := (bs : Int) * 2) (by omega) (by omega), show decide (a' + (bs : Int) < n) = true from decide_eq_true (by omega)]
            simp only [cond_true]
            rw [r1, show (bs : Int) * 2 = ((2 * bs : Nat) : Int) by omega]
            rfl
      obtain ⟨T', f1, f2, f3, f4⟩ := hfin
      have hst : Sta D g L (Bs'.flatten ++ T') := by
        have h1 := Sta.app s5 (Sta.refl (D := D) (g := g) T)
        rw [← he] at h1
        refine Sta.trans h1 ?_
        rw [List.append_assoc]
        exact Sta.app (Sta.refl _) f4
      have hl2 := hst.len
      obtain ⟨c, R2, g1, g2, g3⟩ := ih (2 * bs) (Bs'.flatten ++ T') Bs' T' (by omega) (by rw [hl2]; rw [Nat.pow_succ] at hl; rw [Nat.mul_comm 2 bs, Nat.mul_assoc, Nat.mul_comm 2]; exact hl) (by omega) (by omega) (by omega) (hst.all dL) ⟨rfl, s3, f3⟩ f2
      exact ⟨c, R2, by rw [loopM_next f1, g1], g2, hst.trans g3⟩

/-- slices.SortStableFunc: the list that comes is sorted, and what is alike stands in its order. -/
theorem stable_eq (hs : SW D g) (l : List α) (dl : AllD D l) (hN : l.length ≤ 400000000) : ∃ r, g_SortStableFunc l g = some r ∧ Srt g r ∧ Sta D g l r := by
  unfold g_SortStableFunc g_stableCmpFunc
  obtain ⟨Bs, T, a', b', s1, s2, s3, s4, s5⟩ := st1_loop hs (l.length : Int) l.length l [] (Nat.le_refl _) (by simp) dl (by simp only [List.length_nil]; omega)
  simp only [List.length_nil, List.nil_append] at s1 s2
  rw [show ((0 : Nat) : Int) + 20 = 20 from rfl, show ((0 : Nat) : Int) = 0 from rfl] at s1
  rw [s1]
  simp only [Option.bind_some]
  have hl5 := s5.len
  rw [List.length_append] at hl5
  have dall := s5.all dl
  obtain ⟨R, r1, r2, r3⟩ := insertion_eq hs Bs.flatten T [] (a := a') (b := (l.length : Int)) (by omega) (by omega) (fun z hz => dall z (List.mem_append_right _ hz)) (by omega)
  simp only [List.append_nil] at r1
  rw [r1]
  simp only [Option.bind_some]
  have hst : Sta D g l (Bs.flatten ++ R) := s5.trans (Sta.app (Sta.refl _) r3)
  have hRl := r3.len
  have hll := hst.len
  obtain ⟨c, R2, g1, g2, g3⟩ := st2_loop hs (l.length : Int) 25 20 (Bs.flatten ++ R) Bs R (by omega) (le25 (by omega)) (by omega) (by omega) (by omega) (hst.all dl) ⟨rfl, s3, by omega⟩ r2
  rw [show (20 : Int) = ((20 : Nat) : Int) from rfl, g1]
  exact ⟨R2, rfl, g2, hst.trans g3⟩

/-- Two sorted lists with what is alike in one order are one. -/
theorem srt_uniq (hs : SW D g) : ∀ {r s : List α}, AllD D r → AllD D s → Srt g r → Srt g s → (∀ x, D x → r.filter (eqv g x) = s.filter (eqv g x)) → r = s
  | [], [], _, _, _, _, _ => rfl
  | [], y :: s, _, ds, _, _, h => by
    have dy := ds y (by simp)
    have := h y dy
    rw [List.filter_nil, List.filter_cons_of_pos (by unfold eqv; rw [hs.irr dy]; rfl)] at this
    cases this
  | x :: r, [], dr, _, _, _, h => by
    have dx := dr x (by simp)
    have := h x dx
    rw [List.filter_nil, List.filter_cons_of_pos (by unfold eqv; rw [hs.irr dx]; rfl)] at this
    cases this
  | x :: r, y :: s, dr, ds, sr, ss, h => by
    have dx := dr x (by simp)
    have dy := ds y (by simp)
    have exx : eqv g x x = true := by unfold eqv; rw [hs.irr dx]; rfl
    have eyy : eqv g y y = true := by unfold eqv; rw [hs.irr dy]; rfl
    rw [Srt, List.pairwise_cons] at sr ss
    have hx := h x dx
    have hy := h y dy
    have mx : x ∈ (y :: s).filter (eqv g x) := by rw [← hx, List.filter_cons_of_pos exx]; exact List.mem_cons_self ..
    have my : y ∈ (x :: r).filter (eqv g y) := by rw [hy, List.filter_cons_of_pos eyy]; exact List.mem_cons_self ..
    have m1 := (List.mem_filter.1 mx).1
    have m2 := (List.mem_filter.1 my).1
    have exy : eqv g x y = true := by
      have a1 : ltM g x y = false := by
        rcases List.mem_cons.1 m1 with e | m1
        · rw [e]; exact hs.irr dy
        · exact ss.1 x m1
      have a2 : ltM g y x = false := by
        rcases List.mem_cons.1 m2 with e | m2
        · rw [e]; exact hs.irr dx
        · exact sr.1 y m2
      unfold eqv; rw [a1, a2]; rfl
    have hxy : x = y := by
      rw [List.filter_cons_of_pos exx, List.filter_cons_of_pos exy] at hx
      exact (List.cons.inj hx).1
    subst hxy
    rw [srt_uniq hs (fun z hz => dr z (by simp [hz])) (fun z hz => ds z (by simp [hz])) sr.2 ss.2 fun z dz => by
      have := h z dz
      rw [List.filter_cons, List.filter_cons] at this
      split at this
      · exact (List.cons.inj this).2
      · exact this]
end
end Go.Pv
