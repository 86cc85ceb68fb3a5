/- Proved: MonitorGrants, called with any arguments that its row admits, returns true, and every argument reads behind the call as it read before. Conditions: none beyond the row's own. Printed by law.py. This file joins: Part Xk: slices.SortStableFunc, as it computes: that it sorts, and keeps the order of equals. Plain Lean. (The functions are those that gen2.py prints for an instance, with a type in the element's place.) Plain Lean: what arith's quotients are. Plain Lean: what sort.Search finds, whatever the predicate; axes and their segments. Plain Lean: interpolation between nodes, and in maps. Plain Lean: the value of a map. Plain Lean: the nodes around a number, and that a map's value lies below its corner bound. The arbiter's functions, as they compute. Plain Lean. The plain law of MonitorGrants. -/
import Derived.Test.YtllofihbdbdaeaaMonitorGrantsF
import Derived.KernelRfl
import Derived.Test.YtllofihbdbdaeaaRows
set_option linter.unusedSimpArgs false
namespace Go.Pv
open Go
/-- slices.insertionSortCmpFunc -/
noncomputable def g_insertionSortCmpFunc_b2 {α : Type} (a : Int) (cmp : α → α → Option Int) (s2 : Int × List α) : Option ((Int × List α) ⊕ ((Int × List α) ⊕ Empty)) :=
  Option.bind (bif (decide (s2.1 > a)) then (Option.bind (getI s2.2 s2.1) fun x => Option.bind (getI s2.2 (w64 (s2.1 - 1))) fun x2 => Option.bind (cmp x x2) fun v => some (decide (v < 0))) else (some false)) fun (v2 : Bool) => bif v2 then (Option.bind (Option.bind (getI s2.2 (w64 (s2.1 - 1))) fun x3 => Option.bind (getI s2.2 s2.1) fun x4 => Option.bind (setM s2.2 s2.1 x3) fun l => Option.bind (getI l (w64 (s2.1 - 1))) fun _ => Option.bind (setM l (w64 (s2.1 - 1)) x4) fun l2 => some l2) fun (f2 : List α) => some (.inl (w64 (s2.1 - 1), f2))) else (some (.inr (.inl (s2.1, s2.2))))
noncomputable def g_insertionSortCmpFunc_b1 {α : Type} (a : Int) (b2 : Int) (cmp : α → α → Option Int) (s : Int × List α) : Option ((Int × List α) ⊕ ((Int × List α) ⊕ Empty)) :=
  bif (decide (s.1 < b2)) then (Option.bind (loopM (g_insertionSortCmpFunc_b2 a cmp) (s.1, s.2)) fun (t : (Int × List α) ⊕ Empty) => match t with | .inl s3 => (some (.inl (w64 (s.1 + 1), s3.2))) | .inr r => r.elim) else (some (.inr (.inl (s.1, s.2))))
noncomputable def g_insertionSortCmpFunc {α : Type} (data : List α) (a : Int) (b2 : Int) (cmp : α → α → Option Int) : Option (List α) :=
  Option.bind (loopM (g_insertionSortCmpFunc_b1 a b2 cmp) (w64 (a + 1), data)) fun (t : (Int × List α) ⊕ Empty) => match t with | .inl s4 => (some s4.2) | .inr r => r.elim
/-- slices.swapRangeCmpFunc -/
noncomputable def g_swapRangeCmpFunc_b1 {α : Type} (a : Int) (b2 : Int) (n2 : Int) (s : Int × List α) : Option ((Int × List α) ⊕ ((Int × List α) ⊕ Empty)) :=
  bif (decide (s.1 < n2)) then (Option.bind (Option.bind (getI s.2 (w64 (b2 + s.1))) fun x => Option.bind (getI s.2 (w64 (a + s.1))) fun x2 => Option.bind (setM s.2 (w64 (a + s.1)) x) fun l => Option.bind (getI l (w64 (b2 + s.1))) fun _ => Option.bind (setM l (w64 (b2 + s.1)) x2) fun l2 => some l2) fun (f2 : List α) => some (.inl (w64 (s.1 + 1), f2))) else (some (.inr (.inl (s.1, s.2))))
noncomputable def g_swapRangeCmpFunc {α : Type} (data : List α) (a : Int) (b2 : Int) (n2 : Int) (_ : α → α → Option Int) : Option (List α) :=
  Option.bind (loopM (g_swapRangeCmpFunc_b1 a b2 n2) (0, data)) fun (t : (Int × List α) ⊕ Empty) => match t with | .inl s2 => (some s2.2) | .inr r => r.elim
/-- slices.rotateCmpFunc -/
noncomputable def g_rotateCmpFunc_b1 {α : Type} (m2 : Int) (cmp : α → α → Option Int) (s : Int × Int × List α) : Option ((Int × Int × List α) ⊕ ((Int × Int × List α) ⊕ Empty)) :=
  bif (s.1 != s.2.1) then (bif (decide (s.1 > s.2.1)) then (Option.bind (g_swapRangeCmpFunc s.2.2 (w64 (m2 - s.1)) m2 s.2.1 cmp) fun v => some (.inl (w64 (s.1 - s.2.1), s.2.1, v))) else (Option.bind (g_swapRangeCmpFunc s.2.2 (w64 (m2 - s.1)) (w64 ((w64 (m2 + s.2.1)) - s.1)) s.1 cmp) fun v2 => some (.inl (s.1, w64 (s.2.1 - s.1), v2)))) else (some (.inr (.inl (s.1, s.2.1, s.2.2))))
noncomputable def g_rotateCmpFunc {α : Type} (data : List α) (a : Int) (m2 : Int) (b2 : Int) (cmp : α → α → Option Int) : Option (List α) :=
  Option.bind (loopM (g_rotateCmpFunc_b1 m2 cmp) (w64 (m2 - a), w64 (b2 - m2), data)) fun (t : (Int × Int × List α) ⊕ Empty) => match t with | .inl s2 => (Option.bind (g_swapRangeCmpFunc s2.2.2 (w64 (m2 - s2.1)) m2 s2.1 cmp) fun v3 => some v3) | .inr r => r.elim
/-- slices.symMergeCmpFunc -/
noncomputable def g_symMergeCmpFunc_b1 {α : Type} (data : List α) (a : Int) (cmp : α → α → Option Int) (s : Int × Int) : Option ((Int × Int) ⊕ ((Int × Int) ⊕ Empty)) :=
  bif (decide (s.1 < s.2)) then (Option.bind (getI data (w64 (bitShr .u64 (IntKind.u64.wrap (w64 (s.1 + s.2))) 1))) fun x => Option.bind (getI data a) fun x2 => Option.bind (cmp x x2) fun v => bif (decide (v < 0)) then (some (.inl (w64 ((w64 (bitShr .u64 (IntKind.u64.wrap (w64 (s.1 + s.2))) 1)) + 1), s.2))) else (some (.inl (s.1, w64 (bitShr .u64 (IntKind.u64.wrap (w64 (s.1 + s.2))) 1))))) else (some (.inr (.inl (s.1, s.2))))
noncomputable def g_symMergeCmpFunc_b2 {α : Type} (s2 : Int × Int) (s3 : Int × List α) : Option ((Int × List α) ⊕ ((Int × List α) ⊕ Empty)) :=
  bif (decide (s3.1 < (w64 (s2.1 - 1)))) then (Option.bind (Option.bind (getI s3.2 (w64 (s3.1 + 1))) fun x3 => Option.bind (getI s3.2 s3.1) fun x4 => Option.bind (setM s3.2 s3.1 x3) fun l => Option.bind (getI l (w64 (s3.1 + 1))) fun _ => Option.bind (setM l (w64 (s3.1 + 1)) x4) fun l2 => some l2) fun (f2 : List α) => some (.inl (w64 (s3.1 + 1), f2))) else (some (.inr (.inl (s3.1, s3.2))))
noncomputable def g_symMergeCmpFunc_b3 {α : Type} (data : List α) (m2 : Int) (cmp : α → α → Option Int) (s5 : Int × Int) : Option ((Int × Int) ⊕ ((Int × Int) ⊕ Empty)) :=
  bif (decide (s5.1 < s5.2)) then (Option.bind (getI data m2) fun x6 => Option.bind (getI data (w64 (bitShr .u64 (IntKind.u64.wrap (w64 (s5.1 + s5.2))) 1))) fun x7 => Option.bind (cmp x6 x7) fun v2 => bif (!(decide (v2 < 0))) then (some (.inl (w64 ((w64 (bitShr .u64 (IntKind.u64.wrap (w64 (s5.1 + s5.2))) 1)) + 1), s5.2))) else (some (.inl (s5.1, w64 (bitShr .u64 (IntKind.u64.wrap (w64 (s5.1 + s5.2))) 1))))) else (some (.inr (.inl (s5.1, s5.2))))
noncomputable def g_symMergeCmpFunc_b4 {α : Type} (s6 : Int × Int) (s7 : Int × List α) : Option ((Int × List α) ⊕ ((Int × List α) ⊕ Empty)) :=
  bif (decide (s7.1 > s6.1)) then (Option.bind (Option.bind (getI s7.2 (w64 (s7.1 - 1))) fun x8 => Option.bind (getI s7.2 s7.1) fun x9 => Option.bind (setM s7.2 s7.1 x8) fun l3 => Option.bind (getI l3 (w64 (s7.1 - 1))) fun _ => Option.bind (setM l3 (w64 (s7.1 - 1)) x9) fun l4 => some l4) fun (f3 : List α) => some (.inl (w64 (s7.1 - 1), f3))) else (some (.inr (.inl (s7.1, s7.2))))
noncomputable def g_symMergeCmpFunc_b5 {α : Type} (data : List α) (a : Int) (m2 : Int) (b2 : Int) (cmp : α → α → Option Int) (s10 : Int × Int) : Option ((Int × Int) ⊕ ((Int × Int) ⊕ Empty)) :=
  bif (decide (s10.1 < s10.2)) then (Option.bind (getI data (w64 ((w64 ((w64 ((w64 (bitShr .u64 (IntKind.u64.wrap (w64 (a + b2))) 1)) + m2)) - 1)) - (w64 (bitShr .u64 (IntKind.u64.wrap (w64 (s10.1 + s10.2))) 1))))) fun x11 => Option.bind (getI data (w64 (bitShr .u64 (IntKind.u64.wrap (w64 (s10.1 + s10.2))) 1))) fun x12 => Option.bind (cmp x11 x12) fun v3 => bif (!(decide (v3 < 0))) then (some (.inl (w64 ((w64 (bitShr .u64 (IntKind.u64.wrap (w64 (s10.1 + s10.2))) 1)) + 1), s10.2))) else (some (.inl (s10.1, w64 (bitShr .u64 (IntKind.u64.wrap (w64 (s10.1 + s10.2))) 1))))) else (some (.inr (.inl (s10.1, s10.2))))
noncomputable def g_symMergeCmpFunc_s {α : Type} (rc : List α → Int → Int → Int → (α → α → Option Int) → Option (List α)) (data : List α) (a : Int) (m2 : Int) (b2 : Int) (cmp : α → α → Option Int) : Option (List α) :=
  bif ((w64 (m2 - a)) == 1) then (Option.bind (loopM (g_symMergeCmpFunc_b1 data a cmp) (m2, b2)) fun (t : (Int × Int) ⊕ Empty) => match t with | .inl s2 => (Option.bind (loopM (g_symMergeCmpFunc_b2 s2) (a, data)) fun (t : (Int × List α) ⊕ Empty) => match t with | .inl s4 => (some s4.2) | .inr r => r.elim) | .inr r => r.elim) else (bif ((w64 (b2 - m2)) == 1) then (Option.bind (loopM (g_symMergeCmpFunc_b3 data m2 cmp) (a, m2)) fun (t : (Int × Int) ⊕ Empty) => match t with | .inl s6 => (Option.bind (loopM (g_symMergeCmpFunc_b4 s6) (m2, data)) fun (t : (Int × List α) ⊕ Empty) => match t with | .inl s8 => (some s8.2) | .inr r => r.elim) | .inr r => r.elim) else (Option.bind (bif (decide (m2 > (w64 (bitShr .u64 (IntKind.u64.wrap (w64 (a + b2))) 1)))) then (some (w64 ((w64 ((w64 (bitShr .u64 (IntKind.u64.wrap (w64 (a + b2))) 1)) + m2)) - b2), w64 (bitShr .u64 (IntKind.u64.wrap (w64 (a + b2))) 1))) else (some (a, m2))) fun (s9 : Int × Int) => Option.bind (loopM (g_symMergeCmpFunc_b5 data a m2 b2 cmp) (s9.1, s9.2)) fun (t : (Int × Int) ⊕ Empty) => match t with | .inl s11 => (Option.bind (bif ((decide (s11.1 < m2)) && (decide (m2 < (w64 ((w64 ((w64 (bitShr .u64 (IntKind.u64.wrap (w64 (a + b2))) 1)) + m2)) - s11.1))))) then (Option.bind (g_rotateCmpFunc data s11.1 m2 (w64 ((w64 ((w64 (bitShr .u64 (IntKind.u64.wrap (w64 (a + b2))) 1)) + m2)) - s11.1)) cmp) fun v4 => some v4) else (some data)) fun (f4 : List α) => Option.bind (bif ((decide (a < s11.1)) && (decide (s11.1 < (w64 (bitShr .u64 (IntKind.u64.wrap (w64 (a + b2))) 1))))) then (Option.bind (rc f4 a s11.1 (w64 (bitShr .u64 (IntKind.u64.wrap (w64 (a + b2))) 1)) cmp) fun v5 => some v5) else (some f4)) fun (f5 : List α) => bif ((decide ((w64 (bitShr .u64 (IntKind.u64.wrap (w64 (a + b2))) 1)) < (w64 ((w64 ((w64 (bitShr .u64 (IntKind.u64.wrap (w64 (a + b2))) 1)) + m2)) - s11.1)))) && (decide ((w64 ((w64 ((w64 (bitShr .u64 (IntKind.u64.wrap (w64 (a + b2))) 1)) + m2)) - s11.1)) < b2))) then (Option.bind (rc f5 (w64 (bitShr .u64 (IntKind.u64.wrap (w64 (a + b2))) 1)) (w64 ((w64 ((w64 (bitShr .u64 (IntKind.u64.wrap (w64 (a + b2))) 1)) + m2)) - s11.1)) b2 cmp) fun v6 => some v6) else (some f5)) | .inr r => r.elim))
noncomputable def g_symMergeCmpFunc {α : Type} : Nat → List α → Int → Int → Int → (α → α → Option Int) → Option (List α)
  | 0 => fun _ _ _ _ _ => none
  | fu + 1 => g_symMergeCmpFunc_s (g_symMergeCmpFunc fu)
/-- slices.stableCmpFunc -/
noncomputable def g_stableCmpFunc_b1 {α : Type} (n2 : Int) (cmp : α → α → Option Int) (s : Int × Int × List α) : Option ((Int × Int × List α) ⊕ ((Int × Int × List α) ⊕ Empty)) :=
  bif (decide (s.2.1 ≤ n2)) then (Option.bind (g_insertionSortCmpFunc s.2.2 s.1 s.2.1 cmp) fun v => some (.inl (s.2.1, w64 (s.2.1 + 20), v))) else (some (.inr (.inl (s.1, s.2.1, s.2.2))))
noncomputable def g_stableCmpFunc_b3 {α : Type} (n2 : Int) (cmp : α → α → Option Int) (s3 : Int × List α) (s4 : Int × Int × List α) : Option ((Int × Int × List α) ⊕ ((Int × Int × List α) ⊕ Empty)) :=
  bif (decide (s4.2.1 ≤ n2)) then (Option.bind (g_symMergeCmpFunc 64 s4.2.2 s4.1 (w64 (s4.1 + s3.1)) s4.2.1 cmp) fun v3 => some (.inl (s4.2.1, w64 (s4.2.1 + (w64 (2 * s3.1))), v3))) else (some (.inr (.inl (s4.1, s4.2.1, s4.2.2))))
noncomputable def g_stableCmpFunc_b2 {α : Type} (n2 : Int) (cmp : α → α → Option Int) (s3 : Int × List α) : Option ((Int × List α) ⊕ ((Int × List α) ⊕ Empty)) :=
  bif (decide (s3.1 < n2)) then (Option.bind (loopM (g_stableCmpFunc_b3 n2 cmp s3) (0, w64 (2 * s3.1), s3.2)) fun (t : (Int × Int × List α) ⊕ Empty) => match t with | .inl s5 => (bif (decide ((w64 (s5.1 + s3.1)) < n2)) then (Option.bind (g_symMergeCmpFunc 64 s5.2.2 s5.1 (w64 (s5.1 + s3.1)) n2 cmp) fun v4 => some (.inl (w64 (s3.1 * 2), v4))) else (some (.inl (w64 (s3.1 * 2), s5.2.2)))) | .inr r => r.elim) else (some (.inr (.inl (s3.1, s3.2))))
noncomputable def g_stableCmpFunc {α : Type} (data : List α) (n2 : Int) (cmp : α → α → Option Int) : Option (List α) :=
  Option.bind (loopM (g_stableCmpFunc_b1 n2 cmp) (0, 20, data)) fun (t : (Int × Int × List α) ⊕ Empty) => match t with | .inl s2 => (Option.bind (g_insertionSortCmpFunc s2.2.2 s2.1 n2 cmp) fun v2 => Option.bind (loopM (g_stableCmpFunc_b2 n2 cmp) (20, v2)) fun (t : (Int × List α) ⊕ Empty) => match t with | .inl s6 => (some s6.2) | .inr r => r.elim) | .inr r => r.elim
/-- slices.SortStableFunc -/
noncomputable def g_SortStableFunc {α : Type} (x : List α) (cmp : α → α → Option Int) : Option (List α) :=
  Option.bind (g_stableCmpFunc x (x.length : Int) cmp) fun v => some v

section
variable {α β : Type}

theorem getI_mid (P : List α) (x : α) (R : List α) {i : Int} (h : i = (P.length : Int)) : getI (P ++ x :: R) i = some x := by
  subst h; rw [getI_nat, List.getElem?_append_right (Nat.le_refl _), Nat.sub_self]; rfl
theorem setM_mid (P : List α) (x y : α) (R : List α) {i : Int} (h : i = (P.length : Int)) : setM (P ++ x :: R) i y = some (P ++ y :: R) := by
  subst h; rw [setM_nat _ _ _ (by simp), List.set_append_right _ _ (Nat.le_refl _), Nat.sub_self]; rfl

/-- The left one is written first. -/
theorem swap2 (P : List α) (x : α) (M : List α) (y : α) (Q : List α) {i j : Int} (hi : i = (P.length : Int)) (hj : j = (P.length : Int) + 1 + (M.length : Int)) (k : List α → Option β) :
    (Option.bind (Option.bind (getI (P ++ x :: (M ++ y :: Q)) j) fun u => Option.bind (getI (P ++ x :: (M ++ y :: Q)) i) fun v => Option.bind (setM (P ++ x :: (M ++ y :: Q)) i u) fun l => Option.bind (getI l j) fun _ => Option.bind (setM l j v) fun l2 => some l2) k) = k (P ++ y :: (M ++ x :: Q)) := by
  have e : ∀ z w : α, P ++ z :: (M ++ w :: Q) = (P ++ z :: M) ++ w :: Q := fun z w => by simp
  have hj2 : ∀ z : α, j = ((P ++ z :: M).length : Int) := fun z => by rw [List.length_append, List.length_cons]; omega
  have g1 : getI (P ++ x :: (M ++ y :: Q)) j = some y := by rw [e]; exact getI_mid _ _ _ (hj2 x)
  have g3 : getI (P ++ y :: (M ++ y :: Q)) j = some y := by rw [e]; exact getI_mid _ _ _ (hj2 y)
  have s2 : setM (P ++ y :: (M ++ y :: Q)) j x = some (P ++ y :: (M ++ x :: Q)) := by rw [e, e]; exact setM_mid _ _ _ _ (hj2 y)
  rw [g1, Option.bind_some, getI_mid _ _ _ hi, Option.bind_some, setM_mid _ _ _ _ hi, Option.bind_some, g3, Option.bind_some, s2]
  rfl

/-- Neighbours; the right one is written first. -/
theorem swap3 (P : List α) (x y : α) (Q : List α) {i j : Int} (hi : i = (P.length : Int)) (hj : j = (P.length : Int) + 1) (k : List α → Option β) :
    (Option.bind (Option.bind (getI (P ++ x :: y :: Q) i) fun u => Option.bind (getI (P ++ x :: y :: Q) j) fun v => Option.bind (setM (P ++ x :: y :: Q) j u) fun l => Option.bind (getI l i) fun _ => Option.bind (setM l i v) fun l2 => some l2) k) = k (P ++ y :: x :: Q) := by
  have e : ∀ z w : α, P ++ z :: w :: Q = (P ++ [z]) ++ w :: Q := fun z w => by simp
  have hj2 : ∀ z : α, j = ((P ++ [z]).length : Int) := fun z => by rw [List.length_append, List.length_singleton]; omega
  have g1 : getI (P ++ x :: y :: Q) j = some y := by rw [e]; exact getI_mid _ _ _ (hj2 x)
  have s1 : setM (P ++ x :: y :: Q) j x = some (P ++ x :: x :: Q) := by rw [e, e]; exact setM_mid _ _ _ _ (hj2 x)
  rw [getI_mid _ _ _ hi, Option.bind_some, g1, Option.bind_some, s1, Option.bind_some, getI_mid _ _ _ hi, Option.bind_some, setM_mid _ _ _ _ hi]
  rfl

/-! Ranges change places. -/
theorem swr_loop (n a b : Int) : ∀ (X Y P M Q : List α) (i : Int), X.length = Y.length → a + i = (P.length : Int) → b + i = (P.length : Int) + (X.length : Int) + (M.length : Int) → n = i + (X.length : Int) → 0 ≤ i → 0 ≤ a → 0 ≤ b → P.length + X.length + M.length + Y.length ≤ 1073741824 →
    loopM (g_swapRangeCmpFunc_b1 a b n) (i, P ++ (X ++ (M ++ (Y ++ Q)))) = some (.inl (n, P ++ (Y ++ (M ++ (X ++ Q)))))
  | [], Y, P, M, Q, i, hl, _, _, hn, _, _, _, _ => by
    have : Y = [] := List.length_eq_zero_iff.1 hl.symm
    subst this
    refine loopM_out ?_
    unfold g_swapRangeCmpFunc_b1
    simp only [List.length_nil] at hn
    rw [show decide (i < n) = false from decide_eq_false (by omega)]
    have : i = n := by omega
    subst this
    rfl
  | x :: X, [], P, M, Q, i, hl, _, _, _, _, _, _, _ => by simp at hl
  | x :: X, y :: Y, P, M, Q, i, hl, ha, hb, hn, h0, ha0, hb0, hN => by
    simp only [List.length_cons] at hl hb hn hN
    have e1 : P ++ (x :: X ++ (M ++ (y :: Y ++ Q))) = P ++ x :: ((X ++ M) ++ y :: (Y ++ Q)) := by simp
    have e2 : P ++ y :: ((X ++ M) ++ x :: (Y ++ Q)) = (P ++ [y]) ++ (X ++ ((M ++ [x]) ++ (Y ++ Q))) := by simp
    have e3 : P ++ (y :: Y ++ (M ++ (x :: X ++ Q))) = (P ++ [y]) ++ (Y ++ ((M ++ [x]) ++ (X ++ Q))) := by simp
    rw [e1, e3, ← swr_loop n a b X Y (P ++ [y]) (M ++ [x]) Q (i + 1) (by omega) (by rw [List.length_append, List.length_singleton]; omega) (by simp only [List.length_append, List.length_singleton]; omega) (by omega) (by omega) ha0 hb0 (by rw [List.length_append, List.length_append]; simp only [List.length_singleton]; omega), ← e2]
    refine loopM_next ?_
    unfold g_swapRangeCmpFunc_b1
    simp only
    rw [show decide (i < n) = true from decide_eq_true (by omega), w64_of (n := b + i) (by omega) (by omega), w64_of (n := a + i) (by omega) (by omega), w64_of (n := i + 1) (by omega) (by omega)]
    simp only [cond_true]
    rw [swap2 P x (X ++ M) y (Y ++ Q) ha (by rw [List.length_append]; omega)]

theorem swapRange_eq (cmp : α → α → Option Int) (P X M Y Q : List α) {a b n : Int} (hl : X.length = Y.length) (ha : a = (P.length : Int)) (hb : b = (P.length : Int) + (X.length : Int) + (M.length : Int)) (hn : n = (X.length : Int)) (hN : P.length + X.length + M.length + Y.length ≤ 1073741824) :
    g_swapRangeCmpFunc (P ++ (X ++ (M ++ (Y ++ Q)))) a b n cmp = some (P ++ (Y ++ (M ++ (X ++ Q)))) := by
  unfold g_swapRangeCmpFunc
  rw [swr_loop n a b X Y P M Q 0 hl (by omega) (by omega) (by omega) (by omega) (by omega) (by omega) hN]
  rfl

/-! Rotation. -/
theorem rot_loop (cmp : α → α → Option Int) (m : Int) : ∀ (k : Nat) (P X Y Q : List α), X.length + Y.length ≤ k → 0 < X.length → 0 < Y.length → m = (P.length : Int) + (X.length : Int) → P.length + X.length + Y.length + Q.length ≤ 1073741824 →
    ∃ P' X' Y' Q', loopM (g_rotateCmpFunc_b1 m cmp) ((X.length : Int), (Y.length : Int), P ++ (X ++ (Y ++ Q))) = some (.inl ((X'.length : Int), (Y'.length : Int), P' ++ (X' ++ (Y' ++ Q')))) ∧ X'.length = Y'.length ∧ m = (P'.length : Int) + (X'.length : Int) ∧ P' ++ (Y' ++ (X' ++ Q')) = P ++ (Y ++ (X ++ Q)) ∧ P'.length + X'.length + Y'.length + Q'.length = P.length + X.length + Y.length + Q.length
  | 0, P, X, Y, Q, hk, hx, _, _, _ => by omega
  | k + 1, P, X, Y, Q, hk, hx, hy, hm, hN => by
    rcases Nat.lt_trichotomy X.length Y.length with h | h | h
    · -- the left one is shorter
      obtain ⟨Y1, Y2, rfl, h2⟩ : ∃ Y1 Y2, Y = Y1 ++ Y2 ∧ Y2.length = X.length := ⟨Y.take (Y.length - X.length), Y.drop (Y.length - X.length), by rw [List.take_append_drop], by rw [List.length_drop]; omega⟩
      rw [List.length_append] at hk h hy hN
      obtain ⟨P', X', Y', Q', r1, r2, r3, r4, r5⟩ := rot_loop cmp m k P Y2 Y1 (X ++ Q) (by omega) (by omega) (by omega) (by omega) (by rw [List.length_append]; omega)
      refine ⟨P', X', Y', Q', ?_, r2, r3, ?_, by rw [List.length_append] at *; omega⟩
      · rw [← r1]
        refine loopM_next ?_
        unfold g_rotateCmpFunc_b1
        simp only [List.length_append]
        rw [show ((X.length : Int) != ((Y1.length + Y2.length : Nat) : Int)) = true by simp; omega, show decide ((X.length : Int) > ((Y1.length + Y2.length : Nat) : Int)) = false from decide_eq_false (by omega)]
        simp only [cond_true, cond_false]
        rw [w64_of (n := m - (X.length : Int)) (by omega) (by omega), w64_of (n := m + ((Y1.length + Y2.length : Nat) : Int)) (by omega) (by omega), w64_of (n := m + ((Y1.length + Y2.length : Nat) : Int) - (X.length : Int)) (by omega) (by omega), w64_of (n := ((Y1.length + Y2.length : Nat) : Int) - (X.length : Int)) (by omega) (by omega)]
        rw [show P ++ (X ++ (Y1 ++ Y2 ++ Q)) = P ++ (X ++ (Y1 ++ (Y2 ++ Q))) by simp, swapRange_eq cmp P X Y1 Y2 Q h2.symm (by omega) (by omega) rfl (by omega)]
        simp only [Option.bind_some]
        rw [show ((Y1.length + Y2.length : Nat) : Int) - (X.length : Int) = (Y1.length : Int) by omega, h2]
      · rw [r4]; simp
    · refine ⟨P, X, Y, Q, ?_, h, hm, rfl, rfl⟩
      refine loopM_out ?_
      unfold g_rotateCmpFunc_b1
      simp only
      rw [show ((X.length : Int) != (Y.length : Int)) = false by simp; omega]
      rfl
    · obtain ⟨X1, X2, rfl, h2⟩ : ∃ X1 X2, X = X1 ++ X2 ∧ X1.length = Y.length := ⟨X.take Y.length, X.drop Y.length, by rw [List.take_append_drop], by rw [List.length_take]; omega⟩
      rw [List.length_append] at hk h hx hN hm
      obtain ⟨P', X', Y', Q', r1, r2, r3, r4, r5⟩ := rot_loop cmp m k (P ++ Y) X2 X1 Q (by omega) (by omega) (by omega) (by rw [List.length_append]; omega) (by rw [List.length_append]; omega)
      refine ⟨P', X', Y', Q', ?_, r2, r3, ?_, by rw [List.length_append] at *; omega⟩
      · rw [← r1]
        refine loopM_next ?_
        unfold g_rotateCmpFunc_b1
        simp only [List.length_append]
        rw [show (((X1.length + X2.length : Nat) : Int) != (Y.length : Int)) = true by simp; omega, show decide (((X1.length + X2.length : Nat) : Int) > (Y.length : Int)) = true from decide_eq_true (by omega)]
        simp only [cond_true, cond_false]
        rw [w64_of (n := m - ((X1.length + X2.length : Nat) : Int)) (by omega) (by omega), w64_of (n := ((X1.length + X2.length : Nat) : Int) - (Y.length : Int)) (by omega) (by omega)]
        rw [show P ++ (X1 ++ X2 ++ (Y ++ Q)) = P ++ (X1 ++ (X2 ++ (Y ++ Q))) by simp, swapRange_eq cmp P X1 X2 Y Q h2 (by omega) (by omega) (by omega) (by omega)]
        simp only [Option.bind_some]
        rw [show ((X1.length + X2.length : Nat) : Int) - (Y.length : Int) = (X2.length : Int) by omega, h2]
        simp
      · rw [r4]; simp

theorem rotate_eq (cmp : α → α → Option Int) (P X Y Q : List α) {a m b : Int} (hx : 0 < X.length) (hy : 0 < Y.length) (ha : a = (P.length : Int)) (hm : m = (P.length : Int) + (X.length : Int)) (hb : b = m + (Y.length : Int)) (hN : P.length + X.length + Y.length + Q.length ≤ 1073741824) :
    g_rotateCmpFunc (P ++ (X ++ (Y ++ Q))) a m b cmp = some (P ++ (Y ++ (X ++ Q))) := by
  unfold g_rotateCmpFunc
  rw [w64_of (n := m - a) (by omega) (by omega), w64_of (n := b - m) (by omega) (by omega), show m - a = (X.length : Int) by omega, show b - m = (Y.length : Int) by omega]
  obtain ⟨P', X', Y', Q', r1, r2, r3, r4, r5⟩ := rot_loop cmp m (X.length + Y.length) P X Y Q (Nat.le_refl _) hx hy hm hN
  rw [r1]
  simp only [Option.bind_some]
  rw [w64_of (n := m - (X'.length : Int)) (by omega) (by omega)]
  have := swapRange_eq cmp P' X' [] Y' Q' (a := m - (X'.length : Int)) (b := m) (n := (X'.length : Int)) r2 (by omega) (by simp only [List.length_nil]; omega) rfl (by simp only [List.length_nil]; omega)
  simp only [List.nil_append] at this
  rw [this, Option.bind_some, r4]
end

section
variable {α : Type} {D : α → Prop} {g : α → α → Option Int}

/-- What is asked of a comparison on what D holds: it answers; less is a strict weak order. -/
structure SW (D : α → Prop) (g : α → α → Option Int) : Prop where
  ans : ∀ x y, D x → D y → ∃ c, g x y = some c
  asym : ∀ x y, D x → D y → ltM g x y = true → ltM g y x = false
  ntrans : ∀ x y z, D x → D y → D z → ltM g x y = false → ltM g y z = false → ltM g x z = false

theorem SW.cmp (h : SW D g) {x y : α} (hx : D x) (hy : D y) : ∃ c, g x y = some c ∧ decide (c < 0) = ltM g x y := by
  obtain ⟨c, hc⟩ := h.ans x y hx hy
  exact ⟨c, hc, by unfold ltM; rw [hc]; rfl⟩

abbrev AllD (D : α → Prop) (l : List α) : Prop := ∀ x ∈ l, D x
def eqv (g : α → α → Option Int) (x y : α) : Bool := !ltM g x y && !ltM g y x
/-- The same elements; those that are alike in their order. -/
structure Sta (D : α → Prop) (g : α → α → Option Int) (l r : List α) : Prop where
  perm : r.Perm l
  same : ∀ x, D x → r.filter (eqv g x) = l.filter (eqv g x)
abbrev Srt (g : α → α → Option Int) (l : List α) : Prop := l.Pairwise fun x y => ltM g y x = false

theorem Sta.refl (l : List α) : Sta D g l l := ⟨.refl _, fun _ _ => rfl⟩
theorem Sta.trans {l r s : List α} (h : Sta D g l r) (k : Sta D g r s) : Sta D g l s := ⟨k.perm.trans h.perm, fun x hx => (k.same x hx).trans (h.same x hx)⟩
theorem Sta.app {A A' B B' : List α} (h : Sta D g A A') (k : Sta D g B B') : Sta D g (A ++ B) (A' ++ B') :=
  ⟨h.perm.append k.perm, fun x hx => by rw [List.filter_append, List.filter_append, h.same x hx, k.same x hx]⟩
theorem Sta.len {l r : List α} (h : Sta D g l r) : r.length = l.length := h.perm.length_eq
theorem Sta.all {l r : List α} (h : Sta D g l r) (hl : AllD D l) : AllD D r := fun x hx => hl x (h.perm.mem_iff.1 hx)
theorem Sta.swap (hs : SW D g) {A B : List α} (hA : AllD D A) (hB : AllD D B) (h : ∀ a ∈ A, ∀ b ∈ B, ltM g b a = true) : Sta D g (A ++ B) (B ++ A) := by
  refine ⟨List.perm_append_comm, fun x hx => ?_⟩
  rw [List.filter_append, List.filter_append]
  by_cases he : ∃ a ∈ A, eqv g x a = true
  · obtain ⟨a, ha, hxa⟩ := he
    have : B.filter (eqv g x) = [] := by
      rw [List.filter_eq_nil_iff]
      intro b hb hxb
      unfold eqv at hxa hxb
      simp only [Bool.and_eq_true, Bool.not_eq_true'] at hxa hxb
      have := hs.ntrans b x a (hB b hb) hx (hA a ha) hxb.2 hxa.1
      rw [h a ha b hb] at this
      cases this
    rw [this, List.nil_append, List.append_nil]
  · have : A.filter (eqv g x) = [] := by
      rw [List.filter_eq_nil_iff]
      intro a ha hxa
      exact he ⟨a, ha, hxa⟩
    rw [this, List.nil_append, List.append_nil]
theorem Srt.app {A B : List α} (hA : Srt g A) (hB : Srt g B) (h : ∀ a ∈ A, ∀ b ∈ B, ltM g b a = false) : Srt g (A ++ B) := List.pairwise_append.2 ⟨hA, hB, h⟩
theorem SW.irr (hs : SW D g) {x : α} (hx : D x) : ltM g x x = false := by
  cases h : ltM g x x
  · rfl
  · have := hs.asym x x hx hx h; rw [h] at this; cases this

/-! Insertion. -/
theorem ins_inner (hs : SW D g) (a : Int) : ∀ (n : Nat) (R1 : List α), R1.length = n → ∀ (P : List α) (x : α) (R2 Q : List α), a = (P.length : Int) → AllD D R1 → D x → AllD D R2 → Srt g (R1 ++ R2) → (∀ r ∈ R2, ltM g x r = true) → P.length + R1.length ≤ 1073741824 →
    ∃ (j : Int) (R' : List α), loopM (g_insertionSortCmpFunc_b2 a g) ((P.length : Int) + (R1.length : Int), P ++ (R1 ++ x :: (R2 ++ Q))) = some (.inl (j, P ++ (R' ++ Q))) ∧ Srt g R' ∧ Sta D g (R1 ++ x :: R2) R' := by
  intro n
  induction n with
  | zero =>
    intro R1 h1 P x R2 Q ha _ hx hR2 hsrt hlt hN
    have : R1 = [] := List.length_eq_zero_iff.1 h1
    subst this
    refine ⟨(P.length : Int) + ((0 : Nat) : Int), x :: R2, loopM_out ?_, ?_, Sta.refl _⟩
    · unfold g_insertionSortCmpFunc_b2
      simp only [List.length_nil]
      rw [show decide ((P.length : Int) + ((0 : Nat) : Int) > a) = false from decide_eq_false (by omega)]
      rfl
    · rw [Srt, List.pairwise_cons]
      exact ⟨fun r hr => hs.asym x r hx (hR2 r hr) (hlt r hr), by simpa using hsrt⟩
  | succ n ih =>
    intro R1 h1 P x R2 Q ha hR1 hx hR2 hsrt hlt hN
    have hne : R1 ≠ [] := by intro h; subst h; simp at h1
    obtain ⟨S, y, rfl⟩ : ∃ S y, R1 = S ++ [y] := ⟨R1.dropLast, R1.getLast hne, (List.dropLast_concat_getLast hne).symm⟩
    rw [List.length_append, List.length_singleton] at h1 hN
    have hy : D y := hR1 y (by simp)
    have hS : AllD D S := fun z hz => hR1 z (by simp [hz])
    obtain ⟨c, hc, hcl⟩ := hs.cmp hx hy
    have e1 : P ++ (S ++ [y] ++ x :: (R2 ++ Q)) = (P ++ S) ++ y :: x :: (R2 ++ Q) := by simp
    have e2 : P ++ (S ++ [y] ++ x :: (R2 ++ Q)) = (P ++ S ++ [y]) ++ x :: (R2 ++ Q) := by simp
    have hj : (P.length : Int) + (((S ++ [y]).length : Nat) : Int) = (P.length : Int) + (S.length : Int) + 1 := by rw [List.length_append, List.length_singleton]; omega
    have hb : g_insertionSortCmpFunc_b2 a g ((P.length : Int) + (((S ++ [y]).length : Nat) : Int), P ++ (S ++ [y] ++ x :: (R2 ++ Q))) = some (bif ltM g x y then .inl ((P.length : Int) + (S.length : Int), P ++ (S ++ x :: (y :: R2 ++ Q))) else .inr (.inl ((P.length : Int) + (S.length : Int) + 1, P ++ (S ++ [y] ++ x :: (R2 ++ Q))))) := by
      unfold g_insertionSortCmpFunc_b2
      simp only
      rw [hj, w64_of (n := (P.length : Int) + (S.length : Int) + 1 - 1) (by omega) (by omega), show (P.length : Int) + (S.length : Int) + 1 - 1 = (P.length : Int) + (S.length : Int) by omega]
      rw [show decide ((P.length : Int) + (S.length : Int) + 1 > a) = true from decide_eq_true (by omega)]
      have g1 : getI (P ++ (S ++ [y] ++ x :: (R2 ++ Q))) ((P.length : Int) + (S.length : Int) + 1) = some x := by rw [e2]; exact getI_mid _ _ _ (by simp only [List.length_append, List.length_singleton]; omega)
      have g2 : getI (P ++ (S ++ [y] ++ x :: (R2 ++ Q))) ((P.length : Int) + (S.length : Int)) = some y := by rw [e1]; exact getI_mid _ _ _ (by simp only [List.length_append]; omega)
      have sw := swap3 (P ++ S) y x (R2 ++ Q) (i := (P.length : Int) + (S.length : Int)) (j := (P.length : Int) + (S.length : Int) + 1) (by simp only [List.length_append]; omega) (by simp only [List.length_append]; omega) (fun (f2 : List α) => some (Sum.inl ((P.length : Int) + (S.length : Int), f2) : (Int × List α) ⊕ ((Int × List α) ⊕ Empty)))
      rw [← e1] at sw
      simp only [cond_true]
      rw [sw, g1, Option.bind_some, g2, Option.bind_some, hc, Option.bind_some, hcl, Option.bind_some]
      cases ltM g x y
      · rfl
      · simp
    cases hxy : ltM g x y
    · rw [hxy] at hb
      refine ⟨(P.length : Int) + (S.length : Int) + 1, S ++ [y] ++ x :: R2, ?_, ?_, Sta.refl _⟩
      · rw [loopM_out hb]; simp
      · have h2 := List.pairwise_append.1 hsrt
        refine Srt.app h2.1 ?_ fun p hp q hq => ?_
        · rw [Srt, List.pairwise_cons]
          exact ⟨fun r hr => hs.asym x r hx (hR2 r hr) (hlt r hr), h2.2.1⟩
        · rcases List.mem_cons.1 hq with rfl | hq
          · rcases List.mem_append.1 hp with hp | hp
            · have h3 := (List.pairwise_append.1 h2.1).2.2 p hp y (by simp)
              exact hs.ntrans q y p hx hy (hS p hp) hxy h3
            · rw [List.mem_singleton] at hp; subst hp; exact hxy
          · exact h2.2.2 p hp q hq
    · rw [hxy] at hb
      rw [loopM_next hb]
      obtain ⟨j, R', r1, r2, r3⟩ := ih S (by omega) P x (y :: R2) Q ha hS hx (fun z hz => by rcases List.mem_cons.1 hz with rfl | hz; exact hy; exact hR2 z hz) (by simpa using hsrt) (fun r hr => by
        rcases List.mem_cons.1 hr with rfl | hr
        · exact hxy
        · exact hlt r hr) (by omega)
      refine ⟨j, R', r1, r2, Sta.trans ?_ r3⟩
      have h4 : Sta D g ([y] ++ [x]) ([x] ++ [y]) := Sta.swap hs (fun z hz => by simp at hz; subst hz; exact hy) (fun z hz => by simp at hz; subst hz; exact hx) (fun p hp q hq => by simp at hp hq; subst hp; subst hq; exact hxy)
      have h5 := Sta.app (Sta.refl (D := D) (g := g) S) (Sta.app h4 (Sta.refl R2))
      simpa using h5

theorem ins_outer (hs : SW D g) (a b : Int) (P Q : List α) (ha : a = (P.length : Int)) : ∀ (T R : List α), b = (P.length : Int) + (R.length : Int) + (T.length : Int) → AllD D R → AllD D T → Srt g R → P.length + R.length + T.length ≤ 1073741824 →
    ∃ R', loopM (g_insertionSortCmpFunc_b1 a b g) ((P.length : Int) + (R.length : Int), P ++ (R ++ (T ++ Q))) = some (.inl (b, P ++ (R' ++ Q))) ∧ Srt g R' ∧ Sta D g (R ++ T) R'
  | [], R, hb, _, _, hR, _ => by
    refine ⟨R, loopM_out ?_, hR, by rw [List.append_nil]; exact Sta.refl _⟩
    unfold g_insertionSortCmpFunc_b1
    simp only [List.length_nil] at hb
    simp only
    rw [show decide ((P.length : Int) + (R.length : Int) < b) = false from decide_eq_false (by omega), show (P.length : Int) + (R.length : Int) = b by omega]
    simp
  | x :: T, R, hb, dR, dT, hR, hN => by
    simp only [List.length_cons] at hb hN
    obtain ⟨j, R1, r1, r2, r3⟩ := ins_inner hs a R.length R rfl P x [] (T ++ Q) ha dR (dT x (List.mem_cons_self ..)) (fun z hz => by cases hz) (by rw [List.append_nil]; exact hR) (fun z hz => by cases hz) (by omega)
    have hl : R1.length = R.length + 1 := by have := r3.len; simpa using this
    obtain ⟨R', s1, s2, s3⟩ := ins_outer hs a b P Q ha T R1 (by omega) (r3.all (fun z hz => by
      rcases List.mem_append.1 hz with hz | hz
      · exact dR z hz
      · simp at hz; subst hz; exact dT z (by simp))) (fun z hz => dT z (by simp [hz])) r2 (by omega)
    refine ⟨R', ?_, s2, Sta.trans ?_ s3⟩
    · rw [← s1]
      refine loopM_next ?_
      unfold g_insertionSortCmpFunc_b1
      simp only
      rw [show decide ((P.length : Int) + (R.length : Int) < b) = true from decide_eq_true (by omega), w64_of (n := (P.length : Int) + (R.length : Int) + 1) (by omega) (by omega)]
      simp only [cond_true]
      have e : P ++ (R ++ (x :: T ++ Q)) = P ++ (R ++ x :: ([] ++ (T ++ Q))) := by simp
      rw [e, r1]
      simp only [Option.bind_some]
      rw [hl, show (P.length : Int) + ((R.length + 1 : Nat) : Int) = (P.length : Int) + (R.length : Int) + 1 by omega]
    · have := Sta.app r3 (Sta.refl (D := D) (g := g) T)
      simpa using this

theorem insertion_eq (hs : SW D g) (P A Q : List α) {a b : Int} (ha : a = (P.length : Int)) (hb : b = (P.length : Int) + (A.length : Int)) (dA : AllD D A) (hN : P.length + A.length ≤ 1073741824) :
    ∃ R, g_insertionSortCmpFunc (P ++ (A ++ Q)) a b g = some (P ++ (R ++ Q)) ∧ Srt g R ∧ Sta D g A R := by
  unfold g_insertionSortCmpFunc
  rw [w64_of (n := a + 1) (by omega) (by omega)]
  cases A with
  | nil =>
    refine ⟨[], ?_, .nil, Sta.refl _⟩
    simp only [List.length_nil] at hb
    have : g_insertionSortCmpFunc_b1 a b g (a + 1, P ++ ([] ++ Q)) = some (.inr (.inl (a + 1, P ++ ([] ++ Q)))) := by
      unfold g_insertionSortCmpFunc_b1
      simp only
      rw [show decide (a + 1 < b) = false from decide_eq_false (by omega)]
      rfl
    rw [loopM_out this]; rfl
  | cons x T =>
    simp only [List.length_cons] at hb hN
    obtain ⟨R', s1, s2, s3⟩ := ins_outer hs a b P Q ha T [x] (by simp only [List.length_singleton]; omega) (fun z hz => by simp at hz; subst hz; exact dA z (by simp)) (fun z hz => dA z (by simp [hz])) (by simp) (by simp only [List.length_singleton]; omega)
    refine ⟨R', ?_, s2, s3⟩
    simp only [List.length_singleton] at s1
    rw [show a + 1 = (P.length : Int) + ((1 : Nat) : Int) by omega]
    have e : P ++ (x :: T ++ Q) = P ++ ([x] ++ (T ++ Q)) := by simp
    rw [e, s1]
    rfl

/-! A search by halves. -/
theorem bin_loop {mb : Int × Int → Option ((Int × Int) ⊕ ((Int × Int) ⊕ Empty))} (q : Int → Bool) (lo hi : Int)
    (hstep : ∀ i j, lo ≤ i → i < j → j ≤ hi → mb (i, j) = some (.inl (bif q ((i + j) / 2) then ((i + j) / 2 + 1, j) else (i, (i + j) / 2)))) (hstop : ∀ i, lo ≤ i → i ≤ hi → mb (i, i) = some (.inr (.inl (i, i)))) :
    ∀ (k : Nat) (i j : Int), (j - i).toNat ≤ k → lo ≤ i → i ≤ j → j ≤ hi → (i = lo ∨ q (i - 1) = true) → (j = hi ∨ q j = false) → ∃ s, loopM mb (i, j) = some (.inl (s, s)) ∧ lo ≤ s ∧ s ≤ hi ∧ (s = lo ∨ q (s - 1) = true) ∧ (s = hi ∨ q s = false)
  | 0, i, j, hk, h1, h2, h3, h4, h5 => by
    have : i = j := by omega
    subst this
    exact ⟨i, loopM_out (hstop i h1 h3), h1, h3, h4, h5⟩
  | k + 1, i, j, hk, h1, h2, h3, h4, h5 => by
    rcases Int.lt_or_eq_of_le h2 with h | h
    · have hst := hstep i j h1 h h3
      cases hq : q ((i + j) / 2)
      · rw [hq] at hst
        rw [loopM_next hst]
        exact bin_loop q lo hi hstep hstop k i ((i + j) / 2) (by omega) h1 (by omega) (by omega) h4 (.inr hq)
      · rw [hq] at hst
        rw [loopM_next hst]
        exact bin_loop q lo hi hstep hstop k ((i + j) / 2 + 1) j (by omega) (by omega) (by omega) h3 (.inr (by rw [Int.add_sub_cancel]; exact hq)) h5
    · subst h
      exact ⟨i, loopM_out (hstop i h1 h3), h1, h3, h4, h5⟩
end

section
variable {α : Type} {D : α → Prop} {g : α → α → Option Int}

/-- What a search asks at place h of a list. -/
def atI (l : List α) (h : Int) (p : α → Bool) : Bool := match getI l h with | some z => p z | none => false
theorem atI_of {l : List α} {h : Int} {z : α} (e : getI l h = some z) (p : α → Bool) : atI l h p = p z := by unfold atI; rw [e]

theorem getI_seg (P A Q : List α) (t : Nat) (h : t < A.length) {i : Int} (hi : i = (P.length : Int) + (t : Int)) : getI (P ++ (A ++ Q)) i = some A[t] := by
  subst hi
  rw [show (P.length : Int) + (t : Int) = ((P.length + t : Nat) : Int) by omega, getI_nat, List.getElem?_append_right (by omega), Nat.add_sub_cancel_left, List.getElem?_append_left h, List.getElem?_eq_getElem h]

/-- The moves of the one at the left end to the right. -/
theorem shiftR (s : Int × Int) : ∀ (B P : List α) (x : α) (R : List α), s.1 - 1 = (P.length : Int) + (B.length : Int) → P.length + B.length ≤ 1073741824 →
    loopM (g_symMergeCmpFunc_b2 s) ((P.length : Int), P ++ x :: (B ++ R)) = some (.inl ((P.length : Int) + (B.length : Int), P ++ (B ++ x :: R)))
  | [], P, x, R, hs, hN => by
    refine loopM_out ?_
    unfold g_symMergeCmpFunc_b2
    simp only [List.length_nil] at hs ⊢
    rw [w64_of (n := s.1 - 1) (by omega) (by omega), show decide ((P.length : Int) < s.1 - 1) = false from decide_eq_false (by omega), show (P.length : Int) + ((0 : Nat) : Int) = (P.length : Int) by omega]
    rfl
  | y :: B, P, x, R, hs, hN => by
    simp only [List.length_cons] at hs hN
    have ih := shiftR s B (P ++ [y]) x R (by simp only [List.length_append, List.length_singleton]; omega) (by simp only [List.length_append, List.length_singleton]; omega)
    have e : loopM (g_symMergeCmpFunc_b2 s) ((P.length : Int), P ++ x :: (y :: B ++ R)) = loopM (g_symMergeCmpFunc_b2 s) (((P ++ [y]).length : Int), (P ++ [y]) ++ x :: (B ++ R)) := by
      refine loopM_next ?_
      unfold g_symMergeCmpFunc_b2
      simp only
      rw [w64_of (n := s.1 - 1) (by omega) (by omega), w64_of (n := (P.length : Int) + 1) (by omega) (by omega), show decide ((P.length : Int) < s.1 - 1) = true from decide_eq_true (by omega)]
      simp only [cond_true]
      have sw := swap2 P x [] y (B ++ R) (i := (P.length : Int)) (j := (P.length : Int) + 1) rfl (by simp only [List.length_nil]; omega) (fun (f2 : List α) => some (Sum.inl ((P.length : Int) + 1, f2) : (Int × List α) ⊕ ((Int × List α) ⊕ Empty)))
      simp only [List.nil_append] at sw
      rw [show x :: (y :: B ++ R) = x :: y :: (B ++ R) from rfl, sw]
      simp
    rw [e, ih]
    have hl : (((P ++ [y]).length : Nat) : Int) + (B.length : Int) = (P.length : Int) + (((y :: B).length : Nat) : Int) := by
      simp only [List.length_append, List.length_cons, List.length_nil]; omega
    rw [hl, show P ++ [y] ++ (B ++ x :: R) = P ++ (y :: B ++ x :: R) by simp]

/-- The moves of the one at the right end to the left. -/
theorem shiftL (s : Int × Int) : ∀ (n : Nat) (A : List α), A.length = n → ∀ (P : List α) (x : α) (R : List α), s.1 = (P.length : Int) → P.length + A.length ≤ 1073741824 →
    loopM (g_symMergeCmpFunc_b4 s) ((P.length : Int) + (A.length : Int), P ++ (A ++ x :: R)) = some (.inl ((P.length : Int), P ++ x :: (A ++ R))) := by
  intro n
  induction n with
  | zero =>
    intro A hA P x R hs hN
    have : A = [] := List.length_eq_zero_iff.1 hA
    subst this
    refine loopM_out ?_
    unfold g_symMergeCmpFunc_b4
    simp only [List.length_nil]
    rw [show decide ((P.length : Int) + ((0 : Nat) : Int) > s.1) = false from decide_eq_false (by omega), show (P.length : Int) + ((0 : Nat) : Int) = (P.length : Int) by omega]
    rfl
  | succ n ih =>
    intro A hA P x R hs hN
    have hne : A ≠ [] := by intro h; subst h; simp at hA
    obtain ⟨S, y, rfl⟩ : ∃ S y, A = S ++ [y] := ⟨A.dropLast, A.getLast hne, (List.dropLast_concat_getLast hne).symm⟩
    rw [List.length_append, List.length_singleton] at hA hN
    have ih' := ih S (by omega) P x (y :: R) hs (by omega)
    have e : loopM (g_symMergeCmpFunc_b4 s) ((P.length : Int) + (((S ++ [y]).length : Nat) : Int), P ++ ((S ++ [y]) ++ x :: R)) = loopM (g_symMergeCmpFunc_b4 s) ((P.length : Int) + (S.length : Int), P ++ (S ++ x :: y :: R)) := by
      refine loopM_next ?_
      have hj : (P.length : Int) + (((S ++ [y]).length : Nat) : Int) = (P.length : Int) + (S.length : Int) + 1 := by rw [List.length_append, List.length_singleton]; omega
      unfold g_symMergeCmpFunc_b4
      simp only
      rw [hj, w64_of (n := (P.length : Int) + (S.length : Int) + 1 - 1) (by omega) (by omega), show (P.length : Int) + (S.length : Int) + 1 - 1 = (P.length : Int) + (S.length : Int) by omega, show decide ((P.length : Int) + (S.length : Int) + 1 > s.1) = true from decide_eq_true (by omega)]
      simp only [cond_true]
      have e1 : P ++ (S ++ [y] ++ x :: R) = (P ++ S) ++ y :: x :: R := by simp
      have sw := swap3 (P ++ S) y x R (i := (P.length : Int) + (S.length : Int)) (j := (P.length : Int) + (S.length : Int) + 1) (by simp only [List.length_append]; omega) (by simp only [List.length_append]; omega) (fun (f2 : List α) => some (Sum.inl ((P.length : Int) + (S.length : Int), f2) : (Int × List α) ⊕ ((Int × List α) ⊕ Empty)))
      rw [e1, sw]
      simp
    rw [e, ih']
    simp

theorem srt_get {A : List α} (h : Srt g A) {i j : Nat} (hi : i < A.length) (hj : j < A.length) (hij : i < j) : ltM g A[j] A[i] = false := by
  rw [Srt, List.pairwise_iff_getElem] at h
  exact h i j hi hj hij

/-- The base where the left part is one element. -/
theorem sym_left (hs : SW D g) (P : List α) (x : α) (B Q : List α) {a m b : Int} (ha : a = (P.length : Int)) (hm : m = a + 1) (hb : b = m + (B.length : Int)) (dx : D x) (dB : AllD D B) (sB : Srt g B) (hN : P.length + B.length ≤ 1000000000) :
    ∃ R, (Option.bind (loopM (g_symMergeCmpFunc_b1 (P ++ x :: (B ++ Q)) a g) (m, b)) fun (t : (Int × Int) ⊕ Empty) => match t with | .inl s2 => (Option.bind (loopM (g_symMergeCmpFunc_b2 s2) (a, P ++ x :: (B ++ Q))) fun (t : (Int × List α) ⊕ Empty) => match t with | .inl s4 => (some s4.2) | .inr r => r.elim) | .inr r => r.elim) = some (P ++ (R ++ Q)) ∧ Srt g R ∧ Sta D g (x :: B) R := by
  have ga : getI (P ++ x :: (B ++ Q)) a = some x := getI_mid _ _ _ ha
  have gB : ∀ (t : Nat) (ht : t < B.length) (i : Int), i = m + (t : Int) → getI (P ++ x :: (B ++ Q)) i = some B[t] := fun t ht i hi => by
    have e : P ++ x :: (B ++ Q) = (P ++ [x]) ++ (B ++ Q) := by simp
    rw [e]
    exact getI_seg _ _ _ t ht (by simp only [List.length_append, List.length_singleton]; omega)
  obtain ⟨s, k1, k2, k3, k4, k5⟩ := bin_loop (mb := g_symMergeCmpFunc_b1 (P ++ x :: (B ++ Q)) a g) (fun h => atI (P ++ x :: (B ++ Q)) h fun z => ltM g z x) m b (fun i j h1 h2 h3 => by
    have hg := gB ((i + j) / 2 - m).toNat (by omega) ((i + j) / 2) (by omega)
    rw [atI_of hg]
    unfold g_symMergeCmpFunc_b1
    simp only
    rw [show decide (i < j) = true from decide_eq_true h2, half_eq (x := i + j) (by omega) (by omega), w64_of (n := (i + j) / 2 + 1) (by omega) (by omega)]
    simp only [cond_true]
    obtain ⟨c, hc, hcl⟩ := hs.cmp (dB _ (List.getElem_mem (show ((i + j) / 2 - m).toNat < B.length by omega))) dx
    rw [hg, Option.bind_some, ga, Option.bind_some, hc, Option.bind_some, hcl]
    cases ltM g (B[((i + j) / 2 - m).toNat]'(by omega)) x <;> rfl) (fun i h1 h2 => by
    unfold g_symMergeCmpFunc_b1
    simp only
    rw [show decide (i < i) = false from decide_eq_false (by omega)]
    rfl) (b - m).toNat m b (Nat.le_refl _) (by omega) (by omega) (by omega) (.inl rfl) (.inl rfl)
  rw [k1]
  simp only [Option.bind_some]
  obtain ⟨B1, B2, rfl, hB1⟩ : ∃ B1 B2, B = B1 ++ B2 ∧ B1.length = (s - m).toNat := ⟨B.take (s - m).toNat, B.drop (s - m).toNat, by rw [List.take_append_drop], by rw [List.length_take]; omega⟩
  rw [List.length_append] at hb hN
  have lo : ∀ z ∈ B1, ltM g z x = true := fun z hz => by
    obtain ⟨t, ht, rfl⟩ := List.mem_iff_getElem.1 hz
    have hlast : ltM g (B1[B1.length - 1]'(by omega)) x = true := by
      rcases k4 with k4 | k4
      · omega
      · rw [atI_of (gB (B1.length - 1) (by rw [List.length_append]; omega) (s - 1) (by omega)), List.getElem_append_left (by omega)] at k4
        exact k4
    by_cases e : t = B1.length - 1
    · subst e; exact hlast
    · have h1 := srt_get (List.pairwise_append.1 sB).1 (i := t) (j := B1.length - 1) ht (by omega) (by omega)
      cases h2 : ltM g B1[t] x
      · have := hs.ntrans _ _ _ (dB _ (List.mem_append_left _ (List.getElem_mem (show B1.length - 1 < B1.length by omega)))) (dB _ (List.mem_append_left _ hz)) dx h1 h2
        rw [hlast] at this; cases this
      · rfl
  have hi : ∀ z ∈ B2, ltM g z x = false := fun z hz => by
    obtain ⟨t, ht, rfl⟩ := List.mem_iff_getElem.1 hz
    have hfirst : ltM g (B2[0]'(by omega)) x = false := by
      rcases k5 with k5 | k5
      · omega
      · rw [atI_of (gB B1.length (by rw [List.length_append]; omega) s (by omega)), List.getElem_append_right (Nat.le_refl _)] at k5
        simpa using k5
    by_cases e : t = 0
    · subst e; exact hfirst
    · have h1 := srt_get (List.pairwise_append.1 sB).2.1 (i := 0) (j := t) (by omega) ht (by omega)
      exact hs.ntrans _ _ _ (dB _ (List.mem_append_right _ hz)) (dB _ (List.mem_append_right _ (List.getElem_mem (show 0 < B2.length by omega)))) dx h1 hfirst
  have dB1 : AllD D B1 := fun z hz => dB z (List.mem_append_left _ hz)
  have dB2 : AllD D B2 := fun z hz => dB z (List.mem_append_right _ hz)
  refine ⟨B1 ++ x :: B2, ?_, ?_, ?_⟩
  · have h1 := shiftR (s, s) B1 P x (B2 ++ Q) (by simp only; omega) (by omega)
    rw [ha, List.append_assoc, h1]
    simp
  · refine Srt.app (List.pairwise_append.1 sB).1 ?_ fun p hp q hq => ?_
    · rw [Srt, List.pairwise_cons]
      exact ⟨hi, (List.pairwise_append.1 sB).2.1⟩
    · rcases List.mem_cons.1 hq with rfl | hq
      · exact hs.asym _ _ (dB1 p hp) dx (lo p hp)
      · exact (List.pairwise_append.1 sB).2.2 p hp q hq
  · have h1 : Sta D g ([x] ++ B1) (B1 ++ [x]) := Sta.swap hs (fun z hz => by simp at hz; subst hz; exact dx) dB1 (fun p hp q hq => by simp at hp; subst hp; exact lo q hq)
    have := Sta.app h1 (Sta.refl (D := D) (g := g) B2)
    simpa using this

/-- The base where the right part is one element. -/
theorem sym_right (hs : SW D g) (P : List α) (x : α) (A Q : List α) {a m : Int} (ha : a = (P.length : Int)) (hm : m = a + (A.length : Int)) (dx : D x) (dA : AllD D A) (sA : Srt g A) (hN : P.length + A.length ≤ 1000000000) :
    ∃ R, (Option.bind (loopM (g_symMergeCmpFunc_b3 (P ++ (A ++ x :: Q)) m g) (a, m)) fun (t : (Int × Int) ⊕ Empty) => match t with | .inl s6 => (Option.bind (loopM (g_symMergeCmpFunc_b4 s6) (m, P ++ (A ++ x :: Q))) fun (t : (Int × List α) ⊕ Empty) => match t with | .inl s8 => (some s8.2) | .inr r => r.elim) | .inr r => r.elim) = some (P ++ (R ++ Q)) ∧ Srt g R ∧ Sta D g (A ++ [x]) R := by
  have gm : getI (P ++ (A ++ x :: Q)) m = some x := by
    have e : P ++ (A ++ x :: Q) = (P ++ A) ++ x :: Q := by simp
    rw [e]
    exact getI_mid _ _ _ (by simp only [List.length_append]; omega)
  have gA : ∀ (t : Nat) (ht : t < A.length) (i : Int), i = a + (t : Int) → getI (P ++ (A ++ x :: Q)) i = some A[t] := fun t ht i hi => getI_seg _ _ _ t ht (by omega)
  obtain ⟨s, k1, k2, k3, k4, k5⟩ := bin_loop (mb := g_symMergeCmpFunc_b3 (P ++ (A ++ x :: Q)) m g) (fun h => atI (P ++ (A ++ x :: Q)) h fun z => !ltM g x z) a m (fun i j h1 h2 h3 => by
    have hg := gA ((i + j) / 2 - a).toNat (by omega) ((i + j) / 2) (by omega)
    rw [atI_of hg]
    unfold g_symMergeCmpFunc_b3
    simp only
    rw [show decide (i < j) = true from decide_eq_true h2, half_eq (x := i + j) (by omega) (by omega), w64_of (n := (i + j) / 2 + 1) (by omega) (by omega)]
    simp only [cond_true]
    obtain ⟨c, hc, hcl⟩ := hs.cmp dx (dA _ (List.getElem_mem (show ((i + j) / 2 - a).toNat < A.length by omega)))
    rw [gm, Option.bind_some, hg, Option.bind_some, hc, Option.bind_some, hcl]
    cases ltM g x (A[((i + j) / 2 - a).toNat]'(by omega)) <;> rfl) (fun i h1 h2 => by
    unfold g_symMergeCmpFunc_b3
    simp only
    rw [show decide (i < i) = false from decide_eq_false (by omega)]
    rfl) (m - a).toNat a m (Nat.le_refl _) (by omega) (by omega) (by omega) (.inl rfl) (.inl rfl)
  rw [k1]
  simp only [Option.bind_some]
  obtain ⟨A1, A2, rfl, hA1⟩ : ∃ A1 A2, A = A1 ++ A2 ∧ A1.length = (s - a).toNat := ⟨A.take (s - a).toNat, A.drop (s - a).toNat, by rw [List.take_append_drop], by rw [List.length_take]; omega⟩
  rw [List.length_append] at hm hN
  have dA1 : AllD D A1 := fun z hz => dA z (List.mem_append_left _ hz)
  have dA2 : AllD D A2 := fun z hz => dA z (List.mem_append_right _ hz)
  have lo : ∀ z ∈ A1, ltM g x z = false := fun z hz => by
    obtain ⟨t, ht, rfl⟩ := List.mem_iff_getElem.1 hz
    have hlast : ltM g x (A1[A1.length - 1]'(by omega)) = false := by
      rcases k4 with k4 | k4
      · omega
      · rw [atI_of (gA (A1.length - 1) (by rw [List.length_append]; omega) (s - 1) (by omega)), List.getElem_append_left (by omega)] at k4
        simpa using k4
    by_cases e : t = A1.length - 1
    · subst e; exact hlast
    · have h1 := srt_get (List.pairwise_append.1 sA).1 (i := t) (j := A1.length - 1) ht (by omega) (by omega)
      exact hs.ntrans _ _ _ dx (dA1 _ (List.getElem_mem (show A1.length - 1 < A1.length by omega))) (dA1 _ hz) hlast h1
  have hi : ∀ z ∈ A2, ltM g x z = true := fun z hz => by
    obtain ⟨t, ht, rfl⟩ := List.mem_iff_getElem.1 hz
    have hfirst : ltM g x (A2[0]'(by omega)) = true := by
      rcases k5 with k5 | k5
      · omega
      · rw [atI_of (gA A1.length (by rw [List.length_append]; omega) s (by omega)), List.getElem_append_right (Nat.le_refl _)] at k5
        simpa using k5
    by_cases e : t = 0
    · subst e; exact hfirst
    · have h1 := srt_get (List.pairwise_append.1 sA).2.1 (i := 0) (j := t) (by omega) ht (by omega)
      cases h2 : ltM g x A2[t]
      · have := hs.ntrans _ _ _ dx (dA2 _ hz) (dA2 _ (List.getElem_mem (show 0 < A2.length by omega))) h2 h1
        rw [hfirst] at this; cases this
      · rfl
  refine ⟨A1 ++ x :: A2, ?_, ?_, ?_⟩
  · have h1 := shiftL (s, s) A2.length A2 rfl (P ++ A1) x Q (by simp only [List.length_append]; omega) (by simp only [List.length_append]; omega)
    have e1 : P ++ (A1 ++ A2 ++ x :: Q) = (P ++ A1) ++ (A2 ++ x :: Q) := by simp
    rw [e1, show m = (((P ++ A1).length : Nat) : Int) + (A2.length : Int) by simp only [List.length_append]; omega, h1]
    simp
  · refine Srt.app (List.pairwise_append.1 sA).1 ?_ fun p hp q hq => ?_
    · rw [Srt, List.pairwise_cons]
      exact ⟨fun z hz => hs.asym _ _ dx (dA2 z hz) (hi z hz), (List.pairwise_append.1 sA).2.1⟩
    · rcases List.mem_cons.1 hq with rfl | hq
      · exact lo p hp
      · exact (List.pairwise_append.1 sA).2.2 p hp q hq
  · have h1 : Sta D g (A2 ++ [x]) ([x] ++ A2) := Sta.swap hs dA2 (fun z hz => by simp at hz; subst hz; exact dx) (fun p hp q hq => by simp at hq; subst hq; exact hi p hp)
    have := Sta.app (Sta.refl (D := D) (g := g) A1) h1
    simpa using this
end

section
variable {α : Type} {D : α → Prop} {g : α → α → Option Int}

theorem symMerge_eq (hs : SW D g) : ∀ (fu : Nat) (P A B Q : List α) (a m b : Int), a = (P.length : Int) → m = a + (A.length : Int) → b = m + (B.length : Int) → 0 < A.length → 0 < B.length → A.length + B.length ≤ 2 ^ fu → AllD D A → AllD D B → Srt g A → Srt g B → P.length + A.length + B.length + Q.length ≤ 1000000000 →
    ∃ R, g_symMergeCmpFunc fu (P ++ (A ++ (B ++ Q))) a m b g = some (P ++ (R ++ Q)) ∧ Srt g R ∧ Sta D g (A ++ B) R := by
  intro fu
  induction fu with
  | zero => intro P A B Q a m b _ _ _ h1 h2 h3; exfalso; simp at h3; omega
  | succ fu ih =>
    intro P A B Q a m b ha hm hb hA hB hsz dA dB sA sB hN
    rw [show g_symMergeCmpFunc (α := α) (fu + 1) = g_symMergeCmpFunc_s (g_symMergeCmpFunc fu) from rfl]
    unfold g_symMergeCmpFunc_s
    rw [w64_of (n := m - a) (by omega) (by omega), w64_of (n := b - m) (by omega) (by omega), half_eq (x := a + b) (by omega) (by omega)]
    by_cases hA1 : A.length = 1
    · -- one element at the left
      obtain ⟨x, rfl⟩ : ∃ x, A = [x] := List.length_eq_one_iff.1 hA1
      rw [show (m - a == 1) = true by simp; simp only [List.length_singleton] at hm; omega]
      simp only [cond_true]
      obtain ⟨R, r1, r2, r3⟩ := sym_left hs P x B Q (a := a) (m := m) (b := b) ha (by simp only [List.length_singleton] at hm; omega) hb (dA x (by simp)) dB sB (by omega)
      exact ⟨R, r1, r2, r3⟩
    · rw [show (m - a == 1) = false by simp; omega]
      simp only [cond_false]
      by_cases hB1 : B.length = 1
      · obtain ⟨x, rfl⟩ : ∃ x, B = [x] := List.length_eq_one_iff.1 hB1
        rw [show (b - m == 1) = true by simp; simp only [List.length_singleton] at hb; omega]
        simp only [cond_true]
        exact sym_right hs P x A Q (a := a) (m := m) ha hm (dB x (by simp)) dA sA (by omega)
      · rw [show (b - m == 1) = false by simp; omega]
        simp only [cond_false]
        generalize hmid : (a + b) / 2 = mid
        rw [w64_of (n := mid + m) (by omega) (by omega), w64_of (n := mid + m - b) (by omega) (by omega)]
        have hL : (P ++ (A ++ (B ++ Q))) = P ++ ((A ++ B) ++ Q) := by simp
        have gA : ∀ (t : Nat) (ht : t < A.length) (i : Int), i = a + (t : Int) → getI (P ++ (A ++ (B ++ Q))) i = some A[t] := fun t ht i hi => getI_seg _ _ _ t ht (by omega)
        have gB : ∀ (t : Nat) (ht : t < B.length) (i : Int), i = m + (t : Int) → getI (P ++ (A ++ (B ++ Q))) i = some B[t] := fun t ht i hi => by
          have e : P ++ (A ++ (B ++ Q)) = (P ++ A) ++ (B ++ Q) := by simp
          rw [e]
          exact getI_seg _ _ _ t ht (by simp only [List.length_append]; omega)
        obtain ⟨lo, hi, hpair, hlo1, hlohi, hhi1, hcase⟩ : ∃ lo hi : Int, (bif decide (m > mid) then some (mid + m - b, mid) else some (a, m)) = some (lo, hi) ∧ a ≤ lo ∧ lo ≤ hi ∧ hi ≤ m ∧ ((m > mid ∧ lo = mid + m - b ∧ hi = mid) ∨ (m ≤ mid ∧ lo = a ∧ hi = m)) := by
          by_cases h : m > mid
          · exact ⟨mid + m - b, mid, by rw [decide_eq_true h]; rfl, by omega, by omega, by omega, .inl ⟨h, rfl, rfl⟩⟩
          · exact ⟨a, m, by rw [decide_eq_false h]; rfl, by omega, by omega, by omega, .inr ⟨by omega, rfl, rfl⟩⟩
        rw [hpair]
        simp only [Option.bind_some]
        obtain ⟨s, k1, k2, k3, k4, k5⟩ := bin_loop (mb := g_symMergeCmpFunc_b5 (P ++ (A ++ (B ++ Q))) a m b g) (fun h => atI (P ++ (A ++ (B ++ Q))) h fun x => atI (P ++ (A ++ (B ++ Q))) (mid + m - 1 - h) fun y => !ltM g y x) lo hi (fun i j h1 h2 h3 => by
          have hg := gA ((i + j) / 2 - a).toNat (by omega) ((i + j) / 2) (by omega)
          have hg2 := gB (mid + m - 1 - (i + j) / 2 - m).toNat (by omega) (mid + m - 1 - (i + j) / 2) (by omega)
          rw [atI_of hg, atI_of hg2]
          unfold g_symMergeCmpFunc_b5
          simp only
          rw [show decide (i < j) = true from decide_eq_true h2, half_eq (x := i + j) (by omega) (by omega), half_eq (x := a + b) (by omega) (by omega), hmid, w64_of (n := (i + j) / 2 + 1) (by omega) (by omega), w64_of (n := mid + m) (by omega) (by omega), w64_of (n := mid + m - 1) (by omega) (by omega), w64_of (n := mid + m - 1 - (i + j) / 2) (by omega) (by omega)]
          simp only [cond_true]
          obtain ⟨c, hc, hcl⟩ := hs.cmp (dB _ (List.getElem_mem (show (mid + m - 1 - (i + j) / 2 - m).toNat < B.length by omega))) (dA _ (List.getElem_mem (show ((i + j) / 2 - a).toNat < A.length by omega)))
          rw [hg2, Option.bind_some, hg, Option.bind_some, hc, Option.bind_some, hcl]
          cases ltM g (B[(mid + m - 1 - (i + j) / 2 - m).toNat]'(by omega)) (A[((i + j) / 2 - a).toNat]'(by omega)) <;> rfl) (fun i h1 h2 => by
          unfold g_symMergeCmpFunc_b5
          simp only
          rw [show decide (i < i) = false from decide_eq_false (by omega)]
          rfl) (hi - lo).toNat lo hi (Nat.le_refl _) (by omega) (by omega) (by omega) (.inl rfl) (.inl rfl)
        rw [k1]
        simp only [Option.bind_some]
        rw [w64_of (n := mid + m - s) (by omega) (by omega)]
        have hs1 : a ≤ s ∧ s ≤ m ∧ m ≤ mid + m - s ∧ mid + m - s ≤ b := by omega
        obtain ⟨A1, A2, rfl, hA1⟩ : ∃ A1 A2, A = A1 ++ A2 ∧ A1.length = (s - a).toNat := ⟨A.take (s - a).toNat, A.drop (s - a).toNat, by rw [List.take_append_drop], by rw [List.length_take]; omega⟩
        obtain ⟨B1, B2, rfl, hB1⟩ : ∃ B1 B2, B = B1 ++ B2 ∧ B1.length = (mid - s).toNat := ⟨B.take (mid - s).toNat, B.drop (mid - s).toNat, by rw [List.take_append_drop], by rw [List.length_take]; omega⟩
        rw [List.length_append] at hm hb hA hB
        rw [List.length_append, List.length_append] at hsz hN
        have dA1 : AllD D A1 := fun z hz => dA z (List.mem_append_left _ hz)
        have dA2 : AllD D A2 := fun z hz => dA z (List.mem_append_right _ hz)
        have dB1 : AllD D B1 := fun z hz => dB z (List.mem_append_left _ hz)
        have dB2 : AllD D B2 := fun z hz => dB z (List.mem_append_right _ hz)
        obtain ⟨sA1, sA2, sA12⟩ := List.pairwise_append.1 sA
        obtain ⟨sB1, sB2, sB12⟩ := List.pairwise_append.1 sB
        -- what the search has found
        have lt1 : ∀ x ∈ A2, ∀ y ∈ B1, ltM g y x = true := fun x hx y hy => by
          obtain ⟨t, ht, rfl⟩ := List.mem_iff_getElem.1 hx
          obtain ⟨u, hu, rfl⟩ := List.mem_iff_getElem.1 hy
          have hbase : ltM g (B1[B1.length - 1]'(by omega)) (A2[0]'(by omega)) = true := by
            rcases k5 with k5 | k5
            · omega
            · rw [atI_of (gA A1.length (by rw [List.length_append]; omega) s (by omega)), atI_of (gB (B1.length - 1) (by rw [List.length_append]; omega) (mid + m - 1 - s) (by omega)), List.getElem_append_right (Nat.le_refl _), List.getElem_append_left (by omega)] at k5
              simpa using k5
          have h1 : ltM g (A2[t]) (A2[0]'(by omega)) = false := by
            by_cases e : t = 0
            · subst e; exact hs.irr (dA2 _ hx)
            · exact srt_get sA2 (by omega) ht (by omega)
          have h2 : ltM g (B1[B1.length - 1]'(by omega)) (B1[u]) = false := by
            by_cases e : u = B1.length - 1
            · subst e; exact hs.irr (dB1 _ hy)
            · exact srt_get sB1 hu (by omega) (by omega)
          have dl : D (B1[B1.length - 1]'(by omega)) := dB1 _ (List.getElem_mem (by omega))
          have df : D (A2[0]'(by omega)) := dA2 _ (List.getElem_mem (by omega))
          cases h3 : ltM g B1[u] A2[t]
          · have h4 := hs.ntrans _ _ _ (dB1 _ hy) (dA2 _ hx) df h3 h1
            have h5 := hs.ntrans _ _ _ dl (dB1 _ hy) df h2 h4
            rw [hbase] at h5; cases h5
          · rfl
        have lt2 : ∀ x ∈ A1, ∀ y ∈ B2, ltM g y x = false := fun x hx y hy => by
          obtain ⟨t, ht, rfl⟩ := List.mem_iff_getElem.1 hx
          obtain ⟨u, hu, rfl⟩ := List.mem_iff_getElem.1 hy
          have hbase : ltM g (B2[0]'(by omega)) (A1[A1.length - 1]'(by omega)) = false := by
            rcases k4 with k4 | k4
            · omega
            · rw [atI_of (gA (A1.length - 1) (by rw [List.length_append]; omega) (s - 1) (by omega)), atI_of (gB B1.length (by rw [List.length_append]; omega) (mid + m - 1 - (s - 1)) (by omega)), List.getElem_append_right (Nat.le_refl _), List.getElem_append_left (by omega)] at k4
              simpa using k4
          have dl : D (A1[A1.length - 1]'(by omega)) := dA1 _ (List.getElem_mem (by omega))
          have df : D (B2[0]'(by omega)) := dB2 _ (List.getElem_mem (by omega))
          have h1 : ltM g (A1[A1.length - 1]'(by omega)) (A1[t]) = false := by
            by_cases e : t = A1.length - 1
            · subst e; exact hs.irr (dA1 _ hx)
            · exact srt_get sA1 ht (by omega) (by omega)
          have h2 : ltM g (B2[u]) (B2[0]'(by omega)) = false := by
            by_cases e : u = 0
            · subst e; exact hs.irr (dB2 _ hy)
            · exact srt_get sB2 (by omega) hu (by omega)
          exact hs.ntrans _ _ _ (dB2 _ hy) dl (dA1 _ hx) (hs.ntrans _ _ _ (dB2 _ hy) df dl h2 hbase) h1
        -- the turn
        have hrot : (Option.bind (bif (decide (s < m) && decide (m < mid + m - s)) then (Option.bind (g_rotateCmpFunc (P ++ (A1 ++ A2 ++ (B1 ++ B2 ++ Q))) s m (mid + m - s) g) fun v4 => some v4) else (some (P ++ (A1 ++ A2 ++ (B1 ++ B2 ++ Q))))) : (List α → Option (List α)) → Option (List α)) = fun k => k (P ++ (A1 ++ (B1 ++ (A2 ++ (B2 ++ Q))))) := by
          funext k
          by_cases h : s < m ∧ m < mid + m - s
          · rw [decide_eq_true h.1, decide_eq_true h.2]
            have e : P ++ (A1 ++ A2 ++ (B1 ++ B2 ++ Q)) = (P ++ A1) ++ (A2 ++ (B1 ++ (B2 ++ Q))) := by simp
            rw [e, rotate_eq g (P ++ A1) A2 B1 (B2 ++ Q) (by omega) (by omega) (by simp only [List.length_append]; omega) (by simp only [List.length_append]; omega) (by omega) (by simp only [List.length_append]; omega)]
            simp
          · have e : P ++ (A1 ++ A2 ++ (B1 ++ B2 ++ Q)) = P ++ (A1 ++ (B1 ++ (A2 ++ (B2 ++ Q)))) := by
              by_cases h2 : A2 = []
              · subst h2; simp
              · have : B1 = [] := by
                  have h3 : 0 < A2.length := List.length_pos_iff.2 h2
                  exact List.length_eq_zero_iff.1 (by omega)
                subst this; simp
            rw [show (decide (s < m) && decide (m < mid + m - s)) = false by rw [Bool.and_eq_false_iff, decide_eq_false_iff_not, decide_eq_false_iff_not]; omega, e]
            rfl
        rw [hrot]
        dsimp only
        -- the left half
        obtain ⟨R1, rec1, sR1, tR1⟩ : ∃ R1, (Option.bind (bif (decide (a < s) && decide (s < mid)) then (Option.bind (g_symMergeCmpFunc fu (P ++ (A1 ++ (B1 ++ (A2 ++ (B2 ++ Q))))) a s mid g) fun v5 => some v5) else (some (P ++ (A1 ++ (B1 ++ (A2 ++ (B2 ++ Q))))))) : (List α → Option (List α)) → Option (List α)) = (fun k => k (P ++ (R1 ++ (A2 ++ (B2 ++ Q))))) ∧ Srt g R1 ∧ Sta D g (A1 ++ B1) R1 := by
          by_cases h : a < s ∧ s < mid
          · obtain ⟨R1, r1, r2, r3⟩ := ih P A1 B1 (A2 ++ (B2 ++ Q)) a s mid ha (by omega) (by omega) (by omega) (by omega) (by rw [Nat.pow_succ] at hsz; omega) dA1 dB1 sA1 sB1 (by simp only [List.length_append]; omega)
            refine ⟨R1, ?_, r2, r3⟩
            funext k
            rw [decide_eq_true h.1, decide_eq_true h.2]
            simp only [Bool.and_self, cond_true]
            rw [r1]
            rfl
          · refine ⟨A1 ++ B1, ?_, ?_, Sta.refl _⟩
            · funext k
              rw [show (decide (a < s) && decide (s < mid)) = false by rw [Bool.and_eq_false_iff, decide_eq_false_iff_not, decide_eq_false_iff_not]; omega]
              simp
            · by_cases h2 : A1 = []
              · subst h2; simpa using sB1
              · have : B1 = [] := by
                  have h3 : 0 < A1.length := List.length_pos_iff.2 h2
                  exact List.length_eq_zero_iff.1 (by omega)
                subst this; rw [List.append_nil]; exact sA1
        rw [rec1]
        dsimp only
        have lR1 : R1.length = A1.length + B1.length := by have := tR1.len; simpa using this
        -- the right half
        obtain ⟨R2, rec2, sR2, tR2⟩ : ∃ R2, (bif (decide (mid < mid + m - s) && decide (mid + m - s < b)) then (Option.bind (g_symMergeCmpFunc fu (P ++ (R1 ++ (A2 ++ (B2 ++ Q)))) mid (mid + m - s) b g) fun v6 => some v6) else (some (P ++ (R1 ++ (A2 ++ (B2 ++ Q)))))) = some (P ++ (R1 ++ R2 ++ Q)) ∧ Srt g R2 ∧ Sta D g (A2 ++ B2) R2 := by
          by_cases h : mid < mid + m - s ∧ mid + m - s < b
          · obtain ⟨R2, r1, r2, r3⟩ := ih (P ++ R1) A2 B2 Q mid (mid + m - s) b (by simp only [List.length_append]; omega) (by omega) (by omega) (by omega) (by omega) (by rw [Nat.pow_succ] at hsz; omega) dA2 dB2 sA2 sB2 (by simp only [List.length_append]; omega)
            refine ⟨R2, ?_, r2, r3⟩
            rw [decide_eq_true h.1, decide_eq_true h.2]
            simp only [Bool.and_self, cond_true]
            rw [show P ++ (R1 ++ (A2 ++ (B2 ++ Q))) = (P ++ R1) ++ (A2 ++ (B2 ++ Q)) by simp, r1]
            simp
          · refine ⟨A2 ++ B2, ?_, ?_, Sta.refl _⟩
            · rw [show (decide (mid < mid + m - s) && decide (mid + m - s < b)) = false by rw [Bool.and_eq_false_iff, decide_eq_false_iff_not, decide_eq_false_iff_not]; omega]
              simp
            · by_cases h2 : A2 = []
              · subst h2; simpa using sB2
              · have : B2 = [] := by
                  have h3 : 0 < A2.length := List.length_pos_iff.2 h2
                  exact List.length_eq_zero_iff.1 (by omega)
                subst this; rw [List.append_nil]; exact sA2
        refine ⟨R1 ++ R2, rec2, Srt.app sR1 sR2 fun p hp q hq => ?_, ?_⟩
        · have hp' := tR1.perm.mem_iff.1 hp
          have hq' := tR2.perm.mem_iff.1 hq
          rcases List.mem_append.1 hp' with hp' | hp' <;> rcases List.mem_append.1 hq' with hq' | hq'
          · exact sA12 p hp' q hq'
          · exact lt2 p hp' q hq'
          · exact hs.asym _ _ (dB1 p hp') (dA2 q hq') (lt1 q hq' p hp')
          · exact sB12 p hp' q hq'
        · have h1 : Sta D g (A2 ++ B1) (B1 ++ A2) := Sta.swap hs dA2 dB1 lt1
          have h2 := Sta.app (Sta.refl (D := D) (g := g) A1) (Sta.app h1 (Sta.refl B2))
          have h3 := Sta.app tR1 tR2
          refine Sta.trans ?_ h3
          have e1 : A1 ++ (A2 ++ B1 ++ B2) = A1 ++ A2 ++ (B1 ++ B2) := by simp
          have e2 : A1 ++ (B1 ++ A2 ++ B2) = A1 ++ B1 ++ (A2 ++ B2) := by simp
          rw [e1, e2] at h2
          exact h2
end

section
variable {α : Type} {D : α → Prop} {g : α → α → Option Int}

theorem le64 {n : Nat} (h : n ≤ 4000000000) : n ≤ 2 ^ 64 := Nat.le_trans h (by decide)
theorem le25 {n : Nat} (h : n ≤ 400000000) : n ≤ 20 * 2 ^ 25 := Nat.le_trans h (by decide)

/-! The blocks. -/
/-- What a list of sorted runs of bs each, and a shorter one, is. -/
structure Runs (D : α → Prop) (g : α → α → Option Int) (bs : Nat) (L : List α) (Bs : List (List α)) (T : List α) : Prop where
  eq : L = Bs.flatten ++ T
  blk : ∀ B ∈ Bs, B.length = bs ∧ Srt g B
  rest : T.length < bs

theorem flatten_len {bs : Nat} : ∀ {Bs : List (List α)}, (∀ B ∈ Bs, B.length = bs ∧ Srt g B) → Bs.flatten.length = Bs.length * bs
  | [], _ => by simp
  | B :: Bs, h => by
    rw [List.flatten_cons, List.length_append, flatten_len fun X hX => h X (List.mem_cons_of_mem _ hX), (h B (List.mem_cons_self ..)).1, List.length_cons, Nat.succ_mul]; omega

theorem st1_loop (hs : SW D g) (n : Int) : ∀ (k : Nat) (L P : List α), L.length ≤ k → n = (P.length : Int) + (L.length : Int) → AllD D L → P.length + L.length ≤ 1000000000 →
    ∃ (Bs : List (List α)) (T : List α) (a' b' : Int), loopM (g_stableCmpFunc_b1 n g) ((P.length : Int), (P.length : Int) + 20, P ++ L) = some (.inl (a', b', P ++ (Bs.flatten ++ T))) ∧ a' = (P.length : Int) + (Bs.flatten.length : Int) ∧ (∀ B ∈ Bs, B.length = 20 ∧ Srt g B) ∧ T.length < 20 ∧ Sta D g L (Bs.flatten ++ T)
  | 0, L, P, hk, hn, dL, hN => by
    refine ⟨[], L, (P.length : Int), (P.length : Int) + 20, loopM_out ?_, by simp, by simp, by omega, Sta.refl L⟩
    unfold g_stableCmpFunc_b1
    simp only
    rw [show decide ((P.length : Int) + 20 ≤ n) = false from decide_eq_false (by omega)]
    simp
  | k + 1, L, P, hk, hn, dL, hN => by
    by_cases h : 20 ≤ L.length
    · obtain ⟨A, L', rfl, hA⟩ : ∃ A L', L = A ++ L' ∧ A.length = 20 := ⟨L.take 20, L.drop 20, by rw [List.take_append_drop], by rw [List.length_take]; omega⟩
      rw [List.length_append] at hk hn hN
      have dA : AllD D A := fun z hz => dL z (List.mem_append_left _ hz)
      obtain ⟨R, r1, r2, r3⟩ := insertion_eq hs P A L' (a := (P.length : Int)) (b := (P.length : Int) + 20) rfl (by omega) dA (by omega)
      have hR : R.length = 20 := by rw [r3.len, hA]
      obtain ⟨Bs, T, a', b', s1, s2, s3, s4, s5⟩ := st1_loop hs n k L' (P ++ R) (by omega) (by rw [List.length_append]; omega) (fun z hz => dL z (List.mem_append_right _ hz)) (by rw [List.length_append]; omega)
      refine ⟨R :: Bs, T, a', b', ?_, ?_, ?_, s4, ?_⟩
      · have e : loopM (g_stableCmpFunc_b1 n g) ((P.length : Int), (P.length : Int) + 20, P ++ (A ++ L')) = loopM (g_stableCmpFunc_b1 n g) (((P ++ R).length : Int), ((P ++ R).length : Int) + 20, (P ++ R) ++ L') := by
          refine loopM_next ?_
          unfold g_stableCmpFunc_b1
          simp only
          rw [show decide ((P.length : Int) + 20 ≤ n) = true from decide_eq_true (by omega), w64_of (n := (P.length : Int) + 20 + 20) (by omega) (by omega)]
          simp only [cond_true]
          rw [r1, Option.bind_some, List.length_append, hR, List.append_assoc, show ((P.length + 20 : Nat) : Int) = (P.length : Int) + 20 by omega]
        rw [e, s1]
        simp
      · rw [List.flatten_cons, List.length_append, hR]
        rw [List.length_append, hR] at s2
        omega
      · intro B hB
        rcases List.mem_cons.1 hB with rfl | hB
        · exact ⟨hR, r2⟩
        · exact s3 B hB
      · have := Sta.app r3 s5
        simpa using this
    · refine ⟨[], L, (P.length : Int), (P.length : Int) + 20, loopM_out ?_, by simp, by simp, by omega, Sta.refl L⟩
      unfold g_stableCmpFunc_b1
      simp only
      rw [show decide ((P.length : Int) + 20 ≤ n) = false from decide_eq_false (by omega)]
      simp

theorem st3_loop (hs : SW D g) (n : Int) (bs : Nat) (s3 : Int × List α) (hbs : s3.1 = (bs : Int)) (h0 : 0 < bs) (hb1 : bs ≤ 1000000000) : ∀ (k : Nat) (Bs : List (List α)), Bs.length ≤ k → ∀ (P T : List α), n = (P.length : Int) + (Bs.flatten.length : Int) + (T.length : Int) → AllD D Bs.flatten → AllD D T → (∀ B ∈ Bs, B.length = bs ∧ Srt g B) → T.length < bs → P.length + Bs.flatten.length + T.length ≤ 1000000000 →
    ∃ (Bs' R : List (List α)) (a' b' : Int), loopM (g_stableCmpFunc_b3 n g s3) ((P.length : Int), (P.length : Int) + 2 * (bs : Int), P ++ (Bs.flatten ++ T)) = some (.inl (a', b', P ++ (Bs'.flatten ++ (R.flatten ++ T)))) ∧ a' = (P.length : Int) + (Bs'.flatten.length : Int) ∧ (∀ B ∈ Bs', B.length = 2 * bs ∧ Srt g B) ∧ (R = [] ∨ ∃ A, R = [A] ∧ A.length = bs ∧ Srt g A) ∧ Sta D g Bs.flatten (Bs'.flatten ++ R.flatten) := by
  intro k
  induction k with
  | zero =>
    intro Bs hk P T hn dB dT hB hT hN
    have : Bs = [] := List.length_eq_zero_iff.1 (by omega)
    subst this
    simp only [List.flatten_nil, List.length_nil, List.nil_append] at *
    refine ⟨[], [], (P.length : Int), (P.length : Int) + 2 * (bs : Int), loopM_out ?_, by simp, by simp, .inl rfl, Sta.refl _⟩
    unfold g_stableCmpFunc_b3
    simp only
    rw [show decide ((P.length : Int) + 2 * (bs : Int) ≤ n) = false from decide_eq_false (by omega)]
    simp
  | succ k ih =>
    intro Bs hk P T hn dB dT hB hT hN
    match Bs with
    | [] =>
      simp only [List.flatten_nil, List.length_nil, List.nil_append] at *
      refine ⟨[], [], (P.length : Int), (P.length : Int) + 2 * (bs : Int), loopM_out ?_, by simp, by simp, .inl rfl, Sta.refl _⟩
      unfold g_stableCmpFunc_b3
      simp only
      rw [show decide ((P.length : Int) + 2 * (bs : Int) ≤ n) = false from decide_eq_false (by omega)]
      simp
    | [A] =>
      have hA := hB A (by simp)
      simp only [List.flatten_cons, List.flatten_nil, List.append_nil] at *
      refine ⟨[], [A], (P.length : Int), (P.length : Int) + 2 * (bs : Int), loopM_out ?_, by simp, by simp, .inr ⟨A, rfl, hA⟩, by simpa using Sta.refl A⟩
      unfold g_stableCmpFunc_b3
      simp only
      rw [show decide ((P.length : Int) + 2 * (bs : Int) ≤ n) = false from decide_eq_false (by omega)]
      simp
    | A :: B :: Bs =>
      have hA := hB A (by simp)
      have hB' := hB B (by simp)
      simp only [List.flatten_cons, List.length_append, List.length_cons] at hn hN hk
      have dA : AllD D A := fun z hz => dB z (by simp [hz])
      have dB1 : AllD D B := fun z hz => dB z (by simp [hz])
      have dBs : AllD D Bs.flatten := fun z hz => dB z (by simp only [List.flatten_cons, List.mem_append]; exact .inr (.inr hz))
      obtain ⟨R, r1, r2, r3⟩ := symMerge_eq hs 64 P A B (Bs.flatten ++ T) (P.length : Int) ((P.length : Int) + (bs : Int)) ((P.length : Int) + 2 * (bs : Int)) rfl (by omega) (by omega) (by omega) (by omega) (le64 (by omega)) dA dB1 hA.2 hB'.2 (by rw [List.length_append]; omega)
      have hR : R.length = 2 * bs := by have := r3.len; rw [List.length_append] at this; omega
      obtain ⟨Bs', R', a', b', s1, s2, s4, s5, s6⟩ := ih Bs (by omega) (P ++ R) T (by rw [List.length_append]; omega) dBs dT (fun X hX => hB X (by simp [hX])) hT (by rw [List.length_append]; omega)
      refine ⟨R :: Bs', R', a', b', ?_, ?_, ?_, s5, ?_⟩
      · have e : loopM (g_stableCmpFunc_b3 n g s3) ((P.length : Int), (P.length : Int) + 2 * (bs : Int), P ++ ((A :: B :: Bs).flatten ++ T)) = loopM (g_stableCmpFunc_b3 n g s3) (((P ++ R).length : Int), ((P ++ R).length : Int) + 2 * (bs : Int), (P ++ R) ++ (Bs.flatten ++ T)) := by
          refine loopM_next ?_
          unfold g_stableCmpFunc_b3
          simp only
          rw [hbs, show decide ((P.length : Int) + 2 * (bs : Int) ≤ n) = true from decide_eq_true (by omega), w64_of (n := (P.length : Int) + (bs : Int)) (by omega) (by omega), w64_of (n := 2 * (bs : Int)) (by omega) (by omega), w64_of (n := (P.length : Int) + 2 * (bs : Int) + 2 * (bs : Int)) (by omega) (by omega)]
          simp only [cond_true]
          rw [show P ++ ((A :: B :: Bs).flatten ++ T) = P ++ (A ++ (B ++ (Bs.flatten ++ T))) by simp, r1, Option.bind_some, List.length_append, hR, List.append_assoc, show ((P.length + 2 * bs : Nat) : Int) = (P.length : Int) + 2 * (bs : Int) by omega]
        rw [e, s1]
        simp
      · rw [List.flatten_cons, List.length_append, hR]
        rw [List.length_append, hR] at s2
        omega
      · intro X hX
        rcases List.mem_cons.1 hX with rfl | hX
        · exact ⟨hR, r2⟩
        · exact s4 X hX
      · have := Sta.app r3 s6
        simpa using this

theorem st2_loop (hs : SW D g) (n : Int) : ∀ (k bs : Nat) (L : List α) (Bs : List (List α)) (T : List α), n = (L.length : Int) → L.length ≤ bs * 2 ^ k → 0 < bs → bs ≤ 1000000000 → L.length ≤ 400000000 → AllD D L → Runs D g bs L Bs T → Srt g T →
    ∃ c R, loopM (g_stableCmpFunc_b2 n g) ((bs : Int), L) = some (.inl (c, R)) ∧ Srt g R ∧ Sta D g L R := by
  have stop : ∀ (bs : Nat) (L : List α) (Bs : List (List α)) (T : List α), n = (L.length : Int) → L.length ≤ bs → Runs D g bs L Bs T → Srt g T → ∃ c R, loopM (g_stableCmpFunc_b2 n g) ((bs : Int), L) = some (.inl (c, R)) ∧ Srt g R ∧ Sta D g L R := by
    intro bs L Bs T hn hl hr hT
    refine ⟨(bs : Int), L, loopM_out ?_, ?_, Sta.refl _⟩
    · unfold g_stableCmpFunc_b2
      simp only
      rw [show decide ((bs : Int) < n) = false from decide_eq_false (by omega)]
      rfl
    · have he := hr.eq
      have hfl := flatten_len (g := g) hr.blk
      match Bs, hr, he, hfl with
      | [], _, he, _ => rw [he]; simpa using hT
      | [A], hr, he, _ =>
        have hA := hr.blk A (by simp)
        have hlen : L.length = A.length + T.length := by rw [he]; simp
        have : T = [] := List.length_eq_zero_iff.1 (by omega)
        subst this
        rw [he]; simpa using hA.2
      | A :: B :: Bs, hr, he, hfl =>
        exfalso
        have hA := hr.blk A (by simp)
        have hB := hr.blk B (by simp)
        have hlen : L.length = A.length + (B.length + Bs.flatten.length) + T.length := by rw [he]; simp; omega
        have := hr.rest
        omega
  intro k
  induction k with
  | zero =>
    intro bs L Bs T hn hl _ _ _ _ hr hT
    exact stop bs L Bs T hn (by simpa using hl) hr hT
  | succ k ih =>
    intro bs L Bs T hn hl h0 hb1 hL1 dL hr hT
    by_cases hlt : L.length ≤ bs
    · exact stop bs L Bs T hn hlt hr hT
    · have he := hr.eq
      have hlen : L.length = Bs.flatten.length + T.length := by rw [he, List.length_append]
      have dB : AllD D Bs.flatten := fun z hz => dL z (by rw [he]; exact List.mem_append_left _ hz)
      have dT : AllD D T := fun z hz => dL z (by rw [he]; exact List.mem_append_right _ hz)
      obtain ⟨Bs', R, a', b', s1, s2, s3, s4, s5⟩ := st3_loop hs n bs ((bs : Int), L) rfl h0 hb1 Bs.length Bs (Nat.le_refl _) [] T (by simp only [List.length_nil]; omega) dB dT hr.blk hr.rest (by simp only [List.length_nil]; omega)
      simp only [List.length_nil, List.nil_append] at s1 s2
      rw [← he, show ((0 : Nat) : Int) + 2 * (bs : Int) = 2 * (bs : Int) by omega, show ((0 : Nat) : Int) = 0 from rfl] at s1
      have l5 := s5.len
      rw [List.length_append] at l5
      have hfin : ∃ T', g_stableCmpFunc_b2 n g ((bs : Int), L) = some (.inl (((2 * bs : Nat) : Int), Bs'.flatten ++ T')) ∧ Srt g T' ∧ T'.length < 2 * bs ∧ Sta D g (R.flatten ++ T) T' := by
        have body : ∀ X : List α, (bif decide (w64 (a' + (bs : Int)) < n) then (Option.bind (g_symMergeCmpFunc 64 (Bs'.flatten ++ (R.flatten ++ T)) a' (w64 (a' + (bs : Int))) n g) fun v4 => (some (.inl (w64 ((bs : Int) * 2), v4)) : Option ((Int × List α) ⊕ ((Int × List α) ⊕ Empty)))) else (some (.inl (w64 ((bs : Int) * 2), Bs'.flatten ++ (R.flatten ++ T))))) = some (.inl (((2 * bs : Nat) : Int), X)) → g_stableCmpFunc_b2 n g ((bs : Int), L) = some (.inl (((2 * bs : Nat) : Int), X)) := fun X hX => by
          unfold g_stableCmpFunc_b2
          simp only
          rw [show decide ((bs : Int) < n) = true from decide_eq_true (by omega), w64_of (n := 2 * (bs : Int)) (by omega) (by omega)]
          simp only [cond_true]
          rw [s1]
          exact hX
        rcases s4 with rfl | ⟨A, rfl, hA, hsA⟩
        · simp only [List.flatten_nil, List.nil_append, List.length_nil] at *
          refine ⟨T, body _ ?_, hT, by have := hr.rest; omega, Sta.refl _⟩
          rw [w64_of (n := a' + (bs : Int)) (by omega) (by omega), w64_of (n := (bs : Int) * 2) (by omega) (by omega), show decide (a' + (bs : Int) < n) = false from decide_eq_false (by have := hr.rest; omega)]
          rw [show (bs : Int) * 2 = ((2 * bs : Nat) : Int) by omega]
          rfl
        · simp only [List.flatten_cons, List.flatten_nil, List.append_nil] at *
          by_cases hT0 : T = []
          · subst hT0
            simp only [List.append_nil, List.length_nil] at *
            refine ⟨A, body _ ?_, hsA, by omega, Sta.refl _⟩
            rw [w64_of (n := a' + (bs : Int)) (by omega) (by omega), w64_of (n := (bs : Int) * 2) (by omega) (by omega), show decide (a' + (bs : Int) < n) = false from decide_eq_false (by omega)]
            rw [show (bs : Int) * 2 = ((2 * bs : Nat) : Int) by omega]
            rfl
          · have hTp : 0 < T.length := List.length_pos_iff.2 hT0
            have hrr := hr.rest
            have dA : AllD D A := s5.all dB |> fun h z hz => h z (List.mem_append_right _ hz)
            obtain ⟨R', r1, r2, r3⟩ := symMerge_eq hs 64 Bs'.flatten A T [] a' (a' + (bs : Int)) n (by omega) (by omega) (by omega) (by omega) hTp (le64 (by omega)) dA dT hsA hT (by simp only [List.length_nil]; omega)
            simp only [List.append_nil] at r1
            refine ⟨R', body _ ?_, r2, by have := r3.len; rw [List.length_append] at this; omega, r3⟩
            rw [w64_of (n := a' + (bs : Int)) (by omega) (by omega), w64_of (n := (bs : Int) * 2) (by omega) (by omega), show decide (a' + (bs : Int) < n) = true from decide_eq_true (by omega)]
            simp only [cond_true]
            rw [r1, show (bs : Int) * 2 = ((2 * bs : Nat) : Int) by omega]
            rfl
      obtain ⟨T', f1, f2, f3, f4⟩ := hfin
      have hst : Sta D g L (Bs'.flatten ++ T') := by
        have h1 := Sta.app s5 (Sta.refl (D := D) (g := g) T)
        rw [← he] at h1
        refine Sta.trans h1 ?_
        rw [List.append_assoc]
        exact Sta.app (Sta.refl _) f4
      have hl2 := hst.len
      obtain ⟨c, R2, g1, g2, g3⟩ := ih (2 * bs) (Bs'.flatten ++ T') Bs' T' (by omega) (by rw [hl2]; rw [Nat.pow_succ] at hl; rw [Nat.mul_comm 2 bs, Nat.mul_assoc, Nat.mul_comm 2]; exact hl) (by omega) (by omega) (by omega) (hst.all dL) ⟨rfl, s3, f3⟩ f2
      exact ⟨c, R2, by rw [loopM_next f1, g1], g2, hst.trans g3⟩

/-- slices.SortStableFunc: the list that comes is sorted, and what is alike stands in its order. -/
theorem stable_eq (hs : SW D g) (l : List α) (dl : AllD D l) (hN : l.length ≤ 400000000) : ∃ r, g_SortStableFunc l g = some r ∧ Srt g r ∧ Sta D g l r := by
  unfold g_SortStableFunc g_stableCmpFunc
  obtain ⟨Bs, T, a', b', s1, s2, s3, s4, s5⟩ := st1_loop hs (l.length : Int) l.length l [] (Nat.le_refl _) (by simp) dl (by simp only [List.length_nil]; omega)
  simp only [List.length_nil, List.nil_append] at s1 s2
  rw [show ((0 : Nat) : Int) + 20 = 20 from rfl, show ((0 : Nat) : Int) = 0 from rfl] at s1
  rw [s1]
  simp only [Option.bind_some]
  have hl5 := s5.len
  rw [List.length_append] at hl5
  have dall := s5.all dl
  obtain ⟨R, r1, r2, r3⟩ := insertion_eq hs Bs.flatten T [] (a := a') (b := (l.length : Int)) (by omega) (by omega) (fun z hz => dall z (List.mem_append_right _ hz)) (by omega)
  simp only [List.append_nil] at r1
  rw [r1]
  simp only [Option.bind_some]
  have hst : Sta D g l (Bs.flatten ++ R) := s5.trans (Sta.app (Sta.refl _) r3)
  have hRl := r3.len
  have hll := hst.len
  obtain ⟨c, R2, g1, g2, g3⟩ := st2_loop hs (l.length : Int) 25 20 (Bs.flatten ++ R) Bs R (by omega) (le25 (by omega)) (by omega) (by omega) (by omega) (hst.all dl) ⟨rfl, s3, by omega⟩ r2
  rw [show (20 : Int) = ((20 : Nat) : Int) from rfl, g1]
  exact ⟨R2, rfl, g2, hst.trans g3⟩

/-- Two sorted lists with what is alike in one order are one. -/
theorem srt_uniq (hs : SW D g) : ∀ {r s : List α}, AllD D r → AllD D s → Srt g r → Srt g s → (∀ x, D x → r.filter (eqv g x) = s.filter (eqv g x)) → r = s
  | [], [], _, _, _, _, _ => rfl
  | [], y :: s, _, ds, _, _, h => by
    have dy := ds y (by simp)
    have := h y dy
    rw [List.filter_nil, List.filter_cons_of_pos (by unfold eqv; rw [hs.irr dy]; rfl)] at this
    cases this
  | x :: r, [], dr, _, _, _, h => by
    have dx := dr x (by simp)
    have := h x dx
    rw [List.filter_nil, List.filter_cons_of_pos (by unfold eqv; rw [hs.irr dx]; rfl)] at this
    cases this
  | x :: r, y :: s, dr, ds, sr, ss, h => by
    have dx := dr x (by simp)
    have dy := ds y (by simp)
    have exx : eqv g x x = true := by unfold eqv; rw [hs.irr dx]; rfl
    have eyy : eqv g y y = true := by unfold eqv; rw [hs.irr dy]; rfl
    rw [Srt, List.pairwise_cons] at sr ss
    have hx := h x dx
    have hy := h y dy
    have mx : x ∈ (y :: s).filter (eqv g x) := by rw [← hx, List.filter_cons_of_pos exx]; exact List.mem_cons_self ..
    have my : y ∈ (x :: r).filter (eqv g y) := by rw [hy, List.filter_cons_of_pos eyy]; exact List.mem_cons_self ..
    have m1 := (List.mem_filter.1 mx).1
    have m2 := (List.mem_filter.1 my).1
    have exy : eqv g x y = true := by
      have a1 : ltM g x y = false := by
        rcases List.mem_cons.1 m1 with e | m1
        · rw [e]; exact hs.irr dy
        · exact ss.1 x m1
      have a2 : ltM g y x = false := by
        rcases List.mem_cons.1 m2 with e | m2
        · rw [e]; exact hs.irr dx
        · exact sr.1 y m2
      unfold eqv; rw [a1, a2]; rfl
    have hxy : x = y := by
      rw [List.filter_cons_of_pos exx, List.filter_cons_of_pos exy] at hx
      exact (List.cons.inj hx).1
    subst hxy
    rw [srt_uniq hs (fun z hz => dr z (by simp [hz])) (fun z hz => ds z (by simp [hz])) sr.2 ss.2 fun z dz => by
      have := h z dz
      rw [List.filter_cons, List.filter_cons] at this
      split at this
      · exact (List.cons.inj this).2
      · exact this]
end
end Go.Pv
set_option linter.unusedSimpArgs false
namespace Go.Pv
open Go

theorem md_pos (v : Bool) (q q' : Int) (f : Int → Option (Int × Int)) (h : (bif v then some (IntKind.u64.wrap (q + 1)) else some q) = some q') (h0 : 0 ≤ q') (h1 : q' < 9223372036854775808) :
    (Option.bind (some v) fun v4 => Option.bind (bif v4 then (some (IntKind.u64.wrap (q + 1))) else (some q)) fun (q : Int) => bif (false && (decide (q ≤ 9223372036854775808))) then f q else (bif ((!false) && (decide (q < 9223372036854775808))) then (some (w64 q, 0)) else (some (0, 9)))) = some (q', 0) := by
  have e : decide (q' < 9223372036854775808) = true := decide_eq_true h1
  rw [Option.bind_some, h, Option.bind_some, Bool.false_and, cond_false, Bool.not_false, Bool.true_and, e, cond_true, w64_of (by omega) (by omega)]

theorem u64_of {n : Int} (h0 : 0 ≤ n) (h1 : n < 18446744073709551616) : IntKind.u64.wrap n = n := by
  unfold IntKind.wrap
  simp only [IntKind.bits, IntKind.signed]
  simp only [show (2 : Int) ^ 64 = 18446744073709551616 from rfl, Bool.false_and, Bool.false_eq_true, if_false]
  omega

theorem clamp_eq (x lo hi : Int) : arith_Clamp x lo hi = some (minI (maxI x lo) hi) := rfl

theorem magnitude_eq (n : Int) (h0 : -9223372036854775808 ≤ n) (h1 : n ≤ 9223372036854775807) : arith_magnitude n = some (n.natAbs : Int) := by
  unfold arith_magnitude
  by_cases h : n < 0
  · simp only [h, decide_true, cond_true, Option.some.injEq]
    rw [w64_of (n := n + 1) (by omega) (by omega), w64_of (n := 0 - (n + 1)) (by omega) (by omega), u64_of (n := 0 - (n + 1)) (by omega) (by omega), u64_of (by omega) (by omega)]
    omega
  · simp only [h, decide_false, cond_false, Option.some.injEq]
    rw [u64_of (by omega) (by omega)]
    omega

theorem div64_lo (lo y : Nat) (h0 : lo < 18446744073709551616) (h1 : 0 < y) : math_bits_Div64 0 lo y = some (((lo / y : Nat) : Int), ((lo % y : Nat) : Int)) := by
  unfold math_bits_Div64
  have e1 : ((y : Int) == 0) = false := by
    have : ¬ (y : Int) = 0 := by omega
    simpa using this
  have e2 : decide ((y : Int) ≤ 0) = false := by simp; omega
  have e3 : ¬ (y : Int) = 0 := by omega
  simp only [e1, e2, cond_false, Option.bind_some, quoM, remM, if_neg e3]
  have q1 : (lo : Int).tdiv y = ((lo / y : Nat) : Int) := rfl
  have q2 : (lo : Int).tmod y = ((lo % y : Nat) : Int) := rfl
  have q3 : lo / y ≤ lo := Nat.div_le_self _ _
  rw [q1, q2]
  generalize lo / y = q at q3 ⊢
  rw [u64_of (by omega) (by omega), show ((0 : Int) == 0) = true from rfl, cond_true]

/-- The quotient that is rounded toward nothing, by the mode. -/
theorem mulDiv_eq (a c mode : Int) (ha0 : -9223372036854775808 ≤ a) (ha1 : a ≤ 9223372036854775807) (hc0 : 0 < c) (hc1 : c ≤ 9223372036854775807) (hm : mode = 1 ∨ mode = 2) :
    arith_MulDiv a 1 c mode = some (if mode = 1 then a / c else -((-a) / c), 0) := by
  unfold arith_MulDiv
  have m1 : ((decide (mode < 1)) || (decide (mode > 3))) = false := by
    rcases hm with rfl | rfl <;> rfl
  have c0 : (c == 0) = false := by
    have : ¬ c = 0 := by omega
    simpa using this
  rw [m1, c0, magnitude_eq a ha0 ha1, magnitude_eq 1 (by omega) (by omega), magnitude_eq c (by omega) hc1]
  obtain ⟨m, hm'⟩ : ∃ m : Nat, a.natAbs = m := ⟨_, rfl⟩
  obtain ⟨k, rfl⟩ : ∃ k : Nat, c = k := ⟨c.toNat, by omega⟩
  have hk : 0 < k := by omega
  have hml : m ≤ 9223372036854775808 := by omega
  rw [hm']
  simp only [cond_false, Option.bind_some, math_bits_Mul64, mul64M]
  rw [if_pos (by omega)]
  simp only [Option.bind_some]
  have e1 : (m : Int) * ((Int.natAbs 1 : Nat) : Int) / 18446744073709551616 = 0 := by
    have : ((Int.natAbs 1 : Nat) : Int) = 1 := rfl
    rw [this]; omega
  have e2 : (m : Int) * ((Int.natAbs 1 : Nat) : Int) % 18446744073709551616 = (m : Int) := by
    have : ((Int.natAbs 1 : Nat) : Int) = 1 := rfl
    rw [this]; omega
  have e3 : (((Int.natAbs (k : Int)) : Nat) : Int) = (k : Int) := by omega
  have e4 : decide ((0 : Int) ≥ (k : Int)) = false := decide_eq_false (by omega)
  rw [e1, e2, e3, e4, show (0 : Int) = 0 from rfl, div64_lo m k (by omega) hk]
  have q1 : m / k ≤ m := Nat.div_le_self _ _
  have q2 : m % k < k := Nat.mod_lt _ hk
  have q3 : k * (m / k) + m % k = m := Nat.div_add_mod m k
  generalize m / k = q at q1 q3 ⊢
  generalize m % k = r at q2 q3 ⊢
  have q4 : (m : Int) = (q : Int) * (k : Int) + (r : Int) := by rw [← q3, Int.natCast_add, Int.natCast_mul, Int.mul_comm]
  have hqk : r = 0 → 0 < m → 0 < q := fun h0 h1 => by
    rcases Nat.eq_zero_or_pos q with h | h
    · rw [h, h0] at q3; omega
    · exact h
  have hql : 0 < r → q < 9223372036854775808 := fun h0 => by
    rcases Nat.lt_or_ge q 9223372036854775808 with h | h
    · exact h
    · have : k * q ≥ 1 * 9223372036854775808 := Nat.mul_le_mul (by omega) h
      omega
  have hql2 : 0 < r → m ≤ 9223372036854775807 → q < 9223372036854775807 := fun h0 h1 => by
    rcases Nat.lt_or_ge q 9223372036854775807 with h | h
    · exact h
    · have : k * q ≥ 1 * 9223372036854775807 := Nat.mul_le_mul (by omega) h
      omega
  have e5 : decide ((q : Int) > 9223372036854775808) = false := decide_eq_false (by omega)
  simp only [cond_false, Option.bind_some, e5]
  have d1 : decide ((1 : Int) < 0) = false := rfl
  have d2 : decide ((k : Int) < 0) = false := decide_eq_false (by omega)
  rw [d1, d2]
  have fl0 : (m : Int) / (k : Int) = (q : Int) := by
    rw [q4, Int.add_comm, Int.add_mul_ediv_right _ _ (by omega), Int.ediv_eq_zero_of_lt (by omega) (by omega)]; omega
  have fl1 : (-(m : Int)) / (k : Int) = if r = 0 then -(q : Int) else -(q : Int) - 1 := by
    split
    · rename_i h
      have : -(m : Int) = (-(q : Int)) * (k : Int) := by rw [q4, Int.neg_mul, h]; omega
      rw [this, Int.mul_ediv_cancel _ (by omega)]
    · rename_i h
      have e : -(m : Int) = ((k : Int) - (r : Int)) + (-(q : Int) - 1) * (k : Int) := by
        rw [q4, Int.sub_mul, Int.neg_mul]; omega
      rw [e, Int.add_mul_ediv_right _ _ (by omega), Int.ediv_eq_zero_of_lt (by omega) (by omega)]; omega
  clear q3 q4
  by_cases hn : a < 0
  · have ha : a = -(m : Int) := by omega
    have e6 : decide (a < 0) = true := decide_eq_true hn
    have n1 : (!(!true == false) == false) = true := by decide
    rw [e6, n1]
    rcases hm with rfl | rfl
    · -- down, of a negative number
      have r1 : arith_rounded (r : Int) (k : Int) true 1 = some (decide ((r : Int) > 0)) := rfl
      rw [if_pos rfl, ha, fl1, r1]
      by_cases hr : r = 0
      · have r2 : decide ((r : Int) > 0) = false := decide_eq_false (by omega)
        have hpos := hqk hr (by omega)
        have r3 : decide ((q : Int) ≤ 9223372036854775808) = true := decide_eq_true (by omega)
        rw [if_pos hr, r2]
        simp only [Option.bind_some, cond_false, r3]
        rw [u64_of (n := (q : Int) - 1) (by omega) (by omega), w64_of (n := (q : Int) - 1) (by omega) (by omega), w64_of (n := 0 - ((q : Int) - 1)) (by omega) (by omega), w64_of (n := 0 - ((q : Int) - 1) - 1) (by omega) (by omega)]
        simp only [Bool.true_and, Bool.not_false, cond_true, Bool.not_true, Bool.false_and, cond_false]
        rw [show 0 - ((q : Int) - 1) - 1 = -(q : Int) by omega]
      · have r2 : decide ((r : Int) > 0) = true := decide_eq_true (by omega)
        have hlt := hql (by omega)
        have r3 : decide ((q : Int) + 1 ≤ 9223372036854775808) = true := decide_eq_true (by omega)
        rw [if_neg hr, r2]
        simp only [Option.bind_some, cond_true]
        rw [u64_of (n := (q : Int) + 1) (by omega) (by omega), r3, show (q : Int) + 1 - 1 = q by omega]
        rw [u64_of (n := (q : Int)) (by omega) (by omega), w64_of (n := (q : Int)) (by omega) (by omega), w64_of (n := 0 - (q : Int)) (by omega) (by omega), w64_of (n := 0 - (q : Int) - 1) (by omega) (by omega)]
        simp only [Bool.true_and, Bool.not_false, cond_true, Bool.not_true, Bool.false_and, cond_false]
        rw [show 0 - (q : Int) - 1 = -(q : Int) - 1 by omega]
    · -- up, of a negative number
      have r1 : arith_rounded (r : Int) (k : Int) true 2 = some false := rfl
      rw [if_neg (by decide), ha, Int.neg_neg, fl0, r1]
      have r3 : decide ((q : Int) ≤ 9223372036854775808) = true := decide_eq_true (by omega)
      simp only [Option.bind_some, cond_false, r3]
      rcases Nat.eq_zero_or_pos q with hz | hz
      · have w1 : IntKind.u64.wrap (((0 : Nat) : Int) - 1) = 18446744073709551615 := by decide
        have w2 : w64 18446744073709551615 = -1 := by decide
        have w3 : w64 (0 - -1) = 1 := by decide
        have w4 : w64 (1 - 1) = 0 := by decide
        rw [hz, w1, w2, w3, w4]
        rfl
      · rw [u64_of (n := (q : Int) - 1) (by omega) (by omega), w64_of (n := (q : Int) - 1) (by omega) (by omega), w64_of (n := 0 - ((q : Int) - 1)) (by omega) (by omega), w64_of (n := 0 - ((q : Int) - 1) - 1) (by omega) (by omega)]
        simp only [Bool.true_and, Bool.not_false, cond_true, Bool.not_true, Bool.false_and, cond_false]
        rw [show 0 - ((q : Int) - 1) - 1 = -(q : Int) by omega]
  · have ha : a = (m : Int) := by omega
    have e6 : decide (a < 0) = false := decide_eq_false hn
    have n1 : (!(!false == false) == false) = false := by decide
    rw [e6, n1]
    rcases hm with rfl | rfl
    · have r1 : arith_rounded (r : Int) (k : Int) false 1 = some false := rfl
      rw [if_pos rfl, ha, fl0, r1]
      exact md_pos false q q _ rfl (by omega) (by omega)
    · have r1 : arith_rounded (r : Int) (k : Int) false 2 = some (decide ((r : Int) > 0)) := rfl
      rw [if_neg (by decide), ha, fl1, r1]
      by_cases hr : r = 0
      · have r2 : decide ((r : Int) > 0) = false := decide_eq_false (by omega)
        rw [if_pos hr, r2, Int.neg_neg]
        exact md_pos false q q _ rfl (by omega) (by omega)
      · have r2 : decide ((r : Int) > 0) = true := decide_eq_true (by omega)
        have hlt := hql2 (by omega) (by omega)
        rw [if_neg hr, r2, show -(-(q : Int) - 1) = (q : Int) + 1 by omega]
        exact md_pos true q (q + 1) _ (by rw [cond_true, u64_of (by omega) (by omega)]) (by omega) (by omega)

/-- The quotient that is rounded down. -/
theorem floor_eq (a c : Int) (ha0 : -9223372036854775808 ≤ a) (ha1 : a ≤ 9223372036854775807) (hc0 : 0 < c) (hc1 : c ≤ 9223372036854775807) : arith_Floor a c = some (a / c) := by
  unfold arith_Floor arith_Div
  rw [mulDiv_eq a c 1 ha0 ha1 hc0 hc1 (.inl rfl)]
  rfl
end Go.Pv
set_option linter.unusedSimpArgs false
namespace Go.Pv
open Go

/-- The number that sort.Search finds stands behind a number that is not p, and is p itself. -/
theorem search_spec (n : Nat) (hn : n ≤ 2305843009213693951) (f : Int → Option Bool) (p : Nat → Bool) (hf : ∀ i, i < n → f (i : Int) = some (p i)) :
    ∃ k : Nat, k ≤ n ∧ sort_Search (n : Int) f = some (k : Int) ∧ (0 < k → p (k - 1) = false) ∧ (k < n → p k = true) := by
  have key : ∀ (m i j : Nat), j - i ≤ m → i ≤ j → j ≤ n → (0 < i → p (i - 1) = false) → (j < n → p j = true) →
      ∃ k : Nat, k ≤ n ∧ loopM (sort_Search_b1 f) ((i : Int), (j : Int)) = some (.inl ((k : Int), (k : Int))) ∧ (0 < k → p (k - 1) = false) ∧ (k < n → p k = true) := by
    intro m
    induction m with
    | zero =>
      intro i j hm hij hjn h1 h2
      have : i = j := by omega
      subst this
      refine ⟨i, hjn, loopM_out ?_, h1, h2⟩
      unfold sort_Search_b1
      rw [show decide (((i : Int), (i : Int)).1 < ((i : Int), (i : Int)).2) = false from decide_eq_false (by simp)]
      rfl
    | succ m ih =>
      intro i j hm hij hjn h1 h2
      rcases Nat.lt_or_ge i j with hlt | hge
      · have hh : w64 (bitShr .u64 (IntKind.u64.wrap (w64 ((i : Int) + (j : Int)))) 1) = (((i + j) / 2 : Nat) : Int) := by
          rw [half_eq (by omega) (by omega)]; omega
        have hi : (i + j) / 2 < n := by omega
        have hb : sort_Search_b1 f ((i : Int), (j : Int)) = some (bif p ((i + j) / 2) then .inl ((i : Int), (((i + j) / 2 : Nat) : Int)) else .inl ((((i + j) / 2 + 1 : Nat) : Int), (j : Int))) := by
          unfold sort_Search_b1
          rw [show decide (((i : Int), (j : Int)).1 < ((i : Int), (j : Int)).2) = true from decide_eq_true (by show (i : Int) < (j : Int); omega)]
          simp only [cond_true, hh, hf _ hi, Option.bind_some]
          cases p ((i + j) / 2)
          · simp only [Bool.not_false, cond_true, cond_false]
            rw [w64_of (by omega) (by omega)]; rfl
          · rfl
        cases hp : p ((i + j) / 2)
        · rw [hp] at hb
          rw [loopM_next hb]
          exact ih ((i + j) / 2 + 1) j (by omega) (by omega) hjn (fun _ => by simpa using hp) h2
        · rw [hp] at hb
          rw [loopM_next hb]
          exact ih i ((i + j) / 2) (by omega) (by omega) (by omega) h1 (fun _ => hp)
      · have : i = j := by omega
        subst this
        exact ih i i (by omega) (Nat.le_refl _) hjn h1 h2
  obtain ⟨k, a, b, c, d⟩ := key n 0 n (by omega) (Nat.zero_le _) (Nat.le_refl _) (fun h => absurd h (by omega)) (fun h => absurd h (by omega))
  refine ⟨k, a, ?_, c, d⟩
  unfold sort_Search
  rw [show ((0 : Nat) : Int) = 0 from rfl] at b
  rw [b]
  rfl
end Go.Pv
set_option linter.unusedSimpArgs false
namespace Go.Pv
open Go

theorem minI_eq (a b : Int) : minI a b = min a b := by unfold minI; split <;> omega
theorem maxI_eq (a b : Int) : maxI a b = max a b := by unfold maxI; split <;> omega

/-- Interpolation, rounded down. -/
def itp (x0 x1 y0 y1 x : Int) : Int := y0 + ((x - x0) * (y1 - y0)) / (x1 - x0)

theorem itp_bounds {x0 x1 y0 y1 x lo hi : Int} (h0 : x0 ≤ x) (h1 : x ≤ x1) (h : x0 < x1) (a0 : lo ≤ y0) (a1 : y0 ≤ hi) (b0 : lo ≤ y1) (b1 : y1 ≤ hi) : lo ≤ itp x0 x1 y0 y1 x ∧ itp x0 x1 y0 y1 x ≤ hi := by
  unfold itp
  have hd : 0 < x1 - x0 := by omega
  have e : 0 ≤ x - x0 := by omega
  have e2 : x - x0 ≤ x1 - x0 := by omega
  constructor
  · have : lo - y0 ≤ ((x - x0) * (y1 - y0)) / (x1 - x0) := by
      rw [Int.le_ediv_iff_mul_le hd]
      have m1 : (x - x0) * (lo - y0) ≤ (x - x0) * (y1 - y0) := Int.mul_le_mul_of_nonneg_left (by omega) e
      have m2 : (x1 - x0) * (lo - y0) ≤ (x - x0) * (lo - y0) := Int.mul_le_mul_of_nonpos_right e2 (by omega)
      rw [Int.mul_comm (lo - y0)]
      omega
    omega
  · have : ((x - x0) * (y1 - y0)) / (x1 - x0) ≤ hi - y0 := by
      have m1 : (x - x0) * (y1 - y0) ≤ (x - x0) * (hi - y0) := Int.mul_le_mul_of_nonneg_left (by omega) e
      have m2 : (x - x0) * (hi - y0) ≤ (x1 - x0) * (hi - y0) := Int.mul_le_mul_of_nonneg_right e2 (by omega)
      have := Int.ediv_le_ediv hd (Int.le_trans m1 m2)
      rw [Int.mul_ediv_cancel_left _ (by omega)] at this
      exact this
    omega

theorem itp_left (x0 x1 y0 y1 : Int) : itp x0 x1 y0 y1 x0 = y0 := by
  unfold itp; rw [Int.sub_self, Int.zero_mul, Int.zero_ediv, Int.add_zero]
theorem itp_right {x0 x1 y0 y1 : Int} (h : x0 < x1) : itp x0 x1 y0 y1 x1 = y1 := by
  unfold itp; rw [Int.mul_ediv_cancel_left _ (by omega)]; omega

theorem prod31 {a b : Int} (a0 : 0 ≤ a) (a1 : a ≤ 2147483648) (b0 : -2147483648 ≤ b) (b1 : b ≤ 2147483648) : -4611686018427387904 ≤ a * b ∧ a * b ≤ 4611686018427387904 := by
  constructor
  · have m1 : a * (-2147483648) ≤ a * b := Int.mul_le_mul_of_nonneg_left b0 a0
    omega
  · have m1 : a * b ≤ a * 2147483648 := Int.mul_le_mul_of_nonneg_left b1 a0
    omega

theorem between_eq {x0 x1 y0 y1 x : Int} (h0 : x0 ≤ x) (h1 : x ≤ x1) (h : x0 < x1) (hx0 : -1073741824 ≤ x0) (hx1 : x1 ≤ 1073741824) (a0 : -1073741824 ≤ y0) (a1 : y0 ≤ 1073741824) (b0 : -1073741824 ≤ y1) (b1 : y1 ≤ 1073741824) :
    surface_between x0 x1 y0 y1 x = some (itp x0 x1 y0 y1 x) := by
  have hb := itp_bounds (lo := -1073741824) (hi := 1073741824) h0 h1 h a0 a1 b0 b1
  have hp := prod31 (a := x - x0) (b := y1 - y0) (by omega) (by omega) (by omega) (by omega)
  unfold surface_between
  rw [w64_of (n := x - x0) (by omega) (by omega), w64_of (n := y1 - y0) (by omega) (by omega), w64_of (n := x1 - x0) (by omega) (by omega), w64_of (n := (x - x0) * (y1 - y0)) (by omega) (by omega),
    floor_eq _ _ (by omega) (by omega) (by omega) (by omega), Option.bind_some]
  unfold itp at hb ⊢
  rw [w64_of (by omega) (by omega)]

/-- What an axis is. -/
structure Axis (l : List Int) : Prop where
  two : 2 ≤ l.length
  most : l.length ≤ 32
  el : ∀ i (h : i < l.length), -1073741824 ≤ l[i] ∧ l[i] ≤ 1073741824
  asc : ∀ i (h : i + 1 < l.length), l[i] < l[i + 1]

theorem axis_of {l : List Int} (h : axB l = true) : Axis l := by
  obtain ⟨h2, h3⟩ := axB_len h
  unfold axB at h
  rw [Bool.and_eq_true, List.all_eq_true] at h
  have hp : ∀ i (hi : i < l.length), axP l i = true := fun i hi => h.2 i (by rw [List.mem_range']; exact ⟨i, hi, by omega⟩)
  refine ⟨h2, h3, fun i hi => ?_, fun i hi => ?_⟩
  · have := hp i hi
    unfold axP at this
    rw [List.getElem?_eq_getElem hi] at this
    simp [elB] at this
    omega
  · have := hp (i + 1) hi
    unfold axP at this
    rw [List.getElem?_eq_getElem hi, Nat.add_sub_cancel, List.getElem?_eq_getElem (by omega : i < l.length)] at this
    simp at this
    exact this.2

theorem Axis.lt {l : List Int} (h : Axis l) : ∀ (j i : Nat) (hj : j < l.length) (hi : i < j), l[i] < l[j]
  | 0, _, _, hi => absurd hi (by omega)
  | j + 1, i, hj, hi => by
    rcases Nat.lt_or_ge i j with h1 | h1
    · exact Int.lt_trans (h.lt j i (by omega) h1) (h.asc j hj)
    · have : i = j := by omega
      subst this
      exact h.asc i hj

theorem Axis.le {l : List Int} (h : Axis l) (j i : Nat) (hj : j < l.length) (hi : i ≤ j) : l[i] ≤ l[j] := by
  rcases Nat.lt_or_ge i j with h1 | h1
  · exact Int.le_of_lt (h.lt j i hj h1)
  · have : i = j := by omega
    subst this
    exact Int.le_refl _

/-- The argument limited to an axis. -/
def lim (l : List Int) (x : Int) : Int := min (max x (l.headD 0)) (l.getLastD 0)

theorem headD_get (l : List Int) (h : 0 < l.length) : l.headD 0 = l[0] := by cases l with
  | nil => simp at h
  | cons a l => rfl
theorem getLastD_get (l : List Int) (h : 0 < l.length) : l.getLastD 0 = l[l.length - 1] := by
  cases l with
  | nil => simp at h
  | cons a l => rw [List.getLastD_cons, ← List.getLast_eq_getElem (List.cons_ne_nil a l), List.getLast_eq_getLastD]

theorem lim_bounds {l : List Int} (h : Axis l) (x : Int) : l.headD 0 ≤ lim l x ∧ lim l x ≤ l.getLastD 0 := by
  have h2 := h.two
  have := h.le (l.length - 1) 0 (by omega) (by omega)
  unfold lim
  rw [headD_get l (by omega), getLastD_get l (by omega)]
  omega

/-- Where the segment of an argument begins. -/
def SegAt (l : List Int) (v : Int) (i : Nat) : Prop := ∃ h : i + 1 < l.length, l[i] ≤ v ∧ v ≤ l[i + 1] ∧ (i + 2 = l.length ∨ v < l[i + 1])

theorem SegAt.uniq {l : List Int} (h : Axis l) {v : Int} {i j : Nat} (a : SegAt l v i) (b : SegAt l v j) : i = j := by
  obtain ⟨hi, a1, a2, a3⟩ := a
  obtain ⟨hj, b1, b2, b3⟩ := b
  rcases Nat.lt_trichotomy i j with h1 | h1 | h1
  · have := h.le j (i + 1) (by omega) (by omega)
    rcases a3 with h3 | h3 <;> omega
  · exact h1
  · have := h.le i (j + 1) (by omega) (by omega)
    rcases b3 with h3 | h3 <;> omega

theorem segment_eq {l : List Int} (h : Axis l) (x : Int) : ∃ i : Nat, SegAt l (lim l x) i ∧ surface_segment l x = some ((i : Int), lim l x) := by
  have h2 := h.two
  have h3 := h.most
  have hb := lim_bounds h x
  rw [headD_get l (by omega), getLastD_get l (by omega)] at hb
  obtain ⟨k, k1, k2, k3, k4⟩ := search_spec l.length (by omega) (fun x0 => surface_segment_1 x0 l (lim l x)) (fun i => decide (l.getD i 0 > lim l x)) (fun i hi => by
    unfold surface_segment_1
    rw [getI_get l i hi, List.getD_eq_getElem?_getD, List.getElem?_eq_getElem hi]; rfl)
  have gd : ∀ i (hi : i < l.length), l.getD i 0 = l[i] := fun i hi => by rw [List.getD_eq_getElem?_getD, List.getElem?_eq_getElem hi]; rfl
  have hk0 : 0 < k := by
    rcases Nat.eq_zero_or_pos k with h0 | h0
    · have := k4 (by omega)
      rw [decide_eq_true_eq, gd k (by omega)] at this
      subst h0
      omega
    · exact h0
  have hlow := k3 hk0
  rw [decide_eq_false_iff_not, gd (k - 1) (by omega)] at hlow
  have hseg : surface_segment l x = some (((min (k - 1) (l.length - 2) : Nat) : Int), lim l x) := by
    unfold surface_segment
    have e1 : getI l 0 = some (l.headD 0) := by
      have := getI_get l 0 (by omega)
      rw [headD_get l (by omega)]; exact this
    have e2 : getI l (w64 ((l.length : Int) - 1)) = some (l.getLastD 0) := by
      rw [w64_of (by omega) (by omega), show (l.length : Int) - 1 = ((l.length - 1 : Nat) : Int) by omega, getI_get l _ (by omega), getLastD_get l (by omega)]
    have e3 : minI (maxI x (l.headD 0)) (l.getLastD 0) = lim l x := by rw [minI_eq, maxI_eq]; rfl
    rw [e1, e2, Option.bind_some, Option.bind_some, clamp_eq, Option.bind_some, e3, k2, Option.bind_some, w64_of (by omega) (by omega), w64_of (by omega) (by omega), minI_eq]
    congr 2
    omega
  rcases Nat.lt_or_ge k l.length with hk | hk
  · have hhi := k4 hk
    rw [decide_eq_true_eq, gd k hk] at hhi
    have e : min (k - 1) (l.length - 2) = k - 1 := by omega
    rw [e] at hseg
    refine ⟨k - 1, ⟨by omega, by omega, ?_, .inr ?_⟩, hseg⟩
    · simp only [Nat.sub_add_cancel (show 1 ≤ k from hk0)]; omega
    · simp only [Nat.sub_add_cancel (show 1 ≤ k from hk0)]; omega
  · have e : min (k - 1) (l.length - 2) = l.length - 2 := by omega
    rw [e] at hseg
    have hl : k - 1 = l.length - 1 := by omega
    have hlow' : ¬ l[l.length - 1] > lim l x := by simpa only [hl] using hlow
    have hs : l.length - 2 + 1 = l.length - 1 := by omega
    refine ⟨l.length - 2, ⟨by omega, ?_, ?_, .inl (by omega)⟩, hseg⟩
    · have := h.le (l.length - 1) (l.length - 2) (by omega) (by omega)
      omega
    · simp only [hs]; omega
end Go.Pv
set_option linter.unusedSimpArgs false
namespace Go.Pv
open Go

def nd (l : List Int) (i : Nat) : Int := l.getD i 0
def zz (m : SMap) (i j : Nat) : Int := (m.Z.getD i []).getD j 0
theorem nd_get {l : List Int} {i : Nat} (h : i < l.length) : nd l i = l[i] := by unfold nd; rw [List.getD_eq_getElem?_getD, List.getElem?_eq_getElem h]; rfl
theorem zz_get {m : SMap} {i j : Nat} (h : i < m.Z.length) (h2 : j < m.Z[i].length) : zz m i j = m.Z[i][j] := by
  unfold zz
  have e : m.Z.getD i [] = m.Z[i] := by rw [List.getD_eq_getElem?_getD, List.getElem?_eq_getElem h]; rfl
  rw [e, List.getD_eq_getElem?_getD, List.getElem?_eq_getElem h2]; rfl

structure MapOk (m : SMap) : Prop where
  x : Axis m.X
  y : Axis m.Y
  zl : m.Z.length = m.X.length
  rl : ∀ i (h : i < m.Z.length), m.Z[i].length = m.Y.length
  el : ∀ i j, i < m.X.length → j < m.Y.length → -1073741824 ≤ zz m i j ∧ zz m i j ≤ 1073741824

theorem mapOk {m : SMap} (h : mapB m = true) : MapOk m := by
  unfold mapB at h
  simp only [Bool.and_eq_true, Bool.not_eq_true', List.all_eq_true] at h
  obtain ⟨⟨⟨hx, hy⟩, hz⟩, hr⟩ := h
  have lz : m.Z.length = m.X.length := by simp at hz; omega
  have len : ∀ r ∈ m.Z, r.length = m.Y.length ∧ ∀ z ∈ r, -1073741824 ≤ z ∧ z ≤ 1073741824 := by
    intro r hrm
    have := hr r hrm
    unfold rowB at this
    simp [elB] at this
    refine ⟨by omega, fun z hz => ?_⟩
    have := this.2 z hz
    omega
  refine ⟨axis_of hx, axis_of hy, lz, fun i hi => (len _ (List.getElem_mem hi)).1, fun i j hi hj => ?_⟩
  have hiz : i < m.Z.length := by omega
  have := len _ (List.getElem_mem hiz)
  have hj' : j < m.Z[i].length := by omega
  rw [zz_get hiz hj']
  exact this.2 _ (List.getElem_mem hj')

/-- The value along the first axis. -/
def along (m : SMap) (i : Nat) (v : Int) (j : Nat) : Int := itp (nd m.X i) (nd m.X (i + 1)) (zz m i j) (zz m (i + 1) j) v
/-- The value of a map in a field. -/
def atV (m : SMap) (i j : Nat) (v w : Int) : Int := itp (nd m.Y j) (nd m.Y (j + 1)) (along m i v j) (along m i v (j + 1)) w

theorem SegAt.nd {l : List Int} {v : Int} {i : Nat} (h : SegAt l v i) (ha : Axis l) : i + 1 < l.length ∧ nd l i ≤ v ∧ v ≤ nd l (i + 1) ∧ nd l i < nd l (i + 1) ∧ -1073741824 ≤ Pv.nd l i ∧ Pv.nd l (i + 1) ≤ 1073741824 := by
  obtain ⟨h0, h1, h2, _⟩ := h
  rw [nd_get (by omega : i < l.length), nd_get h0]
  exact ⟨h0, h1, h2, ha.asc i h0, (ha.el i (by omega)).1, (ha.el (i + 1) h0).2⟩

theorem along_bounds {m : SMap} (h : MapOk m) {i j : Nat} {v lo hi : Int} (hi' : SegAt m.X v i) (a0 : lo ≤ zz m i j) (a1 : zz m i j ≤ hi) (b0 : lo ≤ zz m (i + 1) j) (b1 : zz m (i + 1) j ≤ hi) :
    lo ≤ along m i v j ∧ along m i v j ≤ hi := by
  obtain ⟨k0, k1, k2, k3, _, _⟩ := hi'.nd h.x
  exact itp_bounds k1 k2 k3 a0 a1 b0 b1

theorem atV_bounds {m : SMap} (h : MapOk m) {i j : Nat} {v w lo hi : Int} (hi' : SegAt m.X v i) (hj' : SegAt m.Y w j) (hz : ∀ i j, i < m.X.length → j < m.Y.length → lo ≤ zz m i j ∧ zz m i j ≤ hi) :
    lo ≤ atV m i j v w ∧ atV m i j v w ≤ hi := by
  obtain ⟨k0, k1, k2, k3, _, _⟩ := hi'.nd h.x
  obtain ⟨l0, l1, l2, l3, _, _⟩ := hj'.nd h.y
  have a := fun j hj => along_bounds h (j := j) hi' (hz i j (by omega) hj).1 (hz i j (by omega) hj).2 (hz (i + 1) j (by omega) hj).1 (hz (i + 1) j (by omega) hj).2
  exact itp_bounds l1 l2 l3 (a j (by omega)).1 (a j (by omega)).2 (a (j + 1) (by omega)).1 (a (j + 1) (by omega)).2

theorem at1_eq {m : SMap} (h : MapOk m) {i j : Nat} {v : Int} (hi : SegAt m.X v i) (hj : j < m.Y.length) : surface_at_1 (j : Int) m (i : Int) v = some (along m i v j) := by
  obtain ⟨k0, k1, k2, k3, k4, k5⟩ := hi.nd h.x
  have lx := h.x.most
  have hz0 : i < m.Z.length := by have := h.zl; omega
  have hz1 : i + 1 < m.Z.length := by have := h.zl; omega
  have r0 := h.rl i hz0
  have r1 := h.rl (i + 1) hz1
  unfold surface_at_1
  rw [w64_of (by omega) (by omega), show (i : Int) + 1 = ((i + 1 : Nat) : Int) from rfl, getI_get m.X i (by omega), Option.bind_some, getI_get m.X (i + 1) k0, Option.bind_some, getI_get m.Z i hz0, Option.bind_some, getI_get _ j (by omega),
    Option.bind_some, getI_get m.Z (i + 1) hz1, Option.bind_some, getI_get _ j (by omega), Option.bind_some, ← nd_get (by omega : i < m.X.length), ← nd_get k0, ← zz_get hz0 (by omega), ← zz_get hz1 (by omega)]
  rw [between_eq k1 k2 k3 k4 k5 (h.el i j (by omega) hj).1 (h.el i j (by omega) hj).2 (h.el (i + 1) j k0 hj).1 (h.el (i + 1) j k0 hj).2]
  rfl

theorem at_eq {m : SMap} (h : MapOk m) (x y : Int) : ∃ i j, SegAt m.X (lim m.X x) i ∧ SegAt m.Y (lim m.Y y) j ∧ surface_at m x y = some (atV m i j (lim m.X x) (lim m.Y y)) := by
  obtain ⟨i, hi, ei⟩ := segment_eq h.x x
  obtain ⟨j, hj, ej⟩ := segment_eq h.y y
  refine ⟨i, j, hi, hj, ?_⟩
  obtain ⟨k0, k1, k2, k3, k4, k5⟩ := hi.nd h.x
  obtain ⟨l0, l1, l2, l3, l4, l5⟩ := hj.nd h.y
  have ly := h.y.most
  have a := fun j hj => along_bounds h (j := j) hi (h.el i j (by omega) hj).1 (h.el i j (by omega) hj).2 (h.el (i + 1) j (by omega) hj).1 (h.el (i + 1) j (by omega) hj).2
  unfold surface_at
  rw [ei, ej]
  simp only [Option.bind_some]
  rw [w64_of (by omega) (by omega), show (j : Int) + 1 = ((j + 1 : Nat) : Int) from rfl, getI_get m.Y j (by omega), Option.bind_some, getI_get m.Y (j + 1) l0, Option.bind_some, at1_eq h hi (by omega), Option.bind_some, at1_eq h hi l0, Option.bind_some,
    ← nd_get (by omega : j < m.Y.length), ← nd_get l0, between_eq l1 l2 l3 l4 l5 (a j (by omega)).1 (a j (by omega)).2 (a (j + 1) l0).1 (a (j + 1) l0).2]
  rfl

theorem At_eq {m : SMap} (h : mapB m = true) (x y : Int) : ∃ i j, SegAt m.X (lim m.X x) i ∧ SegAt m.Y (lim m.Y y) j ∧ surface_At m x y = some (atV m i j (lim m.X x) (lim m.Y y)) := by
  obtain ⟨i, j, hi, hj, e⟩ := at_eq (mapOk h) x y
  refine ⟨i, j, hi, hj, ?_⟩
  unfold surface_At
  rw [valid_eq, h]
  simp only [Option.bind_some, Bool.not_true, cond_false]
  rw [e]
  rfl
end Go.Pv
set_option linter.unusedSimpArgs false
namespace Go.Pv
open Go

/-- the last node at or below x, or the first one -/
def IsBelow (l : List Int) (x : Int) (a : Nat) : Prop := ∃ _ : a < l.length, (nd l a ≤ x ∧ ∀ j, a < j → j < l.length → x < nd l j) ∨ (a = 0 ∧ ∀ j, j < l.length → x < nd l j)
/-- the first node at or above x, or the last one -/
def IsAbove (l : List Int) (x : Int) (b : Nat) : Prop := ∃ _ : b < l.length, (x ≤ nd l b ∧ ∀ j, j < b → nd l j < x) ∨ (b + 1 = l.length ∧ ∀ j, j < l.length → nd l j < x)

theorem around_spec {l : List Int} (h : Axis l) (x : Int) : ∃ a b : Nat, IsBelow l x a ∧ IsAbove l x b ∧ monitor_around l x = some ((a : Int), (b : Int)) := by
  have h2 := h.two
  have hl := h.most
  -- up
  obtain ⟨u, hu, hu2⟩ := rangeN_inv l.length (by omega) (monitor_around_b1 l x) (fun k s => ∃ a : Nat, s = (a : Int) ∧ a < l.length ∧ ((a < k ∧ nd l a ≤ x ∧ ∀ j, a < j → j < k → x < nd l j) ∨ (a = 0 ∧ ∀ j, j < k → x < nd l j))) (0 : Int)
    ⟨0, rfl, by omega, .inr ⟨rfl, fun j hj => absurd hj (by omega)⟩⟩ (fun j hj s ⟨a, hs, ha, hI⟩ => by
      unfold monitor_around_b1
      rw [getI_get l j hj, Option.bind_some]
      by_cases hx : l[j] ≤ x
      · rw [decide_eq_true hx, cond_true]
        refine ⟨_, rfl, j, rfl, hj, .inl ⟨by omega, by rw [nd_get hj]; exact hx, fun i h1 h2 => absurd h2 (by omega)⟩⟩
      · rw [decide_eq_false hx, cond_false]
        refine ⟨_, rfl, a, hs, ha, ?_⟩
        have step : ∀ i, i < j + 1 → (i < j → x < nd l i) → x < nd l i := fun i hi hh => by
          rcases Nat.lt_or_ge i j with h1 | h1
          · exact hh h1
          · have : i = j := by omega
            subst this
            rw [nd_get hj]; omega
        rcases hI with ⟨h1, h2, h3⟩ | ⟨h1, h2⟩
        · exact .inl ⟨by omega, h2, fun i hi hi2 => step i hi2 (fun q => h3 i hi q)⟩
        · exact .inr ⟨h1, fun i hi => step i hi (h2 i)⟩)
  obtain ⟨a, rfl, ha, haI⟩ := hu2
  -- down
  have down : ∀ (k b : Nat), k ≤ l.length → b < l.length → ((k ≤ b ∧ x ≤ nd l b ∧ ∀ j, k ≤ j → j < b → nd l j < x) ∨ (b + 1 = l.length ∧ ∀ j, k ≤ j → j < l.length → nd l j < x)) →
      ∃ b' : Nat, IsAbove l x b' ∧ loopM (monitor_around_b2 l x) ((k : Int) - 1, (b : Int)) = some (.inl (-1, (b' : Int))) := by
    intro k
    induction k with
    | zero =>
      intro b _ hb hI
      refine ⟨b, ⟨hb, ?_⟩, loopM_out ?_⟩
      · rcases hI with ⟨_, h1, h2⟩ | ⟨h1, h2⟩
        · exact .inl ⟨h1, fun j hj => h2 j (Nat.zero_le _) hj⟩
        · exact .inr ⟨h1, fun j hj => h2 j (Nat.zero_le _) hj⟩
      · simp [monitor_around_b2]
    | succ k ih =>
      intro b hk hb hI
      have hkl : k < l.length := by omega
      have e0 : ((k + 1 : Nat) : Int) - 1 = (k : Int) := by omega
      have e : decide ((k : Int) ≥ 0) = true := decide_eq_true (by omega)
      have ew : w64 ((k : Int) - 1) = (k : Int) - 1 := w64_of (by omega) (by omega)
      rw [e0]
      by_cases hx : l[k] ≥ x
      · obtain ⟨b', h1, h3⟩ := ih k (by omega) hkl (.inl ⟨Nat.le_refl _, by rw [nd_get hkl]; exact hx, fun j h1 h2 => absurd h2 (by omega)⟩)
        refine ⟨b', h1, ?_⟩
        rw [loopM_next (s' := ((k : Int) - 1, (k : Int)))]
        · exact h3
        · simp only [monitor_around_b2, e, cond_true, getI_nat, List.getElem?_eq_getElem hkl, Option.bind_some, hx, decide_true, ew]
      · have step : ∀ j, k ≤ j → (k + 1 ≤ j → nd l j < x) → nd l j < x := fun j hj hh => by
          rcases Nat.lt_or_ge k j with h1 | h1
          · exact hh h1
          · have : j = k := by omega
            subst this
            rw [nd_get hkl]; omega
        obtain ⟨b', h1, h3⟩ := ih b (by omega) hb (by
          rcases hI with ⟨h1, h2, h3⟩ | ⟨h1, h2⟩
          · exact .inl ⟨by omega, h2, fun j h4 h5 => step j h4 (fun q => h3 j q h5)⟩
          · exact .inr ⟨h1, fun j h4 h5 => step j h4 (fun q => h2 j q h5)⟩)
        refine ⟨b', h1, ?_⟩
        rw [loopM_next (s' := ((k : Int) - 1, (b : Int)))]
        · exact h3
        · simp only [monitor_around_b2, e, cond_true, getI_nat, List.getElem?_eq_getElem hkl, Option.bind_some, hx, decide_false, cond_false, ew]
  obtain ⟨b, hb, hb2⟩ := down l.length (l.length - 1) (Nat.le_refl _) (by omega) (.inr ⟨by omega, fun j h1 h2 => absurd h2 (by omega)⟩)
  have ew : w64 ((l.length : Int) - 1) = (l.length : Int) - 1 := w64_of (by omega) (by omega)
  have e1 : ((l.length - 1 : Nat) : Int) = (l.length : Int) - 1 := by omega
  have g0 := getI_get l 0 (by omega)
  rw [show ((0 : Nat) : Int) = 0 from rfl] at g0
  refine ⟨a, b, ⟨ha, ?_⟩, hb, ?_⟩
  · rcases haI with ⟨_, h1, h2⟩ | ⟨h1, h2⟩
    · exact .inl ⟨h1, h2⟩
    · exact .inr ⟨h1, h2⟩
  · unfold monitor_around
    rw [hu]
    simp only [Option.bind_some, ew]
    rw [e1] at hb2
    rw [hb2]
    simp only [Option.bind_some, g0]
    by_cases hx : x < l[0]
    · -- the first node is above
      have : b = 0 := by
        obtain ⟨hbl, hb1⟩ := hb
        rcases hb1 with ⟨_, h1⟩ | ⟨_, h1⟩
        · rcases Nat.eq_zero_or_pos b with h0 | h0
          · exact h0
          · have := h1 0 h0
            rw [nd_get (by omega)] at this
            omega
        · have := h1 0 (by omega)
          rw [nd_get (by omega)] at this
          omega
      subst this
      rw [decide_eq_true hx]
      rfl
    · rw [decide_eq_false hx]
      rfl

/-- Interpolation along an axis lies between the values at the nodes around. -/
theorem itp_around {l : List Int} (h : Axis l) {x : Int} {a b i : Nat} (ha : IsBelow l x a) (hb : IsAbove l x b) (hi : SegAt l (lim l x) i) (f : Nat → Int) :
    itp (nd l i) (nd l (i + 1)) (f i) (f (i + 1)) (lim l x) ≤ max (f a) (f b) := by
  have h2 := h.two
  obtain ⟨k0, k1, k2, k3, _, _⟩ := hi.nd h
  obtain ⟨hal, ha⟩ := ha
  obtain ⟨hbl, hb⟩ := hb
  have hle : ∀ i j, i ≤ j → j < l.length → nd l i ≤ nd l j := fun i j h1 h2 => by rw [nd_get h2, nd_get (by omega)]; exact h.le j i h2 h1
  have hlt : ∀ i j, i < j → j < l.length → nd l i < nd l j := fun i j h1 h2 => by rw [nd_get h2, nd_get (by omega)]; exact h.lt j i h2 h1
  have hh : l.headD 0 = nd l 0 := by rw [headD_get l (by omega), nd_get (by omega)]
  have ht : l.getLastD 0 = nd l (l.length - 1) := by rw [getLastD_get l (by omega), nd_get (by omega)]
  have hlim : lim l x = min (max x (nd l 0)) (nd l (l.length - 1)) := by unfold lim; rw [hh, ht]
  have h0l := hle 0 (l.length - 1) (by omega) (by omega)
  -- if the limited number is a node c, then i = c or i + 1 = c
  have node : ∀ c, c < l.length → lim l x = nd l c → itp (nd l i) (nd l (i + 1)) (f i) (f (i + 1)) (lim l x) = f c := fun c hc e => by
    rw [e] at k1 k2 ⊢
    have c1 : i ≤ c := by
      rcases Nat.lt_or_ge c i with q | q
      · have := hlt c i q (by omega); omega
      · exact q
    have c2 : c ≤ i + 1 := by
      rcases Nat.lt_or_ge (i + 1) c with q | q
      · have := hlt (i + 1) c q hc; omega
      · exact q
    rcases (show c = i ∨ c = i + 1 by omega) with rfl | rfl
    · exact itp_left ..
    · exact itp_right k3
  rcases Int.lt_or_le x (nd l 0) with q | q
  · have e : lim l x = nd l 0 := by omega
    have : a = 0 := by
      rcases ha with ⟨h1, _⟩ | ⟨h1, _⟩
      · have := hle 0 a (by omega) hal; omega
      · exact h1
    subst this
    rw [node 0 (by omega) e]; omega
  · rcases Int.lt_or_le (nd l (l.length - 1)) x with r | r
    · have e : lim l x = nd l (l.length - 1) := by omega
      have : b = l.length - 1 := by
        rcases hb with ⟨h1, _⟩ | ⟨h1, _⟩
        · have := hle b (l.length - 1) (by omega) (by omega); omega
        · omega
      subst this
      rw [node (l.length - 1) (by omega) e]; omega
    · have e : lim l x = x := by omega
      -- a is a node below, b one above
      have ha' : nd l a ≤ x ∧ ∀ j, a < j → j < l.length → x < nd l j := by
        rcases ha with h1 | ⟨_, h1⟩
        · exact h1
        · have := h1 0 (by omega); omega
      have hb' : x ≤ nd l b ∧ ∀ j, j < b → nd l j < x := by
        rcases hb with h1 | ⟨_, h1⟩
        · exact h1
        · have := h1 (l.length - 1) (by omega); omega
      rcases Int.lt_or_le (nd l a) x with s | s
      · have c1 : i = a := by
          rcases Nat.lt_trichotomy i a with q1 | q1 | q1
          · have := hle (i + 1) a (by omega) hal
            omega
          · exact q1
          · have := ha'.2 i q1 (by omega)
            omega
        have c2 : b = a + 1 := by
          rcases Nat.lt_trichotomy b (a + 1) with q1 | q1 | q1
          · have := hle b a (by omega) hal; omega
          · exact q1
          · have := hb'.2 (a + 1) q1
            have := ha'.2 (a + 1) (by omega) (by omega)
            omega
        subst c1 c2
        exact (itp_bounds (lo := min (f i) (f (i + 1))) k1 k2 k3 (by omega) (by omega) (by omega) (by omega)).2
      · rw [node a hal (by omega)]; omega

theorem corner_ge {m : SMap} (h : mapB m = true) (x y : Int) : ∃ v c, surface_At m x y = some v ∧ monitor_corner m x y = some c ∧ v ≤ c := by
  have hm := mapOk h
  obtain ⟨i, j, hi, hj, e⟩ := At_eq h x y
  obtain ⟨a, b, ha, hb, eab⟩ := around_spec hm.x x
  obtain ⟨c, d, hc, hd, ecd⟩ := around_spec hm.y y
  have la := ha.1; have lb := hb.1; have lc := hc.1; have ld := hd.1
  have za : a < m.Z.length := by have := hm.zl; omega
  have zb : b < m.Z.length := by have := hm.zl; omega
  have ra := hm.rl a za
  have rb := hm.rl b zb
  refine ⟨_, max (max (zz m a c) (zz m a d)) (max (zz m b c) (zz m b d)), e, ?_, ?_⟩
  · unfold monitor_corner
    rw [eab, ecd]
    simp only [Option.bind_some]
    rw [getI_get m.Z a za, Option.bind_some, getI_get _ c (by omega), Option.bind_some, getI_get _ d (by omega), Option.bind_some, getI_get m.Z b zb, Option.bind_some, getI_get _ c (by omega), Option.bind_some, getI_get _ d (by omega), Option.bind_some,
      ← zz_get za (by omega), ← zz_get za (by omega), ← zz_get zb (by omega), ← zz_get zb (by omega)]
    simp only [maxI_eq]
    congr 1; omega
  · have h1 := itp_around hm.y hc hd hj (fun j => along m i (lim m.X x) j)
    have h2 := itp_around hm.x ha hb hi (fun i => zz m i c)
    have h3 := itp_around hm.x ha hb hi (fun i => zz m i d)
    have e1 : itp (nd m.X i) (nd m.X (i + 1)) (zz m i c) (zz m (i + 1) c) (lim m.X x) = along m i (lim m.X x) c := rfl
    have e2 : itp (nd m.X i) (nd m.X (i + 1)) (zz m i d) (zz m (i + 1) d) (lim m.X x) = along m i (lim m.X x) d := rfl
    rw [e1] at h2
    rw [e2] at h3
    unfold atV
    omega
end Go.Pv
set_option linter.unusedSimpArgs false
namespace Go.Pv.Ar
open Go Go.Pv

theorem bsome {α : Type} (c : Bool) (x y : α) : (bif c then some x else some y) = some (bif c then x else y) := by cases c <;> rfl
theorem bif_bind {α β : Type} (c : Bool) (x y : α) (k : α → Option β) : Option.bind (bif c then some x else some y) k = k (bif c then x else y) := by cases c <;> rfl

/-! Requests. -/
def reqP (r : SRequest) : Prop := (0 ≤ r.Source ∧ r.Source ≤ 15) ∧ (0 ≤ r.Priority ∧ r.Priority ≤ 15) ∧ (-5000 ≤ r.Torque ∧ r.Torque ≤ 10000) ∧ (r.Kind = 1 ∨ (r.Source ≤ 1 ∧ (r.Kind = 2 ∨ r.Kind = 3)))
instance (r : SRequest) : Decidable (reqP r) := by unfold reqP; infer_instance

theorem valid_eq (r : SRequest) : arbiter_Valid r = some (decide (reqP r)) := by
  unfold arbiter_Valid arbiter_torque
  simp only [Option.bind_some, bsome]
  rw [Option.some.injEq, Bool.eq_iff_iff, decide_eq_true_eq]
  unfold reqP
  simp only [Bool.cond_true_left, Bool.cond_false_left, Bool.cond_true_right, Bool.cond_false_right, Bool.or_eq_true, Bool.and_eq_true, Bool.not_eq_true', Bool.or_eq_false_iff, Bool.and_eq_false_iff, Bool.not_eq_false', decide_eq_true_eq, decide_eq_false_iff_not, bne_iff_ne, bne_eq_false_iff_eq, beq_iff_eq, beq_eq_false_iff_ne, ne_eq, ge_iff_le]
  omega

def torB (t : Int) : Bool := decide (t ≥ -5000) && decide (t ≤ 10000)
def rngB (low high : Int) : Bool := (!torB low || !torB high) || decide (low > high)
def badR (l : List SRequest) : Bool := l.any fun r => !decide (reqP r)
def chk (l : List SRequest) (low high : Int) : Int := bif badR l then 1 else bif decide ((l.length : Int) > 32) then 5 else bif rngB low high then 2 else 0

theorem tail_eq (low high : Int) : (Option.bind (some (torB low)) fun v2 => Option.bind (bif (!v2) then (some true) else (Option.bind (some (torB high)) fun v3 => some (!v3))) fun b2 => bif (b2 || (decide (low > high))) then (some (2 : Int)) else (some 0)) = some (bif rngB low high then 2 else 0) := by
  unfold rngB
  cases torB low <;> cases torB high <;> cases decide (low > high) <;> rfl

theorem given_eq (l : List SRequest) (low high : Int) (hl : l.length ≤ 1000) : arbiter_given l low high = some (chk l low high) := by
  unfold arbiter_given chk
  have k := index_any l (by omega) arbiter_given_1 (fun r => !decide (reqP r)) (fun y _ => by unfold arbiter_given_1; rw [valid_eq]; rfl)
  have k' : slices_ContainsFunc_sRequest l arbiter_given_1 = some (badR l) := k
  rw [k']
  simp only [Option.bind_some]
  cases badR l
  · simp only [cond_false]
    cases decide ((l.length : Int) > 32)
    · simp only [cond_false]
      exact tail_eq low high
    · rfl
  · rfl

structure Fine (l : List SRequest) (low high : Int) : Prop where
  req : ∀ r ∈ l, reqP r
  len : l.length ≤ 32
  lo : -5000 ≤ low
  hi : high ≤ 10000
  ord : low ≤ high

theorem chk_zero {l : List SRequest} {low high : Int} : chk l low high = 0 ↔ Fine l low high := by
  have hb : badR l = false ↔ ∀ r ∈ l, reqP r := by
    unfold badR
    rw [List.any_eq_false]
    constructor
    · intro h r hr; simpa using h r hr
    · intro h r hr; simpa using h r hr
  have hr : rngB low high = false ↔ (-5000 ≤ low ∧ low ≤ 10000 ∧ -5000 ≤ high ∧ high ≤ 10000 ∧ low ≤ high) := by
    unfold rngB torB
    simp only [Bool.or_eq_false_iff, Bool.not_eq_false', Bool.and_eq_true, decide_eq_true_eq, decide_eq_false_iff_not]
    omega
  unfold chk
  constructor
  · intro h
    cases h1 : badR l <;> rw [h1] at h
    · cases h2 : decide ((l.length : Int) > 32) <;> rw [h2] at h
      · cases h3 : rngB low high <;> rw [h3] at h
        · have h4 := hr.1 h3
          have h5 : ¬ ((l.length : Int) > 32) := of_decide_eq_false h2
          exact ⟨hb.1 h1, by omega, by omega, by omega, by omega⟩
        · cases h
      · cases h
    · cases h
  · intro h
    rw [hb.2 h.req, hr.2 (by have := h.lo; have := h.hi; have := h.ord; omega), decide_eq_false (show ¬ ((l.length : Int) > 32) by have := h.len; omega)]
    rfl

theorem chk_bool {l : List SRequest} {low high : Int} : (chk l low high != 0) = !decide (chk l low high = 0) := by
  cases h : decide (chk l low high = 0)
  · have := of_decide_eq_false h; simpa using this
  · have := of_decide_eq_true h; rw [this]; rfl

/-! Narrowing. -/
def ins (s : Sarbiter_span) (r : SRequest) : Int := maxI s.low (minI s.high r.Torque)
def nlo (s : Sarbiter_span) (r : SRequest) : Int := if r.Kind = 1 then s.low else ins s r
def nhi (s : Sarbiter_span) (r : SRequest) : Int := if r.Kind = 2 then s.high else ins s r
def stp (s : Sarbiter_span) (r : SRequest) : Sarbiter_span := ⟨nlo s r, nhi s r, if nlo s r = s.low then s.source else r.Source⟩
def chg (s : Sarbiter_span) (r : SRequest) : Bool := !(decide (nlo s r = s.low) && decide (nhi s r = s.high))

theorem ins_range {s : Sarbiter_span} {r : SRequest} (h : s.low ≤ s.high) : s.low ≤ ins s r ∧ ins s r ≤ s.high := by
  unfold ins maxI minI; split <;> split <;> omega
theorem stp_range {s : Sarbiter_span} {r : SRequest} (h : s.low ≤ s.high) : s.low ≤ (stp s r).low ∧ (stp s r).low ≤ (stp s r).high ∧ (stp s r).high ≤ s.high := by
  have := ins_range (r := r) h
  unfold stp nlo nhi
  simp only
  split <;> split <;> omega
theorem stp_same {s : Sarbiter_span} {r : SRequest} (h : chg s r = false) : stp s r = s := by
  unfold chg at h
  simp only [Bool.not_eq_false', Bool.and_eq_true, decide_eq_true_eq] at h
  unfold stp
  rw [if_pos h.1, h.1, h.2]

theorem nar_tail (s : Sarbiter_span) (r : SRequest) (lo hi : Int) : (Option.bind (bif (lo != s.low) then (some r.Source) else (some s.source)) fun (f3 : Int) => bif (lo != s.low) then (some (true, (⟨lo, hi, f3⟩ : Sarbiter_span))) else (some ((hi != s.high), (⟨lo, hi, f3⟩ : Sarbiter_span)))) = some (!(decide (lo = s.low) && decide (hi = s.high)), ⟨lo, hi, if lo = s.low then s.source else r.Source⟩) := by
  by_cases h1 : lo = s.low
  · rw [show (lo != s.low) = false by simpa using h1, decide_eq_true h1, if_pos h1]; rfl
  · rw [show (lo != s.low) = true by simpa using h1, decide_eq_false h1, if_neg h1]; rfl

theorem narrow_eq (s : Sarbiter_span) (r : SRequest) (h : s.low ≤ s.high) (hk : r.Kind = 1 ∨ r.Kind = 2 ∨ r.Kind = 3) : arbiter_span_narrow s r = some (chg s r, stp s r) := by
  have e1 : maxI s.low (minI s.high r.Torque) = ins s r := rfl
  have e2 : minI s.high (maxI s.low r.Torque) = ins s r := by
    unfold ins maxI minI; repeat' split
    all_goals omega
  have e3 : minI (maxI r.Torque s.low) s.high = ins s r := by
    unfold ins maxI minI; repeat' split
    all_goals omega
  unfold arbiter_span_narrow arbiter_span_atMost arbiter_span_atLeast arbiter_span_exactly arith_Clamp
  simp only [Option.bind_some]
  rw [e1, e2, e3]
  unfold stp chg nlo nhi
  rcases hk with hk | hk | hk
  · rw [hk]
    exact nar_tail s r s.low (ins s r)
  · rw [hk]
    exact nar_tail s r (ins s r) s.high
  · rw [hk]
    exact nar_tail s r (ins s r) (ins s r)

/-! The list in its order. -/
def lev (l : List SRequest) (j : Nat) : List SRequest := l.filter fun r => r.Priority == 15 - (j : Int)
def ordK (l : List SRequest) (k : Nat) : List SRequest := (List.range k).flatMap (lev l)
abbrev ordL (l : List SRequest) : List SRequest := ordK l 16
theorem ordK_succ (l : List SRequest) (k : Nat) : ordK l (k + 1) = ordK l k ++ lev l k := by
  unfold ordK; rw [List.range_succ, List.flatMap_append, List.flatMap_singleton]

def DR (r : SRequest) : Prop := 0 ≤ r.Priority ∧ r.Priority ≤ 15
theorem lt_dec {x y : SRequest} (hx : DR x) (hy : DR y) : ltM arbiter_decide_1 x y = decide (y.Priority < x.Priority) := by
  unfold DR at hx hy
  unfold ltM arbiter_decide_1
  rw [Option.getD_some, w64_of (by omega) (by omega), decide_eq_decide]
  omega
theorem sw_dec : SW DR arbiter_decide_1 where
  ans := fun x y _ _ => ⟨_, rfl⟩
  asym := fun x y hx hy => by rw [lt_dec hx hy, lt_dec hy hx, decide_eq_true_eq, decide_eq_false_iff_not]; omega
  ntrans := fun x y z hx hy hz => by rw [lt_dec hx hy, lt_dec hy hz, lt_dec hx hz]; simp only [decide_eq_false_iff_not]; omega
theorem eqv_dec {x y : SRequest} (hx : DR x) (hy : DR y) : eqv arbiter_decide_1 x y = (y.Priority == x.Priority) := by
  unfold eqv
  rw [lt_dec hx hy, lt_dec hy hx, Bool.eq_iff_iff]
  simp only [Bool.and_eq_true, Bool.not_eq_true', decide_eq_false_iff_not, beq_iff_eq]
  omega

theorem mem_ordK {l : List SRequest} {k : Nat} {r : SRequest} : r ∈ ordK l k ↔ r ∈ l ∧ ∃ j, j < k ∧ r.Priority = 15 - (j : Int) := by
  unfold ordK lev
  rw [List.mem_flatMap]
  constructor
  · rintro ⟨j, hj, h⟩
    rw [List.mem_filter] at h
    exact ⟨h.1, j, List.mem_range.1 hj, by simpa using h.2⟩
  · rintro ⟨h, j, hj, hp⟩
    exact ⟨j, List.mem_range.2 hj, List.mem_filter.2 ⟨h, by simpa using hp⟩⟩
theorem mem_ordL {l : List SRequest} (h : AllD DR l) {r : SRequest} : r ∈ ordL l ↔ r ∈ l := by
  rw [mem_ordK]
  constructor
  · exact fun h => h.1
  · intro hr
    have := h r hr
    unfold DR at this
    exact ⟨hr, (15 - r.Priority).toNat, by omega, by omega⟩

theorem ordK_srt {l : List SRequest} (h : AllD DR l) : ∀ k, Srt arbiter_decide_1 (ordK l k)
  | 0 => .nil
  | k + 1 => by
    rw [ordK_succ]
    refine Srt.app (ordK_srt h k) ?_ fun a ha b hb => ?_
    · unfold lev
      rw [Srt, List.pairwise_iff_getElem]
      intro i j hi hj _
      have m1 := List.mem_filter.1 (List.getElem_mem hi)
      have m2 := List.mem_filter.1 (List.getElem_mem hj)
      have p1 := m1.2
      simp only [beq_iff_eq] at p1
      have p2 := m2.2
      simp only [beq_iff_eq] at p2
      rw [lt_dec (h _ m2.1) (h _ m1.1), decide_eq_false_iff_not]
      omega
    · obtain ⟨ha1, j, hj, hp⟩ := mem_ordK.1 ha
      have m2 := List.mem_filter.1 hb
      have p2 := m2.2
      simp only [beq_iff_eq] at p2
      rw [lt_dec (h _ m2.1) (h _ ha1), decide_eq_false_iff_not]
      omega

theorem ordK_filter (l : List SRequest) (p : Int) : ∀ k, (ordK l k).filter (fun r => r.Priority == p) = if 15 - (k : Int) < p ∧ p ≤ 15 then l.filter (fun r => r.Priority == p) else []
  | 0 => by
    rw [if_neg (by omega)]
    rfl
  | k + 1 => by
    rw [ordK_succ, List.filter_append, ordK_filter l p k]
    unfold lev
    rw [List.filter_filter]
    by_cases hp : p = 15 - (k : Int)
    · rw [if_neg (by omega), if_pos (by omega), List.nil_append]
      congr 1
      funext r
      rw [← hp]
      cases r.Priority == p <;> rfl
    · have : (l.filter fun a => (a.Priority == p) && (a.Priority == 15 - (k : Int))) = [] := by
        rw [List.filter_eq_nil_iff]
        intro r _ h
        simp only [Bool.and_eq_true, beq_iff_eq] at h
        omega
      rw [this, List.append_nil]
      by_cases h2 : 15 - (k : Int) < p ∧ p ≤ 15
      · rw [if_pos h2, if_pos (by omega)]
      · rw [if_neg h2, if_neg (by omega)]

theorem sort_canon {l r : List SRequest} (h : AllD DR l) (hs : Srt arbiter_decide_1 r) (ht : Sta DR arbiter_decide_1 l r) : r = ordL l := by
  refine srt_uniq sw_dec (ht.all h) (fun x hx => h x ((mem_ordL h).1 hx)) hs (ordK_srt h 16) fun x hx => ?_
  rw [ht.same x hx]
  have e : ∀ m : List SRequest, AllD DR m → m.filter (eqv arbiter_decide_1 x) = m.filter (fun r => r.Priority == x.Priority) := fun m hm => List.filter_congr fun y hy => eqv_dec hx (hm y hy)
  rw [e l h, e (ordL l) (fun y hy => h y ((mem_ordL h).1 hy)), ordK_filter]
  unfold DR at hx
  rw [if_pos (by omega)]

/-! The printed sort is the sort. -/
theorem sm_same : slices_symMergeCmpFunc_Request_s = g_symMergeCmpFunc_s := by kernel_rfl
theorem sym_same : ∀ fu, slices_symMergeCmpFunc_Request fu = g_symMergeCmpFunc fu
  | 0 => rfl
  | fu + 1 => by
    show slices_symMergeCmpFunc_Request_s (slices_symMergeCmpFunc_Request fu) = g_symMergeCmpFunc_s (g_symMergeCmpFunc fu)
    rw [sym_same fu, sm_same]
theorem st3_same (n : Int) (g : SRequest → SRequest → Option Int) (s3 : Int × List SRequest) : slices_stableCmpFunc_Request_b3 n g s3 = g_stableCmpFunc_b3 n g s3 := by
  funext t
  unfold slices_stableCmpFunc_Request_b3 g_stableCmpFunc_b3
  rw [sym_same]
theorem st2_same : slices_stableCmpFunc_Request_b2 = g_stableCmpFunc_b2 := by
  funext n g t
  unfold slices_stableCmpFunc_Request_b2
  simp only [sym_same, st3_same]
  kernel_rfl
theorem stc_same : slices_stableCmpFunc_Request = g_stableCmpFunc := by
  funext d n g
  unfold slices_stableCmpFunc_Request
  rw [st2_same]
  kernel_rfl
theorem st_same (l : List SRequest) (g : SRequest → SRequest → Option Int) : slices_SortStableFunc_sRequest l g = g_SortStableFunc l g := by
  unfold slices_SortStableFunc_sRequest g_SortStableFunc
  rw [stc_same]

/-! decide. -/
def dec (s : Sarbiter_span) : List SRequest → List Int
  | [] => []
  | r :: l => (bif chg s r then [r.Source] else []) ++ dec (stp s r) l
theorem dec_len (s : Sarbiter_span) : ∀ l : List SRequest, (dec s l).length ≤ l.length
  | [] => Nat.le_refl _
  | r :: l => by
    have := dec_len (stp s r) l
    unfold dec
    cases chg s r
    · simp only [cond_false, List.nil_append, List.length_cons]; omega
    · simp only [cond_true, List.length_append, List.length_cons, List.length_nil]; omega
theorem dec_app (s : Sarbiter_span) : ∀ (a b : List SRequest), dec s (a ++ b) = dec s a ++ dec (a.foldl stp s) b
  | [], b => rfl
  | r :: a, b => by
    simp only [List.cons_append, dec, List.foldl_cons, dec_app (stp s r) a b, List.append_assoc]

theorem dloop : ∀ (q : List SRequest) (i : Int) (acc : List Int) (s : Sarbiter_span), s.low ≤ s.high → (∀ r ∈ q, r.Kind = 1 ∨ r.Kind = 2 ∨ r.Kind = 3) → acc.length + q.length ≤ 10000 →
    stepsL arbiter_decide_b1 q i (acc, s) = some (.inl (acc ++ dec s q, q.foldl stp s))
  | [], i, acc, s, _, _, _ => by simp [stepsL, dec]
  | r :: q, i, acc, s, hs, hk, hl => by
    simp only [List.length_cons] at hl
    have hr := stp_range (r := r) hs
    have hb : arbiter_decide_b1 i r (acc, s) = some (.next (acc ++ (bif chg s r then [r.Source] else []), stp s r)) := by
      unfold arbiter_decide_b1
      simp only
      rw [narrow_eq s r hs (hk r (by simp))]
      simp only [Option.bind_some]
      cases chg s r
      · simp
      · simp only [cond_true]
        rw [appendM_ok _ _ (by simp only [List.length_singleton]; omega)]
        rfl
    simp only [stepsL, hb, Option.bind_some]
    rw [dloop q (i + 1) _ (stp s r) (by omega) (fun x hx => hk x (by simp [hx])) (by rw [List.length_append]; cases chg s r <;> simp <;> omega)]
    simp only [dec, List.foldl_cons, List.append_assoc]

def s0 (low high : Int) : Sarbiter_span := ⟨low, high, -1⟩
def fin (l : List SRequest) (low high : Int) : Sarbiter_span := (ordL l).foldl stp (s0 low high)
def srcs (l : List SRequest) (low high : Int) : List Int := compL ((dec (s0 low high) (ordL l)).mergeSort fun x y => decide (x ≤ y))

theorem Fine.dr {l : List SRequest} {low high : Int} (h : Fine l low high) : AllD DR l := fun r hr => by
  have := h.req r hr
  unfold reqP at this
  unfold DR; omega
theorem Fine.kinds {l : List SRequest} {low high : Int} (h : Fine l low high) : ∀ r ∈ l, r.Kind = 1 ∨ r.Kind = 2 ∨ r.Kind = 3 := fun r hr => by
  have := h.req r hr
  unfold reqP at this
  omega
theorem ordL_len {l : List SRequest} {low high : Int} (h : Fine l low high) : (ordL l).length = l.length := by
  obtain ⟨r, h1, h2, h3⟩ := stable_eq sw_dec l h.dr (by have := h.len; omega)
  rw [← sort_canon h.dr h2 h3, h3.len]
theorem ordL_perm {l : List SRequest} {low high : Int} (h : Fine l low high) : (ordL l).Perm l := by
  obtain ⟨r, h1, h2, h3⟩ := stable_eq sw_dec l h.dr (by have := h.len; omega)
  rw [← sort_canon h.dr h2 h3]
  exact h3.perm

theorem decide_eq {l : List SRequest} {low high : Int} (h : Fine l low high) : arbiter_decide l low high = some (fin l low high, srcs l low high) := by
  unfold arbiter_decide slices_Clone_sRequest
  have hl := h.len
  rw [appendM_ok _ _ (by simp only [List.length_nil]; omega)]
  simp only [Option.bind_some, List.nil_append]
  rw [st_same]
  obtain ⟨r, h1, h2, h3⟩ := stable_eq sw_dec l h.dr (by omega)
  rw [h1, sort_canon h.dr h2 h3]
  simp only [Option.bind_some]
  have hlen := ordL_len h
  rw [rangeM_steps _ (by omega), dloop (ordL l) 0 [] ⟨low, high, -1⟩ h.ord (fun x hx => h.kinds x ((mem_ordL h.dr).1 hx)) (by simp only [List.length_nil]; omega)]
  simp only [Option.bind_some, List.nil_append]
  unfold slices_Sort_sint slices_Compact_sint
  have hd := dec_len (s0 low high) (ordL l)
  rw [sortIM_ok (show (dec (⟨low, high, -1⟩ : Sarbiter_span) (ordL l)).length < 4611686018427387904 by unfold s0 at hd; omega)]
  simp only [Option.bind_some]
  rw [compactM_ok (by rw [List.length_mergeSort]; unfold s0 at hd; omega)]
  rfl

theorem fold_range : ∀ (q : List SRequest) (s : Sarbiter_span), s.low ≤ s.high → s.low ≤ (q.foldl stp s).low ∧ (q.foldl stp s).low ≤ (q.foldl stp s).high ∧ (q.foldl stp s).high ≤ s.high
  | [], s, h => ⟨Int.le_refl _, h, Int.le_refl _⟩
  | r :: q, s, h => by
    have h1 := stp_range (r := r) h
    have h2 := fold_range q (stp s r) (by omega)
    rw [List.foldl_cons]
    omega
theorem fin_range {l : List SRequest} {low high : Int} (h : low ≤ high) : low ≤ (fin l low high).low ∧ (fin l low high).low ≤ (fin l low high).high ∧ (fin l low high).high ≤ high := fold_range (ordL l) (s0 low high) h

theorem Decide_eq (l : List SRequest) (low high : Int) (hl : l.length ≤ 1000) : arbiter_Decide l low high = some (if chk l low high = 0 then (⟨(fin l low high).low, (fin l low high).source⟩, 0) else (⟨0, 0⟩, chk l low high)) := by
  unfold arbiter_Decide
  rw [given_eq _ _ _ hl, Option.bind_some, chk_bool]
  by_cases h : chk l low high = 0
  · rw [decide_eq_true h, if_pos h]
    simp only [Bool.not_true, cond_false]
    rw [decide_eq (chk_zero.1 h)]
    rfl
  · rw [decide_eq_false h, if_neg h]; rfl
end Go.Pv.Ar
set_option linter.unusedSimpArgs false
namespace Go.Pv
open Go

def raising (r : SRequest) : Prop := r.Kind = 2 ∨ r.Kind = 3

/-- What raises is the torque of a raising request at most. -/
theorem fold_low (M : Int) : ∀ (q : List SRequest) (s : Sarbiter_span), s.low ≤ s.high → (∀ r ∈ q, r.Kind = 1 ∨ r.Torque ≤ M) → (q.foldl Ar.stp s).low ≤ max s.low M
  | [], s, _, _ => by rw [List.foldl_nil]; omega
  | r :: q, s, hs, h => by
    have h1 := Ar.stp_range (r := r) hs
    have h2 := fold_low M q (Ar.stp s r) (by omega) (fun x hx => h x (List.mem_cons_of_mem _ hx))
    have h3 : (Ar.stp s r).low ≤ max s.low M := by
      unfold Ar.stp Ar.nlo Ar.ins maxI minI
      simp only
      rcases h r (List.mem_cons_self ..) with h4 | h4
      · rw [if_pos h4]; omega
      · split
        · omega
        · split <;> split <;> omega
    rw [List.foldl_cons]
    omega

/-- Limits alone leave the lower end, and lower the upper one. -/
theorem fold_most : ∀ (q : List SRequest) (s : Sarbiter_span), s.low ≤ s.high → (∀ r ∈ q, r.Kind = 1) → (q.foldl Ar.stp s).low = s.low ∧ (q.foldl Ar.stp s).high ≤ s.high ∧ ∀ r ∈ q, (q.foldl Ar.stp s).high ≤ max s.low r.Torque
  | [], s, _, _ => ⟨rfl, Int.le_refl _, fun r hr => absurd hr (by simp)⟩
  | r :: q, s, hs, h => by
    have hr := h r (List.mem_cons_self ..)
    have h1 := Ar.stp_range (r := r) hs
    have e1 : (Ar.stp s r).low = s.low := by unfold Ar.stp Ar.nlo; rw [if_pos hr]
    have e2 : (Ar.stp s r).high ≤ max s.low r.Torque := by
      unfold Ar.stp Ar.nhi Ar.ins maxI minI
      simp only
      rw [if_neg (by omega)]
      split <;> split <;> omega
    obtain ⟨a, b, c⟩ := fold_most q (Ar.stp s r) (by omega) (fun x hx => h x (List.mem_cons_of_mem _ hx))
    rw [List.foldl_cons]
    refine ⟨by omega, by omega, fun x hx => ?_⟩
    rcases List.mem_cons.1 hx with rfl | hx
    · omega
    · have := c x hx
      omega

theorem permG_ge : ∀ (l : List SRequest) (s : Int × Int), s.1 ≤ (l.foldl permG s).1 ∧ s.2 ≤ (l.foldl permG s).2 ∧ ∀ r ∈ l, raising r → r.Priority ≤ (l.foldl permG s).2 ∧ (r.Source = 1 → min r.Torque 1500 ≤ (l.foldl permG s).1)
  | [], s => ⟨Int.le_refl _, Int.le_refl _, fun r hr => absurd hr (by simp)⟩
  | y :: l, s => by
    obtain ⟨a, b, c⟩ := permG_ge l (permG s y)
    have h1 : s.1 ≤ (permG s y).1 ∧ s.2 ≤ (permG s y).2 ∧ (raising y → y.Priority ≤ (permG s y).2 ∧ (y.Source = 1 → min y.Torque 1500 ≤ (permG s y).1)) := by
      unfold permG raising
      cases hk : ((y.Kind == 2) || (y.Kind == 3))
      · simp only [Bool.not_false, cond_true]
        simp only [Bool.or_eq_false_iff, beq_eq_false_iff_ne, ne_eq] at hk
        exact ⟨Int.le_refl _, Int.le_refl _, fun h => absurd h (by omega)⟩
      · simp only [Bool.not_true, cond_false]
        cases hs : y.Source == 1
        · simp only [cond_false, maxI_eq]
          refine ⟨Int.le_refl _, by omega, fun _ => ⟨by omega, fun h => absurd h (by simpa using hs)⟩⟩
        · simp only [cond_true, maxI_eq, minI_eq]
          exact ⟨by omega, by omega, fun _ => ⟨by omega, fun _ => by omega⟩⟩
    rw [List.foldl_cons]
    refine ⟨by omega, by omega, fun r hr hk => ?_⟩
    rcases List.mem_cons.1 hr with rfl | hr
    · obtain ⟨c1, c2⟩ := h1.2.2 hk
      exact ⟨by omega, fun h => by have := c2 h; omega⟩
    · exact c r hr hk

theorem permH_le (p : Int) : ∀ (l : List SRequest) (s : Int), l.foldl (permH p) s = s ∨ ∃ r ∈ l, r.Kind = 1 ∧ r.Priority > p ∧ l.foldl (permH p) s = r.Torque
  | [], s => .inl rfl
  | y :: l, s => by
    rw [List.foldl_cons]
    rcases permH_le p l (permH p s y) with h | ⟨r, h1, h2, h3, h4⟩
    · rw [h]
      unfold permH
      cases hc : (y.Kind == 1) && decide (y.Priority > p)
      · exact .inl rfl
      · simp only [Bool.and_eq_true, beq_iff_eq, decide_eq_true_eq] at hc
        rw [cond_true]
        unfold minI
        split
        · exact .inr ⟨y, List.mem_cons_self .., hc.1, hc.2, rfl⟩
        · exact .inl rfl
    · exact .inr ⟨r, List.mem_cons_of_mem _ h1, h2, h3, h4⟩

theorem reqB_P (r : SRequest) (h : Ar.reqP r) : reqB r = true := by
  have h1 := Ar.valid_eq r
  rw [req_mon, decide_eq_true h] at h1
  exact Option.some.inj h1

/-- The grant's lower end. -/
theorem fin_low {l : List SRequest} {low high : Int} (h : Ar.Fine l low high) (M p : Int) (hp : ∀ r ∈ l, raising r → r.Priority ≤ p) (hp0 : -1 ≤ p) (hM : ∀ r ∈ l, raising r → r.Torque ≤ M) :
    (Ar.fin l low high).low ≤ max low M ∧ (Ar.fin l low high).low ≤ max low (l.foldl (permH p) 10000) := by
  have hk := h.kinds
  have hord : ∀ r ∈ Ar.ordL l, r ∈ l := fun r hr => (Ar.mem_ordL h.dr).1 hr
  constructor
  · refine fold_low M (Ar.ordL l) (Ar.s0 low high) h.ord fun r hr => ?_
    have := hord r hr
    rcases hk r this with q | q | q
    · exact .inl q
    · exact .inr (hM r this (.inl q))
    · exact .inr (hM r this (.inr q))
  · -- the levels above p hold limits alone
    have hsplit : ∀ k, k ≤ 16 → ∃ B, Ar.ordL l = Ar.ordK l k ++ B := fun k hk => by
      have : ∀ d k, k + d = 16 → ∃ B, Ar.ordL l = Ar.ordK l k ++ B := by
        intro d
        induction d with
        | zero => intro k hk; exact ⟨[], by rw [List.append_nil]; show Ar.ordK l 16 = _; rw [show k = 16 by omega]⟩
        | succ d ih =>
          intro k hk
          obtain ⟨B, hB⟩ := ih (k + 1) (by omega)
          exact ⟨Ar.lev l k ++ B, by rw [hB, Ar.ordK_succ, List.append_assoc]⟩
      exact this (16 - k) k (by omega)
    have hfr := Ar.fold_range
    rcases permH_le p l 10000 with e | ⟨r, h1, h2, h3, h4⟩
    · rw [e]
      have := Ar.fin_range (l := l) h.ord
      have := h.hi
      omega
    · rw [h4]
      have hdr := h.dr r h1
      unfold Ar.DR at hdr
      obtain ⟨B, hB⟩ := hsplit (16 - r.Priority).toNat (by omega)
      have hmem : r ∈ Ar.ordK l (16 - r.Priority).toNat := Ar.mem_ordK.2 ⟨h1, (15 - r.Priority).toNat, by omega, by omega⟩
      have hall : ∀ x ∈ Ar.ordK l (16 - r.Priority).toNat, x.Kind = 1 := fun x hx => by
        obtain ⟨hx1, j, hj, hj2⟩ := Ar.mem_ordK.1 hx
        rcases hk x hx1 with q | q | q
        · exact q
        · have := hp x hx1 (.inl q); omega
        · have := hp x hx1 (.inr q); omega
      obtain ⟨a, b, c⟩ := fold_most _ (Ar.s0 low high) h.ord hall
      have c' := c r hmem
      have hmid := hfr (Ar.ordK l (16 - r.Priority).toNat) (Ar.s0 low high) h.ord
      have hend := hfr B ((Ar.ordK l (16 - r.Priority).toNat).foldl Ar.stp (Ar.s0 low high)) hmid.2.1
      unfold Ar.fin
      rw [hB, List.foldl_append]
      have e0 : (Ar.s0 low high).low = low := rfl
      rw [e0] at c'
      omega

theorem plain_MonitorGrants (x0 : STables) (x1 : Int) (x2 : Int) (x3 : List SRequest) (x4 : Int) (x5 : Int) (_ : wf_STables x0) (_ : (fun n => (Lit.int .i64 n).wf = true) x1) (_ : (fun n => (Lit.int .i64 n).wf = true) x2) (_ : (wfL wf_SRequest) x3) (_ : (fun n => (Lit.int .i64 n).wf = true) x4) (_ : (fun n => (Lit.int .i64 n).wf = true) x5)  : magnetolaw39_MonitorGrants x0 x1 x2 x3 x4 x5 = some true := by
  unfold magnetolaw39_MonitorGrants
  rw [awake_true]
  simp only [Option.bind_some, Bool.not_true, cond_false]
  cases h32 : decide ((x3.length : Int) > 32)
  · simp only [cond_false]
    have hl : x3.length ≤ 32 := by rw [decide_eq_false_iff_not] at h32; omega
    rw [Ar.Decide_eq x3 x4 x5 (by omega)]
    by_cases hch : Ar.chk x3 x4 x5 = 0
    · rw [if_pos hch]
      have hf := Ar.chk_zero.1 hch
      have hq : x3.all reqB = true := by rw [List.all_eq_true]; exact fun r hr => reqB_P r (hf.req r hr)
      cases hm : mapB x0.Wish
      · have := permitted_bad x0 x1 x2 x3 hl (fun h => by rw [hm] at h; exact absurd h.1 (by simp))
        rw [this]
        simp only [Option.bind_some, pedal_Wish, valid_eq, hm, Bool.not_false, cond_true, Bool.false_and, cond_false]
        rfl
      · unfold pedal_Wish
        rw [valid_eq, hm]
        simp only [Option.bind_some, Bool.not_true, cond_false]
        have eqo : ((((decide (x1 < 0)) || (decide (x1 > 1000))) || (decide (x2 < 0))) || (decide (x2 > 12000))) = (bif !(decide (x1 ≥ 0) && decide (x1 ≤ 1000)) then true else !(decide (x2 ≥ 0) && decide (x2 ≤ 12000))) := by
          rw [Bool.eq_iff_iff]
          simp only [Bool.cond_true_left, Bool.or_eq_true, Bool.not_eq_true', Bool.and_eq_false_iff, decide_eq_true_eq, decide_eq_false_iff_not]
          omega
        cases ho : (bif !(decide (x1 ≥ 0) && decide (x1 ≤ 1000)) then true else !(decide (x2 ≥ 0) && decide (x2 ≤ 12000)))
        · rw [eqo, ho]
          obtain ⟨v, c, hv, hc, hvc⟩ := corner_ge hm x2 x1
          rw [permitted_eq x0 x1 x2 hm ho c hc x3 hq hl, hv]
          simp only [cond_false, Option.bind_some, clamp_eq, show ((0 : Int) != 0) = false from rfl, Bool.or_self]
          generalize hW : minI (maxI v (-5000)) 10000 = W
          generalize hD : minI (maxI c (-5000)) 10000 = D
          have hWD : W ≤ D := by
            subst hW hD
            rw [minI_eq, maxI_eq, minI_eq, maxI_eq]; omega
          have hD1 : D ≤ 10000 := by subst hD; rw [minI_eq]; omega
          have hG := permG_ge x3 (-5000, -1)
          generalize hS : x3.foldl permG (-5000, -1) = S at hG ⊢
          have hloop := stepsL_any (f := magnetolaw39_MonitorGrants_b1 (W, 0)) (p := fun r => (r.Kind != 1) && (((r.Source == 0) && decide (r.Torque > W)) || ((r.Source == 1) && decide (r.Torque > 1500)))) (r := true) x3 0 (fun i y _ => by
            unfold magnetolaw39_MonitorGrants_b1
            cases (y.Kind != 1) <;> cases (y.Source == 0) <;> cases decide (y.Torque > W) <;> cases (y.Source == 1) <;> cases decide (y.Torque > 1500) <;> rfl)
          rw [rangeM_steps _ (by omega), hloop]
          cases hany : x3.any fun r => (r.Kind != 1) && (((r.Source == 0) && decide (r.Torque > W)) || ((r.Source == 1) && decide (r.Torque > 1500)))
          · simp only [cond_false, Option.bind_some, Option.some.injEq, decide_eq_true_eq]
            have hM : ∀ r ∈ x3, raising r → r.Torque ≤ max D S.1 := fun r hr hk => by
              have h1 := List.any_eq_false.1 hany r hr
              have h2 := hf.req r hr
              unfold Ar.reqP at h2
              have hk' : ¬ r.Kind = 1 := by unfold raising at hk; omega
              simp only [Bool.and_eq_true, Bool.or_eq_true, bne_iff_ne, ne_eq, beq_iff_eq, decide_eq_true_eq] at h1
              rcases (show r.Source = 0 ∨ r.Source = 1 by omega) with hs | hs
              · have : ¬ r.Torque > W := fun q => h1 ⟨hk', .inl ⟨hs, q⟩⟩
                omega
              · have : ¬ r.Torque > 1500 := fun q => h1 ⟨hk', .inr ⟨hs, q⟩⟩
                have := (hG.2.2 r hr hk).2 hs
                omega
            obtain ⟨f1, f2⟩ := fin_low hf (max D S.1) S.2 (fun r hr hk => (hG.2.2 r hr hk).1) hG.2.1 hM
            have hS1 : S.1 ≤ 1500 ∨ True := .inr trivial
            generalize x3.foldl (permH S.2) 10000 = L at f2 ⊢
            have hx0 : 0 ≤ maxI 0 (minI L (maxI D S.1)) := by rw [maxI_eq]; omega
            have hS5 : S.1 ≤ 10000 := by
              have : ∀ (l : List SRequest) (s : Int × Int), s.1 ≤ 1500 → (l.foldl permG s).1 ≤ 1500 := by
                intro l
                induction l with
                | nil => exact fun s h => h
                | cons y l ih =>
                  intro s h
                  refine ih _ ?_
                  unfold permG
                  cases ((y.Kind == 2) || (y.Kind == 3)) <;> cases (y.Source == 1) <;> simp only [Bool.not_true, Bool.not_false, cond_true, cond_false, maxI_eq, minI_eq] <;> omega
              have := this x3 (-5000, -1) (by decide)
              rw [hS] at this
              omega
            have hx1 : maxI 0 (minI L (maxI D S.1)) ≤ 10000 := by rw [maxI_eq, minI_eq, maxI_eq]; omega
            rw [w64_of (n := maxI 0 (minI L (maxI D S.1)) + 100) (by omega) (by omega), w64_of (by omega) (by omega)]
            rw [maxI_eq, maxI_eq, minI_eq, maxI_eq]
            omega
          · rfl
        · have := permitted_bad x0 x1 x2 x3 hl (fun h => by rw [ho] at h; exact absurd h.2.2 (by simp))
          rw [this, eqo, ho, hm, hq]
          rfl
    · rw [if_neg hch]
      have hch' : (Ar.chk x3 x4 x5 != 0) = true := by rw [Ar.chk_bool, decide_eq_false hch]; rfl
      have h1 : ∃ r, monitor_Permitted x0 x1 x2 x3 = some r := by
        by_cases hgood : (mapB x0.Wish = true ∧ x3.all reqB = true ∧ (bif !(decide (x1 ≥ 0) && decide (x1 ≤ 1000)) then true else !(decide (x2 ≥ 0) && decide (x2 ≤ 12000))) = false)
        · obtain ⟨c, hc⟩ := permitted_ok x0 x1 x2 hgood.1 hgood.2.2
          exact ⟨_, hc x3 hgood.2.1 hl⟩
        · exact ⟨_, permitted_bad x0 x1 x2 x3 hl hgood⟩
      have h2 : ∃ r, pedal_Wish x0 x1 x2 = some r := by
        unfold pedal_Wish
        rw [valid_eq]
        cases hm : mapB x0.Wish
        · exact ⟨_, rfl⟩
        · obtain ⟨v, c, hv, hc, hvc⟩ := corner_ge hm x2 x1
          rw [hv]
          simp only [Option.bind_some, Bool.not_true, cond_false, clamp_eq, bif_some]
          exact ⟨_, rfl⟩
      obtain ⟨r1, e1⟩ := h1
      obtain ⟨r2, e2⟩ := h2
      rw [e1, e2]
      simp only [Option.bind_some, hch', Bool.or_true, cond_true]
  · rfl
end Go.Pv
namespace Go.Proofs.Ytllofihbdbdaeaa.monitorGrants
open Go Go.Pv Go.Proofs Go.ChangeShapes Go.WideShapes Go.ChangeAt Go.RowKit Go.Proofs.Ytllofihbdbdaeaa
theorem own : ownKnob Try.prog.godebug = none := by kernel_rfl
theorem laidOut : laidOutB Try.prog = true := by kernel_rfl
set_option maxRecDepth 100000 in
theorem lifted (os : Os) (started : os.Started) (H : Type) (enc : TypeId × Value → H) :
    ReturnsInHanded {} Try.checked os 10 .any (Rows.monitorGrantsSpec.pre6 enc Try.prog Try.f10 Rows.monitorGrantsRow.domain false) (Rows.monitorGrantsSpec.post enc Try.prog Try.f10 false true false false) := by
  refine returnsInHanded_of_change (C := Try.checked) own started (by kernel_rfl) Try.func10
    (ChangeSpec.witness6 (enc := enc) (C := Try.checked) false ⟨#[], #[.agg #[.slice none 0 0, .slice none 0 0, .slice none 0 0, .slice none 0 0, .slice none 0 0, .slice none 0 0, .slice none 0 0, .slice none 0 0, .slice none 0 0, .slice none 0 0, .slice none 0 0, .slice none 0 0, .slice none 0 0, .slice none 0 0, .slice none 0 0, .slice none 0 0, .slice none 0 0, .slice none 0 0, .slice none 0 0, .slice none 0 0, .int .i64 0, .int .i64 0, .int .i64 0, .int .i64 0], .int .i64 0, .int .i64 0, .slice none 0 0, .int .i64 0, .int .i64 0], []⟩ 16 (by kernel_rfl) (by kernel_rfl) (by kernel_rfl) (by kernel_rfl)) ?_
  intro W base args ds gs before hval0 hW hcnd _
  have hval : ∀ (j : Nat) t v, Try.f10.params[j]? = some t → args[j]? = some v → Value.okWide Try.prog W .any base t v := hval0
  have hW' := hW
  obtain ⟨p, q, hA0, hV, rfl, hfz, hnd⟩ := hW
  have hA : DataW.TrodAll enc Try.prog W 0 (fun _ => true) true Try.f10.params.toList args.toList ds p := hA0
  rw [Try.params10] at hA hval
  obtain ⟨v0, vs0, d0, ds0, p0, q0, hargs, rfl, rfl, h0, r0⟩ := trodAll_cons hA
  obtain ⟨v1, vs1, d1, ds1, p1, q1, rfl, rfl, rfl, h1, r1⟩ := trodAll_cons r0
  obtain ⟨v2, vs2, d2, ds2, p2, q2, rfl, rfl, rfl, h2, r2⟩ := trodAll_cons r1
  obtain ⟨v3, vs3, d3, ds3, p3, q3, rfl, rfl, rfl, h3, r3⟩ := trodAll_cons r2
  obtain ⟨v4, vs4, d4, ds4, p4, q4, rfl, rfl, rfl, h4, r4⟩ := trodAll_cons r3
  obtain ⟨v5, vs5, d5, ds5, p5, q5, rfl, rfl, rfl, h5, r5⟩ := trodAll_cons r4
  obtain ⟨rfl, rfl, rfl⟩ := trodAll_nil r5
  obtain rfl : args = #[v0, v1, v2, v3, v4, v5] := by cases args; simp_all
  obtain ⟨rfl, rfl⟩ := trodVars_none hV
  have k0 := h0
  have lt0 : ∀ x ∈ p0, x.block < W.heap.size := by obtain ⟨m, hm⟩ := k0; exact DataW.trod_lt m _ _ _ hm
  obtain ⟨x0, g0, a0⟩ := arg_31 _ _ W _ _ _ _ (hval 0 31 v0 rfl rfl) h0
  have k1 := h1
  have lt1 : ∀ x ∈ p1, x.block < W.heap.size := by obtain ⟨m, hm⟩ := k1; exact DataW.trod_lt m _ _ _ hm
  obtain ⟨x1, g1, a1⟩ := arg_3 _ _ W _ _ _ _ (hval 1 3 v1 rfl rfl) h1
  have k2 := h2
  have lt2 : ∀ x ∈ p2, x.block < W.heap.size := by obtain ⟨m, hm⟩ := k2; exact DataW.trod_lt m _ _ _ hm
  obtain ⟨x2, g2, a2⟩ := arg_3 _ _ W _ _ _ _ (hval 2 3 v2 rfl rfl) h2
  have k3 := h3
  have lt3 : ∀ x ∈ p3, x.block < W.heap.size := by obtain ⟨m, hm⟩ := k3; exact DataW.trod_lt m _ _ _ hm
  obtain ⟨x3, g3, a3⟩ := arg_32 _ _ W _ _ _ _ (hval 3 32 v3 rfl rfl) h3
  have k4 := h4
  have lt4 : ∀ x ∈ p4, x.block < W.heap.size := by obtain ⟨m, hm⟩ := k4; exact DataW.trod_lt m _ _ _ hm
  obtain ⟨x4, g4, a4⟩ := arg_3 _ _ W _ _ _ _ (hval 4 3 v4 rfl rfl) h4
  have k5 := h5
  have lt5 : ∀ x ∈ p5, x.block < W.heap.size := by obtain ⟨m, hm⟩ := k5; exact DataW.trod_lt m _ _ _ hm
  obtain ⟨x5, g5, a5⟩ := arg_3 _ _ W _ _ _ _ (hval 5 3 v5 rfl rfl) h5
  clear hA0 hval0
  refine (TieF.calls (tie_magnetolaw39_MonitorGrants x0 x1 x2 x3 x4 x5) (plain_MonitorGrants x0 x1 x2 x3 x4 x5 g0 g1 g2 g3 g4 g5) (rvl_cons (a0 _) (rvl_cons (a1 _) (rvl_cons (a2 _) (rvl_cons (a3 _) (rvl_cons (a4 _) (rvl_cons (a5 _) rvl_nil))))))).mono fun e W' ⟨he, bel⟩ => ?_
  subst he
  exact ⟨_, rfl, _, _, _, [], _, [], hW', trodAll_mk1 (shut_bool Try.underlying4 _), (trodAll_cons_mk (Below.trod laidOut (by kernel_rfl) (of_decide_eq_true (by kernel_rfl)) k0 bel lt0) (trodAll_cons_mk (Below.trod laidOut (by kernel_rfl) (of_decide_eq_true (by kernel_rfl)) k1 bel lt1) (trodAll_cons_mk (Below.trod laidOut (by kernel_rfl) (of_decide_eq_true (by kernel_rfl)) k2 bel lt2) (trodAll_cons_mk (Below.trod laidOut (by kernel_rfl) (of_decide_eq_true (by kernel_rfl)) k3 bel lt3) (trodAll_cons_mk (Below.trod laidOut (by kernel_rfl) (of_decide_eq_true (by kernel_rfl)) k4 bel lt4) (trodAll_cons_mk (Below.trod laidOut (by kernel_rfl) (of_decide_eq_true (by kernel_rfl)) k5 bel lt5) trodAll_mk0)))))), rfl, bel.frame _, fun h => by cases h⟩
end Go.Proofs.Ytllofihbdbdaeaa.monitorGrants
namespace Go.Proofs.Ytllofihbdbdaeaa
theorem monitorGrants_holds : Rows.MonitorGrantsSaid :=
  OpenClaim.holds_of_wide 10 Try.f10 rfl rfl rfl rfl rfl rfl rfl ⟨rfl, rfl, rfl, rfl, rfl⟩ rfl rfl rfl rfl rfl (by kernel_rfl) Try.func10 (by kernel_rfl)
    (of_decide_eq_true (by kernel_rfl)) (by unfold Func.isWrapper; first | (rw [if_pos (by decide +kernel)]; kernel_rfl) | (rw [if_neg (by decide +kernel)]; exact ⟨rfl, rfl⟩))
    (fun os started H enc _ => monitorGrants.lifted os started H enc)
#print axioms monitorGrants_holds
end Go.Proofs.Ytllofihbdbdaeaa
