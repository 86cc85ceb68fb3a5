/- This file joins: Plain Lean: interpolation between nodes, and in maps. Plain Lean: the value of a map. Plain Lean: the nodes around a number, and that a map's value lies below its corner bound. Plain Lean: what monitor's functions compute. Plain Lean: curves that are valid. Plain Lean: curves. Plain Lean: tables of the torque that are valid. Plain Lean: the tables of the torque, and the torque. The arbiter's functions, as they compute. Plain Lean. The plain law of TopReaction. -/
import Derived.Test.YtjgoihfcmpjimaaGreatTopReactionH
import Derived.KernelRfl
set_option linter.unusedSimpArgs false
set_option linter.unusedVariables false
set_option linter.unusedSimpArgs false
namespace Go.Pv
open Go
theorem minI_eq (a b : Int) : minI a b = min a b := by unfold minI; split <;> omega
theorem maxI_eq (a b : Int) : maxI a b = max a b := by unfold maxI; split <;> omega
/-- Interpolation, rounded down. -/
def itp (x0 x1 y0 y1 x : Int) : Int := y0 + ((x - x0) * (y1 - y0)) / (x1 - x0)
theorem itp_bounds {x0 x1 y0 y1 x lo hi : Int} (h0 : x0 ≤ x) (h1 : x ≤ x1) (h : x0 < x1) (a0 : lo ≤ y0) (a1 : y0 ≤ hi) (b0 : lo ≤ y1) (b1 : y1 ≤ hi) : lo ≤ itp x0 x1 y0 y1 x ∧ itp x0 x1 y0 y1 x ≤ hi := by
  unfold itp
  have hd : 0 < x1 - x0 := by omega
  have e : 0 ≤ x - x0 := by omega
  have e2 : x - x0 ≤ x1 - x0 := by omega
  constructor
  · have : lo - y0 ≤ ((x - x0) * (y1 - y0)) / (x1 - x0) := by
      rw [Int.le_ediv_iff_mul_le hd]
      have m1 : (x - x0) * (lo - y0) ≤ (x - x0) * (y1 - y0) := Int.mul_le_mul_of_nonneg_left (by omega) e
      have m2 : (x1 - x0) * (lo - y0) ≤ (x - x0) * (lo - y0) := Int.mul_le_mul_of_nonpos_right e2 (by omega)
      rw [Int.mul_comm (lo - y0)]
      omega
    omega
  · have : ((x - x0) * (y1 - y0)) / (x1 - x0) ≤ hi - y0 := by
      have m1 : (x - x0) * (y1 - y0) ≤ (x - x0) * (hi - y0) := Int.mul_le_mul_of_nonneg_left (by omega) e
      have m2 : (x - x0) * (hi - y0) ≤ (x1 - x0) * (hi - y0) := Int.mul_le_mul_of_nonneg_right e2 (by omega)
      have := Int.ediv_le_ediv hd (Int.le_trans m1 m2)
      rw [Int.mul_ediv_cancel_left _ (by omega)] at this
      exact this
    omega
theorem itp_left (x0 x1 y0 y1 : Int) : itp x0 x1 y0 y1 x0 = y0 := by
  unfold itp; rw [Int.sub_self, Int.zero_mul, Int.zero_ediv, Int.add_zero]
theorem itp_right {x0 x1 y0 y1 : Int} (h : x0 < x1) : itp x0 x1 y0 y1 x1 = y1 := by
  unfold itp; rw [Int.mul_ediv_cancel_left _ (by omega)]; omega
theorem prod31 {a b : Int} (a0 : 0 ≤ a) (a1 : a ≤ 2147483648) (b0 : -2147483648 ≤ b) (b1 : b ≤ 2147483648) : -4611686018427387904 ≤ a * b ∧ a * b ≤ 4611686018427387904 := by
  constructor
  · have m1 : a * (-2147483648) ≤ a * b := Int.mul_le_mul_of_nonneg_left b0 a0
    omega
  · have m1 : a * b ≤ a * 2147483648 := Int.mul_le_mul_of_nonneg_left b1 a0
    omega
theorem between_eq {x0 x1 y0 y1 x : Int} (h0 : x0 ≤ x) (h1 : x ≤ x1) (h : x0 < x1) (hx0 : -1073741824 ≤ x0) (hx1 : x1 ≤ 1073741824) (a0 : -1073741824 ≤ y0) (a1 : y0 ≤ 1073741824) (b0 : -1073741824 ≤ y1) (b1 : y1 ≤ 1073741824) :
    surface_between x0 x1 y0 y1 x = some (itp x0 x1 y0 y1 x) := by
  have hb := itp_bounds (lo := -1073741824) (hi := 1073741824) h0 h1 h a0 a1 b0 b1
  have hp := prod31 (a := x - x0) (b := y1 - y0) (by omega) (by omega) (by omega) (by omega)
  unfold surface_between
  rw [w64_of (n := x - x0) (by omega) (by omega), w64_of (n := y1 - y0) (by omega) (by omega), w64_of (n := x1 - x0) (by omega) (by omega), w64_of (n := (x - x0) * (y1 - y0)) (by omega) (by omega),
    floor_eq _ _ (by omega) (by omega) (by omega) (by omega), Option.bind_some]
  unfold itp at hb ⊢
  rw [w64_of (by omega) (by omega)]
theorem segment_eq {l : List Int} (h : Axis l) (x : Int) : ∃ i : Nat, SegAt l (lim l x) i ∧ surface_segment l x = some ((i : Int), lim l x) := by
  have h2 := h.two
  have h3 := h.most
  have hb := lim_bounds h x
  rw [headD_get l (by omega), getLastD_get l (by omega)] at hb
  obtain ⟨k, k1, k2, k3, k4⟩ := search_spec l.length (by omega) (fun x0 => surface_segment_1 x0 l (lim l x)) (fun i => decide (l.getD i 0 > lim l x)) (fun i hi => by
    unfold surface_segment_1
    rw [getI_get l i hi, List.getD_eq_getElem?_getD, List.getElem?_eq_getElem hi]; rfl)
  have gd : ∀ i (hi : i < l.length), l.getD i 0 = l[i] := fun i hi => by rw [List.getD_eq_getElem?_getD, List.getElem?_eq_getElem hi]; rfl
  have hk0 : 0 < k := by
    rcases Nat.eq_zero_or_pos k with h0 | h0
    · have := k4 (by omega)
      rw [decide_eq_true_eq, gd k (by omega)] at this
      subst h0
      omega
    · exact h0
  have hlow := k3 hk0
  rw [decide_eq_false_iff_not, gd (k - 1) (by omega)] at hlow
  have hseg : surface_segment l x = some (((min (k - 1) (l.length - 2) : Nat) : Int), lim l x) := by
    unfold surface_segment
    have e1 : getI l 0 = some (l.headD 0) := by
      have := getI_get l 0 (by omega)
      rw [headD_get l (by omega)]; exact this
    have e2 : getI l (w64 ((l.length : Int) - 1)) = some (l.getLastD 0) := by
      rw [w64_of (by omega) (by omega), show (l.length : Int) - 1 = ((l.length - 1 : Nat) : Int) by omega, getI_get l _ (by omega), getLastD_get l (by omega)]
    have e3 : minI (maxI x (l.headD 0)) (l.getLastD 0) = lim l x := by rw [minI_eq, maxI_eq]; rfl
    rw [e1, e2, Option.bind_some, Option.bind_some, clamp_eq, Option.bind_some, e3, k2, Option.bind_some, w64_of (by omega) (by omega), w64_of (by omega) (by omega), minI_eq]
    congr 2
    omega
  rcases Nat.lt_or_ge k l.length with hk | hk
  · have hhi := k4 hk
    rw [decide_eq_true_eq, gd k hk] at hhi
    have e : min (k - 1) (l.length - 2) = k - 1 := by omega
    rw [e] at hseg
    refine ⟨k - 1, ⟨by omega, by omega, ?_, .inr ?_⟩, hseg⟩
    · simp only [Nat.sub_add_cancel (show 1 ≤ k from hk0)]; omega
    · simp only [Nat.sub_add_cancel (show 1 ≤ k from hk0)]; omega
  · have e : min (k - 1) (l.length - 2) = l.length - 2 := by omega
    rw [e] at hseg
    have hl : k - 1 = l.length - 1 := by omega
    have hlow' : ¬ l[l.length - 1] > lim l x := by simpa only [hl] using hlow
    have hs : l.length - 2 + 1 = l.length - 1 := by omega
    refine ⟨l.length - 2, ⟨by omega, ?_, ?_, .inl (by omega)⟩, hseg⟩
    · have := h.le (l.length - 1) (l.length - 2) (by omega) (by omega)
      omega
    · simp only [hs]; omega
end Go.Pv
set_option linter.unusedSimpArgs false
namespace Go.Pv
open Go
/-- The value along the first axis. -/
def along (m : SMap) (i : Nat) (v : Int) (j : Nat) : Int := itp (nd m.X i) (nd m.X (i + 1)) (zz m i j) (zz m (i + 1) j) v
/-- The value of a map in a field. -/
def atV (m : SMap) (i j : Nat) (v w : Int) : Int := itp (nd m.Y j) (nd m.Y (j + 1)) (along m i v j) (along m i v (j + 1)) w
theorem SegAt.nd {l : List Int} {v : Int} {i : Nat} (h : SegAt l v i) (ha : Axis l) : i + 1 < l.length ∧ nd l i ≤ v ∧ v ≤ nd l (i + 1) ∧ nd l i < nd l (i + 1) ∧ -1073741824 ≤ Pv.nd l i ∧ Pv.nd l (i + 1) ≤ 1073741824 := by
  obtain ⟨h0, h1, h2, _⟩ := h
  rw [nd_get (by omega : i < l.length), nd_get h0]
  exact ⟨h0, h1, h2, ha.asc i h0, (ha.el i (by omega)).1, (ha.el (i + 1) h0).2⟩
theorem along_bounds {m : SMap} (h : MapOk m) {i j : Nat} {v lo hi : Int} (hi' : SegAt m.X v i) (a0 : lo ≤ zz m i j) (a1 : zz m i j ≤ hi) (b0 : lo ≤ zz m (i + 1) j) (b1 : zz m (i + 1) j ≤ hi) :
    lo ≤ along m i v j ∧ along m i v j ≤ hi := by
  obtain ⟨k0, k1, k2, k3, _, _⟩ := hi'.nd h.x
  exact itp_bounds k1 k2 k3 a0 a1 b0 b1
theorem atV_bounds {m : SMap} (h : MapOk m) {i j : Nat} {v w lo hi : Int} (hi' : SegAt m.X v i) (hj' : SegAt m.Y w j) (hz : ∀ i j, i < m.X.length → j < m.Y.length → lo ≤ zz m i j ∧ zz m i j ≤ hi) :
    lo ≤ atV m i j v w ∧ atV m i j v w ≤ hi := by
  obtain ⟨k0, k1, k2, k3, _, _⟩ := hi'.nd h.x
  obtain ⟨l0, l1, l2, l3, _, _⟩ := hj'.nd h.y
  have a := fun j hj => along_bounds h (j := j) hi' (hz i j (by omega) hj).1 (hz i j (by omega) hj).2 (hz (i + 1) j (by omega) hj).1 (hz (i + 1) j (by omega) hj).2
  exact itp_bounds l1 l2 l3 (a j (by omega)).1 (a j (by omega)).2 (a (j + 1) (by omega)).1 (a (j + 1) (by omega)).2
theorem at1_eq {m : SMap} (h : MapOk m) {i j : Nat} {v : Int} (hi : SegAt m.X v i) (hj : j < m.Y.length) : surface_at_1 (j : Int) m (i : Int) v = some (along m i v j) := by
  obtain ⟨k0, k1, k2, k3, k4, k5⟩ := hi.nd h.x
  have lx := h.x.most
  have hz0 : i < m.Z.length := by have := h.zl; omega
  have hz1 : i + 1 < m.Z.length := by have := h.zl; omega
  have r0 := h.rl i hz0
  have r1 := h.rl (i + 1) hz1
  unfold surface_at_1
  rw [w64_of (by omega) (by omega), show (i : Int) + 1 = ((i + 1 : Nat) : Int) from rfl, getI_get m.X i (by omega), Option.bind_some, getI_get m.X (i + 1) k0, Option.bind_some, getI_get m.Z i hz0, Option.bind_some, getI_get _ j (by omega),
    Option.bind_some, getI_get m.Z (i + 1) hz1, Option.bind_some, getI_get _ j (by omega), Option.bind_some, ← nd_get (by omega : i < m.X.length), ← nd_get k0, ← zz_get hz0 (by omega), ← zz_get hz1 (by omega)]
  rw [between_eq k1 k2 k3 k4 k5 (h.el i j (by omega) hj).1 (h.el i j (by omega) hj).2 (h.el (i + 1) j k0 hj).1 (h.el (i + 1) j k0 hj).2]
  rfl
theorem at_eq {m : SMap} (h : MapOk m) (x y : Int) : ∃ i j, SegAt m.X (lim m.X x) i ∧ SegAt m.Y (lim m.Y y) j ∧ surface_at m x y = some (atV m i j (lim m.X x) (lim m.Y y)) := by
  obtain ⟨i, hi, ei⟩ := segment_eq h.x x
  obtain ⟨j, hj, ej⟩ := segment_eq h.y y
  refine ⟨i, j, hi, hj, ?_⟩
  obtain ⟨k0, k1, k2, k3, k4, k5⟩ := hi.nd h.x
  obtain ⟨l0, l1, l2, l3, l4, l5⟩ := hj.nd h.y
  have ly := h.y.most
  have a := fun j hj => along_bounds h (j := j) hi (h.el i j (by omega) hj).1 (h.el i j (by omega) hj).2 (h.el (i + 1) j (by omega) hj).1 (h.el (i + 1) j (by omega) hj).2
  unfold surface_at
  rw [ei, ej]
  simp only [Option.bind_some]
  rw [w64_of (by omega) (by omega), show (j : Int) + 1 = ((j + 1 : Nat) : Int) from rfl, getI_get m.Y j (by omega), Option.bind_some, getI_get m.Y (j + 1) l0, Option.bind_some, at1_eq h hi (by omega), Option.bind_some, at1_eq h hi l0, Option.bind_some,
    ← nd_get (by omega : j < m.Y.length), ← nd_get l0, between_eq l1 l2 l3 l4 l5 (a j (by omega)).1 (a j (by omega)).2 (a (j + 1) l0).1 (a (j + 1) l0).2]
  rfl
theorem At_eq {m : SMap} (h : mapB m = true) (x y : Int) : ∃ i j, SegAt m.X (lim m.X x) i ∧ SegAt m.Y (lim m.Y y) j ∧ surface_At m x y = some (atV m i j (lim m.X x) (lim m.Y y)) := by
  obtain ⟨i, j, hi, hj, e⟩ := at_eq (mapOk h) x y
  refine ⟨i, j, hi, hj, ?_⟩
  unfold surface_At
  rw [valid_eq, h]
  simp only [Option.bind_some, Bool.not_true, cond_false]
  rw [e]
  rfl
end Go.Pv
set_option linter.unusedSimpArgs false
namespace Go.Pv
open Go
/-- the last node at or below x, or the first one -/
def IsBelow (l : List Int) (x : Int) (a : Nat) : Prop := ∃ _ : a < l.length, (nd l a ≤ x ∧ ∀ j, a < j → j < l.length → x < nd l j) ∨ (a = 0 ∧ ∀ j, j < l.length → x < nd l j)
/-- the first node at or above x, or the last one -/
def IsAbove (l : List Int) (x : Int) (b : Nat) : Prop := ∃ _ : b < l.length, (x ≤ nd l b ∧ ∀ j, j < b → nd l j < x) ∨ (b + 1 = l.length ∧ ∀ j, j < l.length → nd l j < x)
theorem around_spec {l : List Int} (h : Axis l) (x : Int) : ∃ a b : Nat, IsBelow l x a ∧ IsAbove l x b ∧ monitor_around l x = some ((a : Int), (b : Int)) := by
  have h2 := h.two
  have hl := h.most
  -- up
  obtain ⟨u, hu, hu2⟩ := rangeN_inv l.length (by omega) (monitor_around_b1 l x) (fun k s => ∃ a : Nat, s = (a : Int) ∧ a < l.length ∧ ((a < k ∧ nd l a ≤ x ∧ ∀ j, a < j → j < k → x < nd l j) ∨ (a = 0 ∧ ∀ j, j < k → x < nd l j))) (0 : Int)
    ⟨0, rfl, by omega, .inr ⟨rfl, fun j hj => absurd hj (by omega)⟩⟩ (fun j hj s ⟨a, hs, ha, hI⟩ => by
      unfold monitor_around_b1
      rw [getI_get l j hj, Option.bind_some]
      by_cases hx : l[j] ≤ x
      · rw [decide_eq_true hx, cond_true]
        refine ⟨_, rfl, j, rfl, hj, .inl ⟨by omega, by rw [nd_get hj]; exact hx, fun i h1 h2 => absurd h2 (by omega)⟩⟩
      · rw [decide_eq_false hx, cond_false]
        refine ⟨_, rfl, a, hs, ha, ?_⟩
        have step : ∀ i, i < j + 1 → (i < j → x < nd l i) → x < nd l i := fun i hi hh => by
          rcases Nat.lt_or_ge i j with h1 | h1
          · exact hh h1
          · have : i = j := by omega
            subst this
            rw [nd_get hj]; omega
        rcases hI with ⟨h1, h2, h3⟩ | ⟨h1, h2⟩
        · exact .inl ⟨by omega, h2, fun i hi hi2 => step i hi2 (fun q => h3 i hi q)⟩
        · exact .inr ⟨h1, fun i hi => step i hi (h2 i)⟩)
  obtain ⟨a, rfl, ha, haI⟩ := hu2
  -- down
  have down : ∀ (k b : Nat), k ≤ l.length → b < l.length → ((k ≤ b ∧ x ≤ nd l b ∧ ∀ j, k ≤ j → j < b → nd l j < x) ∨ (b + 1 = l.length ∧ ∀ j, k ≤ j → j < l.length → nd l j < x)) →
      ∃ b' : Nat, IsAbove l x b' ∧ loopM (monitor_around_b2 l x) ((k : Int) - 1, (b : Int)) = some (.inl (-1, (b' : Int))) := by
    intro k
    induction k with
    | zero =>
      intro b _ hb hI
      refine ⟨b, ⟨hb, ?_⟩, loopM_out ?_⟩
      · rcases hI with ⟨_, h1, h2⟩ | ⟨h1, h2⟩
        · exact .inl ⟨h1, fun j hj => h2 j (Nat.zero_le _) hj⟩
        · exact .inr ⟨h1, fun j hj => h2 j (Nat.zero_le _) hj⟩
      · simp [monitor_around_b2]
    | succ k ih =>
      intro b hk hb hI
      have hkl : k < l.length := by omega
      have e0 : ((k + 1 : Nat) : Int) - 1 = (k : Int) := by omega
      have e : decide ((k : Int) ≥ 0) = true := decide_eq_true (by omega)
      have ew : w64 ((k : Int) - 1) = (k : Int) - 1 := w64_of (by omega) (by omega)
      rw [e0]
      by_cases hx : l[k] ≥ x
      · obtain ⟨b', h1, h3⟩ := ih k (by omega) hkl (.inl ⟨Nat.le_refl _, by rw [nd_get hkl]; exact hx, fun j h1 h2 => absurd h2 (by omega)⟩)
        refine ⟨b', h1, ?_⟩
        rw [loopM_next (s' := ((k : Int) - 1, (k : Int)))]
        · exact h3
        · simp only [monitor_around_b2, e, cond_true, getI_nat, List.getElem?_eq_getElem hkl, Option.bind_some, hx, decide_true, ew]
      · have step : ∀ j, k ≤ j → (k + 1 ≤ j → nd l j < x) → nd l j < x := fun j hj hh => by
          rcases Nat.lt_or_ge k j with h1 | h1
          · exact hh h1
          · have : j = k := by omega
            subst this
            rw [nd_get hkl]; omega
        obtain ⟨b', h1, h3⟩ := ih b (by omega) hb (by
          rcases hI with ⟨h1, h2, h3⟩ | ⟨h1, h2⟩
          · exact .inl ⟨by omega, h2, fun j h4 h5 => step j h4 (fun q => h3 j q h5)⟩
          · exact .inr ⟨h1, fun j h4 h5 => step j h4 (fun q => h2 j q h5)⟩)
        refine ⟨b', h1, ?_⟩
        rw [loopM_next (s' := ((k : Int) - 1, (b : Int)))]
        · exact h3
        · simp only [monitor_around_b2, e, cond_true, getI_nat, List.getElem?_eq_getElem hkl, Option.bind_some, hx, decide_false, cond_false, ew]
  obtain ⟨b, hb, hb2⟩ := down l.length (l.length - 1) (Nat.le_refl _) (by omega) (.inr ⟨by omega, fun j h1 h2 => absurd h2 (by omega)⟩)
  have ew : w64 ((l.length : Int) - 1) = (l.length : Int) - 1 := w64_of (by omega) (by omega)
  have e1 : ((l.length - 1 : Nat) : Int) = (l.length : Int) - 1 := by omega
  have g0 := getI_get l 0 (by omega)
  rw [show ((0 : Nat) : Int) = 0 from rfl] at g0
  refine ⟨a, b, ⟨ha, ?_⟩, hb, ?_⟩
  · rcases haI with ⟨_, h1, h2⟩ | ⟨h1, h2⟩
    · exact .inl ⟨h1, h2⟩
    · exact .inr ⟨h1, h2⟩
  · unfold monitor_around
    rw [hu]
    simp only [Option.bind_some, ew]
    rw [e1] at hb2
    rw [hb2]
    simp only [Option.bind_some, g0]
    by_cases hx : x < l[0]
    · -- the first node is above
      have : b = 0 := by
        obtain ⟨hbl, hb1⟩ := hb
        rcases hb1 with ⟨_, h1⟩ | ⟨_, h1⟩
        · rcases Nat.eq_zero_or_pos b with h0 | h0
          · exact h0
          · have := h1 0 h0
            rw [nd_get (by omega)] at this
            omega
        · have := h1 0 (by omega)
          rw [nd_get (by omega)] at this
          omega
      subst this
      rw [decide_eq_true hx]
      rfl
    · rw [decide_eq_false hx]
      rfl
/-- Interpolation along an axis lies between the values at the nodes around. -/
theorem itp_around {l : List Int} (h : Axis l) {x : Int} {a b i : Nat} (ha : IsBelow l x a) (hb : IsAbove l x b) (hi : SegAt l (lim l x) i) (f : Nat → Int) :
    itp (nd l i) (nd l (i + 1)) (f i) (f (i + 1)) (lim l x) ≤ max (f a) (f b) := by
  have h2 := h.two
  obtain ⟨k0, k1, k2, k3, _, _⟩ := hi.nd h
  obtain ⟨hal, ha⟩ := ha
  obtain ⟨hbl, hb⟩ := hb
  have hle : ∀ i j, i ≤ j → j < l.length → nd l i ≤ nd l j := fun i j h1 h2 => by rw [nd_get h2, nd_get (by omega)]; exact h.le j i h2 h1
  have hlt : ∀ i j, i < j → j < l.length → nd l i < nd l j := fun i j h1 h2 => by rw [nd_get h2, nd_get (by omega)]; exact h.lt j i h2 h1
  have hh : l.headD 0 = nd l 0 := by rw [headD_get l (by omega), nd_get (by omega)]
  have ht : l.getLastD 0 = nd l (l.length - 1) := by rw [getLastD_get l (by omega), nd_get (by omega)]
  have hlim : lim l x = min (max x (nd l 0)) (nd l (l.length - 1)) := by unfold lim; rw [hh, ht]
  have h0l := hle 0 (l.length - 1) (by omega) (by omega)
  -- if the limited number is a node c, then i = c or i + 1 = c
  have node : ∀ c, c < l.length → lim l x = nd l c → itp (nd l i) (nd l (i + 1)) (f i) (f (i + 1)) (lim l x) = f c := fun c hc e => by
    rw [e] at k1 k2 ⊢
    have c1 : i ≤ c := by
      rcases Nat.lt_or_ge c i with q | q
      · have := hlt c i q (by omega); omega
      · exact q
    have c2 : c ≤ i + 1 := by
      rcases Nat.lt_or_ge (i + 1) c with q | q
      · have := hlt (i + 1) c q hc; omega
      · exact q
    rcases (show c = i ∨ c = i + 1 by omega) with rfl | rfl
    · exact itp_left ..
    · exact itp_right k3
  rcases Int.lt_or_le x (nd l 0) with q | q
  · have e : lim l x = nd l 0 := by omega
    have : a = 0 := by
      rcases ha with ⟨h1, _⟩ | ⟨h1, _⟩
      · have := hle 0 a (by omega) hal; omega
      · exact h1
    subst this
    rw [node 0 (by omega) e]; omega
  · rcases Int.lt_or_le (nd l (l.length - 1)) x with r | r
    · have e : lim l x = nd l (l.length - 1) := by omega
      have : b = l.length - 1 := by
        rcases hb with ⟨h1, _⟩ | ⟨h1, _⟩
        · have := hle b (l.length - 1) (by omega) (by omega); omega
        · omega
      subst this
      rw [node (l.length - 1) (by omega) e]; omega
    · have e : lim l x = x := by omega
      -- a is a node below, b one above
      have ha' : nd l a ≤ x ∧ ∀ j, a < j → j < l.length → x < nd l j := by
        rcases ha with h1 | ⟨_, h1⟩
        · exact h1
        · have := h1 0 (by omega); omega
      have hb' : x ≤ nd l b ∧ ∀ j, j < b → nd l j < x := by
        rcases hb with h1 | ⟨_, h1⟩
        · exact h1
        · have := h1 (l.length - 1) (by omega); omega
      rcases Int.lt_or_le (nd l a) x with s | s
      · have c1 : i = a := by
          rcases Nat.lt_trichotomy i a with q1 | q1 | q1
          · have := hle (i + 1) a (by omega) hal
            omega
          · exact q1
          · have := ha'.2 i q1 (by omega)
            omega
        have c2 : b = a + 1 := by
          rcases Nat.lt_trichotomy b (a + 1) with q1 | q1 | q1
          · have := hle b a (by omega) hal; omega
          · exact q1
          · have := hb'.2 (a + 1) q1
            have := ha'.2 (a + 1) (by omega) (by omega)
            omega
        subst c1 c2
        exact (itp_bounds (lo := min (f i) (f (i + 1))) k1 k2 k3 (by omega) (by omega) (by omega) (by omega)).2
      · rw [node a hal (by omega)]; omega
theorem corner_ge {m : SMap} (h : mapB m = true) (x y : Int) : ∃ v c, surface_At m x y = some v ∧ monitor_corner m x y = some c ∧ v ≤ c := by
  have hm := mapOk h
  obtain ⟨i, j, hi, hj, e⟩ := At_eq h x y
  obtain ⟨a, b, ha, hb, eab⟩ := around_spec hm.x x
  obtain ⟨c, d, hc, hd, ecd⟩ := around_spec hm.y y
  have la := ha.1; have lb := hb.1; have lc := hc.1; have ld := hd.1
  have za : a < m.Z.length := by have := hm.zl; omega
  have zb : b < m.Z.length := by have := hm.zl; omega
  have ra := hm.rl a za
  have rb := hm.rl b zb
  refine ⟨_, max (max (zz m a c) (zz m a d)) (max (zz m b c) (zz m b d)), e, ?_, ?_⟩
  · unfold monitor_corner
    rw [eab, ecd]
    simp only [Option.bind_some]
    rw [getI_get m.Z a za, Option.bind_some, getI_get _ c (by omega), Option.bind_some, getI_get _ d (by omega), Option.bind_some, getI_get m.Z b zb, Option.bind_some, getI_get _ c (by omega), Option.bind_some, getI_get _ d (by omega), Option.bind_some,
      ← zz_get za (by omega), ← zz_get za (by omega), ← zz_get zb (by omega), ← zz_get zb (by omega)]
    simp only [maxI_eq]
    congr 1; omega
  · have h1 := itp_around hm.y hc hd hj (fun j => along m i (lim m.X x) j)
    have h2 := itp_around hm.x ha hb hi (fun i => zz m i c)
    have h3 := itp_around hm.x ha hb hi (fun i => zz m i d)
    have e1 : itp (nd m.X i) (nd m.X (i + 1)) (zz m i c) (zz m (i + 1) c) (lim m.X x) = along m i (lim m.X x) c := rfl
    have e2 : itp (nd m.X i) (nd m.X (i + 1)) (zz m i d) (zz m (i + 1) d) (lim m.X x) = along m i (lim m.X x) d := rfl
    rw [e1] at h2
    rw [e2] at h3
    unfold atV
    omega
end Go.Pv
set_option linter.unusedSimpArgs false
namespace Go.Pv
open Go
def reqB (r : SRequest) : Bool := ((!(((decide (r.Source < 0)) || (decide (r.Source > 15))) || (decide (r.Priority < 0)) || (decide (r.Priority > 15)))) && ((decide (r.Torque ≥ (-5000))) && (decide (r.Torque ≤ 10000)))) && ((r.Kind == 1) || (decide (r.Source ≤ 1) && ((r.Kind == 2) || (r.Kind == 3))))
theorem req_mon (r : SRequest) : arbiter_Valid r = some (reqB r) := by
  unfold arbiter_Valid arbiter_torque reqB
  generalize decide (r.Source < 0) = a, decide (r.Source > 15) = b, decide (r.Priority < 0) = c, decide (r.Priority > 15) = d, decide (r.Torque ≥ (-5000)) = e, decide (r.Torque ≤ 10000) = f, (r.Kind == 1) = h, decide (r.Source ≤ 1) = i, (r.Kind == 2) = j, (r.Kind == 3) = k
  generalize (((a || b) || c) || d) = A, (j || k) = B
  cases A <;> cases e <;> cases f <;> cases h <;> cases i <;> cases B <;> rfl
theorem badreq_eq (l : List SRequest) (hl : l.length ≤ 40) : slices_ContainsFunc_sRequest l monitor_Permitted_1 = some (!l.all reqB) := by
  have k := index_any l (by omega) monitor_Permitted_1 (fun r => !reqB r) (fun y _ => by simp [monitor_Permitted_1, req_mon])
  have e2 : (l.any fun z => !reqB z) = !l.all reqB := by rw [List.any_eq_not_all_not]; simp
  rw [e2] at k
  exact k
def permG (s : Int × Int) (y : SRequest) : Int × Int :=
  bif !((y.Kind == 2) || (y.Kind == 3)) then s else (bif y.Source == 1 then maxI s.1 (minI y.Torque 1500) else s.1, maxI s.2 y.Priority)
def permH (p : Int) (s : Int) (y : SRequest) : Int := bif (y.Kind == 1) && decide (y.Priority > p) then minI s y.Torque else s
theorem perm1 (l : List SRequest) (hl : l.length ≤ 40) (s : Int × Int) : rangeM l monitor_Permitted_b1 s = some (.inl (l.foldl permG s)) := by
  rw [rangeM_steps _ (by omega)]
  refine stepsL_fold l 0 s fun i s y _ => ?_
  unfold monitor_Permitted_b1 monitor_raises permG
  simp only [Option.bind_some]
  cases ((y.Kind == 2) || (y.Kind == 3)) <;> cases (y.Source == 1) <;> rfl
theorem perm2 (l : List SRequest) (hl : l.length ≤ 40) (q : Int × Int) (s : Int) : rangeM l (monitor_Permitted_b2 q) s = some (.inl (l.foldl (permH q.2) s)) := by
  rw [rangeM_steps _ (by omega)]
  refine stepsL_fold l 0 s fun i s y _ => ?_
  unfold monitor_Permitted_b2 permH
  cases ((y.Kind == 1) && decide (y.Priority > q.2)) <;> rfl
def guardV (g : SGuard) : Prop := (0 ≤ g.Over ∧ g.Over ≤ 5) ∧ (0 ≤ g.Calm ∧ g.Calm ≤ 1000) ∧ (g.Over = 0 ∨ g.Calm = 0) ∧ (g.Off = true ∨ g.Over < 5)
instance (g : SGuard) : Decidable (guardV g) := by unfold guardV; infer_instance
def guardB (g : SGuard) : Bool := (((decide (g.Over ≥ 0) && decide (g.Over ≤ 5)) && (decide (g.Calm ≥ 0) && decide (g.Calm ≤ 1000))) && ((g.Over == 0) || (g.Calm == 0))) && (g.Off || decide (g.Over < 5))
theorem guardB_eq (g : SGuard) : guardB g = decide (guardV g) := by
  rw [Bool.eq_iff_iff]; simp [guardB, guardV, and_assoc]
theorem guard_mon (g : SGuard) : monitor_Valid g = some (decide (guardV g)) := by
  rw [← guardB_eq]
  unfold monitor_Valid monitor_within guardB
  generalize decide (g.Over ≥ 0) = a, decide (g.Over ≤ 5) = b, decide (g.Calm ≥ 0) = c, decide (g.Calm ≤ 1000) = d, (g.Over == 0) = e, (g.Calm == 0) = f, g.Off = h, decide (g.Over < 5) = i
  cases a <;> cases b <;> cases c <;> cases d <;> cases e <;> cases f <;> cases h <;> cases i <;> rfl
def torqueV (n : Int) : Prop := -20000 ≤ n ∧ n ≤ 20000
instance (n : Int) : Decidable (torqueV n) := by unfold torqueV; infer_instance
theorem torque_mon (n : Int) : monitor_Step_1 n = some (decide (torqueV n)) := by
  simp only [monitor_Step_1, monitor_within, torqueV, Option.bind_some, Option.some.injEq]; rw [Bool.eq_iff_iff]; simp only [Bool.and_eq_true, decide_eq_true_eq, ge_iff_le]; exact decide_eq_true_iff.symm
def injG (n : Int) (x : SFire) : Int := bif (x.Inject != 0) then w64 (n + 1) else n
theorem act1 (l : List SFire) (hl : l.length ≤ 20) (s : Int) : rangeM l monitor_Actual_b1 s = some (.inl (l.foldl injG s)) := by
  rw [rangeM_steps _ (by omega)]
  refine stepsL_fold l 0 s fun i s y _ => ?_
  unfold monitor_Actual_b1 injG
  cases (y.Inject != 0) <;> rfl
def isInj (x : SFire) : Bool := x.Inject != 0
theorem inj_count : ∀ (l : List SFire) (s : Nat), s + l.length ≤ 100 → l.foldl injG (s : Int) = ((s + l.countP isInj : Nat) : Int)
  | [], s, _ => by simp
  | y :: l, s, h => by
    simp only [List.length_cons] at h
    by_cases hy : isInj y = true
    · have e : injG (s : Int) y = ((s + 1 : Nat) : Int) := by
        unfold injG; unfold isInj at hy; rw [hy]; simp only [cond_true]; rw [w64_of (by omega) (by omega)]; simp
      rw [List.foldl_cons, e, inj_count l (s + 1) (by omega), List.countP_cons_of_pos hy]
      congr 1; omega
    · have hy' : isInj y = false := by simpa using hy
      have e : injG (s : Int) y = (s : Int) := by unfold injG; unfold isInj at hy'; rw [hy']; rfl
      rw [List.foldl_cons, e, inj_count l s (by omega), List.countP_cons_of_neg hy]
def actualT (V n len : Int) : Int := (V * n + len - 1).tdiv len
theorem actual_eq (t : STables) (x1 x2 : Int) (hm : mapB t.Torque = true) (ho : (bif !(decide (x1 ≥ 0) && decide (x1 ≤ 12000)) then true else !(decide (x2 ≥ 0) && decide (x2 ≤ 1048576))) = false) (c : Int) (c1 : monitor_corner t.Torque x1 x2 = some c) :
    ∀ l : List SFire, 1 ≤ l.length → l.length ≤ 8 → monitor_Actual t x1 x2 l = some (actualT (minI (maxI c 0) 10000) (l.countP isInj : Nat) (l.length : Nat), 0) := by
  intro l hl hl2
  have h1 : 0 ≤ minI (maxI c 0) 10000 := by unfold maxI minI; repeat' split <;> omega
  have h2 : minI (maxI c 0) 10000 ≤ 10000 := by unfold minI; split <;> omega
  unfold monitor_Actual
  rw [valid_eq, hm]
  have h8 : decide ((l.length : Int) > 8) = false := by simp; omega
  have h0 : ((l.length : Int) == 0) = false := by
    have : ¬ (l.length : Int) = 0 := by omega
    simpa using this
  have hn := inj_count l 0 (by omega)
  simp only [Option.bind_some, Bool.not_true, cond_false, h8]
  unfold monitor_within
  simp only [Option.bind_some, bif_some]
  rw [ho]
  simp only [cond_false, h0]
  rw [act1 l (by omega), show (0 : Int) = ((0 : Nat) : Int) from rfl, hn]
  simp only [Option.bind_some, c1]
  rw [show ((0 : Nat) : Int) = 0 from rfl, Nat.zero_add]
  have hcl : l.countP isInj ≤ l.length := List.countP_le_length
  generalize minI (maxI c 0) 10000 = V at h1 h2 ⊢
  generalize l.countP isInj = n at hcl ⊢
  have hV1 : 0 ≤ V * (n : Int) := Int.mul_nonneg h1 (by omega)
  have hV2 : V * (n : Int) ≤ 10000 * 8 := by
    have := Int.mul_le_mul h2 (show (n : Int) ≤ 8 by omega) (by omega) (by omega)
    exact this
  have hne : ¬ (l.length : Int) = 0 := by omega
  unfold actualT
  generalize V * (n : Int) = p at hV1 hV2 ⊢
  rw [w64_of (n := p) (by omega) (by omega), w64_of (n := p + (l.length : Int)) (by omega) (by omega), w64_of (n := p + (l.length : Int) - 1) (by omega) (by omega)]
  simp only [quoM, if_neg hne, Option.bind_some]
  have hq1 : 0 ≤ (p + (l.length : Int) - 1).tdiv (l.length : Int) := Int.tdiv_nonneg (by omega) (by omega)
  have hq2 : (p + (l.length : Int) - 1).tdiv (l.length : Int) ≤ p + (l.length : Int) - 1 := Int.tdiv_le_self _ (by omega)
  have := w64_of (n := (p + (l.length : Int) - 1).tdiv (l.length : Int)) (by omega) (by omega)
  unfold w64 at this
  rw [this]
theorem ceil_ge {V n len e o : Int} (o0 : 0 ≤ o) (hoV : o ≤ V) (e0 : 0 ≤ e) (e1 : e ≤ 1000) (n0 : 0 ≤ n) (hlen : 0 < len) : o * e * n / (1000 * len) ≤ (V * n + len - 1).tdiv len := by
  have hon : 0 ≤ o * n := Int.mul_nonneg o0 n0
  have hVn : o * n ≤ V * n := Int.mul_le_mul_of_nonneg_right hoV n0
  have h1 : o * e * n ≤ 1000 * (V * n) := by
    have : o * e * n = e * (o * n) := by rw [Int.mul_comm o e, Int.mul_assoc]
    rw [this]
    have a : e * (o * n) ≤ 1000 * (o * n) := Int.mul_le_mul_of_nonneg_right e1 hon
    have b : 1000 * (o * n) ≤ 1000 * (V * n) := Int.mul_le_mul_of_nonneg_left hVn (by omega)
    omega
  have h2 : o * e * n / (1000 * len) ≤ 1000 * (V * n) / (1000 * len) := Int.ediv_le_ediv (by omega) h1
  rw [Int.mul_ediv_mul_of_pos _ _ (by omega)] at h2
  rw [Int.tdiv_eq_ediv_of_nonneg (by omega)]
  have h3 : V * n / len ≤ (V * n + len - 1) / len := Int.ediv_le_ediv hlen (by omega)
  omega
end Go.Pv
set_option linter.unusedSimpArgs false
namespace Go.Pv
open Go
theorem contains_int (l : List Int) (hn : l.length ≤ 9223372036854775807) (f : Int → Option Bool) (p : Int → Bool) (h : ∀ y ∈ l, f y = some (p y)) : slices_ContainsFunc_sint l f = some (l.any p) :=
  index_any l hn f p h
theorem far_el (n : Int) : curve_far n = some (!elB n) := by
  unfold curve_far elB
  rw [Option.some.injEq, Bool.eq_iff_iff]
  simp only [Bool.or_eq_true, Bool.not_eq_true', Bool.and_eq_false_iff, decide_eq_true_eq, decide_eq_false_iff_not]
  omega
theorem cAxis_eq (l : List Int) : curve_axis l = some (axB l) := by
  unfold curve_axis
  cases h : (decide ((l.length : Int) < 2) || decide ((l.length : Int) > 32))
  · have hl : 2 ≤ l.length ∧ l.length ≤ 32 := by simp at h; omega
    rw [cond_false, contains_int l (by omega) curve_far _ (fun y _ => far_el y)]
    simp only [Option.bind_some]
    cases hf : (l.any fun n => !elB n)
    · have hall : ∀ i (hi : i < l.length), -1073741824 ≤ l[i] ∧ l[i] ≤ 1073741824 := fun i hi => by
        rw [List.any_eq_false] at hf
        have := hf _ (List.getElem_mem hi)
        simp [elB] at this
        omega
      have e : w64 ((l.length : Int) - 1) = ((l.length - 1 : Nat) : Int) := by rw [w64_of (by omega) (by omega)]; omega
      have k := stepsN_all (f := curve_axis_b1 l) (p := fun j => decide (nd l j < nd l (j + 1))) (r := false) (l.length - 1) 0 (fun j _ hj => by
        unfold curve_axis_b1
        rw [w64_of (by omega) (by omega), show (j : Int) + 1 = ((j + 1 : Nat) : Int) from rfl, getI_get l j (by omega), Option.bind_some, getI_get l (j + 1) (by omega), Option.bind_some, nd_get (by omega), nd_get (by omega)]
        by_cases q : l[j] < l[j + 1]
        · rw [decide_eq_true q, decide_eq_false (by omega)]; rfl
        · rw [decide_eq_false q, decide_eq_true (by omega)]; rfl)
      rw [show ((0 : Nat) : Int) = 0 from rfl] at k
      rw [cond_false, e, rangeN_steps _ (by omega), k]
      have : ((List.range' 0 (l.length - 1)).all fun j => decide (nd l j < nd l (j + 1))) = axB l := by
        apply bool_of_iff
        rw [axB_iff, List.all_eq_true]
        constructor
        · intro q
          refine ⟨hl.1, hl.2, hall, fun i hi => ?_⟩
          have := q i (by rw [List.mem_range']; exact ⟨i, by omega, by omega⟩)
          rw [decide_eq_true_eq, nd_get (by omega), nd_get hi] at this
          exact this
        · intro q i hi
          rw [List.mem_range'] at hi
          obtain ⟨j, hj, rfl⟩ := hi
          rw [show 0 + 1 * j = j by omega, decide_eq_true_eq, nd_get (by omega), nd_get (by omega)]
          exact q.asc j (by omega)
      rw [this]
      cases axB l <;> rfl
    · have : axB l = false := by
        cases q : axB l
        · rfl
        · have := (axB_iff.1 q).el
          rw [List.any_eq_true] at hf
          obtain ⟨z, hz, hz2⟩ := hf
          obtain ⟨i, hi, rfl⟩ := List.mem_iff_getElem.1 hz
          have := this i hi
          simp [elB] at hz2
          omega
      rw [this]
      rfl
  · unfold axB
    rw [h]
    rfl
def curB (c : SCurve) : Bool := ((c.X.length : Int) == (c.Y.length : Int)) && axB c.X && !(c.Y.any fun n => !elB n)
theorem curve_valid_eq (c : SCurve) : curve_Valid c = some (curB c) := by
  unfold curve_Valid curB
  cases h : ((c.X.length : Int) == (c.Y.length : Int))
  · rfl
  · rw [cond_true, cAxis_eq]
    simp only [Option.bind_some, Bool.true_and]
    cases h2 : axB c.X
    · rfl
    · have := axB_len h2
      have hl : c.Y.length = c.X.length := by simp at h; omega
      rw [cond_true, contains_int c.Y (by omega) curve_far _ (fun y _ => far_el y)]
      rfl
structure CurOk (c : SCurve) : Prop where
  x : Axis c.X
  yl : c.Y.length = c.X.length
  el : ∀ i, i < c.X.length → -1073741824 ≤ nd c.Y i ∧ nd c.Y i ≤ 1073741824
theorem curOk {c : SCurve} (h : curB c = true) : CurOk c := by
  unfold curB at h
  simp only [Bool.and_eq_true, Bool.not_eq_true', List.any_eq_false] at h
  obtain ⟨⟨h1, h2⟩, h3⟩ := h
  have hl : c.Y.length = c.X.length := by simp at h1; omega
  refine ⟨axis_of h2, hl, fun i hi => ?_⟩
  rw [nd_get (by omega)]
  have := h3 _ (List.getElem_mem (by omega : i < c.Y.length))
  simp [elB] at this
  omega
end Go.Pv
set_option linter.unusedSimpArgs false
namespace Go.Pv
open Go
/-- The value of a curve in a segment. -/
def cuV (c : SCurve) (i : Nat) (v : Int) : Int := itp (nd c.X i) (nd c.X (i + 1)) (nd c.Y i) (nd c.Y (i + 1)) v
theorem seg_exists {l : List Int} (h : Axis l) (x : Int) : ∃ i, SegAt l (lim l x) i := by
  obtain ⟨i, hi, _⟩ := segment_eq h x
  exact ⟨i, hi⟩
theorem lim_nd {l : List Int} (h : Axis l) (x : Int) : lim l x = min (max x (nd l 0)) (nd l (l.length - 1)) := by
  have h2 := h.two
  unfold lim
  rw [headD_get l (by omega), getLastD_get l (by omega), nd_get (by omega), nd_get (by omega)]
theorem Axis.nlt {l : List Int} (h : Axis l) {i j : Nat} (h1 : i < j) (h2 : j < l.length) : nd l i < nd l j := by rw [nd_get h2, nd_get (by omega)]; exact h.lt j i h2 h1
theorem Axis.nle {l : List Int} (h : Axis l) {i j : Nat} (h1 : i ≤ j) (h2 : j < l.length) : nd l i ≤ nd l j := by rw [nd_get h2, nd_get (by omega)]; exact h.le j i h2 h1
/-- In an axis, at a node: the value there. -/
theorem itp_node {l : List Int} (h : Axis l) {v : Int} {i : Nat} (hi : SegAt l v i) (f : Nat → Int) {c : Nat} (hc : c < l.length) (e : v = nd l c) : itp (nd l i) (nd l (i + 1)) (f i) (f (i + 1)) v = f c := by
  obtain ⟨k0, k1, k2, k3, _, _⟩ := hi.nd h
  subst e
  have c1 : i ≤ c := by
    rcases Nat.lt_or_ge c i with q | q
    · have := h.nlt q (by omega); omega
    · exact q
  have c2 : c ≤ i + 1 := by
    rcases Nat.lt_or_ge (i + 1) c with q | q
    · have := h.nlt q hc; omega
    · exact q
  rcases (show c = i ∨ c = i + 1 by omega) with rfl | rfl
  · exact itp_left ..
  · exact itp_right k3
theorem value_eq {c : SCurve} (h : CurOk c) (x : Int) : ∃ i, SegAt c.X (lim c.X x) i ∧ curve_value c x = some (cuV c i (lim c.X x)) := by
  obtain ⟨i, hi⟩ := seg_exists h.x x
  refine ⟨i, hi, ?_⟩
  have h2 := h.x.two
  have h3 := h.x.most
  have hyl := h.yl
  have hl := lim_nd h.x x
  have h0l := h.x.nlt (i := 0) (j := c.X.length - 1) (by omega) (by omega)
  have gx0 : getI c.X 0 = some (nd c.X 0) := by have := getI_get c.X 0 (by omega); rw [nd_get (by omega)]; exact this
  have gy0 : getI c.Y 0 = some (nd c.Y 0) := by have := getI_get c.Y 0 (by omega); rw [nd_get (by omega)]; exact this
  have ew : w64 ((c.X.length : Int) - 1) = ((c.X.length - 1 : Nat) : Int) := by rw [w64_of (by omega) (by omega)]; omega
  have gxl : getI c.X ((c.X.length - 1 : Nat) : Int) = some (nd c.X (c.X.length - 1)) := by rw [getI_get _ _ (by omega), nd_get (by omega)]
  have gyl : getI c.Y ((c.X.length - 1 : Nat) : Int) = some (nd c.Y (c.X.length - 1)) := by rw [getI_get _ _ (by omega), nd_get (by omega)]
  unfold curve_value
  rw [gx0, Option.bind_some]
  by_cases q0 : x ≤ nd c.X 0
  · have e := itp_node h.x hi (fun j => nd c.Y j) (c := 0) (by omega) (by omega)
    rw [decide_eq_true q0, cond_true, gy0]
    unfold cuV
    rw [e]; rfl
  · rw [decide_eq_false q0, cond_false, ew, gxl, Option.bind_some]
    by_cases q1 : x ≥ nd c.X (c.X.length - 1)
    · have e := itp_node h.x hi (fun j => nd c.Y j) (c := c.X.length - 1) (by omega) (by omega)
      rw [decide_eq_true q1, cond_true, gyl]
      unfold cuV
      rw [e]; rfl
    · have elim : lim c.X x = x := by omega
      rw [elim] at hi ⊢
      obtain ⟨k0, k1, k2, k3, k4, k5⟩ := hi.nd h.x
      obtain ⟨k, r1, r2, r3, r4⟩ := search_spec c.X.length (by omega) (fun x0 => curve_segment_1 x0 c x) (fun i => decide (nd c.X i > x)) (fun j hj => by
        unfold curve_segment_1
        rw [getI_get c.X j hj, nd_get hj]; rfl)
      have hk : k = i + 1 := by
        have hkl : k < c.X.length := by
          rcases Nat.lt_or_ge k c.X.length with q | q
          · exact q
          · have := r3 (by omega)
            rw [decide_eq_false_iff_not, show k - 1 = c.X.length - 1 by omega] at this
            omega
        have a1 := r4 hkl
        rw [decide_eq_true_eq] at a1
        have hk0 : 0 < k := by
          rcases Nat.eq_zero_or_pos k with q | q
          · subst q; omega
          · exact q
        have a2 := r3 hk0
        rw [decide_eq_false_iff_not] at a2
        have b1 : i < k := by
          rcases Nat.lt_or_ge i k with q | q
          · exact q
          · have := h.x.nle q (by omega); omega
        have b2 : k - 1 ≤ i := by
          rcases Nat.lt_or_ge i (k - 1) with q | q
          · have := h.x.nle (i := i + 1) (j := k - 1) (by omega) (by omega)
            have hseg := hi.2
            obtain ⟨hh, s1, s2, s3⟩ := hi
            rcases s3 with s3 | s3
            · omega
            · rw [← nd_get hh] at s3; omega
          · exact q
        omega
      have es : curve_segment c x = some (i : Int) := by
        unfold curve_segment
        rw [r2, Option.bind_some, w64_of (by omega) (by omega), hk]
        congr 1; omega
      have hb := itp_bounds (lo := -1073741824) (hi := 1073741824) k1 k2 k3 (h.el i (by omega)).1 (h.el i (by omega)).2 (h.el (i + 1) k0).1 (h.el (i + 1) k0).2
      have y0 := h.el i (by omega)
      have y1 := h.el (i + 1) k0
      have hp := prod31 (a := x - nd c.X i) (b := nd c.Y (i + 1) - nd c.Y i) (by omega) (by omega) (by omega) (by omega)
      rw [decide_eq_false q1, cond_false, es, Option.bind_some, w64_of (n := (i : Int) + 1) (by omega) (by omega), show (i : Int) + 1 = ((i + 1 : Nat) : Int) from rfl, getI_get c.Y i (by omega), Option.bind_some, getI_get c.X i (by omega), Option.bind_some,
        getI_get c.Y (i + 1) (by omega), Option.bind_some, getI_get c.X (i + 1) k0, Option.bind_some, ← nd_get, ← nd_get, ← nd_get, ← nd_get]
      rw [w64_of (n := x - nd c.X i) (by omega) (by omega), w64_of (n := nd c.Y (i + 1) - nd c.Y i) (by omega) (by omega), w64_of (n := nd c.X (i + 1) - nd c.X i) (by omega) (by omega), w64_of (n := (x - nd c.X i) * (nd c.Y (i + 1) - nd c.Y i)) (by omega) (by omega),
        floor_eq _ _ (by omega) (by omega) (by omega) (by omega), Option.bind_some]
      unfold cuV
      unfold itp at hb ⊢
      rw [w64_of (by omega) (by omega)]
theorem cuV_bounds {c : SCurve} (h : CurOk c) {v : Int} {i : Nat} {lo hi : Int} (hs : SegAt c.X v i) (hy : ∀ j, j < c.X.length → lo ≤ nd c.Y j ∧ nd c.Y j ≤ hi) : lo ≤ cuV c i v ∧ cuV c i v ≤ hi := by
  obtain ⟨k0, k1, k2, k3, k4, k5⟩ := hs.nd h.x
  exact itp_bounds k1 k2 k3 (hy i (by omega)).1 (hy i (by omega)).2 (hy (i + 1) k0).1 (hy (i + 1) k0).2
theorem curveAt_eq {c : SCurve} (h : curB c = true) (x : Int) : ∃ i, SegAt c.X (lim c.X x) i ∧ curve_At c x = some (cuV c i (lim c.X x)) := by
  obtain ⟨i, hi, e⟩ := value_eq (curOk h) x
  refine ⟨i, hi, ?_⟩
  unfold curve_At
  rw [curve_valid_eq, h]
  simp only [Option.bind_some, Bool.not_true, cond_false]
  rw [e]
  rfl
end Go.Pv
set_option linter.unusedSimpArgs false
namespace Go.Pv
open Go
/-- A loop down that leaves at the first number that is bad. -/
theorem down_all {mb : Int → Option (Int ⊕ (Int ⊕ Bool))} (bad : Nat → Bool) : ∀ (k : Nat), (∀ i : Nat, i < k → mb ((i + 1 : Nat) : Int) = some (bif bad i then .inr (.inr false) else .inl (i : Int))) → (∀ i : Int, i ≤ 0 → mb i = some (.inr (.inl i))) →
    ∃ t : Int ⊕ Bool, loopM mb (k : Int) = some t ∧ (match t with | .inl _ => ∀ i, i < k → bad i = false | .inr r => r = false ∧ ∃ i, i < k ∧ bad i = true)
  | 0, _, h0 => ⟨.inl 0, loopM_out (h0 0 (Int.le_refl _)), fun i hi => absurd hi (by omega)⟩
  | k + 1, h, h0 => by
    have h1 := h k (by omega)
    cases hb : bad k
    · rw [hb] at h1
      obtain ⟨t, a, b⟩ := down_all bad k (fun i hi => h i (by omega)) h0
      refine ⟨t, by rw [loopM_next h1]; exact a, ?_⟩
      cases t with
      | inl i =>
        exact fun i hi => by
          rcases Nat.lt_or_ge i k with q | q
          · exact b i q
          · have : i = k := by omega
            subst this; exact hb
      | inr r => exact ⟨b.1, b.2.imp fun i hi => ⟨by omega, hi.2⟩⟩
    · rw [hb] at h1
      exact ⟨.inr false, loopM_out h1, rfl, k, by omega, hb⟩
def ascB (l : List Int) : Bool := (List.range' 0 (l.length - 1)).all fun j => decide (nd l j ≤ nd l (j + 1))
def descB (l : List Int) : Bool := (List.range' 0 (l.length - 1)).all fun j => decide (nd l (j + 1) ≤ nd l j)
theorem range_all {n : Nat} {p : Nat → Bool} : (List.range' 0 n).all p = true ↔ ∀ i, i < n → p i = true := by
  rw [List.all_eq_true]
  constructor
  · exact fun h i hi => h i (by rw [List.mem_range']; exact ⟨i, hi, by omega⟩)
  · intro h i hi
    rw [List.mem_range'] at hi
    obtain ⟨j, hj, rfl⟩ := hi
    rw [show 0 + 1 * j = j by omega]
    exact h j hj
theorem pred_len {l : List Int} (h : l.length ≤ 9223372036854775807) (h0 : 0 < l.length) : w64 ((l.length : Int) - 1) = ((l.length - 1 : Nat) : Int) := by rw [w64_of (by omega) (by omega)]; omega
theorem isSorted_eq (l : List Int) (h : l.length ≤ 9223372036854775807) : slices_IsSorted_sint l = some (ascB l) := by
  have h0 : ∀ i : Int, i ≤ 0 → slices_IsSorted_sint_b1 l i = some (.inr (.inl i)) := fun i hi => by
    unfold slices_IsSorted_sint_b1
    rw [decide_eq_false (by omega)]; rfl
  unfold slices_IsSorted_sint
  rcases Nat.eq_zero_or_pos l.length with hz | hz
  · have e : w64 ((l.length : Int) - 1) = -1 := by rw [hz]; decide
    rw [e, loopM_out (h0 (-1) (by omega))]
    unfold ascB
    rw [hz]; rfl
  · rw [pred_len h hz]
    obtain ⟨t, a, b⟩ := down_all (mb := slices_IsSorted_sint_b1 l) (fun i => decide (nd l (i + 1) < nd l i)) (l.length - 1) (fun i hi => by
      unfold slices_IsSorted_sint_b1
      rw [decide_eq_true (by omega), cond_true, getI_get l (i + 1) (by omega), Option.bind_some, w64_of (by omega) (by omega), show ((i + 1 : Nat) : Int) - 1 = (i : Int) by omega, getI_get l i (by omega), Option.bind_some, nd_get (by omega), nd_get (by omega)]
      have e : cmp_Less_int l[i + 1] l[i] = some (decide (l[i + 1] < l[i])) := by
        unfold cmp_Less_int cmp_isNaN_int
        simp
      rw [e, Option.bind_some]
      cases decide (l[i + 1] < l[i]) <;> rfl) h0
    rw [a]
    cases t with
    | inl i =>
      have : ascB l = true := range_all.2 fun i hi => by
        have := b i hi
        rw [decide_eq_false_iff_not] at this
        rw [decide_eq_true_eq]; omega
      rw [this]; rfl
    | inr r =>
      obtain ⟨rfl, i, hi, q⟩ := b
      have : ascB l = false := by
        cases z : ascB l
        · rfl
        · have := range_all.1 z i hi
          rw [decide_eq_true_eq] at this q
          omega
      rw [this]; rfl
theorem isDesc_eq (l : List Int) (h : l.length ≤ 9223372036854775807) (hb : ∀ i, i < l.length → -1073741824 ≤ nd l i ∧ nd l i ≤ 1073741824) : slices_IsSortedFunc_sint l torque_Valid_1 = some (descB l) := by
  have h0 : ∀ i : Int, i ≤ 0 → slices_IsSortedFunc_sint_b1 l torque_Valid_1 i = some (.inr (.inl i)) := fun i hi => by
    unfold slices_IsSortedFunc_sint_b1
    rw [decide_eq_false (by omega)]; rfl
  unfold slices_IsSortedFunc_sint
  rcases Nat.eq_zero_or_pos l.length with hz | hz
  · have e : w64 ((l.length : Int) - 1) = -1 := by rw [hz]; decide
    rw [e, loopM_out (h0 (-1) (by omega))]
    unfold descB
    rw [hz]; rfl
  · rw [pred_len h hz]
    obtain ⟨t, a, b⟩ := down_all (mb := slices_IsSortedFunc_sint_b1 l torque_Valid_1) (fun i => decide (nd l i < nd l (i + 1))) (l.length - 1) (fun i hi => by
      unfold slices_IsSortedFunc_sint_b1
      rw [decide_eq_true (by omega), cond_true, getI_get l (i + 1) (by omega), Option.bind_some, w64_of (by omega) (by omega), show ((i + 1 : Nat) : Int) - 1 = (i : Int) by omega, getI_get l i (by omega), Option.bind_some, ← nd_get (by omega), ← nd_get (by omega)]
      have b1 := hb i (by omega)
      have b2 := hb (i + 1) (by omega)
      have e : torque_Valid_1 (nd l (i + 1)) (nd l i) = some (nd l i - nd l (i + 1)) := by
        unfold torque_Valid_1
        rw [w64_of (by omega) (by omega)]
      rw [e, Option.bind_some]
      by_cases q : nd l i < nd l (i + 1)
      · rw [decide_eq_true q, decide_eq_true (by omega)]; rfl
      · rw [decide_eq_false q, decide_eq_false (by omega)]; rfl) h0
    rw [a]
    cases t with
    | inl i =>
      have : descB l = true := range_all.2 fun i hi => by
        have := b i hi
        rw [decide_eq_false_iff_not] at this
        rw [decide_eq_true_eq]; omega
      rw [this]; rfl
    | inr r =>
      obtain ⟨rfl, i, hi, q⟩ := b
      have : descB l = false := by
        cases z : descB l
        · rfl
        · have := range_all.1 z i hi
          rw [decide_eq_true_eq] at this q
          omega
      rw [this]; rfl
def inR (lo hi x : Int) : Bool := decide (x ≥ lo) && decide (x ≤ hi)
theorem outside_eq (l : List Int) (h : l.length ≤ 9223372036854775807) (lo hi : Int) : torque_outside l lo hi = some (!l.all (inR lo hi)) := by
  unfold torque_outside
  rw [contains_int l h (fun x0 => torque_outside_1 x0 lo hi) (fun x => !inR lo hi x) (fun y _ => rfl)]
  have : (l.any fun x => !inR lo hi x) = !l.all (inR lo hi) := by rw [List.any_eq_not_all_not]; simp
  rw [this]; rfl
def torB (t : STables) : Bool := mapB t.Torque && curB t.Efficiency && t.Efficiency.Y.all (inR 0 1000) && descB t.Efficiency.Y && t.Torque.Z.all fun r => r.all (inR 0 10000) && ascB r
theorem torque_valid_eq (t : STables) : torque_Valid t = some (torB t) := by
  unfold torque_Valid torB
  rw [valid_eq]
  cases h1 : mapB t.Torque
  · rfl
  · have hm := mapOk h1
    simp only [Option.bind_some, Bool.not_true, cond_false, Bool.true_and, curve_valid_eq]
    cases h2 : curB t.Efficiency
    · rfl
    · have hc := curOk h2
      have l1 := hc.x.most
      have l2 := hc.yl
      simp only [Option.bind_some, Bool.not_true, cond_false, Bool.true_and]
      rw [outside_eq _ (by omega)]
      cases h3 : t.Efficiency.Y.all (inR 0 1000)
      · rfl
      · simp only [Option.bind_some, Bool.not_true, cond_false, Bool.true_and]
        rw [isDesc_eq _ (by omega) (fun i hi => hc.el i (by omega))]
        cases h4 : descB t.Efficiency.Y
        · rfl
        · simp only [Option.bind_some, Bool.not_true, cond_false, Bool.true_and]
          have k : slices_ContainsFunc_ssint t.Torque.Z torque_Valid_2 = some (t.Torque.Z.any fun r => !(r.all (inR 0 10000) && ascB r)) :=
            index_any t.Torque.Z (by have := hm.zl; have := hm.x.most; omega) torque_Valid_2 _ (fun r hr => by
              obtain ⟨i, hi, rfl⟩ := List.mem_iff_getElem.1 hr
              have lr : t.Torque.Z[i].length ≤ 32 := by rw [hm.rl i hi]; exact hm.y.most
              unfold torque_Valid_2
              rw [outside_eq _ (by omega), Option.bind_some, isSorted_eq _ (by omega)]
              cases t.Torque.Z[i].all (inR 0 10000) <;> cases ascB t.Torque.Z[i] <;> rfl)
          rw [k, Option.bind_some, List.any_eq_not_all_not]
          simp
end Go.Pv
set_option linter.unusedSimpArgs false
namespace Go.Pv
open Go
structure TorOk (t : STables) : Prop where
  m : MapOk t.Torque
  c : CurOk t.Efficiency
  e : ∀ i, i < t.Efficiency.X.length → 0 ≤ nd t.Efficiency.Y i ∧ nd t.Efficiency.Y i ≤ 1000
  ed : ∀ i, i + 1 < t.Efficiency.X.length → nd t.Efficiency.Y (i + 1) ≤ nd t.Efficiency.Y i
  z : ∀ i j, i < t.Torque.X.length → j < t.Torque.Y.length → 0 ≤ zz t.Torque i j ∧ zz t.Torque i j ≤ 10000
  za : ∀ i j, i < t.Torque.X.length → j + 1 < t.Torque.Y.length → zz t.Torque i j ≤ zz t.Torque i (j + 1)
theorem zz_row {m : SMap} {i j : Nat} (h : i < m.Z.length) : zz m i j = nd m.Z[i] j := by
  have e : m.Z.getD i [] = m.Z[i] := by rw [List.getD_eq_getElem?_getD, List.getElem?_eq_getElem h]; rfl
  unfold zz nd
  rw [e]
theorem torOk {t : STables} (h : torB t = true) : TorOk t := by
  unfold torB at h
  simp only [Bool.and_eq_true] at h
  obtain ⟨⟨⟨⟨h1, h2⟩, h3⟩, h4⟩, h5⟩ := h
  have hm := mapOk h1
  have hc := curOk h2
  rw [List.all_eq_true] at h3 h5
  have zl := hm.zl
  have yl := hc.yl
  refine ⟨hm, hc, fun i hi => ?_, fun i hi => ?_, fun i j hi hj => ?_, fun i j hi hj => ?_⟩
  · rw [nd_get (by omega)]
    have := h3 _ (List.getElem_mem (by omega : i < t.Efficiency.Y.length))
    simp [inR] at this; omega
  · have := range_all.1 h4 i (by omega)
    rw [decide_eq_true_eq] at this
    exact this
  · have hz : i < t.Torque.Z.length := by omega
    have := h5 _ (List.getElem_mem hz)
    rw [Bool.and_eq_true, List.all_eq_true] at this
    have lr := hm.rl i hz
    have := this.1 _ (List.getElem_mem (by omega : j < t.Torque.Z[i].length))
    rw [zz_row hz, nd_get (by omega)]
    simp [inR] at this; omega
  · have hz : i < t.Torque.Z.length := by omega
    have := h5 _ (List.getElem_mem hz)
    rw [Bool.and_eq_true] at this
    have lr := hm.rl i hz
    have := range_all.1 this.2 j (by omega)
    rw [decide_eq_true_eq] at this
    rw [zz_row hz, zz_row hz]
    exact this
theorem torB_map {t : STables} (h : torB t = true) : mapB t.Torque = true := by
  unfold torB at h
  simp only [Bool.and_eq_true] at h
  exact h.1.1.1.1
theorem torB_cur {t : STables} (h : torB t = true) : curB t.Efficiency = true := by
  unfold torB at h
  simp only [Bool.and_eq_true] at h
  exact h.1.1.1.2
/-- The torque for an optimal one. -/
theorem torque_ok {t : STables} (h : torB t = true) (late : Int) : ∃ e, curve_At t.Efficiency late = some e ∧ 0 ≤ e ∧ e ≤ 1000 ∧
    ∀ o f c, 0 ≤ o → o ≤ 10000 → 0 ≤ f → f ≤ c → 1 ≤ c → c ≤ 8 → torque_torque t o late f c = some ((o * e * f) / (1000 * c)) := by
  obtain ⟨i, hi, e⟩ := curveAt_eq (torB_cur h) late
  have hb := cuV_bounds (torOk h).c hi (torOk h).e
  refine ⟨_, e, hb.1, hb.2, fun o f c o0 o1 f0 f1 c0 c1 => ?_⟩
  generalize cuV t.Efficiency i (lim t.Efficiency.X late) = v at hb e
  have p0 : 0 ≤ o * v := Int.mul_nonneg o0 hb.1
  have p1 : o * v ≤ 10000 * 1000 := Int.mul_le_mul o1 hb.2 hb.1 (by omega)
  have q0 : 0 ≤ o * v * f := Int.mul_nonneg p0 f0
  have q1 : o * v * f ≤ 10000 * 1000 * 8 := Int.mul_le_mul p1 (by omega) f0 (by omega)
  unfold torque_torque
  rw [e, Option.bind_some, w64_of (n := o * v) (by omega) (by omega), w64_of (n := o * v * f) (by omega) (by omega), w64_of (n := 1000 * c) (by omega) (by omega)]
  unfold quoM
  rw [if_neg (by omega), Option.bind_some, Int.tdiv_eq_ediv_of_nonneg q0]
  have r0 : 0 ≤ o * v * f / (1000 * c) := Int.ediv_nonneg q0 (by omega)
  have r1 : o * v * f / (1000 * c) ≤ o * v * f := Int.ediv_le_self _ q0
  have := w64_of (n := o * v * f / (1000 * c)) (by omega) (by omega)
  unfold w64 at this
  rw [this]
end Go.Pv
set_option linter.unusedSimpArgs false
namespace Go.Pv.Ar
open Go Go.Pv
theorem bsome {α : Type} (c : Bool) (x y : α) : (bif c then some x else some y) = some (bif c then x else y) := by cases c <;> rfl
/-! Requests. -/
def reqP (r : SRequest) : Prop := (0 ≤ r.Source ∧ r.Source ≤ 15) ∧ (0 ≤ r.Priority ∧ r.Priority ≤ 15) ∧ (-5000 ≤ r.Torque ∧ r.Torque ≤ 10000) ∧ (r.Kind = 1 ∨ (r.Source ≤ 1 ∧ (r.Kind = 2 ∨ r.Kind = 3)))
instance (r : SRequest) : Decidable (reqP r) := by unfold reqP; infer_instance
theorem valid_eq (r : SRequest) : arbiter_Valid r = some (decide (reqP r)) := by
  unfold arbiter_Valid arbiter_torque
  simp only [Option.bind_some, bsome]
  rw [Option.some.injEq, Bool.eq_iff_iff, decide_eq_true_eq]
  unfold reqP
  simp only [Bool.cond_true_left, Bool.cond_false_left, Bool.cond_true_right, Bool.cond_false_right, Bool.or_eq_true, Bool.and_eq_true, Bool.not_eq_true', Bool.or_eq_false_iff, Bool.and_eq_false_iff, Bool.not_eq_false', decide_eq_true_eq, decide_eq_false_iff_not, bne_iff_ne, bne_eq_false_iff_eq, beq_iff_eq, beq_eq_false_iff_ne, ne_eq, ge_iff_le]
  omega
def torB (t : Int) : Bool := decide (t ≥ -5000) && decide (t ≤ 10000)
def rngB (low high : Int) : Bool := (!torB low || !torB high) || decide (low > high)
def badR (l : List SRequest) : Bool := l.any fun r => !decide (reqP r)
def chk (l : List SRequest) (low high : Int) : Int := bif badR l then 1 else bif decide ((l.length : Int) > 32) then 5 else bif rngB low high then 2 else 0
theorem tail_eq (low high : Int) : (Option.bind (some (torB low)) fun v2 => Option.bind (bif (!v2) then (some true) else (Option.bind (some (torB high)) fun v3 => some (!v3))) fun b2 => bif (b2 || (decide (low > high))) then (some (2 : Int)) else (some 0)) = some (bif rngB low high then 2 else 0) := by
  unfold rngB
  cases torB low <;> cases torB high <;> cases decide (low > high) <;> rfl
theorem given_eq (l : List SRequest) (low high : Int) (hl : l.length ≤ 1000) : arbiter_given l low high = some (chk l low high) := by
  unfold arbiter_given chk
  have k := index_any l (by omega) arbiter_given_1 (fun r => !decide (reqP r)) (fun y _ => by unfold arbiter_given_1; rw [valid_eq]; rfl)
  have k' : slices_ContainsFunc_sRequest l arbiter_given_1 = some (badR l) := k
  rw [k']
  simp only [Option.bind_some]
  cases badR l
  · simp only [cond_false]
    cases decide ((l.length : Int) > 32)
    · simp only [cond_false]
      exact tail_eq low high
    · rfl
  · rfl
structure Fine (l : List SRequest) (low high : Int) : Prop where
  req : ∀ r ∈ l, reqP r
  len : l.length ≤ 32
  lo : -5000 ≤ low
  hi : high ≤ 10000
  ord : low ≤ high
theorem chk_zero {l : List SRequest} {low high : Int} : chk l low high = 0 ↔ Fine l low high := by
  have hb : badR l = false ↔ ∀ r ∈ l, reqP r := by
    unfold badR
    rw [List.any_eq_false]
    constructor
    · intro h r hr; simpa using h r hr
    · intro h r hr; simpa using h r hr
  have hr : rngB low high = false ↔ (-5000 ≤ low ∧ low ≤ 10000 ∧ -5000 ≤ high ∧ high ≤ 10000 ∧ low ≤ high) := by
    unfold rngB torB
    simp only [Bool.or_eq_false_iff, Bool.not_eq_false', Bool.and_eq_true, decide_eq_true_eq, decide_eq_false_iff_not]
    omega
  unfold chk
  constructor
  · intro h
    cases h1 : badR l <;> rw [h1] at h
    · cases h2 : decide ((l.length : Int) > 32) <;> rw [h2] at h
      · cases h3 : rngB low high <;> rw [h3] at h
        · have h4 := hr.1 h3
          have h5 : ¬ ((l.length : Int) > 32) := of_decide_eq_false h2
          exact ⟨hb.1 h1, by omega, by omega, by omega, by omega⟩
        · cases h
      · cases h
    · cases h
  · intro h
    rw [hb.2 h.req, hr.2 (by have := h.lo; have := h.hi; have := h.ord; omega), decide_eq_false (show ¬ ((l.length : Int) > 32) by have := h.len; omega)]
    rfl
theorem chk_bool {l : List SRequest} {low high : Int} : (chk l low high != 0) = !decide (chk l low high = 0) := by
  cases h : decide (chk l low high = 0)
  · have := of_decide_eq_false h; simpa using this
  · have := of_decide_eq_true h; rw [this]; rfl
/-! Narrowing. -/
def ins (s : Sarbiter_span) (r : SRequest) : Int := maxI s.low (minI s.high r.Torque)
def nlo (s : Sarbiter_span) (r : SRequest) : Int := if r.Kind = 1 then s.low else ins s r
def nhi (s : Sarbiter_span) (r : SRequest) : Int := if r.Kind = 2 then s.high else ins s r
def stp (s : Sarbiter_span) (r : SRequest) : Sarbiter_span := ⟨nlo s r, nhi s r, if nlo s r = s.low then s.source else r.Source⟩
def chg (s : Sarbiter_span) (r : SRequest) : Bool := !(decide (nlo s r = s.low) && decide (nhi s r = s.high))
theorem ins_range {s : Sarbiter_span} {r : SRequest} (h : s.low ≤ s.high) : s.low ≤ ins s r ∧ ins s r ≤ s.high := by
  unfold ins maxI minI; split <;> split <;> omega
theorem stp_range {s : Sarbiter_span} {r : SRequest} (h : s.low ≤ s.high) : s.low ≤ (stp s r).low ∧ (stp s r).low ≤ (stp s r).high ∧ (stp s r).high ≤ s.high := by
  have := ins_range (r := r) h
  unfold stp nlo nhi
  simp only
  split <;> split <;> omega
theorem nar_tail (s : Sarbiter_span) (r : SRequest) (lo hi : Int) : (Option.bind (bif (lo != s.low) then (some r.Source) else (some s.source)) fun (f3 : Int) => bif (lo != s.low) then (some (true, (⟨lo, hi, f3⟩ : Sarbiter_span))) else (some ((hi != s.high), (⟨lo, hi, f3⟩ : Sarbiter_span)))) = some (!(decide (lo = s.low) && decide (hi = s.high)), ⟨lo, hi, if lo = s.low then s.source else r.Source⟩) := by
  by_cases h1 : lo = s.low
  · rw [show (lo != s.low) = false by simpa using h1, decide_eq_true h1, if_pos h1]; rfl
  · rw [show (lo != s.low) = true by simpa using h1, decide_eq_false h1, if_neg h1]; rfl
theorem narrow_eq (s : Sarbiter_span) (r : SRequest) (h : s.low ≤ s.high) (hk : r.Kind = 1 ∨ r.Kind = 2 ∨ r.Kind = 3) : arbiter_span_narrow s r = some (chg s r, stp s r) := by
  have e1 : maxI s.low (minI s.high r.Torque) = ins s r := rfl
  have e2 : minI s.high (maxI s.low r.Torque) = ins s r := by
    unfold ins maxI minI; repeat' split
    all_goals omega
  have e3 : minI (maxI r.Torque s.low) s.high = ins s r := by
    unfold ins maxI minI; repeat' split
    all_goals omega
  unfold arbiter_span_narrow arbiter_span_atMost arbiter_span_atLeast arbiter_span_exactly arith_Clamp
  simp only [Option.bind_some]
  rw [e1, e2, e3]
  unfold stp chg nlo nhi
  rcases hk with hk | hk | hk
  · rw [hk]
    exact nar_tail s r s.low (ins s r)
  · rw [hk]
    exact nar_tail s r (ins s r) s.high
  · rw [hk]
    exact nar_tail s r (ins s r) (ins s r)
/-! The list in its order. -/
def lev (l : List SRequest) (j : Nat) : List SRequest := l.filter fun r => r.Priority == 15 - (j : Int)
def ordK (l : List SRequest) (k : Nat) : List SRequest := (List.range k).flatMap (lev l)
abbrev ordL (l : List SRequest) : List SRequest := ordK l 16
theorem ordK_succ (l : List SRequest) (k : Nat) : ordK l (k + 1) = ordK l k ++ lev l k := by
  unfold ordK; rw [List.range_succ, List.flatMap_append, List.flatMap_singleton]
def DR (r : SRequest) : Prop := 0 ≤ r.Priority ∧ r.Priority ≤ 15
theorem lt_dec {x y : SRequest} (hx : DR x) (hy : DR y) : ltM arbiter_decide_1 x y = decide (y.Priority < x.Priority) := by
  unfold DR at hx hy
  unfold ltM arbiter_decide_1
  rw [Option.getD_some, w64_of (by omega) (by omega), decide_eq_decide]
  omega
theorem sw_dec : SW DR arbiter_decide_1 where
  ans := fun x y _ _ => ⟨_, rfl⟩
  asym := fun x y hx hy => by rw [lt_dec hx hy, lt_dec hy hx, decide_eq_true_eq, decide_eq_false_iff_not]; omega
  ntrans := fun x y z hx hy hz => by rw [lt_dec hx hy, lt_dec hy hz, lt_dec hx hz]; simp only [decide_eq_false_iff_not]; omega
theorem eqv_dec {x y : SRequest} (hx : DR x) (hy : DR y) : eqv arbiter_decide_1 x y = (y.Priority == x.Priority) := by
  unfold eqv
  rw [lt_dec hx hy, lt_dec hy hx, Bool.eq_iff_iff]
  simp only [Bool.and_eq_true, Bool.not_eq_true', decide_eq_false_iff_not, beq_iff_eq]
  omega
theorem mem_ordK {l : List SRequest} {k : Nat} {r : SRequest} : r ∈ ordK l k ↔ r ∈ l ∧ ∃ j, j < k ∧ r.Priority = 15 - (j : Int) := by
  unfold ordK lev
  rw [List.mem_flatMap]
  constructor
  · rintro ⟨j, hj, h⟩
    rw [List.mem_filter] at h
    exact ⟨h.1, j, List.mem_range.1 hj, by simpa using h.2⟩
  · rintro ⟨h, j, hj, hp⟩
    exact ⟨j, List.mem_range.2 hj, List.mem_filter.2 ⟨h, by simpa using hp⟩⟩
theorem mem_ordL {l : List SRequest} (h : AllD DR l) {r : SRequest} : r ∈ ordL l ↔ r ∈ l := by
  rw [mem_ordK]
  constructor
  · exact fun h => h.1
  · intro hr
    have := h r hr
    unfold DR at this
    exact ⟨hr, (15 - r.Priority).toNat, by omega, by omega⟩
theorem ordK_srt {l : List SRequest} (h : AllD DR l) : ∀ k, Srt arbiter_decide_1 (ordK l k)
  | 0 => .nil
  | k + 1 => by
    rw [ordK_succ]
    refine Srt.app (ordK_srt h k) ?_ fun a ha b hb => ?_
    · unfold lev
      rw [Srt, List.pairwise_iff_getElem]
      intro i j hi hj _
      have m1 := List.mem_filter.1 (List.getElem_mem hi)
      have m2 := List.mem_filter.1 (List.getElem_mem hj)
      have p1 := m1.2
      simp only [beq_iff_eq] at p1
      have p2 := m2.2
      simp only [beq_iff_eq] at p2
      rw [lt_dec (h _ m2.1) (h _ m1.1), decide_eq_false_iff_not]
      omega
    · obtain ⟨ha1, j, hj, hp⟩ := mem_ordK.1 ha
      have m2 := List.mem_filter.1 hb
      have p2 := m2.2
      simp only [beq_iff_eq] at p2
      rw [lt_dec (h _ m2.1) (h _ ha1), decide_eq_false_iff_not]
      omega
theorem ordK_filter (l : List SRequest) (p : Int) : ∀ k, (ordK l k).filter (fun r => r.Priority == p) = if 15 - (k : Int) < p ∧ p ≤ 15 then l.filter (fun r => r.Priority == p) else []
  | 0 => by
    rw [if_neg (by omega)]
    rfl
  | k + 1 => by
    rw [ordK_succ, List.filter_append, ordK_filter l p k]
    unfold lev
    rw [List.filter_filter]
    by_cases hp : p = 15 - (k : Int)
    · rw [if_neg (by omega), if_pos (by omega), List.nil_append]
      congr 1
      funext r
      rw [← hp]
      cases r.Priority == p <;> rfl
    · have : (l.filter fun a => (a.Priority == p) && (a.Priority == 15 - (k : Int))) = [] := by
        rw [List.filter_eq_nil_iff]
        intro r _ h
        simp only [Bool.and_eq_true, beq_iff_eq] at h
        omega
      rw [this, List.append_nil]
      by_cases h2 : 15 - (k : Int) < p ∧ p ≤ 15
      · rw [if_pos h2, if_pos (by omega)]
      · rw [if_neg h2, if_neg (by omega)]
theorem sort_canon {l r : List SRequest} (h : AllD DR l) (hs : Srt arbiter_decide_1 r) (ht : Sta DR arbiter_decide_1 l r) : r = ordL l := by
  refine srt_uniq sw_dec (ht.all h) (fun x hx => h x ((mem_ordL h).1 hx)) hs (ordK_srt h 16) fun x hx => ?_
  rw [ht.same x hx]
  have e : ∀ m : List SRequest, AllD DR m → m.filter (eqv arbiter_decide_1 x) = m.filter (fun r => r.Priority == x.Priority) := fun m hm => List.filter_congr fun y hy => eqv_dec hx (hm y hy)
  rw [e l h, e (ordL l) (fun y hy => h y ((mem_ordL h).1 hy)), ordK_filter]
  unfold DR at hx
  rw [if_pos (by omega)]
/-! The printed sort is the sort. -/
theorem sm_same : slices_symMergeCmpFunc_Request_s = g_symMergeCmpFunc_s := by kernel_rfl
theorem sym_same : ∀ fu, slices_symMergeCmpFunc_Request fu = g_symMergeCmpFunc fu
  | 0 => rfl
  | fu + 1 => by
    show slices_symMergeCmpFunc_Request_s (slices_symMergeCmpFunc_Request fu) = g_symMergeCmpFunc_s (g_symMergeCmpFunc fu)
    rw [sym_same fu, sm_same]
theorem st3_same (n : Int) (g : SRequest → SRequest → Option Int) (s3 : Int × List SRequest) : slices_stableCmpFunc_Request_b3 n g s3 = g_stableCmpFunc_b3 n g s3 := by
  funext t
  unfold slices_stableCmpFunc_Request_b3 g_stableCmpFunc_b3
  rw [sym_same]
theorem st2_same : slices_stableCmpFunc_Request_b2 = g_stableCmpFunc_b2 := by
  funext n g t
  unfold slices_stableCmpFunc_Request_b2
  simp only [sym_same, st3_same]
  kernel_rfl
theorem stc_same : slices_stableCmpFunc_Request = g_stableCmpFunc := by
  funext d n g
  unfold slices_stableCmpFunc_Request
  rw [st2_same]
  kernel_rfl
theorem st_same (l : List SRequest) (g : SRequest → SRequest → Option Int) : slices_SortStableFunc_sRequest l g = g_SortStableFunc l g := by
  unfold slices_SortStableFunc_sRequest g_SortStableFunc
  rw [stc_same]
/-! decide. -/
def dec (s : Sarbiter_span) : List SRequest → List Int
  | [] => []
  | r :: l => (bif chg s r then [r.Source] else []) ++ dec (stp s r) l
theorem dec_len (s : Sarbiter_span) : ∀ l : List SRequest, (dec s l).length ≤ l.length
  | [] => Nat.le_refl _
  | r :: l => by
    have := dec_len (stp s r) l
    unfold dec
    cases chg s r
    · simp only [cond_false, List.nil_append, List.length_cons]; omega
    · simp only [cond_true, List.length_append, List.length_cons, List.length_nil]; omega
theorem dloop : ∀ (q : List SRequest) (i : Int) (acc : List Int) (s : Sarbiter_span), s.low ≤ s.high → (∀ r ∈ q, r.Kind = 1 ∨ r.Kind = 2 ∨ r.Kind = 3) → acc.length + q.length ≤ 10000 →
    stepsL arbiter_decide_b1 q i (acc, s) = some (.inl (acc ++ dec s q, q.foldl stp s))
  | [], i, acc, s, _, _, _ => by simp [stepsL, dec]
  | r :: q, i, acc, s, hs, hk, hl => by
    simp only [List.length_cons] at hl
    have hr := stp_range (r := r) hs
    have hb : arbiter_decide_b1 i r (acc, s) = some (.next (acc ++ (bif chg s r then [r.Source] else []), stp s r)) := by
      unfold arbiter_decide_b1
      simp only
      rw [narrow_eq s r hs (hk r (by simp))]
      simp only [Option.bind_some]
      cases chg s r
      · simp
      · simp only [cond_true]
        rw [appendM_ok _ _ (by simp only [List.length_singleton]; omega)]
        rfl
    simp only [stepsL, hb, Option.bind_some]
    rw [dloop q (i + 1) _ (stp s r) (by omega) (fun x hx => hk x (by simp [hx])) (by rw [List.length_append]; cases chg s r <;> simp <;> omega)]
    simp only [dec, List.foldl_cons, List.append_assoc]
def s0 (low high : Int) : Sarbiter_span := ⟨low, high, -1⟩
def fin (l : List SRequest) (low high : Int) : Sarbiter_span := (ordL l).foldl stp (s0 low high)
def srcs (l : List SRequest) (low high : Int) : List Int := compL ((dec (s0 low high) (ordL l)).mergeSort fun x y => decide (x ≤ y))
theorem Fine.dr {l : List SRequest} {low high : Int} (h : Fine l low high) : AllD DR l := fun r hr => by
  have := h.req r hr
  unfold reqP at this
  unfold DR; omega
theorem Fine.kinds {l : List SRequest} {low high : Int} (h : Fine l low high) : ∀ r ∈ l, r.Kind = 1 ∨ r.Kind = 2 ∨ r.Kind = 3 := fun r hr => by
  have := h.req r hr
  unfold reqP at this
  omega
theorem ordL_len {l : List SRequest} {low high : Int} (h : Fine l low high) : (ordL l).length = l.length := by
  obtain ⟨r, h1, h2, h3⟩ := stable_eq sw_dec l h.dr (by have := h.len; omega)
  rw [← sort_canon h.dr h2 h3, h3.len]
theorem decide_eq {l : List SRequest} {low high : Int} (h : Fine l low high) : arbiter_decide l low high = some (fin l low high, srcs l low high) := by
  unfold arbiter_decide slices_Clone_sRequest
  have hl := h.len
  rw [appendM_ok _ _ (by simp only [List.length_nil]; omega)]
  simp only [Option.bind_some, List.nil_append]
  rw [st_same]
  obtain ⟨r, h1, h2, h3⟩ := stable_eq sw_dec l h.dr (by omega)
  rw [h1, sort_canon h.dr h2 h3]
  simp only [Option.bind_some]
  have hlen := ordL_len h
  rw [rangeM_steps _ (by omega), dloop (ordL l) 0 [] ⟨low, high, -1⟩ h.ord (fun x hx => h.kinds x ((mem_ordL h.dr).1 hx)) (by simp only [List.length_nil]; omega)]
  simp only [Option.bind_some, List.nil_append]
  unfold slices_Sort_sint slices_Compact_sint
  have hd := dec_len (s0 low high) (ordL l)
  rw [sortIM_ok (show (dec (⟨low, high, -1⟩ : Sarbiter_span) (ordL l)).length < 4611686018427387904 by unfold s0 at hd; omega)]
  simp only [Option.bind_some]
  rw [compactM_ok (by rw [List.length_mergeSort]; unfold s0 at hd; omega)]
  rfl
theorem Decide_eq (l : List SRequest) (low high : Int) (hl : l.length ≤ 1000) : arbiter_Decide l low high = some (if chk l low high = 0 then (⟨(fin l low high).low, (fin l low high).source⟩, 0) else (⟨0, 0⟩, chk l low high)) := by
  unfold arbiter_Decide
  rw [given_eq _ _ _ hl, Option.bind_some, chk_bool]
  by_cases h : chk l low high = 0
  · rw [decide_eq_true h, if_pos h]
    simp only [Bool.not_true, cond_false]
    rw [decide_eq (chk_zero.1 h)]
    rfl
  · rw [decide_eq_false h, if_neg h]; rfl
end Go.Pv.Ar
set_option linter.unusedSimpArgs false
namespace Go.Pv
open Go
/-! ### the inputs of a step -/
def bitF (f : Int) (j : Nat) : Bool := bitAnd .u8 (bitShr .u8 f (j : Int)) 1 == 1
def bsum (f : Int) : Nat → Nat
  | 0 => 0
  | j + 1 => bsum f j + bif bitF f j then 1 else 0
theorem bsum_le (f : Int) : ∀ j, bsum f j ≤ j
  | 0 => Nat.le_refl _
  | j + 1 => by have := bsum_le f j; simp only [bsum]; cases bitF f j <;> simp <;> omega
theorem countP_set0 (l : List SFire) (i : Nat) (hi : i < l.length) (y : SFire) (h : isInj l[i] = false) : (l.set i y).countP isInj = l.countP isInj + bif isInj y then 1 else 0 := by
  induction l generalizing i with
  | nil => simp at hi
  | cons x l ih =>
    cases i with
    | zero =>
      simp only [List.getElem_cons_zero] at h
      simp only [List.set_cons_zero, List.countP_cons, h]
      cases isInj y <;> simp
    | succ i =>
      simp only [List.getElem_cons_succ] at h
      have := ih i (by simpa using hi) h
      simp only [List.set_cons_succ, List.countP_cons, this]
      omega
theorem fires_ok (s : Smagnetotop_ReactionStep) : ∃ l : List SFire, rangeN (((List.replicate 4 (⟨0, 0, 0, 0, 0, 0, 0⟩ : SFire)).length : Nat) : Int) (magnetotop_monitored_step_b1 s) (0, List.replicate 4 (⟨0, 0, 0, 0, 0, 0, 0⟩ : SFire)) = some (.inl ((bsum s.Fires 4 : Int), l)) ∧ l.length = 4 ∧ l.countP isInj = bsum s.Fires 4 := by
  obtain ⟨u, k1, k2⟩ := rangeN_inv (R := Empty) (List.replicate 4 (⟨0, 0, 0, 0, 0, 0, 0⟩ : SFire)).length (by simp) (magnetotop_monitored_step_b1 s)
    (fun j u => u.1 = (bsum s.Fires j : Int) ∧ u.2.length = 4 ∧ u.2.countP isInj = bsum s.Fires j ∧ ∀ i, j ≤ i → ∀ x, u.2[i]? = some x → x.Inject = 0)
    (0, List.replicate 4 (⟨0, 0, 0, 0, 0, 0, 0⟩ : SFire)) ⟨rfl, by simp, by show List.countP isInj (List.replicate 4 _) = 0; rfl, fun i _ x hx => by
      have := List.mem_iff_getElem?.2 ⟨i, hx⟩
      rw [List.eq_of_mem_replicate this]⟩ (fun j hj u ⟨i1, i2, i3, i4⟩ => by
      simp only [List.length_replicate] at hj
      have hj2 : j < u.2.length := by omega
      have hx := i4 j (Nat.le_refl _) _ (List.getElem?_eq_getElem hj2)
      have hn : isInj u.2[j] = false := by unfold isInj; rw [hx]; rfl
      have hb := bsum_le s.Fires j
      unfold magnetotop_monitored_step_b1
      rw [getI_get _ _ hj2]
      simp only [Option.bind_some]
      rw [setM_nat _ _ _ hj2]
      simp only [Option.bind_some]
      have e1 : shrM .u8 s.Fires (j : Int) = some (bitShr .u8 s.Fires (j : Int)) := by unfold shrM; rw [if_neg (by omega)]
      rw [e1]
      simp only [Option.bind_some]
      have e2 : (bitAnd .u8 (bitShr .u8 s.Fires (j : Int)) 1 == 1) = bitF s.Fires j := rfl
      rw [e2]
      have rest : ∀ y : SFire, ∀ i, j + 1 ≤ i → ∀ x, (u.2.set j y)[i]? = some x → x.Inject = 0 := fun y i hi x hx' => by
        rw [List.getElem?_set, if_neg (by omega)] at hx'
        exact i4 i (by omega) x hx'
      cases hbit : bitF s.Fires j
      · simp only [cond_false]
        refine ⟨_, rfl, ?_, by simp [i2], ?_, rest _⟩
        · simp only [bsum, hbit, cond_false, Nat.add_zero]; exact i1
        · simp only [bsum, hbit, cond_false, Nat.add_zero]
          rw [countP_set0 _ _ hj2 _ hn]
          have : isInj (⟨w64 ((j : Int) + 1), u.2[j].Spark, u.2[j].Dwell, u.2[j].End, u.2[j].Inject, u.2[j].Gap, u.2[j].Extra⟩ : SFire) = false := by unfold isInj; rw [hx]; rfl
          rw [this]; exact i3
      · simp only [cond_true]
        rw [setM_nat _ _ _ (by simpa using hj2)]
        simp only [Option.bind_some, List.set_set]
        refine ⟨_, rfl, ?_, by simp [i2], ?_, rest _⟩
        · simp only [bsum, hbit, cond_true, i1]
          rw [w64_of (by omega) (by omega)]; push_cast; rfl
        · simp only [bsum, hbit, cond_true]
          rw [countP_set0 _ _ hj2 _ hn, i3]
          rfl)
  rw [k1]
  obtain ⟨i1, i2, i3, _⟩ := k2
  refine ⟨u.2, ?_, i2, i3⟩
  have : u = (u.1, u.2) := rfl
  rw [this, i1]
  rfl
def reqS (s : Smagnetotop_ReactionStep) : List SRequest := bif s.Limited then [⟨4, 1, maxI (-5000) (minI 10000 (w64 s.Limit)), 9⟩] else []
theorem reqS_ok (s : Smagnetotop_ReactionStep) : (reqS s).length ≤ 1 ∧ (reqS s).all reqB = true := by
  unfold reqS
  cases s.Limited
  · exact ⟨by simp, rfl⟩
  · refine ⟨by simp, ?_⟩
    have h1 : -5000 ≤ maxI (-5000) (minI 10000 (w64 s.Limit)) := by unfold maxI; split <;> omega
    have h2 : maxI (-5000) (minI 10000 (w64 s.Limit)) ≤ 10000 := by unfold maxI minI; repeat' split <;> omega
    generalize maxI (-5000) (minI 10000 (w64 s.Limit)) = q at h1 h2
    simp [reqB]
    omega
def permV (c : Int) (l : List SRequest) : Int := maxI 0 (minI (l.foldl (permH (l.foldl permG (-5000, -1)).2) 10000) (maxI (minI (maxI c (-5000)) 10000) (l.foldl permG (-5000, -1)).1)) + 100
theorem permH_most (p : Int) : ∀ (l : List SRequest) (s : Int), l.foldl (permH p) s ≤ s
  | [], s => Int.le_refl _
  | y :: l, s => by
    simp only [List.foldl_cons]
    refine Int.le_trans (permH_most p l _) ?_
    unfold permH minI
    cases (y.Kind == 1) && decide (y.Priority > p)
    · exact Int.le_refl _
    · simp only [cond_true]; split <;> omega
theorem permV_range (c : Int) (l : List SRequest) : 100 ≤ permV c l ∧ permV c l ≤ 10100 := by
  have := permH_most (l.foldl permG (-5000, -1)).2 l 10000
  unfold permV
  generalize (l.foldl (permH (l.foldl permG (-5000, -1)).2) 10000) = q at this
  generalize (maxI (minI (maxI c (-5000)) 10000) (l.foldl permG (-5000, -1)).1) = r
  unfold maxI minI
  repeat' split
  all_goals omega
theorem permitted_eq {t : STables} (hw : mapB t.Wish = true) {pedal speed c : Int} {l : List SRequest} (hl : l.length ≤ 32) (hr : l.all reqB = true) (p0 : 0 ≤ pedal) (p1 : pedal ≤ 1000) (s0 : 0 ≤ speed) (s1 : speed ≤ 12000)
    (hc : monitor_corner t.Wish speed pedal = some c) : monitor_Permitted t pedal speed l = some (permV c l, 0) := by
  unfold monitor_Permitted
  rw [valid_eq, hw, badreq_eq l (by omega), hr]
  have h32 : decide ((l.length : Int) > 32) = false := by simp; omega
  have e1 : (decide (pedal ≥ 0) && decide (pedal ≤ 1000)) = true := by simp [p0, p1]
  have e2 : (decide (speed ≥ 0) && decide (speed ≤ 12000)) = true := by simp [s0, s1]
  simp only [Option.bind_some, Bool.not_true, cond_false, h32, monitor_within, e1, e2]
  rw [hc, perm1 l (by omega)]
  simp only [Option.bind_some]
  rw [perm2 l (by omega)]
  simp only [Option.bind_some]
  have := permV_range c l
  unfold permV at this ⊢
  rw [w64_of (by omega) (by omega)]
/-- The rest of a step. -/
noncomputable def stepV (P A R : Int) (v : Smagnetotop_monitored) : Option (Int × Int × Int × Bool × Smagnetotop_monitored) :=
  Option.bind (monitor_Step v.guard P A) fun r5 => Option.bind (Option.bind (stage_Step v.stage true r5.1 v.quiz (w64 (v.now + 10000))) fun r6 => some (r6.2, r6.1)) fun (s4 : Int × SStage) => bif (((r5.2 != 0) || (s4.1 != 0)) || (decide (R > A))) then (some (0, 0, 0, false, (⟨v.guard, v.quiz, v.stage, w64 (v.now + 10000)⟩ : Smagnetotop_monitored))) else (Option.bind (some (r5.1, s4.2)) fun (s5 : SGuard × SStage) => Option.bind (bif s4.2.Enabled then (some R) else (some 0)) fun (delivered : Int) => some (P, A, delivered, true, (⟨s5.1, v.quiz, s5.2, w64 (v.now + 10000)⟩ : Smagnetotop_monitored)))
structure WfS (s : Smagnetotop_ReactionStep) : Prop where
  pedal : 0 ≤ s.Pedal ∧ s.Pedal ≤ 65535
  speed : 0 ≤ s.Speed ∧ s.Speed ≤ 65535
  charge : 0 ≤ s.Charge ∧ s.Charge ≤ 65535
  late : 0 ≤ s.Late ∧ s.Late ≤ 65535
def pedS (s : Smagnetotop_ReactionStep) : Int := Int.tmod (w64 s.Pedal) 1001
def spdS (s : Smagnetotop_ReactionStep) : Int := Int.tmod (w64 s.Speed) 12001
def chgS (s : Smagnetotop_ReactionStep) : Int := w64 (8 * (w64 s.Charge))
def latS (s : Smagnetotop_ReactionStep) : Int := Int.tmod (w64 s.Late) 2561
theorem tmod_range {x m : Int} (h0 : 0 ≤ x) (hm : 0 < m) : 0 ≤ x.tmod m ∧ x.tmod m < m := by
  obtain ⟨a, rfl⟩ : ∃ a : Nat, x = a := ⟨x.toNat, by omega⟩
  obtain ⟨b, rfl⟩ : ∃ b : Nat, m = b := ⟨m.toNat, by omega⟩
  have : Int.tmod (a : Int) (b : Int) = ((a % b : Nat) : Int) := rfl
  rw [this]
  have := Nat.mod_lt a (show 0 < b by omega)
  omega
theorem S_ranges {s : Smagnetotop_ReactionStep} (h : WfS s) : (0 ≤ pedS s ∧ pedS s ≤ 1000) ∧ (0 ≤ spdS s ∧ spdS s ≤ 12000) ∧ (0 ≤ chgS s ∧ chgS s ≤ 1048576) ∧ (0 ≤ latS s ∧ latS s ≤ 2560) := by
  have h1 := h.pedal; have h2 := h.speed; have h3 := h.charge; have h4 := h.late
  unfold pedS spdS chgS latS
  rw [w64_of (n := s.Pedal) (by omega) (by omega), w64_of (n := s.Speed) (by omega) (by omega), w64_of (n := s.Charge) (by omega) (by omega), w64_of (n := s.Late) (by omega) (by omega), w64_of (n := 8 * s.Charge) (by omega) (by omega)]
  have a := tmod_range (m := 1001) h1.1 (by omega)
  have b := tmod_range (m := 12001) h2.1 (by omega)
  have c := tmod_range (m := 2561) h4.1 (by omega)
  omega
theorem step_eq {t : STables} (hw : mapB t.Wish = true) (ht : torB t = true) {s : Smagnetotop_ReactionStep} (hs : WfS s) {c1 c2 o : Int} (h1 : monitor_corner t.Wish (spdS s) (pedS s) = some c1)
    (h2 : monitor_corner t.Torque (spdS s) (chgS s) = some c2) (h3 : surface_At t.Torque (spdS s) (chgS s) = some o) (o0 : 0 ≤ o) (o1 : o ≤ 10000) :
    ∃ e, curve_At t.Efficiency (latS s) = some e ∧ 0 ≤ e ∧ e ≤ 1000 ∧ ∀ v, magnetotop_monitored_step v t s = stepV (permV c1 (reqS s)) (actualT (minI (maxI c2 0) 10000) (bsum s.Fires 4 : Nat) 4) (o * e * (bsum s.Fires 4 : Int) / 4000) v := by
  obtain ⟨⟨p0, p1⟩, ⟨s0, s1⟩, ⟨g0, g1⟩, ⟨l0, l1⟩⟩ := S_ranges hs
  obtain ⟨e, e1, e2, e3, e4⟩ := torque_ok ht (latS s)
  refine ⟨e, e1, e2, e3, fun v => ?_⟩
  obtain ⟨l, f1, f2, f3⟩ := fires_ok s
  obtain ⟨q1, q2⟩ := reqS_ok s
  have hb := bsum_le s.Fires 4
  have hreq : (bif s.Limited then (some ([(⟨4, 1, maxI (-5000) (minI 10000 (w64 s.Limit)), 9⟩ : SRequest)] : List SRequest)) else (some ([] : List SRequest))) = some (reqS s) := by unfold reqS; cases s.Limited <;> rfl
  unfold magnetotop_monitored_step
  rw [hreq]
  simp only [Option.bind_some]
  rw [show (4 : Int) = ((4 : Nat) : Int) from rfl, makeM_nat 4 (by decide)]
  simp only [Option.bind_some]
  rw [f1]
  simp only [Option.bind_some]
  have hP := permitted_eq hw (l := reqS s) (by omega) q2 p0 p1 s0 s1 h1
  unfold pedS spdS at hP
  rw [hP]
  simp only [Option.bind_some]
  have hA := actual_eq t (spdS s) (chgS s) (torB_map ht) (by simp; omega) c2 h2 l (by omega) (by omega)
  rw [f2, f3] at hA
  unfold spdS chgS at hA
  rw [hA]
  simp only [Option.bind_some]
  have hT : torque_Torque t (spdS s) (chgS s) (latS s) (bsum s.Fires 4 : Int) 4 = some (o * e * (bsum s.Fires 4 : Int) / 4000, 0) := by
    unfold torque_Torque torque_Optimal
    rw [torque_valid_eq, ht]
    have a1 : (decide (spdS s ≥ 0) && decide (spdS s ≤ 12000)) = true := by simp [s0, s1]
    have a2 : (decide (chgS s ≥ 0) && decide (chgS s ≤ 1048576)) = true := by simp [g0, g1]
    have a3 : (decide (latS s ≥ 0) && decide (latS s ≤ 2560)) = true := by simp [l0, l1]
    have a4 : (decide ((bsum s.Fires 4 : Int) ≥ 0) && decide ((bsum s.Fires 4 : Int) ≤ 4)) = true := by simp; omega
    simp only [Option.bind_some, Bool.not_true, cond_false, torque_within, a1, a2, a3, a4, h3, show ((0 : Int) != 0) = false from rfl, show (decide ((4 : Int) ≥ 1) && decide ((4 : Int) ≤ 8)) = true from rfl]
    rw [e4 o _ 4 o0 o1 (by omega) (by omega) (by omega) (by omega)]
    rfl
  unfold spdS chgS latS at hT
  simp only [show ((4 : Nat) : Int) = 4 from rfl]
  rw [hT]
  simp only [Option.bind_some, show ((0 : Int) != 0) = false from rfl, Bool.or_self, cond_false]
  rfl
theorem step_dat {t : STables} (hw : mapB t.Wish = true) (ht : torB t = true) {s : Smagnetotop_ReactionStep} (hs : WfS s) :
    ∃ P A R : Int, 100 ≤ P ∧ P ≤ 10100 ∧ 0 ≤ R ∧ R ≤ A ∧ A ≤ 20000 ∧ ∀ v, magnetotop_monitored_step v t s = stepV P A R v := by
  obtain ⟨_, c1, _, h1, _⟩ := corner_ge hw (spdS s) (pedS s)
  obtain ⟨o, c2, h3, h2, hoc⟩ := corner_ge (torB_map ht) (spdS s) (chgS s)
  obtain ⟨i, j, hi, hj, hat⟩ := At_eq (torB_map ht) (spdS s) (chgS s)
  have hob := atV_bounds (torOk ht).m hi hj (torOk ht).z
  rw [h3] at hat
  cases hat
  obtain ⟨e, he, e0, e1, hv⟩ := step_eq hw ht hs h1 h2 h3 hob.1 hob.2
  have hb := bsum_le s.Fires 4
  have hV : 0 ≤ minI (maxI c2 0) 10000 ∧ minI (maxI c2 0) 10000 ≤ 10000 ∧ atV t.Torque i j (lim t.Torque.X (spdS s)) (lim t.Torque.Y (chgS s)) ≤ minI (maxI c2 0) 10000 := by
    unfold minI maxI
    repeat' split
    all_goals omega
  have hR := ceil_ge (n := (bsum s.Fires 4 : Int)) (len := 4) hob.1 hV.2.2 e0 e1 (by omega) (by omega)
  refine ⟨_, _, _, (permV_range c1 (reqS s)).1, (permV_range c1 (reqS s)).2, ?_, hR, ?_, hv⟩
  · exact Int.ediv_nonneg (Int.mul_nonneg (Int.mul_nonneg hob.1 e0) (by omega)) (by omega)
  · try unfold actualT
    have n0 : 0 ≤ minI (maxI c2 0) 10000 * (bsum s.Fires 4 : Int) := Int.mul_nonneg hV.1 (by omega)
    have n1 : minI (maxI c2 0) 10000 * (bsum s.Fires 4 : Int) ≤ 10000 * 4 := Int.mul_le_mul hV.2.1 (by omega) (by omega) (by omega)
    rw [Int.tdiv_eq_ediv_of_nonneg (by omega)]
    omega
/-! ### the run -/
def gst (g : SGuard) (over : Bool) : SGuard := bif over then ⟨minI 5 (g.Over + 1), 0, g.Off || (minI 5 (g.Over + 1) == 5)⟩ else ⟨0, minI 1000 (g.Calm + 1), g.Off⟩
def sst (s : SStage) (g : SGuard) (now : Int) : SStage := ⟨!g.Off, bif g.Off then 2 else 0, bif (!g.Off) == s.Enabled then s.Since else now⟩
/-- The state behind a step. -/
def rst (P A R : Int) (u : Int × Int × Bool × Bool × Smagnetotop_monitored) : Int × Int × Bool × Bool × Smagnetotop_monitored :=
  let g := gst u.2.2.2.2.guard (decide (A > P))
  let row := bif decide ((bif !g.Off then R else 0) ≤ P) then 0 else u.2.1 + 1
  (maxI u.1 row, row, u.2.2.1 && decide (A ≤ P), u.2.2.2.1 || g.Off, ⟨g, u.2.2.2.2.quiz, sst u.2.2.2.2.stage g (u.2.2.2.2.now + 10000), u.2.2.2.2.now + 10000⟩)
structure InvR (k : Nat) (u : Int × Int × Bool × Bool × Smagnetotop_monitored) : Prop where
  g : guardV u.2.2.2.2.guard
  q : u.2.2.2.2.quiz = ⟨1, 0, 0, false, false⟩
  cause : 0 ≤ u.2.2.2.2.stage.Cause ∧ u.2.2.2.2.stage.Cause ≤ 3
  en : u.2.2.2.2.stage.Enabled = (u.2.2.2.2.stage.Cause == 0)
  since : 0 ≤ u.2.2.2.2.stage.Since ∧ u.2.2.2.2.stage.Since ≤ 10000 * k
  now : u.2.2.2.2.now = 10000 * k
  off : u.2.2.2.1 = u.2.2.2.2.guard.Off
  kept : u.2.2.1 = true → u.2.2.2.2.guard.Over = 0 ∧ u.2.2.2.2.guard.Off = false
  row0 : 0 ≤ u.2.1
  row : u.2.1 ≤ 4 ∧ (u.2.2.2.2.guard.Off = false → u.2.1 ≤ u.2.2.2.2.guard.Over)
  most : u.1 ≤ 4
theorem gst_valid {g : SGuard} (h : guardV g) (b : Bool) : guardV (gst g b) := by
  unfold guardV at h ⊢
  unfold gst minI
  obtain ⟨h1, h2, h3, h4⟩ := h
  cases b
  · simp only [cond_false]
    refine ⟨by omega, by split <;> omega, by simp, ?_⟩
    exact .inr (by omega)
  · simp only [cond_true]
    split
    · refine ⟨by omega, by omega, by simp, ?_⟩
      by_cases h5 : g.Over + 1 = 5
      · exact .inl (by simp [h5])
      · exact .inr (by omega)
    · exact ⟨by omega, by omega, by simp, .inl (by simp)⟩
theorem mstep_eq {g : SGuard} (h : guardV g) {P A : Int} (hP : 100 ≤ P ∧ P ≤ 10100) (hA : 0 ≤ A ∧ A ≤ 20000) : monitor_Step g P A = some (gst g (decide (A > P)), 0) := by
  unfold monitor_Step
  rw [guard_mon, decide_eq_true h, torque_mon, torque_mon, decide_eq_true (show torqueV P from by unfold torqueV; omega), decide_eq_true (show torqueV A from by unfold torqueV; omega)]
  simp only [Option.bind_some, Bool.not_true, cond_false]
  unfold guardV at h
  unfold gst
  rw [w64_of (n := g.Over + 1) (by omega) (by omega), w64_of (n := g.Calm + 1) (by omega) (by omega)]
  cases decide (A > P) <;> rfl
theorem quiz_ok : quiz_Valid ⟨1, 0, 0, false, false⟩ = some true := by
  unfold quiz_Valid quiz_question quiz_instant
  rfl
theorem sstep_eq {k : Nat} {u : Int × Int × Bool × Bool × Smagnetotop_monitored} (h : InvR k u) (hk : k < 100) {g : SGuard} (hg : guardV g) :
    stage_Step u.2.2.2.2.stage true g u.2.2.2.2.quiz (u.2.2.2.2.now + 10000) = some (sst u.2.2.2.2.stage g (u.2.2.2.2.now + 10000), 0) := by
  have hc := h.cause; have hs := h.since; have hn := h.now
  unfold stage_Step stage_Valid stage_time
  rw [guard_mon, decide_eq_true hg, h.q, quiz_ok, h.en]
  have e1 : ((decide (u.2.2.2.2.stage.Cause ≥ 0) && decide (u.2.2.2.2.stage.Cause ≤ 3)) && ((u.2.2.2.2.stage.Cause == 0) == (u.2.2.2.2.stage.Cause == 0))) = true := by simp; omega
  have e2 : (decide (u.2.2.2.2.stage.Since ≥ 0) && decide (u.2.2.2.2.stage.Since ≤ 1099511627776)) = true := by simp; omega
  have e3 : (decide (u.2.2.2.2.now + 10000 ≥ 0) && decide (u.2.2.2.2.now + 10000 ≤ 1099511627776)) = true := by simp; omega
  have e4 : decide (u.2.2.2.2.now + 10000 < u.2.2.2.2.stage.Since) = false := by simp; omega
  rw [e1, e2, e3, e4]
  simp only [Option.bind_some, Bool.not_true, cond_false, cond_true]
  unfold stage_cause sst
  rw [h.en]
  cases g.Off
  · simp only [Bool.not_true, cond_false, Option.bind_some, Bool.not_false, beq_self_eq_true]
    cases (true == (u.2.2.2.2.stage.Cause == 0)) <;> rfl
  · simp only [Bool.not_true, cond_false, cond_true, Option.bind_some, show ((2 : Int) == 0) = false from rfl]
    cases (false == (u.2.2.2.2.stage.Cause == 0)) <;> rfl
theorem swAt (now : Int) (h0 : 0 ≤ now) (h1 : now ≤ 1099511627776) : stage_list [⟨now, 0, true⟩, ⟨now, 1, false⟩] = some true := by
  unfold stage_list
  rw [rangeM_steps _ (by simp)]
  have e1 : (decide (now ≥ 0) && decide (now ≤ 1099511627776)) = true := by simp [h0, h1]
  have e2 : decide (now < 0) = false := by simp; omega
  have e3 : decide (now < now) = false := by simp
  have b1 : stage_list_b1 0 ⟨now, 0, true⟩ 0 = some (.next now) := by
    unfold stage_list_b1 stage_time
    simp only [e1, e2, Option.bind_some]
    rfl
  have b2 : stage_list_b1 (0 + 1) ⟨now, 1, false⟩ now = some (.next now) := by
    unfold stage_list_b1 stage_time
    simp only [e1, e3, Option.bind_some]
    rfl
  simp only [stepsL, b1, b2, Option.bind_some]
  rfl
theorem pass_off {s : SStage} (hc : 0 ≤ s.Cause ∧ s.Cause ≤ 3) (he : s.Enabled = (s.Cause == 0)) (hs : 0 ≤ s.Since ∧ s.Since ≤ 1099511627776) (hoff : s.Enabled = false) {now : Int} (h0 : 0 ≤ now) (h1 : now ≤ 1099511627776) :
    stage_Pass s [⟨now, 0, true⟩, ⟨now, 1, false⟩] = some ([⟨now, 1, false⟩], 0) := by
  have hv : stage_Valid s = some true := by
    unfold stage_Valid stage_time
    have e1 : ((decide (s.Cause ≥ 0) && decide (s.Cause ≤ 3)) && (s.Enabled == (s.Cause == 0))) = true := by rw [he]; simp; omega
    have e2 : (decide (s.Since ≥ 0) && decide (s.Since ≤ 1099511627776)) = true := by simp; omega
    rw [e1, e2]; rfl
  unfold stage_Pass
  rw [hv, swAt now h0 h1]
  simp only [Option.bind_some, Bool.not_true, cond_false]
  unfold slices_Clone_sSwitch
  rw [appendM_ok _ _ (by simp)]
  simp only [Option.bind_some, List.nil_append]
  have hd : slices_DeleteFunc_sSwitch [⟨now, 0, true⟩, ⟨now, 1, false⟩] (fun x0 => stage_Pass_1 x0 s) = some [⟨now, 1, false⟩] := by
    unfold slices_DeleteFunc_sSwitch
    have hi : slices_IndexFunc_sSwitch [⟨now, 0, true⟩, ⟨now, 1, false⟩] (fun x0 => stage_Pass_1 x0 s) = some 0 := by
      unfold slices_IndexFunc_sSwitch
      rw [show ((([⟨now, 0, true⟩, ⟨now, 1, false⟩] : List SSwitch).length : Nat) : Int) = ((2 : Nat) : Int) from rfl, rangeN_steps 2 (by decide)]
      simp only [stepsN, slices_IndexFunc_sSwitch_b1, getI, stage_Pass_1, hoff]
      rfl
    rw [hi]
    have hl : loopM (slices_DeleteFunc_sSwitch_b1 (fun x0 => stage_Pass_1 x0 s)) (0, w64 (0 + 1), [⟨now, 0, true⟩, ⟨now, 1, false⟩]) = some (.inl (1, 2, [⟨now, 1, false⟩, ⟨now, 1, false⟩])) := by
      rw [loopM_next (s' := (1, 2, [⟨now, 1, false⟩, ⟨now, 1, false⟩])), loopM_out]
      · rfl
      · simp only [slices_DeleteFunc_sSwitch_b1, stage_Pass_1, hoff]
        rfl
    simp only [Option.bind_some]
    rw [show ((0 : Int) == -1) = false from rfl]
    simp only [cond_false]
    rw [hl]
    rfl
  rw [hd]
  rfl
theorem equal_sw (now : Int) : slices_Equal_sSwitch [⟨now, 1, false⟩] [⟨now, 1, false⟩] = some true := by
  unfold slices_Equal_sSwitch
  rw [show ((([⟨now, 1, false⟩] : List SSwitch).length : Nat) : Int) = ((1 : Nat) : Int) from rfl, rangeN_steps 1 (by decide)]
  simp only [stepsN, slices_Equal_sSwitch_b1, getI]
  simp
theorem decide_nil : arbiter_Decide [] 0 10000 = some (⟨0, -1⟩, 0) := by
  rw [Ar.Decide_eq [] 0 10000 (by decide)]
  have hf : Ar.Fine [] 0 10000 := ⟨fun r h => (by simp at h), by decide, by decide, by decide, by decide⟩
  rw [if_pos (Ar.chk_zero.2 hf)]
  rfl
theorem run_step {t : STables} {k : Nat} {u : Int × Int × Bool × Bool × Smagnetotop_monitored} {s : Smagnetotop_ReactionStep} {P A R : Int} (i : Int) (h : InvR k u) (hk : k < 100) (hP : 100 ≤ P ∧ P ≤ 10100) (hR : 0 ≤ R ∧ R ≤ A) (hA : A ≤ 20000)
    (hs : ∀ v, magnetotop_monitored_step v t s = stepV P A R v) : magnetotop_reactionOver_b1 t i s u = some (.next (rst P A R u)) ∧ InvR (k + 1) (rst P A R u) := by
  have hg := gst_valid h.g (decide (A > P))
  have hn := h.now; have hsi := h.since; have hrow := h.row; have hrow0 := h.row0; have hmost := h.most
  generalize hgg : gst u.2.2.2.2.guard (decide (A > P)) = g at hg
  have hms := mstep_eq h.g hP (A := A) (by omega)
  have hss := sstep_eq h hk hg
  have hgv := hg
  unfold guardV at hgv
  -- the row
  have hdel : (Option.bind (bif (!g.Off) then (some R) else (some 0)) fun (delivered : Int) => some delivered) = some (bif !g.Off then R else 0) := by cases g.Off <;> rfl
  have hov : g.Off = false → (bif !g.Off then R else 0) > P → g.Over = u.2.2.2.2.guard.Over + 1 ∧ u.2.2.2.2.guard.Off = false := by
    intro ho hr
    rw [ho] at hr
    simp only [Bool.not_false, cond_true] at hr
    have hd : decide (A > P) = true := by simp; omega
    rw [← hgg, hd] at ho ⊢
    unfold gst at ho ⊢
    simp only [cond_true, Bool.or_eq_false_iff] at ho ⊢
    have h5 : ¬ minI 5 (u.2.2.2.2.guard.Over + 1) = 5 := by simpa using ho.2
    refine ⟨?_, ho.1⟩
    unfold minI at h5 ⊢
    split at h5 <;> split <;> omega
  have hOn : u.2.2.2.2.guard.Off = true → g.Off = true := by
    intro ho
    rw [← hgg]; unfold gst; cases decide (A > P) <;> simp [ho]
  have hInv : InvR (k + 1) (rst P A R u) := by
    refine ⟨?_, h.q, ?_, ?_, ?_, ?_, ?_, ?_, ?_, ?_, ?_⟩
    · show guardV (gst u.2.2.2.2.guard (decide (A > P))); rw [hgg]; exact hg
    · show 0 ≤ (sst u.2.2.2.2.stage (gst u.2.2.2.2.guard (decide (A > P))) (u.2.2.2.2.now + 10000)).Cause ∧ (sst u.2.2.2.2.stage (gst u.2.2.2.2.guard (decide (A > P))) (u.2.2.2.2.now + 10000)).Cause ≤ 3
      rw [hgg]; unfold sst; cases g.Off <;> simp
    · show (sst u.2.2.2.2.stage (gst u.2.2.2.2.guard (decide (A > P))) (u.2.2.2.2.now + 10000)).Enabled = ((sst u.2.2.2.2.stage (gst u.2.2.2.2.guard (decide (A > P))) (u.2.2.2.2.now + 10000)).Cause == 0)
      rw [hgg]; unfold sst; cases g.Off <;> rfl
    · show 0 ≤ (sst u.2.2.2.2.stage (gst u.2.2.2.2.guard (decide (A > P))) (u.2.2.2.2.now + 10000)).Since ∧ (sst u.2.2.2.2.stage (gst u.2.2.2.2.guard (decide (A > P))) (u.2.2.2.2.now + 10000)).Since ≤ 10000 * ((k + 1 : Nat) : Int)
      rw [hgg]; unfold sst
      cases (!g.Off) == u.2.2.2.2.stage.Enabled
      · simp only [cond_false]; push_cast; omega
      · simp only [cond_true]; push_cast; omega
    · show u.2.2.2.2.now + 10000 = _
      push_cast; omega
    · show (u.2.2.2.1 || (gst u.2.2.2.2.guard (decide (A > P))).Off) = (gst u.2.2.2.2.guard (decide (A > P))).Off
      rw [hgg, h.off]
      cases ho : u.2.2.2.2.guard.Off
      · rfl
      · rw [hOn ho]; rfl
    · intro hk'
      have hk' : (u.2.2.1 && decide (A ≤ P)) = true := hk'
      simp only [Bool.and_eq_true, decide_eq_true_eq] at hk'
      obtain ⟨k1, k2⟩ := hk'
      have := h.kept k1
      show (gst u.2.2.2.2.guard (decide (A > P))).Over = 0 ∧ (gst u.2.2.2.2.guard (decide (A > P))).Off = false
      have hd : decide (A > P) = false := by simp; omega
      rw [hd]; exact ⟨rfl, this.2⟩
    · show 0 ≤ (bif decide ((bif !(gst u.2.2.2.2.guard (decide (A > P))).Off then R else 0) ≤ P) then 0 else u.2.1 + 1)
      cases decide ((bif !(gst u.2.2.2.2.guard (decide (A > P))).Off then R else 0) ≤ P)
      · simp only [cond_false]; omega
      · simp
    · show (bif decide ((bif !(gst u.2.2.2.2.guard (decide (A > P))).Off then R else 0) ≤ P) then 0 else u.2.1 + 1) ≤ 4 ∧ ((gst u.2.2.2.2.guard (decide (A > P))).Off = false → (bif decide ((bif !(gst u.2.2.2.2.guard (decide (A > P))).Off then R else 0) ≤ P) then 0 else u.2.1 + 1) ≤ (gst u.2.2.2.2.guard (decide (A > P))).Over)
      rw [hgg]
      by_cases hr : (bif !g.Off then R else 0) ≤ P
      · rw [decide_eq_true hr]; simp only [cond_true]; exact ⟨by omega, fun _ => by omega⟩
      · rw [decide_eq_false hr]
        simp only [cond_false]
        have ho : g.Off = false := by
          cases ho : g.Off
          · rfl
          · rw [ho] at hr; simp at hr; omega
        have h1 := hov ho (by omega)
        have h2 := hrow.2 h1.2
        have h3 : g.Over < 5 := by
          rcases hgv.2.2.2 with h4 | h4
          · rw [ho] at h4; cases h4
          · exact h4
        exact ⟨by omega, fun _ => by omega⟩
    · show maxI u.1 (bif decide ((bif !(gst u.2.2.2.2.guard (decide (A > P))).Off then R else 0) ≤ P) then 0 else u.2.1 + 1) ≤ 4
      rw [hgg]
      have h4 : (bif decide ((bif !g.Off then R else 0) ≤ P) then 0 else u.2.1 + 1) ≤ 4 := by
        by_cases hr : (bif !g.Off then R else 0) ≤ P
        · rw [decide_eq_true hr]; simp
        · rw [decide_eq_false hr]
          simp only [cond_false]
          have ho : g.Off = false := by
            cases ho : g.Off
            · rfl
            · rw [ho] at hr; simp at hr; omega
          have h1 := hov ho (by omega)
          have h2 := hrow.2 h1.2
          have h3 : g.Over < 5 := by
            rcases hgv.2.2.2 with h4 | h4
            · rw [ho] at h4; cases h4
            · exact h4
          omega
      unfold maxI; split <;> omega
  refine ⟨?_, hInv⟩
  unfold magnetotop_reactionOver_b1
  rw [hs]
  unfold stepV
  simp only
  have hw : w64 (u.2.2.2.2.now + 10000) = u.2.2.2.2.now + 10000 := w64_of (by omega) (by omega)
  have hq' : (⟨u.2.2.2.2.quiz.Question, u.2.2.2.2.quiz.Asked, u.2.2.2.2.quiz.Errors, u.2.2.2.2.quiz.Open, u.2.2.2.2.quiz.Off⟩ : SQuiz) = u.2.2.2.2.quiz := rfl
  have hg' : (⟨u.2.2.2.2.guard.Over, u.2.2.2.2.guard.Calm, u.2.2.2.2.guard.Off⟩ : SGuard) = u.2.2.2.2.guard := rfl
  have hs' : (⟨u.2.2.2.2.stage.Enabled, u.2.2.2.2.stage.Cause, u.2.2.2.2.stage.Since⟩ : SStage) = u.2.2.2.2.stage := rfl
  rw [hq', hg', hs', hms, hgg]
  simp only [Option.bind_some]
  rw [hw, hss]
  have hRA : decide (R > A) = false := by simp; omega
  simp only [Option.bind_some, hRA, show ((0 : Int) != 0) = false from rfl, Bool.or_self, cond_false]
  have hd2 : (bif (sst u.2.2.2.2.stage g (u.2.2.2.2.now + 10000)).Enabled then (some R) else (some 0)) = some (bif !g.Off then R else 0) := by unfold sst; cases g.Off <;> rfl
  rw [hd2]
  simp only [Option.bind_some, Bool.not_true, cond_false]
  generalize hdl : (bif !g.Off then R else 0) = del
  have hrw : (bif (decide (del ≤ P)) then (some (0 : Int)) else (some (w64 (u.2.1 + 1)))) = some (bif decide (del ≤ P) then 0 else u.2.1 + 1) := by
    rw [w64_of (n := u.2.1 + 1) (by omega) (by omega)]; cases decide (del ≤ P) <;> rfl
  rw [hrw]
  simp only [Option.bind_some]
  have hen : (sst u.2.2.2.2.stage g (u.2.2.2.2.now + 10000)).Enabled = !g.Off := rfl
  rw [hen]
  have hchk : (bif ((u.2.2.1 && decide (A ≤ P)) && (!(!g.Off))) then (some true) else (some (u.2.2.2.1 && (!g.Off)))) = some false := by
    cases ho : g.Off
    · simp only [Bool.not_false, Bool.not_true, Bool.and_false, cond_false]
      have : u.2.2.2.1 = false := by
        rw [h.off]
        cases hx : u.2.2.2.2.guard.Off
        · rfl
        · rw [hOn hx] at ho; cases ho
      rw [this]; rfl
    · simp only [Bool.not_true, Bool.not_false, Bool.and_true, Bool.and_false]
      have : (u.2.2.1 && decide (A ≤ P)) = false := by
        cases hx : u.2.2.1 && decide (A ≤ P)
        · rfl
        · have hx' := hx
          simp only [Bool.and_eq_true, decide_eq_true_eq] at hx
          have h1 := h.kept hx.1
          have hd : decide (A > P) = false := by simp; omega
          rw [← hgg, hd] at ho
          have : u.2.2.2.2.guard.Off = true := ho
          rw [h1.2] at this; cases this
      rw [this]; rfl
  rw [hchk]
  simp only [Option.bind_some, cond_false]
  have hpass : (bif (u.2.2.2.1 || (!(!g.Off))) then (Option.bind (Option.bind (stage_Pass (⟨!g.Off, (sst u.2.2.2.2.stage g (u.2.2.2.2.now + 10000)).Cause, (sst u.2.2.2.2.stage g (u.2.2.2.2.now + 10000)).Since⟩ : SStage) ([(⟨u.2.2.2.2.now + 10000, 0, true⟩ : SSwitch), (⟨u.2.2.2.2.now + 10000, 1, false⟩ : SSwitch)] : List SSwitch)) fun r4 => some (r4.1, r4.2)) fun (s2 : List SSwitch × Int) => Option.bind (bif (s2.2 != 0) then (some true) else (Option.bind (slices_Equal_sSwitch s2.1 ([(⟨u.2.2.2.2.now + 10000, 1, false⟩ : SSwitch)] : List SSwitch)) fun v2 => some (!v2))) fun b3 => bif b3 then (some (Sum.inr ((0 : Int), false))) else (some (Sum.inl ()))) else (some (Sum.inl ()))) = (some (Sum.inl ()) : Option (Unit ⊕ (Int × Bool))) := by
    cases ho : g.Off
    · have : u.2.2.2.1 = false := by
        rw [h.off]
        cases hx : u.2.2.2.2.guard.Off
        · rfl
        · rw [hOn hx] at ho; cases ho
      rw [this]; rfl
    · simp only [Bool.not_true, Bool.not_false, Bool.or_true, cond_true]
      have hc : (sst u.2.2.2.2.stage g (u.2.2.2.2.now + 10000)).Cause = 2 := by unfold sst; rw [ho]; rfl
      have hsn := hInv.since
      have hsn' : 0 ≤ (sst u.2.2.2.2.stage g (u.2.2.2.2.now + 10000)).Since ∧ (sst u.2.2.2.2.stage g (u.2.2.2.2.now + 10000)).Since ≤ 10000 * ((k + 1 : Nat) : Int) := by rw [← hgg]; exact hsn
      rw [hc, pass_off (s := ⟨false, 2, _⟩) (by simp) rfl (by show 0 ≤ (sst u.2.2.2.2.stage g (u.2.2.2.2.now + 10000)).Since ∧ _; constructor; exact hsn'.1; have := hsn'.2; show (sst u.2.2.2.2.stage g (u.2.2.2.2.now + 10000)).Since ≤ _; push_cast at this; omega) rfl (by omega) (by omega)]
      simp only [Option.bind_some, bne_self_eq_false, cond_false]
      rw [equal_sw]
      rfl
  rw [hpass]
  simp only [Option.bind_some]
  rw [decide_nil]
  have hz : decide ((0 : Int) > P) = false := by simp; omega
  simp only [Option.bind_some, bne_self_eq_false, Bool.false_or, hz, cond_false]
  unfold rst
  simp only [hgg, hdl, Bool.not_not]
  rfl
theorem init_inv : InvR 0 (0, 0, true, false, ⟨⟨0, 0, false⟩, ⟨1, 0, 0, false, false⟩, ⟨false, 1, 0⟩, 0⟩) :=
  ⟨by unfold guardV; decide, rfl, by decide, rfl, by decide, rfl, rfl, fun _ => ⟨rfl, rfl⟩, by decide, ⟨by decide, fun _ => by decide⟩, by decide⟩
theorem run_all {t : STables} (hw : mapB t.Wish = true) (ht : torB t = true) : ∀ (l : List Smagnetotop_ReactionStep) (i : Int) (k : Nat) (u : Int × Int × Bool × Bool × Smagnetotop_monitored), k + l.length ≤ 100 → (∀ s ∈ l, WfS s) → InvR k u →
    ∃ u', stepsL (magnetotop_reactionOver_b1 t) l i u = some (.inl u') ∧ InvR (k + l.length) u'
  | [], i, k, u, _, _, h => ⟨u, rfl, h⟩
  | s :: l, i, k, u, hk, hs, h => by
    simp only [List.length_cons] at hk
    obtain ⟨P, A, R, p0, p1, r0, r1, a1, he⟩ := step_dat hw ht (hs s (List.mem_cons_self ..))
    obtain ⟨h1, h2⟩ := run_step i h (by omega) ⟨p0, p1⟩ ⟨r0, r1⟩ a1 he
    obtain ⟨u', h3, h4⟩ := run_all hw ht l (i + 1) (k + 1) _ (by omega) (fun y hy => hs y (List.mem_cons_of_mem _ hy)) h2
    refine ⟨u', ?_, by rw [List.length_cons, show k + (l.length + 1) = k + 1 + l.length by omega]; exact h4⟩
    simp only [stepsL, h1, Option.bind_some]
    exact h3
theorem over_ok {t : STables} (hw : mapB t.Wish = true) (ht : torB t = true) (l : List Smagnetotop_ReactionStep) (hl : l.length ≤ 100) (hs : ∀ s ∈ l, WfS s) : ∃ n, magnetotop_reactionOver t l = some (n, true) ∧ n ≤ 4 := by
  unfold magnetotop_reactionOver quiz_New quiz_question stage_New
  simp only [Option.bind_some, show (decide ((1 : Int) ≥ 1) && decide ((1 : Int) ≤ 65535)) = true from rfl, Bool.not_true, cond_false, bne_self_eq_false]
  rw [rangeM_steps _ (by omega)]
  obtain ⟨u, h1, h2⟩ := run_all hw ht l 0 0 _ (by omega) hs init_inv
  rw [h1]
  exact ⟨u.1, rfl, h2.most⟩
/-! ### the probe -/
def quietT : STables := ⟨⟨[], [], []⟩, ⟨[], [], []⟩, ⟨[0, 1], [0, 1], [[900, 900], [900, 900]]⟩, ⟨[0, 1], [0, 1], [[0, 0], [0, 0]]⟩, ⟨[], []⟩, ⟨[], []⟩, ⟨[], []⟩, ⟨[0, 1], [1000, 1000]⟩, ⟨0, 0, 0, 0⟩⟩
def quietS : Smagnetotop_ReactionStep := ⟨0, 0, 0, 0, 15, false, 0⟩
theorem around01 : monitor_around [0, 1] 0 = some (0, 0) := by
  have e0 : rangeN (([0, 1] : List Int).length : Int) (monitor_around_b1 [0, 1] 0) 0 = some (.inl 0) := by
    rw [show (([0, 1] : List Int).length : Int) = ((2 : Nat) : Int) from rfl, rangeN_steps 2 (by decide)]
    rfl
  have e2 : loopM (monitor_around_b2 [0, 1] 0) (1, 1) = some (.inl (-1, 0)) := by
    rw [loopM_next (s' := (0, 1)) rfl, loopM_next (s' := (-1, 0)) rfl, loopM_out (b := .inl (-1, 0)) rfl]
  unfold monitor_around
  rw [e0]
  simp only [Option.bind_some]
  rw [show (w64 ((([0, 1] : List Int).length : Int) - 1), w64 ((([0, 1] : List Int).length : Int) - 1)) = ((1, 1) : Int × Int) from rfl, e2]
  rfl
theorem quiet_wish : mapB quietT.Wish = true := by decide
theorem quiet_tor : torB quietT = true := by decide
theorem quiet_wf : WfS quietS := ⟨by decide, by decide, by decide, by decide⟩
theorem quiet_step : ∀ v, magnetotop_monitored_step v quietT quietS = stepV 100 900 900 v := by
  have h1 : monitor_corner quietT.Wish (spdS quietS) (pedS quietS) = some 0 := by
    unfold monitor_corner
    rw [show spdS quietS = 0 from rfl, show pedS quietS = 0 from rfl]
    rw [show quietT.Wish.X = [0, 1] from rfl, show quietT.Wish.Y = [0, 1] from rfl, around01]
    rfl
  have h2 : monitor_corner quietT.Torque (spdS quietS) (chgS quietS) = some 900 := by
    unfold monitor_corner
    rw [show spdS quietS = 0 from rfl, show chgS quietS = 0 from rfl]
    rw [show quietT.Torque.X = [0, 1] from rfl, show quietT.Torque.Y = [0, 1] from rfl, around01]
    rfl
  obtain ⟨i, j, hi, hj, hat⟩ := At_eq (torB_map quiet_tor) (spdS quietS) (chgS quietS)
  have hz : ∀ i j, i < quietT.Torque.X.length → j < quietT.Torque.Y.length → 900 ≤ zz quietT.Torque i j ∧ zz quietT.Torque i j ≤ 900 := by
    intro i j hi hj
    have hi : i < 2 := hi
    have hj : j < 2 := hj
    match i, j, hi, hj with
    | 0, 0, _, _ => decide
    | 0, 1, _, _ => decide
    | 1, 0, _, _ => decide
    | 1, 1, _, _ => decide
  have hob := atV_bounds (torOk quiet_tor).m hi hj hz
  generalize atV quietT.Torque i j (lim quietT.Torque.X (spdS quietS)) (lim quietT.Torque.Y (chgS quietS)) = o at hat hob
  have ho : o = 900 := by omega
  subst ho
  obtain ⟨e, e1, e2, e3, hv⟩ := step_eq quiet_wish quiet_tor quiet_wf h1 h2 hat (by decide) (by decide)
  have he : e = 1000 := by
    obtain ⟨i, hi, e'⟩ := curveAt_eq (torB_cur quiet_tor) (latS quietS)
    have hy : ∀ j, j < quietT.Efficiency.X.length → 1000 ≤ nd quietT.Efficiency.Y j ∧ nd quietT.Efficiency.Y j ≤ 1000 := by
      intro j hj
      have hj : j < 2 := hj
      match j, hj with
      | 0, _ => decide
      | 1, _ => decide
    have hb := cuV_bounds (torOk quiet_tor).c hi hy
    rw [e1] at e'
    have := Option.some.inj e'
    omega
  subst he
  intro v
  rw [hv v]
  rfl
theorem quiet_run (i : Int) (k : Nat) (u : Int × Int × Bool × Bool × Smagnetotop_monitored) (h : InvR k u) (hk : k < 100) : magnetotop_reactionOver_b1 quietT i quietS u = some (.next (rst 100 900 900 u)) ∧ InvR (k + 1) (rst 100 900 900 u) :=
  run_step i h hk (by decide) (by decide) (by decide) quiet_step
theorem quiet_over : magnetotop_reactionOver quietT (List.replicate 6 quietS) = some (4, true) := by
  unfold magnetotop_reactionOver quiz_New quiz_question stage_New
  simp only [Option.bind_some, show (decide ((1 : Int) ≥ 1) && decide ((1 : Int) ≤ 65535)) = true from rfl, Bool.not_true, cond_false, bne_self_eq_false]
  rw [rangeM_steps _ (by decide)]
  obtain ⟨a1, b1⟩ := quiet_run 0 0 _ init_inv (by decide)
  obtain ⟨a2, b2⟩ := quiet_run (0 + 1) 1 _ b1 (by decide)
  obtain ⟨a3, b3⟩ := quiet_run (0 + 1 + 1) 2 _ b2 (by decide)
  obtain ⟨a4, b4⟩ := quiet_run (0 + 1 + 1 + 1) 3 _ b3 (by decide)
  obtain ⟨a5, b5⟩ := quiet_run (0 + 1 + 1 + 1 + 1) 4 _ b4 (by decide)
  obtain ⟨a6, b6⟩ := quiet_run (0 + 1 + 1 + 1 + 1 + 1) 5 _ b5 (by decide)
  simp only [List.replicate, stepsL, a1, a2, a3, a4, a5, a6, Option.bind_some]
  rfl
theorem repeat_ok : slices_Repeat_smagnetotop_ReactionStep [quietS] 6 = some (List.replicate 6 quietS) := by
  unfold slices_Repeat_smagnetotop_ReactionStep
  have hm : math_bits_Mul (IntKind.u64.wrap (([quietS] : List Smagnetotop_ReactionStep).length : Int)) (IntKind.u64.wrap 6) = some (0, 6) := by
    unfold math_bits_Mul
    rfl
  rw [hm]
  simp only [show decide ((6 : Int) < 0) = false from rfl, cond_false, Option.bind_some, show (decide ((0 : Int) > 0) || decide ((6 : Int) > 9223372036854775807)) = false from rfl]
  rw [show w64 6 = ((6 : Nat) : Int) from rfl, makeM_nat 6 (by decide)]
  simp only [Option.bind_some]
  have hl : loopM slices_Repeat_smagnetotop_ReactionStep_b1 (((min ([quietS] : List Smagnetotop_ReactionStep).length (List.replicate 6 (⟨0, 0, 0, 0, 0, false, 0⟩ : Smagnetotop_ReactionStep)).length : Nat) : Int), copyL (List.replicate 6 (⟨0, 0, 0, 0, 0, false, 0⟩ : Smagnetotop_ReactionStep)) [quietS]) = some (.inl (6, List.replicate 6 quietS)) := by
    rw [loopM_next (s' := (2, [quietS, quietS, ⟨0, 0, 0, 0, 0, false, 0⟩, ⟨0, 0, 0, 0, 0, false, 0⟩, ⟨0, 0, 0, 0, 0, false, 0⟩, ⟨0, 0, 0, 0, 0, false, 0⟩])) rfl,
      loopM_next (s' := (4, [quietS, quietS, quietS, quietS, ⟨0, 0, 0, 0, 0, false, 0⟩, ⟨0, 0, 0, 0, 0, false, 0⟩])) rfl,
      loopM_next (s' := (6, List.replicate 6 quietS)) rfl, loopM_out (b := .inl (6, List.replicate 6 quietS)) rfl]
  rw [hl]
  rfl
theorem u16_wf {x : Int} (h : (Lit.int .u16 x).wf = true) : 0 ≤ x ∧ x ≤ 65535 := by
  have m0 : IntKind.min .u16 = 0 := rfl
  have m1 : IntKind.max .u16 = 65535 := rfl
  simpa [Lit.wf, m0, m1] using h
theorem plain_TopReaction (x0 : STables) (x1 : List Smagnetotop_ReactionStep) (g0 : wf_STables x0) (g1 : (wfL wf_Smagnetotop_ReactionStep) x1)  : magnetotop_TopReaction x0 x1 = some true := by
  have hq := quiet_over
  unfold quietT at hq
  have hr := repeat_ok
  unfold quietS at hr hq
  unfold magnetotop_TopReaction
  rw [hr]
  simp only [Option.bind_some]
  rw [hq]
  simp only [Option.bind_some, Bool.not_true, Bool.false_or, bne_self_eq_false, cond_false]
  cases h40 : decide ((x1.length : Int) > 40)
  · have h40 : x1.length ≤ 40 := by simp at h40; omega
    simp only [cond_false]
    rw [torque_valid_eq]
    cases ht : torB x0
    · rfl
    · simp only [Option.bind_some, Bool.not_true, cond_false]
      cases hw : mapB x0.Wish
      · have : monitor_Permitted x0 0 0 [] = some (0, 1) := by
          unfold monitor_Permitted
          rw [valid_eq, hw]; rfl
        rw [this]; rfl
      · obtain ⟨_, c1, _, h1, _⟩ := corner_ge hw 0 0
        rw [permitted_eq hw (l := []) (by decide) rfl (by decide) (by decide) (by decide) (by decide) h1]
        simp only [Option.bind_some, bne_self_eq_false, cond_false]
        obtain ⟨n, h2, h3⟩ := over_ok hw ht x1 (by omega) (fun s hs => by
          have := g1.2 s hs
          exact ⟨u16_wf this.Pedal, u16_wf this.Speed, u16_wf this.Charge, u16_wf this.Late⟩)
        rw [h2]
        simp [h3]
  · rfl
end Go.Pv
