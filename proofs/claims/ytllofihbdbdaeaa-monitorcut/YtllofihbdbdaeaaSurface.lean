/- Maps: surface.Valid and its reference answer alike. Plain Lean. -/
import Derived.Test.YtllofihbdbdaeaaWf
import Derived.Test.YtllofihbdbdaeaaPvXe
set_option linter.unusedSimpArgs false
namespace Go.Pv
open Go

def elB (n : Int) : Bool := decide (n ≥ -1073741824) && decide (n ≤ 1073741824)
theorem element_eq (n : Int) : surface_element n = some (elB n) := rfl
theorem far_eq (n : Int) : magnetoref06_far n = some (!elB n) := by
  unfold magnetoref06_far elB
  rw [Option.some.injEq, Bool.eq_iff_iff]
  simp only [Bool.or_eq_true, Bool.not_eq_true', Bool.and_eq_false_iff, decide_eq_true_eq, decide_eq_false_iff_not]
  omega

def axP (l : List Int) (i : Nat) : Bool := match l[i]? with
  | none => false
  | some x => elB x && (i == 0 || (match l[i - 1]? with | none => false | some y => decide (y < x)))
def axB (l : List Int) : Bool := !(decide ((l.length : Int) < 2) || decide ((l.length : Int) > 32)) && (List.range' 0 l.length).all (axP l)

theorem w64_pred (k : Nat) (h : k < 1000000) : w64 (((k + 1 : Nat) : Int) - 1) = (k : Int) := by rw [w64_of (by omega) (by omega)]; omega
theorem w64_succ (k : Nat) (h : k < 9000000000000000000) : w64 ((k : Int) + 1) = ((k + 1 : Nat) : Int) := by rw [w64_of (by omega) (by omega)]; omega

theorem obs {α : Type} (o : Option α) : (o.bind fun b => some b) = o := by cases o <;> rfl

theorem axis_step (l : List Int) (j : Nat) (hj : j < l.length) (hl : l.length ≤ 32) :
    (Option.bind (getI l j) fun x => Option.bind (surface_element x) fun v => Option.bind (bif (!v) then (some true) else (Option.bind (bif (decide ((j : Int) > 0)) then (Option.bind (getI l (w64 (j - 1))) fun x2 => some (decide (x ≤ x2))) else (some false)) fun b2 => some b2)) fun b3 => some b3) = some (!axP l j) := by
  rw [getI_nat, List.getElem?_eq_getElem hj]
  simp only [Option.bind_some, element_eq]
  unfold axP
  rw [List.getElem?_eq_getElem hj]
  simp only
  cases elB l[j]
  · rfl
  · simp only [Bool.not_true, cond_false, Bool.true_and]
    cases j with
    | zero => rfl
    | succ k =>
      have e : decide (((k + 1 : Nat) : Int) > 0) = true := by rw [decide_eq_true_eq]; omega
      have hk : k < l.length := by omega
      rw [e, w64_pred k (by omega), getI_nat, List.getElem?_eq_getElem hk]
      simp only [cond_true, Option.bind_some, Nat.add_sub_cancel, List.getElem?_eq_getElem hk, Option.some.injEq]
      rw [Bool.eq_iff_iff]
      simp

theorem axis_eq (l : List Int) : surface_axis l = some (axB l) := by
  unfold surface_axis axB
  cases h : (decide ((l.length : Int) < 2) || decide ((l.length : Int) > 32))
  · have hl : l.length ≤ 32 := by simp at h; omega
    have k := stepsN_all (f := surface_axis_b1 l) (p := axP l) (r := false) l.length 0 (fun j _ hj => by
      have s := axis_step l j (by omega) hl
      unfold surface_axis_b1
      rw [getI_nat, List.getElem?_eq_getElem (by omega)] at s ⊢
      simp only [Option.bind_some, element_eq] at s ⊢
      simp only [obs] at s ⊢
      rw [s]
      cases axP l j <;> rfl)
    rw [rangeN_steps _ (by omega)]
    rw [show ((0 : Nat) : Int) = 0 from rfl] at k
    rw [k]
    cases (List.range' 0 l.length).all (axP l) <;> rfl
  · rfl

theorem refAxis_eq (l : List Int) : magnetoref06_Axis l = some (axB l) := by
  unfold magnetoref06_Axis axB
  cases h : (decide ((l.length : Int) < 2) || decide ((l.length : Int) > 32))
  · have hl : l.length ≤ 32 := by simp at h; omega
    have k := loopM_all (mb := magnetoref06_Axis_b1 l) (fun i => (i : Int)) (p := axP l) (b0 := .inl (l.length : Int)) (b1 := .inr false) l.length (by simp [magnetoref06_Axis_b1]) (fun j hj => by
      have s := axis_step l j (by omega) hl
      unfold magnetoref06_Axis_b1
      have e : decide ((j : Int) < (l.length : Int)) = true := by simp; omega
      rw [e]
      rw [getI_nat, List.getElem?_eq_getElem (by omega)] at s ⊢
      simp only [Option.bind_some, element_eq, far_eq, cond_true] at s ⊢
      simp only [obs] at s ⊢
      rw [s, w64_succ j (by omega)]
      cases axP l j <;> rfl)
    rw [show ((0 : Nat) : Int) = 0 from rfl] at k
    rw [k]
    cases (List.range' 0 l.length).all (axP l) <;> rfl
  · rfl

theorem valid1_eq (z : Int) : surface_Valid_1 z = some (!elB z) := rfl
theorem contains_eq (l : List Int) (hn : l.length ≤ 9223372036854775807) : slices_ContainsFunc_sint l surface_Valid_1 = some (l.any fun z => !elB z) :=
  index_any l hn surface_Valid_1 _ (fun y _ => valid1_eq y)

def rowB (m : SMap) (x : List Int) : Bool := !((x.length : Int) != (m.Y.length : Int)) && !(x.any fun z => !elB z)
def mapB (m : SMap) : Bool := axB m.X && axB m.Y && !((m.Z.length : Int) != (m.X.length : Int)) && m.Z.all (rowB m)

theorem axB_len {l : List Int} (h : axB l = true) : 2 ≤ l.length ∧ l.length ≤ 32 := by
  unfold axB at h
  simp at h
  omega

theorem valid_eq (m : SMap) : surface_Valid m = some (mapB m) := by
  unfold surface_Valid mapB
  rw [axis_eq, axis_eq]
  simp only [Option.bind_some]
  cases h1 : axB m.X
  · rfl
  · cases h2 : axB m.Y
    · rfl
    · have l1 := axB_len h1
      have l2 := axB_len h2
      simp only [Bool.not_true, cond_false, Option.bind_some, Bool.false_or, Bool.and_true, Bool.true_and]
      cases h3 : ((m.Z.length : Int) != (m.X.length : Int))
      · have l3 : m.Z.length = m.X.length := by simp at h3; omega
        rw [rangeM_steps _ (by omega), stepsL_all (p := rowB m) (r := false)]
        · simp only [cond_false, Bool.not_false, Bool.true_and, Option.bind_some]
          cases m.Z.all (rowB m) <;> rfl
        · intro i y hy
          unfold surface_Valid_b1 rowB
          cases h4 : ((y.length : Int) != (m.Y.length : Int))
          · have l4 : y.length = m.Y.length := by simp at h4; omega
            rw [contains_eq y (by omega)]
            simp only [cond_false, Option.bind_some, Bool.not_false, Bool.true_and]
            cases (y.any fun z => !elB z) <;> rfl
          · rfl
      · rfl

theorem refValid_eq (m : SMap) : magnetoref06_Valid m = some (mapB m) := by
  unfold magnetoref06_Valid mapB
  rw [refAxis_eq, refAxis_eq]
  simp only [Option.bind_some]
  cases h1 : axB m.X
  · rfl
  · cases h2 : axB m.Y
    · rfl
    · have l1 := axB_len h1
      have l2 := axB_len h2
      simp only [Bool.not_true, cond_false, Option.bind_some, Bool.false_or, Bool.and_true, Bool.true_and]
      cases h3 : ((m.Z.length : Int) != (m.X.length : Int))
      · have l3 : m.Z.length = m.X.length := by simp at h3; omega
        have k := loopM_allL (mb := magnetoref06_Valid_b1 m) (fun i => (i : Int)) (p := rowB m) (b0 := .inl (m.Z.length : Int)) (b1 := .inr false) m.Z (by simp [magnetoref06_Valid_b1]) (fun j y hy => by
          have hj := (List.getElem?_eq_some_iff.1 hy).1
          unfold magnetoref06_Valid_b1 rowB
          have e : decide ((j : Int) < (m.Z.length : Int)) = true := by simp; omega
          rw [e, getI_nat, hy]
          simp only [Option.bind_some, cond_true]
          cases h4 : ((y.length : Int) != (m.Y.length : Int))
          · have l4 : y.length = m.Y.length := by simp at h4; omega
            have k2 := loopM_allL (mb := magnetoref06_Valid_b2 m y) (fun i => (i : Int)) (p := elB) (b0 := .inl (y.length : Int)) (b1 := .inr false) y (by simp [magnetoref06_Valid_b2, l4]) (fun i x hx => by
              have hi := (List.getElem?_eq_some_iff.1 hx).1
              unfold magnetoref06_Valid_b2
              have e : decide ((i : Int) < (m.Y.length : Int)) = true := by simp; omega
              rw [e, getI_nat, hx]
              simp only [Option.bind_some, cond_true, far_eq]
              rw [w64_succ i (by omega)]
              cases elB x <;> rfl)
            rw [show ((0 : Nat) : Int) = 0 from rfl] at k2
            rw [k2, w64_succ j (by omega)]
            have e2 : (y.any fun z => !elB z) = !y.all elB := by rw [List.any_eq_not_all_not]; simp
            rw [e2]
            cases y.all elB <;> rfl
          · rfl)
        rw [show ((0 : Nat) : Int) = 0 from rfl] at k
        rw [k]
        simp only [cond_false, Bool.not_false, Bool.true_and, Option.bind_some]
        cases m.Z.all (rowB m) <;> rfl
      · rfl
end Go.Pv
