/- Part Xi: what library functions compute, plain. -/
import Derived.Test.YtmocoljbdiphoaaPvXe
import Derived.Lib.BitFns
namespace Go.Pv

def bitAnd (k : IntKind) (x y : Int) : Int := k.wrap (BitVec.ofInt k.bits x &&& BitVec.ofInt k.bits y).toNat
def bitOr (k : IntKind) (x y : Int) : Int := k.wrap (BitVec.ofInt k.bits x ||| BitVec.ofInt k.bits y).toNat
def bitXor (k : IntKind) (x y : Int) : Int := k.wrap (BitVec.ofInt k.bits x ^^^ BitVec.ofInt k.bits y).toNat
def bitShl (k : IntKind) (x y : Int) : Int := k.wrap (x * 2 ^ (min y.toNat k.bits))
def bitShr (k : IntKind) (x y : Int) : Int := x.fdiv (2 ^ (min y.toNat k.bits))
/-- shifts by what may be negative; math/bits -/
def shlM (k : IntKind) (x y : Int) : Option Int := if y < 0 then none else some (bitShl k x y)
def shrM (k : IntKind) (x y : Int) : Option Int := if y < 0 then none else some (bitShr k x y)
def len64M (x : Int) : Option Int := if 0 ≤ x ∧ x ≤ 18446744073709551615 then some (Lib.bitLen x.toNat : Int) else none
def mul64M (x y : Int) : Option (Int × Int) := if (0 ≤ x ∧ x ≤ 18446744073709551615) ∧ (0 ≤ y ∧ y ≤ 18446744073709551615) then some (x * y / 18446744073709551616, x * y % 18446744073709551616) else none
/-- int(uint(x) >> 1) -/
theorem half_eq {x : Int} (h0 : 0 ≤ x) (h1 : x ≤ 4611686018427387904) : w64 (bitShr .u64 (IntKind.u64.wrap (w64 x)) 1) = x / 2 := by
  rw [w64_of (n := x) (by omega) (by omega)]
  have e : IntKind.u64.wrap x = x := by
    unfold IntKind.wrap
    simp only [IntKind.bits, IntKind.signed]
    simp only [show (2 : Int) ^ 64 = 18446744073709551616 from rfl, Bool.false_and, Bool.false_eq_true, if_false]
    omega
  rw [e]
  have e2 : bitShr .u64 x 1 = x / 2 := by
    unfold bitShr
    show x.fdiv 2 = x / 2
    exact Int.fdiv_eq_ediv_of_nonneg x (by decide)
  rw [e2]
  exact w64_of (by omega) (by omega)

/-- zeros behind nil: what is there then -/
def zerosM {α : Type} (n : Int) (z : α) : Option (List α) := if 0 < n ∧ n ≤ 1073741824 then some (List.replicate n.toNat z) else none

/-- slices.Sort at int: what l holds then. -/
noncomputable def sortIM (l : List Int) : Option (List Int) := if l.length < 4611686018427387904 then some (l.mergeSort fun x y => decide (x ≤ y)) else none

/-- A list without what equals the one ahead of it; p: the one ahead. -/
def compG (p : Int) : List Int → List Int
  | [] => []
  | y :: l => bif y == p then compG y l else y :: compG y l
def compL : List Int → List Int
  | [] => []
  | x :: l => x :: compG x l
/-- slices.Compact at int. -/
def compactM (l : List Int) : Option (List Int) := if l.length ≤ 9223372036854775807 then some (compL l) else none

theorem sortIM_ok {l : List Int} (h : l.length < 4611686018427387904) : sortIM l = some (l.mergeSort fun x y => decide (x ≤ y)) := by
  unfold sortIM; rw [if_pos h]
theorem compactM_ok {l : List Int} (h : l.length ≤ 9223372036854775807) : compactM l = some (compL l) := by
  unfold compactM; rw [if_pos h]
theorem mem_compG {x : Int} : ∀ {l : List Int} {p : Int}, x ∈ p :: compG p l ↔ x ∈ p :: l
  | [], _ => Iff.rfl
  | y :: l, p => by
    unfold compG
    have ih := mem_compG (x := x) (l := l) (p := y)
    cases h : y == p
    · simp only [cond_false, List.mem_cons] at *
      rw [ih]
    · have e : y = p := by simpa using h
      subst e
      simp only [cond_true, List.mem_cons] at *
      rw [ih]
      constructor
      · exact fun h => .inr h
      · rintro (h | h)
        · exact .inl h
        · exact h
theorem mem_compL {x : Int} {l : List Int} : x ∈ compL l ↔ x ∈ l := by
  cases l with
  | nil => exact Iff.rfl
  | cons y l => exact mem_compG
theorem compG_snoc (x : Int) : ∀ (l : List Int) (p : Int), compG p (l ++ [x]) = compG p l ++ (if x = l.getLastD p then [] else [x])
  | [], p => by
    show (bif x == p then [] else [x]) = [] ++ (if x = p then [] else [x])
    by_cases h : x = p
    · rw [if_pos h, show (x == p) = true by simpa using h]; rfl
    · rw [if_neg h, show (x == p) = false by simpa using h]; rfl
  | y :: l, p => by
    simp only [List.cons_append, compG, List.getLastD_cons]
    rw [compG_snoc x l y]
    cases y == p <;> rfl
theorem compL_snoc (x : Int) : ∀ (l : List Int) (h : l ≠ []), compL (l ++ [x]) = compL l ++ (if x = l.getLast h then [] else [x])
  | [], h => (h rfl).elim
  | y :: l, _ => by
    have e : (y :: l).getLast (List.cons_ne_nil y l) = l.getLastD y := by
      cases l with
      | nil => rfl
      | cons z l => rw [List.getLast_cons (List.cons_ne_nil z l)]; rfl
    simp only [List.cons_append, compL]
    rw [compG_snoc, e]
end Go.Pv
