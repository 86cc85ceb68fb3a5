/- The value machine, part A: trees for Go values, what a world must hold for a value to read as a tree, and how that is kept from world to world. -/
import Derived.Below
import Derived.Laws.Rows
import Derived.Laws.CopyRow
import Derived.Laws.AppendOwn
import Derived.Tactics
namespace Go.Pv
open Go.RowKit

/-- A value that never changes any more: a scalar, or a slice with its rows of cells. -/
inductive Tree where
  | v (x : Value)
  | sl (n : Nat) (rows : List (List Tree))

/-- What a slot or a cell of a running function holds. -/
inductive T where
  | t (x : Tree)
  | el (cells : List Tree)
  | ptr (id off : Nat)
  | own (id : Nat)
  | pe (id i sz off : Nat)
  | agg (l : List T)
  | tup (l : List T)
  | clo (f : FuncId) (cap : List T)
  | fz (f : FuncId) (caps : List (List Tree))
  | any

inductive RT (w : World) (S : Nat → Prop) : Value → Tree → Prop
  | v (x : Value) : RT w S x (.v x)
  | slE (a : Option Addr) (cap : Nat) : RT w S (.slice a 0 cap) (.sl 0 [])
  | sl (b o cap sz : Nat) (rows : List (List Tree)) (vs : Nat → Nat → Value)
      (hcap : rows.length ≤ cap) (hS : S b) (hsz : ∀ r, r ∈ rows → r.length = sz)
      (hc : ∀ i j, i < rows.length → j < sz → w.cell? ⟨b, o + i * sz + j, none⟩ = some (vs i j))
      (hr : ∀ i j (hi : i < rows.length) (hj : j < (rows[i]).length), RT w S (vs i j) ((rows[i])[j])) :
      RT w S (.slice (some ⟨b, o, none⟩) rows.length cap) (.sl rows.length rows)

theorem RT.mono {w w' : World} {S S' : Nat → Prop} (hS : ∀ b, S b → S' b) (hw : ∀ b, S b → w'.heap[b]? = w.heap[b]?) {x : Value} {t : Tree} (h : RT w S x t) : RT w' S' x t := by
  induction h with
  | v x => exact .v x
  | slE a cap => exact .slE a cap
  | sl b o cap sz rows vs hcap hb hsz hc _ ih =>
    exact .sl b o cap sz rows vs hcap (hS b hb) hsz (fun i j hi hj => (World.cell?_of_block (w := w) (w' := w') (a := ⟨b, o + i * sz + j, none⟩) (hw b hb)).trans (hc i j hi hj)) ih

/-- A pointer to cells that stay as they are. -/
def PF (w : World) (S : Nat → Prop) (v : Value) (cells : List Tree) : Prop :=
  ∃ (b o : Nat) (vs : Nat → Value), v = .pointer (some ⟨b, o, none⟩) ∧ S b ∧ (∀ j, j < cells.length → w.cell? ⟨b, o + j, none⟩ = some (vs j)) ∧ ∀ j (hj : j < cells.length), RT w S (vs j) (cells[j])

theorem PF.mono {w w' : World} {S S' : Nat → Prop} (hS : ∀ b, S b → S' b) (hw : ∀ b, S b → w'.heap[b]? = w.heap[b]?) {v : Value} {cells : List Tree} (h : PF w S v cells) : PF w' S' v cells := by
  obtain ⟨b, o, vs, rfl, hb, hc, hr⟩ := h
  exact ⟨b, o, vs, rfl, hS b hb, fun j hj => (World.cell?_of_block (w := w) (w' := w') (a := ⟨b, o + j, none⟩) (hw b hb)).trans (hc j hj), fun j hj => (hr j hj).mono hS hw⟩

inductive RV (w : World) (S : Nat → Prop) (E : Nat → Value) : Value → T → Prop
  | t {x : Value} {y : Tree} (h : RT w S x y) : RV w S E x (.t y)
  | el (b o : Nat) (cells : List Tree) (vs : Nat → Value) (hS : S b)
      (hc : ∀ j, j < cells.length → w.cell? ⟨b, o + j, none⟩ = some (vs j))
      (hr : ∀ j (hj : j < cells.length), RT w S (vs j) (cells[j])) : RV w S E (.pointer (some ⟨b, o, none⟩)) (.el cells)
  | ptr (id off β : Nat) (h : E id = .pointer (some ⟨β, 0, none⟩)) : RV w S E (.pointer (some ⟨β, off, none⟩)) (.ptr id off)
  | own (id : Nat) (x : Value) (h : E id = x) : RV w S E x (.own id)
  | pe (id i sz off β n cap : Nat) (h : E id = .slice (some ⟨β, 0, none⟩) n cap) : RV w S E (.pointer (some ⟨β, i * sz + off, none⟩)) (.pe id i sz off)
  | agg (vs : List Value) (l : List T) (hl : vs.length = l.length) (h : ∀ j (h1 : j < vs.length) (h2 : j < l.length), RV w S E (vs[j]) (l[j])) : RV w S E (.agg vs.toArray) (.agg l)
  | tup (vs : List Value) (l : List T) (hl : vs.length = l.length) (h : ∀ j (h1 : j < vs.length) (h2 : j < l.length), RV w S E (vs[j]) (l[j])) : RV w S E (.tuple vs.toArray) (.tup l)
  | clo (f : FuncId) (vs : List Value) (l : List T) (hl : vs.length = l.length) (h : ∀ j (h1 : j < vs.length) (h2 : j < l.length), RV w S E (vs[j]) (l[j])) : RV w S E (.func (.func f) #[] vs.toArray) (.clo f l)
  | fz (f : FuncId) (vs : List Value) (l : List (List Tree)) (hl : vs.length = l.length) (h : ∀ j (h1 : j < vs.length) (h2 : j < l.length), PF w S (vs[j]) (l[j])) : RV w S E (.func (.func f) #[] vs.toArray) (.fz f l)
  | any (x : Value) : RV w S E x .any

mutual
/-- Does a slot's content name a block of the call's own? -/
def names (d : Nat) : T → Bool
  | .t _ | .el _ | .fz _ _ | .any => false
  | .ptr id _ => Nat.beq id d
  | .own id => Nat.beq id d
  | .pe id _ _ _ => Nat.beq id d
  | .agg l => namesL d l
  | .tup l => namesL d l
  | .clo _ l => namesL d l
def namesL (d : Nat) : List T → Bool
  | [] => false
  | x :: r => names d x || namesL d r
end

theorem namesL_get {d : Nat} : ∀ {l : List T}, namesL d l = false → ∀ j (h : j < l.length), names d (l[j]) = false
  | [], _, j, h => by simp at h
  | x :: r, hn, j, h => by
    simp only [namesL, Bool.or_eq_false_iff] at hn
    cases j with
    | zero => exact hn.1
    | succ j => exact namesL_get hn.2 j (by simpa using h)

theorem RV.mono {w w' : World} {S S' : Nat → Prop} {E E' : Nat → Value} (hS : ∀ b, S b → S' b) (hw : ∀ b, S b → w'.heap[b]? = w.heap[b]?) {x : Value} {t : T}
    (h : RV w S E x t) (hE : ∀ id, names id t = true → E' id = E id) : RV w' S' E' x t := by
  induction h with
  | t h => exact .t (h.mono hS hw)
  | el b o cells vs hb hc hr =>
    exact .el b o cells vs (hS b hb) (fun j hj => (World.cell?_of_block (w := w) (w' := w') (a := ⟨b, o + j, none⟩) (hw b hb)).trans (hc j hj)) (fun j hj => (hr j hj).mono hS hw)
  | ptr id off β h => exact .ptr id off β (by rw [hE id (by simp [names])]; exact h)
  | own id x h => exact .own id x (by rw [hE id (by simp [names])]; exact h)
  | pe id i sz off β n cap h => exact .pe id i sz off β n cap (by rw [hE id (by simp [names])]; exact h)
  | agg vs l hl _ ih =>
    refine .agg vs l hl fun j h1 h2 => ih j h1 h2 fun id hid => hE id ?_
    rw [names]
    cases hn : namesL id l
    · rw [namesL_get hn j h2] at hid; cases hid
    · rfl
  | tup vs l hl _ ih =>
    refine .tup vs l hl fun j h1 h2 => ih j h1 h2 fun id hid => hE id ?_
    rw [names]
    cases hn : namesL id l
    · rw [namesL_get hn j h2] at hid; cases hid
    · rfl
  | clo f vs l hl _ ih =>
    refine .clo f vs l hl fun j h1 h2 => ih j h1 h2 fun id hid => hE id ?_
    rw [names]
    cases hn : namesL id l
    · rw [namesL_get hn j h2] at hid; cases hid
    · rfl
  | fz f vs l hl h => exact .fz f vs l hl fun j h1 h2 => (h j h1 h2).mono hS hw
  | any x => exact .any x

/-- A block of the call's own: a variable's cells, or a slice's rows. -/
inductive Blk where
  | box (ts : List T)
  | rows (elem sz n : Nat) (rs : List (List Tree))

def namesB (d : Nat) : Blk → Bool
  | .box ts => namesL d ts
  | .rows .. => false

structure St where
  tm : List (Nat × T)
  hp : List (Nat × Blk)

def look {α : Type} : List (Nat × α) → Nat → Option α
  | [], _ => none
  | (k, x) :: r, n => bif Nat.beq k n then some x else look r n

def hput {α : Type} : List (Nat × α) → Nat → α → List (Nat × α)
  | [], _, _ => []
  | (k, x) :: r, n, y => bif Nat.beq k n then (k, y) :: hput r n y else (k, x) :: hput r n y

def hdel {α : Type} : List (Nat × α) → Nat → List (Nat × α)
  | [], _ => []
  | (k, x) :: r, n => bif Nat.beq k n then hdel r n else (k, x) :: hdel r n

theorem beq_ne {a b : Nat} (h : a ≠ b) : Nat.beq a b = false := by
  cases hh : Nat.beq a b
  · rfl
  · exact absurd (Nat.eq_of_beq_eq_true hh) h

theorem look_hput {α : Type} (l : List (Nat × α)) (n : Nat) (y : α) (m : Nat) : look (hput l n y) m = if n = m then (look l m).map (fun _ => y) else look l m := by
  induction l with
  | nil => simp [hput, look]
  | cons p r ih =>
    obtain ⟨k, x⟩ := p
    simp only [hput]
    by_cases hk : k = n
    · subst hk
      simp only [Nat.beq_refl, cond_true, look]
      by_cases hm : k = m
      · subst hm; simp
      · have : Nat.beq k m = false := beq_ne hm
        simp [this, ih, hm]
    · have h1 : Nat.beq k n = false := beq_ne hk
      simp only [h1, cond_false, look]
      by_cases hm : k = m
      · subst hm; simp [Ne.symm hk]
      · have : Nat.beq k m = false := beq_ne hm
        simp [this, ih]

theorem look_hdel {α : Type} (l : List (Nat × α)) (n : Nat) (m : Nat) (x : α) (h : look (hdel l n) m = some x) : n ≠ m ∧ look l m = some x := by
  induction l with
  | nil => simp [hdel, look] at h
  | cons p r ih =>
    obtain ⟨k, y⟩ := p
    simp only [hdel] at h
    by_cases hk : k = n
    · subst hk
      simp only [Nat.beq_refl, cond_true] at h
      have := ih h
      refine ⟨this.1, ?_⟩
      have hb : Nat.beq k m = false := beq_ne this.1
      simp [look, hb, this.2]
    · have h1 : Nat.beq k n = false := beq_ne hk
      simp only [h1, cond_false, look] at h
      by_cases hm : k = m
      · subst hm
        simp only [Nat.beq_refl, cond_true] at h
        exact ⟨fun e => hk e.symm, by simpa [look] using h⟩
      · have hb : Nat.beq k m = false := beq_ne hm
        simp only [hb, cond_false] at h
        have := ih h
        exact ⟨this.1, by simp [look, hb, this.2]⟩

/-- Nothing in the state names d. -/
def freshT (d : Nat) : List (Nat × T) → Bool
  | [] => true
  | (_, x) :: r => !names d x && freshT d r
def freshB (d : Nat) : List (Nat × Blk) → Bool
  | [] => true
  | (k, x) :: r => !Nat.beq k d && !namesB d x && freshB d r

theorem freshT_look {d : Nat} : ∀ {l : List (Nat × T)}, freshT d l = true → ∀ k x, look l k = some x → names d x = false
  | [], _, k, x, h => by simp [look] at h
  | (k', y) :: r, hf, k, x, h => by
    simp only [freshT, Bool.and_eq_true, Bool.not_eq_true'] at hf
    simp only [look] at h
    cases hb : Nat.beq k' k
    · rw [hb] at h; exact freshT_look hf.2 k x h
    · rw [hb] at h; simp only [cond_true, Option.some.injEq] at h; rw [← h]; exact hf.1

theorem freshB_look {d : Nat} : ∀ {l : List (Nat × Blk)}, freshB d l = true → ∀ k x, look l k = some x → k ≠ d ∧ namesB d x = false
  | [], _, k, x, h => by simp [look] at h
  | (k', y) :: r, hf, k, x, h => by
    simp only [freshB, Bool.and_eq_true, Bool.not_eq_true'] at hf
    simp only [look] at h
    cases hb : Nat.beq k' k
    · rw [hb] at h; exact freshB_look hf.2 k x h
    · rw [hb] at h; simp only [cond_true, Option.some.injEq] at h
      refine ⟨fun e => ?_, by rw [← h]; exact hf.1.2⟩
      have := Nat.eq_of_beq_eq_true hb
      subst this; subst e
      simp at hf

end Go.Pv
