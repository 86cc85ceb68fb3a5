/- This file joins: The value machine, part A: trees for Go values, what a world must hold for a value to read as a tree, and how that is kept from world to world. The value machine, part B: the state of a running function, what it says of the machine's own state, and the operations that neither call nor fail, as a function on states. The value machine, part C: each quiet operation as a function on states, and that the machine does the same. The value machine, part D: the quiet operations, all in one function, and that the machine does what it says. The value machine, part E: the quiet operations, all in one function, and that the machine does what it says. The value machine, part F: the machine does what the quiet operations' function says. The value machine, part G: one quiet operation, and many. The value machine, part H: one quiet operation in full. The value machine, part I: what code does to states, as rules. The value machine, part J: loops, functions and calls. The value machine, part K: calls, contracts from bodies, indexes. The value machine, part L: indexes, elements of the call's own slices, divisions, appends, tests within regions. The value machine, part M: joins of pure branches; the words in which models are written. -/
import Derived.Below
import Derived.Laws.Rows
import Derived.Laws.CopyRow
import Derived.Laws.AppendOwn
import Derived.Tactics
import Derived.Lib.LaidTab
import Derived.Lib.ItoaNum
set_option linter.unusedSimpArgs false
set_option linter.unusedVariables false
namespace Go.Pv
open Go.RowKit
/-- A value that never changes any more: a scalar, or a slice with its rows of cells. -/
inductive Tree where
  | v (x : Value)
  | sl (n : Nat) (rows : List (List Tree))
/-- What a slot or a cell of a running function holds. -/
inductive T where
  | t (x : Tree)
  | el (cells : List Tree)
  | ptr (id off : Nat)
  | own (id : Nat)
  | pe (id i sz off : Nat)
  | vw (id lo n sz : Nat)
  | agg (l : List T)
  | tup (l : List T)
  | clo (f : FuncId) (cap : List T)
  | fz (f : FuncId) (caps : List (List Tree))
  | any
inductive RT (w : World) (S : Nat → Prop) : Value → Tree → Prop
  | v (x : Value) : RT w S x (.v x)
  | slE (a : Option Addr) (cap : Nat) : RT w S (.slice a 0 cap) (.sl 0 [])
  | sl (b o cap sz : Nat) (rows : List (List Tree)) (vs : Nat → Nat → Value)
      (hcap : rows.length ≤ cap) (hS : S b) (hsz : ∀ r, r ∈ rows → r.length = sz)
      (hc : ∀ i j, i < rows.length → j < sz → w.cell? ⟨b, o + i * sz + j, none⟩ = some (vs i j))
      (hr : ∀ i j (hi : i < rows.length) (hj : j < (rows[i]).length), RT w S (vs i j) ((rows[i])[j])) :
      RT w S (.slice (some ⟨b, o, none⟩) rows.length cap) (.sl rows.length rows)
theorem RT.mono {w w' : World} {S S' : Nat → Prop} (hS : ∀ b, S b → S' b) (hw : ∀ b, S b → w'.heap[b]? = w.heap[b]?) {x : Value} {t : Tree} (h : RT w S x t) : RT w' S' x t := by
  induction h with
  | v x => exact .v x
  | slE a cap => exact .slE a cap
  | sl b o cap sz rows vs hcap hb hsz hc _ ih =>
    exact .sl b o cap sz rows vs hcap (hS b hb) hsz (fun i j hi hj => (World.cell?_of_block (w := w) (w' := w') (a := ⟨b, o + i * sz + j, none⟩) (hw b hb)).trans (hc i j hi hj)) ih
/-- A pointer to cells that stay as they are. -/
def PF (w : World) (S : Nat → Prop) (v : Value) (cells : List Tree) : Prop :=
  ∃ (b o : Nat) (vs : Nat → Value), v = .pointer (some ⟨b, o, none⟩) ∧ S b ∧ (∀ j, j < cells.length → w.cell? ⟨b, o + j, none⟩ = some (vs j)) ∧ ∀ j (hj : j < cells.length), RT w S (vs j) (cells[j])
theorem PF.mono {w w' : World} {S S' : Nat → Prop} (hS : ∀ b, S b → S' b) (hw : ∀ b, S b → w'.heap[b]? = w.heap[b]?) {v : Value} {cells : List Tree} (h : PF w S v cells) : PF w' S' v cells := by
  obtain ⟨b, o, vs, rfl, hb, hc, hr⟩ := h
  exact ⟨b, o, vs, rfl, hS b hb, fun j hj => (World.cell?_of_block (w := w) (w' := w') (a := ⟨b, o + j, none⟩) (hw b hb)).trans (hc j hj), fun j hj => (hr j hj).mono hS hw⟩
inductive RV (w : World) (S : Nat → Prop) (E : Nat → Value) : Value → T → Prop
  | t {x : Value} {y : Tree} (h : RT w S x y) : RV w S E x (.t y)
  | el (b o : Nat) (cells : List Tree) (vs : Nat → Value) (hS : S b)
      (hc : ∀ j, j < cells.length → w.cell? ⟨b, o + j, none⟩ = some (vs j))
      (hr : ∀ j (hj : j < cells.length), RT w S (vs j) (cells[j])) : RV w S E (.pointer (some ⟨b, o, none⟩)) (.el cells)
  | ptr (id off β : Nat) (h : E id = .pointer (some ⟨β, 0, none⟩)) : RV w S E (.pointer (some ⟨β, off, none⟩)) (.ptr id off)
  | own (id : Nat) (x : Value) (h : E id = x) : RV w S E x (.own id)
  | pe (id i sz off β n cap : Nat) (h : E id = .slice (some ⟨β, 0, none⟩) n cap) : RV w S E (.pointer (some ⟨β, i * sz + off, none⟩)) (.pe id i sz off)
  | vw (id lo n sz c : Nat) (a : Option Addr) (h : n = 0 ∨ ∃ β m cap, E id = .slice (some ⟨β, 0, none⟩) m cap ∧ a = some ⟨β, lo * sz, none⟩) : RV w S E (.slice a n c) (.vw id lo n sz)
  | agg (vs : List Value) (l : List T) (hl : vs.length = l.length) (h : ∀ j (h1 : j < vs.length) (h2 : j < l.length), RV w S E (vs[j]) (l[j])) : RV w S E (.agg vs.toArray) (.agg l)
  | tup (vs : List Value) (l : List T) (hl : vs.length = l.length) (h : ∀ j (h1 : j < vs.length) (h2 : j < l.length), RV w S E (vs[j]) (l[j])) : RV w S E (.tuple vs.toArray) (.tup l)
  | clo (f : FuncId) (vs : List Value) (l : List T) (hl : vs.length = l.length) (h : ∀ j (h1 : j < vs.length) (h2 : j < l.length), RV w S E (vs[j]) (l[j])) : RV w S E (.func (.func f) #[] vs.toArray) (.clo f l)
  | fz (f : FuncId) (vs : List Value) (l : List (List Tree)) (hl : vs.length = l.length) (h : ∀ j (h1 : j < vs.length) (h2 : j < l.length), PF w S (vs[j]) (l[j])) : RV w S E (.func (.func f) #[] vs.toArray) (.fz f l)
  | any (x : Value) : RV w S E x .any
mutual
/-- Does a slot's content name a block of the call's own? -/
def names (d : Nat) : T → Bool
  | .t _ | .el _ | .fz _ _ | .any => false
  | .ptr id _ => Nat.beq id d
  | .own id => Nat.beq id d
  | .pe id _ _ _ => Nat.beq id d
  | .vw id _ _ _ => Nat.beq id d
  | .agg l => namesL d l
  | .tup l => namesL d l
  | .clo _ l => namesL d l
def namesL (d : Nat) : List T → Bool
  | [] => false
  | x :: r => names d x || namesL d r
end
theorem namesL_get {d : Nat} : ∀ {l : List T}, namesL d l = false → ∀ j (h : j < l.length), names d (l[j]) = false
  | [], _, j, h => by simp at h
  | x :: r, hn, j, h => by
    simp only [namesL, Bool.or_eq_false_iff] at hn
    cases j with
    | zero => exact hn.1
    | succ j => exact namesL_get hn.2 j (by simpa using h)
theorem RV.mono {w w' : World} {S S' : Nat → Prop} {E E' : Nat → Value} (hS : ∀ b, S b → S' b) (hw : ∀ b, S b → w'.heap[b]? = w.heap[b]?) {x : Value} {t : T}
    (h : RV w S E x t) (hE : ∀ id, names id t = true → E' id = E id) : RV w' S' E' x t := by
  induction h with
  | t h => exact .t (h.mono hS hw)
  | el b o cells vs hb hc hr =>
    exact .el b o cells vs (hS b hb) (fun j hj => (World.cell?_of_block (w := w) (w' := w') (a := ⟨b, o + j, none⟩) (hw b hb)).trans (hc j hj)) (fun j hj => (hr j hj).mono hS hw)
  | ptr id off β h => exact .ptr id off β (by rw [hE id (by simp [names])]; exact h)
  | own id x h => exact .own id x (by rw [hE id (by simp [names])]; exact h)
  | pe id i sz off β n cap h => exact .pe id i sz off β n cap (by rw [hE id (by simp [names])]; exact h)
  | vw id lo n sz c a h => exact .vw id lo n sz c a (by rw [hE id (by simp [names])]; exact h)
  | agg vs l hl _ ih =>
    refine .agg vs l hl fun j h1 h2 => ih j h1 h2 fun id hid => hE id ?_
    rw [names]
    cases hn : namesL id l
    · rw [namesL_get hn j h2] at hid; cases hid
    · rfl
  | tup vs l hl _ ih =>
    refine .tup vs l hl fun j h1 h2 => ih j h1 h2 fun id hid => hE id ?_
    rw [names]
    cases hn : namesL id l
    · rw [namesL_get hn j h2] at hid; cases hid
    · rfl
  | clo f vs l hl _ ih =>
    refine .clo f vs l hl fun j h1 h2 => ih j h1 h2 fun id hid => hE id ?_
    rw [names]
    cases hn : namesL id l
    · rw [namesL_get hn j h2] at hid; cases hid
    · rfl
  | fz f vs l hl h => exact .fz f vs l hl fun j h1 h2 => (h j h1 h2).mono hS hw
  | any x => exact .any x
/-- A block of the call's own: a variable's cells, or a slice's rows. -/
inductive Blk where
  | box (ts : List T)
  | rows (elem sz n : Nat) (rs : List (List Tree))
  | mp (es : List (Value × Value))
  | rv (x : Value) (elem sz n : Nat) (rs : List (List Tree))
def namesB (d : Nat) : Blk → Bool
  | .box ts => namesL d ts
  | .rows .. => false
  | .mp .. => false
  | .rv .. => false
structure St where
  tm : List (Nat × T)
  hp : List (Nat × Blk)
def look {α : Type} : List (Nat × α) → Nat → Option α
  | [], _ => none
  | (k, x) :: r, n => bif Nat.beq k n then some x else look r n
def hput {α : Type} : List (Nat × α) → Nat → α → List (Nat × α)
  | [], _, _ => []
  | (k, x) :: r, n, y => bif Nat.beq k n then (k, y) :: hput r n y else (k, x) :: hput r n y
def hdel {α : Type} : List (Nat × α) → Nat → List (Nat × α)
  | [], _ => []
  | (k, x) :: r, n => bif Nat.beq k n then hdel r n else (k, x) :: hdel r n
theorem beq_ne {a b : Nat} (h : a ≠ b) : Nat.beq a b = false := by
  cases hh : Nat.beq a b
  · rfl
  · exact absurd (Nat.eq_of_beq_eq_true hh) h
theorem look_hput {α : Type} (l : List (Nat × α)) (n : Nat) (y : α) (m : Nat) : look (hput l n y) m = if n = m then (look l m).map (fun _ => y) else look l m := by
  induction l with
  | nil => simp [hput, look]
  | cons p r ih =>
    obtain ⟨k, x⟩ := p
    simp only [hput]
    by_cases hk : k = n
    · subst hk
      simp only [Nat.beq_refl, cond_true, look]
      by_cases hm : k = m
      · subst hm; simp
      · have : Nat.beq k m = false := beq_ne hm
        simp [this, ih, hm]
    · have h1 : Nat.beq k n = false := beq_ne hk
      simp only [h1, cond_false, look]
      by_cases hm : k = m
      · subst hm; simp [Ne.symm hk]
      · have : Nat.beq k m = false := beq_ne hm
        simp [this, ih]
/-- Nothing in the state names d. -/
def freshT (d : Nat) : List (Nat × T) → Bool
  | [] => true
  | (_, x) :: r => !names d x && freshT d r
def freshB (d : Nat) : List (Nat × Blk) → Bool
  | [] => true
  | (k, x) :: r => !Nat.beq k d && !namesB d x && freshB d r
theorem freshT_look {d : Nat} : ∀ {l : List (Nat × T)}, freshT d l = true → ∀ k x, look l k = some x → names d x = false
  | [], _, k, x, h => by simp [look] at h
  | (k', y) :: r, hf, k, x, h => by
    simp only [freshT, Bool.and_eq_true, Bool.not_eq_true'] at hf
    simp only [look] at h
    cases hb : Nat.beq k' k
    · rw [hb] at h; exact freshT_look hf.2 k x h
    · rw [hb] at h; simp only [cond_true, Option.some.injEq] at h; rw [← h]; exact hf.1
theorem freshB_look {d : Nat} : ∀ {l : List (Nat × Blk)}, freshB d l = true → ∀ k x, look l k = some x → k ≠ d ∧ namesB d x = false
  | [], _, k, x, h => by simp [look] at h
  | (k', y) :: r, hf, k, x, h => by
    simp only [freshB, Bool.and_eq_true, Bool.not_eq_true'] at hf
    simp only [look] at h
    cases hb : Nat.beq k' k
    · rw [hb] at h; exact freshB_look hf.2 k x h
    · rw [hb] at h; simp only [cond_true, Option.some.injEq] at h
      refine ⟨fun e => ?_, by rw [← h]; exact hf.1.2⟩
      have := Nat.eq_of_beq_eq_true hb
      subst this; subst e
      simp at hf
end Go.Pv
namespace Go.Pv
open Go.RowKit
inductive TD where
  | int (k : IntKind)
  | bool
  | string
  | slice (e : Nat)
  | struct (fs : List (Nat × Nat))
  | array (n e : Nat)
  | other
structure TI where
  size : Nat
  desc : TD
  zero : List Value
def TD.isAgg : TD → Bool
  | .struct _ | .array _ _ => true
  | _ => false
def TD.ok (P : Program) : TD → TypeDesc → Prop
  | .int k, d => d = .int k
  | .bool, d => d = .bool
  | .string, d => d = .string
  | .slice e, d => d = .slice e
  | .struct l, d => ∃ fs : Array Field, d = .struct fs ∧ l.length = fs.size ∧ ∀ (f o n : Nat), l[f]? = some (o, n) → ∃ (fd : Field) (i : TypeInfo), fs[f]? = some fd ∧ fd.offset = o ∧ P.info? fd.type = some i ∧ i.size = n
  | .array n e, d => d = .array n e
  | .other, d => (match d with | .struct _ | .array _ _ => true | _ => false) = false
def TIok (P : Program) (t : Nat) (ti : TI) : Prop :=
  ∃ i d, P.info? t = some i ∧ i.size = ti.size ∧ P.underlying t = some d ∧ ti.desc.ok P d ∧ (∃ z, i.zero = some z ∧ z.cells.toList = ti.zero) ∧ i.bytes ≤ 65536
abbrev Tab := List (Nat × TI)
def TabOk (P : Program) (tab : Tab) : Prop := ∀ t ti, look tab t = some ti → TIok P t ti
section types
variable {P : Program} {t : Nat} {ti : TI}
theorem TIok.run_size (h : TIok P t ti) (w : World) : (sizeOf t).run P w = .ok ti.size w := by
  obtain ⟨i, d, hi, hs, _⟩ := h
  simp [sizeOf, typeInfo, hi, hs]
theorem TIok.run_agg (h : TIok P t ti) (w : World) : (isAgg t).run P w = .ok ti.desc.isAgg w := by
  obtain ⟨i, d, hi, hs, hu, hd, _⟩ := h
  unfold isAgg
  rw [Sem.run_bind, run_underlying hu w]
  cases hx : ti.desc <;> rw [hx] at hd <;> simp only [TD.ok, TD.isAgg] at hd ⊢
  case struct l => obtain ⟨fs, rfl, _⟩ := hd; simp
  case other => cases d <;> simp_all
  all_goals (subst hd; simp)
theorem TIok.run_zero (h : TIok P t ti) (w : World) : ∃ z : Value, (zeroValue t).run P w = .ok z w ∧ z.cells.toList = ti.zero := by
  obtain ⟨i, d, hi, _, _, _, ⟨z, hz, hc⟩, _⟩ := h
  exact ⟨z, by simp [zeroValue, typeInfo, hi, hz], hc⟩
theorem TIok.run_under (h : TIok P t ti) (w : World) : ∃ d, (underlying t).run P w = .ok d w ∧ ti.desc.ok P d := by
  obtain ⟨i, d, _, _, hu, hd, _⟩ := h
  exact ⟨d, run_underlying hu w, hd⟩
end types
def blkOf : Value → Option Nat
  | .pointer (some a) => some a.block
  | .slice (some a) _ _ => some a.block
  | .map (some b) => some b
  | _ => none
/-- A slice of the call's own: its rows. -/
def RowsOk (w : World) (S : Nat → Prop) (x : Value) (elem sz n : Nat) (rs : List (List Tree)) : Prop :=
  n = rs.length ∧ ((x = .slice none 0 0 ∧ rs = []) ∨
      ∃ (β cap : Nat) (vs : List Value), cap ≤ maxLen ∧ x = .slice (some ⟨β, 0, none⟩) rs.length cap ∧ w.heap[β]? = some (.cells vs.toArray elem (0, 0)) ∧ vs.length = cap * sz ∧ rs.length ≤ cap ∧
        (∀ r, r ∈ rs → r.length = sz) ∧ ∀ i j (hi : i < rs.length) (hj : j < (rs[i]).length) (hb : i * sz + j < vs.length), RT w S (vs[i * sz + j]) ((rs[i])[j]))
def BlkOk (w : World) (S : Nat → Prop) (E : Nat → Value) (x : Value) : Blk → Prop
  | .box ts => ∃ (β : Nat) (vs : List Value) (elem : TypeId), x = .pointer (some ⟨β, 0, none⟩) ∧ w.heap[β]? = some (.cells vs.toArray elem (0, 0)) ∧ vs.length = ts.length ∧
      (∀ j (h1 : j < vs.length) (h2 : j < ts.length), RV w S E (vs[j]) (ts[j])) ∧ ∀ v ∈ vs, v.oneCell' = true
  | .rows elem sz n rs => RowsOk w S x elem sz n rs
  | .rv y elem sz n rs => x = y ∧ RowsOk w S x elem sz n rs
  | .mp es => ∃ (β clock : Nat) (l : Array MapEntry), x = .map (some β) ∧ w.heap[β]? = some (.map l clock) ∧ l.toList.map (fun e => (e.key, e.val)) = es
/-- The world outside the blocks that the call may write. -/
structure Keep (d : Bool) (L : Nat → Prop) (w w' : World) : Prop where
  os : w'.os = w.os
  tape : w'.tape = w.tape
  output : w'.output = w.output
  size : w.heap.size ≤ w'.heap.size
  block : ∀ k, k < w.heap.size → ¬ L k → w'.heap[k]? = w.heap[k]?
  drawn : d = true → w.drawn ≤ w'.drawn
theorem Keep.refl {d : Bool} (L : Nat → Prop) (w : World) : Keep d L w w := ⟨rfl, rfl, rfl, Nat.le_refl _, fun _ _ _ => rfl, fun _ => Nat.le_refl _⟩
theorem Keep.weak {d d' : Bool} {L : Nat → Prop} {a b : World} (h : Keep d' L a b) (hd : d = true → d' = true) : Keep d L a b := ⟨h.os, h.tape, h.output, h.size, h.block, fun x => h.drawn (hd x)⟩
theorem Keep.trans {d : Bool} {L L' : Nat → Prop} {a b c : World} (h : Keep d L a b) (k : Keep d L' b c) (hL : ∀ x, L' x → L x ∨ a.heap.size ≤ x) : Keep d L a c :=
  ⟨k.os.trans h.os, k.tape.trans h.tape, k.output.trans h.output, Nat.le_trans h.size k.size, fun i hi hn =>
    (k.block i (Nat.lt_of_lt_of_le hi h.size) (fun hx => by rcases hL i hx with h1 | h1; exact hn h1; omega)).trans (h.block i hi hn), fun x => Nat.le_trans (h.drawn x) (k.drawn x)⟩
/-- The library's table that decimal texts are made of, where the program has it: as it was laid; not among the blocks L. -/
def glN : String := "internal/strconv.uint64pow10"
def GlL (P : Program) (w : World) (L : Nat → Prop) : Prop := ∀ b, P.globalNamed glN = some b → ¬ L b ∧ b < w.heap.size ∧ Lib.TabIs P w glN .u64 Lib.pow10Tab
theorem GlL.mono {P : Program} {w : World} {L L' : Nat → Prop} (h : GlL P w L) (hL : ∀ b, L' b → L b) : GlL P w L' := fun b hb => ⟨fun x => (h b hb).1 (hL b x), (h b hb).2⟩
theorem GlL.keep {P : Program} {w w' : World} {d : Bool} {L : Nat → Prop} (h : GlL P w L) (k : Keep d L w w') : GlL P w' L := fun b hb => by
  obtain ⟨h0, h1, h2⟩ := h b hb
  refine ⟨h0, Nat.lt_of_lt_of_le h1 k.size, ?_⟩
  unfold Lib.TabIs World.var? at h2 ⊢
  rw [hb] at h2 ⊢
  simp only [Option.bind_some] at h2 ⊢
  rw [k.block b h1 h0]
  exact h2
theorem GlL.any {P : Program} {w : World} {L : Nat → Prop} (h : GlL P w L) : GlL P w (fun _ => False) := h.mono fun _ x => x.elim
theorem GlL.none {P : Program} {w : World} {L : Nat → Prop} (h : P.globalNamed glN = .none) : GlL P w L := fun b hb => by rw [h] at hb; cases hb
/-- What a call was given: the blocks lent to it, and those of its arguments that stay as they are. -/
structure Lim where
  lent : Nat → Prop
  base : Nat → Prop
  pin : Nat → Value
  dr : Bool
/-- From here on a name stands for what the caller lent. -/
def big : Nat := 1000000
/-- What a state says: S the blocks that stay as they are, E what the call's own blocks are called in the machine. -/
structure Ok (w0 : World) (L : Lim) (nt : Nat) (σ : St) (S : Nat → Prop) (E : Nat → Value) (a : Act) (w : World) : Prop where
  keep : Keep L.dr L.lent w0 w
  stab : ∀ b, S b → b < w.heap.size
  base : ∀ b, S b → L.base b ∨ L.lent b ∨ w0.heap.size ≤ b
  size : a.tmps.size = nt
  defers : a.defers = []
  tm : ∀ k t, look σ.tm k = some t → RV w S E (a.tmps.getD k undef) t
  hp : ∀ id blk, look σ.hp id = some blk → BlkOk w S E (E id) blk
  own : ∀ id blk β, look σ.hp id = some blk → blkOf (E id) = some β → ¬ S β ∧ β < w.heap.size ∧ (w0.heap.size ≤ β ∨ L.lent β)
  dist : ∀ id id' blk blk' β, look σ.hp id = some blk → look σ.hp id' = some blk' → blkOf (E id) = some β → blkOf (E id') = some β → id = id'
  pin : ∀ id, big ≤ id → E id = L.pin id
def Sim (w0 : World) (L : Lim) (nt : Nat) (σ : St) (a : Act) (w : World) : Prop := ∃ S E, Ok w0 L nt σ S E a w
theorem RowsOk.mono {w w' : World} {S S' : Nat → Prop} {x : Value} {elem sz n : Nat} {rs : List (List Tree)} (h : RowsOk w S x elem sz n rs) (hS : ∀ b, S b → S' b)
    (hw : ∀ b, S b → w'.heap[b]? = w.heap[b]?) (hx : ∀ β, blkOf x = some β → w'.heap[β]? = w.heap[β]?) : RowsOk w' S' x elem sz n rs := by
  obtain ⟨hn, h⟩ := h
  refine ⟨hn, ?_⟩
  rcases h with ⟨h1, h2⟩ | ⟨β, cap, vs, hm, rfl, hh, hl, hc, hsz, hr⟩
  · exact .inl ⟨h1, h2⟩
  · exact .inr ⟨β, cap, vs, hm, rfl, (hx β rfl).trans hh, hl, hc, hsz, fun i j hi hj hb => (hr i j hi hj hb).mono hS hw⟩
theorem BlkOk.mono {w w' : World} {S S' : Nat → Prop} {E E' : Nat → Value} {x : Value} {b : Blk} (h : BlkOk w S E x b) (hS : ∀ b, S b → S' b)
    (hw : ∀ b, S b → w'.heap[b]? = w.heap[b]?) (hx : ∀ β, blkOf x = some β → w'.heap[β]? = w.heap[β]?) (hE : ∀ id, namesB id b = true → E' id = E id) : BlkOk w' S' E' x b := by
  cases b with
  | box ts =>
    obtain ⟨β, vs, elem, rfl, hh, hl, hr, h1⟩ := h
    refine ⟨β, vs, elem, rfl, (hx β rfl).trans hh, hl, fun j a b => (hr j a b).mono hS hw fun id hid => hE id ?_, h1⟩
    rw [namesB]
    cases hn : namesL id ts
    · rw [namesL_get hn j b] at hid; cases hid
    · rfl
  | rows elem sz n rs => exact RowsOk.mono h hS hw hx
  | rv y elem sz n rs => exact ⟨h.1, RowsOk.mono h.2 hS hw hx⟩
  | mp es =>
    obtain ⟨β, clock, l, rfl, hh, hl⟩ := h
    exact ⟨β, clock, l, rfl, (hx β rfl).trans hh, hl⟩
section
variable {w0 : World} {L : Lim} {nt : Nat} {σ : St} {S : Nat → Prop} {E : Nat → Value} {a : Act} {w : World}
/-- A slot is filled. -/
theorem Ok.put (h : Ok w0 L nt σ S E a w) {d : Nat} {v : Value} {t : T} (hd : d < nt) (hv : RV w S E v t) : Ok w0 L nt ⟨(d, t) :: σ.tm, σ.hp⟩ S E (a.put (some d) v) w :=
  { h with
    size := by simp [Act.put, h.size]
    defers := by simp [Act.put, h.defers]
    tm := fun k t' ht => by
      simp only [look] at ht
      have hs := h.size
      by_cases hk : d = k
      · subst hk
        simp only [Nat.beq_refl, cond_true, Option.some.injEq] at ht
        subst ht
        simpa [Act.put, Array.getElem?_setIfInBounds, hs, hd] using hv
      · simp only [beq_ne hk, cond_false] at ht
        have := h.tm k t' ht
        simpa [Act.put, Array.getElem?_setIfInBounds, hk] using this }
/-- The world grows by what touches none of the state's blocks. -/
theorem Ok.grow (h : Ok w0 L nt σ S E a w) {w' : World} (hk : Keep L.dr (fun _ => False) w w') : Ok w0 L nt σ S E a w' := by
  have hS : ∀ b, S b → w'.heap[b]? = w.heap[b]? := fun b hb => hk.block b (h.stab b hb) (fun x => x)
  refine { h with keep := h.keep.trans hk (fun _ x => x.elim), stab := fun b hb => Nat.lt_of_lt_of_le (h.stab b hb) hk.size, tm := fun k t ht => (h.tm k t ht).mono (fun _ x => x) hS (fun _ _ => rfl),
                  hp := fun id b hb => (h.hp id b hb).mono (fun _ x => x) hS (fun β hβ => hk.block β (h.own id b β hb hβ).2.1 (fun x => x)) (fun _ _ => rfl),
                  own := fun id b β hb hβ => ⟨(h.own id b β hb hβ).1, Nat.lt_of_lt_of_le (h.own id b β hb hβ).2.1 hk.size, (h.own id b β hb hβ).2.2⟩ }
/-- A new block of the call's own. -/
theorem Ok.alloc (h : Ok w0 L nt σ S E a w) {d : Nat} (hbig : Nat.blt d big = true) (hf : freshT d σ.tm = true) (hb : freshB d σ.hp = true) {o : Obj} {x : Value} {b : Blk}
    (hx : blkOf x = some w.heap.size) (hok : ∀ E', (∀ id, id ≠ d → E' id = E id) → BlkOk (w.alloc o) S E' x b) :
    ∃ E', E' d = x ∧ (∀ id, id ≠ d → E' id = E id) ∧ Ok w0 L nt ⟨σ.tm, (d, b) :: σ.hp⟩ S E' a (w.alloc o) := by
  have hk : Keep L.dr (fun _ => False) w (w.alloc o) := ⟨rfl, rfl, rfl, by simp, fun k hk _ => Below.heap_alloc _ _ _ hk, fun _ => Nat.le_refl _⟩
  have hbig : d < big := Nat.le_of_ble_eq_true hbig
  have h' := h.grow hk
  let E' : Nat → Value := fun id => if id = d then x else E id
  have hE : ∀ id, id ≠ d → E' id = E id := fun id hid => by simp [E', hid]
  have hd : E' d = x := by simp [E']
  have hsz := h.keep.size
  refine ⟨E', hd, hE, { keep := h'.keep, stab := h'.stab, base := h'.base, size := h'.size, defers := h'.defers, tm := ?_, hp := ?_, own := ?_, dist := ?_, pin := fun id hid => by rw [hE id (fun e => by omega)]; exact h.pin id hid }⟩
  · exact fun k t ht => (h'.tm k t ht).mono (fun _ x => x) (fun _ _ => rfl) fun id hid => hE id fun e => by
      have := freshT_look hf k t ht; subst e; rw [this] at hid; cases hid
  · intro id blk hl
    simp only [look] at hl
    by_cases hid : d = id
    · subst hid
      simp only [Nat.beq_refl, cond_true, Option.some.injEq] at hl
      subst hl; rw [hd]; exact hok E' hE
    · simp only [beq_ne hid, cond_false] at hl
      rw [hE id (fun e => hid e.symm)]
      exact (h'.hp id blk hl).mono (fun _ x => x) (fun _ _ => rfl) (fun _ _ => rfl) fun i hi => hE i fun e => by
        have := (freshB_look hb id blk hl).2; subst e; rw [this] at hi; cases hi
  · intro id blk β hl hβ
    simp only [look] at hl
    by_cases hid : d = id
    · subst hid
      rw [hd, hx] at hβ
      cases hβ
      exact ⟨fun hS => absurd (h.stab _ hS) (Nat.lt_irrefl _), by simp, .inl hsz⟩
    · simp only [beq_ne hid, cond_false] at hl
      rw [hE id (fun e => hid e.symm)] at hβ
      exact h'.own id blk β hl hβ
  · intro id id' blk blk' β hl hl' hβ hβ'
    simp only [look] at hl hl'
    by_cases hid : d = id <;> by_cases hid' : d = id'
    · exact hid.symm.trans hid'
    · subst hid
      simp only [beq_ne hid', cond_false] at hl'
      rw [hd, hx] at hβ; cases hβ
      rw [hE id' (fun e => hid' e.symm)] at hβ'
      exact absurd (h.own id' blk' _ hl' hβ').2.1 (Nat.lt_irrefl _)
    · subst hid'
      simp only [beq_ne hid, cond_false] at hl
      rw [hd, hx] at hβ'; cases hβ'
      rw [hE id (fun e => hid e.symm)] at hβ
      exact absurd (h.own id blk _ hl hβ).2.1 (Nat.lt_irrefl _)
    · simp only [beq_ne hid, beq_ne hid', cond_false] at hl hl'
      rw [hE id (fun e => hid e.symm)] at hβ
      rw [hE id' (fun e => hid' e.symm)] at hβ'
      exact h.dist id id' blk blk' β hl hl' hβ hβ'
end
end Go.Pv
namespace Go.Pv
open Go.RowKit
def val (tm : List (Nat × T)) : Operand → Option T
  | .tmp k => look tm k
  | .const v => some (.t (.v v))
  | .func f => some (.fz f [])
  | .global g => some (.t (.v (.pointer (some ⟨g, 0, none⟩))))
def one (hp : List (Nat × Blk)) : T → Bool
  | .t (.v x) => x.oneCell'
  | .own id => (look hp id).isSome
  | .agg _ | .tup _ | .any => false
  | _ => true
def oneL (hp : List (Nat × Blk)) : List T → Bool
  | [] => true
  | x :: r => one hp x && oneL hp r
def cellsT (hp : List (Nat × Blk)) : T → Option (List T)
  | .agg l => bif oneL hp l then some l else none
  | x => bif one hp x then some [x] else none
def takeT (ag : Bool) (n : Nat) (l : List T) (off : Nat) : Option T :=
  bif ag then (bif Nat.ble (off + n) l.length then some (.agg ((l.drop off).take n)) else none) else l[off]?
def mapT : List Tree → List T
  | [] => []
  | x :: r => .t x :: mapT r
theorem mapT_eq (l : List Tree) : mapT l = l.map T.t := by induction l <;> simp_all [mapT]
section
variable {P : Program} {w0 : World} {L : Lim} {nt : Nat} {σ : St} {S : Nat → Prop} {E : Nat → Value} {a : Act} {w : World}
theorem Ok.val (h : Ok w0 L nt σ S E a w) {x : Operand} {t : T} (hx : val σ.tm x = some t) : RV w S E (a.eval x) t := by
  cases x with
  | tmp k => exact h.tm k t hx
  | const v => cases hx; exact .t (.v v)
  | func f => cases hx; exact .fz f [] [] rfl (fun j h1 => by simp at h1)
  | global g => cases hx; exact .t (.v _)
theorem Ok.one (h : Ok w0 L nt σ S E a w) {v : Value} {t : T} (hv : RV w S E v t) (ht : one σ.hp t = true) : v.oneCell' = true := by
  cases hv with
  | t h => cases h <;> first | exact ht | rfl
  | own id _ hE =>
    subst hE
    simp only [Pv.one, Option.isSome_iff_exists] at ht
    obtain ⟨b, hb⟩ := ht
    have := h.hp id b hb
    cases b with
    | box ts => obtain ⟨β, vs, elem, hx, _⟩ := this; rw [hx]; rfl
    | rows elem sz n rs => obtain ⟨_, ⟨hx, _⟩ | ⟨β, cap, vs, _, hx, _⟩⟩ := this <;> rw [hx] <;> rfl
    | mp es => obtain ⟨β, clock, l, hx, _⟩ := this; rw [hx]; rfl
    | rv y elem sz n rs => obtain ⟨_, _, ⟨hx, _⟩ | ⟨β, cap, vs, _, hx, _⟩⟩ := this <;> rw [hx] <;> rfl
  | agg vs l => simp [Pv.one] at ht
  | tup vs l => simp [Pv.one] at ht
  | any => simp [Pv.one] at ht
  | _ => rfl
theorem oneL_get {hp : List (Nat × Blk)} : ∀ {l : List T}, oneL hp l = true → ∀ j (h : j < l.length), one hp (l[j]) = true
  | [], _, j, h => by simp at h
  | x :: r, hn, j, h => by
    simp only [oneL, Bool.and_eq_true] at hn
    cases j with
    | zero => exact hn.1
    | succ j => exact oneL_get hn.2 j (by simpa using h)
theorem cells_one {v : Value} (h : v.oneCell' = true) : v.cells = #[v] := by cases v <;> first | rfl | (simp [Value.oneCell'] at h)
theorem Ok.cells (h : Ok w0 L nt σ S E a w) {v : Value} {t : T} {l : List T} (hv : RV w S E v t) (ht : cellsT σ.hp t = some l) :
    ∃ vs : List Value, v.cells = vs.toArray ∧ vs.length = l.length ∧ (∀ j (h1 : j < vs.length) (h2 : j < l.length), RV w S E (vs[j]) (l[j])) ∧ ∀ x ∈ vs, x.oneCell' = true := by
  have plain : ∀ (hv : RV w S E v t) (ho : Pv.one σ.hp t = true) (hl : l = [t]), ∃ vs : List Value, v.cells = vs.toArray ∧ vs.length = l.length ∧ (∀ j (h1 : j < vs.length) (h2 : j < l.length), RV w S E (vs[j]) (l[j])) ∧ ∀ x ∈ vs, x.oneCell' = true := by
    intro hv ho hl
    subst hl
    have h1 := h.one hv ho
    refine ⟨[v], by rw [cells_one h1], rfl, fun j h1 h2 => ?_, by simpa using h1⟩
    have : j = 0 := by simp at h1; omega
    subst this
    exact hv
  cases t with
  | agg l' =>
    simp only [cellsT] at ht
    cases ho : oneL σ.hp l' <;> rw [ho] at ht <;> simp at ht
    subst ht
    cases hv with
    | agg vs l hl hr =>
      refine ⟨vs, rfl, hl, hr, fun x hx => ?_⟩
      obtain ⟨j, hj, rfl⟩ := List.getElem_of_mem hx
      exact h.one (hr j hj (by omega)) (oneL_get ho j (by omega))
  | _ =>
    simp only [cellsT] at ht
    cases ho : Pv.one σ.hp _ <;> rw [ho] at ht <;> simp at ht
    exact plain hv ho ht.symm
theorem addr_add (b o i : Nat) : (⟨b, o, none⟩ : Addr).add i = ⟨b, o + i, none⟩ := by unfold Addr.add; split <;> simp_all
/-- A load out of cells that read as l. -/
theorem load_ok {t : Nat} {ti : TI} (hti : TIok P t ti) {b o : Nat} {vs : List Value} {l : List T} (hl : vs.length = l.length)
    (hc : ∀ j (h1 : j < vs.length), w.cell? ⟨b, o + j, none⟩ = some (vs[j])) (hr : ∀ j (h1 : j < vs.length) (h2 : j < l.length), RV w S E (vs[j]) (l[j]))
    {off : Nat} {r : T} (hx : takeT ti.desc.isAgg ti.size l off = some r) : ∃ v, (Instr.loadAt t (.pointer (some ⟨b, o + off, none⟩))).run P w = .ok v w ∧ RV w S E v r := by
  simp only [Instr.loadAt, Instr.sureAddr, Sem.run_bind, Sem.run_pure, Result.andThen_ok, loadVar, hti.run_agg]
  unfold takeT at hx
  cases hag : ti.desc.isAgg
  · simp only [hag, cond_false] at hx
    obtain ⟨hlt, rfl⟩ := List.getElem?_eq_some_iff.1 hx
    have := hc off (by omega)
    simp only [Bool.false_eq_true, if_false, run_load, this]
    exact ⟨_, rfl, hr off (by omega) hlt⟩
  · simp only [hag, cond_true] at hx
    cases hle : Nat.ble (off + ti.size) l.length <;> simp only [hle, cond_true, cond_false, Option.some.injEq] at hx
    · cases hx
    subst hx
    have hle := Nat.le_of_ble_eq_true hle
    have hload : (loadCells ⟨b, o + off, none⟩ ti.size).run P w = .ok ((vs.drop off).take ti.size).toArray w := by
      have := run_loadCells_list (P := P) w ⟨b, o + off, none⟩ ((vs.drop off).take ti.size) (fun j v hv => by
        rw [addr_add, Nat.add_assoc]
        obtain ⟨hj, rfl⟩ := List.getElem?_eq_some_iff.1 hv
        simp only [List.length_take, List.length_drop] at hj
        rw [hc (off + j) (by omega)]
        simp)
      rw [show ((vs.drop off).take ti.size).length = ti.size by simp; omega] at this
      exact this
    simp only [if_true, Sem.run_bind, hti.run_size, Result.andThen_ok, hload, Sem.run_pure]
    refine ⟨_, rfl, .agg _ _ (by simp; omega) fun j h1 h2 => ?_⟩
    simp only [List.length_take, List.length_drop] at h1 h2
    have := hr (off + j) (by omega) (by omega)
    simpa using this
/-- A block of the call's own is written. -/
theorem Ok.setRow (h : Ok w0 L nt σ S E a w) {id β : Nat} {b b' : Blk} {cur cur' : Array Value} {elem : TypeId} (hb : look σ.hp id = some b) (hβ : blkOf (E id) = some β)
    (hh : w.heap[β]? = some (.cells cur elem (0, 0))) (hnew : (∀ b, S b → (w.setRow β cur').heap[b]? = w.heap[b]?) → (w.setRow β cur').heap[β]? = some (.cells cur' elem (0, 0)) → BlkOk (w.setRow β cur') S E (E id) b') :
    Ok w0 L nt ⟨σ.tm, hput σ.hp id b'⟩ S E a (w.setRow β cur') := by
  have hown := h.own id b β hb hβ
  have hne : ∀ k, k ≠ β → (w.setRow β cur').heap[k]? = w.heap[k]? := fun k hk => setRow_other w β k cur' hk
  have hS : ∀ b, S b → (w.setRow β cur').heap[b]? = w.heap[b]? := fun k hk => hne k fun e => hown.1 (e ▸ hk)
  refine { keep := ?_, stab := fun b hb => by simpa using h.stab b hb, base := h.base, size := h.size, defers := h.defers, tm := fun k t ht => (h.tm k t ht).mono (fun _ x => x) hS (fun _ _ => rfl), hp := ?_, own := ?_, dist := ?_, pin := h.pin }
  · exact h.keep.trans (L' := fun k => k = β) ⟨rfl, rfl, rfl, by simp, fun k _ hk => hne k hk, fun _ => Nat.le_refl _⟩ fun x hx => by subst hx; exact hown.2.2.symm
  · intro id' blk hl
    rw [look_hput] at hl
    by_cases hid : id = id'
    · subst hid
      simp only [if_true, hb, Option.map_some, Option.some.injEq] at hl
      subst hl
      exact hnew hS (setRow_heap w β cur cur' elem _ hh)
    · simp only [hid, if_false] at hl
      refine (h.hp id' blk hl).mono (fun _ x => x) hS (fun β' hβ' => hne β' fun e => ?_) (fun _ _ => rfl)
      subst e
      exact hid (h.dist id id' b blk _ hb hl hβ hβ')
  · intro id' blk β' hl hβ'
    rw [look_hput] at hl
    have : ∃ b0, look σ.hp id' = some b0 := by
      by_cases hid : id = id'
      · subst hid; exact ⟨b, hb⟩
      · simp only [hid, if_false] at hl; exact ⟨_, hl⟩
    obtain ⟨b0, hb0⟩ := this
    simpa using h.own id' b0 β' hb0 hβ'
  · intro i i' x x' β' hl hl' hβ1 hβ2
    rw [look_hput] at hl hl'
    have some1 : ∀ j y, (if id = j then (look σ.hp j).map (fun _ => b') else look σ.hp j) = some y → ∃ b0, look σ.hp j = some b0 := by
      intro j y hj
      by_cases hid : id = j
      · subst hid; exact ⟨b, hb⟩
      · simp only [hid, if_false] at hj; exact ⟨_, hj⟩
    obtain ⟨b0, hb0⟩ := some1 i x hl
    obtain ⟨b1, hb1⟩ := some1 i' x' hl'
    exact h.dist i i' b0 b1 β' hb0 hb1 hβ1 hβ2
theorem store_ok (hok : Ok w0 L nt σ S E a w) {t : Nat} {ti : TI} (hti : TIok P t ti) {id off : Nat} {ts l : List T} {x : T} {v pv : Value}
    (hb : look σ.hp id = some (.box ts)) (hp : RV w S E pv (.ptr id off)) (hv : RV w S E v x) (hx : cellsT σ.hp x = some l) (hs : l.length = ti.size) (hle : off + l.length ≤ ts.length) :
    ∃ w', (Instr.storeAt t pv v).run P w = .ok () w' ∧ Ok w0 L nt ⟨σ.tm, hput σ.hp id (.box (ts.take off ++ l ++ ts.drop (off + l.length)))⟩ S E a w' := by
  obtain ⟨vs, hvs, hl, hr, h1⟩ := hok.cells hv hx
  obtain ⟨β, cs, elem, hE, hh, hcl, hcr, hc1⟩ := hok.hp id _ hb
  cases hp with
  | ptr _ _ β' hE' =>
    rw [hE] at hE'
    cases hE'
    have hst : (Instr.storeAt t (.pointer (some ⟨β, off, none⟩)) v).run P w = .ok () (w.setRow β (cs.take off ++ vs ++ cs.drop (off + vs.length)).toArray) := by
      have := run_storeCells_at (P := P) β off elem vs 0 cs.toArray w hh (by simp; omega) h1
      have hl2 : vs.length = ti.size := by omega
      simp only [Instr.storeAt, Instr.sureAddr, Sem.run_bind, Sem.run_pure, Result.andThen_ok, storeVar, hti.run_size, hvs]
      simpa [hl2] using this
    refine ⟨_, hst, hok.setRow hb (by rw [hE]; rfl) hh fun hS hnew => ⟨β, _, elem, hE, hnew, ?_, ?_, ?_⟩⟩
    · simp; omega
    · intro j hj1 hj2
      have key : RV w S E ((cs.take off ++ vs ++ cs.drop (off + vs.length))[j]'hj1) ((ts.take off ++ l ++ ts.drop (off + l.length))[j]'hj2) := by
        simp only [List.length_append, List.length_take, List.length_drop] at hj1 hj2
        by_cases c1 : j < off
        · have a1 : j < (cs.take off ++ vs).length := by simp; omega
          have a2 : j < (ts.take off ++ l).length := by simp; omega
          rw [List.getElem_append_left a1, List.getElem_append_left a2, List.getElem_append_left (by simp; omega), List.getElem_append_left (by simp; omega)]
          simpa using hcr j (by omega) (by omega)
        · by_cases c2 : j < off + vs.length
          · have a1 : j < (cs.take off ++ vs).length := by simp; omega
            have a2 : j < (ts.take off ++ l).length := by simp; omega
            rw [List.getElem_append_left a1, List.getElem_append_left a2, List.getElem_append_right (by simp; omega), List.getElem_append_right (by simp; omega)]
            have e1 : min off cs.length = off := by omega
            have e2 : min off ts.length = off := by omega
            simp only [List.length_take, e1, e2]
            exact hr (j - off) (by omega) (by omega)
          · rw [List.getElem_append_right (by simp; omega), List.getElem_append_right (by simp; omega)]
            have e1 : min off cs.length = off := by omega
            have e2 : min off ts.length = off := by omega
            simp only [List.length_append, List.length_take, e1, e2, List.getElem_drop]
            have := hcr j (by omega) (by omega)
            have e3 : off + vs.length + (j - (off + vs.length)) = j := by omega
            have e4 : off + l.length + (j - (off + l.length)) = j := by omega
            simpa only [e3, e4] using this
      exact key.mono (fun _ x => x) hS (fun _ _ => rfl)
    · intro x hx
      simp only [List.mem_append] at hx
      rcases hx with (hx | hx) | hx
      · exact hc1 x (List.mem_of_mem_take hx)
      · exact h1 x hx
      · exact hc1 x (List.mem_of_mem_drop hx)
end
end Go.Pv
namespace Go.Pv
open Go.RowKit
def splice {α : Type} (l : List α) (off : Nat) (m : List α) : List α := l.take off ++ m ++ l.drop (off + m.length)
def RVL (w : World) (S : Nat → Prop) (E : Nat → Value) (vs : List Value) (l : List T) : Prop :=
  vs.length = l.length ∧ ∀ j (h1 : j < vs.length) (h2 : j < l.length), RV w S E (vs[j]) (l[j])
section
variable {w : World} {S : Nat → Prop} {E : Nat → Value}
theorem RVL.splice {cs vs : List Value} {ts l : List T} (h : RVL w S E cs ts) (k : RVL w S E vs l) {off : Nat} (hle : off + l.length ≤ ts.length) :
    RVL w S E (splice cs off vs) (splice ts off l) := by
  obtain ⟨hcl, hcr⟩ := h
  obtain ⟨hl, hr⟩ := k
  unfold Pv.splice
  refine ⟨by simp; omega, fun j hj1 hj2 => ?_⟩
  simp only [List.length_append, List.length_take, List.length_drop] at hj1 hj2
  by_cases c1 : j < off
  · have a1 : j < (cs.take off ++ vs).length := by simp; omega
    have a2 : j < (ts.take off ++ l).length := by simp; omega
    rw [List.getElem_append_left a1, List.getElem_append_left a2, List.getElem_append_left (by simp; omega), List.getElem_append_left (by simp; omega)]
    simpa using hcr j (by omega) (by omega)
  · by_cases c2 : j < off + vs.length
    · have a1 : j < (cs.take off ++ vs).length := by simp; omega
      have a2 : j < (ts.take off ++ l).length := by simp; omega
      rw [List.getElem_append_left a1, List.getElem_append_left a2, List.getElem_append_right (by simp; omega), List.getElem_append_right (by simp; omega)]
      have e1 : min off cs.length = off := by omega
      have e2 : min off ts.length = off := by omega
      simp only [List.length_take, e1, e2]
      exact hr (j - off) (by omega) (by omega)
    · rw [List.getElem_append_right (by simp; omega), List.getElem_append_right (by simp; omega)]
      have e1 : min off cs.length = off := by omega
      have e2 : min off ts.length = off := by omega
      simp only [List.length_append, List.length_take, e1, e2, List.getElem_drop]
      have := hcr j (by omega) (by omega)
      have e3 : off + vs.length + (j - (off + vs.length)) = j := by omega
      have e4 : off + l.length + (j - (off + l.length)) = j := by omega
      simpa only [e3, e4] using this
theorem RVL.drop {vs : List Value} {l : List T} (h : RVL w S E vs l) (n : Nat) : RVL w S E (vs.drop n) (l.drop n) := by
  refine ⟨by simp [h.1], fun j h1 h2 => ?_⟩
  simp only [List.length_drop] at h1 h2
  simpa using h.2 (n + j) (by omega) (by omega)
end
theorem splice_get {α : Type} (l : List α) (off : Nat) (m : List α) (h : off + m.length ≤ l.length) (j : Nat) :
    (splice l off m)[j]? = if j < off then l[j]? else if j < off + m.length then m[j - off]? else l[j]? := by
  unfold splice
  have e1 : min off l.length = off := by omega
  by_cases c1 : j < off
  · rw [if_pos c1, List.append_assoc, List.getElem?_append_left (by simp; omega), List.getElem?_take, if_pos c1]
  · rw [if_neg c1, List.append_assoc, List.getElem?_append_right (by simp; omega)]
    simp only [List.length_take, e1]
    by_cases c2 : j < off + m.length
    · rw [if_pos c2, List.getElem?_append_left (by omega)]
    · rw [if_neg c2, List.getElem?_append_right (by omega), List.getElem?_drop]
      congr 1
      omega
theorem foldl_set (off : Nat) : ∀ (xs : List Value) (k : Nat) (cs : Array Value), off + k + xs.length ≤ cs.size →
    (xs.zipIdx k).foldl (fun cs (c, j) => cs.setIfInBounds (off + j) c) cs = (splice cs.toList (off + k) xs).toArray
  | [], k, cs, h => by simp [splice]
  | x :: xs, k, cs, h => by
    simp only [List.length_cons] at h
    rw [List.zipIdx_cons, List.foldl_cons, foldl_set off xs (k + 1) _ (by simp; omega)]
    congr 1
    apply List.ext_getElem?
    intro j
    have hlt : off + k < cs.size := by omega
    rw [splice_get _ _ _ (by simp; omega), splice_get _ _ _ (by simp; omega)]
    simp only [Array.toList_setIfInBounds, List.length_cons, List.getElem?_set]
    by_cases c1 : j < off + k
    · rw [if_pos (by omega), if_pos c1, if_neg (by omega)]
    · by_cases c2 : j = off + k
      · subst c2
        rw [if_pos (by omega)]
        simp [hlt]
      · rw [if_neg (by omega), if_neg c1]
        by_cases c3 : j < off + k + 1 + xs.length
        · rw [if_pos (by omega), if_pos (by omega), show j - (off + k) = (j - (off + (k + 1))) + 1 by omega, List.getElem?_cons_succ]
        · rw [if_neg (by omega), if_neg (by omega), if_neg (by omega)]
/-- Parts laid into cells. -/
def fillT (hp : List (Nat × Blk)) (tm : List (Nat × T)) (place : Nat → Option (Nat × Nat)) (cells : List T) : List (Nat × Operand) → Option (List T)
  | [] => some cells
  | (i, x) :: rest => match place i, (val tm x).bind (cellsT hp) with
    | some (o, n), some l => bif Nat.beq l.length n && Nat.ble (o + l.length) cells.length then fillT hp tm place (splice cells o l) rest else none
    | _, _ => none
section
variable {P : Program} {w0 : World} {L : Lim} {nt : Nat} {σ : St} {S : Nat → Prop} {E : Nat → Value} {a : Act} {w : World}
theorem fill_ok (h : Ok w0 L nt σ S E a w) {place : Nat → Option (Nat × Nat)} : ∀ (parts : List (Nat × Operand)) (cs : Array Value) (ts r : List T), RVL w S E cs.toList ts →
    fillT σ.hp σ.tm place ts parts = some r → ∃ cs', Instr.fill place cs (parts.map fun (i, x) => (i, a.eval x)) = some cs' ∧ RVL w S E cs'.toList r
  | [], cs, ts, r, hr, hx => by
    simp only [fillT, Option.some.injEq] at hx
    subst hx
    exact ⟨cs, rfl, hr⟩
  | (i, x) :: rest, cs, ts, r, hr, hx => by
    simp only [fillT] at hx
    cases hp : place i with
    | none => simp [hp] at hx
    | some p =>
      obtain ⟨o, n⟩ := p
      cases hv : val σ.tm x with
      | none => simp [hp, hv] at hx
      | some t =>
        cases hc : cellsT σ.hp t with
        | none => simp [hp, hv, hc] at hx
        | some l =>
          simp only [hp, hv, hc, Option.bind_some] at hx
          cases hb : (Nat.beq l.length n && Nat.ble (o + l.length) ts.length) <;> simp only [hb, cond_true, cond_false] at hx
          · cases hx
          simp only [Bool.and_eq_true] at hb
          have hn := Nat.eq_of_beq_eq_true hb.1
          have hle := Nat.le_of_ble_eq_true hb.2
          obtain ⟨vs, hvs, hl, hrl, _⟩ := h.cells (h.val hv) hc
          have hsz : cs.size = ts.length := by simpa using hr.1
          have ih := fill_ok h rest (splice cs.toList o vs).toArray (splice ts o l) r (by simpa using hr.splice ⟨hl, hrl⟩ hle) hx
          obtain ⟨cs', h1, h2⟩ := ih
          refine ⟨cs', ?_, h2⟩
          have hf := foldl_set o vs 0 cs (by simp only [Nat.add_zero]; omega)
          simp only [Nat.add_zero] at hf
          rw [← h1]
          simp only [List.map_cons, Instr.fill, hp, hvs]
          rw [if_neg (by simp; omega)]
          congr 1
          rw [← hf]
          simp
end
/-- The zeros of n elements, one behind the other. -/
def zeros : Nat → List Value → List Value
  | 0, _ => []
  | n + 1, z => z ++ zeros n z
theorem zeros_length (n : Nat) (z : List Value) : (zeros n z).length = n * z.length := by
  induction n with
  | zero => simp [zeros]
  | succ n ih => simp [zeros, ih, Nat.succ_mul, Nat.add_comm]
theorem zeros_get (z : List Value) (hz : 0 < z.length) : ∀ (n i : Nat), i < n * z.length → (zeros n z)[i]? = z[i % z.length]?
  | 0, i, h => by simp at h
  | n + 1, i, h => by
    rw [Nat.succ_mul] at h
    simp only [zeros]
    by_cases hi : i < z.length
    · rw [List.getElem?_append_left hi, Nat.mod_eq_of_lt hi]
    · rw [List.getElem?_append_right (by omega), zeros_get z hz n (i - z.length) (by omega)]
      congr 1
      exact (Nat.mod_eq_sub_mod (by omega)).symm
theorem zeros_eq (n : Nat) (z : Array Value) (hz : 0 < z.size) : (Array.range (n * z.size)).map (fun i => z[i % z.size]!) = (zeros n z.toList).toArray := by
  apply Array.ext'
  apply List.ext_getElem?
  intro i
  by_cases hi : i < n * z.size
  · rw [show (zeros n z.toList).toArray.toList = zeros n z.toList from rfl, zeros_get z.toList (by simpa using hz) n i (by simpa using hi)]
    have hm := Nat.mod_lt i hz
    simp [hi, hm, getElem!_pos]
  · rw [List.getElem?_eq_none (by simpa using hi), List.getElem?_eq_none (by simp [zeros_length]; omega)]
def chunk (sz : Nat) : Nat → List Tree → List (List Tree)
  | 0, _ => []
  | n + 1, l => l.take sz :: chunk sz n (l.drop sz)
/-- The nil slice reads as a slice without rows. -/
def nilTree : Tree → Tree
  | .v (.slice none 0 0) => .sl 0 []
  | x => x
theorem nilTree_ok {w : World} {S : Nat → Prop} {v : Value} {x : Tree} (h : RT w S v x) : RT w S v (nilTree x) := by
  unfold nilTree
  split
  · cases h; exact .slE _ _
  · exact h
def nilT : T → T
  | .t x => .t (nilTree x)
  | x => x
theorem nilT_ok {w : World} {S : Nat → Prop} {E : Nat → Value} {v : Value} {x : T} (h : RV w S E v x) : RV w S E v (nilT x) := by
  cases h <;> first | exact .t (nilTree_ok ‹_›) | (simp only [nilT]; constructor <;> assumption)
def trees : List T → Option (List Tree)
  | [] => some []
  | .t x :: r => (trees r).map (nilTree x :: ·)
  | _ :: _ => none
theorem trees_ok : ∀ {l : List T} {r : List Tree}, trees l = some r → l.map nilT = r.map T.t
  | [], r, h => by simp [trees] at h; subst h; rfl
  | x :: l, r, h => by
    cases x <;> simp only [trees, reduceCtorEq] at h
    rename_i y
    cases hl : trees l with
    | none => simp [hl] at h
    | some m =>
      simp only [hl, Option.map_some, Option.some.injEq] at h
      subst h
      simp [trees_ok hl, nilT]
theorem chunk_length (sz : Nat) : ∀ (n : Nat) (l : List Tree), (chunk sz n l).length = n
  | 0, _ => rfl
  | n + 1, l => by simp [chunk, chunk_length sz n]
theorem chunk_sizes (sz : Nat) : ∀ (n : Nat) (l : List Tree), l.length = n * sz → ∀ r ∈ chunk sz n l, r.length = sz
  | 0, _, _, r, h => by simp [chunk] at h
  | n + 1, l, hl, r, h => by
    rw [Nat.succ_mul] at hl
    simp only [chunk, List.mem_cons] at h
    rcases h with rfl | h
    · simp; omega
    · exact chunk_sizes sz n (l.drop sz) (by simp; omega) r h
theorem chunk_get (sz : Nat) : ∀ (n : Nat) (l : List Tree) (_ : l.length = n * sz) (i j : Nat) (hi : i < (chunk sz n l).length) (hj : j < ((chunk sz n l)[i]).length) (hb : i * sz + j < l.length),
    ((chunk sz n l)[i])[j] = l[i * sz + j]
  | 0, _, _, i, j, hi, _, _ => by simp [chunk] at hi
  | n + 1, l, hl, i, j, hi, hj, hb => by
    rw [Nat.succ_mul] at hl
    cases i with
    | zero => simp [chunk]
    | succ i =>
      simp only [chunk, List.getElem_cons_succ] at hj ⊢
      simp only [chunk, List.length_cons, Nat.add_lt_add_iff_right] at hi
      have hb' : i * sz + j < (l.drop sz).length := by rw [Nat.succ_mul] at hb; simp; omega
      rw [chunk_get sz n (l.drop sz) (by simp; omega) i j hi hj hb']
      simp only [List.getElem_drop]
      congr 1
      rw [Nat.succ_mul]; omega
end Go.Pv
namespace Go.Pv
open Go.RowKit
def arith (op : BinOp) (k : IntKind) (x y : Int) : Option Value :=
  match op with
  | .add => some (.int k (k.wrap (x + y)))
  | .sub => some (.int k (k.wrap (x - y)))
  | .mul => some (.int k (k.wrap (x * y)))
  | .eql => some (.bool (x == y))
  | .neq => some (.bool (x != y))
  | .lss => some (.bool (x < y))
  | .leq => some (.bool (x ≤ y))
  | .gtr => some (.bool (x > y))
  | .geq => some (.bool (x ≥ y))
  | .quo => if y = 0 then none else some (.int k (k.wrap (x.tdiv y)))
  | .rem => if y = 0 then none else some (.int k (x.tmod y))
  | .and => some (.int k (k.wrap (BitVec.ofInt k.bits x &&& BitVec.ofInt k.bits y).toNat))
  | .or => some (.int k (k.wrap (BitVec.ofInt k.bits x ||| BitVec.ofInt k.bits y).toNat))
  | .xor => some (.int k (k.wrap (BitVec.ofInt k.bits x ^^^ BitVec.ofInt k.bits y).toNat))
  | .andNot => some (.int k (k.wrap (BitVec.ofInt k.bits x &&& ~~~(BitVec.ofInt k.bits y)).toNat))
  | .shl => if y < 0 then none else some (.int k (k.wrap (x * 2 ^ (min y.toNat k.bits))))
  | .shr => if y < 0 then none else some (.int k (x.fdiv (2 ^ (min y.toNat k.bits))))
def sameKind : IntKind → IntKind → Bool
  | .i8, .i8 | .i16, .i16 | .i32, .i32 | .i64, .i64 | .u8, .u8 | .u16, .u16 | .u32, .u32 | .u64, .u64 => true
  | _, _ => false
def isShift : BinOp → Bool
  | .shl | .shr => true
  | _ => false
def binT (tab : Tab) (op : BinOp) (ty : Nat) : Option T → Option T → Option T
  | some (.t (.v (.int k x))), some (.t (.v (.int k' y))) => bif sameKind k k' || isShift op then (arith op k x y).map fun v => .t (.v v) else none
  | some (.t (.v (.bool x))), some (.t (.v (.bool y))) => match look tab ty with
    | some ⟨_, .bool, _⟩ => match op with
      | .eql => some (.t (.v (.bool (x == y))))
      | .neq => some (.t (.v (.bool (!(x == y)))))
      | _ => none
    | _ => none
  | _, _ => none
def unT (op : UnOp) : Option T → Option T
  | some (.t (.v (.bool x))) => match op with | .not => some (.t (.v (.bool (!x)))) | _ => none
  | some (.t (.v (.int k x))) => match op with | .neg => some (.t (.v (.int k (k.wrap (0 - x))))) | _ => none
  | _ => none
def pickT (c : Bool) : Option T → Option T → Option T
  | some (.t (.v (.bool x))), some (.t (.v (.bool y))) => some (.t (.v (.bool (bif c then x else y))))
  | a, b => match c with | true => a | false => b
def convT (tab : Tab) (d : Nat) : Option T → Option T
  | some (.t (.v (.int _ x))) => match look tab d with
    | some ⟨_, .int k, _⟩ => some (.t (.v (.int k (k.wrap x))))
    | _ => none
  | _ => none
def lenT (tab : Tab) (hp : List (Nat × Blk)) (ty : Nat) (x : Option T) : Option T :=
  match look tab ty with
  | some ⟨_, .slice _, _⟩ => match x with
    | some (.t (.sl n _)) => some (.t (.v (.int .i64 n)))
    | some (.t (.v (.slice _ n _))) => some (.t (.v (.int .i64 n)))
    | some (.own id) => match look hp id with
      | some (.rows _ _ n _) => some (.t (.v (.int .i64 n)))
      | _ => none
    | _ => none
  | some ⟨_, .string, _⟩ => match x with
    | some (.t (.v (.string s))) => some (.t (.v (.int .i64 s.size)))
    | _ => none
  | _ => none
def minI (x y : Int) : Int := if y < x then y else x
def maxI (x y : Int) : Int := if y > x then y else x
def foldT (f : Int → Int → Int) (tm : List (Nat × T)) : Option T → List Operand → Option T
  | r, [] => r
  | some (.t (.v (.int k x))), o :: rest => match val tm o with
    | some (.t (.v (.int _ y))) => foldT f tm (some (.t (.v (.int k (f x y))))) rest
    | _ => none
  | _, _ :: _ => none
def vals (tm : List (Nat × T)) : List Operand → Option (List T)
  | [] => some []
  | o :: rest => match val tm o, vals tm rest with
    | some x, some l => some (x :: l)
    | _, _ => none
def funcT (tm : List (Nat × T)) : Fn → List Operand → List Operand → Option T
  | .func f, [], captured => (vals tm captured).map (.clo f ·)
  | _, _, _ => none
def callT (tab : Tab) (σ : St) : Callee → List Operand → List TypeId → Option T
  | .builtin .len, [x], [ty] => lenT tab σ.hp ty (val σ.tm x)
  | .builtin .min, x :: rest, _ => foldT minI σ.tm (val σ.tm x) rest
  | .builtin .max, x :: rest, _ => foldT maxI σ.tm (val σ.tm x) rest
  | _, _, _ => none
/-- A quiet operation: what it gives and the state behind it. d: the slot that it writes. -/
def evalOp0 (tab : Tab) (σ : St) (o : Oper) : Option (T × St) :=
  match o.op with
  | .move x => (val σ.tm x).map (·, σ)
  | .assign x => (val σ.tm x).map (·, σ)
  | .pick c x y => match val σ.tm c with
    | some (.t (.v (.bool b))) => (pickT b (val σ.tm x) (val σ.tm y)).map (·, σ)
    | _ => none
  | .alloc e => match o.dst, look tab e with
    | some d, some ti => bif Nat.blt d big && freshT d σ.tm && freshB d σ.hp && ti.zero.all Value.oneCell' then some (.ptr d 0, ⟨σ.tm, (d, .box (ti.zero.map fun z => .t (.v z))) :: σ.hp⟩) else none
    | _, _ => none
  | .box _ x => match o.dst, (val σ.tm x).bind (cellsT σ.hp) with
    | some d, some l => bif Nat.blt d big && freshT d σ.tm && freshB d σ.hp then some (.ptr d 0, ⟨σ.tm, (d, .box l) :: σ.hp⟩) else none
    | _, _ => none
  | .load t x => match val σ.tm x, look tab t with
    | some (.ptr id off), some ti => match look σ.hp id with
      | some (.box ts) => (takeT ti.desc.isAgg ti.size ts off).map (·, σ)
      | _ => none
    | some (.el cells), some ti => (takeT ti.desc.isAgg ti.size (mapT cells) 0).map (·, σ)
    | _, _ => none
  | .store t x y => match val σ.tm x, look tab t, (val σ.tm y).bind (cellsT σ.hp) with
    | some (.ptr id off), some ti, some l => match look σ.hp id with
      | some (.box ts) => bif Nat.beq l.length ti.size && Nat.ble (off + l.length) ts.length then some (.t (.v undef), ⟨σ.tm, hput σ.hp id (.box (splice ts off l))⟩) else none
      | _ => none
    | _, _, _ => none
  | .fieldAddr s x f => match val σ.tm x, look tab s with
    | some (.ptr id off), some ⟨_, .struct fs, _⟩ => match fs[f]? with
      | some (p, .succ _) => some (.ptr id (off + p), σ)
      | _ => none
    | some (.el cells), some ⟨_, .struct fs, _⟩ => match fs[f]? with
      | some (p, .succ _) => some (.el (cells.drop p), σ)
      | _ => none
    | some (.pe id i sz off), some ⟨_, .struct fs, _⟩ => match fs[f]? with
      | some (p, .succ _) => some (.pe id i sz (off + p), σ)
      | _ => none
    | _, _ => none
  | .nilCheck x => match val σ.tm x with
    | some (.ptr id off) => some (.ptr id off, σ)
    | some (.el cells) => some (.el cells, σ)
    | some (.pe id i sz off) => some (.pe id i sz off, σ)
    | _ => none
  | .binOp op ty x y _ => (binT tab op ty (val σ.tm x) (val σ.tm y)).map (·, σ)
  | .unOp op _ x => (unT op (val σ.tm x)).map (·, σ)
  | .convert s d x => match look tab s with
    | some _ => (convT tab d (val σ.tm x)).map (·, σ)
    | none => none
  | .extract x k => match val σ.tm x with
    | some (.tup l) => (l[k]?).map (·, σ)
    | _ => none
  | .build t parts => match look tab t with
    | some ⟨_, .struct fs, z⟩ => (fillT σ.hp σ.tm (fs[·]?) (z.map fun x => .t (.v x)) parts.toList).map fun l => (.agg l, σ)
    | some ⟨_, .array _ e, z⟩ => match look tab e with
      | some te => (fillT σ.hp σ.tm (fun i => some (i * te.size, te.size)) (z.map fun x => .t (.v x)) parts.toList).map fun l => (.agg l, σ)
      | none => none
    | _ => none
  | .indexAddr t x ix => match val σ.tm x, look tab t, val σ.tm ix with
    | some (.ptr id off), some ⟨_, .array n e, _⟩, some (.t (.v (.int _ (.ofNat i)))) => match look tab e with
      | some te => bif Nat.blt i n then some (.ptr id (off + i * te.size), σ) else none
      | none => none
    | some (.el cells), some ⟨_, .array n e, _⟩, some (.t (.v (.int _ (.ofNat i)))) => match look tab e with
      | some te => bif Nat.blt i n then some (.el (cells.drop (i * te.size)), σ) else none
      | none => none
    | some (.pe id k sz off), some ⟨_, .array n e, _⟩, some (.t (.v (.int _ (.ofNat i)))) => match look tab e with
      | some te => bif Nat.blt i n then some (.pe id k sz (off + i * te.size), σ) else none
      | none => none
    | _, _, _ => none
  | .index t x ix => match val σ.tm x, look tab t, val σ.tm ix with
    | some (.agg l), some ⟨_, .array n e, _⟩, some (.t (.v (.int _ (.ofNat i)))) => match look tab e with
      | some te => bif Nat.blt i n then (takeT te.desc.isAgg te.size l (i * te.size)).map (·, σ) else none
      | none => none
    | _, _, _ => none
  | .makeFunc fn first captured => (funcT σ.tm fn first.toList captured.toList).map (·, σ)
  | .call c => (callT tab σ c.callee c.args.toList c.argTypes.toList).map (·, σ)
  | .buildSlice t n parts => match o.dst, look tab t with
    | some d, some ⟨_, .slice e, _⟩ => match look tab e with
      | some ti => match fillT σ.hp σ.tm (fun i => some (i * ti.size, ti.size)) ((zeros n ti.zero).map fun x => .t (.v x)) parts.toList with
        | some l => match trees l with
          | some r => bif Nat.blt d big && freshT d σ.tm && freshB d σ.hp && Nat.beq r.length (n * ti.size) && Nat.ble (n * ti.size) 1000000 && Nat.beq ti.zero.length ti.size && Nat.blt 0 ti.size
            then some (.own d, ⟨σ.tm, (d, .rows e ti.size n (chunk ti.size n r)) :: σ.hp⟩) else none
          | none => none
        | none => none
      | none => none
    | _, _ => none
  | _ => none
/-- The same on a state taken apart: so that what it gives is written out. -/
def evalOpC (tab : Tab) (tm : List (Nat × T)) (hp : List (Nat × Blk)) (o : Oper) : Option (T × St) :=
  match o.op with
  | .move x => (val tm x).map (·, ⟨tm, hp⟩)
  | .assign x => (val tm x).map (·, ⟨tm, hp⟩)
  | .pick c x y => match val tm c with
    | some (.t (.v (.bool b))) => (pickT b (val tm x) (val tm y)).map (·, ⟨tm, hp⟩)
    | _ => none
  | .alloc e => match o.dst, look tab e with
    | some d, some ti => bif Nat.blt d big && freshT d tm && freshB d hp && ti.zero.all Value.oneCell' then some (.ptr d 0, ⟨tm, (d, .box (ti.zero.map fun z => .t (.v z))) :: hp⟩) else none
    | _, _ => none
  | .box _ x => match o.dst, (val tm x).bind (cellsT hp) with
    | some d, some l => bif Nat.blt d big && freshT d tm && freshB d hp then some (.ptr d 0, ⟨tm, (d, .box l) :: hp⟩) else none
    | _, _ => none
  | .load t x => match val tm x, look tab t with
    | some (.ptr id off), some ti => match look hp id with
      | some (.box ts) => (takeT ti.desc.isAgg ti.size ts off).map (·, ⟨tm, hp⟩)
      | _ => none
    | some (.el cells), some ti => (takeT ti.desc.isAgg ti.size (mapT cells) 0).map (·, ⟨tm, hp⟩)
    | _, _ => none
  | .store t x y => match val tm x, look tab t, (val tm y).bind (cellsT hp) with
    | some (.ptr id off), some ti, some l => match look hp id with
      | some (.box ts) => bif Nat.beq l.length ti.size && Nat.ble (off + l.length) ts.length then some (.t (.v undef), ⟨tm, hput hp id (.box (splice ts off l))⟩) else none
      | _ => none
    | _, _, _ => none
  | .fieldAddr s x f => match val tm x, look tab s with
    | some (.ptr id off), some ⟨_, .struct fs, _⟩ => match fs[f]? with
      | some (p, .succ _) => some (.ptr id (off + p), ⟨tm, hp⟩)
      | _ => none
    | some (.el cells), some ⟨_, .struct fs, _⟩ => match fs[f]? with
      | some (p, .succ _) => some (.el (cells.drop p), ⟨tm, hp⟩)
      | _ => none
    | some (.pe id i sz off), some ⟨_, .struct fs, _⟩ => match fs[f]? with
      | some (p, .succ _) => some (.pe id i sz (off + p), ⟨tm, hp⟩)
      | _ => none
    | _, _ => none
  | .nilCheck x => match val tm x with
    | some (.ptr id off) => some (.ptr id off, ⟨tm, hp⟩)
    | some (.el cells) => some (.el cells, ⟨tm, hp⟩)
    | some (.pe id i sz off) => some (.pe id i sz off, ⟨tm, hp⟩)
    | _ => none
  | .binOp op ty x y _ => (binT tab op ty (val tm x) (val tm y)).map (·, ⟨tm, hp⟩)
  | .unOp op _ x => (unT op (val tm x)).map (·, ⟨tm, hp⟩)
  | .convert s d x => match look tab s with
    | some _ => (convT tab d (val tm x)).map (·, ⟨tm, hp⟩)
    | none => none
  | .extract x k => match val tm x with
    | some (.tup l) => (l[k]?).map (·, ⟨tm, hp⟩)
    | _ => none
  | .build t parts => match look tab t with
    | some ⟨_, .struct fs, z⟩ => (fillT hp tm (fs[·]?) (z.map fun x => .t (.v x)) parts.toList).map fun l => (.agg l, ⟨tm, hp⟩)
    | some ⟨_, .array _ e, z⟩ => match look tab e with
      | some te => (fillT hp tm (fun i => some (i * te.size, te.size)) (z.map fun x => .t (.v x)) parts.toList).map fun l => (.agg l, ⟨tm, hp⟩)
      | none => none
    | _ => none
  | .indexAddr t x ix => match val tm x, look tab t, val tm ix with
    | some (.ptr id off), some ⟨_, .array n e, _⟩, some (.t (.v (.int _ (.ofNat i)))) => match look tab e with
      | some te => bif Nat.blt i n then some (.ptr id (off + i * te.size), ⟨tm, hp⟩) else none
      | none => none
    | some (.el cells), some ⟨_, .array n e, _⟩, some (.t (.v (.int _ (.ofNat i)))) => match look tab e with
      | some te => bif Nat.blt i n then some (.el (cells.drop (i * te.size)), ⟨tm, hp⟩) else none
      | none => none
    | some (.pe id k sz off), some ⟨_, .array n e, _⟩, some (.t (.v (.int _ (.ofNat i)))) => match look tab e with
      | some te => bif Nat.blt i n then some (.pe id k sz (off + i * te.size), ⟨tm, hp⟩) else none
      | none => none
    | _, _, _ => none
  | .index t x ix => match val tm x, look tab t, val tm ix with
    | some (.agg l), some ⟨_, .array n e, _⟩, some (.t (.v (.int _ (.ofNat i)))) => match look tab e with
      | some te => bif Nat.blt i n then (takeT te.desc.isAgg te.size l (i * te.size)).map (·, ⟨tm, hp⟩) else none
      | none => none
    | _, _, _ => none
  | .makeFunc fn first captured => (funcT tm fn first.toList captured.toList).map (·, ⟨tm, hp⟩)
  | .call c => (callT tab ⟨tm, hp⟩ c.callee c.args.toList c.argTypes.toList).map (·, ⟨tm, hp⟩)
  | .buildSlice t n parts => match o.dst, look tab t with
    | some d, some ⟨_, .slice e, _⟩ => match look tab e with
      | some ti => match fillT hp tm (fun i => some (i * ti.size, ti.size)) ((zeros n ti.zero).map fun x => .t (.v x)) parts.toList with
        | some l => match trees l with
          | some r => bif Nat.blt d big && freshT d tm && freshB d hp && Nat.beq r.length (n * ti.size) && Nat.ble (n * ti.size) 1000000 && Nat.beq ti.zero.length ti.size && Nat.blt 0 ti.size
            then some (.own d, ⟨tm, (d, .rows e ti.size n (chunk ti.size n r)) :: hp⟩) else none
          | none => none
        | none => none
      | none => none
    | _, _ => none
  | _ => none
def evalOp (tab : Tab) (σ : St) (o : Oper) : Option (T × St) := match σ with | ⟨tm, hp⟩ => evalOpC tab tm hp o
theorem evalOp_eq (tab : Tab) (σ : St) (o : Oper) : evalOp tab σ o = evalOp0 tab σ o := by cases σ; rfl
end Go.Pv
namespace Go.Pv
open Go.RowKit
def Does (P : Program) (o : Oper) (a : Act) (w : World) (v : Value) (w' : World) : Prop :=
  (execOp a.eval o).run P w = .ok (.value v) w' ∨ ((execOp a.eval o).run P w = .ok .skip w' ∧ v = undef)
theorem sameKind_eq {k k' : IntKind} (h : sameKind k k' = true) : k = k' := by
  cases k <;> cases k' <;> first | rfl | (simp [sameKind] at h)
section
variable {P : Program} {tab : Tab} {w0 : World} {L : Lim} {nt : Nat} {σ σ' : St} {S : Nat → Prop} {E : Nat → Value} {a : Act} {w : World} {t : T}
theorem RV.tv {x y : Value} (h : RV w S E x (.t (.v y))) : x = y := by
  cases h with
  | t h => cases h; rfl
theorem RV.slice {x : Value} {n : Nat} {rs : List (List Tree)} (h : RV w S E x (.t (.sl n rs))) : ∃ a c, x = .slice a n c := by
  cases h with
  | t h => cases h <;> exact ⟨_, _, rfl⟩
theorem arith_ok {op : BinOp} {k k' : IntKind} {x y : Int} {v : Value} (hk : sameKind k k' = true ∨ isShift op = true) (h : arith op k x y = some v) :
    (binOp op 0 (.int k x) (.int k' y)).run P w = .ok v w ∧ ∀ ty, binOp op ty (.int k x) (.int k' y) = binOp op 0 (.int k x) (.int k' y) := by
  cases op <;> simp only [arith, Option.some.injEq, reduceCtorEq] at h
  case quo =>
    split at h <;> simp only [Option.some.injEq, reduceCtorEq] at h
    subst h
    rename_i hy
    obtain rfl := sameKind_eq (hk.resolve_right (by simp [isShift]))
    exact ⟨by simp [binOp, Op.intDiv, hy], fun ty => by simp [binOp]⟩
  case rem =>
    split at h <;> simp only [Option.some.injEq, reduceCtorEq] at h
    subst h
    rename_i hy
    obtain rfl := sameKind_eq (hk.resolve_right (by simp [isShift]))
    exact ⟨by simp [binOp, Op.intDiv, hy], fun ty => by simp [binOp]⟩
  case shl =>
    split at h <;> simp only [Option.some.injEq, reduceCtorEq] at h
    subst h
    rename_i hy
    exact ⟨by simp [binOp, Op.shift, hy], fun ty => by simp [binOp]⟩
  case shr =>
    split at h <;> simp only [Option.some.injEq, reduceCtorEq] at h
    subst h
    rename_i hy
    exact ⟨by simp [binOp, Op.shift, hy], fun ty => by simp [binOp]⟩
  all_goals
    subst h
    obtain rfl := sameKind_eq (hk.resolve_right (by simp [isShift]))
    exact ⟨by simp [binOp, Op.intArith, Op.intCmp, Op.intBits], fun ty => by simp [binOp]⟩
theorem eqGuard_run (op : BinOp) (ty : Nat) (x y : Operand) (v u : Value) (h1 : v ≠ .nilIface) (h2 : ∀ l, v ≠ .agg l) : (eqGuard op ty x y v u).run P w = .ok () w := by
  unfold eqGuard
  cases op <;> simp
  all_goals (cases v <;> first | (simp at h1; done) | (exact absurd rfl (h2 _)) | (cases u <;> simp))
theorem bool_ok (htab : TabOk P tab) {ty : Nat} {n : Nat} {z : List Value} (hl : look tab ty = some ⟨n, .bool, z⟩) (x y : Bool) :
    (Op.equal ty (.bool x) (.bool y)).run P w = .ok (x == y) w := by
  obtain ⟨d, hd, hok⟩ := (htab ty _ hl).run_under w
  simp only [TD.ok] at hok
  subst hok
  show (Op.equalIn (9999 + 1) ty (.bool x) (.bool y)).run P w = _
  rw [Op.equalIn]
  simp [hd]
theorem binT_ok (htab : TabOk P tab) {op : BinOp} {ty : Nat} {x y : Operand} {X Y : Option T} (hx : ∀ t, X = some t → RV w S E (a.eval x) t) (hy : ∀ t, Y = some t → RV w S E (a.eval y) t)
    (h : binT tab op ty X Y = some t) : ∃ v, (do eqGuard op ty x y (a.eval x) (a.eval y); binOp op ty (a.eval x) (a.eval y) : Sem Value).run P w = .ok v w ∧ RV w S E v t := by
  unfold binT at h
  split at h
  · rename_i k i k' j
    have e1 := (hx _ rfl).tv
    have e2 := (hy _ rfl).tv
    cases hk : (sameKind k k' || isShift op) <;> simp only [hk, cond_true, cond_false, reduceCtorEq] at h
    cases ha : arith op k i j with
    | none => simp [ha] at h
    | some v =>
      simp only [ha, Option.map_some, Option.some.injEq] at h
      subst h
      obtain ⟨h1, h2⟩ := arith_ok (P := P) (w := w) (by simpa using hk) ha
      rw [e1, e2]
      refine ⟨v, ?_, .t (.v v)⟩
      simp only [Sem.run_bind, eqGuard_run op ty x y (.int k i) (.int k' j) (by simp) (by simp), Result.andThen_ok, h2, h1]
  · rename_i i j
    have e1 := (hx _ rfl).tv
    have e2 := (hy _ rfl).tv
    rw [e1, e2]
    split at h
    · rename_i n z hl
      have hb := bool_ok (w := w) htab hl i j
      split at h
      · simp only [Option.some.injEq] at h
        subst h
        exact ⟨_, by simp only [Sem.run_bind, eqGuard_run .eql ty x y (.bool i) (.bool j) (by simp) (by simp), Result.andThen_ok]; simp [binOp, hb], .t (.v _)⟩
      · simp only [Option.some.injEq] at h
        subst h
        exact ⟨_, by simp only [Sem.run_bind, eqGuard_run .neq ty x y (.bool i) (.bool j) (by simp) (by simp), Result.andThen_ok]; simp [binOp, hb], .t (.v _)⟩
      · cases h
    · cases h
  · cases h
theorem unT_ok {op : UnOp} {x : Value} {X : Option T} (hx : ∀ t, X = some t → RV w S E x t) (h : unT op X = some t) : ∃ v, (Op.unary op x).run P w = .ok v w ∧ RV w S E v t := by
  unfold unT at h
  split at h
  · have e1 := (hx _ rfl).tv
    subst e1
    split at h
    · cases h; exact ⟨_, by simp [Op.unary], .t (.v _)⟩
    · cases h
  · have e1 := (hx _ rfl).tv
    subst e1
    split at h
    · cases h; exact ⟨_, by simp [Op.unary, Op.intArith], .t (.v _)⟩
    · cases h
  · cases h
theorem pickT_ok {c : Bool} {x y : Value} {X Y : Option T} (hx : ∀ t, X = some t → RV w S E x t) (hy : ∀ t, Y = some t → RV w S E y t) (h : pickT c X Y = some t) : RV w S E (if c then x else y) t := by
  unfold pickT at h
  split at h
  · have e1 := (hx _ rfl).tv
    have e2 := (hy _ rfl).tv
    cases h
    subst e1; subst e2
    cases c <;> exact .t (.v _)
  · cases c
    · exact hy t h
    · exact hx t h
theorem convT_ok (htab : TabOk P tab) {s d : Nat} {x : Value} {X : Option T} (hx : ∀ t, X = some t → RV w S E x t) (h : convT tab d X = some t) (hs : ∃ u, P.underlying s = some u) :
    ∃ v, (convert s d x).run P w = .ok v w ∧ RV w S E v t := by
  unfold convT at h
  split at h
  · have e1 := (hx _ rfl).tv
    subst e1
    split at h
    · rename_i k n z hl
      cases h
      obtain ⟨u, hu, hok⟩ := (htab d _ hl).run_under w
      simp only [TD.ok] at hok
      subst hok
      obtain ⟨u, hus⟩ := hs
      exact ⟨_, by simp [convert, run_underlying hus, hu, Conv.intToInt], .t (.v _)⟩
    · cases h
  · cases h
theorem lenT_ok (htab : TabOk P tab) (hok : Ok w0 L nt σ S E a w) {ty type : Nat} {x : Value} {X : Option T} (hx : ∀ t, X = some t → RV w S E x t) (h : lenT tab σ.hp ty X = some t) :
    ∃ v, (Builtin.len_ #[ty] type #[x]).run P w = .ok v w ∧ RV w S E v t := by
  unfold lenT at h
  split at h
  · rename_i n e z hl
    obtain ⟨d, hd, ho⟩ := (htab ty _ hl).run_under w
    simp only [TD.ok] at ho
    subst ho
    have key : ∀ (a' : Option Addr) (m c : Nat), (Builtin.len_ #[ty] type #[.slice a' m c]).run P w = .ok (.int .i64 m) w := by
      intro a' m c
      simp [Builtin.len_, hd, goInt]
    split at h
    · obtain ⟨a', c, rfl⟩ := (hx _ rfl).slice
      cases h
      exact ⟨_, key _ _ _, .t (.v _)⟩
    · have e1 := (hx _ rfl).tv
      subst e1
      cases h
      exact ⟨_, key _ _ _, .t (.v _)⟩
    · rename_i id
      split at h
      · rename_i el sz m rs hb
        cases h
        have hv := hx _ rfl
        cases hv with
        | own _ _ hEx =>
          subst hEx
          obtain ⟨hn, ⟨hE, hr⟩ | ⟨β, cap, vs, _, hE, _⟩⟩ := hok.hp id _ hb
          · subst hr; simp at hn; subst hn; rw [hE]; exact ⟨_, key _ _ _, .t (.v _)⟩
          · rw [hE]; subst hn; exact ⟨_, key _ _ _, .t (.v _)⟩
      · cases h
    · cases h
  · rename_i n z hl
    obtain ⟨d, hd, ho⟩ := (htab ty _ hl).run_under w
    simp only [TD.ok] at ho
    subst ho
    split at h
    · have e1 := (hx _ rfl).tv
      subst e1
      cases h
      exact ⟨_, by simp [Builtin.len_, hd, goInt], .t (.v _)⟩
    · cases h
  · cases h
theorem foldT_ok {f : Int → Int → Int} {g : Value → Value → Sem Value} (hg : ∀ k x k' y, (g (.int k x) (.int k' y)) = pure (.int k (f x y))) (hok : Ok w0 L nt σ S E a w) :
    ∀ (rest : List Operand) (x : Value) (X : Option T), (∀ t, X = some t → RV w S E x t) → ∀ t, foldT f σ.tm X rest = some t →
      ∃ v, ((rest.map a.eval).foldlM g x).run P w = .ok v w ∧ RV w S E v t
  | [], x, X, hx, t, h => by
    have h : X = some t := by cases X <;> first | exact h | (simp [foldT] at h; done)
    exact ⟨x, by simp, hx t h⟩
  | o :: rest, x, X, hx, t, h => by
    unfold foldT at h
    split at h
    · rename_i heq; cases heq
    · rename_i k i o' rest' heq
      cases heq
      have e1 := (hx _ rfl).tv
      subst e1
      split at h
      · rename_i k' j hv
        have e2 := (hok.val hv).tv
        have ih := foldT_ok hg hok rest (.int k (f i j)) _ (fun t ht => by cases ht; exact .t (.v _)) t h
        obtain ⟨v, hr, hv'⟩ := ih
        refine ⟨v, ?_, hv'⟩
        simp only [List.map_cons, List.foldlM_cons, e2, hg, pure_bind]
        exact hr
      · cases h
    · cases h
theorem vals_ok (hok : Ok w0 L nt σ S E a w) : ∀ (l : List Operand) (r : List T), vals σ.tm l = some r → RVL w S E (l.map a.eval) r
  | [], r, h => by simp [vals] at h; subst h; exact ⟨rfl, fun j h1 => by simp at h1⟩
  | o :: rest, r, h => by
    unfold vals at h
    split at h
    · rename_i x m hx hm
      cases h
      have ih := vals_ok hok rest m hm
      refine ⟨by simp [ih.1], fun j h1 h2 => ?_⟩
      cases j with
      | zero => exact hok.val hx
      | succ j => exact ih.2 j (by simpa using h1) (by simpa using h2)
    · cases h
end
end Go.Pv
namespace Go.Pv
open Go.RowKit
section
variable {P : Program} {tab : Tab} {w0 : World} {L : Lim} {nt : Nat} {σ σ' : St} {S : Nat → Prop} {E : Nat → Value} {a : Act} {w : World} {t : T}
theorem fieldAddr_ok {s f p n m : Nat} {fs : List (Nat × Nat)} {sz : Nat} {z : List Value} (hti : TIok P s ⟨sz, .struct fs, z⟩) (hf : fs[f]? = some (p, n + 1)) (b o : Nat) (_ : m = p) :
    (Instr.fieldAt s (.pointer (some ⟨b, o, none⟩)) f).run P w = .ok (.pointer (some ⟨b, o + p, none⟩)) w := by
  obtain ⟨d, hd, ho⟩ := hti.run_under w
  simp only [TD.ok] at ho
  obtain ⟨fds, rfl, hl, hfs⟩ := ho
  obtain ⟨fd, i, h1, h2, h3, h4⟩ := hfs f p (n + 1) hf
  simp [Instr.fieldAt, hd, h1, Instr.sureAddr, fieldPlace, sizeOf, typeInfo, h3, h4, addr_add, h2]
theorem RV.el_drop {b o : Nat} {cells : List Tree} (h : RV w S E (.pointer (some ⟨b, o, none⟩)) (.el cells)) (p : Nat) : RV w S E (.pointer (some ⟨b, o + p, none⟩)) (.el (cells.drop p)) := by
  cases h with
  | el _ _ _ vs hS hc hr =>
    refine .el b (o + p) _ (fun j => vs (p + j)) hS (fun j hj => ?_) (fun j hj => ?_)
    · simp only [List.length_drop] at hj
      rw [Nat.add_assoc]
      exact hc (p + j) (by omega)
    · simp only [List.length_drop] at hj
      simpa using hr (p + j) (by omega)
theorem RV.el_inv {x : Value} {cells : List Tree} (h : RV w S E x (.el cells)) : ∃ b o, x = .pointer (some ⟨b, o, none⟩) := by cases h with | el b o => exact ⟨b, o, rfl⟩
theorem RV.pe_ptr {x : Value} {id i sz off : Nat} (h : RV w S E x (.pe id i sz off)) : ∃ b o, x = .pointer (some ⟨b, o, none⟩) := by cases h with | pe _ _ _ _ b => exact ⟨b, _, rfl⟩
theorem RV.ptr_inv {x : Value} {id off : Nat} (h : RV w S E x (.ptr id off)) : ∃ b, x = .pointer (some ⟨b, off, none⟩) ∧ E id = .pointer (some ⟨b, 0, none⟩) := by cases h with | ptr _ _ b h => exact ⟨b, rfl, h⟩
theorem alloc_rvl (l : List Value) : RVL w S E l (l.map fun z => T.t (.v z)) := ⟨by simp, fun j h1 h2 => by simpa using RV.t (.v _)⟩
theorem build_ok (htab : TabOk P tab) (hok : Ok w0 L nt σ S E a w) {ty sz : Nat} {fs : List (Nat × Nat)} {z : List Value} (hl : look tab ty = some ⟨sz, .struct fs, z⟩) {parts : Array (Nat × Operand)} {l : List T}
    (h : fillT σ.hp σ.tm (fs[·]?) (z.map fun x => .t (.v x)) parts.toList = some l) : ∃ v, (Instr.build ty (parts.map fun (i, x) => (i, a.eval x))).run P w = .ok v w ∧ RV w S E v (.agg l) := by
  obtain ⟨zv, hz, hzc⟩ := (htab ty _ hl).run_zero w
  obtain ⟨d, hd, ho⟩ := (htab ty _ hl).run_under w
  simp only [TD.ok] at ho
  obtain ⟨fds, rfl, hlen, hfs⟩ := ho
  simp only at hzc
  have hr : RVL w S E zv.cells.toList (z.map fun x => T.t (.v x)) := by rw [hzc]; exact alloc_rvl z
  obtain ⟨cs', hfill, hrl⟩ := fill_ok hok parts.toList zv.cells _ l hr h
  have hpl : (fds.mapM fun f => (do pure (f.offset, ← sizeOf f.type) : Sem (Nat × Nat))).run P w = .ok fs.toArray w := by
    have key : ∀ (fl : List Field) (k : List (Nat × Nat)), k.length = fl.length → (∀ (f : Nat) (o n : Nat), k[f]? = some (o, n) → ∃ (fd : Field) (i : TypeInfo), fl[f]? = some fd ∧ fd.offset = o ∧ P.info? fd.type = some i ∧ i.size = n) →
        (fl.mapM fun f => (do pure (f.offset, ← sizeOf f.type) : Sem (Nat × Nat))).run P w = .ok k w := by
      intro fl
      induction fl with
      | nil => intro k hk _; simp at hk; subst hk; simp
      | cons f fl ih =>
        intro k hk hall
        cases k with
        | nil => simp at hk
        | cons q k =>
          obtain ⟨o, n⟩ := q
          obtain ⟨fd, i, h1, h2, h3, h4⟩ := hall 0 o n rfl
          simp only [List.getElem?_cons_zero, Option.some.injEq] at h1
          subst h1
          have := ih k (by simpa using hk) (fun j o n hj => by simpa using hall (j + 1) o n (by simpa using hj))
          simp [List.mapM_cons, sizeOf, typeInfo, h3, h4, h2] at this ⊢
          simp [this]
    have := key fds.toList fs (by simpa using hlen) (fun f o n hf => by simpa using hfs f o n hf)
    rw [Array.mapM_eq_mapM_toList, Sem.run_map, this]
    rfl
  refine ⟨.agg cs', ?_, ?_⟩
  · simp only [Instr.build, Sem.run_bind, hz, Result.andThen_ok, hd, hpl]
    have : (parts.map fun (i, x) => (i, a.eval x)).toList = parts.toList.map fun (i, x) => (i, a.eval x) := by simp
    rw [this]
    have e : (fun x : Nat => fs.toArray[x]?) = (fun x : Nat => fs[x]?) := by funext x; simp
    rw [e, hfill]
    simp
  · have := RV.agg (w := w) (S := S) (E := E) cs'.toList l hrl.1 hrl.2
    simpa using this
theorem buildArr_ok (htab : TabOk P tab) (hok : Ok w0 L nt σ S E a w) {ty sz n e : Nat} {te : TI} {z : List Value} (hl : look tab ty = some ⟨sz, .array n e, z⟩) (he : look tab e = some te) {parts : Array (Nat × Operand)} {l : List T}
    (h : fillT σ.hp σ.tm (fun i => some (i * te.size, te.size)) (z.map fun x => .t (.v x)) parts.toList = some l) : ∃ v, (Instr.build ty (parts.map fun (i, x) => (i, a.eval x))).run P w = .ok v w ∧ RV w S E v (.agg l) := by
  obtain ⟨zv, hz, hzc⟩ := (htab ty _ hl).run_zero w
  obtain ⟨d, hd, ho⟩ := (htab ty _ hl).run_under w
  simp only [TD.ok] at ho
  subst ho
  simp only at hzc
  have hr : RVL w S E zv.cells.toList (z.map fun x => T.t (.v x)) := by rw [hzc]; exact alloc_rvl z
  obtain ⟨cs', hfill, hrl⟩ := fill_ok hok parts.toList zv.cells _ l hr h
  refine ⟨.agg cs', ?_, ?_⟩
  · have hp : (parts.map fun (i, x) => (i, a.eval x)).toList = parts.toList.map fun (i, x) => (i, a.eval x) := by simp
    simp only [Instr.build, Sem.run_bind, hz, Result.andThen_ok, hd, (htab e _ he).run_size w, hp, hfill, Sem.run_pure]
  · have := RV.agg (w := w) (S := S) (E := E) cs'.toList l hrl.1 hrl.2
    simpa using this
theorem arrAddr_ok {t n e i b o : Nat} {ik : IntKind} {te : TI} {sz : Nat} {z : List Value} (htab : TabOk P tab) (hti : look tab t = some ⟨sz, .array n e, z⟩) (he : look tab e = some te) (hi : i < n) :
    (Instr.indexAt t (.pointer (some ⟨b, o, none⟩)) (.int ik (Int.ofNat i))).run P w = .ok (.pointer (some ⟨b, o + i * te.size, none⟩)) w := by
  obtain ⟨d, hd, ho⟩ := (htab t _ hti).run_under w
  simp only [TD.ok] at ho
  subst ho
  have hs := (htab e _ he).run_size w
  have c1 : (0 : Int) ≤ (Int.ofNat i) ∧ (Int.ofNat i) < (n : Int) := ⟨Int.natCast_nonneg i, by simpa using hi⟩
  simp only [Instr.indexAt, asIntOf, Sem.run_bind, Sem.run_pure, Result.andThen_ok, hd, Instr.sureAddr, c1, and_self, if_true, hs, addr_add]
  simp
theorem arrPart_ok {t n e i : Nat} {ik : IntKind} {te : TI} {sz : Nat} {z : List Value} (htab : TabOk P tab) (hti : look tab t = some ⟨sz, .array n e, z⟩) (he : look tab e = some te) (hi : i < n) {vs : List Value} {l : List T} (hv : RVL w S E vs l) {r : T}
    (hr : takeT te.desc.isAgg te.size l (i * te.size) = some r) : ∃ v, (Instr.index t (.agg vs.toArray) (.int ik (Int.ofNat i))).run P w = .ok v w ∧ RV w S E v r := by
  obtain ⟨d, hd, ho⟩ := (htab t _ hti).run_under w
  simp only [TD.ok] at ho
  subst ho
  have hs := (htab e _ he).run_size w
  have hag := (htab e _ he).run_agg w
  have c1 : (0 : Int) ≤ (Int.ofNat i) ∧ (Int.ofNat i) < (n : Int) := ⟨Int.natCast_nonneg i, by simpa using hi⟩
  unfold takeT at hr
  have hl := hv.1
  cases hb : te.desc.isAgg
  · simp only [hb, cond_false] at hr
    obtain ⟨hlt, rfl⟩ := List.getElem?_eq_some_iff.1 hr
    have hlt' : i * te.size < vs.length := by omega
    refine ⟨vs[i * te.size], ?_, hv.2 _ hlt' hlt⟩
    rw [hb] at hag
    simp only [Instr.index, asIntOf, Sem.run_bind, Sem.run_pure, Result.andThen_ok, hd, c1, and_self, if_true, hs, part, hag]
    simp [hlt']
  · simp only [hb, cond_true] at hr
    cases hle : Nat.ble (i * te.size + te.size) l.length <;> simp only [hle, cond_true, cond_false, Option.some.injEq, reduceCtorEq] at hr
    subst hr
    have hle := Nat.le_of_ble_eq_true hle
    rw [hb] at hag
    refine ⟨.agg (vs.toArray.extract (i * te.size) (i * te.size + te.size)), ?_, ?_⟩
    · simp only [Instr.index, asIntOf, Sem.run_bind, Sem.run_pure, Result.andThen_ok, hd, c1, and_self, if_true, hs, part, hag]
      simp [hs]
    · have key := RV.agg (w := w) (S := S) (E := E) ((vs.drop (i * te.size)).take te.size) ((l.drop (i * te.size)).take te.size) (by simp; omega) (fun j h1 h2 => by
        simp only [List.length_take, List.length_drop] at h1 h2
        have := hv.2 (i * te.size + j) (by omega) (by omega)
        simpa using this)
      have e1 : vs.toArray.extract (i * te.size) (i * te.size + te.size) = ((vs.drop (i * te.size)).take te.size).toArray := by
        apply Array.ext'
        simp [List.take_drop]
      rw [e1]
      exact key
theorem buildSlice_ok (htab : TabOk P tab) (hok : Ok w0 L nt σ S E a w) {ty sz e n : Nat} {z : List Value} {ti : TI} (hl : look tab ty = some ⟨sz, .slice e, z⟩) (he : look tab e = some ti)
    {parts : Array (Nat × Operand)} {l : List T} (h : fillT σ.hp σ.tm (fun i => some (i * ti.size, ti.size)) ((zeros n ti.zero).map fun x => .t (.v x)) parts.toList = some l)
    (hb1 : n * ti.size ≤ 1000000) (hb2 : ti.zero.length = ti.size) (hb3 : 0 < ti.size) :
    ∃ cs : Array Value, (Instr.buildSlice ty n (parts.map fun (i, x) => (i, a.eval x))).run P w = .ok (.slice (some ⟨w.heap.size, 0, none⟩) n n) (w.alloc (.cells cs e)) ∧ RVL w S E cs.toList l := by
  obtain ⟨d, hd, ho⟩ := (htab ty _ hl).run_under w
  simp only [TD.ok] at ho
  subst ho
  obtain ⟨zv, hz, hzc⟩ := (htab e _ he).run_zero w
  have hs := (htab e _ he).run_size w
  have hzs : zv.cells.size = ti.size := by rw [← hb2, ← hzc]; simp
  have e1 : ∃ start : Array Value, start.toList = zeros n ti.zero ∧
      (do let zero ← if n * ti.size = 0 then pure #[] else do pure (← zeroValue e).cells
          pure ((Array.range (n * ti.size)).map (zero[· % zero.size]!)) : Sem (Array Value)).run P w = .ok start w := by
    by_cases h0 : n * ti.size = 0
    · refine ⟨#[], ?_, by simp [h0]⟩
      have : (zeros n ti.zero).length = 0 := by rw [zeros_length, hb2, h0]
      exact (List.eq_nil_of_length_eq_zero this).symm
    · refine ⟨(zeros n ti.zero).toArray, rfl, ?_⟩
      simp only [h0, if_false, Sem.run_bind, hz, Result.andThen_ok, Sem.run_pure]
      rw [← hzs, zeros_eq n zv.cells (by omega), hzc]
  obtain ⟨start, hst, hrun⟩ := e1
  have hr : RVL w S E start.toList ((zeros n ti.zero).map fun x => T.t (.v x)) := by rw [hst]; exact alloc_rvl _
  obtain ⟨cs', hfill, hrl⟩ := fill_ok hok parts.toList start _ l hr h
  refine ⟨cs', ?_, hrl⟩
  have hp : (parts.map fun (i, x) => (i, a.eval x)).toList = parts.toList.map fun (i, x) => (i, a.eval x) := by simp
  have hlim : ¬ n * ti.size > 2 ^ 24 := by omega
  by_cases h0 : n * ti.size = 0
  · have hr0 : ∀ f : Nat → Value, (Array.range 0).map f = #[] := fun f => by simp
    simp only [h0, if_true, Sem.run_bind, Sem.run_pure, Result.andThen_ok] at hrun
    simp only [Result.ok.injEq, and_true, hr0] at hrun
    simp only [Instr.buildSlice, Sem.run_bind, hd, Result.andThen_ok, hs, h0, if_true, Sem.run_pure, hr0, hp]
    simp only [← hrun] at hfill
    simp only [hfill]
    simp [newRow]
  · simp only [h0, if_false, Sem.run_bind, hz, Result.andThen_ok, Sem.run_pure, Result.ok.injEq, and_true] at hrun
    simp only [Instr.buildSlice, Sem.run_bind, hd, Result.andThen_ok, hs, hlim, if_false, h0, Sem.run_pure, hz, hrun, hp, hfill]
    simp [newRow]
end
end Go.Pv
namespace Go.Pv
open Go.RowKit
section
variable {P : Program} {tab : Tab} {w0 : World} {L : Lim} {nt : Nat} {σ σ' : St} {S : Nat → Prop} {E : Nat → Value} {a : Act} {w : World} {t : T} {o : Oper}
theorem pure_ok {v : Value} (h : Ok w0 L nt σ S E a w) (hr : (execOp a.eval o).run P w = .ok (.value v) w) (hv : RV w S E v t) :
    ∃ v w' E', Does P o a w v w' ∧ Ok w0 L nt σ S E' a w' ∧ RV w' S E' v t := ⟨v, w, E, .inl hr, h, hv⟩
/-- The result of an optional slot content beside an unchanged state. -/
theorem map_inv {x : Option T} {σ σ' : St} {t : T} (h : x.map (·, σ) = some (t, σ')) : x = some t ∧ σ' = σ := by
  cases x with
  | none => simp at h
  | some y => simp only [Option.map_some, Option.some.injEq, Prod.mk.injEq] at h; exact ⟨by rw [h.1], h.2.symm⟩
theorem box_ok {vs : List Value} {l : List T} {d e : Nat} (h : Ok w0 L nt σ S E a w) (hr : RVL w S E vs l) (h1 : ∀ x ∈ vs, x.oneCell' = true) (hbig : Nat.blt d big = true) (hf : freshT d σ.tm = true) (hb : freshB d σ.hp = true) (hl : namesL d l = false) :
    ∃ E', Ok w0 L nt ⟨σ.tm, (d, .box l) :: σ.hp⟩ S E' a (w.alloc (.cells vs.toArray e)) ∧ RV (w.alloc (.cells vs.toArray e)) S E' (.pointer (some ⟨w.heap.size, 0, none⟩)) (.ptr d 0) := by
  obtain ⟨E', hE, _, hok⟩ := h.alloc (o := .cells vs.toArray e) (x := .pointer (some ⟨w.heap.size, 0, none⟩)) (b := .box l) hbig hf hb rfl (fun E' hE' => by
    refine ⟨w.heap.size, vs, e, rfl, heap_alloc_new w _, hr.1, fun j a b => ?_, h1⟩
    refine (hr.2 j a b).mono (fun _ x => x) (fun b hb => heap_alloc_old w _ b (h.stab b hb)) fun id hid => hE' id fun eq => ?_
    subst eq
    rw [namesL_get hl j b] at hid
    cases hid)
  exact ⟨E', hok, .ptr d 0 _ hE⟩
theorem RV.rtree {v : Value} {y : Tree} (h : RV w S E v (.t y)) : RT w S v y := by cases h with | t h => exact h
theorem fresh_val {d : Nat} {x : Operand} {t : T} (hf : freshT d σ.tm = true) (hx : val σ.tm x = some t) : names d t = false := by
  cases x with
  | tmp k => exact freshT_look hf k t hx
  | const v => cases hx; rfl
  | func f => cases hx; rfl
  | global g => cases hx; rfl
theorem fresh_cells {d : Nat} {hp : List (Nat × Blk)} {t : T} {l : List T} (hf : names d t = false) (hx : cellsT hp t = some l) : namesL d l = false := by
  cases t with
  | agg m =>
    simp only [cellsT] at hx
    cases ho : oneL hp m <;> rw [ho] at hx <;> simp at hx
    subst hx
    simpa [names] using hf
  | _ =>
    simp only [cellsT] at hx
    cases ho : Pv.one hp _ <;> rw [ho] at hx <;> simp at hx
    subst hx
    simpa [namesL] using hf
theorem tt_names (d : Nat) (l : List Value) : namesL d (l.map fun z => T.t (.v z)) = false := by
  induction l with
  | nil => rfl
  | cons x l ih => simpa [namesL, names] using ih
theorem evalOp_ok (htab : TabOk P tab) (h : Ok w0 L nt σ S E a w) (he : evalOp tab σ o = some (t, σ')) :
    ∃ v w' E', Does P o a w v w' ∧ Ok w0 L nt σ' S E' a w' ∧ RV w' S E' v t := by
  rw [evalOp_eq] at he
  obtain ⟨dst, op, type, pos, after, guard⟩ := o
  cases op <;> simp only [evalOp0, reduceCtorEq] at he
  case move x =>
    obtain ⟨hx, rfl⟩ := map_inv he
    exact pure_ok h rfl (h.val hx)
  case assign x =>
    obtain ⟨hx, rfl⟩ := map_inv he
    exact pure_ok h rfl (h.val hx)
  case pick c x y =>
    split at he
    · rename_i b hc
      obtain ⟨hx, rfl⟩ := map_inv he
      have hcv := (h.val hc).tv
      exact pure_ok h (by simp [execOp, hcv, asBool]) (pickT_ok (fun t ht => h.val ht) (fun t ht => h.val ht) hx)
    · cases he
  case alloc e =>
    split at he
    · rename_i d ti hti
      cases hb : (Nat.blt d big && freshT d σ.tm && freshB d σ.hp && ti.zero.all Value.oneCell') <;> simp only [hb, cond_true, cond_false, reduceCtorEq, Option.some.injEq, Prod.mk.injEq] at he
      obtain ⟨rfl, rfl⟩ := he
      simp only [Bool.and_eq_true] at hb
      obtain ⟨zv, hz, hzc⟩ := (htab e _ hti).run_zero w
      obtain ⟨E', hok, hv⟩ := box_ok (e := e) h (alloc_rvl ti.zero) (by simpa using hb.2) hb.1.1.1 hb.1.1.2 hb.1.2 (tt_names d _)
      refine ⟨_, _, E', .inl ?_, hok, hv⟩
      have : zv.cells = ti.zero.toArray := by rw [← hzc]
      simp [execOp, Instr.alloc, hz, newVar, newRow, this]
    · cases he
  case box e x =>
    split at he
    · rename_i d l hx
      cases hb : (Nat.blt d big && freshT d σ.tm && freshB d σ.hp) <;> simp only [hb, cond_true, cond_false, reduceCtorEq, Option.some.injEq, Prod.mk.injEq] at he
      obtain ⟨rfl, rfl⟩ := he
      simp only [Bool.and_eq_true] at hb
      cases hv : val σ.tm x with
      | none => simp [hv] at hx
      | some y =>
        simp only [hv, Option.bind_some] at hx
        obtain ⟨vs, hvs, hl, hr, h1⟩ := h.cells (h.val hv) hx
        obtain ⟨E', hok, hv'⟩ := box_ok (e := e) h ⟨hl, hr⟩ h1 hb.1.1 hb.1.2 hb.2 (fresh_cells (fresh_val hb.1.2 hv) hx)
        refine ⟨_, _, E', .inl ?_, hok, hv'⟩
        simp [execOp, Instr.box, newVar, newRow, hvs]
    · cases he
  case load ty x =>
    split at he
    · rename_i id off ti hx hti
      split at he
      · rename_i ts hb
        obtain ⟨hx', rfl⟩ := map_inv he
        obtain ⟨β, hpv, hE⟩ := (h.val hx).ptr_inv
        obtain ⟨β', vs, elem, hE', hh, hl, hr, _⟩ := h.hp id _ hb
        rw [hE] at hE'
        cases hE'
        obtain ⟨v, hv1, hv2⟩ := load_ok (P := P) (w := w) (b := β) (o := 0) (htab ty _ hti) hl (fun j h1 => by rw [cell_of_row w β (0 + j) _ elem _ hh]; simp [h1]) hr hx'
        rw [Nat.zero_add] at hv1
        exact pure_ok h (by simp [execOp, hpv, hv1]) hv2
      · cases he
    · rename_i cells ti hx hti
      obtain ⟨hx', rfl⟩ := map_inv he
      have hv := h.val hx
      obtain ⟨b, o, hpv⟩ := hv.el_inv
      rw [hpv] at hv
      cases hv with
      | el _ _ _ vs hS hc hr =>
        obtain ⟨v, hv1, hv2⟩ := load_ok (P := P) (w := w) (S := S) (E := E) (b := b) (o := o) (vs := (List.range cells.length).map vs) (l := mapT cells) (htab ty _ hti) (by simp [mapT_eq])
          (fun j h1 => by simp only [List.length_map, List.length_range] at h1; rw [hc j h1]; simp)
          (fun j h1 h2 => by
            simp only [List.length_map, List.length_range] at h1
            simp only [mapT_eq, List.getElem_map, List.getElem_range]
            exact .t (hr j h1)) hx'
        rw [Nat.add_zero] at hv1
        exact pure_ok h (by simp [execOp, hpv, hv1]) hv2
    · cases he
  case store ty x y =>
    split at he
    · rename_i id off ti l hx hti hy
      split at he
      · rename_i ts hb
        cases hc : (Nat.beq l.length ti.size && Nat.ble (off + l.length) ts.length) <;> simp only [hc, cond_true, cond_false, reduceCtorEq, Option.some.injEq, Prod.mk.injEq] at he
        obtain ⟨rfl, rfl⟩ := he
        simp only [Bool.and_eq_true] at hc
        cases hv : val σ.tm y with
        | none => simp [hv] at hy
        | some u =>
          simp only [hv, Option.bind_some] at hy
          obtain ⟨w', hs, hok⟩ := store_ok h (htab ty _ hti) hb (h.val hx) (h.val hv) hy (Nat.eq_of_beq_eq_true hc.1) (Nat.le_of_ble_eq_true hc.2)
          exact ⟨undef, w', E, .inr ⟨by simp [execOp, hs], rfl⟩, hok, .t (.v _)⟩
      · cases he
    · cases he
  case nilCheck x =>
    split at he
    · rename_i id off hx
      simp only [Option.some.injEq, Prod.mk.injEq] at he
      obtain ⟨rfl, rfl⟩ := he
      obtain ⟨β, hpv, _⟩ := (h.val hx).ptr_inv
      exact pure_ok (v := .pointer (some ⟨β, off, none⟩)) h (by simp [execOp, hpv]) (by rw [← hpv]; exact h.val hx)
    · rename_i cells hx
      simp only [Option.some.injEq, Prod.mk.injEq] at he
      obtain ⟨rfl, rfl⟩ := he
      obtain ⟨b, o, hpv⟩ := (h.val hx).el_inv
      exact pure_ok (v := .pointer (some ⟨b, o, none⟩)) h (by simp [execOp, hpv]) (by rw [← hpv]; exact h.val hx)
    · rename_i id i sz off hx
      simp only [Option.some.injEq, Prod.mk.injEq] at he
      obtain ⟨rfl, rfl⟩ := he
      obtain ⟨b, o, hpv⟩ := (h.val hx).pe_ptr
      exact pure_ok (v := .pointer (some ⟨b, o, none⟩)) h (by simp [execOp, hpv]) (by rw [← hpv]; exact h.val hx)
    · cases he
  case fieldAddr s x f =>
    split at he
    · rename_i id off sz fs z hx hti
      split at he
      · rename_i p n hf
        simp only [Option.some.injEq, Prod.mk.injEq] at he
        obtain ⟨rfl, rfl⟩ := he
        obtain ⟨β, hpv, hE⟩ := (h.val hx).ptr_inv
        exact pure_ok h (by simp [execOp, hpv, fieldAddr_ok (htab s _ hti) hf β off rfl]) (.ptr id _ β hE)
      · cases he
    · rename_i cells sz fs z hx hti
      split at he
      · rename_i p n hf
        simp only [Option.some.injEq, Prod.mk.injEq] at he
        obtain ⟨rfl, rfl⟩ := he
        have hv := h.val hx
        obtain ⟨b, o, hpv⟩ := hv.el_inv
        rw [hpv] at hv
        exact pure_ok h (by simp [execOp, hpv, fieldAddr_ok (htab s _ hti) hf b o rfl]) (hv.el_drop p)
      · cases he
    · rename_i id i sz' off sz fs z hx hti
      split at he
      · rename_i p n hf
        simp only [Option.some.injEq, Prod.mk.injEq] at he
        obtain ⟨rfl, rfl⟩ := he
        have hv := h.val hx
        generalize hpv : a.eval x = pv at hv
        cases hv with
        | pe _ _ _ _ β n' cap hE =>
          exact pure_ok (v := .pointer (some ⟨β, i * sz' + off + p, none⟩)) h (by simp [execOp, hpv, fieldAddr_ok (htab s _ hti) hf β _ rfl]) (by rw [Nat.add_assoc]; exact .pe id i sz' (off + p) β n' cap hE)
      · cases he
    · cases he
  case binOp op ty x y yt =>
    obtain ⟨hx, rfl⟩ := map_inv he
    obtain ⟨v, hv1, hv2⟩ := binT_ok htab (x := x) (y := y) (a := a) (fun t ht => h.val ht) (fun t ht => h.val ht) hx
    exact pure_ok h (by simp only [execOp, Sem.run_bind, hv1, Result.andThen_ok, Sem.run_pure]) hv2
  case unOp op ty x =>
    obtain ⟨hx, rfl⟩ := map_inv he
    obtain ⟨v, hv1, hv2⟩ := unT_ok (P := P) (fun t ht => h.val ht) hx
    exact pure_ok h (by simp only [execOp, Sem.run_bind, hv1, Result.andThen_ok, Sem.run_pure]) hv2
  case convert s d x =>
    split at he
    · rename_i ti hs
      obtain ⟨hx, rfl⟩ := map_inv he
      obtain ⟨i, u, _, _, hu, _⟩ := htab s _ hs
      obtain ⟨v, hv1, hv2⟩ := convT_ok (s := s) htab (fun t ht => h.val ht) hx ⟨u, hu⟩
      exact pure_ok h (by simp only [execOp, Sem.run_bind, hv1, Result.andThen_ok, Sem.run_pure]) hv2
    · cases he
  case extract x k =>
    split at he
    · rename_i l hx
      obtain ⟨hx', rfl⟩ := map_inv he
      have hv := h.val hx
      cases hxe : a.eval x <;> rw [hxe] at hv <;> try (cases hv; done)
      cases hv with
      | tup vs _ hl hr =>
        obtain ⟨hk, rfl⟩ := List.getElem?_eq_some_iff.1 hx'
        exact pure_ok h (by simp [execOp, hxe, Instr.extract, hl, hk]) (hr k (by omega) hk)
    · cases he
  case build ty parts =>
    split at he
    · rename_i sz fs z hti
      cases hf : fillT σ.hp σ.tm (fs[·]?) (z.map fun x => .t (.v x)) parts.toList with
      | none => simp [hf] at he
      | some l =>
        simp only [hf, Option.map_some, Option.some.injEq, Prod.mk.injEq] at he
        obtain ⟨rfl, rfl⟩ := he
        obtain ⟨v, hv1, hv2⟩ := build_ok htab h hti hf
        exact pure_ok h (by simp only [execOp, Sem.run_bind, hv1, Result.andThen_ok, Sem.run_pure]) hv2
    · rename_i sz n e z hti
      split at he <;> try (cases he; done)
      rename_i te hte
      cases hf : fillT σ.hp σ.tm (fun i => some (i * te.size, te.size)) (z.map fun x => .t (.v x)) parts.toList with
      | none => simp [hf] at he
      | some l =>
        simp only [hf, Option.map_some, Option.some.injEq, Prod.mk.injEq] at he
        obtain ⟨rfl, rfl⟩ := he
        obtain ⟨v, hv1, hv2⟩ := buildArr_ok htab h hti hte hf
        exact pure_ok h (by simp only [execOp, Sem.run_bind, hv1, Result.andThen_ok, Sem.run_pure]) hv2
    · cases he
  case indexAddr ty x ix =>
    split at he <;> try (cases he; done)
    all_goals
      rename_i hx hti hix
      split at he <;> try (cases he; done)
      rename_i te hte
    · rename_i id off sz n e z ik i _
      cases hb : Nat.blt i n <;> simp only [hb, cond_true, cond_false, reduceCtorEq, Option.some.injEq, Prod.mk.injEq] at he
      obtain ⟨rfl, rfl⟩ := he
      obtain ⟨β, hpv, hE⟩ := (h.val hx).ptr_inv
      exact pure_ok h (by simp only [execOp, hpv, (h.val hix).tv, arrAddr_ok htab hti hte (Nat.le_of_ble_eq_true hb), Sem.run_bind, Result.andThen_ok, Sem.run_pure]) (.ptr id _ β hE)
    · rename_i cells sz n e z ik i _
      cases hb : Nat.blt i n <;> simp only [hb, cond_true, cond_false, reduceCtorEq, Option.some.injEq, Prod.mk.injEq] at he
      obtain ⟨rfl, rfl⟩ := he
      have hv := h.val hx
      obtain ⟨b, o, hpv⟩ := hv.el_inv
      rw [hpv] at hv
      exact pure_ok h (by simp only [execOp, hpv, (h.val hix).tv, arrAddr_ok htab hti hte (Nat.le_of_ble_eq_true hb), Sem.run_bind, Result.andThen_ok, Sem.run_pure]) (hv.el_drop _)
    · rename_i id k sz' off sz n e z ik i _
      cases hb : Nat.blt i n <;> simp only [hb, cond_true, cond_false, reduceCtorEq, Option.some.injEq, Prod.mk.injEq] at he
      obtain ⟨rfl, rfl⟩ := he
      have hv := h.val hx
      generalize hpv : a.eval x = pv at hv
      cases hv with
      | pe _ _ _ _ β n' cap hE =>
        exact pure_ok (v := .pointer (some ⟨β, k * sz' + off + i * te.size, none⟩)) h (by simp only [execOp, hpv, (h.val hix).tv, arrAddr_ok htab hti hte (Nat.le_of_ble_eq_true hb), Sem.run_bind, Result.andThen_ok, Sem.run_pure]) (by rw [Nat.add_assoc]; exact .pe id k sz' (off + i * te.size) β n' cap hE)
  case index ty x ix =>
    split at he <;> try (cases he; done)
    rename_i l sz n e z ik i hx hti hix
    split at he <;> try (cases he; done)
    rename_i te hte
    cases hb : Nat.blt i n <;> simp only [hb, cond_true, cond_false, reduceCtorEq] at he
    obtain ⟨hx', rfl⟩ := map_inv he
    have hv := h.val hx
    generalize hpv : a.eval x = pv at hv
    cases hv with
    | agg vs _ hl hr =>
      obtain ⟨v, hv1, hv2⟩ := arrPart_ok (ik := ik) htab hti hte (Nat.le_of_ble_eq_true hb) ⟨hl, hr⟩ hx'
      exact pure_ok h (by simp only [execOp, hpv, (h.val hix).tv, hv1, Sem.run_bind, Result.andThen_ok, Sem.run_pure]) hv2
  case makeFunc fn first captured =>
    obtain ⟨hx, rfl⟩ := map_inv he
    cases fn <;> cases hfl : first.toList <;> simp only [funcT, hfl, reduceCtorEq] at hx
    · rename_i f
      cases hl : vals σ'.tm captured.toList with
      | none => simp [hl] at hx
      | some l =>
        simp only [hl, Option.map_some, Option.some.injEq] at hx
        subst hx
        have hr := vals_ok h _ l hl
        have hfirst : first = #[] := by simpa using hfl
        subst hfirst
        refine pure_ok h ?_ (.clo f (captured.toList.map a.eval) l hr.1 hr.2)
        simp [execOp, Instr.makeFunc]
        exact Array.ext' (by simp)
  case buildSlice ty n parts =>
    split at he
    · rename_i d sz e z hti
      split at he
      · rename_i ti hte
        split at he
        · rename_i l hf
          split at he
          · rename_i r hr
            cases hc : (Nat.blt d big && freshT d σ.tm && freshB d σ.hp && Nat.beq r.length (n * ti.size) && Nat.ble (n * ti.size) 1000000 && Nat.beq ti.zero.length ti.size && Nat.blt 0 ti.size) <;>
              simp only [hc, cond_true, cond_false, reduceCtorEq, Option.some.injEq, Prod.mk.injEq] at he
            obtain ⟨rfl, rfl⟩ := he
            simp only [Bool.and_eq_true] at hc
            obtain ⟨⟨⟨⟨⟨⟨c0, c1⟩, c2⟩, c3⟩, c4⟩, c5⟩, c6⟩ := hc
            have c3 := Nat.eq_of_beq_eq_true c3
            have c6 : 0 < ti.size := Nat.le_of_ble_eq_true c6
            obtain ⟨cs, hrun, hcl, hcr⟩ := buildSlice_ok htab h hti hte hf (Nat.le_of_ble_eq_true c4) (Nat.eq_of_beq_eq_true c5) c6
            have hlr := trees_ok hr
            have hlen : r.length = l.length := by have := congrArg List.length hlr; simpa using this.symm
            obtain ⟨E', hE, _, hok⟩ := h.alloc (o := .cells cs e) (x := .slice (some ⟨w.heap.size, 0, none⟩) n n) (b := .rows e ti.size n (chunk ti.size n r)) c0 c1 c2 rfl (fun E' hE' => by
              refine ⟨(chunk_length _ _ _).symm,   .inr ⟨w.heap.size, n, cs.toList, by have : n ≤ n * ti.size := Nat.le_mul_of_pos_right n c6; have := Nat.le_of_ble_eq_true c4; unfold maxLen; omega, by rw [chunk_length], by rw [heap_alloc_new], ?_, by rw [chunk_length]; exact Nat.le_refl _, chunk_sizes _ _ _ c3, ?_⟩⟩
              · rw [hcl, ← hlen]; simpa using c3
              · intro i j hi hj hb
                have hb' : i * ti.size + j < r.length := by rw [hcl, ← hlen] at hb; exact hb
                rw [chunk_get ti.size n r c3 i j hi hj hb']
                have h3 := nilT_ok (hcr (i * ti.size + j) hb (by rw [← hlen]; exact hb'))
                have h4 : nilT (l[i * ti.size + j]'(by rw [← hlen]; exact hb')) = T.t (r[i * ti.size + j]) := by
                  have h5 : (l.map nilT)[i * ti.size + j]? = (r.map T.t)[i * ti.size + j]? := by rw [hlr]
                  rw [List.getElem?_map, List.getElem?_map, List.getElem?_eq_getElem (by rw [← hlen]; exact hb'), List.getElem?_eq_getElem hb'] at h5
                  simpa using h5
                rw [h4] at h3
                exact h3.rtree.mono (fun _ x => x) fun b hb => heap_alloc_old w _ b (h.stab b hb))
            refine ⟨_, _, E', .inl ?_, hok, .own d _ hE⟩
            simp only [execOp, Sem.run_bind, hrun, Result.andThen_ok, Sem.run_pure]
          · cases he
        · cases he
      · cases he
    · cases he
  case call c =>
    obtain ⟨hx, rfl⟩ := map_inv he
    obtain ⟨callee, args, tys⟩ := c
    simp only at hx
    unfold callT at hx
    split at hx
    · rename_i x ty h1 h2
      obtain ⟨v, hv1, hv2⟩ := lenT_ok (type := type) htab h (fun t ht => h.val ht) hx
      obtain ⟨args⟩ := args
      obtain ⟨tys⟩ := tys
      simp only at h1 h2
      subst h1; subst h2
      refine pure_ok h ?_ hv2
      simp only [execOp, resolve, Sem.run_bind, Sem.run_pure, Result.andThen_ok, invoke, builtin]
      simp [hv1]
    · rename_i x rest h1
      obtain ⟨v, hv1, hv2⟩ := foldT_ok (P := P) (f := minI) (g := Builtin.min2) (fun _ _ _ _ => rfl) h rest (a.eval x) _ (fun t ht => h.val ht) t hx
      obtain ⟨args⟩ := args
      simp only at h1
      subst h1
      refine pure_ok h ?_ hv2
      simp only [execOp, resolve, Sem.run_bind, Sem.run_pure, Result.andThen_ok, invoke, builtin, Builtin.min_]
      simp [hv1]
    · rename_i x rest h1
      obtain ⟨v, hv1, hv2⟩ := foldT_ok (P := P) (f := maxI) (g := Builtin.max2) (fun _ _ _ _ => rfl) h rest (a.eval x) _ (fun t ht => h.val ht) t hx
      obtain ⟨args⟩ := args
      simp only at h1
      subst h1
      refine pure_ok h ?_ hv2
      simp only [execOp, resolve, Sem.run_bind, Sem.run_pure, Result.andThen_ok, invoke, builtin, Builtin.max_]
      simp [hv1]
    · cases hx
end
end Go.Pv
namespace Go.Pv
open Go.RowKit
def putT (nt : Nat) (dst : Option Nat) (t : T) (σ : St) : Option St :=
  match dst with
  | none => some σ
  | some d => bif Nat.blt d nt then (match σ with | ⟨tm, hp⟩ => some ⟨(d, t) :: tm, hp⟩) else none
def guardT (all : List Oper) (tm : List (Nat × T)) : Option (Nat × Bool) → Option Bool
  | none => some true
  | some (j, want) => match all[j]? with
    | some o => match o.dst with
      | some d => match look tm d with
        | some (.t (.v (.bool b))) => some (match want with | true => b | false => !b)
        | some (.t (.v (.tuple _))) => some false
        | _ => none
      | none => none
    | none => none
/-- The next n operations, as far as they are quiet. -/
def runOps (tab : Tab) (nt : Nat) (all : List Oper) : Nat → List Oper → St → List Oper × St
  | 0, ops, σ => (ops, σ)
  | _ + 1, [], σ => ([], σ)
  | n + 1, o :: rest, σ => match guardT all σ.tm o.guard with
    | some true => match evalOp tab σ o with
      | some (t, σ') => match putT nt o.dst t σ' with
        | some σ'' => runOps tab nt all n rest σ''
        | none => (o :: rest, σ)
      | none => (o :: rest, σ)
    | some false => match putT nt o.dst (.t (.v undef)) σ with
      | some σ'' => runOps tab nt all n rest σ''
      | none => (o :: rest, σ)
    | none => (o :: rest, σ)
inductive K where
  | c (x : Code)
  | e (id : Nat)
def after (P : Program) : List K → (Exit → Act → World → Prop) → Exit → Act → World → Prop
  | [], Q => Q
  | .c x :: ks, Q => Exit.then (x.wp P (after P ks Q)) (after P ks Q)
  | .e id :: ks, Q => Exit.inBlock id (after P ks Q)
def popTo (id : Nat) : List K → Option (List K)
  | [] => none
  | .c _ :: ks => popTo id ks
  | .e i :: ks => bif Nat.beq id i then some ks else popTo id ks
/-- What stays the same through a function's run: the program, the table of types, the world at the call, the blocks lent to it, how many slots it has. -/
structure Cx where
  P : Program
  tab : Tab
  htab : TabOk P tab
  w0 : World
  L : Lim
  nt : Nat
  gl : GlL P w0 L.lent
theorem Cx.glF {X : Cx} {nt : Nat} {σ : St} {S : Nat → Prop} {E : Nat → Value} {a : Act} {w : World} (hk : Ok X.w0 X.L nt σ S E a w) : GlL X.P w (fun _ => False) := (X.gl.keep hk.keep).any
theorem Cx.glG {X : Cx} {nt : Nat} {σ : St} {S : Nat → Prop} {E : Nat → Value} {a : Act} {w : World} (hk : Ok X.w0 X.L nt σ S E a w) {L' : Nat → Prop} (h : ∀ β, L' β → ∃ id blk, look σ.hp id = some blk ∧ blkOf (E id) = some β) : GlL X.P w L' := fun b hb => by
  obtain ⟨h0, h1, h2⟩ := X.gl.keep hk.keep b hb
  refine ⟨fun hx => ?_, h1, h2⟩
  obtain ⟨id, blk, hl, hβ⟩ := h b hx
  rcases (hk.own id blk b hl hβ).2.2 with h3 | h3
  · exact absurd (X.gl b hb).2.1 (Nat.not_lt.2 h3)
  · exact h0 h3
def Cx.post (X : Cx) (Q : Exit → St → Prop) : Exit → Act → World → Prop := fun e a w => ∃ σ, Sim X.w0 X.L X.nt σ a w ∧ Q e σ
def TieX {ρ : Type} (X : Cx) (ks : List K) (e : Exit) (σ : St) (m : Option ρ) (Q : ρ → Exit → St → Prop) : Prop :=
  ∀ r, m = some r → ∀ a w, Sim X.w0 X.L X.nt σ a w → after X.P ks (X.post (Q r)) e a w
abbrev TieS {ρ : Type} (X : Cx) (ks : List K) (σ : St) (m : Option ρ) (Q : ρ → Exit → St → Prop) : Prop := TieX X ks .normal σ m Q
def TieO {ρ : Type} (X : Cx) (all : Array Oper) (ops : List Oper) (ks : List K) (σ : St) (m : Option ρ) (Q : ρ → Exit → St → Prop) : Prop :=
  ∀ r, m = some r → ∀ a w, Sim X.w0 X.L X.nt σ a w → wpList X.P all (after X.P ks (X.post (Q r))) ops a w
/-- All are pointers to cells that stay. -/
def els : List T → Option (List (List Tree))
  | [] => some []
  | .el c :: r => (els r).map (c :: ·)
  | _ :: _ => none
theorem els_ok : ∀ {l : List T} {r : List (List Tree)}, els l = some r → l = r.map T.el
  | [], r, h => by simp [els] at h; subst h; rfl
  | x :: l, r, h => by
    cases x <;> simp only [els, reduceCtorEq] at h
    rename_i y
    cases hl : els l with
    | none => simp [hl] at h
    | some m =>
      simp only [hl, Option.map_some, Option.some.injEq] at h
      subst h
      simp [els_ok hl]
theorem RV.pf {w : World} {S : Nat → Prop} {E : Nat → Value} {v : Value} {c : List Tree} (h : RV w S E v (.el c)) : PF w S v c := by
  cases h with | el b o _ vs hS hc hr => exact ⟨b, o, vs, rfl, hS, hc, hr⟩
theorem PF.rv {w : World} {S : Nat → Prop} {E : Nat → Value} {v : Value} {c : List Tree} (h : PF w S v c) : RV w S E v (.el c) := by
  obtain ⟨b, o, vs, rfl, hS, hc, hr⟩ := h
  exact .el b o _ vs hS hc hr
theorem RV.to_fz {w : World} {S : Nat → Prop} {E : Nat → Value} {v : Value} {n : Nat} {l : List T} {r : List (List Tree)} (h : RV w S E v (.clo n l)) (hr : els l = some r) : RV w S E v (.fz n r) := by
  have := els_ok hr
  subst this
  cases h with
  | clo _ vs _ hl hv =>
    refine .fz n vs r (by simpa using hl) fun j h1 h2 => ?_
    have := hv j h1 (by simpa using h2)
    simp only [List.getElem_map] at this
    exact this.pf
mutual
/-- x as it is called in u, where u says no more: a nil slice as a slice without rows, anything as anything. -/
def mrg : T → T → T
  | .agg l, u => match u with | .agg l' => .agg (mrgL l l') | .any => .any | _ => .agg l
  | .tup l, u => match u with | .tup l' => .tup (mrgL l l') | .any => .any | _ => .tup l
  | .t x, u => match u with | .t (.sl _ _) => .t (nilTree x) | .any => .any | _ => .t x
  | .clo f l, u => match u with | .fz _ _ => (match els l with | some c => .fz f c | none => .clo f l) | .any => .any | _ => .clo f l
  | x, u => match u with | .any => .any | _ => x
def mrgL : List T → List T → List T
  | [], _ => []
  | x :: l, u => match u with | y :: l' => mrg x y :: mrgL l l' | [] => x :: l
end
mutual
theorem mrg_ok {w : World} {S : Nat → Prop} {E : Nat → Value} : ∀ {t u : T} {v : Value}, RV w S E v t → RV w S E v (mrg t u)
  | .agg l, u, v, h => by
    unfold mrg
    split
    · cases h with | agg vs _ hl hr => have := mrgL_ok (u := ‹List T›) ⟨hl, hr⟩; exact .agg vs _ this.1 this.2
    · exact .any v
    · exact h
  | .tup l, u, v, h => by
    unfold mrg
    split
    · cases h with | tup vs _ hl hr => have := mrgL_ok (u := ‹List T›) ⟨hl, hr⟩; exact .tup vs _ this.1 this.2
    · exact .any v
    · exact h
  | .t x, u, v, h => by
    unfold mrg
    split
    · cases h with | t h => exact .t (nilTree_ok h)
    · exact .any v
    · exact h
  | .clo f l, u, v, h => by
    unfold mrg
    split
    · split
      · exact RV.to_fz h ‹_›
      · exact h
    · exact .any v
    · exact h
  | .el c, u, v, h => by unfold mrg; split <;> first | exact .any v | exact h
  | .ptr i o, u, v, h => by unfold mrg; split <;> first | exact .any v | exact h
  | .own i, u, v, h => by unfold mrg; split <;> first | exact .any v | exact h
  | .pe i a b c, u, v, h => by unfold mrg; split <;> first | exact .any v | exact h
  | .vw i a b c, u, v, h => by unfold mrg; split <;> first | exact .any v | exact h
  | .fz n c, u, v, h => by unfold mrg; split <;> first | exact .any v | exact h
  | .any, u, v, h => by unfold mrg; split <;> first | exact .any v | exact h
theorem mrgL_ok {w : World} {S : Nat → Prop} {E : Nat → Value} : ∀ {l u : List T} {vs : List Value}, RVL w S E vs l → RVL w S E vs (mrgL l u)
  | [], u, vs, h => by simp only [mrgL]; exact h
  | x :: l, u, vs, h => by
    unfold mrgL
    split
    · rename_i y l'
      cases vs with
      | nil => have := h.1; simp at this
      | cons v vs =>
        have h1 := mrg_ok (u := y) (t := x) (h.2 0 (by simp) (by simp))
        have h2 := mrgL_ok (u := l') (l := l) (vs := vs) ⟨by simpa using h.1, fun j a b => h.2 (j + 1) (by simpa using a) (by simpa using b)⟩
        refine ⟨by simp [h2.1], fun j a b => ?_⟩
        cases j with
        | zero => exact h1
        | succ j => exact h2.2 j (by simpa using a) (by simpa using b)
    · exact h
end
def mrgB : Blk → Blk → Blk
  | .box l, u => match u with | .box l' => .box (mrgL l l') | _ => .box l
  | x, _ => x
theorem mrgB_ok {w : World} {S : Nat → Prop} {E : Nat → Value} {x : Value} {b u : Blk} (h : BlkOk w S E x b) : BlkOk w S E x (mrgB b u) := by
  cases b with
  | rows => exact h
  | mp => exact h
  | rv => exact h
  | box l =>
    cases u with
    | box l' =>
      obtain ⟨β, vs, elem, h1, h2, h3, h4, h5⟩ := h
      have := mrgL_ok (u := l') (l := l) (vs := vs) ⟨h3, h4⟩
      exact ⟨β, vs, elem, h1, h2, this.1, this.2, h5⟩
    | rows => exact h
    | mp => exact h
    | rv => exact h
def subT : List (Nat × T) → List (Nat × T) → Prop
  | [], _ => True
  | (k, t) :: r, l => (∃ t', look l k = some t' ∧ mrg t' t = t) ∧ subT r l
def subB : List (Nat × Blk) → List (Nat × Blk) → Prop
  | [], _ => True
  | (k, t) :: r, l => (∃ t', look l k = some t' ∧ mrgB t' t = t) ∧ subB r l
/-- σ₁ says no more than σ. -/
def Sub (σ₁ σ : St) : Prop := subT σ₁.tm σ.tm ∧ subB σ₁.hp σ.hp
theorem subT_look : ∀ {l₁ l : List (Nat × T)}, subT l₁ l → ∀ k t, look l₁ k = some t → ∃ t', look l k = some t' ∧ mrg t' t = t
  | [], _, _, k, t, h => by simp [look] at h
  | (k', t') :: r, l, hs, k, t, h => by
    simp only [look] at h
    by_cases hk : k' = k
    · subst hk; simp only [Nat.beq_refl, cond_true, Option.some.injEq] at h; subst h; exact hs.1
    · simp only [beq_ne hk, cond_false] at h; exact subT_look hs.2 k t h
theorem subB_look : ∀ {l₁ l : List (Nat × Blk)}, subB l₁ l → ∀ k t, look l₁ k = some t → ∃ t', look l k = some t' ∧ mrgB t' t = t
  | [], _, _, k, t, h => by simp [look] at h
  | (k', t') :: r, l, hs, k, t, h => by
    simp only [look] at h
    by_cases hk : k' = k
    · subst hk; simp only [Nat.beq_refl, cond_true, Option.some.injEq] at h; subst h; exact hs.1
    · simp only [beq_ne hk, cond_false] at h; exact subB_look hs.2 k t h
def look2 (l : List (Nat × T)) (p : Nat × T) : Option T := match look l p.1 with | some t => some (mrg t p.2) | none => none
def look3 (l : List (Nat × Blk)) (p : Nat × Blk) : Option Blk := match look l p.1 with | some t => some (mrgB t p.2) | none => none
theorem subT_of : ∀ {l₁ l : List (Nat × T)}, l₁.map (look2 l) = l₁.map (fun p => some p.2) → subT l₁ l
  | [], _, _ => trivial
  | (k, t) :: r, l, h => by
    simp only [List.map_cons, List.cons.injEq] at h
    refine ⟨?_, subT_of h.2⟩
    have h1 := h.1
    unfold look2 at h1
    split at h1
    · rename_i t' ht; exact ⟨t', ht, Option.some.inj h1⟩
    · cases h1
theorem subB_of : ∀ {l₁ l : List (Nat × Blk)}, l₁.map (look3 l) = l₁.map (fun p => some p.2) → subB l₁ l
  | [], _, _ => trivial
  | (k, t) :: r, l, h => by
    simp only [List.map_cons, List.cons.injEq] at h
    refine ⟨?_, subB_of h.2⟩
    have h1 := h.1
    unfold look3 at h1
    split at h1
    · rename_i t' ht; exact ⟨t', ht, Option.some.inj h1⟩
    · cases h1
/-- By one look at each name. -/
theorem Sub.of {σ₁ σ : St} (h₁ : σ₁.tm.map (look2 σ.tm) = σ₁.tm.map (fun p => some p.2)) (h₂ : σ₁.hp.map (look3 σ.hp) = σ₁.hp.map (fun p => some p.2)) : Sub σ₁ σ := ⟨subT_of h₁, subB_of h₂⟩
theorem Ok.sub {w0 : World} {L : Lim} {nt : Nat} {σ σ₁ : St} {S : Nat → Prop} {E : Nat → Value} {a : Act} {w : World} (h : Ok w0 L nt σ S E a w) (hs : Sub σ₁ σ) : Ok w0 L nt σ₁ S E a w := { h with
  tm := fun k t ht => by
    obtain ⟨t', h1, h2⟩ := subT_look hs.1 k t ht
    rw [← h2]; exact mrg_ok (h.tm k t' h1)
  hp := fun i b hb => by
    obtain ⟨b', h1, h2⟩ := subB_look hs.2 i b hb
    rw [← h2]; exact mrgB_ok (h.hp i b' h1)
  own := fun i b β hb hβ => by
    obtain ⟨b', h1, _⟩ := subB_look hs.2 i b hb
    exact h.own i b' β h1 hβ
  dist := fun i i' b b' β h1 h2 => by
    obtain ⟨c, h3, _⟩ := subB_look hs.2 i b h1
    obtain ⟨c', h4, _⟩ := subB_look hs.2 i' b' h2
    exact h.dist i i' c c' β h3 h4 }
theorem Sim.sub {w0 : World} {L : Lim} {nt : Nat} {σ σ₁ : St} {a : Act} {w : World} (h : Sim w0 L nt σ a w) (hs : Sub σ₁ σ) : Sim w0 L nt σ₁ a w := by
  obtain ⟨S, E, h⟩ := h
  exact ⟨S, E, h.sub hs⟩
theorem after_mono {P : Program} {Q Q' : Exit → Act → World → Prop} (hq : ∀ e a w, Q e a w → Q' e a w) : ∀ (ks : List K) e a w, after P ks Q e a w → after P ks Q' e a w
  | [], e, a, w, h => hq e a w h
  | .c x :: ks, e, a, w, h => by
    cases e <;> first | exact wp_mono h (after_mono hq ks) | exact after_mono hq ks _ a w h
  | .e id :: ks, e, a, w, h => by
    cases e with
    | exit i =>
      simp only [after, Exit.inBlock] at h ⊢
      split at h
      · rename_i hi; rw [if_pos hi]; exact after_mono hq ks _ a w h
      · rename_i hi; rw [if_neg hi]; exact after_mono hq ks _ a w h
    | _ => exact after_mono hq ks _ a w h
theorem after_ret {P : Program} {Q : Exit → Act → World → Prop} {a : Act} {w : World} : ∀ (ks : List K), Q .ret a w → after P ks Q .ret a w
  | [], h => h
  | .c _ :: ks, h => after_ret ks h
  | .e _ :: ks, h => after_ret ks h
theorem after_exit {P : Program} {Q : Exit → Act → World → Prop} {a : Act} {w : World} {id : Nat} : ∀ {ks ks' : List K}, popTo id ks = some ks' → after P ks' Q .normal a w → after P ks Q (.exit id) a w
  | [], _, h, _ => by simp [popTo] at h
  | .c _ :: ks, ks', h, hq => after_exit (ks := ks) h hq
  | .e i :: ks, ks', h, hq => by
    simp only [popTo] at h
    by_cases hi : id = i
    · subst hi
      simp only [Nat.beq_refl, cond_true, Option.some.injEq] at h
      subst h
      simpa [after, Exit.inBlock] using hq
    · simp only [beq_ne hi, cond_false] at h
      simp only [after, Exit.inBlock, hi, if_false]
      exact after_exit h hq
theorem after_exit_none {P : Program} {Q : Exit → Act → World → Prop} {a : Act} {w : World} {id : Nat} : ∀ {ks : List K}, popTo id ks = none → Q (.exit id) a w → after P ks Q (.exit id) a w
  | [], _, hq => hq
  | .c _ :: ks, h, hq => after_exit_none (ks := ks) h hq
  | .e i :: ks, h, hq => by
    simp only [popTo] at h
    by_cases hi : id = i
    · subst hi; simp at h
    · simp only [beq_ne hi, cond_false] at h
      simp only [after, Exit.inBlock, hi, if_false]
      exact after_exit_none h hq
section rules
variable {ρ τ : Type} {X : Cx} {ks : List K} {σ σ' : St} {m : Option ρ} {Q : ρ → Exit → St → Prop}
theorem TieX.sub {e : Exit} (hs : Sub σ' σ) (h : TieX X ks e σ' m Q) : TieX X ks e σ m Q := fun r hr a w hw => h r hr a w (hw.sub hs)
theorem TieO.sub {all : Array Oper} {ops : List Oper} (hs : Sub σ' σ) (h : TieO X all ops ks σ' m Q) : TieO X all ops ks σ m Q := fun r hr a w hw => h r hr a w (hw.sub hs)
/-- What a model asks for ahead is there. -/
theorem TieX.pre {e : Exit} {m₁ : Option τ} {k : τ → Option ρ} (h : ∀ y, m₁ = some y → TieX X ks e σ (k y) Q) : TieX X ks e σ (m₁.bind k) Q := fun r hr a w hw => by
  cases hm : m₁ with
  | none => simp [hm] at hr
  | some y => exact h y hm r (by simpa [hm] using hr) a w hw
theorem TieX.split {e : Exit} {b : Bool} {m₁ m₂ : Option ρ} (h₁ : b = true → TieX X ks e σ m₁ Q) (h₂ : b = false → TieX X ks e σ m₂ Q) : TieX X ks e σ (bif b then m₁ else m₂) Q := by
  cases b
  · exact h₂ rfl
  · exact h₁ rfl
theorem TieS.fail : TieS X ks σ none Q := fun r hr => by cases hr
theorem TieO.fail {all : Array Oper} {ops : List Oper} : TieO X all ops ks σ none Q := fun r hr => by cases hr
theorem TieS.leaf {r : ρ} (h : Q r .normal σ) : TieS X [] σ (some r) Q := fun r' hr a w hw => by cases hr; exact ⟨σ, hw, h⟩
theorem TieS.ret {r : ρ} (h : Q r .ret σ) : TieS X (.c .ret :: ks) σ (some r) Q := fun r' hr a w hw => by
  cases hr; exact wp_ret (after_ret ks ⟨σ, hw, h⟩)
theorem TieS.skip (h : TieS X ks σ m Q) : TieS X (.c .skip :: ks) σ m Q := fun r hr a w hw => wp_skip (h r hr a w hw)
theorem TieS.seq {x y : Code} (h : TieS X (.c x :: .c y :: ks) σ m Q) : TieS X (.c (.seq x y) :: ks) σ m Q := fun r hr a w hw => wp_seq (h r hr a w hw)
theorem TieS.block {id : Nat} {x : Code} (h : TieS X (.c x :: .e id :: ks) σ m Q) : TieS X (.c (.block id x) :: ks) σ m Q := fun r hr a w hw => wp_block (h r hr a w hw)
theorem TieS.endb {id : Nat} (h : TieS X ks σ m Q) : TieS X (.e id :: ks) σ m Q := fun r hr a w hw => h r hr a w hw
theorem TieS.exit {id : Nat} {ks' : List K} (hp : popTo id ks = some ks') (h : TieS X ks' σ m Q) : TieS X (.c (.exit id) :: ks) σ m Q := fun r hr a w hw => wp_exit (after_exit hp (h r hr a w hw))
theorem TieS.exitOut {id : Nat} {r : ρ} (hp : popTo id ks = .none) (h : Q r (.exit id) σ) : TieS X (.c (.exit id) :: ks) σ (some r) Q := fun r' hr a w hw => by
  cases hr; exact wp_exit (after_exit_none hp ⟨σ, hw, h⟩)
theorem TieX.exit {id : Nat} {ks' : List K} (hp : popTo id ks = some ks') (h : TieS X ks' σ m Q) : TieX X ks (.exit id) σ m Q := fun r hr a w hw => after_exit hp (h r hr a w hw)
theorem TieX.exitOut {id : Nat} {r : ρ} (hp : popTo id ks = .none) (h : Q r (.exit id) σ) : TieX X ks (.exit id) σ (some r) Q := fun r' hr a w hw => by
  cases hr; exact after_exit_none hp ⟨σ, hw, h⟩
theorem TieX.ret {r : ρ} (h : Q r .ret σ) : TieX X ks .ret σ (some r) Q := fun r' hr a w hw => by
  cases hr; exact after_ret ks ⟨σ, hw, h⟩
theorem TieS.cond {c : Operand} {x y : Code} {b : Bool} {m₁ m₂ : Option ρ} (hc : val σ.tm c = some (.t (.v (.bool b)))) (h₁ : TieS X (.c x :: ks) σ m₁ Q) (h₂ : TieS X (.c y :: ks) σ m₂ Q) :
    TieS X (.c (.cond c x y) :: ks) σ (bif b then m₁ else m₂) Q := fun r hr a w hw => by
  obtain ⟨S, E, hk⟩ := hw
  have hv := (hk.val hc).tv
  cases b
  · exact wp_cond_false hv (h₂ r hr a w ⟨S, E, hk⟩)
  · exact wp_cond_true hv (h₁ r hr a w ⟨S, E, hk⟩)
/-- A piece of code that meets the rest in one state. -/
theorem TieS.bind {x : Code} {m₁ : Option τ} {k : τ → Option ρ} {Q₁ : τ → Exit → St → Prop} (h₁ : TieS X [.c x] σ m₁ Q₁) (h₂ : ∀ t e σ', m₁ = some t → Q₁ t e σ' → TieX X ks e σ' (k t) Q) :
    TieS X (.c x :: ks) σ (m₁.bind k) Q := fun r hr a w hw => by
  cases hm : m₁ with
  | none => simp [hm] at hr
  | some t =>
    simp only [hm, Option.bind_some] at hr
    refine wp_mono (h₁ t hm a w hw) fun e a' w' ⟨σ', hs, hq⟩ => ?_
    exact h₂ t e σ' hm hq r hr a' w' hs
theorem TieS.region {id : Nat} {ops : Array Oper} (h : TieO X ops ops.toList ks σ m Q) : TieS X (.c (.region id ops false) :: ks) σ m Q := fun r hr a w hw => wp_region_list (h r hr a w hw)
theorem TieO.nil {all : Array Oper} (h : TieS X ks σ m Q) : TieO X all [] ks σ m Q := fun r hr a w hw => h r hr a w hw
theorem putT_ok {w0 : World} {L : Lim} {nt : Nat} {σ σ' : St} {S : Nat → Prop} {E : Nat → Value} {a : Act} {w : World} {dst : Option Nat} {v : Value} {t : T}
    (h : Ok w0 L nt σ S E a w) (hv : RV w S E v t) (hp : putT nt dst t σ = some σ') : Ok w0 L nt σ' S E (a.put dst v) w := by
  cases dst with
  | none => simp only [putT, Option.some.injEq] at hp; subst hp; exact h
  | some d =>
    simp only [putT] at hp
    cases hd : Nat.blt d nt <;> simp only [hd, cond_true, cond_false, reduceCtorEq, Option.some.injEq] at hp
    subst hp
    exact h.put (Nat.le_of_ble_eq_true hd) hv
theorem guardT_ok {w0 : World} {L : Lim} {nt : Nat} {σ : St} {S : Nat → Prop} {E : Nat → Value} {a : Act} {w : World} {all : Array Oper} {o : Oper} {b : Bool}
    (h : Ok w0 L nt σ S E a w) (hg : guardT all.toList σ.tm o.guard = some b) : Region.wanted o (yielded all a.tmps) = b := by
  unfold Region.wanted
  cases hgd : o.guard with
  | none => rw [hgd] at hg; simp only [guardT, Option.some.injEq] at hg; exact hg
  | some p =>
    obtain ⟨j, want⟩ := p
    rw [hgd] at hg
    simp only [guardT] at hg
    split at hg <;> try (cases hg; done)
    rename_i o' ho'
    split at hg <;> try (cases hg; done)
    rename_i d hd
    have hl : all[j]? = some o' := by simpa using ho'
    have hsz := h.size
    split at hg <;> try (cases hg; done)
    · rename_i x hx
      have hv := (h.tm d _ hx).tv
      have hdlt : a.tmps[d]? = some (.bool x) := by
        cases hq : a.tmps[d]? with
        | none => simp [hq, undef] at hv
        | some y => simp [hq] at hv; rw [hv]
      have hy : yielded all a.tmps j = some x := by simp [yielded, hl, hd, hdlt]
      simp only [hy]
      cases want <;> cases x <;> simp at hg ⊢ <;> first | exact hg | (subst hg; rfl) | assumption
    · rename_i x hx
      have hv := (h.tm d _ hx).tv
      simp only [Option.some.injEq] at hg
      subst hg
      have hy : yielded all a.tmps j = none := by
        simp only [yielded, hl, hd, Option.bind_some]
        cases hq : a.tmps[d]? with
        | none => rfl
        | some y => simp [hq] at hv; rw [hv]
      simp [hy]
theorem TieO.step {all : Array Oper} {o : Oper} {rest : List Oper} {t : T} {σ₁ σ₂ : St} (hg : guardT all.toList σ.tm o.guard = some true) (he : evalOp X.tab σ o = some (t, σ₁)) (hp : putT X.nt o.dst t σ₁ = some σ₂)
    (h : TieO X all rest ks σ₂ m Q) : TieO X all (o :: rest) ks σ m Q := fun r hr a w ⟨S, E, hk⟩ => by
  obtain ⟨v, w', E', hd, hk', hv⟩ := evalOp_ok X.htab hk he
  refine wpList_step fun K hK => ?_
  rw [guardT_ok hk hg, if_pos rfl]
  have hnext : K (a.put o.dst v) w' := hK _ _ (h r hr _ _ ⟨S, E', putT_ok hk' hv hp⟩)
  unfold Oper.wp
  rcases hd with hd | ⟨hd, rfl⟩ <;> rw [hd]
  · exact hnext
  · exact hnext
theorem TieO.pass {all : Array Oper} {o : Oper} {rest : List Oper} {σ₂ : St} (hg : guardT all.toList σ.tm o.guard = some false) (hp : putT X.nt o.dst (.t (.v undef)) σ = some σ₂)
    (h : TieO X all rest ks σ₂ m Q) : TieO X all (o :: rest) ks σ m Q := fun r hr a w ⟨S, E, hk⟩ => by
  refine wpList_step fun K hK => ?_
  rw [guardT_ok hk hg, if_neg (by simp)]
  exact hK _ _ (h r hr _ _ ⟨S, E, putT_ok hk (.t (.v undef)) hp⟩)
theorem TieO.run' {all : Array Oper} : ∀ (n : Nat) (ops ops' : List Oper) (σ σ' : St), runOps X.tab X.nt all.toList n ops σ = (ops', σ') → TieO X all ops' ks σ' m Q → TieO X all ops ks σ m Q
  | 0, ops, ops', σ, σ', he, h => by cases he; exact h
  | _ + 1, [], ops', σ, σ', he, h => by cases he; exact h
  | n + 1, o :: rest, ops', σ, σ', he, h => by
    unfold runOps at he
    split at he
    · rename_i hg
      split at he
      · rename_i t σ₁ hev
        split at he
        · rename_i σ₂ hp
          exact .step hg hev hp (TieO.run' n rest ops' σ₂ σ' he h)
        · cases he; exact h
      · cases he; exact h
    · rename_i hg
      split at he
      · rename_i σ₂ hp
        exact .pass hg hp (TieO.run' n rest ops' σ₂ σ' he h)
      · cases he; exact h
    · cases he; exact h
theorem TieO.run {all : Array Oper} {ops ops' : List Oper} (n : Nat) (he : runOps X.tab X.nt all.toList n ops σ = (ops', σ')) (h : TieO X all ops' ks σ' m Q) : TieO X all ops ks σ m Q := TieO.run' n ops ops' σ σ' he h
/-- A test within a region: decided on both sides. -/
theorem TieO.split {all : Array Oper} {ops : List Oper} {tm : List (Nat × T)} {hp : List (Nat × Blk)} {b : Bool} {m₁ m₂ : Option ρ} (d : Nat) (hd : look tm d = some (.t (.v (.bool b)))) (h₁ : TieO X all ops ks ⟨(d, .t (.v (.bool true))) :: tm, hp⟩ m₁ Q)
    (h₂ : TieO X all ops ks ⟨(d, .t (.v (.bool false))) :: tm, hp⟩ m₂ Q) : TieO X all ops ks ⟨tm, hp⟩ (bif b then m₁ else m₂) Q := fun r hr a w hw => by
  have key : ∀ b', b = b' → Sim X.w0 X.L X.nt ⟨(d, .t (.v (.bool b'))) :: tm, hp⟩ a w := by
    intro b' hb
    subst hb
    obtain ⟨S, E, hk⟩ := hw
    refine ⟨S, E, { hk with tm := fun k t ht => ?_ }⟩
    simp only [look] at ht
    by_cases hkd : d = k
    · subst hkd; simp only [Nat.beq_refl, cond_true, Option.some.injEq] at ht; subst ht; exact hk.tm d _ hd
    · simp only [beq_ne hkd, cond_false] at ht; exact hk.tm k t ht
  cases b
  · exact h₂ r hr a w (key _ rfl)
  · exact h₁ r hr a w (key _ rfl)
theorem wpList_append {P : Program} {all : Array Oper} {Q : Exit → Act → World → Prop} : ∀ (l₁ l₂ : List Oper) (a : Act) (w : World),
    wpList P all (Exit.then (wpList P all Q l₂) Q) l₁ a w → wpList P all Q (l₁ ++ l₂) a w
  | [], l₂, a, w, h => h
  | o :: l₁, l₂, a, w, h => by
    unfold wpList at h
    simp only [List.cons_append]
    unfold wpList
    split at h
    · rename_i hg
      rw [if_pos hg]
      rcases h with h | ⟨h1, h2⟩
      · left
        have ih := fun a w => wpList_append (P := P) (all := all) (Q := Q) l₁ l₂ a w
        unfold Oper.wp at h ⊢
        unfold Oper.upon at h ⊢
        split at h <;> first
          | exact ih _ _ h
          | (refine h.mono fun e w' he => ?_
             cases e <;> first | exact ih _ _ he | exact he)
          | (refine h.mono fun v w' he => ?_; exact ih _ _ he)
          | exact h
          | exact h.elim
      · right
        exact ⟨h1, by obtain ⟨a', w', hq⟩ := h2; exact ⟨a', w', hq⟩⟩
    · rename_i hg
      rw [if_neg hg]
      exact wpList_append l₁ l₂ _ _ h
/-- The first n operations of a region, which meet the rest in one state. -/
theorem TieO.bind {all : Array Oper} {ops : List Oper} {m₁ : Option τ} {k : τ → Option ρ} (n : Nat) (σ₁ : τ → St) (h₁ : TieO X all (ops.take n) [] σ m₁ (fun t e σ' => e = .normal ∧ Sub (σ₁ t) σ'))
    (h₂ : ∀ t, m₁ = some t → TieO X all (ops.drop n) ks (σ₁ t) (k t) Q) : TieO X all ops ks σ (m₁.bind k) Q := fun r hr a w hw => by
  rw [← List.take_append_drop n ops]
  cases hm : m₁ with
  | none => simp [hm] at hr
  | some t =>
    simp only [hm, Option.bind_some] at hr
    refine wpList_append _ _ _ _ ?_
    have h := h₁ t hm a w hw
    have mono : ∀ (l : List Oper) (Q Q' : Exit → Act → World → Prop), (∀ e a w, Q e a w → Q' e a w) → ∀ a w, wpList X.P all Q l a w → wpList X.P all Q' l a w := by
      intro l Q Q' hq
      induction l with
      | nil => intro a w h; exact hq _ _ _ h
      | cons o l ih =>
        intro a w h
        unfold wpList at h ⊢
        split at h
        · rename_i hg
          rw [if_pos hg]
          rcases h with h | ⟨h1, a', w', h2⟩
          · left
            unfold Oper.wp at h ⊢
            unfold Oper.upon at h ⊢
            split at h <;> first
              | exact ih _ _ h
              | (refine h.mono fun e w' he => ?_
                 cases e <;> first | exact ih _ _ he | exact hq _ _ _ he | (obtain ⟨a₀, w₀, h₀⟩ := he; exact ⟨a₀, w₀, hq _ _ _ h₀⟩))
              | (refine h.mono fun v w' he => ?_; exact ih _ _ he)
              | exact hq _ _ _ h
              | exact h.elim
          · right; exact ⟨h1, a', w', hq _ _ _ h2⟩
        · rename_i hg
          rw [if_neg hg]
          exact ih _ _ h
    refine mono _ _ _ ?_ a w h
    rintro e a' w' ⟨σ', hs, rfl, hsub⟩
    exact h₂ t hm r hr a' w' (hs.sub hsub)
end rules
end Go.Pv
namespace Go.Pv
open Go.RowKit
/-- Rounds until one of them leaves. -/
inductive Loops {S B : Type} (mb : S → Option (S ⊕ B)) : S → B → Prop
  | out {s : S} {b : B} : mb s = some (.inr b) → Loops mb s b
  | next {s s' : S} {b : B} : mb s = some (.inl s') → Loops mb s' b → Loops mb s b
theorem Loops.det {S B : Type} {mb : S → Option (S ⊕ B)} {s : S} {b b' : B} (h : Loops mb s b) (h' : Loops mb s b') : b = b' := by
  induction h with
  | out h =>
    cases h' with
    | out k => rw [h] at k; cases k; rfl
    | next k _ => rw [h] at k; cases k
  | next h _ ih =>
    cases h' with
    | out k => rw [h] at k; cases k
    | next k k' => rw [h] at k; cases k; exact ih k'
open Classical in
/-- A loop as a function: what the last round gives; none if a round fails or there is no last one. -/
noncomputable def loopM {S B : Type} (mb : S → Option (S ⊕ B)) (s : S) : Option B := if h : ∃ b, Loops mb s b then some h.choose else none
theorem loopM_iff {S B : Type} {mb : S → Option (S ⊕ B)} {s : S} {b : B} : loopM mb s = some b ↔ Loops mb s b := by
  unfold loopM
  constructor
  · intro h
    split at h
    · rename_i hx; cases h; exact hx.choose_spec
    · cases h
  · intro h
    have hx : ∃ b, Loops mb s b := ⟨b, h⟩
    rw [dif_pos hx, Loops.det hx.choose_spec h]
theorem loopM_eq {S B : Type} (mb : S → Option (S ⊕ B)) (s : S) : loopM mb s = (mb s).bind fun f => match f with | .inl s' => loopM mb s' | .inr b => some b := by
  cases hm : mb s with
  | none =>
    simp only [Option.bind_none]
    cases hl : loopM mb s with
    | none => rfl
    | some b => have := loopM_iff.1 hl; cases this with
      | out h => rw [hm] at h; cases h
      | next h _ => rw [hm] at h; cases h
  | some f =>
    cases f with
    | inr b => simp only [Option.bind_some]; exact loopM_iff.2 (.out hm)
    | inl s' =>
      simp only [Option.bind_some]
      cases hl : loopM mb s' with
      | some b => exact loopM_iff.2 (.next hm (loopM_iff.1 hl))
      | none =>
        cases hl' : loopM mb s with
        | none => rfl
        | some b => have := loopM_iff.1 hl'; cases this with
          | out h => rw [hm] at h; cases h
          | next h k => rw [hm] at h; cases h; rw [loopM_iff.2 k] at hl; cases hl
theorem loops_wp {S B : Type} {mb : S → Option (S ⊕ B)} {P : Program} {c : Code} {I : S → Act → World → Prop} {R : Exit → Act → World → Prop} {QB : B → Exit → Act → World → Prop}
    (body : ∀ s f, mb s = some f → ∀ a w, I s a w → c.wp P (fun e a w => match f with | .inl s' => e = .normal ∧ I s' a w | .inr b => e ≠ .normal ∧ QB b e a w) a w)
    {s : S} {b : B} (h : Loops mb s b) (hR : ∀ e a w, e ≠ .normal → QB b e a w → R e a w) : ∀ a w, I s a w → (Code.loop c).wp P R a w := by
  have key : ∀ a w, I s a w → ∀ (bf : Frame) (k : List Item) (cs : List Frame), ∃ e a' w', R e a' w' ∧ Arrives P (lone (bf.at a (.code c :: .inLoop c :: k)) cs w) bf k cs e a' w' := by
    induction h with
    | out hm =>
      intro a w hI bf k cs
      obtain ⟨e, a₁, w₁, ⟨hne, hq⟩, harr⟩ := body _ _ hm a w hI bf (.inLoop c :: k) cs
      exact ⟨e, a₁, w₁, hR e a₁ w₁ hne hq, .pass (x := .inLoop c) rfl (fun _ _ => .inl hne) harr⟩
    | next hm _ ih =>
      intro a w hI bf k cs
      obtain ⟨e, a₁, w₁, ⟨rfl, hI₁⟩, harr⟩ := body _ _ hm a w hI bf (.inLoop c :: k) cs
      obtain ⟨e₂, a₂, w₂, hq₂, harr₂⟩ := ih hR a₁ w₁ hI₁ bf k cs
      exact ⟨e₂, a₂, w₂, hq₂, .of_steps (Steps.trans harr (.one step_inLoop)) harr₂⟩
  intro a w hI bf k cs
  obtain ⟨e, a', w', hq, harr⟩ := key a w hI bf k cs
  exact ⟨e, a', w', hq, .of_steps (.one step_loop) harr⟩
section
variable {ρ : Type} {X : Cx} {ks : List K} {σ : St} {m : Option ρ} {Q : ρ → Exit → St → Prop}
/-- A loop: its state at each round's head is a function of s. -/
theorem TieS.loop {S B : Type} {c : Code} {mb : S → Option (S ⊕ B)} {k : B → Option ρ} (σs : S → St) (QB : B → Exit → St → Prop) {s₀ : S} (h0 : Sub (σs s₀) σ)
    (body : ∀ s, TieS X [.c c] (σs s) (mb s) (fun f e σ' => match f with | .inl s' => e = .normal ∧ Sub (σs s') σ' | .inr b => e ≠ .normal ∧ QB b e σ'))
    (rest : ∀ b e σ', e ≠ .normal → QB b e σ' → TieX X ks e σ' (k b) Q) : TieS X (.c (.loop c) :: ks) σ ((loopM mb s₀).bind k) Q := fun r hr a w hw => by
  cases hm : loopM mb s₀ with
  | none => simp [hm] at hr
  | some b =>
    simp only [hm, Option.bind_some] at hr
    refine loops_wp (I := fun s a w => Sim X.w0 X.L X.nt (σs s) a w) (QB := fun b e a w => X.post (QB b) e a w) (fun s f hf a w hI => ?_) (loopM_iff.1 hm) (fun e a' w' hne hq => ?_) a w (hw.sub h0)
    · refine wp_mono (body s f hf a w hI) fun e a' w' ⟨σ', hs, hq⟩ => ?_
      cases f with
      | inl s' => exact ⟨hq.1, hs.sub hq.2⟩
      | inr b' => exact ⟨hq.1, σ', hs, hq.2⟩
    · obtain ⟨σ', hs, hq⟩ := hq
      have := rest b e σ' hne hq r hr a' w' hs
      cases e <;> first | exact this | exact absurd rfl hne
end
/-- A function's contract: on arguments that read as args, where m is some r, the call returns what reads as res r; nothing that was there has turned. -/
def TieF {ρ : Type} (P : Program) (n : FuncId) (args : List T) (m : Option ρ) (res : ρ → T) (d : Bool := true) : Prop :=
  (∀ vs w, (callFunc n vs).run P w = .ok (.enter n vs) w) ∧
  ∀ r, m = some r → ∀ (w : World) (S : Nat → Prop) (E : Nat → Value) (vs : List Value), GlL P w (fun _ => False) → (∀ b, S b → b < w.heap.size) → RVL w S E vs args →
    Calls P n vs.toArray w fun e w' => ∃ v S', e = .returned v ∧ RV w' S' E v (res r) ∧ Keep d (fun _ => False) w w' ∧ (∀ b, S' b → b < w'.heap.size) ∧ (∀ b, S' b → S b ∨ w.heap.size ≤ b)
/-- A box's cells as trees; rows of the call's own read as they stand. -/
def treesH (hp : List (Nat × Blk)) : List T → Option (List Tree)
  | [] => some []
  | .t x :: r => (treesH hp r).map (nilTree x :: ·)
  | .own id :: r => match look hp id with | some (.rows _ _ n rs) => (treesH hp r).map (.sl n rs :: ·) | _ => none
  | _ :: _ => none
mutual
/-- A slot's content without a name of the call's own in it: what is its own reads as it stands. -/
def frzT (hp : List (Nat × Blk)) : T → Option T
  | .own id => match look hp id with | some (.rows _ _ n rs) => some (.t (.sl n rs)) | _ => none
  | .agg l => (frzL hp l).map .agg
  | .tup l => (frzL hp l).map .tup
  | .t x => some (.t (nilTree x))
  | .el c => some (.el c)
  | .fz n c => some (.fz n c)
  | .clo n l => (frzL hp l).bind fun r => (els r).map (.fz n)
  | .ptr id off => match look hp id with | some (.box ts) => (treesH hp ts).map fun c => .el (c.drop off) | _ => none
  | _ => none
def frzL (hp : List (Nat × Blk)) : List T → Option (List T)
  | [] => some []
  | x :: r => match frzT hp x, frzL hp r with | some y, some l => some (y :: l) | _, _ => none
end
mutual
def scalar : T → Bool
  | .t (.v _) => true
  | .agg l => scalarL l
  | .tup l => scalarL l
  | _ => false
def scalarL : List T → Bool
  | [] => true
  | x :: r => scalar x && scalarL r
end
theorem scalarL_get : ∀ {l : List T}, scalarL l = true → ∀ j (h : j < l.length), scalar (l[j]) = true
  | [], _, j, h => by simp at h
  | x :: r, hn, j, h => by
    simp only [scalarL, Bool.and_eq_true] at hn
    cases j with
    | zero => exact hn.1
    | succ j => exact scalarL_get hn.2 j (by simpa using h)
theorem RV.scalar {w w' : World} {S S' : Nat → Prop} {E E' : Nat → Value} {v : Value} {t : T} (h : RV w S E v t) (hs : Pv.scalar t = true) : RV w' S' E' v t := by
  induction h with
  | t h =>
    cases h with
    | v => exact .t (.v _)
    | _ => simp [Pv.scalar] at hs
  | agg vs l hl _ ih => exact .agg vs l hl fun j h1 h2 => ih j h1 h2 (scalarL_get (by simpa [Pv.scalar] using hs) j h2)
  | tup vs l hl _ ih => exact .tup vs l hl fun j h1 h2 => ih j h1 h2 (scalarL_get (by simpa [Pv.scalar] using hs) j h2)
  | _ => simp [Pv.scalar] at hs
/-- The blocks of the call's own slices. -/
def ownRows (hp : List (Nat × Blk)) (E : Nat → Value) (b : Nat) : Prop := ∃ id blk, look hp id = some blk ∧ blkOf (E id) = some b
section
variable {w0 : World} {L : Lim} {nt : Nat} {σ : St} {S : Nat → Prop} {E : Nat → Value} {a : Act} {w : World}
theorem rows_tree (h : Ok w0 L nt σ S E a w) {id e sz n : Nat} {rs : List (List Tree)} (hb : look σ.hp id = some (.rows e sz n rs)) (S' : Nat → Prop) (hS : ∀ b, S b → S' b) (hO : ∀ b, ownRows σ.hp E b → S' b) :
    RT w S' (E id) (.sl n rs) := by
  obtain ⟨hn, hx⟩ := h.hp id _ hb
  subst hn
  rcases hx with ⟨hE, hr⟩ | ⟨β, cap, vs, _, hE, hh, hl, hc, hsz, hr⟩
  · subst hr; rw [hE]; exact .slE _ _
  · rw [hE]
    have hb1 : ∀ i j, i < rs.length → j < sz → i * sz + j < vs.length := by
      intro i j hi hj
      have h1 : (i + 1) * sz ≤ cap * sz := Nat.mul_le_mul_right _ (by omega)
      rw [Nat.succ_mul] at h1
      omega
    refine .sl β 0 cap sz rs (fun i j => vs.getD (i * sz + j) undef) hc (hO β ⟨id, _, hb, by rw [hE]; rfl⟩) hsz (fun i j hi hj => ?_) (fun i j hi hj => ?_)
    · have := hb1 i j hi hj
      rw [cell_of_row w β _ _ e _ hh]
      simp [this]
    · have hj' : j < sz := by rw [← hsz (rs[i]) (List.getElem_mem hi)]; exact hj
      have := hb1 i j hi hj'
      have hq := hr i j hi hj this
      simp only [List.getD_eq_getElem?_getD, List.getElem?_eq_getElem this, Option.getD_some]
      exact hq.mono hS (fun _ _ => rfl)
theorem treesH_ok (h : Ok w0 L nt σ S E a w) {S' : Nat → Prop} (hS : ∀ b, S b → S' b) (hO : ∀ b, ownRows σ.hp E b → S' b) : ∀ {ts : List T} {c : List Tree} {vs : List Value}, treesH σ.hp ts = some c → RVL w S E vs ts → vs.length = c.length ∧ ∀ j (h1 : j < vs.length) (h2 : j < c.length), RT w S' (vs[j]) (c[j])
  | [], c, vs, hc, hv => by
    simp only [treesH, Option.some.injEq] at hc
    subst hc
    have := hv.1
    exact ⟨by simpa using this, fun j _ h2 => by simp at h2⟩
  | x :: ts, c, vs, hc, hv => by
    obtain ⟨y, r, rfl, hr, hxy⟩ : ∃ y r, c = y :: r ∧ treesH σ.hp ts = some r ∧ ∀ v, RV w S E v x → RT w S' v y := by
      cases x with
      | t x =>
        simp only [treesH] at hc
        cases hr : treesH σ.hp ts with
        | none => simp [hr] at hc
        | some r =>
          simp only [hr, Option.map_some, Option.some.injEq] at hc
          exact ⟨_, r, hc.symm, rfl, fun v hx => by cases hx with | t hx => exact nilTree_ok (hx.mono hS (fun _ _ => rfl))⟩
      | own id =>
        simp only [treesH] at hc
        split at hc <;> try (cases hc; done)
        rename_i e sz n rs hb
        cases hr : treesH σ.hp ts with
        | none => simp [hr] at hc
        | some r =>
          simp only [hr, Option.map_some, Option.some.injEq] at hc
          exact ⟨_, r, hc.symm, rfl, fun v hx => by cases hx with | own _ _ hE => subst hE; exact rows_tree h hb S' hS hO⟩
      | _ => simp [treesH] at hc
    cases vs with
    | nil => have := hv.1; simp at this
    | cons v vs =>
      obtain ⟨g1, g2⟩ := treesH_ok h hS hO hr (vs := vs) ⟨by simpa using hv.1, fun j a b => hv.2 (j + 1) (by simpa using a) (by simpa using b)⟩
      refine ⟨by simp [g1], fun j a b => ?_⟩
      cases j with
      | zero => exact hxy v (hv.2 0 (by simp) (by simp))
      | succ j => exact g2 j (by simpa using a) (by simpa using b)
mutual
theorem frzT_ok (h : Ok w0 L nt σ S E a w) {S' : Nat → Prop} (hS : ∀ b, S b → S' b) (hO : ∀ b, ownRows σ.hp E b → S' b) : ∀ {t u : T} {v : Value}, RV w S E v t → frzT σ.hp t = some u → ∀ E', RV w S' E' v u
  | .t x, u, v, hv, hf, E' => by
    simp only [frzT, Option.some.injEq] at hf; subst hf
    cases hv with | t hx => exact .t (nilTree_ok (hx.mono hS (fun _ _ => rfl)))
  | .el c, u, v, hv, hf, E' => by
    simp only [frzT, Option.some.injEq] at hf; subst hf
    cases hv with | el b o _ vs hb hc hr => exact .el b o _ vs (hS b hb) hc (fun j hj => (hr j hj).mono hS (fun _ _ => rfl))
  | .own id, u, v, hv, hf, E' => by
    simp only [frzT] at hf
    split at hf <;> try (cases hf; done)
    rename_i el sz n rs hb
    simp only [Option.some.injEq] at hf; subst hf
    cases hv with | own _ _ hE => subst hE; exact .t (rows_tree h hb S' hS hO)
  | .agg l, u, v, hv, hf, E' => by
    simp only [frzT] at hf
    cases hl : frzL σ.hp l with
    | none => simp [hl] at hf
    | some r =>
      simp only [hl, Option.map_some, Option.some.injEq] at hf; subst hf
      cases hv with | agg vs _ hlen hr => have := frzL_ok h hS hO ⟨hlen, hr⟩ hl E'; exact .agg vs r this.1 this.2
  | .tup l, u, v, hv, hf, E' => by
    simp only [frzT] at hf
    cases hl : frzL σ.hp l with
    | none => simp [hl] at hf
    | some r =>
      simp only [hl, Option.map_some, Option.some.injEq] at hf; subst hf
      cases hv with | tup vs _ hlen hr => have := frzL_ok h hS hO ⟨hlen, hr⟩ hl E'; exact .tup vs r this.1 this.2
  | .fz n c, u, v, hv, hf, E' => by
    simp only [frzT, Option.some.injEq] at hf; subst hf
    cases hv with | fz _ vs _ hl hr => exact .fz n vs c hl (fun j h1 h2 => (hr j h1 h2).mono hS (fun _ _ => rfl))
  | .clo n l, u, v, hv, hf, E' => by
    simp only [frzT] at hf
    cases hl : frzL σ.hp l with
    | none => simp [hl] at hf
    | some r =>
      simp only [hl, Option.bind_some] at hf
      cases hr : els r with
      | none => simp [hr] at hf
      | some c =>
        simp only [hr, Option.map_some, Option.some.injEq] at hf; subst hf
        cases hv with | clo _ vs _ hlen hrr => have := frzL_ok h hS hO ⟨hlen, hrr⟩ hl E'; exact RV.to_fz (.clo n vs r this.1 this.2) hr
  | .ptr id off, u, v, hv, hf, E' => by
    simp only [frzT] at hf
    split at hf <;> try (cases hf; done)
    rename_i ts hb
    cases hc : treesH σ.hp ts with
    | none => simp [hc] at hf
    | some c =>
      simp only [hc, Option.map_some, Option.some.injEq] at hf; subst hf
      obtain ⟨β, vs, elem, hE, hh, hl, hr, h1⟩ := h.hp id _ hb
      obtain ⟨hlen, htr⟩ := treesH_ok h hS hO hc ⟨hl, hr⟩
      cases hv with
      | ptr _ _ β' hE' =>
        rw [hE] at hE'
        cases hE'
        refine .el β off _ (fun j => vs.getD (off + j) undef) (hO β ⟨id, _, hb, by rw [hE]; rfl⟩) (fun j hj => ?_) (fun j hj => ?_)
        · simp only [List.length_drop] at hj
          rw [cell_of_row w β _ _ elem _ hh]
          have : off + j < vs.length := by omega
          simp [this]
        · simp only [List.length_drop] at hj
          have h3 : off + j < vs.length := by omega
          simp only [List.getD_eq_getElem?_getD, List.getElem?_eq_getElem h3, Option.getD_some, List.getElem_drop]
          exact htr (off + j) h3 (by omega)
  | .pe _ _ _ _, _, _, _, hf, _ => by simp [frzT] at hf
  | .vw _ _ _ _, _, _, _, hf, _ => by simp [frzT] at hf
  | .any, _, _, _, hf, _ => by simp [frzT] at hf
theorem frzL_ok (h : Ok w0 L nt σ S E a w) {S' : Nat → Prop} (hS : ∀ b, S b → S' b) (hO : ∀ b, ownRows σ.hp E b → S' b) : ∀ {l r : List T} {vs : List Value}, RVL w S E vs l → frzL σ.hp l = some r → ∀ E', RVL w S' E' vs r
  | [], r, vs, hv, hf, E' => by
    simp only [frzL, Option.some.injEq] at hf; subst hf
    exact ⟨hv.1, fun j _ h2 => by simp at h2⟩
  | x :: l, r, vs, hv, hf, E' => by
    simp only [frzL] at hf
    split at hf <;> try (cases hf; done)
    rename_i y l' hy hl'
    simp only [Option.some.injEq] at hf; subst hf
    cases vs with
    | nil => have := hv.1; simp at this
    | cons v vs =>
      have h1 := frzT_ok h hS hO (t := x) (hv.2 0 (by simp) (by simp)) hy E'
      have h2 := frzL_ok h hS hO (l := l) (vs := vs) ⟨by simpa using hv.1, fun j a b => hv.2 (j + 1) (by simpa using a) (by simpa using b)⟩ hl' E'
      refine ⟨by simp [h2.1], fun j a b => ?_⟩
      cases j with
      | zero => exact h1
      | succ j => exact h2.2 j (by simpa using a) (by simpa using b)
end
end
end Go.Pv
namespace Go.Pv
open Go.RowKit
/-- A call of a function whose captured variables stay as they are: its number, its arguments, what it captured. -/
def callZ (tm : List (Nat × T)) (o : Oper) : Option (Nat × List T × List (List Tree)) :=
  match o.op with
  | .call ⟨.value f, args, _⟩ => match val tm f, vals tm args.toList with
    | some (.fz n caps), some l => some (n, l, caps)
    | _, _ => none
  | _ => none
section
variable {w0 : World} {L : Lim} {nt : Nat} {σ : St} {S : Nat → Prop} {E : Nat → Value} {a : Act} {w : World}
theorem Ok.more (h : Ok w0 L nt σ S E a w) {S' : Nat → Prop} (h1 : ∀ b, S' b → b < w.heap.size) (h2 : ∀ b, S' b → L.base b ∨ L.lent b ∨ w0.heap.size ≤ b)
    (h3 : ∀ id blk β, look σ.hp id = some blk → blkOf (E id) = some β → ¬ S' β) : Ok w0 L nt σ (fun b => S b ∨ S' b) E a w :=
  { h with
    stab := fun b hb => hb.elim (h.stab b) (h1 b)
    base := fun b hb => hb.elim (h.base b) (h2 b)
    tm := fun k t ht => (h.tm k t ht).mono (fun _ x => .inl x) (fun _ _ => rfl) (fun _ _ => rfl)
    hp := fun id b hb => (h.hp id b hb).mono (fun _ x => .inl x) (fun _ _ => rfl) (fun _ _ => rfl) (fun _ _ => rfl)
    own := fun id b β hb hβ => ⟨fun hx => hx.elim (h.own id b β hb hβ).1 (h3 id b β hb hβ), (h.own id b β hb hβ).2⟩ }
theorem callZ_ok {P : Program} (h : Ok w0 L nt σ S E a w) {o : Oper} {n : Nat} {l : List T} {caps : List (List Tree)} (ho : callZ σ.tm o = some (n, l, caps)) (hn : ∀ vs w, (callFunc n vs).run P w = .ok (.enter n vs) w) :
    ∃ vs ps : List Value, (execOp a.eval o).run P w = .ok (.enter n (vs ++ ps).toArray) w ∧ RVL w S E vs l ∧ ∀ E', RVL w S E' ps (caps.map T.el) := by
  obtain ⟨dst, op, type, pos, aft, guard⟩ := o
  unfold callZ at ho
  split at ho <;> try (cases ho; done)
  rename_i f args tys hop
  simp only at hop
  subst hop
  split at ho <;> try (cases ho; done)
  rename_i n' caps' l' hf hl
  simp only [Option.some.injEq, Prod.mk.injEq] at ho
  obtain ⟨rfl, rfl, rfl⟩ := ho
  have hfv := h.val hf
  generalize hx : a.eval f = x at hfv
  cases hfv with
  | fz _ ps _ hpl hp =>
    refine ⟨args.toList.map a.eval, ps, ?_, vals_ok h _ _ hl, fun E' => ⟨by simpa using hpl, fun j h1 h2 => ?_⟩⟩
    · have : (args.map a.eval) = (args.toList.map a.eval).toArray := Array.ext' (by simp)
      simp only [execOp, resolve, Sem.run_bind, hx, Deferred.ofValue, Sem.run_pure, Result.andThen_ok, invoke]
      rw [hn]
      simp [this]
    · simp only [List.getElem_map]
      exact (hp j h1 (by simpa using h2)).rv
theorem RVL.append {vs us : List Value} {l m : List T} (h : RVL w S E vs l) (k : RVL w S E us m) : RVL w S E (vs ++ us) (l ++ m) := by
  refine ⟨by simp [h.1, k.1], fun j h1 h2 => ?_⟩
  have hl := h.1
  by_cases hj : j < vs.length
  · rw [List.getElem_append_left hj, List.getElem_append_left (by omega)]; exact h.2 j hj (by omega)
  · rw [List.getElem_append_right (by omega), List.getElem_append_right (by omega)]
    simp only [List.length_append] at h1 h2
    have := k.2 (j - vs.length) (by omega) (by omega)
    simp only [hl] at this ⊢
    exact this
theorem RVL.mono' {w' : World} {S' : Nat → Prop} {vs : List Value} {l : List T} (h : RVL w S E vs l) (hS : ∀ b, S b → S' b) (hw : ∀ b, S b → w'.heap[b]? = w.heap[b]?) : RVL w' S' E vs l :=
  ⟨h.1, fun j h1 h2 => (h.2 j h1 h2).mono hS hw (fun _ _ => rfl)⟩
/-- A slot's content that names nothing of the call's own: the same under every naming. -/
theorem RV.closed (h : Ok w0 L nt σ S E a w) {l r : List T} {vs : List Value} (hv : RVL w S E vs l) (hf : frzL [] l = some r) : ∀ E', RVL w S E' vs r :=
  frzL_ok (σ := ⟨σ.tm, []⟩) { h with hp := fun id b hb => by simp [look] at hb, own := fun id b β hb => by simp [look] at hb, dist := fun id id' b b' β hb => by simp [look] at hb }
    (fun _ x => x) (fun b hb => by obtain ⟨id, _, hl, _⟩ := hb; simp [look] at hl) hv hf
end
section
variable {ρ τ : Type} {X : Cx} {ks : List K} {σ : St} {m : Option ρ} {Q : ρ → Exit → St → Prop}
/-- A call whose arguments hold nothing of the call's own. -/
theorem TieO.call {d1 : Bool} {all : Array Oper} {o : Oper} {rest : List Oper} {n : Nat} {targs cargs : List T} {caps : List (List Tree)} {m₁ : Option τ} {res : τ → T} {k : τ → Option ρ} (σ₂ : τ → St)
    (hg : guardT all.toList σ.tm o.guard = some true) (ho : callZ σ.tm o = some (n, targs, caps)) (hf : frzL [] targs = some cargs) (hc : TieF X.P n (cargs ++ caps.map T.el) m₁ res d1)
    (hp : ∀ t, putT X.nt o.dst (res t) σ = some (σ₂ t)) (h : ∀ t, TieO X all rest ks (σ₂ t) (k t) Q) (hd0 : X.L.dr = true → d1 = true := by intro _; rfl) : TieO X all (o :: rest) ks σ (m₁.bind k) Q := fun r hr a w ⟨S, E, hk⟩ => by
  cases hm : m₁ with
  | none => simp [hm] at hr
  | some t =>
    simp only [hm, Option.bind_some] at hr
    obtain ⟨vs, ps, hrun, hv, hps⟩ := callZ_ok hk ho hc.1
    have hcall := hc.2 t hm w S E (vs ++ ps) (X.glF hk) hk.stab ((RV.closed hk hv hf E).append (hps E))
    refine wpList_step fun K hK => ?_
    rw [guardT_ok hk hg, if_pos rfl]
    unfold Oper.wp
    rw [hrun, Oper.upon_enter]
    refine hcall.mono fun e w' ⟨v, S', he, hv', hkeep, hs1, hs2⟩ => ?_
    subst he
    refine hK _ _ (h t r hr _ _ ⟨fun b => S b ∨ S' b, E, putT_ok ((hk.grow (hkeep.weak hd0)).more hs1 (fun b hb => ?_) (fun id blk β hb hβ hS => ?_)) (hv'.mono (fun _ x => .inr x) (fun _ _ => rfl) (fun _ _ => rfl)) (hp t)⟩)
    · rcases hs2 b hb with h1 | h1
      · exact hk.base b h1
      · exact .inr (.inr (Nat.le_trans hk.keep.size h1))
    · have := hk.own id blk β hb hβ
      rcases hs2 β hS with h1 | h1
      · exact this.1 h1
      · exact absurd this.2.1 (Nat.not_lt.2 h1)
/-- A call that gives numbers and truth values: its arguments may be slices of the call's own. -/
theorem TieO.callS {d1 : Bool} {all : Array Oper} {o : Oper} {rest : List Oper} {n : Nat} {targs cargs : List T} {caps : List (List Tree)} {m₁ : Option τ} {res : τ → T} {k : τ → Option ρ} (σ₂ : τ → St)
    (hg : guardT all.toList σ.tm o.guard = some true) (ho : callZ σ.tm o = some (n, targs, caps)) (hf : frzL σ.hp targs = some cargs) (hc : TieF X.P n (cargs ++ caps.map T.el) m₁ res d1) (hsc : ∀ t, scalar (res t) = true)
    (hp : ∀ t, putT X.nt o.dst (res t) σ = some (σ₂ t)) (h : ∀ t, TieO X all rest ks (σ₂ t) (k t) Q) (hd0 : X.L.dr = true → d1 = true := by intro _; rfl) : TieO X all (o :: rest) ks σ (m₁.bind k) Q := fun r hr a w ⟨S, E, hk⟩ => by
  cases hm : m₁ with
  | none => simp [hm] at hr
  | some t =>
    simp only [hm, Option.bind_some] at hr
    obtain ⟨vs, ps, hrun, hv, hps⟩ := callZ_ok hk ho hc.1
    have hcall := hc.2 t hm w (fun b => S b ∨ ownRows σ.hp E b) E (vs ++ ps) (X.glF hk) (fun b hb => hb.elim (hk.stab b) (fun ⟨id, _, hl, hβ⟩ => (hk.own id _ b hl hβ).2.1))
      ((frzL_ok hk (fun _ x => .inl x) (fun _ x => .inr x) hv hf E).append ((hps E).mono' (fun _ x => .inl x) (fun _ _ => rfl)))
    refine wpList_step fun K hK => ?_
    rw [guardT_ok hk hg, if_pos rfl]
    unfold Oper.wp
    rw [hrun, Oper.upon_enter]
    refine hcall.mono fun e w' ⟨v, S', he, hv', hkeep, _, _⟩ => ?_
    subst he
    exact hK _ _ (h t r hr _ _ ⟨S, E, putT_ok (hk.grow (hkeep.weak hd0)) (hv'.scalar (hsc t)) (hp t)⟩)
def number : Nat → List T → List (Nat × T)
  | _, [] => []
  | k, x :: r => (k, x) :: number (k + 1) r
theorem number_look : ∀ (l : List T) (k j : Nat) (t : T), look (number k l) j = some t → k ≤ j ∧ l[j - k]? = some t
  | [], k, j, t, h => by simp [number, look] at h
  | x :: r, k, j, t, h => by
    simp only [number, look] at h
    by_cases hk : k = j
    · subst hk; simp only [Nat.beq_refl, cond_true, Option.some.injEq] at h; subst h; simp
    · simp only [beq_ne hk, cond_false] at h
      obtain ⟨h1, h2⟩ := number_look r (k + 1) j t h
      refine ⟨by omega, ?_⟩
      rw [show j - k = (j - (k + 1)) + 1 by omega, List.getElem?_cons_succ]
      exact h2
def resVals (tab : Tab) (σ : St) : List ResultVar → Option (List T)
  | [] => some []
  | .tmp t :: r => match look σ.tm t, resVals tab σ r with
    | some x, some l => some (x :: l)
    | _, _ => none
  | .cell c ty :: r => match look σ.tm c, look tab ty, resVals tab σ r with
    | some (.ptr id off), some ti, some l => match look σ.hp id with
      | some (.box ts) => (takeT ti.desc.isAgg ti.size ts off).map (· :: l)
      | _ => none
    | _, _, _ => none
/-- What the function hands back. -/
def retT (tab : Tab) (σ : St) (l : List ResultVar) : Option T :=
  match resVals tab σ l with
  | some [x] => frzT σ.hp x
  | some l => (frzL σ.hp l).map .tup
  | none => none
def resOne (tmps : Array Value) : ResultVar → Sem Value
  | .tmp t => pure (tmps.getD t undef)
  | .cell c t => do loadVar t (← asAddr (tmps.getD c undef))
theorem resVals_ok {P : Program} {tab : Tab} (htab : TabOk P tab) {w0 : World} {L : Lim} {nt : Nat} {S : Nat → Prop} {E : Nat → Value} {a : Act} {w : World} (h : Ok w0 L nt σ S E a w) :
    ∀ (l : List ResultVar) (r : List T), resVals tab σ l = some r →
      ∃ vs : List Value, (l.mapM (resOne a.tmps)).run P w = .ok vs w ∧ RVL w S E vs r
  | [], r, hr => by
    simp only [resVals, Option.some.injEq] at hr; subst hr
    exact ⟨[], by simp, rfl, fun j h1 => by simp at h1⟩
  | .tmp t :: l, r, hr => by
    simp only [resVals] at hr
    split at hr <;> try (cases hr; done)
    rename_i x r' hx hr'
    simp only [Option.some.injEq] at hr; subst hr
    obtain ⟨vs, h1, h2⟩ := resVals_ok htab h l r' hr'
    refine ⟨a.tmps.getD t undef :: vs, ?_, by simp [h2.1], fun j a1 a2 => ?_⟩
    · rw [List.mapM_cons, Sem.run_bind, resOne, Sem.run_pure, Result.andThen_ok, Sem.run_bind, h1]; rfl
    · cases j with
      | zero => exact h.tm t x hx
      | succ j => exact h2.2 j (by simpa using a1) (by simpa using a2)
  | .cell c ty :: l, r, hr => by
    simp only [resVals] at hr
    split at hr <;> try (cases hr; done)
    rename_i id off ti r' hx hti hr'
    split at hr <;> try (cases hr; done)
    rename_i ts hb
    obtain ⟨vs, h1, h2⟩ := resVals_ok htab h l r' hr'
    cases hq : takeT ti.desc.isAgg ti.size ts off with
    | none => simp [hq] at hr
    | some y =>
      simp only [hq, Option.map_some, Option.some.injEq] at hr; subst hr
      obtain ⟨β, hpv, hE⟩ := (h.tm c _ hx).ptr_inv
      obtain ⟨β', cs, elem, hE', hh, hl, hrr, _⟩ := h.hp id _ hb
      rw [hE] at hE'; cases hE'
      obtain ⟨v, hv1, hv2⟩ := load_ok (P := P) (w := w) (b := β) (o := 0) (htab ty _ hti) hl (fun j h1 => by rw [cell_of_row w β (0 + j) _ elem _ hh]; simp [h1]) hrr hq
      rw [Nat.zero_add] at hv1
      have hv3 : (loadVar ty ⟨β, off, none⟩).run P w = .ok v w := by simpa [Instr.loadAt, Instr.sureAddr] using hv1
      refine ⟨v :: vs, ?_, by simp [h2.1], fun j a1 a2 => ?_⟩
      · rw [List.mapM_cons, Sem.run_bind, resOne, hpv]
        simp only [asAddr, Sem.run_bind, Sem.run_pure, Result.andThen_ok, hv3, h1]
      · cases j with
        | zero => exact hv2
        | succ j => exact h2.2 j (by simpa using a1) (by simpa using a2)
theorem retT_ok {P : Program} {tab : Tab} (htab : TabOk P tab) {w0 : World} {L : Lim} {nt : Nat} {S : Nat → Prop} {E : Nat → Value} {a : Act} {w : World} (h : Ok w0 L nt σ S E a w) {fn : Func} {t : T}
    (hr : retT tab σ fn.results.toList = some t) : ∃ v, (results fn a.tmps).run P w = .ok v w ∧ ∀ E', RV w (fun b => S b ∨ ownRows σ.hp E b) E' v t := by
  unfold retT at hr
  cases hl : resVals tab σ fn.results.toList with
  | none => simp [hl] at hr
  | some l =>
    obtain ⟨vs, h1, h2⟩ := resVals_ok htab h _ _ hl
    have hm : (fn.results.mapM (resOne a.tmps)).run P w = .ok vs.toArray w := by
      rw [Array.mapM_eq_mapM_toList, Sem.run_map, h1]; rfl
    have hrun : (results fn a.tmps).run P w = .ok (if h : vs.toArray.size = 1 then vs.toArray[0] else .tuple vs.toArray) w := by
      show (do let vs ← fn.results.mapM (resOne a.tmps); pure (if h : vs.size = 1 then vs[0] else .tuple vs) : Sem Value).run P w = _
      rw [Sem.run_bind, hm]
      rfl
    refine ⟨_, hrun, fun E' => ?_⟩
    rw [hl] at hr
    have hlen := h2.1
    match l, hr, hlen with
    | [x], hr, hlen =>
      match vs, hlen, h2 with
      | [v], _, h2 =>
        have h0 : RV w S E v x := h2.2 0 (Nat.zero_lt_one) (Nat.zero_lt_one)
        exact frzT_ok (S' := fun b => S b ∨ ownRows σ.hp E b) h (fun _ x => .inl x) (fun _ x => .inr x) h0 hr E'
    | [], hr, hlen =>
      simp only [frzL, Option.map_some, Option.some.injEq] at hr
      subst hr
      match vs, hlen with
      | [], _ => exact .tup [] [] rfl fun j h1 => by simp at h1
    | x :: y :: l, hr, hlen =>
      simp only at hr
      cases hf : frzL σ.hp (x :: y :: l) with
      | none => simp [hf] at hr
      | some r =>
        simp only [hf, Option.map_some, Option.some.injEq] at hr
        subst hr
        have := frzL_ok h (S' := fun b => S b ∨ ownRows σ.hp E b) (fun _ x => .inl x) (fun _ x => .inr x) h2 hf E'
        have hsz : ¬ vs.toArray.size = 1 := by simp at hlen ⊢; omega
        rw [dif_neg hsz]
        exact .tup vs r this.1 this.2
/-- A function's contract, from its body. -/
theorem TieF.intro {d : Bool} {P : Program} {tab : Tab} (htab : TabOk P tab) {n : Nat} {fn : Func} {c : Code} {args : List T} {m : Option τ} {res : τ → T} (nt : Nat) (rs : List ResultVar)
    (hcall : ∀ vs w, (callFunc n vs).run P w = .ok (.enter n vs) w) (hf : P.funcs[n]? = some fn) (hb : fn.body = some c) (hnt : fn.ntmps = nt) (hrs : fn.results.toList = rs) (hsz : args.length ≤ nt)
    (body : ∀ (w0 : World) (L : Lim) (gl : GlL P w0 L.lent) (_ : L.dr = d), TieS ⟨P, tab, htab, w0, L, nt, gl⟩ [.c c] ⟨number 0 args, []⟩ m (fun r e σ' => (e = .ret ∨ e = .normal) ∧ retT tab σ' rs = some (res r))) : TieF P n args m res d := by
  refine ⟨hcall, fun r hr w S E vs hgl hS hv => ?_⟩
  refine calls_of_wp hf hb ?_
  have h := body w ⟨fun _ => False, S, E, d⟩ hgl rfl r hr ⟨vs.toArray ++ Array.replicate (fn.ntmps - vs.toArray.size) undef, []⟩ w ⟨S, E, {
    keep := Keep.refl _ _, stab := hS, base := fun b hb => .inl hb, size := by have := hv.1; simp; omega, defers := rfl,
    tm := fun k t ht => by
      obtain ⟨_, hk⟩ := number_look args 0 k t ht
      simp only [Nat.sub_zero] at hk
      obtain ⟨hlt, rfl⟩ := List.getElem?_eq_some_iff.1 hk
      have hlt' : k < vs.length := by have := hv.1; omega
      have := hv.2 k hlt' hlt
      simpa [Array.getElem?_append, hlt'] using this
    hp := fun id b hb => by simp [look] at hb
    own := fun id b β hb => by simp [look] at hb
    dist := fun id id' b b' β hb => by simp [look] at hb
    pin := fun _ _ => rfl }⟩
  refine wp_mono h fun e a' w' ⟨σ', ⟨S', E', hk⟩, he, hret⟩ => ?_
  rw [← hrs] at hret
  obtain ⟨v, hv1, hv2⟩ := retT_ok htab hk hret
  have fin : a'.defers = [] ∧ ∃ v, (results fn a'.tmps).run P w' = .ok v w' ∧ ∃ v' S'', Ending.returned v = .returned v' ∧ RV w' S'' E v' (res r) ∧ Keep d (fun _ => False) w w' ∧ (∀ b, S'' b → b < w'.heap.size) ∧ (∀ b, S'' b → S b ∨ w.heap.size ≤ b) := by
    refine ⟨hk.defers, v, hv1, v, _, rfl, hv2 E, hk.keep, fun b hb => ?_, fun b hb => ?_⟩
    · rcases hb with hb | ⟨id, _, hl, hβ⟩
      · exact hk.stab b hb
      · exact (hk.own id _ b hl hβ).2.1
    · rcases hb with hb | ⟨id, _, hl, hβ⟩
      · rcases hk.base b hb with h1 | h1 | h1
        · exact .inl h1
        · exact h1.elim
        · exact .inr h1
      · rcases (hk.own id _ b hl hβ).2.2 with h1 | h1
        · exact .inr h1
        · exact h1.elim
  rcases he with rfl | rfl <;> exact fin
end
end Go.Pv
namespace Go.Pv
open Go.RowKit
def getI {α : Type} (l : List α) (i : Int) : Option α := if 0 ≤ i then l[i.toNat]? else none
theorem getI_some {α : Type} {l : List α} {i : Int} {y : α} (h : getI l i = some y) : 0 ≤ i ∧ l[i.toNat]? = some y ∧ i < l.length := by
  unfold getI at h
  split at h
  · rename_i h0
    have := (List.getElem?_eq_some_iff.1 h).1
    exact ⟨h0, h, by omega⟩
  · cases h
def quoM (k : IntKind) (x y : Int) : Option Int := if y = 0 then none else some (k.wrap (x.tdiv y))
def remM (x y : Int) : Option Int := if y = 0 then none else some (x.tmod y)
def appendM {α : Type} (l m : List α) : Option (List α) := if l.length + m.length ≤ 1073741824 then some (l ++ m) else none
section
variable {ρ τ α : Type} {X : Cx} {ks : List K} {tm : List (Nat × T)} {hp : List (Nat × Blk)} {m : Option ρ} {Q : ρ → Exit → St → Prop} {all : Array Oper} {o : Oper} {rest : List Oper}
/-- One operation that gives a value without turning the world. -/
theorem TieO.one {d : Nat} {k : τ → Option ρ} {m₁ : Option τ} (hd : o.dst = some d) (hdn : Nat.blt d X.nt = true) (hg : guardT all.toList tm o.guard = some true) (res : τ → T)
    (hrun : ∀ y S E a w, m₁ = some y → Ok X.w0 X.L X.nt ⟨tm, hp⟩ S E a w → ∃ v, (execOp a.eval o).run X.P w = .ok (.value v) w ∧ RV w S E v (res y))
    (h : ∀ y, m₁ = some y → TieO X all rest ks ⟨(d, res y) :: tm, hp⟩ (k y) Q) : TieO X all (o :: rest) ks ⟨tm, hp⟩ (m₁.bind k) Q := fun r hr a w ⟨S, E, hk⟩ => by
  cases hm : m₁ with
  | none => simp [hm] at hr
  | some y =>
    simp only [hm, Option.bind_some] at hr
    obtain ⟨v, h1, h2⟩ := hrun y S E a w hm hk
    refine wpList_step fun K hK => ?_
    rw [guardT_ok hk hg, if_pos rfl]
    unfold Oper.wp
    rw [h1]
    refine hK _ _ (h y hm r hr _ _ ⟨S, E, ?_⟩)
    rw [hd]
    exact hk.put (Nat.le_of_ble_eq_true hdn) h2
theorem index_run {ty e n s0 : Nat} {x ix : Operand} {ik : IntKind} {i : Int} {z0 : List Value} {te : TI} {l : List α} {enc : α → List Tree} {y : α} {S : Nat → Prop} {E : Nat → Value} {a : Act} {w : World}
    (hk : Ok X.w0 X.L X.nt ⟨tm, hp⟩ S E a w) (hm : getI l i = some y)
    (ho : o.op = .indexAddr ty x ix) (hx : val tm x = some (.t (.sl n (l.map enc)))) (hi : val tm ix = some (.t (.v (.int ik i))))
    (hty : look X.tab ty = some ⟨s0, .slice e, z0⟩) (hte : look X.tab e = some te) (henc : ∀ y, (enc y).length = te.size) :
    ∃ v, (execOp a.eval o).run X.P w = .ok (.value v) w ∧ RV w S E v (.el (enc y)) := by
  obtain ⟨h0, hl, hlt⟩ := getI_some hm
  have hxv := hk.val hx
  have hiv := (hk.val hi).tv
  obtain ⟨dd, hdd, ho2⟩ := (X.htab ty _ hty).run_under w
  simp only [TD.ok] at ho2
  subst ho2
  have hs := (X.htab e _ hte).run_size w
  have hll : i.toNat < l.length := by omega
  generalize hxe : a.eval x = xv at hxv
  cases hxv with
  | t hxt =>
    generalize hrows : l.map enc = rows at hxt
    cases hxt with
    | slE a' c => simp at hrows; subst hrows; simp at hll
    | sl b off cap sz rows' vs _ hS hsz hc hr =>
      subst hrows
      have hlen : (l.map enc).length = l.length := by simp
      have hyl : l[i.toNat] = y := by rw [List.getElem?_eq_getElem hll] at hl; exact Option.some.inj hl
      have hsz' : sz = te.size := by
        rw [← henc y]
        exact (hsz (enc y) (List.mem_map.2 ⟨y, hyl ▸ List.getElem_mem hll, rfl⟩)).symm
      subst hsz'
      refine ⟨.pointer (some ⟨b, off + i.toNat * te.size, none⟩), ?_, .el b _ (enc y) (fun j => vs i.toNat j) hS (fun j hj => ?_) (fun j hj => ?_)⟩
      · simp only [execOp, ho, Instr.indexAt, hiv, asIntOf, Sem.run_bind, Sem.run_pure, Result.andThen_ok, hdd, hxe]
        have c1 : 0 ≤ i ∧ i < ((l.map enc).length : Int) := ⟨h0, by rw [hlen]; exact hlt⟩
        simp only [Sem.run_bind, Result.andThen_ok, Sem.run_pure, c1, and_self, if_true, hs, addr_add]
      · rw [henc] at hj
        exact hc i.toNat j (by rw [hlen]; exact hll) hj
      · have := hr i.toNat j (by rw [hlen]; exact hll) (by simp only [List.getElem_map]; rw [hyl]; exact hj)
        simpa only [List.getElem_map, hyl] using this
theorem TieO.index {ty e n s0 : Nat} {x ix : Operand} {ik : IntKind} {i : Int} {z0 : List Value} {te : TI} {d : Nat} {l : List α} {enc : α → List Tree} {k : α → Option ρ}
    (ho : o.op = .indexAddr ty x ix) (hd : o.dst = some d) (hdn : Nat.blt d X.nt = true) (hg : guardT all.toList tm o.guard = some true) (hx : val tm x = some (.t (.sl n (l.map enc)))) (hi : val tm ix = some (.t (.v (.int ik i))))
    (hty : look X.tab ty = some ⟨s0, .slice e, z0⟩) (hte : look X.tab e = some te) (henc : ∀ y, (enc y).length = te.size)
    (h : ∀ y, getI l i = some y → TieO X all rest ks ⟨(d, .el (enc y)) :: tm, hp⟩ (k y) Q) : TieO X all (o :: rest) ks ⟨tm, hp⟩ ((getI l i).bind k) Q :=
  TieO.one hd hdn hg (fun y => .el (enc y)) (fun _ _ _ _ _ hm hk => index_run hk hm ho hx hi hty hte henc) h
theorem TieO.indexO {ty e sz el n s0 : Nat} {x ix : Operand} {ik : IntKind} {i : Int} {z0 : List Value} {te : TI} {d id : Nat} {l : List α} {enc : α → List Tree} {k : α → Option ρ}
    (ho : o.op = .indexAddr ty x ix) (hd : o.dst = some d) (hdn : Nat.blt d X.nt = true) (hg : guardT all.toList tm o.guard = some true) (hx : val tm x = some (.own id)) (hb : look hp id = some (.rows el sz n (l.map enc))) (hi : val tm ix = some (.t (.v (.int ik i))))
    (hty : look X.tab ty = some ⟨s0, .slice e, z0⟩) (hte : look X.tab e = some te) (hsz : te.size = sz)
    (h : ∀ y, getI l i = some y → TieO X all rest ks ⟨(d, .pe id i.toNat sz 0) :: tm, hp⟩ (k y) Q) : TieO X all (o :: rest) ks ⟨tm, hp⟩ ((getI l i).bind k) Q :=
  TieO.one hd hdn hg (fun _ => .pe id i.toNat sz 0) (fun y S E a w hm hk => by
    obtain ⟨h0, hl, hlt⟩ := getI_some hm
    have hiv := (hk.val hi).tv
    obtain ⟨dd, hdd, ho2⟩ := (X.htab ty _ hty).run_under w
    simp only [TD.ok] at ho2
    subst ho2
    have hs := (X.htab e _ hte).run_size w
    have hll : i.toNat < l.length := by omega
    have hxv := hk.val hx
    generalize hxe : a.eval x = xv at hxv
    cases hxv with
    | own _ _ hE =>
      obtain ⟨hn, ⟨hE', hr⟩ | ⟨β, cap, vs, _, hE', hh, _⟩⟩ := hk.hp id _ hb
      · simp at hr; subst hr; simp at hll
      · subst hsz
        have hpe := RV.pe (w := w) (S := S) (E := E) id i.toNat te.size 0 β (l.map enc).length cap hE'
        refine ⟨_, ?_, hpe⟩
        rw [hE'] at hE
        subst hE
        simp only [execOp, ho, Instr.indexAt, hiv, asIntOf, Sem.run_bind, Sem.run_pure, Result.andThen_ok, hdd, hxe]
        have c1 : 0 ≤ i ∧ i < ((l.map enc).length : Int) := ⟨h0, by simpa using hlt⟩
        simp only [Sem.run_bind, Result.andThen_ok, Sem.run_pure, c1, and_self, if_true, hs, addr_add, Nat.zero_add, Nat.add_zero]) h
theorem TieO.quo {ty yt d : Nat} {x y : Operand} {ik : IntKind} {i j : Int} {k : Int → Option ρ} (ho : o.op = .binOp .quo ty x y yt) (hd : o.dst = some d) (hdn : Nat.blt d X.nt = true) (hg : guardT all.toList tm o.guard = some true)
    (hx : val tm x = some (.t (.v (.int ik i)))) (hy : val tm y = some (.t (.v (.int ik j)))) (h : ∀ q, TieO X all rest ks ⟨(d, .t (.v (.int ik q))) :: tm, hp⟩ (k q) Q) :
    TieO X all (o :: rest) ks ⟨tm, hp⟩ ((quoM ik i j).bind k) Q :=
  TieO.one hd hdn hg (fun q => .t (.v (.int ik q))) (fun q S E a w hm hk => by
    unfold quoM at hm
    split at hm
    · cases hm
    · rename_i hj
      cases hm
      refine ⟨_, ?_, .t (.v _)⟩
      simp only [execOp, ho, Sem.run_bind, (hk.val hx).tv, (hk.val hy).tv, eqGuard_run .quo ty x y (.int ik i) (.int ik j) (by simp) (by simp), Result.andThen_ok]
      simp [binOp, Op.intDiv, hj]) (fun q _ => h q)
theorem TieO.rem {ty yt d : Nat} {x y : Operand} {ik : IntKind} {i j : Int} {k : Int → Option ρ} (ho : o.op = .binOp .rem ty x y yt) (hd : o.dst = some d) (hdn : Nat.blt d X.nt = true) (hg : guardT all.toList tm o.guard = some true)
    (hx : val tm x = some (.t (.v (.int ik i)))) (hy : val tm y = some (.t (.v (.int ik j)))) (h : ∀ q, TieO X all rest ks ⟨(d, .t (.v (.int ik q))) :: tm, hp⟩ (k q) Q) :
    TieO X all (o :: rest) ks ⟨tm, hp⟩ ((remM i j).bind k) Q :=
  TieO.one hd hdn hg (fun q => .t (.v (.int ik q))) (fun q S E a w hm hk => by
    unfold remM at hm
    split at hm
    · cases hm
    · rename_i hj
      cases hm
      refine ⟨_, ?_, .t (.v _)⟩
      simp only [execOp, ho, Sem.run_bind, (hk.val hx).tv, (hk.val hy).tv, eqGuard_run .rem ty x y (.int ik i) (.int ik j) (by simp) (by simp), Result.andThen_ok]
      simp [binOp, Op.intDiv, hj]) (fun q _ => h q)
/-- A test within a region whose two ways give one truth value each. -/
theorem TieO.sel {ops : List Oper} {g v v' b : Bool} (n d : Nat) (σ₁ : Bool → St) (hb : b = bif g then v else v') (hd : look tm d = some (.t (.v (.bool g))))
    (h₁ : TieO X all (ops.take n) [] ⟨(d, .t (.v (.bool true))) :: tm, hp⟩ (some ()) (fun _ e σ' => e = .normal ∧ Sub (σ₁ v) σ'))
    (h₂ : TieO X all (ops.take n) [] ⟨(d, .t (.v (.bool false))) :: tm, hp⟩ (some ()) (fun _ e σ' => e = .normal ∧ Sub (σ₁ v') σ'))
    (h : TieO X all (ops.drop n) ks (σ₁ b) m Q) : TieO X all ops ks ⟨tm, hp⟩ m Q := by
  have hm : m = (some b).bind (fun _ => m) := rfl
  rw [hm]
  refine TieO.bind n σ₁ ?_ (fun t ht => by cases ht; exact h) (m₁ := some b)
  have := TieO.split (X := X) (ks := []) (tm := tm) (hp := hp) (all := all) (ops := ops.take n) (m₁ := some v) (m₂ := some v') (Q := fun t e σ' => e = .normal ∧ Sub (σ₁ t) σ') d hd
    (fun r hr a w hw => by cases hr; exact h₁ () rfl a w hw) (fun r hr a w hw => by cases hr; exact h₂ () rfl a w hw)
  subst hb
  have e : (bif g then some v else some v') = some (bif g then v else v') := by cases g <;> rfl
  rw [e] at this
  exact this
theorem TieO.selOr {ops : List Oper} {g v : Bool} (n d : Nat) (σ₁ : Bool → St) (hd : look tm d = some (.t (.v (.bool g))))
    (h₁ : TieO X all (ops.take n) [] ⟨(d, .t (.v (.bool true))) :: tm, hp⟩ (some ()) (fun _ e σ' => e = .normal ∧ Sub (σ₁ true) σ'))
    (h₂ : TieO X all (ops.take n) [] ⟨(d, .t (.v (.bool false))) :: tm, hp⟩ (some ()) (fun _ e σ' => e = .normal ∧ Sub (σ₁ v) σ'))
    (h : TieO X all (ops.drop n) ks (σ₁ (g || v)) m Q) : TieO X all ops ks ⟨tm, hp⟩ m Q :=
  TieO.sel n d σ₁ (b := g || v) (by cases g <;> rfl) hd h₁ h₂ h
end
end Go.Pv
namespace Go.Pv
open Go.RowKit
abbrev tK (k : IntKind) (n : Int) : Tree := .v (.int k n)
abbrev tI (n : Int) : Tree := .v (.int .i64 n)
abbrev tB (b : Bool) : Tree := .v (.bool b)
abbrev tS {α : Type} (enc : α → List Tree) (l : List α) : Tree := .sl l.length (l.map enc)
abbrev w64 (n : Int) : Int := IntKind.i64.wrap n
def encI (n : Int) : List Tree := [tI n]
def encB (b : Bool) : List Tree := [tB b]
def encS {α : Type} (enc : α → List Tree) (l : List α) : List Tree := [tS enc l]
abbrev T.I (n : Int) : T := .t (tI n)
abbrev T.B (b : Bool) : T := .t (tB b)
abbrev T.S {α : Type} (enc : α → List Tree) (l : List α) : T := .t (tS enc l)
abbrev T.fn (n : Nat) : T := .fz n []
inductive Fl (S R : Type) where
  | next (s : S)
  | brk (s : S)
  | ret (r : R)
abbrev rangeK {S R : Type} (i : Int) (f : Fl S R) : Option ((Int × S) ⊕ (S ⊕ R)) :=
  match f with
  | .next s => some (.inl (w64 (i + 1), s))
  | .brk s => some (.inr (.inl s))
  | .ret r => some (.inr (.inr r))
abbrev rangeBN {S R : Type} (n : Int) (f : Int → S → Option (Fl S R)) (p : Int × S) : Option ((Int × S) ⊕ (S ⊕ R)) :=
  bif decide (p.1 < n) then (f p.1 p.2).bind (rangeK p.1) else some (.inr (.inl p.2))
/-- for i := range n -/
noncomputable abbrev rangeN {S R : Type} (n : Int) (f : Int → S → Option (Fl S R)) (s : S) : Option (S ⊕ R) := loopM (rangeBN n f) (0, s)
section
variable {ρ τ : Type} {X : Cx} {ks : List K} {σ : St} {m : Option ρ} {Q : ρ → Exit → St → Prop}
theorem TieS.condR {c : Operand} {x y : Code} (hc : val σ.tm c = some (.t (.v (.bool false)))) (h₂ : TieS X (.c y :: ks) σ m Q) : TieS X (.c (.cond c x y) :: ks) σ m Q := fun r hr a w ⟨S, E, hk⟩ =>
  wp_cond_false ((hk.val hc).tv) (h₂ r hr a w ⟨S, E, hk⟩)
/-- A value under a name. -/
theorem TieS.name {v : τ} {k : τ → Option ρ} (σ₁ : τ → St) (hs : Sub (σ₁ v) σ) (h : ∀ t, TieS X ks (σ₁ t) (k t) Q) : TieS X ks σ ((some v).bind k) Q := TieX.sub hs (h v)
/-- What is needless in a model goes. -/
theorem TieX.drop {m₁ : Option τ} {e : Exit} (h : TieX X ks e σ m Q) : TieX X ks e σ (m₁.bind fun _ => m) Q := fun r hr => by
  cases hm : m₁ with
  | none => simp [hm] at hr
  | some t => exact h r (by simpa [hm] using hr)
end
end Go.Pv
