/- The value machine, part B: the state of a running function, what it says of the machine's own state, and the operations that neither call nor fail, as a function on states. -/
import Derived.Test.YtmocoljbdiphoaaPvA
namespace Go.Pv
open Go.RowKit

inductive TD where
  | int (k : IntKind)
  | bool
  | string
  | slice (e : Nat)
  | struct (fs : List (Nat × Nat))
  | array (n e : Nat)
  | other

structure TI where
  size : Nat
  desc : TD
  zero : List Value

def TD.isAgg : TD → Bool
  | .struct _ | .array _ _ => true
  | _ => false

def TD.ok (P : Program) : TD → TypeDesc → Prop
  | .int k, d => d = .int k
  | .bool, d => d = .bool
  | .string, d => d = .string
  | .slice e, d => d = .slice e
  | .struct l, d => ∃ fs : Array Field, d = .struct fs ∧ l.length = fs.size ∧ ∀ (f o n : Nat), l[f]? = some (o, n) → ∃ (fd : Field) (i : TypeInfo), fs[f]? = some fd ∧ fd.offset = o ∧ P.info? fd.type = some i ∧ i.size = n
  | .array n e, d => d = .array n e
  | .other, d => (match d with | .struct _ | .array _ _ => true | _ => false) = false

def TIok (P : Program) (t : Nat) (ti : TI) : Prop :=
  ∃ i d, P.info? t = some i ∧ i.size = ti.size ∧ P.underlying t = some d ∧ ti.desc.ok P d ∧ (∃ z, i.zero = some z ∧ z.cells.toList = ti.zero) ∧ i.bytes ≤ 65536

abbrev Tab := List (Nat × TI)
def TabOk (P : Program) (tab : Tab) : Prop := ∀ t ti, look tab t = some ti → TIok P t ti

section types
variable {P : Program} {t : Nat} {ti : TI}
theorem TIok.run_size (h : TIok P t ti) (w : World) : (sizeOf t).run P w = .ok ti.size w := by
  obtain ⟨i, d, hi, hs, _⟩ := h
  simp [sizeOf, typeInfo, hi, hs]
theorem TIok.run_agg (h : TIok P t ti) (w : World) : (isAgg t).run P w = .ok ti.desc.isAgg w := by
  obtain ⟨i, d, hi, hs, hu, hd, _⟩ := h
  unfold isAgg
  rw [Sem.run_bind, run_underlying hu w]
  cases hx : ti.desc <;> rw [hx] at hd <;> simp only [TD.ok, TD.isAgg] at hd ⊢
  case struct l => obtain ⟨fs, rfl, _⟩ := hd; simp
  case other => cases d <;> simp_all
  all_goals (subst hd; simp)
theorem TIok.run_zero (h : TIok P t ti) (w : World) : ∃ z : Value, (zeroValue t).run P w = .ok z w ∧ z.cells.toList = ti.zero := by
  obtain ⟨i, d, hi, _, _, _, ⟨z, hz, hc⟩, _⟩ := h
  exact ⟨z, by simp [zeroValue, typeInfo, hi, hz], hc⟩
theorem TIok.run_under (h : TIok P t ti) (w : World) : ∃ d, (underlying t).run P w = .ok d w ∧ ti.desc.ok P d := by
  obtain ⟨i, d, _, _, hu, hd, _⟩ := h
  exact ⟨d, run_underlying hu w, hd⟩
end types

def blkOf : Value → Option Nat
  | .pointer (some a) => some a.block
  | .slice (some a) _ _ => some a.block
  | _ => none

def BlkOk (w : World) (S : Nat → Prop) (E : Nat → Value) (x : Value) : Blk → Prop
  | .box ts => ∃ (β : Nat) (vs : List Value) (elem : TypeId), x = .pointer (some ⟨β, 0, none⟩) ∧ w.heap[β]? = some (.cells vs.toArray elem (0, 0)) ∧ vs.length = ts.length ∧
      (∀ j (h1 : j < vs.length) (h2 : j < ts.length), RV w S E (vs[j]) (ts[j])) ∧ ∀ v ∈ vs, v.oneCell' = true
  | .rows elem sz n rs => n = rs.length ∧ ((x = .slice none 0 0 ∧ rs = []) ∨
      ∃ (β cap : Nat) (vs : List Value), cap ≤ maxLen ∧ x = .slice (some ⟨β, 0, none⟩) rs.length cap ∧ w.heap[β]? = some (.cells vs.toArray elem (0, 0)) ∧ vs.length = cap * sz ∧ rs.length ≤ cap ∧
        (∀ r, r ∈ rs → r.length = sz) ∧ ∀ i j (hi : i < rs.length) (hj : j < (rs[i]).length) (hb : i * sz + j < vs.length), RT w S (vs[i * sz + j]) ((rs[i])[j]))

/-- The world outside the blocks that the call may write. -/
structure Keep (L : Nat → Prop) (w w' : World) : Prop where
  os : w'.os = w.os
  tape : w'.tape = w.tape
  output : w'.output = w.output
  size : w.heap.size ≤ w'.heap.size
  block : ∀ k, k < w.heap.size → ¬ L k → w'.heap[k]? = w.heap[k]?
  drawn : w.drawn ≤ w'.drawn

theorem Keep.refl (L : Nat → Prop) (w : World) : Keep L w w := ⟨rfl, rfl, rfl, Nat.le_refl _, fun _ _ _ => rfl, Nat.le_refl _⟩
theorem Keep.trans {L L' : Nat → Prop} {a b c : World} (h : Keep L a b) (k : Keep L' b c) (hL : ∀ x, L' x → L x ∨ a.heap.size ≤ x) : Keep L a c :=
  ⟨k.os.trans h.os, k.tape.trans h.tape, k.output.trans h.output, Nat.le_trans h.size k.size, fun i hi hn =>
    (k.block i (Nat.lt_of_lt_of_le hi h.size) (fun hx => by rcases hL i hx with h1 | h1; exact hn h1; omega)).trans (h.block i hi hn), Nat.le_trans h.drawn k.drawn⟩

/-- What a call was given: the blocks lent to it, and those of its arguments that stay as they are. -/
structure Lim where
  lent : Nat → Prop
  base : Nat → Prop
  pin : Nat → Value

/-- From here on a name stands for what the caller lent. -/
def big : Nat := 1000000

/-- What a state says: S the blocks that stay as they are, E what the call's own blocks are called in the machine. -/
structure Ok (w0 : World) (L : Lim) (nt : Nat) (σ : St) (S : Nat → Prop) (E : Nat → Value) (a : Act) (w : World) : Prop where
  keep : Keep L.lent w0 w
  stab : ∀ b, S b → b < w.heap.size
  base : ∀ b, S b → L.base b ∨ L.lent b ∨ w0.heap.size ≤ b
  size : a.tmps.size = nt
  defers : a.defers = []
  tm : ∀ k t, look σ.tm k = some t → RV w S E (a.tmps.getD k undef) t
  hp : ∀ id blk, look σ.hp id = some blk → BlkOk w S E (E id) blk
  own : ∀ id blk β, look σ.hp id = some blk → blkOf (E id) = some β → ¬ S β ∧ β < w.heap.size ∧ (w0.heap.size ≤ β ∨ L.lent β)
  dist : ∀ id id' blk blk' β, look σ.hp id = some blk → look σ.hp id' = some blk' → blkOf (E id) = some β → blkOf (E id') = some β → id = id'
  pin : ∀ id, big ≤ id → E id = L.pin id

def Sim (w0 : World) (L : Lim) (nt : Nat) (σ : St) (a : Act) (w : World) : Prop := ∃ S E, Ok w0 L nt σ S E a w

theorem BlkOk.mono {w w' : World} {S S' : Nat → Prop} {E E' : Nat → Value} {x : Value} {b : Blk} (h : BlkOk w S E x b) (hS : ∀ b, S b → S' b)
    (hw : ∀ b, S b → w'.heap[b]? = w.heap[b]?) (hx : ∀ β, blkOf x = some β → w'.heap[β]? = w.heap[β]?) (hE : ∀ id, namesB id b = true → E' id = E id) : BlkOk w' S' E' x b := by
  cases b with
  | box ts =>
    obtain ⟨β, vs, elem, rfl, hh, hl, hr, h1⟩ := h
    refine ⟨β, vs, elem, rfl, (hx β rfl).trans hh, hl, fun j a b => (hr j a b).mono hS hw fun id hid => hE id ?_, h1⟩
    rw [namesB]
    cases hn : namesL id ts
    · rw [namesL_get hn j b] at hid; cases hid
    · rfl
  | rows elem sz n rs =>
    obtain ⟨hn, h⟩ := h
    refine ⟨hn, ?_⟩
    rcases h with ⟨h1, h2⟩ | ⟨β, cap, vs, hm, rfl, hh, hl, hc, hsz, hr⟩
    · exact .inl ⟨h1, h2⟩
    · exact .inr ⟨β, cap, vs, hm, rfl, (hx β rfl).trans hh, hl, hc, hsz, fun i j hi hj hb => (hr i j hi hj hb).mono hS hw⟩

section
variable {w0 : World} {L : Lim} {nt : Nat} {σ : St} {S : Nat → Prop} {E : Nat → Value} {a : Act} {w : World}

/-- A slot is filled. -/
theorem Ok.put (h : Ok w0 L nt σ S E a w) {d : Nat} {v : Value} {t : T} (hd : d < nt) (hv : RV w S E v t) : Ok w0 L nt ⟨(d, t) :: σ.tm, σ.hp⟩ S E (a.put (some d) v) w :=
  { h with
    size := by simp [Act.put, h.size]
    defers := by simp [Act.put, h.defers]
    tm := fun k t' ht => by
      simp only [look] at ht
      have hs := h.size
      by_cases hk : d = k
      · subst hk
        simp only [Nat.beq_refl, cond_true, Option.some.injEq] at ht
        subst ht
        simpa [Act.put, Array.getElem?_setIfInBounds, hs, hd] using hv
      · simp only [beq_ne hk, cond_false] at ht
        have := h.tm k t' ht
        simpa [Act.put, Array.getElem?_setIfInBounds, hk] using this }

/-- The world grows by what touches none of the state's blocks. -/
theorem Ok.grow (h : Ok w0 L nt σ S E a w) {w' : World} (hk : Keep (fun _ => False) w w') : Ok w0 L nt σ S E a w' := by
  have hS : ∀ b, S b → w'.heap[b]? = w.heap[b]? := fun b hb => hk.block b (h.stab b hb) (fun x => x)
  refine { h with keep := h.keep.trans hk (fun _ x => x.elim), stab := fun b hb => Nat.lt_of_lt_of_le (h.stab b hb) hk.size, tm := fun k t ht => (h.tm k t ht).mono (fun _ x => x) hS (fun _ _ => rfl),
                  hp := fun id b hb => (h.hp id b hb).mono (fun _ x => x) hS (fun β hβ => hk.block β (h.own id b β hb hβ).2.1 (fun x => x)) (fun _ _ => rfl),
                  own := fun id b β hb hβ => ⟨(h.own id b β hb hβ).1, Nat.lt_of_lt_of_le (h.own id b β hb hβ).2.1 hk.size, (h.own id b β hb hβ).2.2⟩ }

/-- A new block of the call's own. -/
theorem Ok.alloc (h : Ok w0 L nt σ S E a w) {d : Nat} (hbig : Nat.blt d big = true) (hf : freshT d σ.tm = true) (hb : freshB d σ.hp = true) {o : Obj} {x : Value} {b : Blk}
    (hx : blkOf x = some w.heap.size) (hok : ∀ E', (∀ id, id ≠ d → E' id = E id) → BlkOk (w.alloc o) S E' x b) :
    ∃ E', E' d = x ∧ (∀ id, id ≠ d → E' id = E id) ∧ Ok w0 L nt ⟨σ.tm, (d, b) :: σ.hp⟩ S E' a (w.alloc o) := by
  have hk : Keep (fun _ => False) w (w.alloc o) := ⟨rfl, rfl, rfl, by simp, fun k hk _ => Below.heap_alloc _ _ _ hk, Nat.le_refl _⟩
  have hbig : d < big := Nat.le_of_ble_eq_true hbig
  have h' := h.grow hk
  let E' : Nat → Value := fun id => if id = d then x else E id
  have hE : ∀ id, id ≠ d → E' id = E id := fun id hid => by simp [E', hid]
  have hd : E' d = x := by simp [E']
  have hsz := h.keep.size
  refine ⟨E', hd, hE, { keep := h'.keep, stab := h'.stab, base := h'.base, size := h'.size, defers := h'.defers, tm := ?_, hp := ?_, own := ?_, dist := ?_, pin := fun id hid => by rw [hE id (fun e => by omega)]; exact h.pin id hid }⟩
  · exact fun k t ht => (h'.tm k t ht).mono (fun _ x => x) (fun _ _ => rfl) fun id hid => hE id fun e => by
      have := freshT_look hf k t ht; subst e; rw [this] at hid; cases hid
  · intro id blk hl
    simp only [look] at hl
    by_cases hid : d = id
    · subst hid
      simp only [Nat.beq_refl, cond_true, Option.some.injEq] at hl
      subst hl; rw [hd]; exact hok E' hE
    · simp only [beq_ne hid, cond_false] at hl
      rw [hE id (fun e => hid e.symm)]
      exact (h'.hp id blk hl).mono (fun _ x => x) (fun _ _ => rfl) (fun _ _ => rfl) fun i hi => hE i fun e => by
        have := (freshB_look hb id blk hl).2; subst e; rw [this] at hi; cases hi
  · intro id blk β hl hβ
    simp only [look] at hl
    by_cases hid : d = id
    · subst hid
      rw [hd, hx] at hβ
      cases hβ
      exact ⟨fun hS => absurd (h.stab _ hS) (Nat.lt_irrefl _), by simp, .inl hsz⟩
    · simp only [beq_ne hid, cond_false] at hl
      rw [hE id (fun e => hid e.symm)] at hβ
      exact h'.own id blk β hl hβ
  · intro id id' blk blk' β hl hl' hβ hβ'
    simp only [look] at hl hl'
    by_cases hid : d = id <;> by_cases hid' : d = id'
    · exact hid.symm.trans hid'
    · subst hid
      simp only [beq_ne hid', cond_false] at hl'
      rw [hd, hx] at hβ; cases hβ
      rw [hE id' (fun e => hid' e.symm)] at hβ'
      exact absurd (h.own id' blk' _ hl' hβ').2.1 (Nat.lt_irrefl _)
    · subst hid'
      simp only [beq_ne hid, cond_false] at hl
      rw [hd, hx] at hβ'; cases hβ'
      rw [hE id (fun e => hid e.symm)] at hβ
      exact absurd (h.own id blk _ hl hβ).2.1 (Nat.lt_irrefl _)
    · simp only [beq_ne hid, beq_ne hid', cond_false] at hl hl'
      rw [hE id (fun e => hid e.symm)] at hβ
      rw [hE id' (fun e => hid' e.symm)] at hβ'
      exact h.dist id id' blk blk' β hl hl' hβ hβ'
end

end Go.Pv
