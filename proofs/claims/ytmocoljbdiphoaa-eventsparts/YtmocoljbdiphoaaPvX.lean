/- The value machine, part X: names turned into others; blocks that somebody owns; contracts of functions that are lent blocks and hand back new ones. -/
import Derived.Test.YtmocoljbdiphoaaPvZa
namespace Go.Pv
open Go.RowKit

mutual
/-- The same content under other names. -/
def renT (h : List (Nat × Nat)) : T → Option T
  | .t x => some (.t x)
  | .el c => some (.el c)
  | .fz n c => some (.fz n c)
  | .any => some .any
  | .ptr id off => match look h id with | some i => some (.ptr i off) | none => none
  | .own id => match look h id with | some i => some (.own i) | none => none
  | .pe id i sz off => match look h id with | some j => some (.pe j i sz off) | none => none
  | .agg l => match renL h l with | some r => some (.agg r) | none => none
  | .tup l => match renL h l with | some r => some (.tup r) | none => none
  | .clo f l => match renL h l with | some r => some (.clo f r) | none => none
def renL (h : List (Nat × Nat)) : List T → Option (List T)
  | [] => some []
  | x :: r => match renT h x, renL h r with | some y, some l => some (y :: l) | _, _ => none
end

def renB (h : List (Nat × Nat)) : Blk → Option Blk
  | .box l => match renL h l with | some r => some (.box r) | none => none
  | .rows e sz n rs => some (.rows e sz n rs)

section
variable {w : World} {S : Nat → Prop} {E E' : Nat → Value} {h : List (Nat × Nat)}

mutual
theorem renT_ok (hE : ∀ i j, look h i = some j → E' j = E i) : ∀ {t u : T} {v : Value}, RV w S E v t → renT h t = some u → RV w S E' v u
  | .t x, u, v, hv, hr => by simp only [renT, Option.some.injEq] at hr; subst hr; exact hv.mono (fun _ x => x) (fun _ _ => rfl) (fun id hid => by simp [names] at hid)
  | .el c, u, v, hv, hr => by simp only [renT, Option.some.injEq] at hr; subst hr; exact hv.mono (fun _ x => x) (fun _ _ => rfl) (fun id hid => by simp [names] at hid)
  | .fz n c, u, v, hv, hr => by simp only [renT, Option.some.injEq] at hr; subst hr; exact hv.mono (fun _ x => x) (fun _ _ => rfl) (fun id hid => by simp [names] at hid)
  | .any, u, v, hv, hr => by simp only [renT, Option.some.injEq] at hr; subst hr; exact .any v
  | .ptr id off, u, v, hv, hr => by
    simp only [renT] at hr
    split at hr <;> try (cases hr; done)
    rename_i i hi
    simp only [Option.some.injEq] at hr; subst hr
    cases hv with | ptr _ _ β hb => exact .ptr i off β (by rw [hE id i hi]; exact hb)
  | .own id, u, v, hv, hr => by
    simp only [renT] at hr
    split at hr <;> try (cases hr; done)
    rename_i i hi
    simp only [Option.some.injEq] at hr; subst hr
    cases hv with | own _ _ hb => exact .own i v (by rw [hE id i hi]; exact hb)
  | .pe id k sz off, u, v, hv, hr => by
    simp only [renT] at hr
    split at hr <;> try (cases hr; done)
    rename_i i hi
    simp only [Option.some.injEq] at hr; subst hr
    cases hv with | pe _ _ _ _ β n cap hb => exact .pe i k sz off β n cap (by rw [hE id i hi]; exact hb)
  | .agg l, u, v, hv, hr => by
    simp only [renT] at hr
    split at hr <;> try (cases hr; done)
    rename_i r hl
    simp only [Option.some.injEq] at hr; subst hr
    cases hv with | agg vs _ hlen hrr => have := renL_ok hE ⟨hlen, hrr⟩ hl; exact .agg vs r this.1 this.2
  | .tup l, u, v, hv, hr => by
    simp only [renT] at hr
    split at hr <;> try (cases hr; done)
    rename_i r hl
    simp only [Option.some.injEq] at hr; subst hr
    cases hv with | tup vs _ hlen hrr => have := renL_ok hE ⟨hlen, hrr⟩ hl; exact .tup vs r this.1 this.2
  | .clo f l, u, v, hv, hr => by
    simp only [renT] at hr
    split at hr <;> try (cases hr; done)
    rename_i r hl
    simp only [Option.some.injEq] at hr; subst hr
    cases hv with | clo _ vs _ hlen hrr => have := renL_ok hE ⟨hlen, hrr⟩ hl; exact .clo f vs r this.1 this.2
theorem renL_ok (hE : ∀ i j, look h i = some j → E' j = E i) : ∀ {l r : List T} {vs : List Value}, RVL w S E vs l → renL h l = some r → RVL w S E' vs r
  | [], r, vs, hv, hr => by simp only [renL, Option.some.injEq] at hr; subst hr; exact ⟨hv.1, fun j _ h2 => by simp at h2⟩
  | x :: l, r, vs, hv, hr => by
    simp only [renL] at hr
    split at hr <;> try (cases hr; done)
    rename_i y l' hy hl'
    simp only [Option.some.injEq] at hr; subst hr
    cases vs with
    | nil => have := hv.1; simp at this
    | cons v vs =>
      have h1 := renT_ok hE (t := x) (hv.2 0 (by simp) (by simp)) hy
      have h2 := renL_ok hE (l := l) (vs := vs) ⟨by simpa using hv.1, fun j a b => hv.2 (j + 1) (by simpa using a) (by simpa using b)⟩ hl'
      refine ⟨by simp [h2.1], fun j a b => ?_⟩
      cases j with
      | zero => exact h1
      | succ j => exact h2.2 j (by simpa using a) (by simpa using b)
end

mutual
/-- The other way. -/
theorem unrenT_ok (hE : ∀ i j, look h i = some j → E' j = E i) : ∀ {t u : T} {v : Value}, RV w S E' v u → renT h t = some u → RV w S E v t
  | .t x, u, v, hv, hr => by simp only [renT, Option.some.injEq] at hr; subst hr; exact hv.mono (fun _ x => x) (fun _ _ => rfl) (fun id hid => by simp [names] at hid)
  | .el c, u, v, hv, hr => by simp only [renT, Option.some.injEq] at hr; subst hr; exact hv.mono (fun _ x => x) (fun _ _ => rfl) (fun id hid => by simp [names] at hid)
  | .fz n c, u, v, hv, hr => by simp only [renT, Option.some.injEq] at hr; subst hr; exact hv.mono (fun _ x => x) (fun _ _ => rfl) (fun id hid => by simp [names] at hid)
  | .any, u, v, hv, hr => .any v
  | .ptr id off, u, v, hv, hr => by
    simp only [renT] at hr
    split at hr <;> try (cases hr; done)
    rename_i i hi
    simp only [Option.some.injEq] at hr; subst hr
    cases hv with | ptr _ _ β hb => exact .ptr id off β (by rw [← hE id i hi]; exact hb)
  | .own id, u, v, hv, hr => by
    simp only [renT] at hr
    split at hr <;> try (cases hr; done)
    rename_i i hi
    simp only [Option.some.injEq] at hr; subst hr
    cases hv with | own _ _ hb => exact .own id v (by rw [← hE id i hi]; exact hb)
  | .pe id k sz off, u, v, hv, hr => by
    simp only [renT] at hr
    split at hr <;> try (cases hr; done)
    rename_i i hi
    simp only [Option.some.injEq] at hr; subst hr
    cases hv with | pe _ _ _ _ β n cap hb => exact .pe id k sz off β n cap (by rw [← hE id i hi]; exact hb)
  | .agg l, u, v, hv, hr => by
    simp only [renT] at hr
    split at hr <;> try (cases hr; done)
    rename_i r hl
    simp only [Option.some.injEq] at hr; subst hr
    cases hv with | agg vs _ hlen hrr => have := unrenL_ok hE ⟨hlen, hrr⟩ hl; exact .agg vs l this.1 this.2
  | .tup l, u, v, hv, hr => by
    simp only [renT] at hr
    split at hr <;> try (cases hr; done)
    rename_i r hl
    simp only [Option.some.injEq] at hr; subst hr
    cases hv with | tup vs _ hlen hrr => have := unrenL_ok hE ⟨hlen, hrr⟩ hl; exact .tup vs l this.1 this.2
  | .clo f l, u, v, hv, hr => by
    simp only [renT] at hr
    split at hr <;> try (cases hr; done)
    rename_i r hl
    simp only [Option.some.injEq] at hr; subst hr
    cases hv with | clo _ vs _ hlen hrr => have := unrenL_ok hE ⟨hlen, hrr⟩ hl; exact .clo f vs l this.1 this.2
theorem unrenL_ok (hE : ∀ i j, look h i = some j → E' j = E i) : ∀ {l r : List T} {vs : List Value}, RVL w S E' vs r → renL h l = some r → RVL w S E vs l
  | [], r, vs, hv, hr => by simp only [renL, Option.some.injEq] at hr; subst hr; exact ⟨hv.1, fun j _ h2 => by simp at h2⟩
  | x :: l, r, vs, hv, hr => by
    simp only [renL] at hr
    split at hr <;> try (cases hr; done)
    rename_i y l' hy hl'
    simp only [Option.some.injEq] at hr; subst hr
    cases vs with
    | nil => have := hv.1; simp at this
    | cons v vs =>
      have h1 := unrenT_ok hE (t := x) (hv.2 0 (by simp) (by simp)) hy
      have h2 := unrenL_ok hE (l := l) (vs := vs) ⟨by simpa using hv.1, fun j a b => hv.2 (j + 1) (by simpa using a) (by simpa using b)⟩ hl'
      refine ⟨by simp [h2.1], fun j a b => ?_⟩
      cases j with
      | zero => exact h1
      | succ j => exact h2.2 j (by simpa using a) (by simpa using b)
end

theorem renB_ok (hE : ∀ i j, look h i = some j → E' j = E i) {x : Value} {b c : Blk} (hb : BlkOk w S E x b) (hr : renB h b = some c) : BlkOk w S E' x c := by
  cases b with
  | box l =>
    simp only [renB] at hr
    split at hr <;> try (cases hr; done)
    rename_i r hl
    simp only [Option.some.injEq] at hr; subst hr
    obtain ⟨β, vs, elem, h1, h2, h3, h4, h5⟩ := hb
    have := renL_ok hE (l := l) (vs := vs) ⟨h3, h4⟩ hl
    exact ⟨β, vs, elem, h1, h2, this.1, this.2, h5⟩
  | rows e sz n rs =>
    simp only [renB, Option.some.injEq] at hr; subst hr
    exact hb.mono (fun _ x => x) (fun _ _ => rfl) (fun _ _ => rfl) (fun _ hid => by simp [namesB] at hid)

theorem unrenB_ok (hE : ∀ i j, look h i = some j → E' j = E i) {x : Value} {b c : Blk} (hb : BlkOk w S E' x c) (hr : renB h b = some c) : BlkOk w S E x b := by
  cases b with
  | box l =>
    simp only [renB] at hr
    split at hr <;> try (cases hr; done)
    rename_i r hl
    simp only [Option.some.injEq] at hr; subst hr
    obtain ⟨β, vs, elem, h1, h2, h3, h4, h5⟩ := hb
    have := unrenL_ok hE (l := l) (vs := vs) ⟨h3, h4⟩ hl
    exact ⟨β, vs, elem, h1, h2, this.1, this.2, h5⟩
  | rows e sz n rs =>
    simp only [renB, Option.some.injEq] at hr; subst hr
    exact hb.mono (fun _ x => x) (fun _ _ => rfl) (fun _ _ => rfl) (fun _ hid => by simp [namesB] at hid)
end

/-- Blocks that are somebody's own: each as said, none of them among those that stay, no two the same. -/
structure Owned (w : World) (S : Nat → Prop) (E : Nat → Value) (hp : List (Nat × Blk)) : Prop where
  blk : ∀ id b, look hp id = some b → BlkOk w S E (E id) b
  own : ∀ id b β, look hp id = some b → blkOf (E id) = some β → ¬ S β ∧ β < w.heap.size
  dist : ∀ id id' b b' β, look hp id = some b → look hp id' = some b' → blkOf (E id) = some β → blkOf (E id') = some β → id = id'

def lentOf (hp : List (Nat × Blk)) (E : Nat → Value) (β : Nat) : Prop := ∃ id b, look hp id = some b ∧ blkOf (E id) = some β

/-- A function's contract: it is lent the blocks hp (under names from big on), and hands back what reads as res r, with the blocks hp' r: those that were lent, as they are now, and new ones (under names below big). -/
def TieG {ρ : Type} (P : Program) (n : FuncId) (args : List T) (hp : List (Nat × Blk)) (m : Option ρ) (res : ρ → T) (hp' : ρ → List (Nat × Blk)) : Prop :=
  (∀ vs w, (callFunc n vs).run P w = .ok (.enter n vs) w) ∧
  ∀ r, m = some r → ∀ (w : World) (S : Nat → Prop) (E : Nat → Value) (vs : List Value), (∀ b, S b → b < w.heap.size) → Owned w S E hp → RVL w S E vs args →
    Calls P n vs.toArray w fun e w' => ∃ v S' E', e = .returned v ∧ RV w' S' E' v (res r) ∧ Keep (lentOf hp E) w w' ∧ (∀ b, S' b → b < w'.heap.size) ∧ (∀ b, S' b → S b ∨ lentOf hp E b ∨ w.heap.size ≤ b) ∧
      Owned w' S' E' (hp' r) ∧ (∀ β, lentOf (hp' r) E' β → lentOf hp E β ∨ w.heap.size ≤ β) ∧ (∀ id, big ≤ id → E' id = E id)

theorem TieF.toG {ρ : Type} {P : Program} {n : FuncId} {args : List T} {m : Option ρ} {res : ρ → T} (h : TieF P n args m res) : TieG P n args [] m res (fun _ => []) :=
  ⟨h.1, fun r hr w S E vs hS _ hv => (h.2 r hr w S E vs hS hv).mono fun e w' ⟨v, S', he, hv', hk, h1, h2⟩ =>
    ⟨v, S', E, he, hv', ⟨hk.os, hk.tape, hk.output, hk.size, fun k hk' _ => hk.block k hk' (fun x => x), hk.drawn⟩, h1, fun b hb => (h2 b hb).imp_right .inr,
      ⟨fun id b hb => by simp [look] at hb, fun id b β hb => by simp [look] at hb, fun id id' b b' β hb => by simp [look] at hb⟩, fun β ⟨id, b, hb, _⟩ => by simp [look] at hb, fun _ _ => rfl⟩⟩

/-- Owned blocks as the state of a call that has begun. -/
theorem Owned.ok {w : World} {S : Nat → Prop} {E : Nat → Value} {hp : List (Nat × Blk)} (h : Owned w S E hp) (hS : ∀ b, S b → b < w.heap.size) : Ok w ⟨fun _ => True, fun _ => True, E⟩ 0 ⟨[], hp⟩ S E ⟨#[], []⟩ w where
  keep := Keep.refl _ _
  stab := hS
  base := fun _ _ => .inl trivial
  size := rfl
  defers := rfl
  tm := fun k t ht => by simp [look] at ht
  hp := h.blk
  own := fun id b β hb hβ => ⟨(h.own id b β hb hβ).1, (h.own id b β hb hβ).2, .inr trivial⟩
  dist := h.dist
  pin := fun _ _ => rfl

/-- What is handed back, taken as what stays. -/
theorem TieG.toF {ρ : Type} {P : Program} {n : FuncId} {args : List T} {m : Option ρ} {res res' : ρ → T} {hp' : ρ → List (Nat × Blk)} (h : TieG P n args [] m res hp') (hz : ∀ r, frzT (hp' r) (res r) = some (res' r)) : TieF P n args m res' := by
  refine ⟨h.1, fun r hr w S E vs hS hv => (h.2 r hr w S E vs hS ⟨fun id b hb => by simp [look] at hb, fun id b β hb => by simp [look] at hb, fun id id' b b' β hb => by simp [look] at hb⟩ hv).mono fun e w' ⟨v, S', E', he, hv', hk, h1, h2, hO, h3, _⟩ => ?_⟩
  have nl : ∀ β, ¬ lentOf [] E β := fun β ⟨id, b, hb, _⟩ => by simp [look] at hb
  refine ⟨v, fun b => S' b ∨ ownRows (hp' r) E' b, he, frzT_ok (hO.ok h1) (fun _ x => .inl x) (fun _ x => .inr x) hv' (hz r) E, ⟨hk.os, hk.tape, hk.output, hk.size, fun k hk' _ => hk.block k hk' (nl k), hk.drawn⟩, fun b hb => ?_, fun b hb => ?_⟩
  · rcases hb with hb | ⟨id, e', sz, k, rs, hl, hβ⟩
    · exact h1 b hb
    · exact (hO.own id _ b hl hβ).2
  · rcases hb with hb | ⟨id, e', sz, k, rs, hl, hβ⟩
    · rcases h2 b hb with h4 | h4 | h4
      · exact .inl h4
      · exact absurd h4 (nl b)
      · exact .inr h4
    · rcases h3 b ⟨id, _, hl, hβ⟩ with h4 | h4
      · exact absurd h4 (nl b)
      · exact .inr h4
end Go.Pv
