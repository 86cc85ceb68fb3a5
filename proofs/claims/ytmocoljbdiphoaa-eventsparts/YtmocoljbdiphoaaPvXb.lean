/- The value machine, part Xb: such contracts from bodies; nil slices that become rows of the call's own; boxes that stay as they are. -/
import Derived.Test.YtmocoljbdiphoaaPvXa
namespace Go.Pv
open Go.RowKit

theorem look_of_mem {α : Type} : ∀ {h : List (Nat × α)} {a : Nat} {b : α}, nodupB (h.map (·.1)) = true → (a, b) ∈ h → look h a = some b
  | [], a, b, _, hm => by simp at hm
  | (x, y) :: r, a, b, hn, hm => by
    simp only [List.map_cons, nodupB, Bool.and_eq_true, Bool.not_eq_true'] at hn
    rcases List.mem_cons.1 hm with h1 | h1
    · simp only [Prod.mk.injEq] at h1; obtain ⟨rfl, rfl⟩ := h1; simp [look]
    · have hne : x ≠ a := fun e => any_beq hn.1 (e ▸ List.mem_map.2 ⟨(a, b), h1, rfl⟩)
      simp only [look, beq_ne hne, cond_false]
      exact look_of_mem hn.2 h1

/-- What the function hands back, as it stands. -/
def endT (tab : Tab) (σ : St) (l : List ResultVar) : Option T :=
  match resVals tab σ l with
  | some [x] => some x
  | some l => some (.tup l)
  | none => none

theorem endT_ok {P : Program} {tab : Tab} (htab : TabOk P tab) {σ : St} {w0 : World} {L : Lim} {nt : Nat} {S : Nat → Prop} {E : Nat → Value} {a : Act} {w : World} (h : Ok w0 L nt σ S E a w) {fn : Func} {t : T}
    (hr : endT tab σ fn.results.toList = some t) : ∃ v, (results fn a.tmps).run P w = .ok v w ∧ RV w S E v t := by
  unfold endT at hr
  cases hl : resVals tab σ fn.results.toList with
  | none => simp [hl] at hr
  | some l =>
    obtain ⟨vs, h1, h2⟩ := resVals_ok htab h _ _ hl
    have hm : (fn.results.mapM (resOne a.tmps)).run P w = .ok vs.toArray w := by
      rw [Array.mapM_eq_mapM_toList, Sem.run_map, h1]; rfl
    have hrun : (results fn a.tmps).run P w = .ok (if h : vs.toArray.size = 1 then vs.toArray[0] else .tuple vs.toArray) w := by
      show (do let vs ← fn.results.mapM (resOne a.tmps); pure (if h : vs.size = 1 then vs[0] else .tuple vs) : Sem Value).run P w = _
      rw [Sem.run_bind, hm]
      rfl
    refine ⟨_, hrun, ?_⟩
    rw [hl] at hr
    have hlen := h2.1
    match l, hr, hlen with
    | [x], hr, hlen =>
      match vs, hlen, h2 with
      | [v], _, h2 =>
        simp only [Option.some.injEq] at hr
        subst hr
        exact h2.2 0 (Nat.zero_lt_one) (Nat.zero_lt_one)
    | [], hr, hlen =>
      simp only [Option.some.injEq] at hr
      subst hr
      match vs, hlen with
      | [], _ => exact .tup [] [] rfl fun j h1 => by simp at h1
    | x :: y :: l, hr, hlen =>
      simp only [Option.some.injEq] at hr
      subst hr
      have hsz : ¬ vs.toArray.size = 1 := by simp at hlen ⊢; omega
      rw [dif_neg hsz]
      exact .tup vs _ h2.1 h2.2

def endB (nm : List (Nat × Nat)) (hp : List (Nat × Blk)) (p : Nat × Blk) : Option Blk :=
  match rev nm p.1 with
  | some s => match look hp s with
    | some b => match renB nm b with
      | some c => some (mrgB c p.2)
      | none => none
    | none => none
  | none => none

/-- The state at a function's end, under the contract's names nm. -/
def EndG (tab : Tab) (σ : St) (rs : List ResultVar) (t : T) (bl : List (Nat × Blk)) : Prop :=
  ∃ (nm : List (Nat × Nat)) (t0 t1 : T), (renOk nm && nodupB (nm.map (·.1))) = true ∧ endT tab σ rs = some t0 ∧ renT nm t0 = some t1 ∧ mrg t1 t = t ∧ bl.map (endB nm σ.hp) = bl.map (fun p => some p.2)

theorem TieG.intro {τ : Type} {P : Program} {tab : Tab} (htab : TabOk P tab) {n : Nat} {fn : Func} {c : Code} {args : List T} {hp : List (Nat × Blk)} {m : Option τ} {res : τ → T} {hp' : τ → List (Nat × Blk)} (nt : Nat) (rs : List ResultVar)
    (hcall : ∀ vs w, (callFunc n vs).run P w = .ok (.enter n vs) w) (hf : P.funcs[n]? = some fn) (hb : fn.body = some c) (hnt : fn.ntmps = nt) (hrs : fn.results.toList = rs) (hsz : args.length ≤ nt)
    (body : ∀ (w0 : World) (L : Lim), TieS ⟨P, tab, htab, w0, L, nt⟩ [.c c] ⟨number 0 args, hp⟩ m (fun r e σ' => (e = .ret ∨ e = .normal) ∧ EndG tab σ' rs (res r) (hp' r))) : TieG P n args hp m res hp' := by
  refine ⟨hcall, fun r hr w S E vs hS hO hv => ?_⟩
  refine calls_of_wp hf hb ?_
  have h := body w ⟨lentOf hp E, S, E⟩ r hr ⟨vs.toArray ++ Array.replicate (fn.ntmps - vs.toArray.size) undef, []⟩ w ⟨S, E, {
    keep := Keep.refl _ _, stab := hS, base := fun b hb => .inl hb, size := by have := hv.1; simp; omega, defers := rfl,
    tm := fun k t ht => by
      obtain ⟨_, hk⟩ := number_look args 0 k t ht
      simp only [Nat.sub_zero] at hk
      obtain ⟨hlt, rfl⟩ := List.getElem?_eq_some_iff.1 hk
      have hlt' : k < vs.length := by have := hv.1; omega
      have := hv.2 k hlt' hlt
      simpa [Array.getElem?_append, hlt'] using this
    hp := hO.blk
    own := fun id b β hb hβ => ⟨(hO.own id b β hb hβ).1, (hO.own id b β hb hβ).2, .inr ⟨id, b, hb, hβ⟩⟩
    dist := hO.dist
    pin := fun _ _ => rfl }⟩
  refine wp_mono h fun e a' w' ⟨σ', ⟨S', E1, hk⟩, he, nm, t0, t1, hok, ht0, ht1, hmr, hbl⟩ => ?_
  rw [← hrs] at ht0
  obtain ⟨v, hv1, hv2⟩ := endT_ok htab hk ht0
  simp only [Bool.and_eq_true, renOk, List.all_eq_true] at hok
  obtain ⟨⟨hnd, hbg⟩, hkeys⟩ := hok
  let E2 : Nat → Value := fun c => match rev nm c with | some s => E1 s | none => E1 c
  have hE : ∀ i j, look nm i = some j → E2 j = E1 i := fun i j hl => by simp [E2, rev_look hnd hl]
  have hmem : ∀ id b, look (hp' r) id = some b → ∃ s b0 c, rev nm id = some s ∧ look nm s = some id ∧ look σ'.hp s = some b0 ∧ renB nm b0 = some c ∧ mrgB c b = b := by
    intro id b hl
    obtain ⟨n, hn, hx⟩ := List.mem_iff_getElem.1 (look_mem hl)
    have : ((hp' r).map (endB nm σ'.hp))[n]? = ((hp' r).map (fun p => some p.2))[n]? := by rw [hbl]
    rw [List.getElem?_map, List.getElem?_map, List.getElem?_eq_getElem hn, hx] at this
    simp only [Option.map_some, Option.some.injEq] at this
    unfold endB at this
    split at this <;> try (cases this; done)
    rename_i s hs
    split at this <;> try (cases this; done)
    rename_i b0 hb0
    split at this <;> try (cases this; done)
    rename_i c hc
    exact ⟨s, b0, c, hs, look_of_mem hkeys (rev_mem hs), hb0, hc, Option.some.inj this⟩
  have fin : a'.defers = [] ∧ ∃ v, (results fn a'.tmps).run P w' = .ok v w' ∧ ∃ v' S'' E'', Ending.returned v = .returned v' ∧ RV w' S'' E'' v' (res r) ∧ Keep (lentOf hp E) w w' ∧ (∀ b, S'' b → b < w'.heap.size) ∧ (∀ b, S'' b → S b ∨ lentOf hp E b ∨ w.heap.size ≤ b) ∧
      Owned w' S'' E'' (hp' r) ∧ (∀ β, lentOf (hp' r) E'' β → lentOf hp E β ∨ w.heap.size ≤ β) ∧ (∀ id, big ≤ id → E'' id = E id) := by
    refine ⟨hk.defers, v, hv1, v, S', E2, rfl, ?_, hk.keep, hk.stab, fun b hb => hk.base b hb, ⟨fun id b hl => ?_, fun id b β hl hβ => ?_, fun id id' b b' β hl hl' hβ hβ' => ?_⟩, fun β hl => ?_, fun id hid => ?_⟩
    · have := mrg_ok (u := res r) (renT_ok hE hv2 ht1)
      rw [hmr] at this
      exact this
    · obtain ⟨s, b0, c, e1, e2, e3, e4, e5⟩ := hmem id b hl
      have := mrgB_ok (u := b) (renB_ok hE (hk.hp s b0 e3) e4)
      rw [e5] at this
      rw [hE s id e2]
      exact this
    · obtain ⟨s, b0, c, e1, e2, e3, e4, e5⟩ := hmem id b hl
      rw [hE s id e2] at hβ
      have := hk.own s b0 β e3 hβ
      exact ⟨this.1, this.2.1⟩
    · obtain ⟨s, b0, c, e1, e2, e3, e4, e5⟩ := hmem id b hl
      obtain ⟨s', b0', c', e1', e2', e3', e4', e5'⟩ := hmem id' b' hl'
      rw [hE s id e2] at hβ
      rw [hE s' id' e2'] at hβ'
      have := hk.dist s s' b0 b0' β e3 e3' hβ hβ'
      subst this
      rw [e2] at e2'
      exact Option.some.inj e2'
    · obtain ⟨id, b, hl, hβ⟩ := hl
      obtain ⟨s, b0, c, e1, e2, e3, e4, e5⟩ := hmem id b hl
      rw [hE s id e2] at hβ
      exact (hk.own s b0 β e3 hβ).2.2.symm
    · simp only [E2]
      split
      · rename_i s hs
        have := hbg _ (rev_mem hs)
        simp only [Bool.or_eq_true] at this
        rcases this with h1 | h1
        · have := Nat.le_of_ble_eq_true h1; omega
        · have := Nat.eq_of_beq_eq_true h1; subst this; exact hk.pin _ hid
      · exact hk.pin id hid
  rcases he with rfl | rfl <;> exact fin

/-- The nil slice at a place within a slot's content, under a name of its own. -/
def setNil (id : Nat) : List Nat → T → Option T
  | [], .t (.v (.slice none 0 0)) => some (.own id)
  | i :: p, .agg l => match l[i]? with
    | some x => match setNil id p x with
      | some y => some (.agg (l.set i y))
      | none => none
    | none => none
  | i :: p, .tup l => match l[i]? with
    | some x => match setNil id p x with
      | some y => some (.tup (l.set i y))
      | none => none
    | none => none
  | _, _ => none

theorem RVL.set {w : World} {S : Nat → Prop} {E : Nat → Value} {vs : List Value} {l : List T} {i : Nat} {y : T} (h : RVL w S E vs l) (hi : i < vs.length) (hy : RV w S E (vs[i]) y) : RVL w S E vs (l.set i y) := by
  refine ⟨by simp [h.1], fun j h1 h2 => ?_⟩
  rw [List.getElem_set]
  split
  · rename_i e; subst e; exact hy
  · exact h.2 j h1 (by simpa using h2)

theorem setNil_ok {w : World} {S : Nat → Prop} {E : Nat → Value} {id : Nat} (hE : E id = .slice none 0 0) : ∀ {p : List Nat} {t u : T} {v : Value}, RV w S E v t → setNil id p t = some u → RV w S E v u
  | [], t, u, v, hv, hs => by
    unfold setNil at hs
    split at hs <;> try (cases hs; done)
    · simp only [Option.some.injEq] at hs; subst hs
      have := hv.tv
      subst this
      exact .own id _ hE
    · rename_i heq; cases heq
    · rename_i heq; cases heq
  | i :: p, t, u, v, hv, hs => by
    unfold setNil at hs
    split at hs
    · rename_i heq; cases heq
    · rename_i i' p' l heq
      cases heq
      split at hs <;> try (cases hs; done)
      rename_i x hx
      split at hs <;> try (cases hs; done)
      rename_i y hy
      simp only [Option.some.injEq] at hs; subst hs
      obtain ⟨hi, rfl⟩ := List.getElem?_eq_some_iff.1 hx
      cases hv with
      | agg vs _ hl hr =>
        have := RVL.set (w := w) (S := S) (E := E) (vs := vs) (l := l) ⟨hl, hr⟩ (by omega) (setNil_ok hE (hr i (by omega) hi) hy)
        exact .agg vs _ this.1 this.2
    · rename_i i' p' l heq
      cases heq
      split at hs <;> try (cases hs; done)
      rename_i x hx
      split at hs <;> try (cases hs; done)
      rename_i y hy
      simp only [Option.some.injEq] at hs; subst hs
      obtain ⟨hi, rfl⟩ := List.getElem?_eq_some_iff.1 hx
      cases hv with
      | tup vs _ hl hr =>
        have := RVL.set (w := w) (S := S) (E := E) (vs := vs) (l := l) ⟨hl, hr⟩ (by omega) (setNil_ok hE (hr i (by omega) hi) hy)
        exact .tup vs _ this.1 this.2
    · cases hs

theorem Ok.nilP {w0 : World} {L : Lim} {nt : Nat} {tm : List (Nat × T)} {hp : List (Nat × Blk)} {S : Nat → Prop} {E : Nat → Value} {a : Act} {w : World} (h : Ok w0 L nt ⟨tm, hp⟩ S E a w) {id e sz : Nat} (hbig : Nat.blt id big = true) (hft : freshT id tm = true) (hfb : freshB id hp = true) :
    ∃ E', E' id = .slice none 0 0 ∧ Ok w0 L nt ⟨tm, (id, .rows e sz 0 []) :: hp⟩ S E' a w :=
  h.regrow (v := .slice none 0 0) (v' := .slice none 0 0) (b := .rows e sz 0 []) hbig hft hfb (fun β hβ => by simp [blkOf] at hβ) (fun i blk β _ h1 => by simp [blkOf] at h1)
    (Keep.refl _ w) (fun β hβ => by simp [blkOf] at hβ) (fun E' => ⟨rfl, .inl ⟨rfl, rfl⟩⟩)

section
variable {ρ τ : Type} {X : Cx} {ks : List K} {tm tm' : List (Nat × T)} {hp hp' : List (Nat × Blk)} {m : Option ρ} {Q : ρ → Exit → St → Prop}

theorem TieX.nilP {e' : Exit} (k id e sz : Nat) (path : List Nat) {t u : T} (hk : look tm k = some t) (hu : setNil id path t = some u) (hbig : Nat.blt id big = true) (hft : freshT id tm = true) (hfb : freshB id hp = true)
    (h : TieX X ks e' ⟨(k, u) :: tm, (id, .rows e sz 0 []) :: hp⟩ m Q) : TieX X ks e' ⟨tm, hp⟩ m Q := fun r hr a w ⟨S, E, hw⟩ => by
  obtain ⟨E', hE, hok⟩ := hw.nilP (e := e) (sz := sz) hbig hft hfb
  refine h r hr a w ⟨S, E', { hok with tm := fun j t' ht => ?_ }⟩
  simp only [look] at ht
  by_cases hj : k = j
  · subst hj
    simp only [Nat.beq_refl, cond_true, Option.some.injEq] at ht
    subst ht
    exact setNil_ok hE (hok.tm k t hk) hu
  · simp only [beq_ne hj, cond_false] at ht
    exact hok.tm j t' ht

/-- The same within a box. -/
theorem TieX.nilB {e' : Exit} (b id e sz : Nat) (path : List Nat) {ts us : List T} (hk : look hp b = some (.box ts)) (hu : setNil id path (.agg ts) = some (.agg us)) (hbig : Nat.blt id big = true) (hft : freshT id tm = true) (hfb : freshB id hp = true)
    (h : TieX X ks e' ⟨tm, (id, .rows e sz 0 []) :: hput hp b (.box us)⟩ m Q) : TieX X ks e' ⟨tm, hp⟩ m Q := fun r hr a w ⟨S, E, hw⟩ => by
  obtain ⟨E', hE, hok⟩ := hw.nilP (e := e) (sz := sz) hbig hft hfb
  have hne : id ≠ b := fun e => (freshB_look hfb b _ hk).1 e.symm
  have lk : ∀ i blk, look ((id, Blk.rows e sz 0 []) :: hput hp b (.box us)) i = some blk → ∃ blk0, look ((id, Blk.rows e sz 0 []) :: hp) i = some blk0 ∧ (blk = blk0 ∨ (i = b ∧ blk = .box us)) := by
    intro i blk hl
    simp only [look] at hl ⊢
    by_cases hi : id = i
    · subst hi; simp only [Nat.beq_refl, cond_true] at hl ⊢; exact ⟨blk, hl, .inl rfl⟩
    · simp only [beq_ne hi, cond_false] at hl ⊢
      rw [look_hput] at hl
      by_cases hb : b = i
      · subst hb; simp only [if_true, hk, Option.map_some, Option.some.injEq] at hl; exact ⟨_, hk, .inr ⟨rfl, hl.symm⟩⟩
      · simp only [hb, if_false] at hl; exact ⟨blk, hl, .inl rfl⟩
  refine h r hr a w ⟨S, E', { hok with
    hp := fun i blk hl => ?_
    own := fun i blk β hl hβ => by obtain ⟨blk0, h0, _⟩ := lk i blk hl; exact hok.own i blk0 β h0 hβ
    dist := fun i i' blk blk' β hl hl' hβ hβ' => by
      obtain ⟨blk0, h0, _⟩ := lk i blk hl
      obtain ⟨blk0', h0', _⟩ := lk i' blk' hl'
      exact hok.dist i i' blk0 blk0' β h0 h0' hβ hβ' }⟩
  obtain ⟨blk0, h0, h1⟩ := lk i blk hl
  have hb0 := hok.hp i blk0 h0
  rcases h1 with rfl | ⟨rfl, rfl⟩
  · exact hb0
  · have : blk0 = .box ts := by
      simp only [look, beq_ne hne, cond_false] at h0
      rw [hk] at h0; exact (Option.some.inj h0).symm
    subst this
    obtain ⟨β, vs, elem, g1, g2, g3, g4, g5⟩ := hb0
    have := setNil_ok (w := w) (S := S) (p := path) hE (.agg vs ts g3 g4) hu
    generalize hvs : Value.agg vs.toArray = v at this
    cases this with
    | agg vs' _ k1 k2 =>
      simp only [Value.agg.injEq] at hvs
      have : vs = vs' := by simpa using congrArg Array.toList hvs
      subst this
      exact ⟨β, vs, elem, g1, g2, k1, k2, g5⟩
end

mutual
/-- Pointers into the box id, where they stand, point to cells that stay. -/
def elT (id : Nat) (c : List Tree) : T → T
  | .ptr i off => bif Nat.beq i id then .el (c.drop off) else .ptr i off
  | .agg l => .agg (elL id c l)
  | .tup l => .tup (elL id c l)
  | .clo f l => .clo f (elL id c l)
  | x => x
def elL (id : Nat) (c : List Tree) : List T → List T
  | [] => []
  | x :: r => elT id c x :: elL id c r
end

def elTm (id : Nat) (c : List Tree) : List (Nat × T) → List (Nat × T)
  | [] => []
  | (k, x) :: r => (k, elT id c x) :: elTm id c r
def elHp (id : Nat) (c : List Tree) : List (Nat × Blk) → List (Nat × Blk)
  | [] => []
  | (k, .box l) :: r => bif Nat.beq k id then elHp id c r else (k, .box (elL id c l)) :: elHp id c r
  | (k, x) :: r => bif Nat.beq k id then elHp id c r else (k, x) :: elHp id c r

section
variable {w : World} {S S' : Nat → Prop} {E : Nat → Value} {id : Nat} {c : List Tree}

mutual
theorem elT_ok (hS : ∀ b, S b → S' b) (hu : ∀ β off, E id = .pointer (some ⟨β, 0, none⟩) → PF w S' (.pointer (some ⟨β, off, none⟩)) (c.drop off)) : ∀ {t : T} {v : Value}, RV w S E v t → RV w S' E v (elT id c t)
  | .t x, v, h => by simp only [elT]; exact h.mono hS (fun _ _ => rfl) (fun _ _ => rfl)
  | .el c, v, h => by simp only [elT]; exact h.mono hS (fun _ _ => rfl) (fun _ _ => rfl)
  | .own i, v, h => by simp only [elT]; exact h.mono hS (fun _ _ => rfl) (fun _ _ => rfl)
  | .pe i a b c, v, h => by simp only [elT]; exact h.mono hS (fun _ _ => rfl) (fun _ _ => rfl)
  | .fz n c, v, h => by simp only [elT]; exact h.mono hS (fun _ _ => rfl) (fun _ _ => rfl)
  | .any, v, h => by simp only [elT]; exact .any v
  | .ptr i off, v, h => by
    simp only [elT]
    by_cases hi : i = id
    · subst hi
      simp only [Nat.beq_refl, cond_true]
      cases h with | ptr _ _ β hE => exact (hu β off hE).rv
    · simp only [beq_ne hi, cond_false]; exact h.mono hS (fun _ _ => rfl) (fun _ _ => rfl)
  | .agg l, v, h => by
    simp only [elT]
    cases h with | agg vs _ hl hr => have := elL_ok hS hu (l := l) (vs := vs) ⟨hl, hr⟩; exact .agg vs _ this.1 this.2
  | .tup l, v, h => by
    simp only [elT]
    cases h with | tup vs _ hl hr => have := elL_ok hS hu (l := l) (vs := vs) ⟨hl, hr⟩; exact .tup vs _ this.1 this.2
  | .clo f l, v, h => by
    simp only [elT]
    cases h with | clo _ vs _ hl hr => have := elL_ok hS hu (l := l) (vs := vs) ⟨hl, hr⟩; exact .clo f vs _ this.1 this.2
theorem elL_ok (hS : ∀ b, S b → S' b) (hu : ∀ β off, E id = .pointer (some ⟨β, 0, none⟩) → PF w S' (.pointer (some ⟨β, off, none⟩)) (c.drop off)) : ∀ {l : List T} {vs : List Value}, RVL w S E vs l → RVL w S' E vs (elL id c l)
  | [], vs, h => ⟨h.1, fun j _ h2 => by simp [elL] at h2⟩
  | x :: l, vs, h => by
    cases vs with
    | nil => have := h.1; simp at this
    | cons v vs =>
      have h1 := elT_ok hS hu (t := x) (h.2 0 (by simp) (by simp))
      have h2 := elL_ok hS hu (l := l) (vs := vs) ⟨by simpa using h.1, fun j a b => h.2 (j + 1) (by simpa using a) (by simpa using b)⟩
      refine ⟨by simp [elL, h2.1], fun j a b => ?_⟩
      cases j with
      | zero => exact h1
      | succ j => exact h2.2 j (by simpa using a) (by simpa [elL] using b)
end
end

theorem elTm_look (id : Nat) (c : List Tree) : ∀ (l : List (Nat × T)) (k : Nat), look (elTm id c l) k = (look l k).map (elT id c)
  | [], k => rfl
  | (j, x) :: r, k => by
    simp only [elTm, look]
    by_cases hj : j = k
    · subst hj; simp
    · simp [beq_ne hj, elTm_look id c r k]

theorem elHp_look (id : Nat) (c : List Tree) : ∀ (l : List (Nat × Blk)) (k : Nat) (b : Blk), look (elHp id c l) k = some b → k ≠ id ∧ ∃ b0, look l k = some b0 ∧ (match b0 with | .box ts => b = .box (elL id c ts) | x => b = x)
  | [], k, b, h => by simp [elHp, look] at h
  | (j, .box ts) :: r, k, b, h => by
    simp only [elHp] at h
    by_cases hj : j = id
    · subst hj
      simp only [Nat.beq_refl, cond_true] at h
      obtain ⟨h1, b0, h2, h3⟩ := elHp_look j c r k b h
      exact ⟨h1, b0, by simp only [look, beq_ne (Ne.symm h1), cond_false]; exact h2, h3⟩
    · simp only [beq_ne hj, cond_false, look] at h
      by_cases hk : j = k
      · subst hk
        simp only [Nat.beq_refl, cond_true, Option.some.injEq] at h
        exact ⟨hj, .box ts, by simp [look], h.symm⟩
      · simp only [beq_ne hk, cond_false] at h
        obtain ⟨h1, b0, h2, h3⟩ := elHp_look id c r k b h
        exact ⟨h1, b0, by simp only [look, beq_ne hk, cond_false]; exact h2, h3⟩
  | (j, .rows e sz n rs) :: r, k, b, h => by
    simp only [elHp] at h
    by_cases hj : j = id
    · subst hj
      simp only [Nat.beq_refl, cond_true] at h
      obtain ⟨h1, b0, h2, h3⟩ := elHp_look j c r k b h
      exact ⟨h1, b0, by simp only [look, beq_ne (Ne.symm h1), cond_false]; exact h2, h3⟩
    · simp only [beq_ne hj, cond_false, look] at h
      by_cases hk : j = k
      · subst hk
        simp only [Nat.beq_refl, cond_true, Option.some.injEq] at h
        subst h
        exact ⟨hj, .rows e sz n rs, by simp [look], rfl⟩
      · simp only [beq_ne hk, cond_false] at h
        obtain ⟨h1, b0, h2, h3⟩ := elHp_look id c r k b h
        exact ⟨h1, b0, by simp only [look, beq_ne hk, cond_false]; exact h2, h3⟩

theorem Ok.frzBox {w0 : World} {L : Lim} {nt : Nat} {tm : List (Nat × T)} {hp : List (Nat × Blk)} {S : Nat → Prop} {E : Nat → Value} {a : Act} {w : World} (hk : Ok w0 L nt ⟨tm, hp⟩ S E a w) (id : Nat) {ts : List T} {c : List Tree} (hb : look hp id = some (.box ts)) (hc : trees ts = some c) :
    ∃ S', Ok w0 L nt ⟨elTm id c tm, elHp id c hp⟩ S' E a w := by
  let S' : Nat → Prop := fun b => S b ∨ blkOf (E id) = some b
  have hS : ∀ b, S b → S' b := fun _ x => .inl x
  obtain ⟨β, vs, elem, hE, hh, hl, hr, h1⟩ := hk.hp id _ hb
  have hβ : blkOf (E id) = some β := by rw [hE]; rfl
  have htr := trees_ok hc
  have hlen : ts.length = c.length := by have := congrArg List.length htr; simpa using this
  have hu : ∀ β' off, E id = .pointer (some ⟨β', 0, none⟩) → PF w S' (.pointer (some ⟨β', off, none⟩)) (c.drop off) := by
    intro β' off hE'
    rw [hE] at hE'
    cases hE'
    refine ⟨β, off, fun j => vs.getD (off + j) undef, rfl, .inr hβ, fun j hj => ?_, fun j hj => ?_⟩
    · simp only [List.length_drop] at hj
      rw [cell_of_row w β _ _ elem _ hh]
      have : off + j < vs.length := by omega
      simp [this]
    · simp only [List.length_drop] at hj
      have h3 : off + j < vs.length := by omega
      have h4 := nilT_ok (hr (off + j) h3 (by omega))
      have h5 : nilT (ts[off + j]'(by omega)) = T.t (c[off + j]'(by omega)) := by
        have h6 : (ts.map nilT)[off + j]? = (c.map T.t)[off + j]? := by rw [htr]
        rw [List.getElem?_map, List.getElem?_map, List.getElem?_eq_getElem (by omega), List.getElem?_eq_getElem (by omega)] at h6
        simpa using h6
      rw [h5] at h4
      simp only [List.getD_eq_getElem?_getD, List.getElem?_eq_getElem h3, Option.getD_some, List.getElem_drop]
      exact h4.rtree.mono hS (fun _ _ => rfl)
  refine ⟨S', { keep := hk.keep, size := hk.size, defers := hk.defers, pin := hk.pin, stab := fun b hb' => ?_, base := fun b hb' => ?_, tm := fun k t ht => ?_, hp := fun i b hi => ?_, own := fun i b β' hi hβ' => ?_, dist := fun i i' b b' β' q1 q2 hβ1 hβ2 => ?_ }⟩
  · rcases hb' with h2 | h2
    · exact hk.stab b h2
    · exact (hk.own id _ b hb h2).2.1
  · rcases hb' with h2 | h2
    · exact hk.base b h2
    · rcases (hk.own id _ b hb h2).2.2 with h3 | h3
      · exact .inr (.inr h3)
      · exact .inr (.inl h3)
  · simp only at ht
    rw [elTm_look] at ht
    cases hl' : look tm k with
    | none => simp [hl'] at ht
    | some t0 => simp only [hl', Option.map_some, Option.some.injEq] at ht; subst ht; exact elT_ok hS hu (hk.tm k t0 hl')
  · obtain ⟨hne, b0, hb0, hm⟩ := elHp_look _ _ _ _ _ hi
    have hk0 := hk.hp i b0 hb0
    cases b0 with
    | box ts' =>
      simp only at hm
      subst hm
      obtain ⟨β', vs', elem', g1, g2, g3, g4, g5⟩ := hk0
      have := elL_ok hS hu (l := ts') (vs := vs') ⟨g3, g4⟩
      exact ⟨β', vs', elem', g1, g2, this.1, this.2, g5⟩
    | rows e' sz' n' rs' =>
      simp only at hm
      subst hm
      exact hk0.mono hS (fun _ _ => rfl) (fun _ _ => rfl) (fun _ _ => rfl)
  · obtain ⟨hne, b0, hb0, _⟩ := elHp_look _ _ _ _ _ hi
    have := hk.own i b0 β' hb0 hβ'
    exact ⟨fun hx => hx.elim this.1 (fun hx => hne (hk.dist i id b0 _ β' hb0 hb hβ' hx)), this.2⟩
  · obtain ⟨_, d, hd, _⟩ := elHp_look _ _ _ _ _ q1
    obtain ⟨_, d', hd', _⟩ := elHp_look _ _ _ _ _ q2
    exact hk.dist i i' d d' β' hd hd' hβ1 hβ2

section
variable {ρ τ : Type} {X : Cx} {ks : List K} {tm tm' : List (Nat × T)} {hp hp' : List (Nat × Blk)} {m : Option ρ} {Q : ρ → Exit → St → Prop}
theorem TieO.frzBox {all : Array Oper} {ops : List Oper} (id : Nat) {ts : List T} {c : List Tree} (hb : look hp id = some (.box ts)) (hc : trees ts = some c) (h : TieO X all ops ks ⟨elTm id c tm, elHp id c hp⟩ m Q) : TieO X all ops ks ⟨tm, hp⟩ m Q :=
  fun r hr a w ⟨S, E, hw⟩ => by
    obtain ⟨S', hk⟩ := hw.frzBox id hb hc
    exact h r hr a w ⟨S', E, hk⟩
theorem TieX.frzBox {e' : Exit} (id : Nat) {ts : List T} {c : List Tree} (hb : look hp id = some (.box ts)) (hc : trees ts = some c) (h : TieX X ks e' ⟨elTm id c tm, elHp id c hp⟩ m Q) : TieX X ks e' ⟨tm, hp⟩ m Q :=
  fun r hr a w ⟨S, E, hw⟩ => by
    obtain ⟨S', hk⟩ := hw.frzBox id hb hc
    exact h r hr a w ⟨S', E, hk⟩
/-- A name for a value, in the midst of operations. -/
theorem TieO.name {all : Array Oper} {ops : List Oper} {σ : St} {v : τ} {k : τ → Option ρ} (σ₁ : τ → St) (hs : Sub (σ₁ v) σ) (h : ∀ t, t = v → TieO X all ops ks (σ₁ t) (k t) Q) : TieO X all ops ks σ ((some v).bind k) Q := TieO.sub hs (h v rfl)
end
end Go.Pv
