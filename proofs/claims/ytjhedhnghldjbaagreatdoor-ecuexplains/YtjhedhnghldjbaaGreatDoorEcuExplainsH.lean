/- This file joins: Part Xp: maps of the call's own. The walk reckoned, part I: where a walk stands; models that know the code that they follow; what is to be held equal for that. The walk reckoned, part J: each word does what the machine does. The walk reckoned, part K: a model that holds equal what it must is what the code computes. The walk reckoned, part L: functions from their bodies. The walk reckoned, part M: library functions, reckoned where the lists are short. Types, printed by gen3.py. -/
import Derived.Test.YtjhedhnghldjbaaGreatDoorEcuExplainsG
import Derived.MapKept
import Derived.Carry
set_option linter.unusedSimpArgs false
set_option linter.unusedVariables false
namespace Go.Pv
open Go.RowKit Go.MapKept
/-- What a map gives for a key; z: what it gives for one that it does not hold. -/
def mget {κ ν : Type} [BEq κ] (z : ν) : List (κ × ν) → κ → ν
  | [], _ => z
  | (a, v) :: r, k => bif k == a then v else mget z r k
/-- The map with a key set. -/
def mset {κ ν : Type} [BEq κ] : List (κ × ν) → κ → ν → List (κ × ν)
  | [], k, v => [(k, v)]
  | (a, x) :: r, k, v => bif k == a then (k, v) :: r else (a, x) :: mset r k v
/-- Keys of a type d, as they stand in the machine. -/
structure KeyLaw {κ : Type} [BEq κ] (d : TypeDesc) (f : κ → Value) : Prop where
  now : ∀ a b, Instr.sameNow d (f a) (f b) = some (a == b)
  key : ∀ a, IsKey d (f a)
  bits : ∀ a b, (a == b) = true → Instr.sameBits 10000 (f b) (f a) = true
theorem intKey (ik : IntKind) : KeyLaw (.int ik) (fun n : Int => .int ik n) := ⟨fun a b => by simp [Instr.sameNow], fun a => by simp [IsKey], fun a b h => by
  have h : a = b := by simpa using h
  subst h; simp [Instr.sameBits]⟩
section
variable {κ ν : Type} [BEq κ] {d : TypeDesc} {f : κ → Value} {g : ν → Value}
def mfind : List (κ × ν) → κ → Option (Nat × ν)
  | [], _ => none
  | (a, v) :: r, k => bif k == a then some (0, v) else (mfind r k).map fun p => (p.1 + 1, p.2)
theorem mget_find (z : ν) (k : κ) : ∀ m : List (κ × ν), mget z m k = match mfind m k with | some p => p.2 | none => z
  | [] => rfl
  | (a, v) :: r => by
    simp only [mget, mfind]
    cases k == a
    · simp only [cond_false]; rw [mget_find z k r]; cases mfind r k <;> rfl
    · rfl
theorem mset_find (k : κ) (v : ν) : ∀ m : List (κ × ν), mset m k v = match mfind m k with | some p => m.set p.1 (k, v) | none => m ++ [(k, v)]
  | [] => rfl
  | (a, x) :: r => by
    simp only [mset, mfind]
    cases k == a
    · simp only [cond_false]; rw [mset_find k v r]; cases mfind r k <;> rfl
    · rfl
theorem mfind_key {k : κ} : ∀ {m : List (κ × ν)} {p : Nat × ν}, mfind m k = some p → ∃ a, m[p.1]? = some (a, p.2) ∧ (k == a) = true
  | [], p, h => by simp [mfind] at h
  | (a, v) :: r, p, h => by
    simp only [mfind] at h
    cases hk : k == a
    · rw [hk] at h
      simp only [cond_false, Option.map_eq_some_iff] at h
      obtain ⟨q, hq, rfl⟩ := h
      obtain ⟨b, h1, h2⟩ := mfind_key hq
      exact ⟨b, by simpa using h1, h2⟩
    · rw [hk] at h
      simp only [cond_true, Option.some.injEq] at h
      subst h
      exact ⟨a, rfl, hk⟩
abbrev ent (f : κ → Value) (g : ν → Value) (p : κ × ν) : Value × Value := (f p.1, g p.2)
theorem findNow_mp (K : KeyLaw d f) (k : κ) : ∀ (m : List (κ × ν)) (l : List MapEntry) (i : Nat), l.map (fun e => (e.key, e.val)) = m.map (ent f g) →
    Instr.findNow d (f k) l i = some ((mfind m k).map fun p => (i + p.1, g p.2))
  | [], l, i, h => by
    have : l = [] := by simpa using h
    subst this; rfl
  | (a, v) :: m, [], i, h => by simp at h
  | (a, v) :: m, e :: l, i, h => by
    simp only [List.map_cons, List.cons.injEq, Prod.mk.injEq] at h
    obtain ⟨⟨h1, h2⟩, h3⟩ := h
    simp only [Instr.findNow, h1, K.now, mfind]
    cases hk : k == a
    · simp only [cond_false]
      rw [findNow_mp K k m l (i + 1) h3]
      cases mfind m k <;> simp [Nat.add_assoc, Nat.add_comm 1]
    · simp [h2]
end
section
variable {κ ν : Type} [BEq κ] {d : TypeDesc} {f : κ → Value} {g : ν → Value} {P : Program} {w : World} {t kt et b clock : Nat} {es : Array MapEntry} {m : List (κ × ν)}
theorem lookup_run (K : KeyLaw d f) (ht : P.underlying t = some (.map kt et)) (hk : P.underlying kt = some d) {z : ν} {ti : TypeInfo} (hz : P.info? et = some ti) (hz2 : ti.zero = some (g z))
    (hb : w.heap[b]? = some (.map es clock)) (he : es.toList.map (fun e => (e.key, e.val)) = m.map (ent f g)) (k : κ) :
    (Instr.lookup t (.map (some b)) (f k) false).run P w = .ok (g (mget z m k)) w := by
  have h1 := findNow_mp K k m es.toList 0 he
  simp only [Instr.lookup, Sem.run_bind, run_underlying ht, Result.andThen_ok, MapKept.run_getObj_map hb, Sem.run_pure, run_checkKey hk (K.key k), run_findKey hk h1]
  rw [mget_find]
  cases mfind m k with
  | none =>
    have hzr : (zeroValue et).run P w = .ok (g z) w := by simp [zeroValue, typeInfo, hz, hz2]
    simp [hzr, Sem.run_bind, Result.andThen]
  | some p => simp [Result.andThen]
theorem update_run (K : KeyLaw d f) (ht : P.underlying t = some (.map kt et)) (hk : P.underlying kt = some d)
    (hb : w.heap[b]? = some (.map es clock)) (he : es.toList.map (fun e => (e.key, e.val)) = m.map (ent f g)) (k : κ) (v : ν) :
    ∃ es' clock', (Instr.mapUpdate t (.map (some b)) (f k) (g v)).run P w = .ok () { w with heap := w.heap.setIfInBounds b (.map es' clock') } ∧ es'.toList.map (fun e => (e.key, e.val)) = (mset m k v).map (ent f g) := by
  have h1 := findNow_mp K k m es.toList 0 he
  rw [mset_find]
  cases hf : mfind m k with
  | none =>
    rw [hf] at h1
    refine ⟨es.push { key := f k, val := g v, born := clock }, clock + 1, ?_, ?_⟩
    · simp only [Instr.mapUpdate, Sem.run_bind, run_underlying ht, Result.andThen_ok, MapKept.run_getObj_map hb, run_checkKey hk (K.key k), run_findKey hk h1]
      simp [run_setObj_map _ hb]
    · simp [he]
  | some p =>
    rw [hf] at h1
    obtain ⟨a, h2, h3⟩ := mfind_key hf
    have h4 : (es.toList.map (fun e => (e.key, e.val)))[p.1]? = some (f a, g p.2) := by rw [he, List.getElem?_map, h2]; rfl
    rw [List.getElem?_map, Option.map_eq_some_iff] at h4
    obtain ⟨e, h5, h6⟩ := h4
    simp only [Prod.mk.injEq] at h6
    have h5' : es[p.1]? = some e := by simpa using h5
    have hbits : Instr.sameBits 10000 e.key (f k) = true := by rw [h6.1]; exact K.bits k a h3
    refine ⟨es.modify p.1 fun e => { e with key := f k, val := g v }, clock, ?_, ?_⟩
    · simp only [Instr.mapUpdate, Sem.run_bind, run_underlying ht, Result.andThen_ok, MapKept.run_getObj_map hb, run_checkKey hk (K.key k), run_findKey hk h1]
      simp only [Option.map_some, Nat.zero_add, h5', Option.getD_some, Instr.keyThatStays, hbits, if_true, Sem.run_pure, Sem.run_bind, Result.andThen_ok]
      simp [run_setObj_map _ hb]
    · simp only
      apply List.ext_getElem?
      intro j
      have h7 := congrArg (fun l => l[j]?) he
      simp only [List.getElem?_map] at h7
      simp only [List.getElem?_map, List.getElem?_set, Array.getElem?_toList, Array.getElem?_modify] at h7 ⊢
      by_cases hj : p.1 = j
      · subst hj
        have hlt : p.1 < m.length := (List.getElem?_eq_some_iff.1 h2).1
        simp [h5', hlt]
      · simp only [hj, if_false]
        exact h7
end
section
variable {w0 : World} {L : Lim} {nt : Nat} {σ : St} {S : Nat → Prop} {E : Nat → Value} {a : Act} {w : World}
/-- A map of the call's own is written. -/
theorem Ok.setMp (h : Ok w0 L nt σ S E a w) {id β c c' : Nat} {es es' : List (Value × Value)} {l l' : Array MapEntry} (hb : look σ.hp id = some (.mp es)) (hE : E id = .map (some β))
    (hh : w.heap[β]? = some (.map l c)) (hl : l'.toList.map (fun e => (e.key, e.val)) = es') :
    Ok w0 L nt ⟨σ.tm, hput σ.hp id (.mp es')⟩ S E a { w with heap := w.heap.setIfInBounds β (.map l' c') } := by
  have hβ : blkOf (E id) = some β := by rw [hE]; rfl
  have hown := h.own id _ β hb hβ
  have hset := heap_set (o' := .map l' c') hh
  have hne : ∀ k, k ≠ β → ({ w with heap := w.heap.setIfInBounds β (.map l' c') } : World).heap[k]? = w.heap[k]? := fun k hk => hset.2 k hk
  have hS : ∀ b, S b → ({ w with heap := w.heap.setIfInBounds β (.map l' c') } : World).heap[b]? = w.heap[b]? := fun k hk => hne k fun e => hown.1 (e ▸ hk)
  refine { keep := ?_, stab := fun b hb => by simpa using h.stab b hb, base := h.base, size := h.size, defers := h.defers, tm := fun k t ht => (h.tm k t ht).mono (fun _ x => x) hS (fun _ _ => rfl), hp := ?_, own := ?_, dist := ?_, pin := h.pin }
  · exact h.keep.trans (L' := fun k => k = β) ⟨rfl, rfl, rfl, by simp, fun k _ hk => hne k hk, fun _ => Nat.le_refl _⟩ fun x hx => by subst hx; exact hown.2.2.symm
  · intro id' blk hl'
    rw [look_hput] at hl'
    by_cases hid : id = id'
    · subst hid
      simp only [if_true, hb, Option.map_some, Option.some.injEq] at hl'
      subst hl'
      exact ⟨β, c', l', hE, hset.1, hl⟩
    · simp only [hid, if_false] at hl'
      refine (h.hp id' blk hl').mono (fun _ x => x) hS (fun β' hβ' => hne β' fun e => ?_) (fun _ _ => rfl)
      subst e
      exact hid (h.dist id id' _ blk _ hb hl' hβ hβ')
  · intro id' blk β' hl' hβ'
    rw [look_hput] at hl'
    have : ∃ b0, look σ.hp id' = some b0 := by
      by_cases hid : id = id'
      · subst hid; exact ⟨_, hb⟩
      · simp only [hid, if_false] at hl'; exact ⟨_, hl'⟩
    obtain ⟨b0, hb0⟩ := this
    simpa using h.own id' b0 β' hb0 hβ'
  · intro i i' x x' β' hl1 hl' hβ1 hβ2
    rw [look_hput] at hl1 hl'
    have some1 : ∀ j y, (if id = j then (look σ.hp j).map (fun _ => (.mp es' : Blk)) else look σ.hp j) = some y → ∃ b0, look σ.hp j = some b0 := by
      intro j y hj
      by_cases hid : id = j
      · subst hid; exact ⟨_, hb⟩
      · simp only [hid, if_false] at hj; exact ⟨_, hj⟩
    obtain ⟨b0, hb0⟩ := some1 i x hl1
    obtain ⟨b1, hb1⟩ := some1 i' x' hl'
    exact h.dist i i' b0 b1 β' hb0 hb1 hβ1 hβ2
end
section
variable {ρ κ ν : Type} [BEq κ] {X : Cx} {ks : List K} {tm : List (Nat × T)} {hp : List (Nat × Blk)} {m : Option ρ} {Q : ρ → Exit → St → Prop} {all : Array Oper} {o : Oper} {rest : List Oper}
theorem TieO.makeMp {t d : Nat} (id : Nat) (ho : o.op = .makeMap t none) (hd : o.dst = some d) (hdn : Nat.blt d X.nt = true) (hg : guardT all.toList tm o.guard = some true)
    (hbig : Nat.blt id big = true) (hft : freshT id tm = true) (hfb : freshB id hp = true) (h : TieO X all rest ks ⟨(d, .own id) :: tm, (id, .mp []) :: hp⟩ m Q) : TieO X all (o :: rest) ks ⟨tm, hp⟩ m Q := fun y hy a w ⟨S, E, hk⟩ => by
  obtain ⟨E', hE, hne, hok⟩ := hk.alloc (o := .map #[] 0) (x := .map (some w.heap.size)) (b := .mp []) hbig hft hfb rfl (fun E' _ => ⟨w.heap.size, 0, #[], rfl, (MapKept.heap_alloc w _).1, rfl⟩)
  refine wpList_step fun K hK => ?_
  rw [guardT_ok hk hg, if_pos rfl]
  unfold Oper.wp
  have hexec : (execOp a.eval o).run X.P w = .ok (.value (.map (some w.heap.size))) (w.alloc (.map #[] 0)) := by
    unfold execOp
    simp only [ho, Option.map_none, Sem.run_bind, run_makeMap, Result.andThen_ok, Sem.run_pure]
  rw [hexec]
  refine hK _ _ (h y hy _ _ ⟨S, E', ?_⟩)
  rw [hd]
  exact hok.put (Nat.le_of_ble_eq_true hdn) (.own id _ hE)
theorem TieO.lookupMp {t kt et d id : Nat} {x y : Operand} {dk : TypeDesc} {f : κ → Value} {g : ν → Value} {z : ν} {l : List (κ × ν)} {k : κ} (K : KeyLaw dk f) (ho : o.op = .lookup t x y false) (hd : o.dst = some d) (hdn : Nat.blt d X.nt = true) (hg : guardT all.toList tm o.guard = some true)
    (hx : val tm x = some (.own id)) (hb : look hp id = some (.mp (l.map (ent f g)))) (hy : val tm y = some (.t (.v (f k)))) (ht : X.P.underlying t = some (.map kt et)) (hkt : X.P.underlying kt = some dk) (hz : ∃ ti, X.P.info? et = some ti ∧ ti.zero = some (g z))
    (h : TieO X all rest ks ⟨(d, .t (.v (g (mget z l k)))) :: tm, hp⟩ m Q) : TieO X all (o :: rest) ks ⟨tm, hp⟩ m Q := by
  have := TieO.one (X := X) (ks := ks) (tm := tm) (hp := hp) (all := all) (o := o) (rest := rest) (Q := Q) (k := fun _ => m) (m₁ := some ()) hd hdn hg (fun _ => .t (.v (g (mget z l k)))) (fun _ S E a w _ hk => by
    obtain ⟨ti, hz1, hz2⟩ := hz
    obtain ⟨β, c, es, hE, hh, hl⟩ := hk.hp id _ hb
    have hxv := hk.val hx
    refine ⟨_, ?_, .t (.v _)⟩
    have hxe : a.eval x = .map (some β) := by
      generalize hq : a.eval x = q at hxv
      cases hxv with | own _ _ h => exact h.symm.trans hE
    simp only [execOp, ho, Sem.run_bind, hxe, (hk.val hy).tv, lookup_run K ht hkt hz1 hz2 hh hl, Result.andThen_ok, Sem.run_pure]) (fun _ _ => h)
  simpa using this
theorem TieO.updateMp {t kt et id : Nat} {x y u : Operand} {dk : TypeDesc} {f : κ → Value} {g : ν → Value} {l : List (κ × ν)} {k : κ} {v : ν} (K : KeyLaw dk f) (ho : o.op = .mapUpdate t x y u) (hd : o.dst = none) (hg : guardT all.toList tm o.guard = some true)
    (hx : val tm x = some (.own id)) (hb : look hp id = some (.mp (l.map (ent f g)))) (hy : val tm y = some (.t (.v (f k)))) (hu : val tm u = some (.t (.v (g v)))) (ht : X.P.underlying t = some (.map kt et)) (hkt : X.P.underlying kt = some dk)
    (h : TieO X all rest ks ⟨tm, hput hp id (.mp ((mset l k v).map (ent f g)))⟩ m Q) : TieO X all (o :: rest) ks ⟨tm, hp⟩ m Q := fun r hr a w ⟨S, E, hk⟩ => by
  obtain ⟨β, c, es, hE, hh, hl⟩ := hk.hp id _ hb
  have hxv := hk.val hx
  have hxe : a.eval x = .map (some β) := by
    generalize hq : a.eval x = q at hxv
    cases hxv with | own _ _ h => exact h.symm.trans hE
  obtain ⟨es', c', h1, h2⟩ := update_run K ht hkt hh hl k v
  refine wpList_step fun K hK => ?_
  rw [guardT_ok hk hg, if_pos rfl]
  unfold Oper.wp
  have hexec : (execOp a.eval o).run X.P w = .ok .skip { w with heap := w.heap.setIfInBounds β (.map es' c') } := by
    unfold execOp
    simp only [ho, Sem.run_bind, hxe, (hk.val hy).tv, (hk.val hu).tv, h1, Result.andThen_ok, Sem.run_pure]
  rw [hexec]
  refine hK _ _ (h r hr _ _ ⟨S, E, ?_⟩)
  rw [hd]
  exact hk.setMp hb hE hh h2
end
end Go.Pv
namespace Go.Pv
open Go.RowKit
/-- Where a walk stands: ahead of code; within a region (kb: the slots whose truth value is decided); within a region that draws its order (its operations' values so far); behind an exit; behind a return. -/
inductive Cg (ρ : Type) where
  | S (ks : List K) (σ : St)
  | O (all : Array Oper) (kb : List Nat) (ops : List Oper) (ks : List K) (σ : St)
  | D (id : Nat) (all : Array Oper) (h : Nat) (bs : List (List Nat)) (ws : List (Nat × Nat)) (ops : List Oper) (vs : List (T × Option (Nat × Blk))) (tm0 : List (Nat × T)) (hp0 : List (Nat × Blk)) (fz kb : List Nat) (ks : List K)
  | X (id : Nat) (σ : St)
  | R (r : ρ)
/-- From where on all comes in order. -/
def tlH : List (List Nat) → Nat → Nat
  | [], j => j
  | b :: r, j => match tlH r (j + 1) with | h => bif Nat.beq h (j + 1) && allBelow j b then j else h
/-- The blocks that the head makes. -/
def newsW (fz : List Nat) : Nat → List Oper → List (Nat × Nat)
  | _, [] => []
  | j, o :: r => match isNew o.op, o.dst with
    | true, some d => bif isIn d fz then newsW fz (j + 1) r else (j, d) :: newsW fz (j + 1) r
    | _, _ => newsW fz (j + 1) r
/-- A quiet operation of a region that draws. -/
def stD (tab : Tab) (all : List Oper) (bs : List (List Nat)) (ws : List (Nat × Nat)) (o : Oper) (vs : List (T × Option (Nat × Blk))) (tm0 : List (Nat × T)) (hp0 : List (Nat × Blk)) (fz kb : List Nat) : Option (T × Option (Nat × Blk)) :=
  match bs[vs.length]? with
  | none => none
  | some b => match minOf all (vs.map (·.1)) tm0 (deps o), minH bs ws vs hp0 vs.length b with
    | tm, hp => match gk all kb tm o.guard with
      | some false => some (.t (.v undef), none)
      | some true => bif isPq o.op then (match evalOpC tab tm hp o with | some (V, _) => some (V, none) | none => none) else
          bif isNew o.op then (match evalOpC tab tm hp o, o.dst with
            | some (V, ⟨_, (_, N) :: _⟩), some d => bif isIn d fz then (match N with | .rows _ _ n rs => some (.t (.sl n rs), none) | _ => none) else some (V, some (d, N))
            | _, _ => none) else
          match o.op with
          | .store t x y => match val tm x, look tab t, (val tm y).bind (cellsT hp) with
            | some (.ptr id off), some ti, some l => match look hp id with
              | some (.box ts) => bif Nat.beq l.length ti.size && Nat.ble (off + l.length) ts.length then some (.t (.v undef), some (id, .box (splice ts off l))) else none
              | _ => none
            | _, _, _ => none
          | _ => none
      | none => none
/-- Each block once. -/
def dedup : List (Nat × Blk) → List (Nat × Blk)
  | [] => []
  | (k, b) :: r => (k, b) :: hdel (dedup r) k
theorem look_dedup : ∀ {l : List (Nat × Blk)} {k : Nat}, look (dedup l) k = look l k
  | [], _ => rfl
  | (j, b) :: r, k => by
    unfold dedup
    by_cases hj : j = k
    · subst hj; simp [look]
    · rw [look_cons hj, look_cons hj, look_hdel_ne (Ne.symm hj)]; exact look_dedup
/-- The next n steps that need no word. eb: are blocks gone into? ed: are regions that draw? -/
def av {ρ : Type} (tab : Tab) (nt : Nat) (eb ed : Bool) : Nat → Cg ρ → Cg ρ
  | 0, c => c
  | n + 1, c => match c with
    | .S (.c x :: ks) σ => match x with
      | .seq x y => av tab nt eb ed n (.S (.c x :: .c y :: ks) σ)
      | .skip => av tab nt eb ed n (.S ks σ)
      | .label _ => av tab nt eb ed n (.S ks σ)
      | .scope x => av tab nt eb ed n (.S (.c x :: ks) σ)
      | .block id x => bif eb then av tab nt eb ed n (.S (.c x :: .e id :: ks) σ) else .S (.c (.block id x) :: ks) σ
      | .region id ops d => match d with
        | false => av tab nt eb ed n (.O ops [] ops.toList ks σ)
        | true => bif ed then av tab nt eb ed n (.D id ops (tlH (befs ops.toList []) 0) (befs ops.toList []) (newsW [] 0 (ops.toList.take (tlH (befs ops.toList []) 0))) ops.toList [] (rmv (dstsO (ops.toList.take (tlH (befs ops.toList []) 0))) σ.tm) σ.hp [] [] ks) else .S (.c (.region id ops true) :: ks) σ
      | .exit id => match popTo id ks with
        | some ks' => av tab nt eb ed n (.S ks' σ)
        | none => .X id σ
      | x => .S (.c x :: ks) σ
    | .S (.e _ :: ks) σ => av tab nt eb ed n (.S ks σ)
    | .O all kb [] ks σ => av tab nt eb ed n (.S ks σ)
    | .O all kb (o :: r) ks ⟨tm, hp⟩ => match stO tab nt all.toList kb o r tm hp with
      | some (r', σ') => av tab nt eb ed n (.O all kb r' ks σ')
      | none => .O all kb (o :: r) ks ⟨tm, hp⟩
    | .D id all h bs ws ops vs tm0 hp0 fz kb ks => bif Nat.beq vs.length h then
        (bif drwB nt all.toList h ws tm0 hp0 vs then av tab nt eb ed n (.O all kb ops ks ⟨fullOf all.toList (vs.map (·.1)) tm0, dedup (fullH vs hp0)⟩) else .D id all h bs ws ops vs tm0 hp0 fz kb ks)
      else match ops with
        | [] => .D id all h bs ws [] vs tm0 hp0 fz kb ks
        | o :: r => match stD tab all.toList bs ws o vs tm0 hp0 fz kb with
          | some x => av tab nt eb ed n (.D id all h bs ws r (vs ++ [x]) tm0 hp0 fz kb ks)
          | none => .D id all h bs ws (o :: r) vs tm0 hp0 fz kb ks
    | c => c
def fuel : Nat := 100000
/-- The operation at hand, what it may count on, and what follows its value. -/
def here {ρ : Type} : Cg ρ → Option (Array Oper × List Nat × Oper × List (Nat × T) × List (Nat × Blk) × List Nat × (T → Option (Nat × Blk) → Cg ρ))
  | .O all kb (q :: r) ks ⟨tm, hp⟩ => some (all, kb, q, tm, hp, [], fun V N => .O all kb r ks ⟨pt q V tm, newB N hp⟩)
  | .D id all h bs ws (q :: r) vs tm0 hp0 fz kb ks => match bs[vs.length]? with
    | some b => some (all, kb, q, minOf all.toList (vs.map (·.1)) tm0 (deps q), minH bs ws vs hp0 vs.length b, fz, fun V N => .D id all h bs ws r (vs ++ [(V, N)]) tm0 hp0 fz kb ks)
    | none => none
  | _ => none
/-- The test that an operation hangs on: its place, its truth value. -/
def tstQ (q : Oper) (vs : List (T × Option (Nat × Blk))) : Option (Nat × Bool) := match q.guard with
  | some (j, _) => match vs[j]? with
    | some (.t (.v (.bool b)), none) => some (j, b)
    | _ => none
  | none => none
def setV (x : T) : Nat → List (T × Option (Nat × Blk)) → List (T × Option (Nat × Blk))
  | _, [] => []
  | 0, (_, N) :: r => (x, N) :: r
  | j + 1, p :: r => p :: setV x j r
def kbD (all : Array Oper) (j : Nat) (kb : List Nat) : List Nat := match all[j]? with
  | some o => (match o.dst with | some d => d :: kb | none => kb)
  | none => kb
def tstO (all : List Oper) (tm : List (Nat × T)) (q : Oper) : Option (Nat × Bool) := match q.guard with
  | some (j, _) => match all[j]? with
    | some o => match o.dst with
      | some d => match look tm d with
        | some (.t (.v (.bool b))) => some (d, b)
        | _ => none
      | none => none
    | none => none
  | none => none
/-- A turn of a state. -/
inductive Ch where
  | t (k : Nat) (x : T)
  | x (k : Nat)
  | c (id j : Nat) (l : List T)
  | b (id : Nat) (b : Blk)
  | d (id : Nat)
def upd : List Ch → St → St
  | [], σ => σ
  | a :: r, σ => match upd r σ with
    | ⟨tm, hp⟩ => match a with
      | .t k x => ⟨(k, x) :: rmv [k] tm, hp⟩
      | .x k => ⟨rmv [k] tm, hp⟩
      | .c id j l => match look hp id with
        | some (.box ts) => ⟨tm, (id, .box (splice ts j l)) :: hdel hp id⟩
        | _ => ⟨tm, hp⟩
      | .b id b => ⟨tm, (id, b) :: hdel hp id⟩
      | .d id => ⟨tm, hdel hp id⟩
/-- How a piece of code ends: on its way, out of a block, out of the function. -/
inductive Sh (ρ : Type) where
  | nx (l : List Ch)
  | ex (id : Nat) (l : List Ch)
  | rt (r : ρ)
inductive Out (ρ : Type) where
  | nx (σ : St)
  | ex (id : Nat) (σ : St)
  | rt (r : ρ)
  | top (r : ρ)
  | no
def Out.den {ρ : Type} (Qf : ρ → St → Prop) : Out ρ → Exit → St → Prop
  | .nx σ, e, σ' => e = .normal ∧ Sub σ σ'
  | .ex id σ, e, σ' => e = .exit id ∧ Sub σ σ'
  | .rt r, e, σ' => e = .ret ∧ Qf r σ'
  | .top r, e, σ' => (e = .ret ∨ e = .normal) ∧ Qf r σ'
  | .no, _, _ => False
/-- Other ways of ending. -/
inductive Kd (ρ : Type) : Type → Type 1 where
  | e : Kd ρ Empty
  | one {γ : Type} (o : γ → Sh ρ) : Kd ρ γ
  | two {γ δ : Type} (o : γ → Sh ρ) (o' : δ → Sh ρ) : Kd ρ (γ ⊕ δ)
  | tri {γ δ ε : Type} (o : γ → Sh ρ) (o' : δ → Sh ρ) (o'' : ε → Sh ρ) : Kd ρ (γ ⊕ (δ ⊕ ε))
def Kd.sh {ρ : Type} : {γ : Type} → Kd ρ γ → γ → Sh ρ
  | _, .e, w => w.elim
  | _, .one o, w => o w
  | _, .two o _, .inl w => o w
  | _, .two _ o, .inr w => o w
  | _, .tri o _ _, .inl w => o w
  | _, .tri _ o _, .inr (.inl w) => o w
  | _, .tri _ _ o, .inr (.inr w) => o w
def Kd.all {ρ : Type} : {γ : Type} → Kd ρ γ → (γ → Sh ρ → Tr) → Tr
  | _, .e, _ => .ok
  | _, .one o, F => .all fun w => F w (o w)
  | _, .two o o', F => .and (.all fun w => F (.inl w) (o w)) (.all fun w => F (.inr w) (o' w))
  | _, .tri o o' o'', F => .and (.all fun w => F (.inl w) (o w)) (.and (.all fun w => F (.inr (.inl w)) (o' w)) (.all fun w => F (.inr (.inr w)) (o'' w)))
theorem Kd.all_ok {ρ : Type} : ∀ {γ : Type} {k : Kd ρ γ} {F : γ → Sh ρ → Tr}, (k.all F).den → ∀ w, (F w (k.sh w)).den
  | _, .e, _, _, w => w.elim
  | _, .one o, _, h, w => h w
  | _, .two o o', _, h, .inl w => h.1 w
  | _, .two o o', _, h, .inr w => h.2 w
  | _, .tri o o' o'', _, h, .inl w => h.1 w
  | _, .tri o o' o'', _, h, .inr (.inl w) => h.2.1 w
  | _, .tri o o' o'', _, h, .inr (.inr w) => h.2.2 w
def noE : List K → Bool
  | [] => true
  | .c _ :: r => noE r
  | .e _ :: _ => false
def notN {ρ : Type} : Out ρ → Out ρ
  | .nx _ => .no
  | .top _ => .no
  | o => o
def outOf {ρ : Type} (σ : St) : Sh ρ → Out ρ
  | .nx l => .nx (upd l σ)
  | .ex id l => .ex id (upd l σ)
  | .rt r => .rt r
def outLp {ρ : Type} (σ : St) : Sh ρ → Out ρ
  | .nx _ => .no
  | .ex id l => .ex id (upd l σ)
  | .rt r => .rt r
def cont {ρ : Type} (ks : List K) (σ : St) : Sh ρ → Cg ρ
  | .nx l => .S ks (upd l σ)
  | .ex id l => match popTo id ks with
    | some ks' => .S ks' (upd l σ)
    | none => .X id (upd l σ)
  | .rt r => .R r
def dstsC : Code → List Nat
  | .region _ ops _ => dstsO ops.toList
  | .seq x y => dstsC x ++ dstsC y
  | .cond _ x y => dstsC x ++ dstsC y
  | .block _ x => dstsC x
  | .loop x => dstsC x
  | .scope x => dstsC x
  | _ => []
/-- Without what names id. -/
def fgT (id : Nat) : List (Nat × T) → List (Nat × T)
  | [] => []
  | (k, x) :: r => bif names id x then fgT id r else (k, x) :: fgT id r
def fgL (id : Nat) : List T → List T
  | [] => []
  | x :: r => (bif names id x then .any else x) :: fgL id r
def fgB (id : Nat) : Blk → Blk
  | .box ts => .box (fgL id ts)
  | b => b
def fgH (id : Nat) : List (Nat × Blk) → List (Nat × Blk)
  | [] => []
  | (k, b) :: r => bif Nat.beq k id then fgH id r else (k, fgB id b) :: fgH id r
/-- Each block once. -/
def uniq : List (Nat × Blk) → Bool
  | [] => true
  | (k, _) :: r => (look r k).isNone && uniq r
/-- Blocks turned about: fr: rows stay as they are; fb: a box; np, nb: a nil slice becomes rows (in a slot, in a box); rn: other names. -/
inductive Z1 where
  | fr (id : Nat)
  | fb (id : Nat)
  | np (k id e sz : Nat) (path : List Nat)
  | nb (b id e sz : Nat) (path : List Nat)
  | rn (h : List (Nat × Nat))
  | dr (id : Nat)
/-- Names of blocks that stay as they are. -/
def idn (h : List (Nat × Nat)) : List (Nat × Blk) → List (Nat × Nat)
  | [] => []
  | (i, _) :: r => match look h i with
    | some _ => idn h r
    | none => (i, i) :: idn h r
/-- What has a new name. -/
def rdT (h : List (Nat × Nat)) : List (Nat × T) → List (Nat × T)
  | [] => []
  | (k, x) :: r => match renT h x with
    | some _ => (k, x) :: rdT h r
    | none => rdT h r
def Z1.ap (tm : List (Nat × T)) (hp : List (Nat × Blk)) : Z1 → Option St
  | .fr id => match look hp id with
    | some (.rows _ _ n rs) => some ⟨subTm id (.t (.sl n rs)) tm, subHp id (.t (.sl n rs)) hp⟩
    | _ => none
  | .fb id => match look hp id with
    | some (.box ts) => match trees ts with
      | some c => some ⟨elTm id c tm, elHp id c hp⟩
      | none => none
    | _ => none
  | .np k id e sz path => match look tm k with
    | some t => match setNil id path t with
      | some u => bif Nat.blt id big && (freshT id tm && freshB id hp) then some ⟨(k, u) :: tm, (id, .rows e sz 0 []) :: hp⟩ else none
      | none => none
    | none => none
  | .nb b id e sz path => match look hp b with
    | some (.box ts) => match setNil id path (.agg ts) with
      | some (.agg us) => bif Nat.blt id big && (freshT id tm && freshB id hp) then some ⟨tm, (id, .rows e sz 0 []) :: hput hp b (.box us)⟩ else none
      | _ => none
    | _ => none
  | .rn h => match h ++ idn h hp with
    | h' => bif uniq hp && renOk h' then (match renTm h' (rdT h' (rmv [] tm)), renHp h' hp with
      | some tm', some hp' => some ⟨tm', hp'⟩
      | _, _ => none) else none
  | .dr id => bif uniq hp then some ⟨fgT id (rmv [] tm), fgH id hp⟩ else none
/-- Operations that turn blocks: what they ask. ap: append to rows of the call's own; an: n zeros behind nil; st: a store into an element; sF, sO: a part of a slice (that stays; of rows of the call's own). -/
inductive U1 : Type → Type 1 where
  | ap {α : Type} (enc : α → List Tree) (l r : List α) (id : Nat) : U1 (List α)
  | an {α : Type} (enc : α → List Tree) (n : Int) (z : α) (id : Nat) : U1 (List α)
  | st {α : Type} (enc : α → List Tree) (l : List α) (i : Int) (y : α) (n : Nat) : U1 (List α)
  | sF {α : Type} (enc : α → List Tree) (l : List α) (a b : Int) : U1 (List α)
  | sO {α : Type} (enc : α → List Tree) (l : List α) (b : Int) (id : Nat) : U1 (List α)
  | cp {α : Type} (enc : α → List Tree) (l r : List α) : U1 (List α)
def U1.m : {τ : Type} → U1 τ → Option τ
  | _, .ap _ l r _ => appendM l r
  | _, .an _ n z _ => zerosM n z
  | _, .st _ l i y _ => setM l i y
  | _, .sF _ l a b => sliceM l a b
  | _, .sO _ l b _ => sliceM l 0 b
  | _, .cp _ l r => some (copyL l r)
def U1.k : {τ : Type} → U1 τ → τ → List GF → List GF
  | _, .st enc _ i y _, l, Γ => ⟨enc, l, i, y⟩ :: Γ
  | _, _, _, Γ => Γ
/-- The source of an append or copy. -/
def srcTr {α : Type} (enc : α → List Tree) (r : List α) (sz : Nat) (hp : List (Nat × Blk)) : Option T → Tr
  | some (.t (.sl _ rs)) => tq rs (r.map enc)
  | some (.own i2) => match look hp i2 with
    | some (.rows _ s2 _ rs) => bif Nat.beq s2 sz then tq rs (r.map enc) else .bad
    | _ => .bad
  | _ => .bad
def U1.q (tab : Tab) (nt : Nat) (Γ : List GF) (tm : List (Nat × T)) (hp : List (Nat × Blk)) (o : Oper) : {τ : Type} → U1 τ → Option (Tr × (τ → St))
  | _, .ap enc l r id => match o.op, o.dst with
    | .call ⟨.builtin .append, args, tys⟩, some d => match args.toList, tys.toList with
      | [s, x], [t, t'] => match look tab t with
        | some ⟨_, .slice e, _⟩ => match look tab e with
          | some te => bif Nat.beq t t' && Nat.blt d nt && Nat.beq te.zero.length te.size && Nat.blt id big && freshT id (fgT id (rmv [] tm)) && freshB id (fgH id hp) && uniq hp then
              some (.and (tq (α := _ → Nat) (fun y => (enc y).length) (fun _ => te.size)) (.and (tq (α := _ → Bool) (fun y => (enc y).all oneTree) (fun _ => true)) (.and (srcTr enc r te.size hp (val tm x)) (match val tm s with
                | some (.own i) => match look hp i with
                  | some (.rows e' sz _ rs) => bif Nat.beq i id && Nat.beq e' e && Nat.beq sz te.size then tq rs (l.map enc) else .bad
                  | _ => .bad
                | some (.t (.v (.slice none 0 0))) => tq l []
                | _ => .bad))), fun y => ⟨(d, .own id) :: fgT id (rmv [] tm), (id, .rows e te.size y.length (y.map enc)) :: fgH id hp⟩)
            else none
          | none => none
        | _ => none
      | _, _ => none
    | _, _ => none
  | _, .an enc n z id => match o.op, o.dst with
    | .call ⟨.builtin .append, args, tys⟩, some d => match args.toList, tys.toList with
      | [s, x], [t, u] => match look tab t, look tab u, val tm s, val tm x with
        | some ⟨_, .slice e, _⟩, some ⟨_, .int _, _⟩, some (.t (.v (.slice none 0 0))), some (.t (.v (.int _ n'))) => match look tab e with
          | some te => bif Nat.blt d nt && Nat.beq te.zero.length te.size && Nat.blt 0 te.size && Nat.blt id big && freshT id tm && freshB id hp then
              some (.and (tq n' n) (tq (enc z) (te.zero.map fun v => nilTree (.v v))), fun y => ⟨(d, .own id) :: tm, (id, .rows e te.size y.length (y.map enc)) :: hp⟩)
            else none
          | none => none
        | _, _, _, _ => none
      | _, _ => none
    | _, _ => none
  | _, .st enc l i y n => match o.op, o.dst, Γ[n]? with
    | .store t p x, none, some f => match val tm p, look tab t, (val tm x).bind (cellsT hp) with
      | some (.pe id i' sz off), some ti, some cs => match look hp id, trees cs with
        | some (.rows e sz' n' rs), some lt => bif Nat.beq sz sz' && Nat.beq lt.length ti.size && Nat.ble (off + lt.length) sz then
            some (.and (.eq (.gf ⟨f.enc, f.l, f.i⟩) (.gf ⟨enc, l, i⟩)) (.and (tq (i', rs) (i.toNat, l.map enc)) (.eq (.mk (enc y)) (.mk (splc (f.enc f.y) off lt)))), fun l' => ⟨tm, hput hp id (.rows e sz l'.length (l'.map enc))⟩)
          else none
        | _, _ => none
      | _, _, _ => none
    | _, _, _ => none
  | _, .sF enc l a b => match o.op, o.dst with
    | .slice t x lo hi none, some d => match look tab t, val tm x, optI tm 0 lo, optI tm l.length hi with
      | some ⟨_, .slice e, _⟩, some (.t (.sl _ rs)), some a', some b' => match look tab e with
        | some te => bif Nat.blt d nt then some (.and (tq rs (l.map enc)) (.and (tq (a', b') (a, b)) (tq (α := _ → Nat) (fun y => (enc y).length) (fun _ => te.size))), fun y => ⟨(d, .t (.sl y.length (y.map enc))) :: tm, hp⟩) else none
        | none => none
      | _, _, _, _ => none
    | _, _ => none
  | _, .sO enc l b id => match o.op, o.dst with
    | .slice t x none hi none, some d => match look tab t, val tm x, optI tm l.length hi with
      | some ⟨_, .slice e', _⟩, some (.own i), some b' => match look tab e', look hp i with
        | some te, some (.rows e sz _ rs) => bif Nat.blt d nt && Nat.beq te.size sz && Nat.blt id big && freshT id (fgT i (rmv [] tm)) && freshB id (fgH i hp) && freshB i (fgH i hp) && uniq hp then
            some (.and (tq rs (l.map enc)) (tq b' b), fun y => ⟨(d, .own id) :: fgT i (rmv [] tm), (id, .rows e sz y.length (y.map enc)) :: fgH i hp⟩)
          else none
        | _, _ => none
      | _, _, _ => none
    | _, _ => none
  | _, .cp enc l r => match o.op with
    | .call ⟨.builtin .copy, args, tys⟩ => match args.toList, tys.toList with
      | [s, x], [t, _] => match look tab t, val tm s, putT nt o.dst (.t (.v (.int .i64 (min r.length l.length : Nat)))) ⟨tm, []⟩ with
        | some ⟨_, .slice e', _⟩, some (.own id), some ⟨tm', _⟩ => match look tab e', look hp id with
          | some te, some (.rows e sz _ rs) => bif Nat.beq sz te.size then
              some (.and (tq (α := _ → Nat) (fun y => (enc y).length) (fun _ => te.size)) (.and (tq (α := _ → Bool) (fun y => (enc y).all oneTree) (fun _ => true)) (.and (srcTr enc r te.size hp (val tm x)) (tq rs (l.map enc)))), fun y => ⟨tm', hput hp id (.rows e te.size y.length (y.map enc))⟩)
            else none
          | _, _ => none
        | _, _, _ => none
      | _, _ => none
    | _ => none
/-- The same in a region that draws: append to rows whose slice is known. -/
def U1.qA (tab : Tab) (nt : Nat) (tm : List (Nat × T)) (hp : List (Nat × Blk)) (o : Oper) {α : Type} (enc : α → List Tree) (l r : List α) (id : Nat) : Option (Tr × (List α → T × Option (Nat × Blk))) :=
  match o.op, o.dst with
  | .call ⟨.builtin .append, args, tys⟩, some d => match args.toList, tys.toList with
    | [s, x], [t, t'] => match look tab t with
      | some ⟨_, .slice e, _⟩ => match look tab e with
        | some te => match val tm s, look hp id with
          | some (.t (.v v)), some (.rv v' e' sz n rs) => bif Nat.beq t t' && Nat.blt d nt && Nat.beq te.zero.length te.size && Nat.blt id big && Nat.beq e' e && Nat.beq sz te.size then
              some (.and (tq v v') (.and (tq rs (l.map enc)) (.and (tq (α := _ → Nat) (fun y => (enc y).length) (fun _ => te.size)) (.and (tq (α := _ → Bool) (fun y => (enc y).all oneTree) (fun _ => true)) (srcTr enc r te.size hp (val tm x))))), fun y => (.own id, some (id, .rows e te.size y.length (y.map enc))))
            else none
          | _, _ => none
        | none => none
      | _ => none
    | _, _ => none
  | _, _ => none
/-- The same in a region that draws. -/
def U1.qD (tab : Tab) (nt : Nat) (Γ : List GF) (tm : List (Nat × T)) (hp : List (Nat × Blk)) (o : Oper) : {τ : Type} → U1 τ → Option (Tr × (τ → T × Option (Nat × Blk)))
  | _, .st enc l i y n => match (U1.st enc l i y n).q tab nt Γ tm hp o with
    | some (t, _) => match o.op, o.dst with
      | .store _ p _, none => match val tm p with
        | some (.pe id _ sz _) => match look hp id with
          | some (.rows e _ _ _) => some (t, fun l' => (.t (.v undef), some (id, .rows e sz l'.length (l'.map enc))))
          | _ => none
        | _ => none
      | _, _ => none
    | none => none
  | _, .ap enc l r id => U1.qA tab nt tm hp o enc l r id
  | _, _ => none
/-- Names of a contract's blocks where it is called. -/
def mtT : T → T → List (Nat × Nat)
  | .own i, .own j => [(i, j)]
  | .ptr i _, .ptr j _ => [(i, j)]
  | .pe i _ _ _, .pe j _ _ _ => [(i, j)]
  | .agg l, .agg l' => mtL l l'
  | .tup l, .tup l' => mtL l l'
  | .clo _ l, .clo _ l' => mtL l l'
  | _, _ => []
 where mtL : List T → List T → List (Nat × Nat)
  | x :: l, y :: l' => mtT x y ++ mtL l l'
  | _, _ => []
def has1 (i : Nat) : List (Nat × Nat) → Bool
  | [] => false
  | p :: r => bif Nat.beq p.1 i then true else has1 i r
def dd1 : List (Nat × Nat) → List (Nat × Nat) → List (Nat × Nat)
  | [], l => l
  | p :: r, l => bif has1 p.1 l then dd1 r l else dd1 r (l ++ [p])
/-- The boxes' cells too. -/
def mtH (h h' : List (Nat × Blk)) : List (Nat × Nat) → List (Nat × Nat)
  | [] => []
  | (i, j) :: r => (match look h i, look h' j with
    | some (.box ts), some (.box us) => mtT.mtL ts us
    | _, _ => []) ++ mtH h h' r
def lendQ (cargs : List T) (chp : List (Nat × Blk)) (targs : List T) (hp : List (Nat × Blk)) : List (Nat × Nat) :=
  match dd1 (mtT.mtL cargs targs) [] with
  | l => match dd1 (mtH chp hp l) l with
    | l => dd1 (mtH chp hp l) l
/-- A type of maps. -/
structure Mq (P : Program) (κ ν : Type) where
  beq : BEq κ
  t : Nat
  kt : Nat
  et : Nat
  dk : TypeDesc
  f : κ → Value
  g : ν → Value
  z : ν
  law : @KeyLaw κ beq dk f
  ht : P.underlying t = some (.map kt et)
  hk : P.underlying kt = some dk
  hz : ∃ ti, P.info? et = some ti ∧ ti.zero = some (g z)
/-- Models that follow code. ρ: what the function gives. -/
inductive M (P : Program) (ρ : Type) : Type → Type 1 where
  | R {τ : Type} (v : τ) : M P ρ τ
  | N {τ : Type} : M P ρ τ
  | I {τ : Type} (b : Bool) (x y : M P ρ τ) : M P ρ τ
  | K {β τ : Type} (c : C P β) (f : β → M P ρ τ) : M P ρ τ
  | KG {β τ : Type} (c : CG P β) (nm : List Nat) (f : β → M P ρ τ) : M P ρ τ
  | O {β τ : Type} (l : L1 β) (f : β → M P ρ τ) : M P ρ τ
  | W {τ : Type} (u : W1) (x : M P ρ τ) : M P ρ τ
  | U {β τ : Type} (u : U1 β) (f : β → M P ρ τ) : M P ρ τ
  | Mk {α τ : Type} (enc : α → List Tree) (n : Int) (z : α) (f : List α → M P ρ τ) : M P ρ τ
  | Z (z : Z1) {τ : Type} (x : M P ρ τ) : M P ρ τ
  | G {τ : Type} (b : Bool) (x y : M P ρ Bool) (f : Bool → M P ρ τ) : M P ρ τ
  | J0 {β τ : Type} (n : Nat) (o : β → List Ch) (x : M P ρ β) (f : β → M P ρ τ) : M P ρ τ
  | J {β γ τ : Type} (n : Nat) (o : β → List Ch) (k : Kd ρ γ) (x : M P ρ (β ⊕ γ)) (f : β → M P ρ τ) (g : γ → M P ρ τ) : M P ρ τ
  | JF {S γ : Type} (n : Nat) (o : S → List Ch) (x : M P ρ (Fl S γ)) (i : Int) : M P ρ ((Int × S) ⊕ (S ⊕ γ))
  | L {S γ τ : Type} (hd : S → List Ch) (N : Nat) (k : Kd ρ γ) (x : S → M P ρ (S ⊕ (S ⊕ γ))) (s : S) (f : S → M P ρ τ) (g : γ → M P ρ τ) : M P ρ τ
  | LQ {S γ τ : Type} (ri : Nat) (hd : S → List Ch) (N : Nat) (k : Kd ρ γ) (x : Int × S → M P ρ ((Int × S) ⊕ (S ⊕ γ))) (s : S) (f : S → M P ρ τ) (g : γ → M P ρ τ) : M P ρ τ
  | A {α τ : Type} (enc : α → List Tree) (l : List α) (i : Int) (f : α → M P ρ τ) : M P ρ τ
  | B {τ : Type} (x : M P ρ τ) : M P ρ τ
  | D {τ : Type} (fz : List Nat) (ws : List (Nat × Nat)) (x : M P ρ τ) : M P ρ τ
  | Sp {τ : Type} (b : Bool) (x y : M P ρ τ) : M P ρ τ
  | Mm {τ : Type} (id : Nat) (x : M P ρ τ) : M P ρ τ
  | Ml {κ ν τ : Type} (m : Mq P κ ν) (l : List (κ × ν)) (k : κ) (x : M P ρ τ) : M P ρ τ
  | Mu {κ ν τ : Type} (m : Mq P κ ν) (l : List (κ × ν)) (k : κ) (v : ν) (x : M P ρ τ) : M P ρ τ
  | Pn {τ : Type} (id : Nat) (x : M P ρ τ) : M P ρ τ
  | Nl {α τ : Type} (enc : α → List Tree) (l : List α) (x : M P ρ τ) (y : List α → M P ρ τ) : M P ρ τ
noncomputable def M.run {P : Program} {ρ : Type} : {τ : Type} → M P ρ τ → Option τ
  | _, .R v => some v
  | _, .N => none
  | _, .I b x y => bif b then x.run else y.run
  | _, .K c f => c.m.bind fun t => (f t).run
  | _, .KG c _ f => c.m.bind fun t => (f t).run
  | _, .O l f => l.m.bind fun t => (f t).run
  | _, .W _ x => x.run
  | _, .U u f => u.m.bind fun t => (f t).run
  | _, .Mk _ n z f => (makeM n z).bind fun t => (f t).run
  | _, .Z _ x => x.run
  | _, .G b x y f => (bif b then x.run else y.run).bind fun t => (f t).run
  | _, .J0 _ _ x f => x.run.bind fun t => (f t).run
  | _, .J _ _ _ x f g => x.run.bind fun t => match t with | .inl t => (f t).run | .inr t => (g t).run
  | _, .JF _ _ x i => x.run.bind (rangeK i)
  | _, .L _ _ _ x s f g => (loopM (fun s => (x s).run) s).bind fun t => match t with | .inl t => (f t).run | .inr t => (g t).run
  | _, .LQ _ _ _ _ x s f g => (loopM (fun s => (x s).run) (0, s)).bind fun t => match t with | .inl t => (f t).run | .inr t => (g t).run
  | _, .A _ l i f => (getI l i).bind fun t => (f t).run
  | _, .B x => x.run
  | _, .D _ _ x => x.run
  | _, .Sp b x y => bif b then x.run else y.run
  | _, .Nl _ l _ y => (y l).run
  | _, .Mm _ x => x.run
  | _, .Pn _ x => x.run
  | _, .Ml _ _ _ x => x.run
  | _, .Mu _ _ _ _ x => x.run
/-- The same with loops cut off. -/
def M.rn {P : Program} {ρ : Type} (k : Nat) : {τ : Type} → M P ρ τ → Option τ
  | _, .R v => some v
  | _, .N => none
  | _, .I b x y => bif b then x.rn k else y.rn k
  | _, .K c f => (c.e k).bind fun t => (f t).rn k
  | _, .KG c _ f => (c.e k).bind fun t => (f t).rn k
  | _, .O l f => l.m.bind fun t => (f t).rn k
  | _, .W _ x => x.rn k
  | _, .U u f => u.m.bind fun t => (f t).rn k
  | _, .Mk _ n z f => (makeM n z).bind fun t => (f t).rn k
  | _, .Z _ x => x.rn k
  | _, .G b x y f => (bif b then x.rn k else y.rn k).bind fun t => (f t).rn k
  | _, .J0 _ _ x f => (x.rn k).bind fun t => (f t).rn k
  | _, .J _ _ _ x f g => (x.rn k).bind fun t => match t with | .inl t => (f t).rn k | .inr t => (g t).rn k
  | _, .JF _ _ x i => (x.rn k).bind (rangeK i)
  | _, .L _ _ _ x s f g => (loopN (fun s => (x s).rn k) k s).bind fun t => match t with | .inl t => (f t).rn k | .inr t => (g t).rn k
  | _, .LQ _ _ _ _ x s f g => (loopN (fun s => (x s).rn k) k (0, s)).bind fun t => match t with | .inl t => (f t).rn k | .inr t => (g t).rn k
  | _, .A _ l i f => (getI l i).bind fun t => (f t).rn k
  | _, .B x => x.rn k
  | _, .D _ _ x => x.rn k
  | _, .Sp b x y => bif b then x.rn k else y.rn k
  | _, .Nl _ l _ y => (y l).rn k
  | _, .Mm _ x => x.rn k
  | _, .Pn _ x => x.rn k
  | _, .Ml _ _ _ x => x.rn k
  | _, .Mu _ _ _ _ x => x.rn k
theorem bind_le {α β : Type} {a a' : Option α} {f g : α → Option β} {r : β} (ha : ∀ x, a = some x → a' = some x) (hf : ∀ x r, f x = some r → g x = some r) (h : a.bind f = some r) : a'.bind g = some r := by
  cases a with
  | none => cases h
  | some x => rw [ha x rfl]; exact hf x r h
theorem M.le {P : Program} {ρ : Type} (k : Nat) : ∀ {τ : Type} (x : M P ρ τ) (r : τ), x.rn k = some r → x.run = some r
  | _, .R v, r, h => h
  | _, .N, r, h => h
  | _, .I b x y, r, h => by
    cases b
    · exact M.le k y r h
    · exact M.le k x r h
  | _, .K c f, r, h => bind_le (fun y hy => c.le k y hy) (fun y r hy => M.le k (f y) r hy) h
  | _, .KG c _ f, r, h => bind_le (fun y hy => c.le k y hy) (fun y r hy => M.le k (f y) r hy) h
  | _, .O l f, r, h => bind_le (fun y hy => hy) (fun y r hy => M.le k (f y) r hy) h
  | _, .W _ x, r, h => M.le k x r h
  | _, .U l f, r, h => bind_le (fun y hy => hy) (fun y r hy => M.le k (f y) r hy) h
  | _, .Mk _ _ _ f, r, h => bind_le (fun y hy => hy) (fun y r hy => M.le k (f y) r hy) h
  | _, .Z _ x, r, h => M.le k x r h
  | _, .G b x y f, r, h => bind_le (fun z hz => by
      cases b
      · exact M.le k y z hz
      · exact M.le k x z hz) (fun y r hy => M.le k (f y) r hy) h
  | _, .J0 _ _ x f, r, h => bind_le (fun z hz => M.le k x z hz) (fun y r hy => M.le k (f y) r hy) h
  | _, .J _ _ _ x f g, r, h => by
    rw [M.rn] at h
    rw [M.run]
    refine bind_le (fun z hz => M.le k x z hz) (fun y r hy => ?_) h
    cases y with
    | inl y => exact M.le k (f y) r hy
    | inr y => exact M.le k (g y) r hy
  | _, .JF _ _ x i, r, h => bind_le (fun z hz => M.le k x z hz) (fun y r hy => hy) h
  | _, .L _ _ _ x s f g, r, h => by
    rw [M.rn] at h
    rw [M.run]
    refine bind_le (fun z hz => loopM_iff.2 (loopN_le (fun s f hf => M.le k (x s) f hf) hz)) (fun y r hy => ?_) h
    cases y with
    | inl y => exact M.le k (f y) r hy
    | inr y => exact M.le k (g y) r hy
  | _, .LQ _ _ _ _ x s f g, r, h => by
    rw [M.rn] at h
    rw [M.run]
    refine bind_le (fun z hz => loopM_iff.2 (loopN_le (fun s f hf => M.le k (x s) f hf) hz)) (fun y r hy => ?_) h
    cases y with
    | inl y => exact M.le k (f y) r hy
    | inr y => exact M.le k (g y) r hy
  | _, .A _ _ _ f, r, h => bind_le (fun y hy => hy) (fun y r hy => M.le k (f y) r hy) h
  | _, .B x, r, h => M.le k x r h
  | _, .D _ _ x, r, h => M.le k x r h
  | _, .Sp b x y, r, h => by
    cases b
    · exact M.le k y r h
    · exact M.le k x r h
  | _, .Nl _ l _ y, r, h => M.le k (y l) r h
  | _, .Mm _ x, r, h => M.le k x r h
  | _, .Pn _ x, r, h => M.le k x r h
  | _, .Ml _ _ _ x, r, h => M.le k x r h
  | _, .Mu _ _ _ _ x, r, h => M.le k x r h
def leafTr {ρ : Type} (Qf : ρ → St → Tr) : Cg ρ → Out ρ → Tr
  | .S [] σ, .nx σ₁ => subTr σ₁ σ
  | .S [] σ, .top r => Qf r σ
  | .S (.c .ret :: _) σ, .rt r => Qf r σ
  | .S (.c .ret :: _) σ, .top r => Qf r σ
  | .X id σ, .ex id' σ₁ => bif Nat.beq id id' then subTr σ₁ σ else .bad
  | .R r, .rt r' => tq r r'
  | .R r, .top r' => tq r r'
  | _, _ => .bad
/-- The test that a group of operations hangs on: its slot, its truth value, the group, the slot of what it gives, the rest. -/
def grpQ (all : List Oper) (tm : List (Nat × T)) (ops : List Oper) : Option (Nat × Bool × List Oper × Nat × List Oper) := match ops with
  | [] => none
  | o :: _ => match o.guard with
    | none => none
    | some (j, _) => match all[j]? with
      | none => none
      | some oj => match oj.dst with
        | none => none
        | some d => match look tm d, cut d ops with
          | some (.t (.v (.bool b))), some (g, q, _, r) => some (d, b, g, q, r)
          | _, _ => none
def M.isJ {P : Program} {ρ : Type} : {τ : Type} → M P ρ τ → Bool
  | _, .J0 0 _ _ _ => true
  | _, .J 0 _ _ _ _ _ => true
  | _, .B _ => true
  | _, .Z _ x => x.isJ
  | _, .Pn _ x => x.isJ
  | _, .D _ _ x => x.isJ
  | _, _ => false
def M.isD {P : Program} {ρ : Type} : {τ : Type} → M P ρ τ → Bool
  | _, .Z _ x => x.isD
  | _, .Pn _ _ => true
  | _, .D _ _ _ => true
  | _, .J0 (_ + 1) _ _ _ => true
  | _, _ => false
def zipB : List Nat → List Nat → List (Nat × Nat)
  | x :: l, y :: l' => (x, y) :: zipB l l'
  | _, _ => []
noncomputable def M.chk {P : Program} {ρ : Type} (Ev : EqV P) (tab : Tab) (nt : Nat) (Qf : ρ → St → Tr) : {τ : Type} → M P ρ τ → List GF → Cg ρ → (τ → Out ρ) → Tr
  | _, .R v, _, c, o => leafTr Qf (av tab nt true true fuel c) (o v)
  | _, .N, _, _, _ => .ok
  | _, .I b x y, Γ, c, o => match av tab nt true true fuel c with
    | .S (.c (.cond q z w) :: ks) σ => match val σ.tm q with
      | some (.t (.v (.bool b'))) => .and (tq b' b) (.and (x.chk Ev tab nt Qf Γ (.S (.c z :: ks) σ) o) (y.chk Ev tab nt Qf Γ (.S (.c w :: ks) σ) o))
      | _ => .bad
    | _ => .bad
  | _, .K f x, Γ, c, o => .and (tq (f.d || !Ev.dr) true) <| match here (av tab nt true true fuel c) with
    | some (all, kb, q, tm, hp, _, nx) => match gk all.toList kb tm q.guard, callQ tm hp q with
      | some true, some (n, l, s, d) => bif Nat.blt d nt then
          .and (tq (n, l) (f.n, f.args)) (.and (bif s then tq (α := _ → Bool) (fun t => scalar (f.res t)) (fun _ => true) else .ok) (.all fun t => (x t).chk Ev tab nt Qf Γ (nx (f.res t) none) o))
        else .bad
      | _, _ => .bad
    | none => .bad
  | _, .KG f nm x, Γ, c, o => .and (tq (f.d || !Ev.dr) true) <| match av tab nt true true fuel c with
    | .O all kb (q :: r) ks ⟨tm, hp⟩ => match gk all.toList kb tm q.guard, callA tm q, q.dst with
      | some true, some (n, targs), some d => match lendQ f.args f.hp targs hp with
        | lm => match renL lm f.args, renHp lm f.hp with
          | some targs', some rchp => bif Nat.beq n f.n && Nat.blt d nt && mapsOk lm (zipB f.nw nm) tm hp then
              .and (tq (mrgL targs targs') targs') (.and (tq (rchp.map (look3 hp)) (rchp.map fun p => some p.2)) (.all fun t => match renT (lm ++ zipB f.nw nm) (f.res t), renHp (lm ++ zipB f.nw nm) (f.hp' t) with
                | some rt, some rh => (x t).chk Ev tab nt Qf Γ (.O all kb r ks ⟨(d, rt) :: tm, rh ++ dropIds lm hp⟩) o
                | _, _ => .bad))
            else .bad
          | _, _ => .bad
      | _, _, _ => .bad
    | .D id all h bs ws ops vs tm0 hp0 fz kb ks => match here (ρ := ρ) (.D id all h bs ws ops vs tm0 hp0 fz kb ks) with
      | some (all, kb, q, tm, hp, _, nx) => match gk all.toList kb tm q.guard, callA tm q, q.dst with
        | some true, some (n, targs), some d => match nm with
          | [c] => match f.hp, look hp c with
            | [], _ => match renL [] f.args with
              | some targs' => bif Nat.beq n f.n && Nat.blt d nt && Nat.blt c big then
                  .and (tq (mrgL targs targs') targs') (.all fun t => match f.hp' t with
                    | [(r1, .rows e2 sz2 n2 rs2)] => match renT [(r1, c)] (f.res t) with
                      | some rt => (x t).chk Ev tab nt Qf Γ (nx rt (some (c, .rows e2 sz2 n2 rs2))) o
                      | none => .bad
                    | _ => .bad)
                else .bad
              | none => .bad
            | [(b1, .rows e sz n1 rs)], some (.rv v' e' sz' n1' rs') => bif Nat.beq n f.n && Nat.blt d nt && Nat.blt c big && ownL b1 f.args then
                .and (tq (mrgL targs (subTL b1 (.t (.v v')) f.args)) (subTL b1 (.t (.v v')) f.args)) (.and (tq (e, sz, n1, rs) (e', sz', n1', rs')) (.all fun t => match f.hp' t with
                  | [(r1, .rows e2 sz2 n2 rs2)] => match renT [(r1, c)] (f.res t) with
                    | some rt => (x t).chk Ev tab nt Qf Γ (nx rt (some (c, .rows e2 sz2 n2 rs2))) o
                    | none => .bad
                  | _ => .bad))
              else .bad
            | _, _ => .bad
          | _ => match lendQ f.args f.hp targs hp with
          | lm => match renL lm f.args, renHp lm f.hp with
            | some targs', some rchp => bif Nat.beq n f.n && Nat.blt d nt && mapsOk lm [] [] [] && lm.all (fun p => (look rchp p.2).isSome) then
                .and (tq (mrgL targs targs') targs') (.and (tq (rchp.map fun p => look hp p.1) (rchp.map fun p => some p.2)) (.all fun t => .and (tq (f.hp' t) f.hp) (match renT lm (f.res t) with
                  | some rt => (x t).chk Ev tab nt Qf Γ (nx rt none) o
                  | none => .bad)))
              else .bad
            | _, _ => .bad
        | _, _, _ => .bad
      | none => .bad
    | _ => .bad
  | _, .O l x, Γ, c, o => match here (av tab nt true true fuel c) with
    | some (all, kb, q, tm, hp, _, nx) => match gk all.toList kb tm q.guard, l.q tab tm hp q.op, q.dst with
      | some true, some (t, res), some d => bif Nat.blt d nt then .and t (.all fun y => (x y).chk Ev tab nt Qf (l.k y Γ) (nx (res y) none) o) else .bad
      | _, _, _ => .bad
    | none => .bad
  | _, .W u x, Γ, c, o => match here (av tab nt true true fuel c) with
    | some (all, kb, q, tm, hp, _, nx) => match gk all.toList kb tm q.guard, u.q Ev tab Γ tm hp q.op, q.dst with
      | some true, some (t, V), some d => bif Nat.blt d nt then .and t (x.chk Ev tab nt Qf Γ (nx V none) o) else .bad
      | _, _, _ => .bad
    | none => .bad
  | _, .U u x, Γ, c, o => match av tab nt true true fuel c with
    | .O all kb (q :: r) ks ⟨tm, hp⟩ => match gk all.toList kb tm q.guard, u.q tab nt Γ tm hp q with
      | some true, some (t, σ) => .and t (.all fun y => (x y).chk Ev tab nt Qf (u.k y Γ) (.O all kb r ks (σ y)) o)
      | _, _ => .bad
    | .D id all h bs ws ops vs tm0 hp0 fz kb ks => match here (ρ := ρ) (.D id all h bs ws ops vs tm0 hp0 fz kb ks) with
      | some (all, kb, q, tm, hp, _, nx) => match gk all.toList kb tm q.guard, u.qD tab nt Γ tm hp q with
        | some true, some (t, f) => .and t (.all fun y => (x y).chk Ev tab nt Qf (u.k y Γ) (nx (f y).1 (f y).2) o)
        | _, _ => .bad
      | none => .bad
    | _ => .bad
  | _, .Mk enc n z x, Γ, c, o => match here (av tab nt true true fuel c) with
    | some (all, kb, q, tm, hp, fz, nx) => match gk all.toList kb tm q.guard, q.op, q.dst with
      | some true, .makeSlice t a b, some d => match val tm a, val tm b, look tab t with
        | some (.t (.v (.int k n'))), some (.t (.v (.int k2 n2))), some ⟨_, .slice e, _⟩ => match look tab e with
          | some te => bif Nat.blt d nt && Nat.beq te.zero.length te.size && Nat.blt 0 te.size && Nat.blt d big && freshT d tm && freshB d hp then
              .and (tq (n', k2, n2) (n, k, n)) (.and (tq (enc z) (te.zero.map fun v => nilTree (.v v))) (.all fun y => (x y).chk Ev tab nt Qf Γ (bif isIn d fz then nx (.t (.sl y.length (y.map enc))) none else nx (.own d) (some (d, .rows e te.size y.length (y.map enc)))) o))
            else .bad
          | none => .bad
        | _, _, _ => .bad
      | _, _, _ => .bad
    | none => .bad
  | _, .Z z x, Γ, c, o => match av tab nt (!x.isJ) (!x.isD) fuel c with
    | .S ks ⟨tm, hp⟩ => match z.ap tm hp with
      | some σ => x.chk Ev tab nt Qf Γ (.S ks σ) o
      | none => .bad
    | .O all kb ops ks ⟨tm, hp⟩ => match z.ap tm hp with
      | some σ => x.chk Ev tab nt Qf Γ (.O all kb ops ks σ) o
      | none => .bad
    | .X id ⟨tm, hp⟩ => match z.ap tm hp with
      | some σ => x.chk Ev tab nt Qf Γ (.X id σ) o
      | none => .bad
    | _ => .bad
  | _, .G b x y f, Γ, c, o => match av tab nt true true fuel c with
    | .O all kb ops ks ⟨tm, hp⟩ => match grpQ all.toList tm ops with
      | some (d, b', g, q, r) => .and (tq b' b) (.and (x.chk Ev tab nt Qf Γ (.O all (d :: kb) g [] ⟨(d, .t (.v (.bool true))) :: tm, hp⟩) (fun v => .nx ⟨(q, .t (.v (.bool v))) :: rmv (d :: q :: dstsO g) tm, hp⟩))
          (.and (y.chk Ev tab nt Qf Γ (.O all (d :: kb) g [] ⟨(d, .t (.v (.bool false))) :: tm, hp⟩) (fun v => .nx ⟨(q, .t (.v (.bool v))) :: rmv (d :: q :: dstsO g) tm, hp⟩))
          (.all fun v => (f v).chk Ev tab nt Qf Γ (.O all kb r ks ⟨(q, .t (.v (.bool v))) :: rmv (d :: q :: dstsO g) tm, hp⟩) o)))
      | none => .bad
    | _ => .bad
  | _, .J0 n s x f, Γ, c, o => match (match n with | 0 => av tab nt false true fuel c | _ => av tab nt true false fuel c) with
    | .S (.c z :: ks) σ => .and (x.chk Ev tab nt Qf Γ (.S [.c z] σ) (fun v => .nx (upd (s v) ⟨rmv (dstsC z) σ.tm, σ.hp⟩))) (.all fun v => (f v).chk Ev tab nt Qf Γ (.S ks (upd (s v) ⟨rmv (dstsC z) σ.tm, σ.hp⟩)) o)
    | _ => .bad
  | _, .J n s k x f g, Γ, c, o => match (match n with | 0 => av tab nt false true fuel c | n => av tab nt true true n c) with
    | .S (.c z :: ks) σ => .and (x.chk Ev tab nt Qf Γ (.S [.c z] σ) (fun v => match v with | .inl v => .nx (upd (s v) ⟨rmv (dstsC z) σ.tm, σ.hp⟩) | .inr w => outOf ⟨rmv (dstsC z) σ.tm, σ.hp⟩ (k.sh w)))
        (.and (.all fun v => (f v).chk Ev tab nt Qf Γ (.S ks (upd (s v) ⟨rmv (dstsC z) σ.tm, σ.hp⟩)) o) (k.all fun w sh => (g w).chk Ev tab nt Qf Γ (cont ks ⟨rmv (dstsC z) σ.tm, σ.hp⟩ sh) o))
    | _ => .bad
  | _, .JF n s x i, Γ, c, o => match av tab nt true true n c with
    | .S (.c z :: ks) σ => bif noE ks then .and (x.chk Ev tab nt Qf Γ (.S [.c z] σ) (fun v => match v with | .next v => .nx (upd (s v) ⟨rmv (dstsC z) σ.tm, σ.hp⟩) | .brk v => notN (o (.inr (.inl v))) | .ret w => notN (o (.inr (.inr w)))))
        (.all fun v => leafTr Qf (av tab nt true true fuel (.S ks (upd (s v) ⟨rmv (dstsC z) σ.tm, σ.hp⟩))) (o (.inl (w64 (i + 1), v)))) else .bad
    | _ => .bad
  | _, .L hd nx k x s₀ f g, Γ, c, o => match av tab nt true true fuel c with
    | .S (.c (.loop z) :: ks) σ => .and (subTr (upd (hd s₀) ⟨rmv (dstsC z) σ.tm, σ.hp⟩) σ)
        (.and (.all fun a => (x a).chk Ev tab nt Qf Γ (.S [.c z] (upd (hd a) ⟨rmv (dstsC z) σ.tm, σ.hp⟩)) (fun v => match v with | .inl a' => .nx (upd (hd a') ⟨rmv (dstsC z) σ.tm, σ.hp⟩) | .inr (.inl a') => .ex nx (upd (hd a') ⟨rmv (dstsC z) σ.tm, σ.hp⟩) | .inr (.inr w) => outLp ⟨rmv (dstsC z) σ.tm, σ.hp⟩ (k.sh w)))
        (.and (.all fun a => (f a).chk Ev tab nt Qf Γ (cont ks ⟨rmv (dstsC z) σ.tm, σ.hp⟩ (.ex nx (hd a))) o) (k.all fun w sh => (g w).chk Ev tab nt Qf Γ (cont ks ⟨rmv (dstsC z) σ.tm, σ.hp⟩ sh) o)))
    | _ => .bad
  | _, .LQ ri hd nx k x s₀ f g, Γ, c, o => match av tab nt true true fuel c with
    | .S (.c (.loop z) :: ks) σ => .and (subTr (upd (.t ri (.t (tI 0)) :: hd s₀) ⟨rmv (dstsC z) σ.tm, σ.hp⟩) σ)
        (.and (.all fun a => (x a).chk Ev tab nt Qf Γ (.S [.c z] (upd (.t ri (.t (tI a.1)) :: hd a.2) ⟨rmv (dstsC z) σ.tm, σ.hp⟩)) (fun v => match v with | .inl a' => .nx (upd (.t ri (.t (tI a'.1)) :: hd a'.2) ⟨rmv (dstsC z) σ.tm, σ.hp⟩) | .inr (.inl a') => .ex nx (upd (hd a') ⟨rmv (dstsC z) σ.tm, σ.hp⟩) | .inr (.inr w) => outLp ⟨rmv (dstsC z) σ.tm, σ.hp⟩ (k.sh w)))
        (.and (.all fun a => (f a).chk Ev tab nt Qf Γ (cont ks ⟨rmv (dstsC z) σ.tm, σ.hp⟩ (.ex nx (hd a))) o) (k.all fun w sh => (g w).chk Ev tab nt Qf Γ (cont ks ⟨rmv (dstsC z) σ.tm, σ.hp⟩ sh) o)))
    | _ => .bad
  | _, .A enc l i f, Γ, c, o => .all fun y => (f y).chk Ev tab nt Qf (⟨enc, l, i, y⟩ :: Γ) c o
  | _, .B x, Γ, c, o => match av tab nt false true fuel c with
    | .S (.c (.block id z) :: ks) σ => x.chk Ev tab nt Qf Γ (.S (.c z :: .e id :: ks) σ) o
    | _ => .bad
  | _, .D fz ws x, Γ, c, o => match av tab nt (!x.isJ) false fuel c with
    | .S (.c (.region id ops true) :: ks) σ => x.chk Ev tab nt Qf Γ (.D id ops (tlH (befs ops.toList []) 0) (befs ops.toList []) (newsW fz 0 (ops.toList.take (tlH (befs ops.toList []) 0)) ++ ws) ops.toList [] (rmv (dstsO (ops.toList.take (tlH (befs ops.toList []) 0))) σ.tm) σ.hp fz [] ks) o
    | _ => .bad
  | _, .Sp b x y, Γ, c, o => match av tab nt true true fuel c with
    | .D id all h bs ws (q :: r) vs tm0 hp0 fz kb ks => match tstQ q vs with
      | some (j, b') => .and (tq b' b) (.and (x.chk Ev tab nt Qf Γ (.D id all h bs ws (q :: r) (setV (.t (.v (.bool true))) j vs) tm0 hp0 fz (kbD all j kb) ks) o) (y.chk Ev tab nt Qf Γ (.D id all h bs ws (q :: r) (setV (.t (.v (.bool false))) j vs) tm0 hp0 fz (kbD all j kb) ks) o))
      | none => .bad
    | .O all kb (q :: r) ks ⟨tm, hp⟩ => match tstO all.toList tm q with
      | some (d, b') => .and (tq b' b) (.and (x.chk Ev tab nt Qf Γ (.O all (d :: kb) (q :: r) ks ⟨(d, .t (.v (.bool true))) :: tm, hp⟩) o) (y.chk Ev tab nt Qf Γ (.O all (d :: kb) (q :: r) ks ⟨(d, .t (.v (.bool false))) :: tm, hp⟩) o))
      | none => .bad
    | _ => .bad
  | _, .Nl enc l x y, Γ, c, o => match av tab nt true true fuel c with
    | .O all kb (q :: r) ks ⟨tm, hp⟩ => match gk all.toList kb tm q.guard, q.op, q.dst with
      | some true, .binOp .eql t z (.const (.slice none 0 0)) _, some d => match look tab t, val tm z with
        | some ⟨_, .slice _, _⟩, some (.t (.sl _ rs)) => bif Nat.blt d nt then
            .and (tq rs (l.map enc)) (.and (tq x.run (y []).run) (.and (x.chk Ev tab nt Qf Γ (.O all kb r ks ⟨(d, .t (.v (.bool true))) :: tm, hp⟩) o) ((y l).chk Ev tab nt Qf Γ (.O all kb r ks ⟨(d, .t (.v (.bool false))) :: tm, hp⟩) o)))
          else .bad
        | _, _ => .bad
      | _, _, _ => .bad
    | _ => .bad
  | _, .Pn id x, Γ, c, o => match av tab nt (!x.isJ) false fuel c with
    | .S ks ⟨tm, hp⟩ => match look hp id with
      | some (.rows e sz n rs) => .all fun v : Value => x.chk Ev tab nt Qf Γ (.S ks ⟨subTm id (.t (.v v)) tm, (id, .rv v e sz n rs) :: subHp id (.t (.v v)) hp⟩) o
      | _ => .bad
    | _ => .bad
  | _, .Mm id x, Γ, c, o => match av tab nt true true fuel c with
    | .O all kb (q :: r) ks ⟨tm, hp⟩ => match gk all.toList kb tm q.guard, q.op, q.dst with
      | some true, .makeMap _ none, some d => bif Nat.blt d nt && (Nat.blt id big && (freshT id tm && freshB id hp)) then x.chk Ev tab nt Qf Γ (.O all kb r ks ⟨(d, .own id) :: tm, (id, .mp []) :: hp⟩) o else .bad
      | _, _, _ => .bad
    | _ => .bad
  | _, .Ml m l k x, Γ, c, o => match av tab nt true true fuel c with
    | .O all kb (q :: r) ks ⟨tm, hp⟩ => match gk all.toList kb tm q.guard, q.op, q.dst with
      | some true, .lookup t a b false, some d => match val tm a, val tm b with
        | some (.own id), some (.t (.v kv)) => match look hp id with
          | some (.mp es) => bif Nat.blt d nt then .and (tq (t, es, kv) (m.t, l.map (ent m.f m.g), m.f k)) (x.chk Ev tab nt Qf Γ (.O all kb r ks ⟨(d, .t (.v (m.g (@mget _ _ m.beq m.z l k)))) :: tm, hp⟩) o) else .bad
          | _ => .bad
        | _, _ => .bad
      | _, _, _ => .bad
    | _ => .bad
  | _, .Mu m l k v x, Γ, c, o => match av tab nt true true fuel c with
    | .O all kb (q :: r) ks ⟨tm, hp⟩ => match gk all.toList kb tm q.guard, q.op, q.dst with
      | some true, .mapUpdate t a b u, none => match val tm a, val tm b, val tm u with
        | some (.own id), some (.t (.v kv)), some (.t (.v uv)) => match look hp id with
          | some (.mp es) => .and (tq (t, es, kv, uv) (m.t, l.map (ent m.f m.g), m.f k, m.g v)) (x.chk Ev tab nt Qf Γ (.O all kb r ks ⟨tm, hput hp id (.mp ((@mset _ _ m.beq l k v).map (ent m.f m.g)))⟩) o)
          | _ => .bad
        | _, _, _ => .bad
      | _, _, _ => .bad
    | _ => .bad
/-- for i, x := range l: ri: the slot of i; n: how many steps lie between the test and the body. -/
abbrev M.Q {P : Program} {ρ α S γ τ : Type} (enc : α → List Tree) (l : List α) (n ri : Nat) (hd : S → List Ch) (ex : Nat) (k : Kd ρ γ) (x : Int → α → S → M P ρ (Fl S γ)) (s : S) (f : S → M P ρ τ) (g : γ → M P ρ τ) : M P ρ τ :=
  .LQ ri hd ex k (fun p => .I (decide (p.1 < l.length)) (.A enc l p.1 fun e => .JF n hd (x p.1 e p.2) p.1) (.R (.inr (.inl p.2)))) s f g
/-- for i := range m -/
abbrev M.QN {P : Program} {ρ S γ τ : Type} (m : Int) (n ri : Nat) (hd : S → List Ch) (ex : Nat) (k : Kd ρ γ) (x : Int → S → M P ρ (Fl S γ)) (s : S) (f : S → M P ρ τ) (g : γ → M P ρ τ) : M P ρ τ :=
  .LQ ri hd ex k (fun p => .I (decide (p.1 < m)) (.JF n hd (x p.1 p.2) p.1) (.R (.inr (.inl p.2)))) s f g
end Go.Pv
namespace Go.Pv
open Go.RowKit
theorem mrg_any (t : T) : mrg t .any = .any := by cases t <;> simp only [mrg]
theorem mrg_fgL (id : Nat) : ∀ (l : List T), mrgL l (fgL id l) = fgL id l
  | [] => by simp only [mrgL, fgL]
  | x :: l => by
    simp only [fgL, mrgL, mrg_fgL id l]
    cases names id x <;> simp only [cond_true, cond_false, mrg_any, mrg_self]
theorem mrg_fgB (id : Nat) (b : Blk) : mrgB b (fgB id b) = fgB id b := by
  cases b <;> simp only [fgB, mrgB, mrg_fgL]
theorem subT_of_mem : ∀ {l₁ l : List (Nat × T)}, (∀ k t, (k, t) ∈ l₁ → ∃ t', look l k = some t' ∧ mrg t' t = t) → subT l₁ l
  | [], _, _ => trivial
  | (k, t) :: r, l, h => ⟨h k t (List.mem_cons_self ..), subT_of_mem fun k t hm => h k t (List.mem_cons_of_mem _ hm)⟩
theorem subB_of_mem : ∀ {l₁ l : List (Nat × Blk)}, (∀ k t, (k, t) ∈ l₁ → ∃ t', look l k = some t' ∧ mrgB t' t = t) → subB l₁ l
  | [], _, _ => trivial
  | (k, t) :: r, l, h => ⟨h k t (List.mem_cons_self ..), subB_of_mem fun k t hm => h k t (List.mem_cons_of_mem _ hm)⟩
theorem rmv_mem : ∀ {tm : List (Nat × T)} {ds : List Nat} {k : Nat} {t : T}, (k, t) ∈ rmv ds tm → isIn k ds = false ∧ look tm k = some t
  | [], _, _, _, h => by cases h
  | (j, x) :: r, ds, k, t, h => by
    unfold rmv at h
    cases hj : isIn j ds <;> rw [hj] at h <;> simp only [cond_true, cond_false] at h
    · rcases List.mem_cons.1 h with h | h
      · cases h; exact ⟨hj, by simp [look]⟩
      · obtain ⟨h1, h2⟩ := rmv_mem h
        obtain ⟨h3, h4⟩ := isIn_cons.1 h1
        exact ⟨h4, by rw [look_cons h3]; exact h2⟩
    · obtain ⟨h1, h2⟩ := rmv_mem h
      have hjk : j ≠ k := fun e => by subst e; rw [hj] at h1; cases h1
      exact ⟨h1, by rw [look_cons hjk]; exact h2⟩
theorem fgT_mem {id : Nat} : ∀ {tm : List (Nat × T)} {k : Nat} {t : T}, (k, t) ∈ fgT id tm → (k, t) ∈ tm
  | [], _, _, h => by cases h
  | (j, x) :: r, k, t, h => by
    unfold fgT at h
    cases hj : names id x <;> rw [hj] at h <;> simp only [cond_true, cond_false] at h
    · rcases List.mem_cons.1 h with h | h
      · cases h; exact List.mem_cons_self ..
      · exact List.mem_cons_of_mem _ (fgT_mem h)
    · exact List.mem_cons_of_mem _ (fgT_mem h)
theorem rdT_mem {h : List (Nat × Nat)} : ∀ {tm : List (Nat × T)} {k : Nat} {t : T}, (k, t) ∈ rdT h tm → (k, t) ∈ tm
  | [], _, _, hm => by cases hm
  | (j, x) :: r, k, t, hm => by
    unfold rdT at hm
    split at hm
    · rcases List.mem_cons.1 hm with hm | hm
      · cases hm; exact List.mem_cons_self ..
      · exact List.mem_cons_of_mem _ (rdT_mem hm)
    · exact List.mem_cons_of_mem _ (rdT_mem hm)
theorem uniq_mem : ∀ {h : List (Nat × Blk)} {k : Nat} {b : Blk}, uniq h = true → (k, b) ∈ h → look h k = some b
  | [], _, _, _, h => by cases h
  | (j, c) :: r, k, b, hu, hm => by
    simp only [uniq, Bool.and_eq_true, Option.isNone_iff_eq_none] at hu
    rcases List.mem_cons.1 hm with e | hm
    · cases e; simp [look]
    · have := uniq_mem hu.2 hm
      have hne : j ≠ k := fun e => by subst e; rw [hu.1] at this; cases this
      rw [look_cons hne]; exact this
theorem fgH_mem {id : Nat} : ∀ {h : List (Nat × Blk)} {k : Nat} {c : Blk}, (k, c) ∈ fgH id h → ∃ b, (k, b) ∈ h ∧ c = fgB id b
  | [], _, _, h => by cases h
  | (j, x) :: r, k, c, h => by
    unfold fgH at h
    cases hj : Nat.beq j id <;> rw [hj] at h <;> simp only [cond_true, cond_false] at h
    · rcases List.mem_cons.1 h with h | h
      · cases h; exact ⟨x, List.mem_cons_self .., rfl⟩
      · obtain ⟨b, h1, h2⟩ := fgH_mem h
        exact ⟨b, List.mem_cons_of_mem _ h1, h2⟩
    · obtain ⟨b, h1, h2⟩ := fgH_mem h
      exact ⟨b, List.mem_cons_of_mem _ h1, h2⟩
theorem fg_sub {id : Nat} {tm : List (Nat × T)} {hp : List (Nat × Blk)} (hu : uniq hp = true) : Sub ⟨fgT id (rmv [] tm), fgH id hp⟩ ⟨tm, hp⟩ :=
  ⟨subT_of_mem fun k t hm => ⟨t, (rmv_mem (fgT_mem hm)).2, mrg_self t⟩, subB_of_mem fun k t hm => by
    obtain ⟨b, h1, rfl⟩ := fgH_mem hm
    exact ⟨b, uniq_mem hu h1, mrg_fgB id b⟩⟩
/-- What is claimed where a walk stands. -/
def TieW {ρf ρ : Type} (X : Cx) (Qf : ρf → St → Prop) (c : Cg ρf) (m : Option ρ) (Q : ρ → Exit → St → Prop) : Prop := match c with
  | .S ks σ => TieS X ks σ m Q
  | .O all _ ops ks σ => TieO X all ops ks σ m Q
  | .D id all _ bs ws ops vs tm0 hp0 _ _ ks => ops = all.toList.drop vs.length → bs = befs all.toList [] → StepsN X all bs ws tm0 hp0 vs → TieS X (.c (.region id all true) :: ks) ⟨tm0, hp0⟩ m Q
  | .X id σ => TieX X [] (.exit id) σ m Q
  | .R r => ∀ v, m = some v → ∀ σ', Qf r σ' → Q v .ret σ'
section
variable {ρ τ β : Type} {X : Cx} {Qp : ρ → St → Prop} {m : Option τ} {Q : τ → Exit → St → Prop}
theorem TieW.pre {c : Cg ρ} {m₁ : Option β} {k : β → Option τ} (h : ∀ y, m₁ = some y → TieW X Qp c (k y) Q) : TieW X Qp c (m₁.bind k) Q := by
  cases hm : m₁ with
  | some y => exact h y hm
  | none =>
    cases c with
    | S ks σ => exact TieS.fail
    | O all kb ops ks σ => exact TieO.fail
    | D => exact fun _ _ _ => TieS.fail
    | X id σ => exact fun r hr => by cases hr
    | R r => exact fun v hv => by cases hv
theorem StepsN.snoc {all : Array Oper} {bs : List (List Nat)} {ws : List (Nat × Nat)} {tm0 : List (Nat × T)} {hp0 : List (Nat × Blk)} {vs : List (T × Option (Nat × Blk))} {V : T} {N : Option (Nat × Blk)} {o : Oper} {b : List Nat} (h : StepsN X all bs ws tm0 hp0 vs) (ho : all.toList[vs.length]? = some o) (hb : bs[vs.length]? = some b)
    (hs : StepN X all o (minOf all.toList (vs.map (·.1)) tm0 (deps o)) (minH bs ws vs hp0 vs.length b) V N) : StepsN X all bs ws tm0 hp0 (vs ++ [(V, N)]) := by
  intro i V' N' o' b' hi ho' hb'
  rw [List.getElem?_append] at hi
  split at hi
  · rename_i hlt
    have := h i V' N' o' b' hi ho' hb'
    rw [List.take_append_of_le_length (by omega)]
    exact this
  · rename_i hge
    have hi0 : i - vs.length = 0 := by
      rcases Nat.eq_zero_or_pos (i - vs.length) with h0 | h0
      · exact h0
      · rw [List.getElem?_eq_none (Nat.succ_le_of_lt h0)] at hi; cases hi
    have hil : i = vs.length := by omega
    subst hil
    rw [hi0] at hi
    simp only [List.getElem?_cons_zero, Option.some.injEq, Prod.mk.injEq] at hi
    obtain ⟨rfl, rfl⟩ := hi
    rw [ho] at ho'; cases ho'
    rw [hb] at hb'; cases hb'
    rw [List.take_left' rfl]
    exact hs
theorem evalOp_newform {tab : Tab} {tm : List (Nat × T)} {hp : List (Nat × Blk)} {o : Oper} {t : T} {σ' : St} (hi : isNew o.op = true) (he : evalOp tab ⟨tm, hp⟩ o = some (t, σ')) :
    ∃ d b, o.dst = some d ∧ σ' = ⟨tm, (d, b) :: hp⟩ ∧ ((∃ ts, b = .box ts) ∨ t = .own d) := by
  rw [evalOp_eq] at he
  obtain ⟨dst, op, type, pos, aft, guard⟩ := o
  cases op <;> simp only [isNew, reduceCtorEq] at hi <;> simp only [evalOp0] at he
  case alloc e =>
    cases dst with
    | none => simp at he
    | some d =>
      cases hti : look tab e with
      | none => simp [hti] at he
      | some ti =>
        simp only [hti] at he
        revert he
        cases (Nat.blt d big && freshT d tm && freshB d hp && ti.zero.all Value.oneCell') <;> intro he <;> simp only [cond_true, cond_false, reduceCtorEq, Option.some.injEq, Prod.mk.injEq] at he
        exact ⟨d, _, rfl, he.2.symm, .inl ⟨_, rfl⟩⟩
  case box e x =>
    cases dst with
    | none => simp at he
    | some d =>
      cases hl : (val tm x).bind (cellsT hp) with
      | none => simp [hl] at he
      | some l =>
        simp only [hl] at he
        revert he
        cases (Nat.blt d big && freshT d tm && freshB d hp) <;> intro he <;> simp only [cond_true, cond_false, reduceCtorEq, Option.some.injEq, Prod.mk.injEq] at he
        exact ⟨d, _, rfl, he.2.symm, .inl ⟨_, rfl⟩⟩
  case buildSlice ty n parts =>
    cases dst with
    | none => simp at he
    | some d =>
      split at he <;> try (cases he; done)
      rename_i d' s0 e z0 hd' hti
      simp only [Option.some.injEq] at hd'
      subst hd'
      split at he <;> try (cases he; done)
      rename_i te hte
      split at he <;> try (cases he; done)
      rename_i l hl
      split at he <;> try (cases he; done)
      rename_i r hr
      revert he
      cases (Nat.blt d big && freshT d tm && freshB d hp && Nat.beq r.length (n * te.size) && Nat.ble (n * te.size) 1000000 && Nat.beq te.zero.length te.size && Nat.blt 0 te.size) <;> intro he <;> simp only [cond_true, cond_false, reduceCtorEq, Option.some.injEq, Prod.mk.injEq] at he
      exact ⟨d, _, rfl, he.2.symm, .inr he.1.symm⟩
  case makeSlice ty x y => cases he
theorem stD_ok {all : Array Oper} {bs : List (List Nat)} {ws : List (Nat × Nat)} {o : Oper} {vs : List (T × Option (Nat × Blk))} {tm0 : List (Nat × T)} {hp0 : List (Nat × Blk)} {fz kb : List Nat} {V : T} {N : Option (Nat × Blk)} (h : stD X.tab all.toList bs ws o vs tm0 hp0 fz kb = some (V, N)) :
    ∃ b, bs[vs.length]? = some b ∧ StepN X all o (minOf all.toList (vs.map (·.1)) tm0 (deps o)) (minH bs ws vs hp0 vs.length b) V N := by
  unfold stD at h
  split at h <;> try (cases h; done)
  rename_i b hb
  refine ⟨b, hb, ?_⟩
  dsimp only at h
  split at h <;> try (cases h; done)
  · rename_i hg
    simp only [Option.some.injEq, Prod.mk.injEq] at h
    obtain ⟨rfl, rfl⟩ := h
    exact .skip hg
  · rename_i hg
    cases hp : isPq o.op <;> rw [hp] at h <;> simp only [cond_true, cond_false] at h
    · cases hn : isNew o.op <;> rw [hn] at h <;> simp only [cond_true, cond_false, reduceCtorEq] at h
      · split at h <;> try (cases h; done)
        rename_i t x y ho
        split at h <;> try (cases h; done)
        rename_i id off ti l hx hti hy
        split at h <;> try (cases h; done)
        rename_i ts hbx
        cases hc : (Nat.beq l.length ti.size && Nat.ble (off + l.length) ts.length) <;> rw [hc] at h <;> simp only [cond_true, cond_false, reduceCtorEq, Option.some.injEq, Prod.mk.injEq] at h
        obtain ⟨rfl, rfl⟩ := h
        exact .store hg ho hx hti hy hbx hc
      split at h <;> try (cases h; done)
      rename_i V' tm' d' N' hp' d he hd
      obtain ⟨d2, b2, e1, e2, e3⟩ := evalOp_newform (tab := X.tab) hn he
      rw [hd] at e1
      cases e1
      simp only [St.mk.injEq, List.cons.injEq, Prod.mk.injEq] at e2
      obtain ⟨rfl, ⟨rfl, rfl⟩, rfl⟩ := e2
      have hs := StepN.new (X := X) hg hn hd he
      cases hz : isIn d' fz <;> rw [hz] at h <;> simp only [cond_true, cond_false] at h
      · simp only [Option.some.injEq, Prod.mk.injEq] at h
        obtain ⟨rfl, rfl⟩ := h
        exact hs
      · split at h <;> try (cases h; done)
        rename_i e sz n rs
        simp only [Option.some.injEq, Prod.mk.injEq] at h
        obtain ⟨rfl, rfl⟩ := h
        rcases e3 with ⟨ts, e3⟩ | rfl
        · cases e3
        · exact hs.frz hn hd
    · have hp := isPq_pure hp
      split at h <;> try (cases h; done)
      rename_i V' σ' he
      simp only [Option.some.injEq, Prod.mk.injEq] at h
      obtain ⟨rfl, rfl⟩ := h
      have := evalOp_pure (tab := X.tab) hp he
      subst this
      exact .pure hg hp he
theorem av_ok (hmx : X.P.follows .mixedOrders = true) (hQ : ∀ r l σ, ¬ Q r (.goto l) σ) (eb ed : Bool) : ∀ (n : Nat) (c : Cg ρ), TieW X Qp (av X.tab X.nt eb ed n c) m Q → TieW X Qp c m Q := by
  intro n
  induction n with
  | zero => intro c h; exact h
  | succ n ih =>
    intro c h
    unfold av at h
    split at h
    · split at h
      · exact TieS.seq (ih _ h)
      · exact TieS.skip (ih _ h)
      · exact TieS.label (ih _ h)
      · exact TieS.scope hQ (ih _ h)
      · cases eb <;> simp only [cond_true, cond_false] at h
        · exact h
        · exact TieS.block (ih _ h)
      · split at h
        · exact TieS.region (ih _ h)
        · cases ed <;> simp only [cond_true, cond_false] at h
          · exact h
          · rename_i ks σ _ id ops _
            have := ih _ h (by simp) rfl (fun i V N o b hi => by simp at hi)
            exact fun r hr a w hw => this r hr a w (hw.moreB (fun k t hk => (isIn_rmv hk).2) (fun k b hk => hk))
      · split at h
        · rename_i hp; exact TieS.exit hp (ih _ h)
        · rename_i hp; exact TieS.out hp h
      · exact h
    · exact TieS.endb (ih _ h)
    · exact TieO.nil (ih _ h)
    · split at h
      · rename_i he; exact stO_ok he (ih _ h)
      · exact h
    · rename_i id all h0 bs ws ops vs tm0 hp0 fz kb ks
      cases hb : Nat.beq vs.length h0 <;> rw [hb] at h <;> simp only [cond_true, cond_false] at h
      · split at h
        · exact h
        · rename_i o r
          split at h
          · rename_i x hx
            intro hops hbs hst
            have ho : all.toList[vs.length]? = some o := by rw [← List.head?_drop, ← hops]; rfl
            obtain ⟨V, N⟩ := x
            obtain ⟨b, hbb, hs⟩ := stD_ok hx
            exact ih _ h (by rw [List.length_append, ← List.drop_drop, ← hops]; rfl) hbs (hst.snoc ho hbb hs)
          · exact h
      · cases hd : drwB X.nt all.toList h0 ws tm0 hp0 vs <;> rw [hd] at h <;> simp only [cond_true, cond_false] at h
        · exact h
        · intro hops hbs hst
          have := Nat.eq_of_beq_eq_true hb
          subst this hops hbs
          exact TieS.drwN hmx hd hst fun r hr a w hw => ih _ h r hr a w (hw.moreB (fun _ _ h => h) (fun k b hk => by rw [look_dedup] at hk; exact hk))
    · exact h
theorem FrOk.old {o : Oper} {tm : List (Nat × T)} {hp : List (Nat × Blk)} (h : isNew o.op = false) : FrOk o none tm hp := ⟨fun h' => (by rw [h] at h'; cases h'), fun id h' => (by rw [apId_none] at h'; cases h')⟩
theorem here_stepD {id0 h00 : Nat} {all0 all : Array Oper} {bs0 : List (List Nat)} {ws0 : List (Nat × Nat)} {ops0 : List Oper} {vs0 : List (T × Option (Nat × Blk))} {tm00 : List (Nat × T)} {hp00 : List (Nat × Blk)} {fz0 kb0 kb fz : List Nat} {ks0 : List K} {q : Oper} {tm : List (Nat × T)} {hp : List (Nat × Blk)} {nx : T → Option (Nat × Blk) → Cg ρ} {V : T} {N : Option (Nat × Blk)}
    (h : here (.D id0 all0 h00 bs0 ws0 ops0 vs0 tm00 hp00 fz0 kb0 ks0 : Cg ρ) = some (all, kb, q, tm, hp, fz, nx)) (hs : StepN X all q tm hp V N) (hk : TieW X Qp (nx V N) m Q) : TieW X Qp (.D id0 all0 h00 bs0 ws0 ops0 vs0 tm00 hp00 fz0 kb0 ks0) m Q := by
  cases ops0 with
  | nil => simp [here] at h
  | cons q0 r =>
    simp only [here] at h
    split at h <;> try (cases h; done)
    rename_i b hb
    simp only [Option.some.injEq, Prod.mk.injEq] at h
    obtain ⟨rfl, rfl, rfl, rfl, rfl, rfl, rfl⟩ := h
    intro hops hbs hst
    have ho : all0.toList[vs0.length]? = some q0 := by rw [← List.head?_drop, ← hops]; rfl
    exact hk (by rw [List.length_append, ← List.drop_drop, ← hops]; rfl) hbs (hst.snoc ho hb hs)
theorem here_step {c : Cg ρ} {all : Array Oper} {kb fz : List Nat} {q : Oper} {tm : List (Nat × T)} {hp : List (Nat × Blk)} {nx : T → Option (Nat × Blk) → Cg ρ} {V : T} {N : Option (Nat × Blk)} (h : here c = some (all, kb, q, tm, hp, fz, nx)) (hs : StepN X all q tm hp V N)
    (hd : ∀ d, q.dst = some d → Nat.blt d X.nt = true) (hf : FrOk q N tm hp) (hk : TieW X Qp (nx V N) m Q) : TieW X Qp c m Q := by
  unfold here at h
  split at h <;> try (cases h; done)
  · simp only [Option.some.injEq, Prod.mk.injEq] at h
    obtain ⟨rfl, rfl, rfl, rfl, rfl, rfl, rfl⟩ := h
    intro r hr a w hw
    exact wpList_step fun K hK => hs _ _ (fun _ _ h => h) (fun _ _ h => h) hf hd a w hw K _ fun a' w' hs' => hK _ _ (hk r hr _ _ hs')
  · rename_i id all0 h0 bs ws q0 r vs tm0 hp0 fz0 kb0 ks
    split at h <;> try (cases h; done)
    rename_i b hb
    simp only [Option.some.injEq, Prod.mk.injEq] at h
    obtain ⟨rfl, rfl, rfl, rfl, rfl, rfl, rfl⟩ := h
    intro hops hbs hst
    have ho : all0.toList[vs.length]? = some q0 := by rw [← List.head?_drop, ← hops]; rfl
    exact hk (by rw [List.length_append, ← List.drop_drop, ← hops]; rfl) hbs (hst.snoc ho hb hs)
theorem Z1.ap_ok {z : Z1} {tm : List (Nat × T)} {hp : List (Nat × Blk)} {σ : St} {ks : List K} {e : Exit} (h : z.ap tm hp = some σ) (k : TieX X ks e σ m Q) : TieX X ks e ⟨tm, hp⟩ m Q := by
  cases z with
  | fr id =>
    simp only [Z1.ap] at h
    split at h <;> try (cases h; done)
    rename_i hb
    simp only [Option.some.injEq] at h; subst h
    exact TieX.frz id hb k
  | fb id =>
    simp only [Z1.ap] at h
    split at h <;> try (cases h; done)
    rename_i hb
    split at h <;> try (cases h; done)
    rename_i hc
    simp only [Option.some.injEq] at h; subst h
    exact TieX.frzBox id hb hc k
  | np j id e' sz path =>
    simp only [Z1.ap] at h
    split at h <;> try (cases h; done)
    rename_i hk
    split at h <;> try (cases h; done)
    rename_i hu
    cases hb : (Nat.blt id big && (freshT id tm && freshB id hp)) <;> rw [hb] at h <;> simp only [cond_true, cond_false, reduceCtorEq, Option.some.injEq] at h
    subst h
    simp only [Bool.and_eq_true] at hb
    exact TieX.nilP j id e' sz path hk hu hb.1 hb.2.1 hb.2.2 k
  | nb b id e' sz path =>
    simp only [Z1.ap] at h
    split at h <;> try (cases h; done)
    rename_i hk
    split at h <;> try (cases h; done)
    rename_i hu
    cases hb : (Nat.blt id big && (freshT id tm && freshB id hp)) <;> rw [hb] at h <;> simp only [cond_true, cond_false, reduceCtorEq, Option.some.injEq] at h
    subst h
    simp only [Bool.and_eq_true] at hb
    exact TieX.nilB b id e' sz path hk hu hb.1 hb.2.1 hb.2.2 k
  | rn l =>
    simp only [Z1.ap] at h
    cases hb : (uniq hp && renOk (l ++ idn l hp)) <;> rw [hb] at h <;> simp only [cond_true, cond_false, reduceCtorEq] at h
    rw [Bool.and_eq_true] at hb
    split at h <;> try (cases h; done)
    rename_i h1 h2
    simp only [Option.some.injEq] at h; subst h
    exact TieX.sub (σ' := ⟨rdT (l ++ idn l hp) (rmv [] tm), hp⟩) ⟨subT_of_mem fun k t hm => ⟨t, (rmv_mem (rdT_mem hm)).2, mrg_self t⟩, subB_of_mem fun k b hm => ⟨b, uniq_mem hb.1 hm, mrgB_self b⟩⟩ (TieX.ren _ hb.2 h1 h2 k)
  | dr id =>
    simp only [Z1.ap] at h
    cases hb : uniq hp <;> rw [hb] at h <;> simp only [cond_true, cond_false, reduceCtorEq, Option.some.injEq] at h
    subst h
    exact TieX.sub (fg_sub hb) k
theorem StepN.mk {α : Type} {all : Array Oper} {kb : List Nat} {o : Oper} {tmMin : List (Nat × T)} {hpMin : List (Nat × Blk)} {t e d s0 : Nat} {z0 : List Value} {te : TI} {x y : Operand} {k1 k2 : IntKind} {n : Int} {enc : α → List Tree} {z : α} {l : List α} (hl : makeM n z = some l)
    (ho : o.op = .makeSlice t x y) (hd : o.dst = some d) (hg : gk all.toList kb tmMin o.guard = some true) (hx : val tmMin x = some (.t (.v (.int k1 n)))) (hy : val tmMin y = some (.t (.v (.int k2 n))))
    (hty : look X.tab t = some ⟨s0, .slice e, z0⟩) (hte : look X.tab e = some te) (hz : te.zero.length = te.size) (hpos : Nat.blt 0 te.size = true) (henc : enc z = te.zero.map fun v => nilTree (.v v)) (hbig : Nat.blt d big = true) :
    StepN X all o tmMin hpMin (.own d) (some (d, .rows e te.size l.length (l.map enc))) := by
  intro tm hp hm hh hf hd' a w ⟨S, E, hk⟩ K Q' hK
  unfold makeM at hl
  split at hl <;> try (cases hl; done)
  rename_i hn
  simp only [Option.some.injEq] at hl
  obtain ⟨j, rfl⟩ : ∃ j : Nat, n = (j : Int) := ⟨n.toNat, by omega⟩
  simp only [Int.toNat_natCast] at hl
  obtain ⟨dd, hu, ho2⟩ : ∃ d, X.P.underlying t = some d ∧ TD.ok X.P (.slice e) d := by
    obtain ⟨i, d, _, _, hu, hdd, _⟩ := X.htab t _ hty
    exact ⟨d, hu, hdd⟩
  simp only [TD.ok] at ho2
  subst ho2
  have hfr := hf.1 (by rw [ho]; rfl) d hd
  rw [Bool.and_eq_true] at hfr
  obtain ⟨v', w', E', hr, hE, hok⟩ := hk.make (P := X.P) (n := j) (c := enc z) hbig hfr.1 hfr.2 hu (X.htab e _ hte) hz (Nat.le_of_ble_eq_true hpos) henc (by omega) k1 k2
  rw [guardT_ok hk (guardT_more hm (gk_ok hg)), if_pos rfl]
  unfold Oper.wp
  have hexec : (execOp a.eval o).run X.P w = .ok (.value v') w' := by
    unfold execOp
    simp only [ho, (hk.val (val_more hm hx)).tv, (hk.val (val_more hm hy)).tv, Sem.run_bind, hr, Result.andThen_ok, Sem.run_pure]
  rw [hexec]
  have e1 : l.map enc = List.replicate j (enc z) := by rw [← hl]; simp
  have e2 : l.length = j := by rw [← hl]; simp
  refine hK (a.put o.dst v') w' ?_
  rw [e1, e2]
  simp only [newB, hd]
  rw [← hd]
  exact Ok.pt hok (.own d v' hE) hd'
theorem setV_same {x : T} : ∀ {vs : List (T × Option (Nat × Blk))} {j : Nat} {N : Option (Nat × Blk)}, vs[j]? = some (x, N) → setV x j vs = vs
  | [], j, N, h => by simp at h
  | p :: r, 0, N, h => by simp only [List.getElem?_cons_zero, Option.some.injEq] at h; subst h; rfl
  | p :: r, j + 1, N, h => by rw [setV, setV_same (by simpa using h)]
theorem tst_ok {id h j : Nat} {all : Array Oper} {bs : List (List Nat)} {ws : List (Nat × Nat)} {q : Oper} {r : List Oper} {vs : List (T × Option (Nat × Blk))} {tm0 : List (Nat × T)} {hp0 : List (Nat × Blk)} {fz kb kb' : List Nat} {ks : List K} {b : Bool} {m₁ m₂ : Option τ} (ht : tstQ q vs = some (j, b))
    (h₁ : TieW X Qp (.D id all h bs ws (q :: r) (setV (.t (.v (.bool true))) j vs) tm0 hp0 fz kb' ks : Cg ρ) m₁ Q) (h₂ : TieW X Qp (.D id all h bs ws (q :: r) (setV (.t (.v (.bool false))) j vs) tm0 hp0 fz kb' ks : Cg ρ) m₂ Q) :
    TieW X Qp (.D id all h bs ws (q :: r) vs tm0 hp0 fz kb ks : Cg ρ) (bif b then m₁ else m₂) Q := by
  unfold tstQ at ht
  split at ht <;> try (cases ht; done)
  split at ht <;> try (cases ht; done)
  rename_i b0 hv
  simp only [Option.some.injEq, Prod.mk.injEq] at ht
  obtain ⟨e1, e2⟩ := ht
  subst e1 e2
  cases b0
  · rw [setV_same hv] at h₂; exact h₂
  · rw [setV_same hv] at h₁; exact h₁
theorem tstO_ok {d : Nat} {all : Array Oper} {kb kb' : List Nat} {q : Oper} {r : List Oper} {tm : List (Nat × T)} {hp : List (Nat × Blk)} {ks : List K} {b : Bool} {m₁ m₂ : Option τ} (ht : tstO all.toList tm q = some (d, b))
    (h₁ : TieW X Qp (.O all kb' (q :: r) ks ⟨(d, .t (.v (.bool true))) :: tm, hp⟩ : Cg ρ) m₁ Q) (h₂ : TieW X Qp (.O all kb' (q :: r) ks ⟨(d, .t (.v (.bool false))) :: tm, hp⟩ : Cg ρ) m₂ Q) :
    TieW X Qp (.O all kb (q :: r) ks ⟨tm, hp⟩ : Cg ρ) (bif b then m₁ else m₂) Q := by
  have hl : look tm d = some (.t (.v (.bool b))) := by
    unfold tstO at ht
    split at ht <;> try (cases ht; done)
    split at ht <;> try (cases ht; done)
    split at ht <;> try (cases ht; done)
    split at ht <;> try (cases ht; done)
    rename_i hv
    simp only [Option.some.injEq, Prod.mk.injEq] at ht
    obtain ⟨e1, e2⟩ := ht
    subst e1 e2
    exact hv
  cases b
  · intro r hr a w hw
    exact h₂ r hr a w (hw.moreB (fun k t hk => by
      simp only [look] at hk
      by_cases hdk : d = k
      · subst hdk; simp only [Nat.beq_refl, cond_true, Option.some.injEq] at hk; subst hk; exact hl
      · simp only [beq_ne hdk, cond_false] at hk; exact hk) (fun k b hk => hk))
  · intro r hr a w hw
    exact h₁ r hr a w (hw.moreB (fun k t hk => by
      simp only [look] at hk
      by_cases hdk : d = k
      · subst hdk; simp only [Nat.beq_refl, cond_true, Option.some.injEq] at hk; subst hk; exact hl
      · simp only [beq_ne hdk, cond_false] at hk; exact hk) (fun k b hk => hk))
end
end Go.Pv
namespace Go.Pv
open Go.RowKit
theorem Out.never {ρ : Type} {Qf : ρ → St → Prop} {l : Nat} {σ : St} : ∀ (o : Out ρ), ¬ o.den Qf (.goto l) σ
  | .nx _, h => by cases h.1
  | .ex _ _, h => by cases h.1
  | .rt _, h => by cases h.1
  | .top _, h => by rcases h.1 with h | h <;> cases h
  | .no, h => h
section
variable {P : Program} {ρ τ β : Type} {X : Cx} {Qf : ρ → St → Tr}
abbrev QfP (Qf : ρ → St → Tr) : ρ → St → Prop := fun r σ => (Qf r σ).den
theorem leaf_ok {v : τ} {c : Cg ρ} {o : τ → Out ρ} (h : (leafTr Qf c (o v)).den) : TieW X (QfP Qf) c (some v) (fun v e σ' => (o v).den (QfP Qf) e σ') := by
  unfold leafTr at h
  split at h
  · rename_i he; exact TieS.leaf (by rw [he]; exact ⟨rfl, subTr_ok h⟩)
  · rename_i he; exact TieS.leaf (by rw [he]; exact ⟨.inr rfl, h⟩)
  · rename_i he; exact TieS.ret (by rw [he]; exact ⟨rfl, h⟩)
  · rename_i he; exact TieS.ret (by rw [he]; exact ⟨.inl rfl, h⟩)
  · rename_i id σ id' σ₁ he
    cases hb : Nat.beq id id' <;> rw [hb] at h
    · exact h.elim
    · have := Nat.eq_of_beq_eq_true hb
      subst this
      exact TieX.exitOut rfl (by rw [he]; exact ⟨rfl, subTr_ok h⟩)
  · rename_i he
    intro v' hv σ' hq; cases hv
    have := V.eq h; subst this
    show (o v).den _ _ _
    rw [he]; exact ⟨rfl, hq⟩
  · rename_i he
    intro v' hv σ' hq; cases hv
    have := V.eq h; subst this
    show (o v).den _ _ _
    rw [he]; exact ⟨.inl rfl, hq⟩
  · exact h.elim
/-- A piece of code, then what follows its way of ending. -/
theorem cont_ok {ks : List K} {σ σ' : St} {e : Exit} {m : Option τ} {Q : τ → Exit → St → Prop} {s : Sh ρ} (hd : (outOf σ s).den (QfP Qf) e σ') (h : TieW X (QfP Qf) (cont ks σ s) m Q) : TieX X ks e σ' m Q := by
  cases s with
  | nx l => obtain ⟨rfl, hs⟩ := hd; exact TieX.sub hs h
  | ex id l =>
    obtain ⟨rfl, hs⟩ := hd
    unfold cont at h
    simp only at h
    split at h
    · rename_i hp; exact TieX.exit hp (TieX.sub hs h)
    · rename_i hp
      intro r hr a w hw
      exact after_exit_none hp (h r hr a w (hw.sub hs))
  | rt r =>
    obtain ⟨rfl, hq⟩ := hd
    intro v hv a w hw
    exact after_ret ks ⟨σ', hw, h v hv σ' hq⟩
theorem outLp_of {σ σ' : St} {e : Exit} {s : Sh ρ} (h : (outLp σ s).den (QfP Qf) e σ') : e ≠ .normal ∧ (outOf σ s).den (QfP Qf) e σ' := by
  cases s with
  | nx l => exact h.elim
  | ex id l => obtain ⟨rfl, hs⟩ := h; exact ⟨by simp, rfl, hs⟩
  | rt r => obtain ⟨rfl, hs⟩ := h; exact ⟨by simp, rfl, hs⟩
theorem notN_of {o : Out ρ} {e : Exit} {σ' : St} (h : (notN o).den (QfP Qf) e σ') : e ≠ .normal ∧ o.den (QfP Qf) e σ' := by
  cases o with
  | nx l => exact h.elim
  | ex id l => exact ⟨by rw [h.1]; simp, h⟩
  | rt r => exact ⟨by rw [h.1]; simp, h⟩
  | top r => exact h.elim
  | no => exact h.elim
theorem Out.calm {σ : St} : ∀ (o : Out ρ), (∀ ch, ¬ o.den (QfP Qf) (.panic ch) σ) ∧ ¬ o.den (QfP Qf) .outgrown σ
  | .nx _ => ⟨(fun _ h => by cases h.1), (fun h => by cases h.1)⟩
  | .ex _ _ => ⟨(fun _ h => by cases h.1), (fun h => by cases h.1)⟩
  | .rt _ => ⟨(fun _ h => by cases h.1), (fun h => by cases h.1)⟩
  | .top _ => ⟨(fun _ h => by rcases h.1 with h | h <;> cases h), (fun h => by rcases h.1 with h | h <;> cases h)⟩
  | .no => ⟨fun _ h => h, fun h => h⟩
theorem noE_pop {id : Nat} : ∀ {ks : List K}, noE ks = true → popTo id ks = none
  | [], _ => rfl
  | .c _ :: r, h => noE_pop (ks := r) h
  | .e _ :: _, h => by cases h
theorem grpQ_ok {all : List Oper} {tm : List (Nat × T)} {ops g r : List Oper} {d q : Nat} {b : Bool} (h : grpQ all tm ops = some (d, b, g, q, r)) : look tm d = some (.t (.v (.bool b))) ∧ ops = g ++ r := by
  unfold grpQ at h
  split at h <;> try (cases h; done)
  split at h <;> try (cases h; done)
  split at h <;> try (cases h; done)
  split at h <;> try (cases h; done)
  split at h <;> try (cases h; done)
  rename_i hl hc
  simp only [Option.some.injEq, Prod.mk.injEq] at h
  obtain ⟨rfl, rfl, rfl, rfl, rfl⟩ := h
  exact ⟨hl, cut_ok hc⟩
theorem TieO.grp {ks : List K} {m₁ m₂ : Option Bool} {k : Bool → Option τ} {Q : τ → Exit → St → Prop} {all : Array Oper} {tm : List (Nat × T)} {hp : List (Nat × Blk)} {ops g r : List Oper} {d q : Nat} {b : Bool} {σ₁ : Bool → St} (hg : grpQ all.toList tm ops = some (d, b, g, q, r))
    (h₁ : TieO X all g [] ⟨(d, .t (.v (.bool true))) :: tm, hp⟩ m₁ (fun v e σ' => e = .normal ∧ Sub (σ₁ v) σ')) (h₂ : TieO X all g [] ⟨(d, .t (.v (.bool false))) :: tm, hp⟩ m₂ (fun v e σ' => e = .normal ∧ Sub (σ₁ v) σ'))
    (h : ∀ v, TieO X all r ks (σ₁ v) (k v) Q) : TieO X all ops ks ⟨tm, hp⟩ ((bif b then m₁ else m₂).bind k) Q := by
  obtain ⟨hl, rfl⟩ := grpQ_ok hg
  refine TieO.bind g.length σ₁ ?_ (fun v _ => ?_)
  · rw [List.take_left]
    exact TieO.split d hl h₁ h₂
  · rw [List.drop_left]
    exact h v
theorem srcTr_ok {α : Type} {enc : α → List Tree} {r : List α} {sz : Nat} {hp : List (Nat × Blk)} {x : Option T} (h : (srcTr enc r sz hp x).den) :
    ∃ m, x = some (.t (.sl m (r.map enc))) ∨ ∃ i2 e', x = some (.own i2) ∧ look hp i2 = some (.rows e' sz m (r.map enc)) := by
  unfold srcTr at h
  split at h
  · rename_i n rs; have := V.eq h; subst this; exact ⟨n, .inl rfl⟩
  · rename_i i2
    split at h
    · rename_i e s2 n rs hb
      cases hz : Nat.beq s2 sz <;> rw [hz] at h
      · exact h.elim
      · have := Nat.eq_of_beq_eq_true hz
        subst this
        have := V.eq h; subst this
        exact ⟨n, .inr ⟨i2, e, rfl, hb⟩⟩
    · exact h.elim
  · exact h.elim
theorem GF.as {α : Type} {enc : α → List Tree} {l : List α} {i : Int} : ∀ {f : GF}, V.gf ⟨f.enc, f.l, f.i⟩ = V.gf ⟨enc, l, i⟩ → ∃ y : α, f = ⟨enc, l, i, y⟩
  | ⟨fe, fl, fi, fy⟩, h => by
    simp only [V.gf.injEq] at h
    cases h
    exact ⟨fy, rfl⟩
theorem bad_elim {b : Bool} {x : Tr} (h : (bif b then x else .bad).den) : b = true ∧ x.den := by
  cases b
  · exact h.elim
  · exact ⟨rfl, h⟩
theorem U1.known {Γ : List GF} (hΓ : ∀ f ∈ Γ, f.ok) : ∀ {τ : Type} {u : U1 τ} {y : τ}, u.m = some y → ∀ f ∈ u.k y Γ, f.ok
  | _, .ap _ _ _ _, y, h, f, hf => hΓ f hf
  | _, .an _ _ _ _, y, h, f, hf => hΓ f hf
  | _, .st enc l i z n, y, h, f, hf => by
    rcases List.mem_cons.1 hf with rfl | hf
    · exact setM_get h
    · exact hΓ f hf
  | _, .sF _ _ _ _, y, h, f, hf => hΓ f hf
  | _, .sO _ _ _ _, y, h, f, hf => hΓ f hf
  | _, .cp _ _ _, y, h, f, hf => hΓ f hf
theorem putT_hp {nt : Nat} {d : Option Nat} {t : T} {tm tm' : List (Nat × T)} {h : List (Nat × Blk)} (hp : List (Nat × Blk)) (hx : putT nt d t ⟨tm, []⟩ = some ⟨tm', h⟩) : putT nt d t ⟨tm, hp⟩ = some ⟨tm', hp⟩ := by
  unfold putT at hx ⊢
  cases d with
  | none => simp only [Option.some.injEq, St.mk.injEq] at hx ⊢; exact ⟨hx.1, trivial⟩
  | some d =>
    dsimp only at hx ⊢
    cases hd : Nat.blt d nt <;> rw [hd] at hx <;> simp only [cond_true, cond_false, reduceCtorEq, Option.some.injEq, St.mk.injEq] at hx ⊢
    exact ⟨hx.1, trivial⟩
theorem U1.ok {all : Array Oper} {kb : List Nat} {ks : List K} {Γ : List GF} (hΓ : ∀ f ∈ Γ, f.ok) {tm : List (Nat × T)} {hp : List (Nat × Blk)} {o : Oper} {rest : List Oper} {Q : τ → Exit → St → Prop} (hg : gk all.toList kb tm o.guard = some true) :
    ∀ {β : Type} {u : U1 β} {t : Tr} {σ : β → St} {k : β → Option τ}, u.q X.tab X.nt Γ tm hp o = some (t, σ) → t.den → (∀ y, u.m = some y → TieO X all rest ks (σ y) (k y) Q) → TieO X all (o :: rest) ks ⟨tm, hp⟩ (u.m.bind k) Q
  | _, .ap (α := α) enc l r id, t, σ, k, h, ht, hr => by
    simp only [U1.q] at h
    split at h <;> try (cases h; done)
    rename_i args tys d ho hd
    split at h <;> try (cases h; done)
    rename_i s x t' t'' ha hb
    split at h <;> try (cases h; done)
    rename_i s0 e z0 hty
    split at h <;> try (cases h; done)
    rename_i te hte
    cases hc : (Nat.beq t' t'' && Nat.blt d X.nt && Nat.beq te.zero.length te.size && Nat.blt id big && freshT id (fgT id (rmv [] tm)) && freshB id (fgH id hp) && uniq hp) <;> rw [hc] at h <;> simp only [cond_true, cond_false, reduceCtorEq, Option.some.injEq, Prod.mk.injEq] at h
    obtain ⟨rfl, rfl⟩ := h
    simp only [Bool.and_eq_true] at hc
    obtain ⟨⟨⟨⟨⟨⟨c1, c2⟩, c3⟩, c4⟩, c5⟩, c6⟩, c7⟩ := hc
    have := Nat.eq_of_beq_eq_true c1
    subst this
    obtain ⟨h1, h2, h3, h4⟩ := ht
    have h1 := V.eq h1
    have h2 := V.eq h2
    have ha : args = #[s, x] := by cases args; simp_all
    have hb : tys = #[t', t'] := by cases tys; simp_all
    subst ha hb
    obtain ⟨m, hx⟩ := srcTr_ok h3
    have hs : ∃ n, (val tm s = some (.own id) ∧ look hp id = some (.rows e te.size n (l.map enc))) ∨ (val tm s = some (.t (.v (.slice none 0 0))) ∧ l = []) := by
      split at h4
      · rename_i i hsv
        split at h4
        · rename_i e' sz n rs hbl
          cases hq : (Nat.beq i id && Nat.beq e' e && Nat.beq sz te.size) <;> rw [hq] at h4
          · exact h4.elim
          · simp only [Bool.and_eq_true] at hq
            have q1 := Nat.eq_of_beq_eq_true hq.1.1
            have q2 := Nat.eq_of_beq_eq_true hq.1.2
            have q3 := Nat.eq_of_beq_eq_true hq.2
            subst q1 q2 q3
            have := V.eq h4; subst this
            exact ⟨n, .inl ⟨hsv, hbl⟩⟩
        · exact h4.elim
      · rename_i hsv
        have := V.eq h4; subst this
        exact ⟨0, .inr ⟨hsv, rfl⟩⟩
      · exact h4.elim
    obtain ⟨n, hs⟩ := hs
    have hen : ∀ y, (enc y).length = te.size := fun y => congrFun h1 y
    have hon : ∀ y, (enc y).all oneTree = true := fun y => congrFun h2 y
    show TieO X all _ ks _ ((appendM l r).bind k) Q
    cases hm : appendM l r with
    | none => exact TieO.fail
    | some y =>
      have hy : y = l ++ r := by
        unfold appendM at hm
        split at hm
        · exact (Option.some.inj hm).symm
        · cases hm
      subst hy
      have hk := hr (l ++ r) hm
      rw [← hm]
      rcases hx with hx | ⟨i2, e', hx1, hx2⟩
      · exact TieO.append (e' := 0) ho hd c2 (gk_ok hg) hty hte (Nat.eq_of_beq_eq_true c3) hen hon hs (.inl hx) (fg_sub c7) c4 c5 c6 hk
      · exact TieO.append ho hd c2 (gk_ok hg) hty hte (Nat.eq_of_beq_eq_true c3) hen hon hs (.inr ⟨i2, hx1, hx2⟩) (fg_sub c7) c4 c5 c6 hk
  | _, .an enc n z id, t, σ, k, h, ht, hr => by
    simp only [U1.q] at h
    split at h <;> try (cases h; done)
    rename_i args tys d ho hd
    split at h <;> try (cases h; done)
    rename_i s x t' u ha hb
    split at h <;> try (cases h; done)
    rename_i s0 e z0 s1 kk z1 ik n' hty htu hs hx
    split at h <;> try (cases h; done)
    rename_i te hte
    cases hc : (Nat.blt d X.nt && Nat.beq te.zero.length te.size && Nat.blt 0 te.size && Nat.blt id big && freshT id tm && freshB id hp) <;> rw [hc] at h <;> simp only [cond_true, cond_false, reduceCtorEq, Option.some.injEq, Prod.mk.injEq] at h
    obtain ⟨rfl, rfl⟩ := h
    simp only [Bool.and_eq_true] at hc
    obtain ⟨⟨⟨⟨⟨c1, c2⟩, c3⟩, c4⟩, c5⟩, c6⟩ := hc
    have h1 := V.eq ht.1
    have h2 := V.eq ht.2
    subst h1
    have ha : args = #[s, x] := by cases args; simp_all
    have hb : tys = #[t', u] := by cases tys; simp_all
    subst ha hb
    exact TieO.appendN id z ho hd c1 (gk_ok hg) hs hx hty htu hte (Nat.eq_of_beq_eq_true c2) c3 h2 c4 c5 c6 hr
  | _, .st enc l i y n, t, σ, k, h, ht, hr => by
    simp only [U1.q] at h
    split at h <;> try (cases h; done)
    rename_i t' p x f ho hd hf
    split at h <;> try (cases h; done)
    rename_i id i' sz off ti cs hp1 hti hx
    split at h <;> try (cases h; done)
    rename_i e sz' n' rs lt hb htr
    cases hc : (Nat.beq sz sz' && Nat.beq lt.length ti.size && Nat.ble (off + lt.length) sz) <;> rw [hc] at h <;> simp only [cond_true, cond_false, reduceCtorEq, Option.some.injEq, Prod.mk.injEq] at h
    obtain ⟨rfl, rfl⟩ := h
    simp only [Bool.and_eq_true] at hc
    obtain ⟨⟨c1, c2⟩, c3⟩ := hc
    have := Nat.eq_of_beq_eq_true c1
    subst this
    obtain ⟨h1, h2, h3⟩ := ht
    have hfo := hΓ f (List.mem_of_getElem? hf)
    obtain ⟨fy, rfl⟩ := GF.as h1
    have h2 := V.eq h2
    have h3 := V.eq h3
    simp only [Prod.mk.injEq] at h2
    obtain ⟨rfl, rfl⟩ := h2
    cases hv : val tm x with
    | none => simp [hv] at hx
    | some vx =>
      simp only [hv, Option.bind_some] at hx
      exact TieO.storeY y lt hfo ho hd (gk_ok hg) hp1 hb hti hv hx (trees_ok htr) c2 c3 h3 hr
  | _, .sF enc l a b, t, σ, k, h, ht, hr => by
    simp only [U1.q] at h
    split at h <;> try (cases h; done)
    rename_i t' x lo hi d ho hd
    split at h <;> try (cases h; done)
    rename_i s0 e z0 n rs a' b' hty hx hlo hhi
    split at h <;> try (cases h; done)
    rename_i te hte
    cases hc : Nat.blt d X.nt <;> rw [hc] at h <;> simp only [cond_true, cond_false, reduceCtorEq, Option.some.injEq, Prod.mk.injEq] at h
    obtain ⟨rfl, rfl⟩ := h
    obtain ⟨h1, h2, h3⟩ := ht
    have h1 := V.eq h1
    have h2 := V.eq h2
    have h3 := V.eq h3
    simp only [Prod.mk.injEq] at h2
    obtain ⟨rfl, rfl⟩ := h2
    subst h1
    exact TieO.sliceF ho hd hc (gk_ok hg) hx hty hte (fun y => congrFun h3 y) hlo hhi hr
  | _, .sO enc l b id, t, σ, k, h, ht, hr => by
    simp only [U1.q] at h
    split at h <;> try (cases h; done)
    rename_i t' x hi d ho hd
    split at h <;> try (cases h; done)
    rename_i s0 e' z0 i b' hty hx hhi
    split at h <;> try (cases h; done)
    rename_i te e sz n rs hte hb
    cases hc : (Nat.blt d X.nt && Nat.beq te.size sz && Nat.blt id big && freshT id (fgT i (rmv [] tm)) && freshB id (fgH i hp) && freshB i (fgH i hp) && uniq hp) <;> rw [hc] at h <;> simp only [cond_true, cond_false, reduceCtorEq, Option.some.injEq, Prod.mk.injEq] at h
    obtain ⟨rfl, rfl⟩ := h
    simp only [Bool.and_eq_true] at hc
    obtain ⟨⟨⟨⟨⟨⟨c1, c2⟩, c3⟩, c4⟩, c5⟩, c6⟩, c7⟩ := hc
    have h1 := V.eq ht.1
    have h2 := V.eq ht.2
    subst h1 h2
    exact TieO.sliceO ho hd c1 (gk_ok hg) hx hb hty hte hhi (fg_sub c7) c3 c4 c5 c6 hr
  | _, .cp enc l r, t, σ, k, h, ht, hr => by
    simp only [U1.q] at h
    split at h <;> try (cases h; done)
    rename_i args tys ho
    split at h <;> try (cases h; done)
    rename_i s x t' t'' ha hb
    split at h <;> try (cases h; done)
    rename_i s0 e' z0 id tm' hp0 hty hs hput
    split at h <;> try (cases h; done)
    rename_i te e sz n rs hte hbl
    cases hc : Nat.beq sz te.size <;> rw [hc] at h <;> simp only [cond_true, cond_false, reduceCtorEq, Option.some.injEq, Prod.mk.injEq] at h
    obtain ⟨rfl, rfl⟩ := h
    have := Nat.eq_of_beq_eq_true hc
    subst this
    obtain ⟨h1, h2, h3, h4⟩ := ht
    have h1 := V.eq h1
    have h2 := V.eq h2
    have h4 := V.eq h4
    subst h4
    have ha : args = #[s, x] := by cases args; simp_all
    have hb : tys = #[t', t''] := by cases tys; simp_all
    subst ha hb
    obtain ⟨m, hx⟩ := srcTr_ok h3
    have hk := hr (copyL l r) rfl
    rcases hx with hx | ⟨i2, e2, hx1, hx2⟩
    · exact TieO.copyO (e2 := 0) ho (gk_ok hg) hty hte (fun y => congrFun h1 y) (fun y => congrFun h2 y) hs hbl (.inl hx) (putT_hp _ hput) hk
    · exact TieO.copyO ho (gk_ok hg) hty hte (fun y => congrFun h1 y) (fun y => congrFun h2 y) hs hbl (.inr ⟨i2, hx1, hx2⟩) (putT_hp _ hput) hk
theorem gk_more {all : List Oper} {kb : List Nat} {tm tm' : List (Nat × T)} {g : Option (Nat × Bool)} {b : Bool} (hm : more tm tm') (h : gk all kb tm g = some b) : gk all kb tm' g = some b := by
  cases g with
  | none => exact h
  | some p =>
    obtain ⟨j, want⟩ := p
    simp only [gk] at h ⊢
    split at h <;> try (cases h; done)
    rename_i ho
    try simp only [ho]
    split at h <;> try (cases h; done)
    rename_i hd
    try simp only [hd]
    split at h <;> try (cases h; done)
    · rename_i hl; rw [hm _ _ hl]; exact h
    · rename_i hl; rw [hm _ _ hl]; exact h
theorem U1.qD_ok {all : Array Oper} {kb : List Nat} {Γ : List GF} (hΓ : ∀ f ∈ Γ, f.ok) {tmMin : List (Nat × T)} {hpMin : List (Nat × Blk)} {o : Oper} (hg : gk all.toList kb tmMin o.guard = some true) :
    ∀ {β : Type} {u : U1 β} {t : Tr} {f : β → T × Option (Nat × Blk)}, u.qD X.tab X.nt Γ tmMin hpMin o = some (t, f) → t.den → ∀ y, u.m = some y → StepN X all o tmMin hpMin (f y).1 (f y).2
  | _, .st enc l i z n, t, f, h, ht, y, hy => by
    simp only [U1.qD] at h
    split at h <;> try (cases h; done)
    rename_i t' σ hq
    split at h <;> try (cases h; done)
    rename_i ty p x hop hd
    split at h <;> try (cases h; done)
    rename_i id i' sz off hp1
    split at h <;> try (cases h; done)
    rename_i e sz2 n2 rs hb
    simp only [Option.some.injEq, Prod.mk.injEq] at h
    obtain ⟨rfl, rfl⟩ := h
    refine StepN.ofTie fun tm hp hm hh => ⟨⟨tm, hput hp id (.rows e sz y.length (y.map enc))⟩, ?_, ?_, ?_⟩
    · intro k u hk; simpa [pt, hd] using hk
    · intro k c hk; rw [look_hput2 (hh _ _ hb)]; exact hk
    · have hq2 : (U1.st enc l i z n).q X.tab X.nt Γ tm hp o = some (t', fun l' => ⟨tm, hput hp id (.rows e sz l'.length (l'.map enc))⟩) := by
        simp only [U1.q] at hq ⊢
        split at hq <;> try (cases hq; done)
        rename_i t2 p2 x2 g hop2 hd2 hΓn
        rw [hop] at hop2
        simp only [Op.store.injEq] at hop2
        obtain ⟨e1, e2, e3⟩ := hop2
        subst e1 e2 e3
        split at hq <;> try (cases hq; done)
        rename_i hp2 hti hx
        rw [hp1] at hp2
        simp only [Option.some.injEq, T.pe.injEq] at hp2
        obtain ⟨e1, e2, e3, e4⟩ := hp2
        subst e1 e2 e3 e4
        split at hq <;> try (cases hq; done)
        rename_i hb2 hlt
        rw [hb] at hb2
        simp only [Option.some.injEq, Blk.rows.injEq] at hb2
        obtain ⟨e1, e2, e3, e4⟩ := hb2
        subst e1 e2 e3 e4
        have hx' : ∀ cs, (val tmMin x).bind (cellsT hpMin) = some cs → (val tm x).bind (cellsT hp) = some cs := fun cs hc => by
          cases hv : val tmMin x with
          | none => simp [hv] at hc
          | some u => rw [val_more hm hv]; rw [hv] at hc; exact cellsT_moreH hh hc
        simp only [val_more hm hp1, hti, hx' _ hx, hh _ _ hb, hlt]
        revert hq
        cases (Nat.beq sz sz2 && Nat.beq _ _ && Nat.ble _ sz) <;> intro hq <;> simp only [cond_true, cond_false, reduceCtorEq, Option.some.injEq, Prod.mk.injEq] at hq ⊢
        exact ⟨hq.1, trivial⟩
      have := U1.ok (X := X) (all := all) (rest := []) (ks := []) (k := fun _ => some ()) (Q := fun _ e' σ => e' = .normal ∧ σ = ⟨tm, hput hp id (.rows e sz y.length (y.map enc))⟩) hΓ (gk_more hm hg) hq2 ht (fun y' hy' => by
        rw [hy] at hy'; cases hy'
        exact TieO.nil (TieS.leaf ⟨rfl, rfl⟩))
      rw [hy] at this
      exact this
  | _, .ap enc l r id, t, f, h, ht, y, hy => by
    simp only [U1.qD, U1.qA] at h
    split at h <;> try (cases h; done)
    rename_i args tys d hop hd
    split at h <;> try (cases h; done)
    rename_i s x t1 t2 hargs htys
    split at h <;> try (cases h; done)
    rename_i s0 e z0 hty
    split at h <;> try (cases h; done)
    rename_i te hte
    split at h <;> try (cases h; done)
    rename_i v v' e' sz n rs hs hb
    cases hc : (Nat.beq t1 t2 && Nat.blt d X.nt && Nat.beq te.zero.length te.size && Nat.blt id big && Nat.beq e' e && Nat.beq sz te.size) <;> rw [hc] at h <;> simp only [cond_true, cond_false, reduceCtorEq, Option.some.injEq, Prod.mk.injEq] at h
    obtain ⟨rfl, rfl⟩ := h
    simp only [Bool.and_eq_true] at hc
    obtain ⟨⟨⟨⟨⟨c1, c2⟩, c3⟩, c4⟩, c5⟩, c6⟩ := hc
    have c1 := Nat.eq_of_beq_eq_true c1
    have c5 := Nat.eq_of_beq_eq_true c5
    have c6 := Nat.eq_of_beq_eq_true c6
    subst c1 c5 c6
    obtain ⟨h1, h2, h3, h4, h5⟩ := ht
    have h1 := V.eq h1
    have h2 := V.eq h2
    have h3 := V.eq h3
    have h4 := V.eq h4
    subst h1 h2
    have hop' : o.op = .call ⟨.builtin .append, #[s, x], #[t1, t1]⟩ := by
      rw [hop]
      congr 2
      · exact Array.ext' hargs
      · exact Array.ext' htys
    obtain ⟨m', e'', hsrc⟩ : ∃ m' e'', val tmMin x = some (.t (.sl m' (r.map enc))) ∨ ∃ i2, val tmMin x = some (.own i2) ∧ look hpMin i2 = some (.rows e'' te.size m' (r.map enc)) := by
      unfold srcTr at h5
      split at h5 <;> try (exact h5.elim)
      · rename_i n1 rs1 hx
        have := V.eq h5
        subst this
        exact ⟨_, 0, .inl hx⟩
      · rename_i i2 hx
        split at h5 <;> try (exact h5.elim)
        rename_i e1 s2 n1 rs1 hb2
        obtain ⟨g1, g2⟩ := bad_elim h5
        have g1 := Nat.eq_of_beq_eq_true g1
        have := V.eq g2
        subst this g1
        exact ⟨_, _, .inr ⟨i2, hx, hb2⟩⟩
    exact StepN.append (e' := e'') hg hop' hd hty hte (Nat.eq_of_beq_eq_true c3) (fun y => congrFun h3 y) (fun y => congrFun h4 y) hs hb hsrc c4 hy
  | _, .an .., t, f, h, _, _, _ => by simp [U1.qD] at h
  | _, .sF .., t, f, h, _, _, _ => by simp [U1.qD] at h
  | _, .sO .., t, f, h, _, _, _ => by simp [U1.qD] at h
  | _, .cp .., t, f, h, _, _, _ => by simp [U1.qD] at h
theorem callQ_dst {tm : List (Nat × T)} {hp : List (Nat × Blk)} {o : Oper} {n d : Nat} {l : List T} {s : Bool} (h : callQ tm hp o = some (n, l, s, d)) : o.dst = some d := by
  unfold callQ at h
  split at h <;> try (cases h; done)
  rename_i hd
  split at h
  · simp only [Option.some.injEq, Prod.mk.injEq] at h; rw [hd, h.2.2.2]
  · split at h <;> try (cases h; done)
    simp only [Option.some.injEq, Prod.mk.injEq] at h; rw [hd, h.2.2.2]
theorem callQ_new {tm : List (Nat × T)} {hp : List (Nat × Blk)} {o : Oper} {n d : Nat} {l : List T} {s : Bool} (h : callQ tm hp o = some (n, l, s, d)) : isNew o.op = false := by
  unfold callQ at h
  split at h <;> try (cases h; done)
  rename_i hy _
  unfold callY at hy
  split at hy <;> try (cases hy; done)
  rename_i ho
  rw [ho]; rfl
theorem L1.q_new {tab : Tab} {tm : List (Nat × T)} {hp : List (Nat × Blk)} {o : Op} {r : Tr × (β → T)} : ∀ {l : L1 β}, l.q tab tm hp o = some r → isNew o = false := by
  intro l h
  cases l <;> simp only [L1.q] at h <;> split at h <;> first | (cases h; done) | rfl
theorem W1.q_new {P : Program} {Ev : EqV P} {tab : Tab} {Γ : List GF} {tm : List (Nat × T)} {hp : List (Nat × Blk)} {o : Op} {r : Tr × T} : ∀ {u : W1}, u.q Ev tab Γ tm hp o = some r → isNew o = false
  | .hx n, h => by
    simp only [W1.q] at h
    split at h <;> try (cases h; done)
    split at h <;> try (cases h; done)
    rename_i hq
    exact L1.q_new hq
  | .ly n, h => by
    simp only [W1.q] at h
    split at h <;> try (cases h; done)
    rfl
  | .eq, h => by
    simp only [W1.q] at h
    split at h <;> try (cases h; done)
    rfl
  | .cn, h => by
    simp only [W1.q] at h
    split at h <;> try (cases h; done)
    rfl
  | .sn, h => by
    simp only [W1.q] at h
    split at h <;> try (cases h; done)
    rfl
theorem M.ok {Ev : EqV X.P} (hmx : X.P.follows .mixedOrders = true) (hdr : X.L.dr = true → Ev.dr = true) : ∀ {τ : Type} (x : M X.P ρ τ) (Γ : List GF) (c : Cg ρ) (o : τ → Out ρ), (∀ f ∈ Γ, f.ok) → (x.chk Ev X.tab X.nt Qf Γ c o).den → TieW X (QfP Qf) c x.run (fun v e σ' => (o v).den (QfP Qf) e σ')
  | _, .R v, Γ, c, o, hΓ, h => by
    simp only [M.chk] at h
    exact av_ok hmx (fun r l σ => Out.never _) true true _ c (leaf_ok h)
  | _, .N, Γ, c, o, hΓ, h => by
    cases c with
    | S ks σ => exact TieS.fail
    | O all kb ops ks σ => exact TieO.fail
    | D => exact fun _ _ _ => TieS.fail
    | X id σ => exact fun r hr => by cases hr
    | R r => exact fun v hv => by cases hv
  | _, .I b x y, Γ, c, o, hΓ, h => by
    simp only [M.chk] at h
    refine av_ok hmx (fun r l σ => Out.never _) true true fuel c ?_
    split at h <;> try (exact h.elim)
    rename_i q z w ks σ hc
    rw [hc]
    split at h <;> try (exact h.elim)
    rename_i b' hv
    obtain ⟨h1, h2, h3⟩ := h
    have h1 := V.eq h1
    subst h1
    exact TieS.cond hv (M.ok hmx hdr x Γ _ o hΓ h2) (M.ok hmx hdr y Γ _ o hΓ h3)
  | _, .K f x, Γ, c, o, hΓ, h => by
    simp only [M.chk] at h
    obtain ⟨hfd, h⟩ := h
    have hd0 : X.L.dr = true → f.d = true := fun hx => by
      have h1 := V.eq hfd
      rw [hdr hx] at h1
      simpa using h1
    refine av_ok hmx (fun r l σ => Out.never _) true true fuel c ?_
    split at h <;> try (exact h.elim)
    rename_i all kb q tm hp fz nx hc
    split at h <;> try (exact h.elim)
    rename_i n l s d hg hq
    obtain ⟨hb, h1, h2, h3⟩ := bad_elim h
    have h5 := V.eq h1
    simp only [Prod.mk.injEq] at h5
    obtain ⟨h6, rfl⟩ := h5
    refine TieW.pre fun t ht => ?_
    have hd : q.dst = some d := callQ_dst hq
    have hnew : isNew q.op = false := callQ_new hq
    exact here_step hc (StepN.call ht hg hq (by rw [h6]; exact f.ok) (fun hs => by subst hs; exact congrFun (V.eq h2) t) hd0) (fun d' hd' => by rw [hd] at hd'; cases hd'; exact hb)
      (.old hnew) (M.ok hmx hdr (x t) Γ _ o hΓ (h3 t))
  | _, .KG f nm x, Γ, c, o, hΓ, h => by
    simp only [M.chk] at h
    obtain ⟨hfd, h⟩ := h
    have hd0 : X.L.dr = true → f.d = true := fun hx => by
      have h1 := V.eq hfd
      rw [hdr hx] at h1
      simpa using h1
    refine av_ok hmx (fun r l σ => Out.never _) true true fuel c ?_
    split at h <;> try (exact h.elim)
    · rename_i all kb q r ks tm hp hc
      rw [hc]
      split at h <;> try (exact h.elim)
      rename_i n targs d hg hq hd
      generalize lendQ f.args f.hp targs hp = lm at h
      split at h <;> try (exact h.elim)
      rename_i targs' rchp hr1 hr2
      obtain ⟨hb, h1, h2, h3⟩ := bad_elim h
      simp only [Bool.and_eq_true] at hb
      have h1 := V.eq h1
      have h2 := V.eq h2
      have hn := Nat.eq_of_beq_eq_true hb.1.1
      subst hn
      have key : ∀ t, ∃ rt rh, renT (lm ++ zipB f.nw nm) (f.res t) = some rt ∧ renHp (lm ++ zipB f.nw nm) (f.hp' t) = some rh ∧ ((x t).chk Ev X.tab X.nt Qf Γ (.O all kb r ks ⟨(d, rt) :: tm, rh ++ dropIds lm hp⟩) o).den := fun t => by
        have h4 := h3 t
        dsimp only at h4
        split at h4
        · rename_i rt rh e1 e2; exact ⟨rt, rh, e1, e2, h4⟩
        · exact h4.elim
      refine TieO.g (rres := fun t => (key t).choose) (rhp := fun t => (key t).choose_spec.choose) lm (zipB f.nw nm) f.ok (targs := targs) (targs' := targs') (rchp := rchp) (d := d) (hp2 := dropIds lm hp) ?_ h1 h2
        (fun t => (key t).choose_spec.choose_spec.1) (fun t => (key t).choose_spec.choose_spec.2.1) (fun t ht => M.ok hmx hdr (x t) Γ _ o hΓ (key t).choose_spec.choose_spec.2.2) hd0
      unfold callL
      rw [gk_ok hg]
      simp only [hq, hr1, hr2, hd, hb.2, hb.1.2, Bool.and_true, cond_true]
    · rename_i id all0 h0 bs ws ops vs tm0 hp0 fz kb0 ks hc
      rw [hc]
      split at h <;> try (exact h.elim)
      rename_i all kb q tm hp fz' nx hh
      split at h <;> try (exact h.elim)
      rename_i n targs d hg hq hd
      split at h
      · rename_i c
        split at h <;> try (exact h.elim)
        · rename_i hhp
          split at h <;> try (exact h.elim)
          rename_i targs' hr1
          obtain ⟨hb, h1, h3⟩ := bad_elim h
          simp only [Bool.and_eq_true] at hb
          have h1 := V.eq h1
          have hn := Nat.eq_of_beq_eq_true hb.1.1
          subst hn
          refine TieW.pre fun t ht => ?_
          have h4 := h3 t
          dsimp only at h4
          split at h4 <;> try (exact h4.elim)
          rename_i r1 e2 sz2 n2 rs2 hr2
          split at h4 <;> try (exact h4.elim)
          rename_i rt hr3
          have hok := f.ok
          rw [hhp] at hok
          exact here_stepD hh (StepN.callN ht hok hg hq hd hb.1.2 hb.2 hr1 h1 hr3 hr2 hd0) (M.ok hmx hdr (x t) Γ _ o hΓ h4)
        · rename_i b1 e sz n1 rs v' e' sz' n1' rs' hhp hlk
          obtain ⟨hb, h1, h2, h3⟩ := bad_elim h
          simp only [Bool.and_eq_true] at hb
          have h1 := V.eq h1
          have h2 := V.eq h2
          simp only [Prod.mk.injEq] at h2
          obtain ⟨rfl, rfl, rfl, rfl⟩ := h2
          have hn := Nat.eq_of_beq_eq_true hb.1.1.1
          subst hn
          refine TieW.pre fun t ht => ?_
          have h4 := h3 t
          dsimp only at h4
          split at h4 <;> try (exact h4.elim)
          rename_i r1 e2 sz2 n2 rs2 hr2
          split at h4 <;> try (exact h4.elim)
          rename_i rt hr1
          have hok := f.ok
          rw [hhp] at hok
          exact here_stepD hh (StepN.callP ht hok hg hq hd hlk hb.1.2 h1 hb.2 hr1 hr2 hd0) (M.ok hmx hdr (x t) Γ _ o hΓ h4)
      generalize lendQ f.args f.hp targs hp = lm at h
      split at h <;> try (exact h.elim)
      rename_i targs' rchp hr1 hr2
      obtain ⟨hb, h1, h2, h3⟩ := bad_elim h
      simp only [Bool.and_eq_true] at hb
      have h1 := V.eq h1
      have h2 := V.eq h2
      have hn := Nat.eq_of_beq_eq_true hb.1.1.1
      subst hn
      refine TieW.pre fun t ht => ?_
      obtain ⟨h4, h5⟩ := h3 t
      have h4 := V.eq h4
      split at h5 <;> try (exact h5.elim)
      rename_i rt hrt
      exact here_stepD hh (StepN.callR lm ht f.ok hg hq hd hb.1.1.2 hr1 h1 hr2 h2 hb.1.2 hb.2 hrt h4 hd0) (M.ok hmx hdr (x t) Γ _ o hΓ h5)
  | _, .O l x, Γ, c, o, hΓ, h => by
    simp only [M.chk] at h
    refine av_ok hmx (fun r l σ => Out.never _) true true fuel c ?_
    split at h <;> try (exact h.elim)
    rename_i all kb q tm hp fz nx hc
    split at h <;> try (exact h.elim)
    rename_i t res d hg hq hd
    obtain ⟨hb, h1, h2⟩ := bad_elim h
    refine TieW.pre fun y hy => ?_
    exact here_step hc (StepN.one hg hq h1 hy) (fun d' hd' => by rw [hd] at hd'; cases hd'; exact hb) (.old (L1.q_new hq)) (M.ok hmx hdr (x y) _ _ o (L1.known hΓ hy) (h2 y))
  | _, .W u x, Γ, c, o, hΓ, h => by
    simp only [M.chk] at h
    refine av_ok hmx (fun r l σ => Out.never _) true true fuel c ?_
    split at h <;> try (exact h.elim)
    rename_i all kb q tm hp fz nx hc
    split at h <;> try (exact h.elim)
    rename_i t V d hg hq hd
    obtain ⟨hb, h1, h2⟩ := bad_elim h
    exact here_step hc (StepN.known hΓ hg hq h1) (fun d' hd' => by rw [hd] at hd'; cases hd'; exact hb) (.old (W1.q_new hq)) (M.ok hmx hdr x _ _ o hΓ h2)
  | _, .U u x, Γ, c, o, hΓ, h => by
    simp only [M.chk] at h
    refine av_ok hmx (fun r l σ => Out.never _) true true fuel c ?_
    split at h <;> try (exact h.elim)
    · rename_i all kb q r ks tm hp hc
      rw [hc]
      split at h <;> try (exact h.elim)
      rename_i t σ hg hq
      exact U1.ok hΓ hg hq h.1 fun y hy => M.ok hmx hdr (x y) _ (.O all kb r ks (σ y)) o (U1.known hΓ hy) (h.2 y)
    · rename_i id all h0 bs ws ops vs tm0 hp0 fz kb ks hc
      rw [hc]
      split at h <;> try (exact h.elim)
      rename_i all' kb' q tm hp fz' nx hh
      split at h <;> try (exact h.elim)
      rename_i t f hg hq
      refine TieW.pre fun y hy => ?_
      exact here_stepD hh (U1.qD_ok (all := all') hΓ hg hq h.1 y hy) (M.ok hmx hdr (x y) _ _ o (U1.known hΓ hy) (h.2 y))
  | _, .Mk enc n z x, Γ, c, o, hΓ, h => by
    simp only [M.chk] at h
    refine av_ok hmx (fun r l σ => Out.never _) true true fuel c ?_
    split at h <;> try (exact h.elim)
    rename_i all kb q tm hp fz nx hc
    split at h <;> try (exact h.elim)
    rename_i t a b d hg hop hd
    split at h <;> try (exact h.elim)
    rename_i k1 n1 k2 n2 s0 e z0 hx hy hty
    split at h <;> try (exact h.elim)
    rename_i te hte
    obtain ⟨hb, h1, h2, h3⟩ := bad_elim h
    simp only [Bool.and_eq_true] at hb
    obtain ⟨⟨⟨⟨⟨c1, c2⟩, c3⟩, c4⟩, c5⟩, c6⟩ := hb
    have h1 := V.eq h1
    have h2 := V.eq h2
    simp only [Prod.mk.injEq] at h1
    obtain ⟨rfl, rfl, rfl⟩ := h1
    refine TieW.pre fun y hy' => ?_
    have hs := StepN.mk (hpMin := hp) hy' hop hd hg hx hy hty hte (Nat.eq_of_beq_eq_true c2) c3 h2 c4
    have hnew : isNew q.op = true := by rw [hop]; rfl
    have h4 := h3 y
    have hdd : ∀ d', q.dst = some d' → Nat.blt d' X.nt = true := fun d' hd' => by rw [hd] at hd'; cases hd'; exact c1
    have hff : ∀ N, FrOk q N tm hp := fun N => ⟨fun _ d' hd' => by rw [hd] at hd'; cases hd'; rw [c5, c6]; rfl, fun id h' => by rw [apId_new hnew] at h'; cases h'⟩
    cases hz : isIn d fz <;> rw [hz] at h4
    · exact here_step hc hs hdd (hff _) (M.ok hmx hdr (x y) Γ _ o hΓ h4)
    · exact here_step hc (hs.frz hnew hd) hdd (hff _) (M.ok hmx hdr (x y) Γ _ o hΓ h4)
  | _, .Z z x, Γ, c, o, hΓ, h => by
    simp only [M.chk] at h
    refine av_ok hmx (fun r l σ => Out.never _) (!x.isJ) (!x.isD) fuel c ?_
    split at h <;> try (exact h.elim)
    · rename_i ks tm hp hc
      rw [hc]
      split at h <;> try (exact h.elim)
      rename_i σ hz
      exact Z1.ap_ok hz (M.ok hmx hdr x Γ (.S ks σ) o hΓ h)
    · rename_i all kb ops ks tm hp hc
      rw [hc]
      split at h <;> try (exact h.elim)
      rename_i σ hz
      exact TieO.via (fun k => Z1.ap_ok hz k) (M.ok hmx hdr x Γ (.O all kb ops ks σ) o hΓ h)
    · rename_i id tm hp hc
      rw [hc]
      split at h <;> try (exact h.elim)
      rename_i σ hz
      exact Z1.ap_ok hz (M.ok hmx hdr x Γ (.X id σ) o hΓ h)
  | _, .G b x y f, Γ, c, o, hΓ, h => by
    simp only [M.chk] at h
    refine av_ok hmx (fun r l σ => Out.never _) true true fuel c ?_
    split at h <;> try (exact h.elim)
    rename_i all kb ops ks tm hp hc
    rw [hc]
    split at h <;> try (exact h.elim)
    rename_i d b' g q r hg
    obtain ⟨h1, h2, h3, h4⟩ := h
    have h1 := V.eq h1
    subst h1
    exact TieO.grp hg (M.ok hmx hdr x Γ _ _ hΓ h2) (M.ok hmx hdr y Γ _ _ hΓ h3) (fun v => M.ok hmx hdr (f v) Γ _ o hΓ (h4 v))
  | _, .J0 n s x f, Γ, c, o, hΓ, h => by
    have key : ∀ c' : Cg ρ, (match c' with | .S (.c z :: ks) σ => Tr.and (x.chk Ev X.tab X.nt Qf Γ (.S [.c z] σ) (fun v => .nx (upd (s v) ⟨rmv (dstsC z) σ.tm, σ.hp⟩))) (.all fun v => (f v).chk Ev X.tab X.nt Qf Γ (.S ks (upd (s v) ⟨rmv (dstsC z) σ.tm, σ.hp⟩)) o) | _ => Tr.bad).den →
        TieW X (QfP Qf) c' (M.run (.J0 n s x f)) (fun v e σ' => (o v).den (QfP Qf) e σ') := by
      intro c' h
      split at h <;> try (exact h.elim)
      rename_i z ks σ
      refine TieS.bind (Q₁ := fun v e σ' => (Out.nx (upd (s v) ⟨rmv (dstsC z) σ.tm, σ.hp⟩)).den (QfP Qf) e σ') (M.ok hmx hdr x Γ (.S [.c z] σ) _ hΓ h.1) fun v e σ' _ hd => ?_
      obtain ⟨rfl, hs⟩ := hd
      exact TieX.sub hs (M.ok hmx hdr (f v) Γ (.S ks _) o hΓ (h.2 v))
    cases n with
    | zero => rw [M.chk] at h; exact av_ok hmx (fun r l σ => Out.never _) false true fuel c (key _ h)
    | succ n =>
      rw [M.chk] at h
      · exact av_ok hmx (fun r l σ => Out.never _) true false fuel c (key _ h)
      · exact fun h => by cases h
  | _, .J n s k x f g, Γ, c, o, hΓ, h => by
    have key : ∀ c' : Cg ρ, (match c' with | .S (.c z :: ks) σ => Tr.and (x.chk Ev X.tab X.nt Qf Γ (.S [.c z] σ) (fun v => match v with | .inl v => .nx (upd (s v) ⟨rmv (dstsC z) σ.tm, σ.hp⟩) | .inr w => outOf ⟨rmv (dstsC z) σ.tm, σ.hp⟩ (k.sh w))) (.and (.all fun v => (f v).chk Ev X.tab X.nt Qf Γ (.S ks (upd (s v) ⟨rmv (dstsC z) σ.tm, σ.hp⟩)) o) (k.all fun w sh => (g w).chk Ev X.tab X.nt Qf Γ (cont ks ⟨rmv (dstsC z) σ.tm, σ.hp⟩ sh) o)) | _ => Tr.bad).den →
        TieW X (QfP Qf) c' (M.run (.J n s k x f g)) (fun v e σ' => (o v).den (QfP Qf) e σ') := by
      intro c' h
      split at h <;> try (exact h.elim)
      rename_i z ks σ
      rw [M.run]
      refine TieS.bind (M.ok hmx hdr x Γ (.S [.c z] σ) _ hΓ h.1) fun v e σ' _ hd => ?_
      cases v with
      | inl v =>
        obtain ⟨rfl, hs⟩ := hd
        exact TieX.sub hs (M.ok hmx hdr (f v) Γ (.S ks _) o hΓ (h.2.1 v))
      | inr w => exact cont_ok hd (M.ok hmx hdr (g w) Γ _ o hΓ (Kd.all_ok h.2.2 w))
    cases n with
    | zero => rw [M.chk] at h; exact av_ok hmx (fun r l σ => Out.never _) false true fuel c (key _ h)
    | succ n =>
      rw [M.chk] at h
      · exact av_ok hmx (fun r l σ => Out.never _) true true (n + 1) c (key _ h)
      · exact fun h => by cases h
  | _, .JF n s x i, Γ, c, o, hΓ, h => by
    rw [M.chk] at h
    refine av_ok hmx (fun r l σ => Out.never _) true true n c ?_
    split at h <;> try (exact h.elim)
    rename_i z ks σ hc
    rw [hc]
    obtain ⟨hne, h1, h2⟩ := bad_elim h
    have out : ∀ (v : _) (e : Exit) (σ' : St), (notN (o v)).den (QfP Qf) e σ' → TieX X ks e σ' (some v) (fun v e σ' => (o v).den (QfP Qf) e σ') := fun v e σ' hd => by
      obtain ⟨hn, hd⟩ := notN_of hd
      intro r hr a w hw
      cases hr
      cases e with
      | normal => exact absurd rfl hn
      | exit id => exact after_exit_none (noE_pop hne) ⟨σ', hw, hd⟩
      | ret => exact after_ret ks ⟨σ', hw, hd⟩
      | goto l => exact absurd hd (Out.never _)
      | panic ch => exact absurd hd ((Out.calm _).1 ch)
      | outgrown => exact absurd hd (Out.calm _).2
    refine TieS.bind (M.ok hmx hdr x Γ (.S [.c z] σ) _ hΓ h1) fun v e σ' _ hd => ?_
    cases v with
    | next v =>
      obtain ⟨rfl, hs⟩ := hd
      exact TieX.sub hs (av_ok (c := .S ks _) hmx (fun r l σ => Out.never _) true true fuel (leaf_ok (h2 v)))
    | brk v => exact out _ e σ' hd
    | ret w => exact out _ e σ' hd
  | _, .L (S := S) (γ := γ) hd nx k x s₀ f g, Γ, c, o, hΓ, h => by
    rw [M.chk] at h
    refine av_ok hmx (fun r l σ => Out.never _) true true fuel c ?_
    split at h <;> try (exact h.elim)
    rename_i z ks σ hc
    rw [hc]
    obtain ⟨h1, h2, h3, h4⟩ := h
    rw [M.run]
    refine TieS.loop (S := S) (B := S ⊕ γ) (fun a => upd (hd a) ⟨rmv (dstsC z) σ.tm, σ.hp⟩) (fun (b : S ⊕ γ) e σ' => match b with | .inl a' => (Out.ex nx (upd (hd a') ⟨rmv (dstsC z) σ.tm, σ.hp⟩)).den (QfP Qf) e σ' | .inr w => (outOf ⟨rmv (dstsC z) σ.tm, σ.hp⟩ (k.sh w)).den (QfP Qf) e σ') (subTr_ok h1) (fun a => ?_) (fun b e σ' _ hq => ?_)
    · have := M.ok hmx hdr (x a) Γ (.S [.c z] (upd (hd a) ⟨rmv (dstsC z) σ.tm, σ.hp⟩)) _ hΓ (h2 a)
      refine fun r hr a w hw => after_mono (fun e a w hp => ?_) _ _ _ _ (this r hr a w hw)
      obtain ⟨σ', hs, hq⟩ := hp
      refine ⟨σ', hs, ?_⟩
      cases r with
      | inl s' => exact hq
      | inr b =>
        cases b with
        | inl s' => obtain ⟨rfl, hs⟩ := hq; exact ⟨by simp, rfl, hs⟩
        | inr w => exact outLp_of hq
    · cases b with
      | inl a => exact cont_ok (s := .ex nx (hd a)) hq (M.ok hmx hdr (f a) Γ _ o hΓ (h3 a))
      | inr w => exact cont_ok hq (M.ok hmx hdr (g w) Γ _ o hΓ (Kd.all_ok h4 w))
  | _, .LQ (S := S) (γ := γ) ri hd nx k x s₀ f g, Γ, c, o, hΓ, h => by
    rw [M.chk] at h
    refine av_ok hmx (fun r l σ => Out.never _) true true fuel c ?_
    split at h <;> try (exact h.elim)
    rename_i z ks σ hc
    rw [hc]
    obtain ⟨h1, h2, h3, h4⟩ := h
    rw [M.run]
    refine TieS.loop (S := Int × S) (B := S ⊕ γ) (fun a => upd (.t ri (.t (tI a.1)) :: hd a.2) ⟨rmv (dstsC z) σ.tm, σ.hp⟩) (fun (b : S ⊕ γ) e σ' => match b with | .inl a' => (Out.ex nx (upd (hd a') ⟨rmv (dstsC z) σ.tm, σ.hp⟩)).den (QfP Qf) e σ' | .inr w => (outOf ⟨rmv (dstsC z) σ.tm, σ.hp⟩ (k.sh w)).den (QfP Qf) e σ') (subTr_ok h1) (fun a => ?_) (fun b e σ' _ hq => ?_)
    · have := M.ok hmx hdr (x a) Γ (.S [.c z] (upd (.t ri (.t (tI a.1)) :: hd a.2) ⟨rmv (dstsC z) σ.tm, σ.hp⟩)) _ hΓ (h2 a)
      refine fun r hr a w hw => after_mono (fun e a w hp => ?_) _ _ _ _ (this r hr a w hw)
      obtain ⟨σ', hs, hq⟩ := hp
      refine ⟨σ', hs, ?_⟩
      cases r with
      | inl s' => exact hq
      | inr b =>
        cases b with
        | inl s' => obtain ⟨rfl, hs⟩ := hq; exact ⟨by simp, rfl, hs⟩
        | inr w => exact outLp_of hq
    · cases b with
      | inl a => exact cont_ok (s := .ex nx (hd a)) hq (M.ok hmx hdr (f a) Γ _ o hΓ (h3 a))
      | inr w => exact cont_ok hq (M.ok hmx hdr (g w) Γ _ o hΓ (Kd.all_ok h4 w))
  | _, .A enc l i f, Γ, c, o, hΓ, h => TieW.pre fun y hy => M.ok hmx hdr (f y) (⟨enc, l, i, y⟩ :: Γ) c o (fun g hg => by
      rcases List.mem_cons.1 hg with rfl | hg
      · exact hy
      · exact hΓ g hg) (h y)
  | _, .B x, Γ, c, o, hΓ, h => by
    simp only [M.chk] at h
    refine av_ok hmx (fun r l σ => Out.never _) false true fuel c ?_
    split at h <;> try (exact h.elim)
    rename_i id z ks σ hc
    rw [hc]
    exact TieS.block (M.ok hmx hdr x Γ _ o hΓ h)
  | _, .D fz ws x, Γ, c, o, hΓ, h => by
    simp only [M.chk] at h
    refine av_ok hmx (fun r l σ => Out.never _) (!x.isJ) false fuel c ?_
    split at h <;> try (exact h.elim)
    rename_i id ops ks σ hc
    rw [hc]
    have := M.ok hmx hdr x Γ _ o hΓ h (by simp) rfl (fun i V N o b hi => by simp at hi)
    exact fun r hr a w hw => this r hr a w (hw.moreB (fun k t hk => (isIn_rmv hk).2) (fun k b hk => hk))
  | _, .Sp b x y, Γ, c, o, hΓ, h => by
    simp only [M.chk] at h
    refine av_ok hmx (fun r l σ => Out.never _) true true fuel c ?_
    split at h <;> try (exact h.elim)
    · rename_i id all h0 bs ws q r vs tm0 hp0 fz kb ks hcc
      rw [hcc]
      split at h <;> try (exact h.elim)
      rename_i j b' hc
      obtain ⟨h1, h2, h3⟩ := h
      have h1 := V.eq h1
      subst h1
      exact tst_ok hc (M.ok hmx hdr x Γ _ o hΓ h2) (M.ok hmx hdr y Γ _ o hΓ h3)
    · rename_i all kb q r ks tm hp hcc
      rw [hcc]
      split at h <;> try (exact h.elim)
      rename_i d b' hc
      obtain ⟨h1, h2, h3⟩ := h
      have h1 := V.eq h1
      subst h1
      exact tstO_ok hc (M.ok hmx hdr x Γ _ o hΓ h2) (M.ok hmx hdr y Γ _ o hΓ h3)
  | _, .Nl enc l x y, Γ, c, o, hΓ, h => by
    simp only [M.chk] at h
    refine av_ok hmx (fun r l σ => Out.never _) true true fuel c ?_
    split at h <;> try (exact h.elim)
    rename_i all kb q r ks tm hp hc
    rw [hc]
    split at h <;> try (exact h.elim)
    rename_i t z yt d hg ho hd
    split at h <;> try (exact h.elim)
    rename_i s0 e z0 n rs hty hz
    obtain ⟨hb, h1, h2, h3, h4⟩ := bad_elim h
    have h1 := V.eq h1
    subst h1
    have h2 := V.eq h2
    refine TieO.isNil ho hd hb (gk_ok hg) hty hz fun b hbl => ?_
    cases b
    · exact M.ok hmx hdr (y l) Γ (.O all kb r ks _) o hΓ h4
    · have hl := hbl rfl
      have e1 : M.run (.Nl enc l x y) = x.run := by rw [M.run, hl, h2]
      rw [e1]
      exact M.ok hmx hdr x Γ (.O all kb r ks _) o hΓ h3
  | _, .Pn id x, Γ, c, o, hΓ, h => by
    simp only [M.chk] at h
    refine av_ok hmx (fun r l σ => Out.never _) (!x.isJ) false fuel c ?_
    split at h <;> try (exact h.elim)
    rename_i ks tm hp hc
    rw [hc]
    split at h <;> try (exact h.elim)
    rename_i e sz n rs hb
    intro r hr a w hw
    obtain ⟨v, hv⟩ := hw.pin id hb
    exact M.ok hmx hdr x Γ _ o hΓ (h v) r hr a w hv
  | _, .Mm id x, Γ, c, o, hΓ, h => by
    simp only [M.chk] at h
    refine av_ok hmx (fun r l σ => Out.never _) true true fuel c ?_
    split at h <;> try (exact h.elim)
    rename_i all kb q r ks tm hp hc
    rw [hc]
    split at h <;> try (exact h.elim)
    rename_i t d hg ho hd
    obtain ⟨hb, h1⟩ := bad_elim h
    simp only [Bool.and_eq_true] at hb
    exact TieO.makeMp id ho hd hb.1 (gk_ok hg) hb.2.1 hb.2.2.1 hb.2.2.2 (M.ok hmx hdr x Γ (.O all kb r ks _) o hΓ h1)
  | _, .Ml m l k x, Γ, c, o, hΓ, h => by
    simp only [M.chk] at h
    refine av_ok hmx (fun r l σ => Out.never _) true true fuel c ?_
    split at h <;> try (exact h.elim)
    rename_i all kb q r ks tm hp hc
    rw [hc]
    split at h <;> try (exact h.elim)
    rename_i t a b d hg ho hd
    split at h <;> try (exact h.elim)
    rename_i id kv ha hb
    split at h <;> try (exact h.elim)
    rename_i es hl
    obtain ⟨hb2, h1, h2⟩ := bad_elim h
    have h3 := V.eq h1
    simp only [Prod.mk.injEq] at h3
    obtain ⟨e1, e2, e3⟩ := h3
    subst e1 e2 e3
    letI := m.beq
    exact TieO.lookupMp m.law ho hd hb2 (gk_ok hg) ha hl hb m.ht m.hk m.hz (M.ok hmx hdr x Γ (.O all kb r ks _) o hΓ h2)
  | _, .Mu m l k v x, Γ, c, o, hΓ, h => by
    simp only [M.chk] at h
    refine av_ok hmx (fun r l σ => Out.never _) true true fuel c ?_
    split at h <;> try (exact h.elim)
    rename_i all kb q r ks tm hp hc
    rw [hc]
    split at h <;> try (exact h.elim)
    rename_i t a b u hg ho hd
    split at h <;> try (exact h.elim)
    rename_i id kv uv ha hb hu
    split at h <;> try (exact h.elim)
    rename_i es hl
    obtain ⟨h1, h2⟩ := h
    have h3 := V.eq h1
    simp only [Prod.mk.injEq] at h3
    obtain ⟨e1, e2, e3, e4⟩ := h3
    subst e1 e2 e3 e4
    letI := m.beq
    exact TieO.updateMp m.law ho hd (gk_ok hg) ha hl hb hu m.ht m.hk (M.ok hmx hdr x Γ (.O all kb r ks _) o hΓ h2)
end
end Go.Pv
namespace Go.Pv
open Go.RowKit
section
variable {P : Program} {ρ : Type} {tab : Tab}
def qfF (tab : Tab) (rs : List ResultVar) (res : ρ → T) (r : ρ) (σ : St) : Tr := tq (retT tab σ rs) (some (res r))
/-- The names under which a function hands its blocks back. -/
def nmG (t0 : T) (r : T) (hp hp' : List (Nat × Blk)) : List (Nat × Nat) :=
  match dd1 (mtT t0 r) [] with
  | l => match dd1 (boxes hp hp') l with
    | l => rest hp' l
 where
  boxes (hp : List (Nat × Blk)) : List (Nat × Blk) → List (Nat × Nat)
    | [] => []
    | (j, .box us) :: r => (j, j) :: (match look hp j with | some (.box ts) => mtT.mtL ts us | _ => []) ++ boxes hp r
    | _ :: r => boxes hp r
  has2 (j : Nat) : List (Nat × Nat) → Bool
    | [] => false
    | p :: r => bif Nat.beq p.2 j then true else has2 j r
  rest : List (Nat × Blk) → List (Nat × Nat) → List (Nat × Nat)
    | [], l => l
    | (j, _) :: r, l => bif has2 j l then rest r l else rest r (l ++ [(j, j)])
def qfG (tab : Tab) (rs : List ResultVar) (res : ρ → T) (hp' : ρ → List (Nat × Blk)) (r : ρ) (σ : St) : Tr :=
  match endT tab σ rs with
  | some t0 => match nmG t0 (res r) σ.hp (hp' r) with
    | nm => match renT nm t0 with
      | some t1 => bif renOk nm && nodupB (nm.map (·.1)) then .and (tq (mrg t1 (res r)) (res r)) (tq ((hp' r).map (endB nm σ.hp)) ((hp' r).map fun p => some p.2)) else .bad
      | none => .bad
  | none => .bad
theorem qfG_ok {rs : List ResultVar} {res : ρ → T} {hp' : ρ → List (Nat × Blk)} {r : ρ} {σ : St} (h : (qfG tab rs res hp' r σ).den) : EndG tab σ rs (res r) (hp' r) := by
  unfold qfG at h
  split at h <;> try (exact h.elim)
  rename_i t0 h0
  dsimp only at h
  split at h <;> try (exact h.elim)
  rename_i t1 h1
  obtain ⟨hb, h2, h3⟩ := bad_elim h
  exact ⟨_, t0, t1, hb, h0, h1, V.eq h2, V.eq h3⟩
noncomputable def chkF (Ev : EqV P) (tab : Tab) (fn : Func) (args : List T) (res : ρ → T) (x : M P ρ ρ) : Tr :=
  match fn.body with
  | some c => bif Nat.ble args.length fn.ntmps then x.chk Ev tab fn.ntmps (qfF tab fn.results.toList res) [] (.S [.c c] ⟨number 0 args, []⟩) .top else .bad
  | none => .bad
noncomputable def chkG (Ev : EqV P) (tab : Tab) (fn : Func) (args : List T) (hp : List (Nat × Blk)) (res : ρ → T) (hp' : ρ → List (Nat × Blk)) (x : M P ρ ρ) : Tr :=
  match fn.body with
  | some c => bif Nat.ble args.length fn.ntmps then x.chk Ev tab fn.ntmps (qfG tab fn.results.toList res hp') [] (.S [.c c] ⟨number 0 args, hp⟩) .top else .bad
  | none => .bad
/-- What a program's functions are read with. -/
structure En (P : Program) where
  tab : Tab
  htab : TabOk P tab
  Ev : EqV P
  hmx : P.follows .mixedOrders = true
/-- A function's contract, from its model. -/
noncomputable def C.of (Z : En P) {n : Nat} {fn : Func} (hcall : ∀ vs w, (callFunc n vs).run P w = .ok (.enter n vs) w) (hf : P.funcs[n]? = some fn) (args : List T) (res : ρ → T) (x : M P ρ ρ)
    (h : (chkF Z.Ev Z.tab fn args res x).l = (chkF Z.Ev Z.tab fn args res x).r) : C P ρ where
  n := n
  args := args
  m := x.run
  e := fun k => x.rn k
  res := res
  d := Z.Ev.dr
  ok := by
    have h := Tr.of h
    unfold chkF at h
    split at h <;> try (exact h.elim)
    rename_i c hb
    obtain ⟨hle, h⟩ := bad_elim h
    refine TieF.i Z.htab fn.ntmps fn.results.toList hcall hf hb rfl rfl hle fun w0 L gl hld => ?_
    have key : TieS ⟨P, Z.tab, Z.htab, w0, L, fn.ntmps, gl⟩ [.c c] _ x.run _ := M.ok (X := ⟨P, Z.tab, Z.htab, w0, L, fn.ntmps, gl⟩) Z.hmx (fun hx => by rw [← hld]; exact hx) x [] _ .top (by simp) h
    refine fun r hr a w hw => after_mono (fun e a w hq => ?_) _ _ _ _ (key r hr a w hw)
    obtain ⟨σ', hs, he, hq⟩ := hq
    exact ⟨σ', hs, he, V.eq hq⟩
  le := fun k r hr => M.le k x r hr
noncomputable def CG.of (Z : En P) {n : Nat} {fn : Func} (hcall : ∀ vs w, (callFunc n vs).run P w = .ok (.enter n vs) w) (hf : P.funcs[n]? = some fn) (args : List T) (hp : List (Nat × Blk)) (res : ρ → T) (hp' : ρ → List (Nat × Blk)) (nw : List Nat) (x : M P ρ ρ)
    (h : (chkG Z.Ev Z.tab fn args hp res hp' x).l = (chkG Z.Ev Z.tab fn args hp res hp' x).r) : CG P ρ where
  n := n
  args := args
  hp := hp
  m := x.run
  e := fun k => x.rn k
  res := res
  hp' := hp'
  nw := nw
  d := Z.Ev.dr
  ok := by
    have h := Tr.of h
    unfold chkG at h
    split at h <;> try (exact h.elim)
    rename_i c hb
    obtain ⟨hle, h⟩ := bad_elim h
    refine TieG.i Z.htab fn.ntmps fn.results.toList hcall hf hb rfl rfl hle fun w0 L gl hld => ?_
    have key : TieS ⟨P, Z.tab, Z.htab, w0, L, fn.ntmps, gl⟩ [.c c] _ x.run _ := M.ok (X := ⟨P, Z.tab, Z.htab, w0, L, fn.ntmps, gl⟩) Z.hmx (fun hx => by rw [← hld]; exact hx) x [] _ .top (by simp) h
    refine fun r hr a w hw => after_mono (fun e a w hq => ?_) _ _ _ _ (key r hr a w hw)
    obtain ⟨σ', hs, he, hq⟩ := hq
    exact ⟨σ', hs, he, qfG_ok hq⟩
  le := fun k r hr => M.le k x r hr
end
end Go.Pv
namespace Go.Pv
open Go.MapKept in
/-- Strings as keys. -/
theorem strKey : KeyLaw .string (fun s : ByteArray => .string s) := ⟨fun a b => by simp [Instr.sameNow], fun a => by simp [IsKey], fun a b h => by
  have e : a = b := by
    obtain ⟨a⟩ := a
    obtain ⟨b⟩ := b
    have h2 : (a == b) = true := h
    rw [eq_of_beq h2]
  subst e
  simpa [Instr.sameBits] using h⟩
def delE {α : Type} : List α → Option (List α)
  | [] => some []
  | _ => none
def repE {α : Type} : List α → Int → Option (List α)
  | [x], n => if n = 1 then some [x] else none
  | _, _ => none
def sortE {α : Type} (g : α → α → Option Int) : List α → Option (List α)
  | [] => some []
  | [x] => match g x x with
    | some c => bif decide (c < 0) then none else some [x]
    | none => none
  | _ => none
theorem sortE_le {α : Type} {g g' : α → α → Option Int} (hg : ∀ x y r, g' x y = some r → g x y = some r) {l r : List α} (h : sortE g' l = some r) : sortM g l = some r := by
  match l, h with
  | [], h =>
    have : SortOk g ([] : List α) := ⟨by simp, by simp, by simp, by simp, by simp, by simp⟩
    rw [sortM_ok this]; rw [sortE] at h; simpa using h
  | [x], h =>
    simp only [sortE] at h
    split at h <;> try (cases h; done)
    rename_i c hc
    have hx := hg x x c hc
    cases hn : decide (c < 0) <;> rw [hn] at h <;> simp only [cond_true, cond_false, reduceCtorEq, Option.some.injEq] at h
    have hl : ltM g x x = false := by unfold ltM; rw [hx]; simpa using hn
    have : SortOk g [x] := ⟨by simp, by simp [hx], by simpa using hl, by simp [hl], by simp [hl], by simp⟩
    rw [sortM_ok this]
    simpa using h
  | _ :: _ :: _, h => simp [sortE] at h
def insI (x : Int) : List Int → List Int
  | [] => [x]
  | y :: l => bif decide (x ≤ y) then x :: y :: l else y :: insI x l
def isI : List Int → List Int
  | [] => []
  | x :: l => insI x (isI l)
theorem insI_perm (x : Int) : ∀ l : List Int, (insI x l).Perm (x :: l)
  | [] => .refl _
  | y :: l => by
    unfold insI
    cases decide (x ≤ y)
    · exact ((insI_perm x l).cons y).trans (.swap x y l)
    · exact .refl _
theorem isI_perm : ∀ l : List Int, (isI l).Perm l
  | [] => .refl _
  | x :: l => (insI_perm x _).trans ((isI_perm l).cons x)
theorem insI_sorted (x : Int) : ∀ {l : List Int}, l.Pairwise (· ≤ ·) → (insI x l).Pairwise (· ≤ ·)
  | [], _ => by simp [insI]
  | y :: l, h => by
    rw [List.pairwise_cons] at h
    unfold insI
    cases hd : decide (x ≤ y)
    · refine List.pairwise_cons.2 ⟨fun z hz => ?_, insI_sorted x h.2⟩
      rcases List.mem_cons.1 ((insI_perm x l).mem_iff.1 hz) with rfl | hz
      · have := of_decide_eq_false hd; omega
      · exact h.1 z hz
    · have hxy := of_decide_eq_true hd
      exact List.pairwise_cons.2 ⟨fun z hz => by
        rcases List.mem_cons.1 hz with rfl | hz
        · exact hxy
        · have := h.1 z hz; omega, List.pairwise_cons.2 h⟩
theorem isI_sorted : ∀ l : List Int, (isI l).Pairwise (· ≤ ·)
  | [] => .nil
  | x :: l => insI_sorted x (isI_sorted l)
theorem sortedI_eq : ∀ {l m : List Int}, l.Perm m → l.Pairwise (· ≤ ·) → m.Pairwise (· ≤ ·) → l = m
  | [], m, h, _, _ => (List.Perm.eq_nil h.symm).symm
  | x :: l, [], h, _, _ => absurd h.length_eq (by simp)
  | x :: l, y :: m, h, hl, hm => by
    rw [List.pairwise_cons] at hl hm
    have hxy : x = y := by
      have h1 : x ∈ y :: m := h.mem_iff.1 (List.mem_cons_self ..)
      have h2 : y ∈ x :: l := h.mem_iff.2 (List.mem_cons_self ..)
      rcases List.mem_cons.1 h1 with e | h1
      · exact e
      rcases List.mem_cons.1 h2 with e | h2
      · exact e.symm
      have := hl.1 y h2
      have := hm.1 x h1
      omega
    subst hxy
    rw [sortedI_eq h.cons_inv hl.2 hm.2]
def sortIE (l : List Int) : Option (List Int) := bif Nat.ble l.length 1000 then some (isI l) else none
theorem sortIE_le {l r : List Int} (h : sortIE l = some r) : sortIM l = some r := by
  unfold sortIE at h
  cases hl : Nat.ble l.length 1000 <;> rw [hl] at h <;> simp only [cond_true, cond_false, reduceCtorEq, Option.some.injEq] at h
  subst h
  have := Nat.le_of_ble_eq_true hl
  rw [sortIM_ok (by omega)]
  congr 1
  refine sortedI_eq ((List.mergeSort_perm ..).trans (isI_perm l).symm) ?_ (isI_sorted l)
  have := List.pairwise_mergeSort (le := fun x y : Int => decide (x ≤ y)) (fun a b c h1 h2 => by simp only [decide_eq_true_eq] at h1 h2 ⊢; omega) (fun a b => by simp only [Bool.or_eq_true, decide_eq_true_eq]; omega) l
  exact this.imp fun h => of_decide_eq_true h
end Go.Pv
namespace Go.Pv
open Go
def enc_u16 (n : Int) : List Tree := [tK .u16 n]
def enc_u8 (n : Int) : List Tree := [tK .u8 n]
@[ext] structure SSwitch where
  At : Int
  Channel : Int
  Level : Bool
def enc_SSwitch (x : SSwitch) : List Tree := [tI x.At, tI x.Channel, tB x.Level]
abbrev A_SSwitch (x : SSwitch) : T := .agg [.t (tI x.At), .t (tI x.Channel), .t (tB x.Level)]
@[ext] structure SActive where
  Reaction : Int
  Causes : List Int
def enc_SActive (x : SActive) : List Tree := [tI x.Reaction, tS Pv.encI x.Causes]
abbrev A_SActive (x : SActive) : T := .agg [.t (tI x.Reaction), .t (tS Pv.encI x.Causes)]
@[ext] structure SRecord where
  Time : Int
  Speed : Int
  Torque : Int
  Bound : Int
  Switches : List SSwitch
  Active : List SActive
  Off : Bool
def enc_SRecord (x : SRecord) : List Tree := [tI x.Time, tI x.Speed, tI x.Torque, tI x.Bound, tS enc_SSwitch x.Switches, tS enc_SActive x.Active, tB x.Off]
abbrev A_SRecord (x : SRecord) : T := .agg [.t (tI x.Time), .t (tI x.Speed), .t (tI x.Torque), .t (tI x.Bound), .t (tS enc_SSwitch x.Switches), .t (tS enc_SActive x.Active), .t (tB x.Off)]
@[ext] structure SConfig where
  Code : Int
  Fail : Int
  Pass : Int
  Heal : Int
  Age : Int
  Priority : Int
  Lamp : Bool
  Frame : Int
def enc_SConfig (x : SConfig) : List Tree := [tI x.Code, tI x.Fail, tI x.Pass, tI x.Heal, tI x.Age, tI x.Priority, tB x.Lamp, tI x.Frame]
abbrev A_SConfig (x : SConfig) : T := .agg [.t (tI x.Code), .t (tI x.Fail), .t (tI x.Pass), .t (tI x.Heal), .t (tI x.Age), .t (tI x.Priority), .t (tB x.Lamp), .t (tI x.Frame)]
@[ext] structure SReaction where
  Name : ByteArray
  Group : Int
  Priority : Int
  Causes : List Int
  Limit : Int
def enc_SReaction (x : SReaction) : List Tree := [.v (.string x.Name), tI x.Group, tI x.Priority, tS Pv.encI x.Causes, tI x.Limit]
abbrev A_SReaction (x : SReaction) : T := .agg [.t (.v (.string x.Name)), .t (tI x.Group), .t (tI x.Priority), .t (tS Pv.encI x.Causes), .t (tI x.Limit)]
@[ext] structure SMap where
  X : List Int
  Y : List Int
  Z : List (List Int)
def enc_SMap (x : SMap) : List Tree := [tS Pv.encI x.X, tS Pv.encI x.Y, tS (Pv.encS Pv.encI) x.Z]
abbrev A_SMap (x : SMap) : T := .agg [.t (tS Pv.encI x.X), .t (tS Pv.encI x.Y), .t (tS (Pv.encS Pv.encI) x.Z)]
@[ext] structure SCurve where
  X : List Int
  Y : List Int
def enc_SCurve (x : SCurve) : List Tree := [tS Pv.encI x.X, tS Pv.encI x.Y]
abbrev A_SCurve (x : SCurve) : T := .agg [.t (tS Pv.encI x.X), .t (tS Pv.encI x.Y)]
@[ext] structure SGain where
  P : Int
  I : Int
  Low : Int
  High : Int
def enc_SGain (x : SGain) : List Tree := [tI x.P, tI x.I, tI x.Low, tI x.High]
abbrev A_SGain (x : SGain) : T := .agg [.t (tI x.P), .t (tI x.I), .t (tI x.Low), .t (tI x.High)]
@[ext] structure STables where
  Air : SMap
  Spark : SMap
  Torque : SMap
  Wish : SMap
  AirTemp : SCurve
  Dwell : SCurve
  Dead : SCurve
  Efficiency : SCurve
  Idle : SGain
def enc_STables (x : STables) : List Tree := [tS Pv.encI x.Air.X, tS Pv.encI x.Air.Y, tS (Pv.encS Pv.encI) x.Air.Z, tS Pv.encI x.Spark.X, tS Pv.encI x.Spark.Y, tS (Pv.encS Pv.encI) x.Spark.Z, tS Pv.encI x.Torque.X, tS Pv.encI x.Torque.Y, tS (Pv.encS Pv.encI) x.Torque.Z, tS Pv.encI x.Wish.X, tS Pv.encI x.Wish.Y, tS (Pv.encS Pv.encI) x.Wish.Z, tS Pv.encI x.AirTemp.X, tS Pv.encI x.AirTemp.Y, tS Pv.encI x.Dwell.X, tS Pv.encI x.Dwell.Y, tS Pv.encI x.Dead.X, tS Pv.encI x.Dead.Y, tS Pv.encI x.Efficiency.X, tS Pv.encI x.Efficiency.Y, tI x.Idle.P, tI x.Idle.I, tI x.Idle.Low, tI x.Idle.High]
abbrev A_STables (x : STables) : T := .agg [.t (tS Pv.encI x.Air.X), .t (tS Pv.encI x.Air.Y), .t (tS (Pv.encS Pv.encI) x.Air.Z), .t (tS Pv.encI x.Spark.X), .t (tS Pv.encI x.Spark.Y), .t (tS (Pv.encS Pv.encI) x.Spark.Z), .t (tS Pv.encI x.Torque.X), .t (tS Pv.encI x.Torque.Y), .t (tS (Pv.encS Pv.encI) x.Torque.Z), .t (tS Pv.encI x.Wish.X), .t (tS Pv.encI x.Wish.Y), .t (tS (Pv.encS Pv.encI) x.Wish.Z), .t (tS Pv.encI x.AirTemp.X), .t (tS Pv.encI x.AirTemp.Y), .t (tS Pv.encI x.Dwell.X), .t (tS Pv.encI x.Dwell.Y), .t (tS Pv.encI x.Dead.X), .t (tS Pv.encI x.Dead.Y), .t (tS Pv.encI x.Efficiency.X), .t (tS Pv.encI x.Efficiency.Y), .t (tI x.Idle.P), .t (tI x.Idle.I), .t (tI x.Idle.Low), .t (tI x.Idle.High)]
@[ext] structure SBody where
  Inertia : Int
  Friction : Int
  Volume : Int
  Throttle : Int
  Film : Int
  Evaporate : Int
  Delay : Int
def enc_SBody (x : SBody) : List Tree := [tI x.Inertia, tI x.Friction, tI x.Volume, tI x.Throttle, tI x.Film, tI x.Evaporate, tI x.Delay]
abbrev A_SBody (x : SBody) : T := .agg [.t (tI x.Inertia), .t (tI x.Friction), .t (tI x.Volume), .t (tI x.Throttle), .t (tI x.Film), .t (tI x.Evaporate), .t (tI x.Delay)]
@[ext] structure SEngine where
  Order : List Int
  First : Int
def enc_SEngine (x : SEngine) : List Tree := [tS Pv.encI x.Order, tI x.First]
abbrev A_SEngine (x : SEngine) : T := .agg [.t (tS Pv.encI x.Order), .t (tI x.First)]
@[ext] structure SPedal where
  Value : Int
  Differ : Int
  Fault : Bool
abbrev A_SPedal (x : SPedal) : T := .agg [.t (tI x.Value), .t (tI x.Differ), .t (tB x.Fault)]
@[ext] structure SIntegral where
  Sum : Int
abbrev A_SIntegral (x : SIntegral) : T := .agg [.t (tI x.Sum)]
@[ext] structure SKnock where
  Retard : Int
  Noise : Int
  Quiet : Int
def enc_SKnock (x : SKnock) : List Tree := [tI x.Retard, tI x.Noise, tI x.Quiet]
abbrev A_SKnock (x : SKnock) : T := .agg [.t (tI x.Retard), .t (tI x.Noise), .t (tI x.Quiet)]
@[ext] structure SCell where
  Value : Int
  Count : Int
def enc_SCell (x : SCell) : List Tree := [tI x.Value, tI x.Count]
abbrev A_SCell (x : SCell) : T := .agg [.t (tI x.Value), .t (tI x.Count)]
@[ext] structure SProbe where
  Active : Bool
  Rich : Bool
  Factor : Int
  Wait : Int
  Cells : List SCell
abbrev A_SProbe (x : SProbe) : T := .agg [.t (tB x.Active), .t (tB x.Rich), .t (tI x.Factor), .t (tI x.Wait), .t (tS enc_SCell x.Cells)]
@[ext] structure SGrant where
  Torque : Int
  Source : Int
abbrev A_SGrant (x : SGrant) : T := .agg [.t (tI x.Torque), .t (tI x.Source)]
@[ext] structure SControls where
  Pedal : SPedal
  Idle : SIntegral
  Knock : List SKnock
  Probe : SProbe
  Film : Int
  Grant : SGrant
def enc_SControls (x : SControls) : List Tree := [tI x.Pedal.Value, tI x.Pedal.Differ, tB x.Pedal.Fault, tI x.Idle.Sum, tS enc_SKnock x.Knock, tB x.Probe.Active, tB x.Probe.Rich, tI x.Probe.Factor, tI x.Probe.Wait, tS enc_SCell x.Probe.Cells, tI x.Film, tI x.Grant.Torque, tI x.Grant.Source]
abbrev A_SControls (x : SControls) : T := .agg [.t (tI x.Pedal.Value), .t (tI x.Pedal.Differ), .t (tB x.Pedal.Fault), .t (tI x.Idle.Sum), .t (tS enc_SKnock x.Knock), .t (tB x.Probe.Active), .t (tB x.Probe.Rich), .t (tI x.Probe.Factor), .t (tI x.Probe.Wait), .t (tS enc_SCell x.Probe.Cells), .t (tI x.Film), .t (tI x.Grant.Torque), .t (tI x.Grant.Source)]
@[ext] structure SClock where
  Valid : Bool
  At : Int
  Angle : Int
  Period : Int
  Space : Int
  Ahead : Int
abbrev A_SClock (x : SClock) : T := .agg [.t (tB x.Valid), .t (tI x.At), .t (tI x.Angle), .t (tI x.Period), .t (tI x.Space), .t (tI x.Ahead)]
@[ext] structure SChannel where
  Armed : Bool
  At : Int
  Next : Bool
  Level : Bool
def enc_SChannel (x : SChannel) : List Tree := [tB x.Armed, tI x.At, tB x.Next, tB x.Level]
abbrev A_SChannel (x : SChannel) : T := .agg [.t (tB x.Armed), .t (tI x.At), .t (tB x.Next), .t (tB x.Level)]
@[ext] structure STimer where
  Now : Int
  Channels : List SChannel
def enc_STimer (x : STimer) : List Tree := [tI x.Now, tS enc_SChannel x.Channels]
abbrev A_STimer (x : STimer) : T := .agg [.t (tI x.Now), .t (tS enc_SChannel x.Channels)]
@[ext] structure SFire where
  Cylinder : Int
  Spark : Int
  Dwell : Int
  End : Int
  Inject : Int
  Gap : Int
  Extra : Int
def enc_SFire (x : SFire) : List Tree := [tI x.Cylinder, tI x.Spark, tI x.Dwell, tI x.End, tI x.Inject, tI x.Gap, tI x.Extra]
abbrev A_SFire (x : SFire) : T := .agg [.t (tI x.Cylinder), .t (tI x.Spark), .t (tI x.Dwell), .t (tI x.End), .t (tI x.Inject), .t (tI x.Gap), .t (tI x.Extra)]
@[ext] structure SEvent where
  Angle : Int
  Kind : Int
  Cylinder : Int
  Pulse : Int
def enc_SEvent (x : SEvent) : List Tree := [tI x.Angle, tI x.Kind, tI x.Cylinder, tI x.Pulse]
abbrev A_SEvent (x : SEvent) : T := .agg [.t (tI x.Angle), .t (tI x.Kind), .t (tI x.Cylinder), .t (tI x.Pulse)]
@[ext] structure SJob where
  Event : SEvent
  Left : Int
  Armed : Bool
  At : Int
def enc_SJob (x : SJob) : List Tree := [tI x.Event.Angle, tI x.Event.Kind, tI x.Event.Cylinder, tI x.Event.Pulse, tI x.Left, tB x.Armed, tI x.At]
abbrev A_SJob (x : SJob) : T := .agg [.t (tI x.Event.Angle), .t (tI x.Event.Kind), .t (tI x.Event.Cylinder), .t (tI x.Event.Pulse), .t (tI x.Left), .t (tB x.Armed), .t (tI x.At)]
@[ext] structure SScheduler where
  Engine : SEngine
  Clock : SClock
  Timer : STimer
  Next : List SFire
  Jobs : List SJob
  Cut : Bool
def enc_SScheduler (x : SScheduler) : List Tree := [tS Pv.encI x.Engine.Order, tI x.Engine.First, tB x.Clock.Valid, tI x.Clock.At, tI x.Clock.Angle, tI x.Clock.Period, tI x.Clock.Space, tI x.Clock.Ahead, tI x.Timer.Now, tS enc_SChannel x.Timer.Channels, tS enc_SFire x.Next, tS enc_SJob x.Jobs, tB x.Cut]
abbrev A_SScheduler (x : SScheduler) : T := .agg [.t (tS Pv.encI x.Engine.Order), .t (tI x.Engine.First), .t (tB x.Clock.Valid), .t (tI x.Clock.At), .t (tI x.Clock.Angle), .t (tI x.Clock.Period), .t (tI x.Clock.Space), .t (tI x.Clock.Ahead), .t (tI x.Timer.Now), .t (tS enc_SChannel x.Timer.Channels), .t (tS enc_SFire x.Next), .t (tS enc_SJob x.Jobs), .t (tB x.Cut)]
abbrev B_SScheduler (x : SScheduler) : List T := [.t (tS Pv.encI x.Engine.Order), .t (tI x.Engine.First), .t (tB x.Clock.Valid), .t (tI x.Clock.At), .t (tI x.Clock.Angle), .t (tI x.Clock.Period), .t (tI x.Clock.Space), .t (tI x.Clock.Ahead), .t (tI x.Timer.Now), .t (tS enc_SChannel x.Timer.Channels), .t (tS enc_SFire x.Next), .t (tS enc_SJob x.Jobs), .t (tB x.Cut)]
@[ext] structure SSync where
  Mode : Int
  Tooth : Int
  Last : Int
  Period : Int
  Normal : Int
  Teeth : Int
def enc_SSync (x : SSync) : List Tree := [tI x.Mode, tI x.Tooth, tI x.Last, tI x.Period, tI x.Normal, tI x.Teeth]
abbrev A_SSync (x : SSync) : T := .agg [.t (tI x.Mode), .t (tI x.Tooth), .t (tI x.Last), .t (tI x.Period), .t (tI x.Normal), .t (tI x.Teeth)]
@[ext] structure SPhase where
  Known : Bool
  Half : Int
  Count : Int
  Seen : Bool
def enc_SPhase (x : SPhase) : List Tree := [tB x.Known, tI x.Half, tI x.Count, tB x.Seen]
abbrev A_SPhase (x : SPhase) : T := .agg [.t (tB x.Known), .t (tI x.Half), .t (tI x.Count), .t (tB x.Seen)]
@[ext] structure SFilter where
  Seen : Bool
  Last : Int
  Period : Int
def enc_SFilter (x : SFilter) : List Tree := [tB x.Seen, tI x.Last, tI x.Period]
abbrev A_SFilter (x : SFilter) : T := .agg [.t (tB x.Seen), .t (tI x.Last), .t (tI x.Period)]
@[ext] structure SGuard where
  Over : Int
  Calm : Int
  Off : Bool
def enc_SGuard (x : SGuard) : List Tree := [tI x.Over, tI x.Calm, tB x.Off]
abbrev A_SGuard (x : SGuard) : T := .agg [.t (tI x.Over), .t (tI x.Calm), .t (tB x.Off)]
@[ext] structure SQuiz where
  Question : Int
  Asked : Int
  Errors : Int
  Open : Bool
  Off : Bool
def enc_SQuiz (x : SQuiz) : List Tree := [tI x.Question, tI x.Asked, tI x.Errors, tB x.Open, tB x.Off]
abbrev A_SQuiz (x : SQuiz) : T := .agg [.t (tI x.Question), .t (tI x.Asked), .t (tI x.Errors), .t (tB x.Open), .t (tB x.Off)]
@[ext] structure SStage where
  Enabled : Bool
  Cause : Int
  Since : Int
def enc_SStage (x : SStage) : List Tree := [tB x.Enabled, tI x.Cause, tI x.Since]
abbrev A_SStage (x : SStage) : T := .agg [.t (tB x.Enabled), .t (tI x.Cause), .t (tI x.Since)]
@[ext] structure SFault where
  Status : Int
  Count : Int
  Cycles : Int
  Clean : Int
  Occurrences : Int
  Frame : List Int
  Last : Int
def enc_SFault (x : SFault) : List Tree := [tI x.Status, tI x.Count, tI x.Cycles, tI x.Clean, tI x.Occurrences, tS Pv.encI x.Frame, tI x.Last]
abbrev A_SFault (x : SFault) : T := .agg [.t (tI x.Status), .t (tI x.Count), .t (tI x.Cycles), .t (tI x.Clean), .t (tI x.Occurrences), .t (tS Pv.encI x.Frame), .t (tI x.Last)]
@[ext] structure SFaults where
  Configs : List SConfig
  L : List SFault
  Cycle : Int
  Running : Bool
def enc_SFaults (x : SFaults) : List Tree := [tS enc_SConfig x.Configs, tS enc_SFault x.L, tI x.Cycle, tB x.Running]
abbrev A_SFaults (x : SFaults) : T := .agg [.t (tS enc_SConfig x.Configs), .t (tS enc_SFault x.L), .t (tI x.Cycle), .t (tB x.Running)]
@[ext] structure SPlant where
  Position : Int
  Speed : Int
  Rest : Int
  Pressure : Int
  Film : Int
  Path : List Int
def enc_SPlant (x : SPlant) : List Tree := [tI x.Position, tI x.Speed, tI x.Rest, tI x.Pressure, tI x.Film, tS Pv.encI x.Path]
abbrev A_SPlant (x : SPlant) : T := .agg [.t (tI x.Position), .t (tI x.Speed), .t (tI x.Rest), .t (tI x.Pressure), .t (tI x.Film), .t (tS Pv.encI x.Path)]
@[ext] structure SEcu where
  Tables : STables
  Controls : SControls
  Scheduler : SScheduler
  Sync : SSync
  Phase : SPhase
  Filter : SFilter
  Guard : SGuard
  Quiz : SQuiz
  Stage : SStage
  Faults : SFaults
  Plant : SPlant
  Body : SBody
  Time : Int
abbrev A_SEcu (x : SEcu) : T := .agg [.t (tS Pv.encI x.Tables.Air.X), .t (tS Pv.encI x.Tables.Air.Y), .t (tS (Pv.encS Pv.encI) x.Tables.Air.Z), .t (tS Pv.encI x.Tables.Spark.X), .t (tS Pv.encI x.Tables.Spark.Y), .t (tS (Pv.encS Pv.encI) x.Tables.Spark.Z), .t (tS Pv.encI x.Tables.Torque.X), .t (tS Pv.encI x.Tables.Torque.Y), .t (tS (Pv.encS Pv.encI) x.Tables.Torque.Z), .t (tS Pv.encI x.Tables.Wish.X), .t (tS Pv.encI x.Tables.Wish.Y), .t (tS (Pv.encS Pv.encI) x.Tables.Wish.Z), .t (tS Pv.encI x.Tables.AirTemp.X), .t (tS Pv.encI x.Tables.AirTemp.Y), .t (tS Pv.encI x.Tables.Dwell.X), .t (tS Pv.encI x.Tables.Dwell.Y), .t (tS Pv.encI x.Tables.Dead.X), .t (tS Pv.encI x.Tables.Dead.Y), .t (tS Pv.encI x.Tables.Efficiency.X), .t (tS Pv.encI x.Tables.Efficiency.Y), .t (tI x.Tables.Idle.P), .t (tI x.Tables.Idle.I), .t (tI x.Tables.Idle.Low), .t (tI x.Tables.Idle.High), .t (tI x.Controls.Pedal.Value), .t (tI x.Controls.Pedal.Differ), .t (tB x.Controls.Pedal.Fault), .t (tI x.Controls.Idle.Sum), .t (tS enc_SKnock x.Controls.Knock), .t (tB x.Controls.Probe.Active), .t (tB x.Controls.Probe.Rich), .t (tI x.Controls.Probe.Factor), .t (tI x.Controls.Probe.Wait), .t (tS enc_SCell x.Controls.Probe.Cells), .t (tI x.Controls.Film), .t (tI x.Controls.Grant.Torque), .t (tI x.Controls.Grant.Source), .t (tS Pv.encI x.Scheduler.Engine.Order), .t (tI x.Scheduler.Engine.First), .t (tB x.Scheduler.Clock.Valid), .t (tI x.Scheduler.Clock.At), .t (tI x.Scheduler.Clock.Angle), .t (tI x.Scheduler.Clock.Period), .t (tI x.Scheduler.Clock.Space), .t (tI x.Scheduler.Clock.Ahead), .t (tI x.Scheduler.Timer.Now), .t (tS enc_SChannel x.Scheduler.Timer.Channels), .t (tS enc_SFire x.Scheduler.Next), .t (tS enc_SJob x.Scheduler.Jobs), .t (tB x.Scheduler.Cut), .t (tI x.Sync.Mode), .t (tI x.Sync.Tooth), .t (tI x.Sync.Last), .t (tI x.Sync.Period), .t (tI x.Sync.Normal), .t (tI x.Sync.Teeth), .t (tB x.Phase.Known), .t (tI x.Phase.Half), .t (tI x.Phase.Count), .t (tB x.Phase.Seen), .t (tB x.Filter.Seen), .t (tI x.Filter.Last), .t (tI x.Filter.Period), .t (tI x.Guard.Over), .t (tI x.Guard.Calm), .t (tB x.Guard.Off), .t (tI x.Quiz.Question), .t (tI x.Quiz.Asked), .t (tI x.Quiz.Errors), .t (tB x.Quiz.Open), .t (tB x.Quiz.Off), .t (tB x.Stage.Enabled), .t (tI x.Stage.Cause), .t (tI x.Stage.Since), .t (tS enc_SConfig x.Faults.Configs), .t (tS enc_SFault x.Faults.L), .t (tI x.Faults.Cycle), .t (tB x.Faults.Running), .t (tI x.Plant.Position), .t (tI x.Plant.Speed), .t (tI x.Plant.Rest), .t (tI x.Plant.Pressure), .t (tI x.Plant.Film), .t (tS Pv.encI x.Plant.Path), .t (tI x.Body.Inertia), .t (tI x.Body.Friction), .t (tI x.Body.Volume), .t (tI x.Body.Throttle), .t (tI x.Body.Film), .t (tI x.Body.Evaporate), .t (tI x.Body.Delay), .t (tI x.Time)]
@[ext] structure SBreak where
  From : Int
  To : Int
  Sensor : Int
  Value : Int
def enc_SBreak (x : SBreak) : List Tree := [tI x.From, tI x.To, tI x.Sensor, tI x.Value]
abbrev A_SBreak (x : SBreak) : T := .agg [.t (tI x.From), .t (tI x.To), .t (tI x.Sensor), .t (tI x.Value)]
@[ext] structure SDrive where
  At : Int
  Pedal : Int
  Brake : Int
  Gear : Int
  Load : Int
def enc_SDrive (x : SDrive) : List Tree := [tI x.At, tI x.Pedal, tI x.Brake, tI x.Gear, tI x.Load]
abbrev A_SDrive (x : SDrive) : T := .agg [.t (tI x.At), .t (tI x.Pedal), .t (tI x.Brake), .t (tI x.Gear), .t (tI x.Load)]
@[ext] structure SWheel where
  Teeth : Int
  Missing : Int
def enc_SWheel (x : SWheel) : List Tree := [tI x.Teeth, tI x.Missing]
abbrev A_SWheel (x : SWheel) : T := .agg [.t (tI x.Teeth), .t (tI x.Missing)]
@[ext] structure SCam where
  Edges : List Int
def enc_SCam (x : SCam) : List Tree := [tS Pv.encI x.Edges]
abbrev A_SCam (x : SCam) : T := .agg [.t (tS Pv.encI x.Edges)]
abbrev A_arr5_Int (x : (Int × Int × Int × Int × Int)) : T := .agg [.t (tI x.1), .t (tI x.2.1), .t (tI x.2.2.1), .t (tI x.2.2.2.1), .t (tI x.2.2.2.2)]
@[ext] structure Sdrive_part where
  word : ByteArray
  low : Int
  high : Int
abbrev A_arr5_Sdrive_part (x : (Sdrive_part × Sdrive_part × Sdrive_part × Sdrive_part × Sdrive_part)) : T := .agg [.t (.v (.string x.1.word)), .t (tI x.1.low), .t (tI x.1.high), .t (.v (.string x.2.1.word)), .t (tI x.2.1.low), .t (tI x.2.1.high), .t (.v (.string x.2.2.1.word)), .t (tI x.2.2.1.low), .t (tI x.2.2.1.high), .t (.v (.string x.2.2.2.1.word)), .t (tI x.2.2.2.1.low), .t (tI x.2.2.2.1.high), .t (.v (.string x.2.2.2.2.word)), .t (tI x.2.2.2.2.low), .t (tI x.2.2.2.2.high)]
@[ext] structure SOutputs where
  Throttle : Int
  Fires : List SFire
  Torque : Int
def enc_SOutputs (x : SOutputs) : List Tree := [tI x.Throttle, tS enc_SFire x.Fires, tI x.Torque]
abbrev A_SOutputs (x : SOutputs) : T := .agg [.t (tI x.Throttle), .t (tS enc_SFire x.Fires), .t (tI x.Torque)]
@[ext] structure Secu_step where
  u : SEcu
  d : SDrive
  k : List SBreak
  t : Int
  speed : Int
  active : List SActive
  limit : Int
  pressure : Int
  heat : Int
  coolant : Int
  probe : Int
  outputs : SOutputs
  permitted : Int
  charge : Int
  known : Bool
  cut : Bool
  switches : List SSwitch
  torque : Int
def enc_Secu_step (x : Secu_step) : List Tree := [tS Pv.encI x.u.Tables.Air.X, tS Pv.encI x.u.Tables.Air.Y, tS (Pv.encS Pv.encI) x.u.Tables.Air.Z, tS Pv.encI x.u.Tables.Spark.X, tS Pv.encI x.u.Tables.Spark.Y, tS (Pv.encS Pv.encI) x.u.Tables.Spark.Z, tS Pv.encI x.u.Tables.Torque.X, tS Pv.encI x.u.Tables.Torque.Y, tS (Pv.encS Pv.encI) x.u.Tables.Torque.Z, tS Pv.encI x.u.Tables.Wish.X, tS Pv.encI x.u.Tables.Wish.Y, tS (Pv.encS Pv.encI) x.u.Tables.Wish.Z, tS Pv.encI x.u.Tables.AirTemp.X, tS Pv.encI x.u.Tables.AirTemp.Y, tS Pv.encI x.u.Tables.Dwell.X, tS Pv.encI x.u.Tables.Dwell.Y, tS Pv.encI x.u.Tables.Dead.X, tS Pv.encI x.u.Tables.Dead.Y, tS Pv.encI x.u.Tables.Efficiency.X, tS Pv.encI x.u.Tables.Efficiency.Y, tI x.u.Tables.Idle.P, tI x.u.Tables.Idle.I, tI x.u.Tables.Idle.Low, tI x.u.Tables.Idle.High, tI x.u.Controls.Pedal.Value, tI x.u.Controls.Pedal.Differ, tB x.u.Controls.Pedal.Fault, tI x.u.Controls.Idle.Sum, tS enc_SKnock x.u.Controls.Knock, tB x.u.Controls.Probe.Active, tB x.u.Controls.Probe.Rich, tI x.u.Controls.Probe.Factor, tI x.u.Controls.Probe.Wait, tS enc_SCell x.u.Controls.Probe.Cells, tI x.u.Controls.Film, tI x.u.Controls.Grant.Torque, tI x.u.Controls.Grant.Source, tS Pv.encI x.u.Scheduler.Engine.Order, tI x.u.Scheduler.Engine.First, tB x.u.Scheduler.Clock.Valid, tI x.u.Scheduler.Clock.At, tI x.u.Scheduler.Clock.Angle, tI x.u.Scheduler.Clock.Period, tI x.u.Scheduler.Clock.Space, tI x.u.Scheduler.Clock.Ahead, tI x.u.Scheduler.Timer.Now, tS enc_SChannel x.u.Scheduler.Timer.Channels, tS enc_SFire x.u.Scheduler.Next, tS enc_SJob x.u.Scheduler.Jobs, tB x.u.Scheduler.Cut, tI x.u.Sync.Mode, tI x.u.Sync.Tooth, tI x.u.Sync.Last, tI x.u.Sync.Period, tI x.u.Sync.Normal, tI x.u.Sync.Teeth, tB x.u.Phase.Known, tI x.u.Phase.Half, tI x.u.Phase.Count, tB x.u.Phase.Seen, tB x.u.Filter.Seen, tI x.u.Filter.Last, tI x.u.Filter.Period, tI x.u.Guard.Over, tI x.u.Guard.Calm, tB x.u.Guard.Off, tI x.u.Quiz.Question, tI x.u.Quiz.Asked, tI x.u.Quiz.Errors, tB x.u.Quiz.Open, tB x.u.Quiz.Off, tB x.u.Stage.Enabled, tI x.u.Stage.Cause, tI x.u.Stage.Since, tS enc_SConfig x.u.Faults.Configs, tS enc_SFault x.u.Faults.L, tI x.u.Faults.Cycle, tB x.u.Faults.Running, tI x.u.Plant.Position, tI x.u.Plant.Speed, tI x.u.Plant.Rest, tI x.u.Plant.Pressure, tI x.u.Plant.Film, tS Pv.encI x.u.Plant.Path, tI x.u.Body.Inertia, tI x.u.Body.Friction, tI x.u.Body.Volume, tI x.u.Body.Throttle, tI x.u.Body.Film, tI x.u.Body.Evaporate, tI x.u.Body.Delay, tI x.u.Time, tI x.d.At, tI x.d.Pedal, tI x.d.Brake, tI x.d.Gear, tI x.d.Load, tS enc_SBreak x.k, tI x.t, tI x.speed, tS enc_SActive x.active, tI x.limit, tI x.pressure, tI x.heat, tI x.coolant, tI x.probe, tI x.outputs.Throttle, tS enc_SFire x.outputs.Fires, tI x.outputs.Torque, tI x.permitted, tI x.charge, tB x.known, tB x.cut, tS enc_SSwitch x.switches, tI x.torque]
abbrev B_Secu_step (x : Secu_step) : List T := [.t (tS Pv.encI x.u.Tables.Air.X), .t (tS Pv.encI x.u.Tables.Air.Y), .t (tS (Pv.encS Pv.encI) x.u.Tables.Air.Z), .t (tS Pv.encI x.u.Tables.Spark.X), .t (tS Pv.encI x.u.Tables.Spark.Y), .t (tS (Pv.encS Pv.encI) x.u.Tables.Spark.Z), .t (tS Pv.encI x.u.Tables.Torque.X), .t (tS Pv.encI x.u.Tables.Torque.Y), .t (tS (Pv.encS Pv.encI) x.u.Tables.Torque.Z), .t (tS Pv.encI x.u.Tables.Wish.X), .t (tS Pv.encI x.u.Tables.Wish.Y), .t (tS (Pv.encS Pv.encI) x.u.Tables.Wish.Z), .t (tS Pv.encI x.u.Tables.AirTemp.X), .t (tS Pv.encI x.u.Tables.AirTemp.Y), .t (tS Pv.encI x.u.Tables.Dwell.X), .t (tS Pv.encI x.u.Tables.Dwell.Y), .t (tS Pv.encI x.u.Tables.Dead.X), .t (tS Pv.encI x.u.Tables.Dead.Y), .t (tS Pv.encI x.u.Tables.Efficiency.X), .t (tS Pv.encI x.u.Tables.Efficiency.Y), .t (tI x.u.Tables.Idle.P), .t (tI x.u.Tables.Idle.I), .t (tI x.u.Tables.Idle.Low), .t (tI x.u.Tables.Idle.High), .t (tI x.u.Controls.Pedal.Value), .t (tI x.u.Controls.Pedal.Differ), .t (tB x.u.Controls.Pedal.Fault), .t (tI x.u.Controls.Idle.Sum), .t (tS enc_SKnock x.u.Controls.Knock), .t (tB x.u.Controls.Probe.Active), .t (tB x.u.Controls.Probe.Rich), .t (tI x.u.Controls.Probe.Factor), .t (tI x.u.Controls.Probe.Wait), .t (tS enc_SCell x.u.Controls.Probe.Cells), .t (tI x.u.Controls.Film), .t (tI x.u.Controls.Grant.Torque), .t (tI x.u.Controls.Grant.Source), .t (tS Pv.encI x.u.Scheduler.Engine.Order), .t (tI x.u.Scheduler.Engine.First), .t (tB x.u.Scheduler.Clock.Valid), .t (tI x.u.Scheduler.Clock.At), .t (tI x.u.Scheduler.Clock.Angle), .t (tI x.u.Scheduler.Clock.Period), .t (tI x.u.Scheduler.Clock.Space), .t (tI x.u.Scheduler.Clock.Ahead), .t (tI x.u.Scheduler.Timer.Now), .t (tS enc_SChannel x.u.Scheduler.Timer.Channels), .t (tS enc_SFire x.u.Scheduler.Next), .t (tS enc_SJob x.u.Scheduler.Jobs), .t (tB x.u.Scheduler.Cut), .t (tI x.u.Sync.Mode), .t (tI x.u.Sync.Tooth), .t (tI x.u.Sync.Last), .t (tI x.u.Sync.Period), .t (tI x.u.Sync.Normal), .t (tI x.u.Sync.Teeth), .t (tB x.u.Phase.Known), .t (tI x.u.Phase.Half), .t (tI x.u.Phase.Count), .t (tB x.u.Phase.Seen), .t (tB x.u.Filter.Seen), .t (tI x.u.Filter.Last), .t (tI x.u.Filter.Period), .t (tI x.u.Guard.Over), .t (tI x.u.Guard.Calm), .t (tB x.u.Guard.Off), .t (tI x.u.Quiz.Question), .t (tI x.u.Quiz.Asked), .t (tI x.u.Quiz.Errors), .t (tB x.u.Quiz.Open), .t (tB x.u.Quiz.Off), .t (tB x.u.Stage.Enabled), .t (tI x.u.Stage.Cause), .t (tI x.u.Stage.Since), .t (tS enc_SConfig x.u.Faults.Configs), .t (tS enc_SFault x.u.Faults.L), .t (tI x.u.Faults.Cycle), .t (tB x.u.Faults.Running), .t (tI x.u.Plant.Position), .t (tI x.u.Plant.Speed), .t (tI x.u.Plant.Rest), .t (tI x.u.Plant.Pressure), .t (tI x.u.Plant.Film), .t (tS Pv.encI x.u.Plant.Path), .t (tI x.u.Body.Inertia), .t (tI x.u.Body.Friction), .t (tI x.u.Body.Volume), .t (tI x.u.Body.Throttle), .t (tI x.u.Body.Film), .t (tI x.u.Body.Evaporate), .t (tI x.u.Body.Delay), .t (tI x.u.Time), .t (tI x.d.At), .t (tI x.d.Pedal), .t (tI x.d.Brake), .t (tI x.d.Gear), .t (tI x.d.Load), .t (tS enc_SBreak x.k), .t (tI x.t), .t (tI x.speed), .t (tS enc_SActive x.active), .t (tI x.limit), .t (tI x.pressure), .t (tI x.heat), .t (tI x.coolant), .t (tI x.probe), .t (tI x.outputs.Throttle), .t (tS enc_SFire x.outputs.Fires), .t (tI x.outputs.Torque), .t (tI x.permitted), .t (tI x.charge), .t (tB x.known), .t (tB x.cut), .t (tS enc_SSwitch x.switches), .t (tI x.torque)]
abbrev A_arr7_Bool (x : (Bool × Bool × Bool × Bool × Bool × Bool × Bool)) : T := .agg [.t (tB x.1), .t (tB x.2.1), .t (tB x.2.2.1), .t (tB x.2.2.2.1), .t (tB x.2.2.2.2.1), .t (tB x.2.2.2.2.2.1), .t (tB x.2.2.2.2.2.2)]
@[ext] structure SRequest where
  Source : Int
  Kind : Int
  Torque : Int
  Priority : Int
def enc_SRequest (x : SRequest) : List Tree := [tI x.Source, tI x.Kind, tI x.Torque, tI x.Priority]
abbrev A_SRequest (x : SRequest) : T := .agg [.t (tI x.Source), .t (tI x.Kind), .t (tI x.Torque), .t (tI x.Priority)]
@[ext] structure SInputs where
  Pedal1 : Int
  Pedal2 : Int
  Speed : Int
  Pressure : Int
  AirTemp : Int
  Voltage : Int
  Lambda : Int
  Coolant : Int
  Intensity : List Int
  Requests : List SRequest
abbrev A_SInputs (x : SInputs) : T := .agg [.t (tI x.Pedal1), .t (tI x.Pedal2), .t (tI x.Speed), .t (tI x.Pressure), .t (tI x.AirTemp), .t (tI x.Voltage), .t (tI x.Lambda), .t (tI x.Coolant), .t (tS Pv.encI x.Intensity), .t (tS enc_SRequest x.Requests)]
@[ext] structure SRun where
  Ticks : Int
  Speed : Int
abbrev A_SRun (x : SRun) : T := .agg [.t (tI x.Ticks), .t (tI x.Speed)]
@[ext] structure Scontrol_step where
  t : STables
  e : SEngine
  b : SBody
  c : SControls
  i : SInputs
  wanted : Int
  charge : Int
  fired : Int
  late : Int
  pattern : List Bool
  time : Int
  out : SOutputs
  fail : Int
abbrev B_Scontrol_step (x : Scontrol_step) : List T := [.t (tS Pv.encI x.t.Air.X), .t (tS Pv.encI x.t.Air.Y), .t (tS (Pv.encS Pv.encI) x.t.Air.Z), .t (tS Pv.encI x.t.Spark.X), .t (tS Pv.encI x.t.Spark.Y), .t (tS (Pv.encS Pv.encI) x.t.Spark.Z), .t (tS Pv.encI x.t.Torque.X), .t (tS Pv.encI x.t.Torque.Y), .t (tS (Pv.encS Pv.encI) x.t.Torque.Z), .t (tS Pv.encI x.t.Wish.X), .t (tS Pv.encI x.t.Wish.Y), .t (tS (Pv.encS Pv.encI) x.t.Wish.Z), .t (tS Pv.encI x.t.AirTemp.X), .t (tS Pv.encI x.t.AirTemp.Y), .t (tS Pv.encI x.t.Dwell.X), .t (tS Pv.encI x.t.Dwell.Y), .t (tS Pv.encI x.t.Dead.X), .t (tS Pv.encI x.t.Dead.Y), .t (tS Pv.encI x.t.Efficiency.X), .t (tS Pv.encI x.t.Efficiency.Y), .t (tI x.t.Idle.P), .t (tI x.t.Idle.I), .t (tI x.t.Idle.Low), .t (tI x.t.Idle.High), .t (tS Pv.encI x.e.Order), .t (tI x.e.First), .t (tI x.b.Inertia), .t (tI x.b.Friction), .t (tI x.b.Volume), .t (tI x.b.Throttle), .t (tI x.b.Film), .t (tI x.b.Evaporate), .t (tI x.b.Delay), .t (tI x.c.Pedal.Value), .t (tI x.c.Pedal.Differ), .t (tB x.c.Pedal.Fault), .t (tI x.c.Idle.Sum), .t (tS enc_SKnock x.c.Knock), .t (tB x.c.Probe.Active), .t (tB x.c.Probe.Rich), .t (tI x.c.Probe.Factor), .t (tI x.c.Probe.Wait), .t (tS enc_SCell x.c.Probe.Cells), .t (tI x.c.Film), .t (tI x.c.Grant.Torque), .t (tI x.c.Grant.Source), .t (tI x.i.Pedal1), .t (tI x.i.Pedal2), .t (tI x.i.Speed), .t (tI x.i.Pressure), .t (tI x.i.AirTemp), .t (tI x.i.Voltage), .t (tI x.i.Lambda), .t (tI x.i.Coolant), .t (tS Pv.encI x.i.Intensity), .t (tS enc_SRequest x.i.Requests), .t (tI x.wanted), .t (tI x.charge), .t (tI x.fired), .t (tI x.late), .t (tS Pv.encB x.pattern), .t (tI x.time), .t (tI x.out.Throttle), .t (tS enc_SFire x.out.Fires), .t (tI x.out.Torque), .t (tI x.fail)]
@[ext] structure Splant_world where
  Plant : SPlant
  b : SBody
abbrev B_Splant_world (x : Splant_world) : List T := [.t (tI x.Plant.Position), .t (tI x.Plant.Speed), .t (tI x.Plant.Rest), .t (tI x.Plant.Pressure), .t (tI x.Plant.Film), .t (tS Pv.encI x.Plant.Path), .t (tI x.b.Inertia), .t (tI x.b.Friction), .t (tI x.b.Volume), .t (tI x.b.Throttle), .t (tI x.b.Film), .t (tI x.b.Evaporate), .t (tI x.b.Delay)]
@[ext] structure Sarbiter_span where
  low : Int
  high : Int
  source : Int
abbrev A_Sarbiter_span (x : Sarbiter_span) : T := .agg [.t (tI x.low), .t (tI x.high), .t (tI x.source)]
@[ext] structure Sscheduler_planned where
  x : SEvent
  f_at : Int
def enc_Sscheduler_planned (x : Sscheduler_planned) : List Tree := [tI x.x.Angle, tI x.x.Kind, tI x.x.Cylinder, tI x.x.Pulse, tI x.f_at]
abbrev A_Sscheduler_planned (x : Sscheduler_planned) : T := .agg [.t (tI x.x.Angle), .t (tI x.x.Kind), .t (tI x.x.Cylinder), .t (tI x.x.Pulse), .t (tI x.f_at)]
end Go.Pv
