/- The value machine, part Xa: calls that are lent blocks and hand back new ones; states under other names. -/
import Derived.Test.YtmocoljbdiphoaaPvX
namespace Go.Pv
open Go.RowKit

def nodupB : List Nat → Bool
  | [] => true
  | x :: r => !(r.any (Nat.beq x)) && nodupB r

def rev : List (Nat × Nat) → Nat → Option Nat
  | [], _ => none
  | (a, b) :: r, c => bif Nat.beq b c then some a else rev r c

theorem any_beq {l : List Nat} {x : Nat} (h : l.any (Nat.beq x) = false) : x ∉ l := by
  intro hx
  rw [List.any_eq_false] at h
  exact h x hx (Nat.beq_refl x)

theorem look_mem {α : Type} : ∀ {l : List (Nat × α)} {i : Nat} {x : α}, look l i = some x → (i, x) ∈ l
  | [], i, x, h => by simp [look] at h
  | (a, b) :: r, i, x, h => by
    simp only [look] at h
    by_cases hi : a = i
    · subst hi; simp only [Nat.beq_refl, cond_true, Option.some.injEq] at h; subst h; exact List.mem_cons_self ..
    · simp only [beq_ne hi, cond_false] at h; exact List.mem_cons_of_mem _ (look_mem h)

theorem rev_look : ∀ {h : List (Nat × Nat)} {i j : Nat}, nodupB (h.map (·.2)) = true → look h i = some j → rev h j = some i
  | [], i, j, _, hl => by simp [look] at hl
  | (a, b) :: r, i, j, hn, hl => by
    simp only [List.map_cons, nodupB, Bool.and_eq_true, Bool.not_eq_true'] at hn
    simp only [look] at hl
    by_cases hi : a = i
    · subst hi; simp only [Nat.beq_refl, cond_true, Option.some.injEq] at hl; subst hl; simp [rev]
    · simp only [beq_ne hi, cond_false] at hl
      have hne : b ≠ j := fun e => any_beq hn.1 (e ▸ List.mem_map.2 ⟨(i, j), look_mem hl, rfl⟩)
      simp only [rev, beq_ne hne, cond_false]
      exact rev_look hn.2 hl

theorem rev_none : ∀ {h : List (Nat × Nat)} {c : Nat}, c ∉ h.map (·.2) → rev h c = none
  | [], c, _ => rfl
  | (a, b) :: r, c, hc => by
    simp only [List.map_cons, List.mem_cons, not_or] at hc
    simp only [rev, beq_ne (Ne.symm hc.1), cond_false]
    exact rev_none hc.2

theorem rev_mem : ∀ {h : List (Nat × Nat)} {c a : Nat}, rev h c = some a → (a, c) ∈ h
  | [], c, a, hr => by simp [rev] at hr
  | (x, y) :: r, c, a, hr => by
    simp only [rev] at hr
    by_cases hy : y = c
    · subst hy; simp only [Nat.beq_refl, cond_true, Option.some.injEq] at hr; subst hr; exact List.mem_cons_self ..
    · simp only [beq_ne hy, cond_false] at hr; exact List.mem_cons_of_mem _ (rev_mem hr)

theorem look_append {α : Type} : ∀ (l m : List (Nat × α)) (i : Nat), look (l ++ m) i = match look l i with | some x => some x | none => look m i
  | [], m, i => rfl
  | (a, b) :: r, m, i => by
    simp only [List.cons_append, look]
    by_cases hi : a = i
    · subst hi; simp
    · simp only [beq_ne hi, cond_false]; exact look_append r m i

theorem nodup_append : ∀ {l m : List Nat}, nodupB (l ++ m) = true → nodupB l = true ∧ nodupB m = true ∧ ∀ x, x ∈ l → x ∉ m
  | [], m, h => ⟨rfl, h, fun x hx => by simp at hx⟩
  | a :: r, m, h => by
    simp only [List.cons_append, nodupB, Bool.and_eq_true, Bool.not_eq_true', List.any_append, Bool.or_eq_false_iff] at h
    obtain ⟨h1, h2, h3⟩ := nodup_append h.2
    refine ⟨by simp [nodupB, h.1.1, h1], h2, fun x hx => ?_⟩
    rcases List.mem_cons.1 hx with rfl | hx
    · exact any_beq h.1.2
    · exact h3 x hx

def renHp (h : List (Nat × Nat)) : List (Nat × Blk) → Option (List (Nat × Blk))
  | [] => some []
  | (i, b) :: r => match look h i, renB h b, renHp h r with | some j, some c, some l => some ((j, c) :: l) | _, _, _ => none

def renTm (h : List (Nat × Nat)) : List (Nat × T) → Option (List (Nat × T))
  | [] => some []
  | (k, t) :: r => match renT h t, renTm h r with | some u, some l => some ((k, u) :: l) | _, _ => none

theorem renHp_back {h : List (Nat × Nat)} : ∀ {hp hp' : List (Nat × Blk)}, renHp h hp = some hp' → ∀ {c : Nat} {b' : Blk}, look hp' c = some b' → ∃ i b, look hp i = some b ∧ look h i = some c ∧ renB h b = some b'
  | [], hp', hr, c, b', hl => by simp only [renHp, Option.some.injEq] at hr; subst hr; simp [look] at hl
  | (i, b) :: r, hp', hr, c, b', hl => by
    simp only [renHp] at hr
    split at hr <;> try (cases hr; done)
    rename_i j b1 l hj hb hl'
    simp only [Option.some.injEq] at hr; subst hr
    simp only [look] at hl
    by_cases hc : j = c
    · subst hc
      simp only [Nat.beq_refl, cond_true, Option.some.injEq] at hl; subst hl
      exact ⟨i, b, by simp [look], hj, hb⟩
    · simp only [beq_ne hc, cond_false] at hl
      obtain ⟨i', b2, h1, h2, h3⟩ := renHp_back hl' hl
      refine ⟨i', b2, ?_, h2, h3⟩
      have hne : i ≠ i' := by intro e; subst e; rw [hj] at h2; exact hc (Option.some.inj h2)
      simp only [look, beq_ne hne, cond_false]
      exact h1

theorem renHp_fwd {h : List (Nat × Nat)} : ∀ {hp hp' : List (Nat × Blk)}, renHp h hp = some hp' → ∀ {i : Nat} {b : Blk}, look hp i = some b → ∃ j b', look h i = some j ∧ renB h b = some b' ∧ (j, b') ∈ hp'
  | [], hp', hr, i, b, hl => by simp [look] at hl
  | (i0, b0) :: r, hp', hr, i, b, hl => by
    simp only [renHp] at hr
    split at hr <;> try (cases hr; done)
    rename_i j b1 l hj hb hl'
    simp only [Option.some.injEq] at hr; subst hr
    simp only [look] at hl
    by_cases hi : i0 = i
    · subst hi
      simp only [Nat.beq_refl, cond_true, Option.some.injEq] at hl; subst hl
      exact ⟨j, b1, hj, hb, List.mem_cons_self ..⟩
    · simp only [beq_ne hi, cond_false] at hl
      obtain ⟨j', b2, h1, h2, h3⟩ := renHp_fwd hl' hl
      exact ⟨j', b2, h1, h2, List.mem_cons_of_mem _ h3⟩

theorem renTm_back {h : List (Nat × Nat)} : ∀ {tm tm' : List (Nat × T)}, renTm h tm = some tm' → ∀ {k : Nat} {u : T}, look tm' k = some u → ∃ t, look tm k = some t ∧ renT h t = some u
  | [], tm', hr, k, u, hl => by simp only [renTm, Option.some.injEq] at hr; subst hr; simp [look] at hl
  | (k0, t0) :: r, tm', hr, k, u, hl => by
    simp only [renTm] at hr
    split at hr <;> try (cases hr; done)
    rename_i u1 l hu hl'
    simp only [Option.some.injEq] at hr; subst hr
    simp only [look] at hl
    by_cases hk : k0 = k
    · subst hk
      simp only [Nat.beq_refl, cond_true, Option.some.injEq] at hl; subst hl
      exact ⟨t0, by simp [look], hu⟩
    · simp only [beq_ne hk, cond_false] at hl
      obtain ⟨t, h1, h2⟩ := renTm_back hl' hl
      exact ⟨t, by simp only [look, beq_ne hk, cond_false]; exact h1, h2⟩

def renOk (h : List (Nat × Nat)) : Bool := nodupB (h.map (·.2)) && h.all (fun p => Nat.blt p.2 big || Nat.beq p.1 p.2)

/-- A state under other names. -/
theorem Ok.ren {w0 : World} {L : Lim} {nt : Nat} {tm tm' : List (Nat × T)} {hp hp' : List (Nat × Blk)} {S : Nat → Prop} {E : Nat → Value} {a : Act} {w : World} (k : Ok w0 L nt ⟨tm, hp⟩ S E a w) (h : List (Nat × Nat)) (ho : renOk h = true)
    (ht : renTm h tm = some tm') (hh : renHp h hp = some hp') : ∃ E', Ok w0 L nt ⟨tm', hp'⟩ S E' a w := by
  simp only [renOk, Bool.and_eq_true, List.all_eq_true] at ho
  let E' : Nat → Value := fun c => match rev h c with | some s => E s | none => E c
  have hE : ∀ i j, look h i = some j → E' j = E i := fun i j hl => by simp [E', rev_look ho.1 hl]
  refine ⟨E', { keep := k.keep, stab := k.stab, base := k.base, size := k.size, defers := k.defers, tm := fun n u hl => ?_, hp := fun c b hl => ?_, own := fun c b β hl hβ => ?_, dist := fun c c' b b' β hl hl' hβ hβ' => ?_, pin := fun id hid => ?_ }⟩
  · obtain ⟨t, h1, h2⟩ := renTm_back ht hl
    exact renT_ok hE (k.tm n t h1) h2
  · obtain ⟨i, b0, h1, h2, h3⟩ := renHp_back hh hl
    rw [hE i c h2]
    exact renB_ok hE (k.hp i b0 h1) h3
  · obtain ⟨i, b0, h1, h2, h3⟩ := renHp_back hh hl
    rw [hE i c h2] at hβ
    exact k.own i b0 β h1 hβ
  · obtain ⟨i, b0, h1, h2, h3⟩ := renHp_back hh hl
    obtain ⟨i', b0', h1', h2', h3'⟩ := renHp_back hh hl'
    rw [hE i c h2] at hβ
    rw [hE i' c' h2'] at hβ'
    have := k.dist i i' b0 b0' β h1 h1' hβ hβ'
    subst this
    rw [h2] at h2'
    exact Option.some.inj h2'
  · simp only [E']
    split
    · rename_i s hs
      have := ho.2 _ (rev_mem hs)
      simp only [Bool.or_eq_true] at this
      rcases this with h1 | h1
      · have := Nat.le_of_ble_eq_true h1; omega
      · have := Nat.eq_of_beq_eq_true h1; subst this; exact k.pin _ hid
    · exact k.pin id hid

def callA (tm : List (Nat × T)) (o : Oper) : Option (Nat × List T) :=
  match o.op with
  | .call ⟨.value f, args, _⟩ => match val tm f, vals tm args.toList with
    | some (.fz n caps), some l => some (n, l ++ caps.map .el)
    | some (.clo n c), some l => some (n, l ++ c)
    | _, _ => none
  | _ => none

theorem callA_ok {P : Program} {w0 : World} {L : Lim} {nt : Nat} {σ : St} {S : Nat → Prop} {E : Nat → Value} {a : Act} {w : World} (h : Ok w0 L nt σ S E a w) {o : Oper} {n : Nat} {l : List T} (ho : callA σ.tm o = some (n, l)) (hn : ∀ vs w, (callFunc n vs).run P w = .ok (.enter n vs) w) :
    ∃ vs : List Value, (execOp a.eval o).run P w = .ok (.enter n vs.toArray) w ∧ RVL w S E vs l := by
  obtain ⟨dst, op, type, pos, aft, guard⟩ := o
  unfold callA at ho
  split at ho <;> try (cases ho; done)
  rename_i f args tys hop
  simp only at hop
  subst hop
  have fin : ∀ (ps : List Value) (caps : List T) (l' : List T), a.eval f = .func (.func n) #[] ps.toArray → RVL w S E ps caps → vals σ.tm args.toList = some l' → l = l' ++ caps →
      ∃ vs : List Value, (execOp a.eval ⟨dst, .call ⟨.value f, args, tys⟩, type, pos, aft, guard⟩).run P w = .ok (.enter n vs.toArray) w ∧ RVL w S E vs l := by
    intro ps caps l' hx hps hl e
    subst e
    refine ⟨args.toList.map a.eval ++ ps, ?_, (vals_ok h _ _ hl).append hps⟩
    have : (args.map a.eval) = (args.toList.map a.eval).toArray := Array.ext' (by simp)
    simp only [execOp, resolve, Sem.run_bind, hx, Deferred.ofValue, Sem.run_pure, Result.andThen_ok, invoke]
    rw [hn]
    simp [this]
  split at ho <;> try (cases ho; done)
  · rename_i n' caps' l' hf hl
    simp only [Option.some.injEq, Prod.mk.injEq] at ho
    obtain ⟨rfl, rfl⟩ := ho
    have hfv := h.val hf
    generalize hx : a.eval f = x at hfv
    cases hfv with
    | fz _ ps _ hpl hp =>
      exact fin ps (caps'.map .el) l' hx ⟨by simpa using hpl, fun j h1 h2 => by simp only [List.getElem_map]; exact (hp j h1 (by simpa using h2)).rv⟩ hl rfl
  · rename_i n' c l' hf hl
    simp only [Option.some.injEq, Prod.mk.injEq] at ho
    obtain ⟨rfl, rfl⟩ := ho
    have hfv := h.val hf
    generalize hx : a.eval f = x at hfv
    cases hfv with
    | clo _ ps _ hpl hp => exact fin ps c l' hx ⟨hpl, hp⟩ hl rfl

def memB (c : Nat) (l : List (Nat × Nat)) : Bool := l.any fun p => Nat.beq p.2 c

def dropIds (lm : List (Nat × Nat)) : List (Nat × Blk) → List (Nat × Blk)
  | [] => []
  | (i, b) :: r => match memB i lm with | true => dropIds lm r | false => (i, b) :: dropIds lm r

theorem dropIds_look {lm : List (Nat × Nat)} : ∀ {hp : List (Nat × Blk)} {i : Nat} {b : Blk}, look (dropIds lm hp) i = some b → look hp i = some b ∧ i ∉ lm.map (·.2)
  | [], i, b, h => by simp [dropIds, look] at h
  | (j, c) :: r, i, b, h => by
    simp only [dropIds] at h
    cases hm : memB j lm <;> simp only [hm] at h
    · simp only [look] at h
      by_cases hj : j = i
      · subst hj
        simp only [Nat.beq_refl, cond_true, Option.some.injEq] at h; subst h
        refine ⟨by simp [look], fun hx => ?_⟩
        obtain ⟨p, hp, he⟩ := List.mem_map.1 hx
        unfold memB at hm
        rw [List.any_eq_false] at hm
        exact hm p hp (by simp [he])
      · simp only [beq_ne hj, cond_false] at h
        have := dropIds_look h
        exact ⟨by simp only [look, beq_ne hj, cond_false]; exact this.1, this.2⟩
    · have := dropIds_look h
      refine ⟨?_, this.2⟩
      by_cases hj : j = i
      · subst hj
        exfalso
        unfold memB at hm
        rw [List.any_eq_true] at hm
        obtain ⟨p, hp, he⟩ := hm
        exact this.2 (List.mem_map.2 ⟨p, hp, Nat.eq_of_beq_eq_true he⟩)
      · simp only [look, beq_ne hj, cond_false]; exact this.1

def mapsOk (lm nm : List (Nat × Nat)) (tm : List (Nat × T)) (hp : List (Nat × Blk)) : Bool :=
  nodupB ((lm ++ nm).map (·.2)) && lm.all (fun p => Nat.ble big p.1) && nm.all (fun p => Nat.blt p.2 big && freshT p.2 tm && freshB p.2 hp)

/-- What a call leaves behind. -/
theorem Ok.called {w0 : World} {L : Lim} {nt : Nat} {tm : List (Nat × T)} {hp chp chp' rchp rhp : List (Nat × Blk)} {S S' : Nat → Prop} {E E' : Nat → Value} {a : Act} {w w' : World} (k : Ok w0 L nt ⟨tm, hp⟩ S E a w) {lm nm : List (Nat × Nat)} {v : Value} {t u : T}
    (hm : mapsOk lm nm tm hp = true) (hr : renHp lm chp = some rchp) (hsub : rchp.map (look3 hp) = rchp.map (fun p => some p.2)) {Ec : Nat → Value} (hEc : ∀ i j, look lm i = some j → Ec i = E j)
    (hv : RV w' S' E' v t) (hkeep : Keep (lentOf chp Ec) w w') (h1 : ∀ b, S' b → b < w'.heap.size) (h2 : ∀ b, S' b → S b ∨ lentOf chp Ec b ∨ w.heap.size ≤ b)
    (hO : Owned w' S' E' chp') (h3 : ∀ β, lentOf chp' E' β → lentOf chp Ec β ∨ w.heap.size ≤ β) (h4 : ∀ id, big ≤ id → E' id = Ec id)
    (hres : renT (lm ++ nm) t = some u) (hrhp : renHp (lm ++ nm) chp' = some rhp) :
    ∃ S2 E2, Ok w0 L nt ⟨tm, rhp ++ dropIds lm hp⟩ S2 E2 a w' ∧ RV w' S2 E2 v u := by
  simp only [mapsOk, Bool.and_eq_true, List.all_eq_true] at hm
  obtain ⟨⟨hnd, hbig⟩, hfr⟩ := hm
  rw [List.map_append] at hnd
  obtain ⟨nd1, nd2, ndx⟩ := nodup_append hnd
  have hmem : ∀ p ∈ rchp, ∃ b', look hp p.1 = some b' ∧ mrgB b' p.2 = p.2 := by
    intro p hp'
    obtain ⟨n, hn, rfl⟩ := List.mem_iff_getElem.1 hp'
    have : (rchp.map (look3 hp))[n]? = (rchp.map (fun p => some p.2))[n]? := by rw [hsub]
    rw [List.getElem?_map, List.getElem?_map, List.getElem?_eq_getElem hn] at this
    simp only [Option.map_some, Option.some.injEq] at this
    unfold look3 at this
    split at this
    · rename_i b' hb'; exact ⟨b', hb', Option.some.inj this⟩
    · cases this
  -- who is lent
  have lent : ∀ β, lentOf chp Ec β → ∃ i j b', look lm i = some j ∧ look hp j = some b' ∧ blkOf (E j) = some β := by
    rintro β ⟨i, b, hb, hβ⟩
    obtain ⟨j, b', e1, e2, e3⟩ := renHp_fwd hr hb
    obtain ⟨b0, e4, _⟩ := hmem _ e3
    exact ⟨i, j, b0, e1, e4, by rw [← hEc i j e1]; exact hβ⟩
  have lentOwn : ∀ β, lentOf chp Ec β → ¬ S β ∧ β < w.heap.size ∧ (w0.heap.size ≤ β ∨ L.lent β) := fun β hl => by
    obtain ⟨i, j, b', _, e2, e3⟩ := lent β hl
    exact k.own j b' β e2 e3
  have tgt : ∀ {i j : Nat}, look lm i = some j → j ∈ lm.map (·.2) := fun h => List.mem_map.2 ⟨_, look_mem h, rfl⟩
  have hS : ∀ b, S b → w'.heap[b]? = w.heap[b]? := fun b hb => hkeep.block b (k.stab b hb) (fun hl => (lentOwn b hl).1 hb)
  have hsz := hkeep.size
  have hsz0 := k.keep.size
  let E2 : Nat → Value := fun c => match rev nm c with | some s => E' s | none => E c
  have e2none : ∀ c, c ∉ nm.map (·.2) → E2 c = E c := fun c hc => by simp [E2, rev_none hc]
  have freshTm : ∀ c, c ∈ nm.map (·.2) → c < big ∧ freshT c tm = true ∧ freshB c hp = true := fun c hc => by
    obtain ⟨p, hp', rfl⟩ := List.mem_map.1 hc
    obtain ⟨⟨f1, f2⟩, f3⟩ := by simpa using hfr p hp'
    exact ⟨by simpa using f1, f2, f3⟩
  have hE2 : ∀ i j, look (lm ++ nm) i = some j → E2 j = E' i := by
    intro i j hl
    rw [look_append] at hl
    cases hli : look lm i with
    | some j' =>
      simp only [hli, Option.some.injEq] at hl
      subst hl
      rw [e2none j' (ndx j' (tgt hli)), h4 i (Nat.le_of_ble_eq_true (hbig _ (look_mem hli))), hEc i j' hli]
    | none =>
      simp only [hli] at hl
      simp [E2, rev_look nd2 hl]
  refine ⟨fun b => S b ∨ S' b, E2, ?_, (renT_ok hE2 hv hres).mono (fun _ x => .inr x) (fun _ _ => rfl) (fun _ _ => rfl)⟩
  have nameTm : ∀ n x, look tm n = some x → ∀ id, names id x = true → E2 id = E id := fun n x hx id hid => e2none id fun hc => by
    have := freshT_look (freshTm id hc).2.1 n x hx; rw [this] at hid; cases hid
  have fromA : ∀ {c b}, look rhp c = some b → ∃ i b0, look chp' i = some b0 ∧ look (lm ++ nm) i = some c ∧ renB (lm ++ nm) b0 = some b := fun h => renHp_back hrhp h
  have fromB : ∀ {c b}, look (dropIds lm hp) c = some b → look hp c = some b ∧ c ∉ lm.map (·.2) ∧ E2 c = E c := fun {c b} h => by
    have := dropIds_look h
    exact ⟨this.1, this.2, e2none c fun hc => (freshB_look (freshTm c hc).2.2 c b this.1).1 rfl⟩
  have blkA : ∀ {c b β}, look rhp c = some b → blkOf (E2 c) = some β → lentOf chp' E' β ∧ ¬ S' β ∧ β < w'.heap.size := fun {c b β} h hβ => by
    obtain ⟨i, b0, e1, e2, e3⟩ := fromA h
    rw [hE2 i c e2] at hβ
    exact ⟨⟨i, b0, e1, hβ⟩, hO.own i b0 β e1 hβ⟩
  have notLent : ∀ {c b β}, look hp c = some b → c ∉ lm.map (·.2) → blkOf (E c) = some β → ¬ lentOf chp Ec β := fun {c b β} h hc hβ hl => by
    obtain ⟨i, j, b', e1, e2, e3⟩ := lent β hl
    have := k.dist c j b b' β h e2 hβ e3
    subst this
    exact hc (tgt e1)
  exact {
    keep := k.keep.trans hkeep (fun x hx => (lentOwn x hx).2.2.symm)
    stab := fun b hb => hb.elim (fun h => Nat.lt_of_lt_of_le (k.stab b h) hsz) (h1 b)
    base := fun b hb => by
      rcases hb with hb | hb
      · exact k.base b hb
      · rcases h2 b hb with h5 | h5 | h5
        · exact k.base b h5
        · exact .inr ((lentOwn b h5).2.2.symm)
        · exact .inr (.inr (Nat.le_trans hsz0 h5))
    size := k.size
    defers := k.defers
    tm := fun n x hx => (k.tm n x hx).mono (fun _ x => .inl x) hS (nameTm n x hx)
    hp := fun c b hl => by
      simp only at hl
      rw [look_append] at hl
      cases hA : look rhp c with
      | some b0 =>
        simp only [hA, Option.some.injEq] at hl
        subst hl
        obtain ⟨i, b1, e1, e2, e3⟩ := fromA hA
        rw [hE2 i c e2]
        exact (renB_ok hE2 (hO.blk i b1 e1) e3).mono (fun _ x => .inr x) (fun _ _ => rfl) (fun _ _ => rfl) (fun _ _ => rfl)
      | none =>
        simp only [hA] at hl
        obtain ⟨e1, e2, e3⟩ := fromB hl
        rw [e3]
        exact (k.hp c b e1).mono (fun _ x => .inl x) hS (fun β hβ => hkeep.block β (k.own c b β e1 hβ).2.1 (notLent e1 e2 hβ)) fun id hid => e2none id fun hc => by
          have := (freshB_look (freshTm id hc).2.2 c b e1).2; rw [this] at hid; cases hid
    own := fun c b β hl hβ => by
      simp only at hl
      rw [look_append] at hl
      cases hA : look rhp c with
      | some b0 =>
        obtain ⟨e1, e2, e3⟩ := blkA hA hβ
        rcases h3 β e1 with h5 | h5
        · exact ⟨fun hx => hx.elim (lentOwn β h5).1 e2, e3, (lentOwn β h5).2.2⟩
        · exact ⟨fun hx => hx.elim (fun h6 => absurd (k.stab β h6) (Nat.not_lt.2 h5)) e2, e3, .inl (Nat.le_trans hsz0 h5)⟩
      | none =>
        simp only [hA] at hl
        obtain ⟨e1, e2, e3⟩ := fromB hl
        rw [e3] at hβ
        have := k.own c b β e1 hβ
        refine ⟨fun hx => hx.elim this.1 fun h6 => ?_, Nat.lt_of_lt_of_le this.2.1 hsz, this.2.2⟩
        rcases h2 β h6 with h7 | h7 | h7
        · exact this.1 h7
        · exact notLent e1 e2 hβ h7
        · exact absurd this.2.1 (Nat.not_lt.2 h7)
    dist := fun c c' b b' β hl hl' hβ hβ' => by
      simp only at hl hl'
      rw [look_append] at hl hl'
      have clash : ∀ {c c' b b'}, look rhp c = some b → look (dropIds lm hp) c' = some b' → blkOf (E2 c) = some β → blkOf (E2 c') = some β → False := fun {c c' b b'} hA hB q1 q2 => by
        obtain ⟨e1, e2, e3⟩ := blkA hA q1
        obtain ⟨f1, f2, f3⟩ := fromB hB
        rw [f3] at q2
        rcases h3 β e1 with h5 | h5
        · exact notLent f1 f2 q2 h5
        · exact absurd (k.own c' b' β f1 q2).2.1 (Nat.not_lt.2 h5)
      cases hA : look rhp c with
      | some b0 =>
        cases hA' : look rhp c' with
        | some b0' =>
          obtain ⟨i, b1, e1, e2, e3⟩ := fromA hA
          obtain ⟨i', b1', e1', e2', e3'⟩ := fromA hA'
          rw [hE2 i c e2] at hβ
          rw [hE2 i' c' e2'] at hβ'
          have := hO.dist i i' b1 b1' β e1 e1' hβ hβ'
          subst this
          rw [e2] at e2'
          exact Option.some.inj e2'
        | none =>
          simp only [hA'] at hl'
          exact (clash hA hl' hβ hβ').elim
      | none =>
        simp only [hA] at hl
        cases hA' : look rhp c' with
        | some b0' => exact (clash hA' hl hβ' hβ).elim
        | none =>
          simp only [hA'] at hl'
          obtain ⟨e1, _, e3⟩ := fromB hl
          obtain ⟨e1', _, e3'⟩ := fromB hl'
          rw [e3] at hβ
          rw [e3'] at hβ'
          exact k.dist c c' b b' β e1 e1' hβ hβ'
    pin := fun id hid => by
      rw [e2none id fun hc => by have := (freshTm id hc).1; omega]
      exact k.pin id hid }

section
variable {ρ τ : Type} {X : Cx} {ks : List K} {tm tm' : List (Nat × T)} {hp hp' : List (Nat × Blk)} {m : Option ρ} {Q : ρ → Exit → St → Prop}

theorem TieX.ren {e' : Exit} (h : List (Nat × Nat)) (ho : renOk h = true) (ht : renTm h tm = some tm') (hh : renHp h hp = some hp') (k : TieX X ks e' ⟨tm', hp'⟩ m Q) : TieX X ks e' ⟨tm, hp⟩ m Q := fun r hr a w ⟨S, E, hw⟩ => by
  obtain ⟨E', h'⟩ := hw.ren h ho ht hh
  exact k r hr a w ⟨S, E', h'⟩

theorem TieO.callG {all : Array Oper} {o : Oper} {rest : List Oper} {n : Nat} {targs targs' cargs : List T} {chp rchp : List (Nat × Blk)} {m₁ : Option τ} {res : τ → T} {chp' : τ → List (Nat × Blk)} {k : τ → Option ρ} (lm nm : List (Nat × Nat))
    {rres : τ → T} {rhp : τ → List (Nat × Blk)} {σ₁ : τ → St} (σ₂ : τ → St) (hc : TieG X.P n cargs chp m₁ res chp')
    (hg : guardT all.toList tm o.guard = some true) (ho : callA tm o = some (n, targs)) (ha : renL lm cargs = some targs') (hmr : mrgL targs targs' = targs')
    (hr : renHp lm chp = some rchp) (hsub : rchp.map (look3 hp) = rchp.map (fun p => some p.2)) (hm : mapsOk lm nm tm hp = true)
    (hres : ∀ t, renT (lm ++ nm) (res t) = some (rres t)) (hrhp : ∀ t, renHp (lm ++ nm) (chp' t) = some (rhp t))
    (hput : ∀ t, putT X.nt o.dst (rres t) ⟨tm, rhp t ++ dropIds lm hp⟩ = some (σ₁ t)) (hs : ∀ t, Sub (σ₂ t) (σ₁ t))
    (h : ∀ t, m₁ = some t → TieO X all rest ks (σ₂ t) (k t) Q) : TieO X all (o :: rest) ks ⟨tm, hp⟩ (m₁.bind k) Q := fun r hr' a w ⟨S, E, hk⟩ => by
  cases hm₁ : m₁ with
  | none => simp [hm₁] at hr'
  | some t =>
    simp only [hm₁, Option.bind_some] at hr'
    obtain ⟨vs, hrun, hv⟩ := callA_ok hk ho hc.1
    let Ec : Nat → Value := fun i => match look lm i with | some j => E j | none => E i
    have hEc : ∀ i j, look lm i = some j → Ec i = E j := fun i j h => by simp [Ec, h]
    have hargs : RVL w S Ec vs cargs := by
      have h1 := mrgL_ok (u := targs') hv
      rw [hmr] at h1
      exact unrenL_ok (fun i j h => (hEc i j h).symm) h1 ha
    have hmem : ∀ p ∈ rchp, ∃ b', look hp p.1 = some b' ∧ mrgB b' p.2 = p.2 := by
      intro p hp'
      obtain ⟨n, hn, rfl⟩ := List.mem_iff_getElem.1 hp'
      have : (rchp.map (look3 hp))[n]? = (rchp.map (fun p => some p.2))[n]? := by rw [hsub]
      rw [List.getElem?_map, List.getElem?_map, List.getElem?_eq_getElem hn] at this
      simp only [Option.map_some, Option.some.injEq] at this
      unfold look3 at this
      split at this
      · rename_i b' hb'; exact ⟨b', hb', Option.some.inj this⟩
      · cases this
    have hO : Owned w S Ec chp := by
      refine ⟨fun i b hb => ?_, fun i b β hb hβ => ?_, fun i i' b b' β hb hb' hβ hβ' => ?_⟩
      · obtain ⟨j, b', e1, e2, e3⟩ := renHp_fwd hr hb
        obtain ⟨b0, e4, e5⟩ := hmem _ e3
        have h1 := mrgB_ok (u := b') (hk.hp j b0 e4)
        rw [show mrgB b0 b' = b' from e5] at h1
        rw [hEc i j e1]
        exact unrenB_ok (fun i j h => (hEc i j h).symm) h1 e2
      · obtain ⟨j, b', e1, e2, e3⟩ := renHp_fwd hr hb
        obtain ⟨b0, e4, e5⟩ := hmem _ e3
        rw [hEc i j e1] at hβ
        have := hk.own j b0 β e4 hβ
        exact ⟨this.1, this.2.1⟩
      · obtain ⟨j, b1, e1, e2, e3⟩ := renHp_fwd hr hb
        obtain ⟨b0, e4, e5⟩ := hmem _ e3
        obtain ⟨j', b1', e1', e2', e3'⟩ := renHp_fwd hr hb'
        obtain ⟨b0', e4', e5'⟩ := hmem _ e3'
        rw [hEc i j e1] at hβ
        rw [hEc i' j' e1'] at hβ'
        have := hk.dist j j' b0 b0' β e4 e4' hβ hβ'
        subst this
        have hm' := hm
        simp only [mapsOk, Bool.and_eq_true] at hm'
        have nd := (nodup_append (by simpa using hm'.1.1)).1
        have r1 := rev_look nd e1
        rw [rev_look nd e1'] at r1
        exact (Option.some.inj r1).symm
    have hcall := hc.2 t hm₁ w S Ec vs hk.stab hO hargs
    refine wpList_step fun K hK => ?_
    rw [guardT_ok hk hg, if_pos rfl]
    unfold Oper.wp
    rw [hrun, Oper.upon_enter]
    refine hcall.mono fun e w' ⟨v, S', E', he, hv', hkeep, h1, h2, hO', h3, h4⟩ => ?_
    subst he
    obtain ⟨S2, E2, hok, hrv⟩ := hk.called hm hr hsub hEc hv' hkeep h1 h2 hO' h3 h4 (hres t) (hrhp t)
    exact hK _ _ (h t hm₁ r hr' _ _ ⟨S2, E2, (putT_ok hok hrv (hput t)).sub (hs t)⟩)
end
end Go.Pv
