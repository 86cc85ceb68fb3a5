/- The value machine, part K: calls, contracts from bodies, indexes. -/
import Derived.Test.YtmocoljbdiphoaaPvJ
namespace Go.Pv
open Go.RowKit

/-- A call of a function whose captured variables stay as they are: its number, its arguments, what it captured. -/
def callZ (tm : List (Nat × T)) (o : Oper) : Option (Nat × List T × List (List Tree)) :=
  match o.op with
  | .call ⟨.value f, args, _⟩ => match val tm f, vals tm args.toList with
    | some (.fz n caps), some l => some (n, l, caps)
    | _, _ => none
  | _ => none

section
variable {w0 : World} {L : Lim} {nt : Nat} {σ : St} {S : Nat → Prop} {E : Nat → Value} {a : Act} {w : World}

theorem Ok.more (h : Ok w0 L nt σ S E a w) {S' : Nat → Prop} (h1 : ∀ b, S' b → b < w.heap.size) (h2 : ∀ b, S' b → L.base b ∨ L.lent b ∨ w0.heap.size ≤ b)
    (h3 : ∀ id blk β, look σ.hp id = some blk → blkOf (E id) = some β → ¬ S' β) : Ok w0 L nt σ (fun b => S b ∨ S' b) E a w :=
  { h with
    stab := fun b hb => hb.elim (h.stab b) (h1 b)
    base := fun b hb => hb.elim (h.base b) (h2 b)
    tm := fun k t ht => (h.tm k t ht).mono (fun _ x => .inl x) (fun _ _ => rfl) (fun _ _ => rfl)
    hp := fun id b hb => (h.hp id b hb).mono (fun _ x => .inl x) (fun _ _ => rfl) (fun _ _ => rfl) (fun _ _ => rfl)
    own := fun id b β hb hβ => ⟨fun hx => hx.elim (h.own id b β hb hβ).1 (h3 id b β hb hβ), (h.own id b β hb hβ).2⟩ }

theorem callZ_ok {P : Program} (h : Ok w0 L nt σ S E a w) {o : Oper} {n : Nat} {l : List T} {caps : List (List Tree)} (ho : callZ σ.tm o = some (n, l, caps)) (hn : ∀ vs w, (callFunc n vs).run P w = .ok (.enter n vs) w) :
    ∃ vs ps : List Value, (execOp a.eval o).run P w = .ok (.enter n (vs ++ ps).toArray) w ∧ RVL w S E vs l ∧ ∀ E', RVL w S E' ps (caps.map T.el) := by
  obtain ⟨dst, op, type, pos, aft, guard⟩ := o
  unfold callZ at ho
  split at ho <;> try (cases ho; done)
  rename_i f args tys hop
  simp only at hop
  subst hop
  split at ho <;> try (cases ho; done)
  rename_i n' caps' l' hf hl
  simp only [Option.some.injEq, Prod.mk.injEq] at ho
  obtain ⟨rfl, rfl, rfl⟩ := ho
  have hfv := h.val hf
  generalize hx : a.eval f = x at hfv
  cases hfv with
  | fz _ ps _ hpl hp =>
    refine ⟨args.toList.map a.eval, ps, ?_, vals_ok h _ _ hl, fun E' => ⟨by simpa using hpl, fun j h1 h2 => ?_⟩⟩
    · have : (args.map a.eval) = (args.toList.map a.eval).toArray := Array.ext' (by simp)
      simp only [execOp, resolve, Sem.run_bind, hx, Deferred.ofValue, Sem.run_pure, Result.andThen_ok, invoke]
      rw [hn]
      simp [this]
    · simp only [List.getElem_map]
      exact (hp j h1 (by simpa using h2)).rv

theorem RVL.append {vs us : List Value} {l m : List T} (h : RVL w S E vs l) (k : RVL w S E us m) : RVL w S E (vs ++ us) (l ++ m) := by
  refine ⟨by simp [h.1, k.1], fun j h1 h2 => ?_⟩
  have hl := h.1
  by_cases hj : j < vs.length
  · rw [List.getElem_append_left hj, List.getElem_append_left (by omega)]; exact h.2 j hj (by omega)
  · rw [List.getElem_append_right (by omega), List.getElem_append_right (by omega)]
    simp only [List.length_append] at h1 h2
    have := k.2 (j - vs.length) (by omega) (by omega)
    simp only [hl] at this ⊢
    exact this

theorem RVL.mono' {w' : World} {S' : Nat → Prop} {vs : List Value} {l : List T} (h : RVL w S E vs l) (hS : ∀ b, S b → S' b) (hw : ∀ b, S b → w'.heap[b]? = w.heap[b]?) : RVL w' S' E vs l :=
  ⟨h.1, fun j h1 h2 => (h.2 j h1 h2).mono hS hw (fun _ _ => rfl)⟩

/-- A slot's content that names nothing of the call's own: the same under every naming. -/
theorem RV.closed (h : Ok w0 L nt σ S E a w) {l r : List T} {vs : List Value} (hv : RVL w S E vs l) (hf : frzL [] l = some r) : ∀ E', RVL w S E' vs r :=
  frzL_ok (σ := ⟨σ.tm, []⟩) { h with hp := fun id b hb => by simp [look] at hb, own := fun id b β hb => by simp [look] at hb, dist := fun id id' b b' β hb => by simp [look] at hb }
    (fun _ x => x) (fun b hb => by obtain ⟨id, _, sz, n, rs, hl, _⟩ := hb; simp [look] at hl) hv hf
end

section
variable {ρ τ : Type} {X : Cx} {ks : List K} {σ : St} {m : Option ρ} {Q : ρ → Exit → St → Prop}

/-- A call whose arguments hold nothing of the call's own. -/
theorem TieO.call {all : Array Oper} {o : Oper} {rest : List Oper} {n : Nat} {targs cargs : List T} {caps : List (List Tree)} {m₁ : Option τ} {res : τ → T} {k : τ → Option ρ} (σ₂ : τ → St)
    (hg : guardT all.toList σ.tm o.guard = some true) (ho : callZ σ.tm o = some (n, targs, caps)) (hf : frzL [] targs = some cargs) (hc : TieF X.P n (cargs ++ caps.map T.el) m₁ res)
    (hp : ∀ t, putT X.nt o.dst (res t) σ = some (σ₂ t)) (h : ∀ t, TieO X all rest ks (σ₂ t) (k t) Q) : TieO X all (o :: rest) ks σ (m₁.bind k) Q := fun r hr a w ⟨S, E, hk⟩ => by
  cases hm : m₁ with
  | none => simp [hm] at hr
  | some t =>
    simp only [hm, Option.bind_some] at hr
    obtain ⟨vs, ps, hrun, hv, hps⟩ := callZ_ok hk ho hc.1
    have hcall := hc.2 t hm w S E (vs ++ ps) hk.stab ((RV.closed hk hv hf E).append (hps E))
    refine wpList_step fun K hK => ?_
    rw [guardT_ok hk hg, if_pos rfl]
    unfold Oper.wp
    rw [hrun, Oper.upon_enter]
    refine hcall.mono fun e w' ⟨v, S', he, hv', hkeep, hs1, hs2⟩ => ?_
    subst he
    refine hK _ _ (h t r hr _ _ ⟨fun b => S b ∨ S' b, E, putT_ok ((hk.grow hkeep).more hs1 (fun b hb => ?_) (fun id blk β hb hβ hS => ?_)) (hv'.mono (fun _ x => .inr x) (fun _ _ => rfl) (fun _ _ => rfl)) (hp t)⟩)
    · rcases hs2 b hb with h1 | h1
      · exact hk.base b h1
      · exact .inr (.inr (Nat.le_trans hk.keep.size h1))
    · have := hk.own id blk β hb hβ
      rcases hs2 β hS with h1 | h1
      · exact this.1 h1
      · exact absurd this.2.1 (Nat.not_lt.2 h1)

/-- A call that gives numbers and truth values: its arguments may be slices of the call's own. -/
theorem TieO.callS {all : Array Oper} {o : Oper} {rest : List Oper} {n : Nat} {targs cargs : List T} {caps : List (List Tree)} {m₁ : Option τ} {res : τ → T} {k : τ → Option ρ} (σ₂ : τ → St)
    (hg : guardT all.toList σ.tm o.guard = some true) (ho : callZ σ.tm o = some (n, targs, caps)) (hf : frzL σ.hp targs = some cargs) (hc : TieF X.P n (cargs ++ caps.map T.el) m₁ res) (hsc : ∀ t, scalar (res t) = true)
    (hp : ∀ t, putT X.nt o.dst (res t) σ = some (σ₂ t)) (h : ∀ t, TieO X all rest ks (σ₂ t) (k t) Q) : TieO X all (o :: rest) ks σ (m₁.bind k) Q := fun r hr a w ⟨S, E, hk⟩ => by
  cases hm : m₁ with
  | none => simp [hm] at hr
  | some t =>
    simp only [hm, Option.bind_some] at hr
    obtain ⟨vs, ps, hrun, hv, hps⟩ := callZ_ok hk ho hc.1
    have hcall := hc.2 t hm w (fun b => S b ∨ ownRows σ.hp E b) E (vs ++ ps) (fun b hb => hb.elim (hk.stab b) (fun ⟨id, _, sz, n, rs, hl, hβ⟩ => (hk.own id _ b hl hβ).2.1))
      ((frzL_ok hk (fun _ x => .inl x) (fun _ x => .inr x) hv hf E).append ((hps E).mono' (fun _ x => .inl x) (fun _ _ => rfl)))
    refine wpList_step fun K hK => ?_
    rw [guardT_ok hk hg, if_pos rfl]
    unfold Oper.wp
    rw [hrun, Oper.upon_enter]
    refine hcall.mono fun e w' ⟨v, S', he, hv', hkeep, _, _⟩ => ?_
    subst he
    exact hK _ _ (h t r hr _ _ ⟨S, E, putT_ok (hk.grow hkeep) (hv'.scalar (hsc t)) (hp t)⟩)

def number : Nat → List T → List (Nat × T)
  | _, [] => []
  | k, x :: r => (k, x) :: number (k + 1) r

theorem number_look : ∀ (l : List T) (k j : Nat) (t : T), look (number k l) j = some t → k ≤ j ∧ l[j - k]? = some t
  | [], k, j, t, h => by simp [number, look] at h
  | x :: r, k, j, t, h => by
    simp only [number, look] at h
    by_cases hk : k = j
    · subst hk; simp only [Nat.beq_refl, cond_true, Option.some.injEq] at h; subst h; simp
    · simp only [beq_ne hk, cond_false] at h
      obtain ⟨h1, h2⟩ := number_look r (k + 1) j t h
      refine ⟨by omega, ?_⟩
      rw [show j - k = (j - (k + 1)) + 1 by omega, List.getElem?_cons_succ]
      exact h2

def resVals (tab : Tab) (σ : St) : List ResultVar → Option (List T)
  | [] => some []
  | .tmp t :: r => match look σ.tm t, resVals tab σ r with
    | some x, some l => some (x :: l)
    | _, _ => none
  | .cell c ty :: r => match look σ.tm c, look tab ty, resVals tab σ r with
    | some (.ptr id off), some ti, some l => match look σ.hp id with
      | some (.box ts) => (takeT ti.desc.isAgg ti.size ts off).map (· :: l)
      | _ => none
    | _, _, _ => none

/-- What the function hands back. -/
def retT (tab : Tab) (σ : St) (l : List ResultVar) : Option T :=
  match resVals tab σ l with
  | some [x] => frzT σ.hp x
  | some l => (frzL σ.hp l).map .tup
  | none => none

def resOne (tmps : Array Value) : ResultVar → Sem Value
  | .tmp t => pure (tmps.getD t undef)
  | .cell c t => do loadVar t (← asAddr (tmps.getD c undef))

theorem resVals_ok {P : Program} {tab : Tab} (htab : TabOk P tab) {w0 : World} {L : Lim} {nt : Nat} {S : Nat → Prop} {E : Nat → Value} {a : Act} {w : World} (h : Ok w0 L nt σ S E a w) :
    ∀ (l : List ResultVar) (r : List T), resVals tab σ l = some r →
      ∃ vs : List Value, (l.mapM (resOne a.tmps)).run P w = .ok vs w ∧ RVL w S E vs r
  | [], r, hr => by
    simp only [resVals, Option.some.injEq] at hr; subst hr
    exact ⟨[], by simp, rfl, fun j h1 => by simp at h1⟩
  | .tmp t :: l, r, hr => by
    simp only [resVals] at hr
    split at hr <;> try (cases hr; done)
    rename_i x r' hx hr'
    simp only [Option.some.injEq] at hr; subst hr
    obtain ⟨vs, h1, h2⟩ := resVals_ok htab h l r' hr'
    refine ⟨a.tmps.getD t undef :: vs, ?_, by simp [h2.1], fun j a1 a2 => ?_⟩
    · rw [List.mapM_cons, Sem.run_bind, resOne, Sem.run_pure, Result.andThen_ok, Sem.run_bind, h1]; rfl
    · cases j with
      | zero => exact h.tm t x hx
      | succ j => exact h2.2 j (by simpa using a1) (by simpa using a2)
  | .cell c ty :: l, r, hr => by
    simp only [resVals] at hr
    split at hr <;> try (cases hr; done)
    rename_i id off ti r' hx hti hr'
    split at hr <;> try (cases hr; done)
    rename_i ts hb
    obtain ⟨vs, h1, h2⟩ := resVals_ok htab h l r' hr'
    cases hq : takeT ti.desc.isAgg ti.size ts off with
    | none => simp [hq] at hr
    | some y =>
      simp only [hq, Option.map_some, Option.some.injEq] at hr; subst hr
      obtain ⟨β, hpv, hE⟩ := (h.tm c _ hx).ptr_inv
      obtain ⟨β', cs, elem, hE', hh, hl, hrr, _⟩ := h.hp id _ hb
      rw [hE] at hE'; cases hE'
      obtain ⟨v, hv1, hv2⟩ := load_ok (P := P) (w := w) (b := β) (o := 0) (htab ty _ hti) hl (fun j h1 => by rw [cell_of_row w β (0 + j) _ elem _ hh]; simp [h1]) hrr hq
      rw [Nat.zero_add] at hv1
      have hv3 : (loadVar ty ⟨β, off, none⟩).run P w = .ok v w := by simpa [Instr.loadAt, Instr.sureAddr] using hv1
      refine ⟨v :: vs, ?_, by simp [h2.1], fun j a1 a2 => ?_⟩
      · rw [List.mapM_cons, Sem.run_bind, resOne, hpv]
        simp only [asAddr, Sem.run_bind, Sem.run_pure, Result.andThen_ok, hv3, h1]
      · cases j with
        | zero => exact hv2
        | succ j => exact h2.2 j (by simpa using a1) (by simpa using a2)

theorem retT_ok {P : Program} {tab : Tab} (htab : TabOk P tab) {w0 : World} {L : Lim} {nt : Nat} {S : Nat → Prop} {E : Nat → Value} {a : Act} {w : World} (h : Ok w0 L nt σ S E a w) {fn : Func} {t : T}
    (hr : retT tab σ fn.results.toList = some t) : ∃ v, (results fn a.tmps).run P w = .ok v w ∧ ∀ E', RV w (fun b => S b ∨ ownRows σ.hp E b) E' v t := by
  unfold retT at hr
  cases hl : resVals tab σ fn.results.toList with
  | none => simp [hl] at hr
  | some l =>
    obtain ⟨vs, h1, h2⟩ := resVals_ok htab h _ _ hl
    have hm : (fn.results.mapM (resOne a.tmps)).run P w = .ok vs.toArray w := by
      rw [Array.mapM_eq_mapM_toList, Sem.run_map, h1]; rfl
    have hrun : (results fn a.tmps).run P w = .ok (if h : vs.toArray.size = 1 then vs.toArray[0] else .tuple vs.toArray) w := by
      show (do let vs ← fn.results.mapM (resOne a.tmps); pure (if h : vs.size = 1 then vs[0] else .tuple vs) : Sem Value).run P w = _
      rw [Sem.run_bind, hm]
      rfl
    refine ⟨_, hrun, fun E' => ?_⟩
    rw [hl] at hr
    have hlen := h2.1
    match l, hr, hlen with
    | [x], hr, hlen =>
      match vs, hlen, h2 with
      | [v], _, h2 =>
        have h0 : RV w S E v x := h2.2 0 (Nat.zero_lt_one) (Nat.zero_lt_one)
        exact frzT_ok (S' := fun b => S b ∨ ownRows σ.hp E b) h (fun _ x => .inl x) (fun _ x => .inr x) h0 hr E'
    | [], hr, hlen =>
      simp only [frzL, Option.map_some, Option.some.injEq] at hr
      subst hr
      match vs, hlen with
      | [], _ => exact .tup [] [] rfl fun j h1 => by simp at h1
    | x :: y :: l, hr, hlen =>
      simp only at hr
      cases hf : frzL σ.hp (x :: y :: l) with
      | none => simp [hf] at hr
      | some r =>
        simp only [hf, Option.map_some, Option.some.injEq] at hr
        subst hr
        have := frzL_ok h (S' := fun b => S b ∨ ownRows σ.hp E b) (fun _ x => .inl x) (fun _ x => .inr x) h2 hf E'
        have hsz : ¬ vs.toArray.size = 1 := by simp at hlen ⊢; omega
        rw [dif_neg hsz]
        exact .tup vs r this.1 this.2

/-- A function's contract, from its body. -/
theorem TieF.intro {P : Program} {tab : Tab} (htab : TabOk P tab) {n : Nat} {fn : Func} {c : Code} {args : List T} {m : Option τ} {res : τ → T} (nt : Nat) (rs : List ResultVar)
    (hcall : ∀ vs w, (callFunc n vs).run P w = .ok (.enter n vs) w) (hf : P.funcs[n]? = some fn) (hb : fn.body = some c) (hnt : fn.ntmps = nt) (hrs : fn.results.toList = rs) (hsz : args.length ≤ nt)
    (body : ∀ (w0 : World) (L : Lim), TieS ⟨P, tab, htab, w0, L, nt⟩ [.c c] ⟨number 0 args, []⟩ m (fun r e σ' => (e = .ret ∨ e = .normal) ∧ retT tab σ' rs = some (res r))) : TieF P n args m res := by
  refine ⟨hcall, fun r hr w S E vs hS hv => ?_⟩
  refine calls_of_wp hf hb ?_
  have h := body w ⟨fun _ => False, S, E⟩ r hr ⟨vs.toArray ++ Array.replicate (fn.ntmps - vs.toArray.size) undef, []⟩ w ⟨S, E, {
    keep := Keep.refl _ _, stab := hS, base := fun b hb => .inl hb, size := by have := hv.1; simp; omega, defers := rfl,
    tm := fun k t ht => by
      obtain ⟨_, hk⟩ := number_look args 0 k t ht
      simp only [Nat.sub_zero] at hk
      obtain ⟨hlt, rfl⟩ := List.getElem?_eq_some_iff.1 hk
      have hlt' : k < vs.length := by have := hv.1; omega
      have := hv.2 k hlt' hlt
      simpa [Array.getElem?_append, hlt'] using this
    hp := fun id b hb => by simp [look] at hb
    own := fun id b β hb => by simp [look] at hb
    dist := fun id id' b b' β hb => by simp [look] at hb
    pin := fun _ _ => rfl }⟩
  refine wp_mono h fun e a' w' ⟨σ', ⟨S', E', hk⟩, he, hret⟩ => ?_
  rw [← hrs] at hret
  obtain ⟨v, hv1, hv2⟩ := retT_ok htab hk hret
  have fin : a'.defers = [] ∧ ∃ v, (results fn a'.tmps).run P w' = .ok v w' ∧ ∃ v' S'', Ending.returned v = .returned v' ∧ RV w' S'' E v' (res r) ∧ Keep (fun _ => False) w w' ∧ (∀ b, S'' b → b < w'.heap.size) ∧ (∀ b, S'' b → S b ∨ w.heap.size ≤ b) := by
    refine ⟨hk.defers, v, hv1, v, _, rfl, hv2 E, hk.keep, fun b hb => ?_, fun b hb => ?_⟩
    · rcases hb with hb | ⟨id, _, sz, n, rs, hl, hβ⟩
      · exact hk.stab b hb
      · exact (hk.own id _ b hl hβ).2.1
    · rcases hb with hb | ⟨id, _, sz, n, rs, hl, hβ⟩
      · rcases hk.base b hb with h1 | h1 | h1
        · exact .inl h1
        · exact h1.elim
        · exact .inr h1
      · rcases (hk.own id _ b hl hβ).2.2 with h1 | h1
        · exact .inr h1
        · exact h1.elim
  rcases he with rfl | rfl <;> exact fin
end
end Go.Pv
