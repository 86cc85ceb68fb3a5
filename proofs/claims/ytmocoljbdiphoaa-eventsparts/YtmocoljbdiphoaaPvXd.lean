/- The value machine, part Xd: elements of the call's own rows, read and written under names. -/
import Derived.Test.YtmocoljbdiphoaaPvXc
namespace Go.Pv
open Go.RowKit

section
variable {ρ α : Type} {X : Cx} {ks : List K} {tm : List (Nat × T)} {hp : List (Nat × Blk)} {m : Option ρ} {Q : ρ → Exit → St → Prop} {all : Array Oper} {o : Oper} {rest : List Oper}

theorem TieO.indexOH {ty e sz el n s0 : Nat} {x ix : Operand} {ik : IntKind} {i : Int} {z0 : List Value} {te : TI} {d id : Nat} {l : List α} {enc : α → List Tree} {y : α} (hy : getI l i = some y)
    (ho : o.op = .indexAddr ty x ix) (hd : o.dst = some d) (hdn : Nat.blt d X.nt = true) (hg : guardT all.toList tm o.guard = some true) (hx : val tm x = some (.own id)) (hb : look hp id = some (.rows el sz n (l.map enc))) (hi : val tm ix = some (.t (.v (.int ik i))))
    (hty : look X.tab ty = some ⟨s0, .slice e, z0⟩) (hte : look X.tab e = some te) (hsz : te.size = sz)
    (h : TieO X all rest ks ⟨(d, .pe id i.toNat sz 0) :: tm, hp⟩ m Q) : TieO X all (o :: rest) ks ⟨tm, hp⟩ m Q := by
  have := TieO.indexO (k := fun _ => m) (rest := rest) (ks := ks) (Q := Q) ho hd hdn hg hx hb hi hty hte hsz (fun y' hy' => by rw [hy] at hy'; cases hy'; exact h)
  rwa [hy] at this

theorem TieO.loadY {t d id sz off e n : Nat} {i : Int} {ti : TI} {p : Operand} {l : List α} {enc : α → List Tree} {y : α} {r : T} (hy : getI l i = some y)
    (ho : o.op = .load t p) (hd : o.dst = some d) (hdn : Nat.blt d X.nt = true) (hg : guardT all.toList tm o.guard = some true) (hp1 : val tm p = some (.pe id i.toNat sz off)) (hb : look hp id = some (.rows e sz n (l.map enc)))
    (hti : look X.tab t = some ti) (hr : takeT ti.desc.isAgg ti.size ((enc y).map .t) off = some r) (h : TieO X all rest ks ⟨(d, r) :: tm, hp⟩ m Q) : TieO X all (o :: rest) ks ⟨tm, hp⟩ m Q :=
  TieO.loadO (getI_some hy).2.1 ho hd hdn hg hp1 hb hti hr h

theorem TieO.storeY {t id sz off e n : Nat} {i : Int} {ti : TI} {p x : Operand} {l : List α} {enc : α → List Tree} {y : α} {k : List α → Option ρ} (y' : α) (lt : List Tree) {vx : T} {cs : List T} (hy : getI l i = some y)
    (ho : o.op = .store t p x) (hd : o.dst = none) (hg : guardT all.toList tm o.guard = some true) (hp1 : val tm p = some (.pe id i.toNat sz off)) (hb : look hp id = some (.rows e sz n (l.map enc)))
    (hti : look X.tab t = some ti) (hx : val tm x = some vx) (hc : cellsT hp vx = some cs) (hcs : cs.map nilT = lt.map T.t) (hs : Nat.beq lt.length ti.size = true) (hle : Nat.ble (off + lt.length) sz = true) (henc : enc y' = splc (enc y) off lt)
    (h : ∀ l', setM l i y' = some l' → TieO X all rest ks ⟨tm, hput hp id (.rows e sz l'.length (l'.map enc))⟩ (k l') Q) : TieO X all (o :: rest) ks ⟨tm, hp⟩ ((setM l i y').bind k) Q := fun r hr a w ⟨S, E, hk⟩ => by
  have hset : setM l i y' = some (l.set i.toNat y') := by
    obtain ⟨h0, _, hlt⟩ := getI_some hy
    unfold setM
    rw [if_pos ⟨h0, hlt⟩]
  rw [hset] at hr
  simp only [Option.bind_some] at hr
  have hrow : (l.map enc)[i.toNat]? = some (enc y) := by rw [List.getElem?_map, (getI_some hy).2.1]; rfl
  have hcl : cs.length = lt.length := by have := congrArg List.length hcs; simpa using this
  obtain ⟨vs, hvs, hl, hr2, h1⟩ := hk.cells (hk.val hx) hc
  have hn : n = l.length := by have := (hk.hp id _ hb).1; simpa using this
  -- the value as one whose cells are trees
  have key : ∃ w', (Instr.storeAt t (a.eval p) (a.eval x)).run X.P w = .ok () w' ∧ Ok X.w0 X.L X.nt ⟨tm, hput hp id (.rows e sz n ((l.map enc).set i.toNat (splc (enc y) off lt)))⟩ S E a w' := by
    have hv2 : RV w S E (.agg vs.toArray) (.agg (lt.map T.t)) := by
      refine .agg vs _ (by simp; omega) fun j h2 h3 => ?_
      have h4 := nilT_ok (hr2 j h2 (by omega))
      have h5 : nilT (cs[j]'(by omega)) = (lt.map T.t)[j]'h3 := by
        have h6 : (cs.map nilT)[j]? = (lt.map T.t)[j]? := by rw [hcs]
        rw [List.getElem?_map, List.getElem?_eq_getElem (by omega), List.getElem?_eq_getElem h3] at h6
        simpa using h6
      rw [h5] at h4
      exact h4
    have hone : oneL hp (lt.map T.t) = true := by
      have : ∀ q : List Tree, (∀ j (hj : j < q.length), Pv.one hp (T.t (q[j])) = true) → oneL hp (q.map T.t) = true := by
        intro q
        induction q with
        | nil => intro _; rfl
        | cons z q ih =>
          intro hq
          simp only [List.map_cons, oneL, Bool.and_eq_true]
          exact ⟨hq 0 (by simp), ih fun j hj => hq (j + 1) (by simpa using hj)⟩
      refine this lt fun j hj => ?_
      have hv := hv2
      cases hv with
      | agg _ _ _ hvv =>
        have h2 := hvv j (by omega) (by simpa using hj)
        simp only [List.getElem_map] at h2
        have h3 := h1 _ (List.getElem_mem (show j < vs.length by omega))
        generalize vs[j]'(by omega) = v at h2 h3
        generalize lt[j] = z at h2 ⊢
        cases z with
        | v q => have := h2.tv; subst this; exact h3
        | sl _ _ => rfl
    obtain ⟨w', q1, q2⟩ := store_own (P := X.P) hk (X.htab t _ hti) hb (hk.val hp1) hrow hv2 (by simp [cellsT, hone]) (Nat.eq_of_beq_eq_true hs) (Nat.le_of_ble_eq_true hle)
    refine ⟨w', ?_, q2⟩
    have e1 : (Value.agg vs.toArray).cells = (a.eval x).cells := by rw [hvs]; rfl
    simpa only [Instr.storeAt, storeVar, e1] using q1
  obtain ⟨w', h2, h3⟩ := key
  refine wpList_step fun K hK => ?_
  rw [guardT_ok hk hg, if_pos rfl]
  unfold Oper.wp
  have hexec : (execOp a.eval o).run X.P w = .ok .skip w' := by
    unfold execOp
    simp only [ho, Sem.run_bind, h2, Result.andThen_ok, Sem.run_pure]
  rw [hexec]
  refine hK _ _ (h _ hset r hr _ _ ⟨S, E, ?_⟩)
  rw [hd, List.map_set, henc, List.length_set, ← hn]
  exact h3
end
end Go.Pv
