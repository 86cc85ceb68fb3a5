/- The value machine, part Za: rules for elements of the call's own rows. -/
import Derived.Test.YtmocoljbdiphoaaPvZ
namespace Go.Pv
open Go.RowKit

section
variable {ρ α : Type} {X : Cx} {ks : List K} {tm : List (Nat × T)} {hp : List (Nat × Blk)} {m : Option ρ} {Q : ρ → Exit → St → Prop} {all : Array Oper} {o : Oper} {rest : List Oper}

theorem TieO.loadO {t d id i sz off e n : Nat} {ti : TI} {p : Operand} {l : List α} {enc : α → List Tree} {y : α} {r : T} (hy : l[i]? = some y)
    (ho : o.op = .load t p) (hd : o.dst = some d) (hdn : Nat.blt d X.nt = true) (hg : guardT all.toList tm o.guard = some true) (hp1 : val tm p = some (.pe id i sz off)) (hb : look hp id = some (.rows e sz n (l.map enc)))
    (hti : look X.tab t = some ti) (hr : takeT ti.desc.isAgg ti.size ((enc y).map .t) off = some r) (h : TieO X all rest ks ⟨(d, r) :: tm, hp⟩ m Q) : TieO X all (o :: rest) ks ⟨tm, hp⟩ m Q := by
  have := TieO.one (X := X) (ks := ks) (tm := tm) (hp := hp) (all := all) (o := o) (rest := rest) (Q := Q) (k := fun _ => m) (m₁ := some ()) hd hdn hg (fun _ => r) (fun _ S E a w _ hk => by
    obtain ⟨v, h1, h2⟩ := load_own (P := X.P) hk (X.htab t _ hti) hb (hk.val hp1) (by rw [List.getElem?_map, hy]; rfl) hr
    refine ⟨v, ?_, h2⟩
    unfold execOp
    simp only [ho, Sem.run_bind, h1, Result.andThen_ok, Sem.run_pure]) (fun _ _ => h)
  simpa using this
/-- A store into an element: y becomes y'. -/
theorem TieO.storeO {t id i sz off e n : Nat} {ti : TI} {p x : Operand} {l : List α} {enc : α → List Tree} {y : α} (y' : α) (lt : List Tree) {vx : T} (hy : l[i]? = some y)
    (ho : o.op = .store t p x) (hd : o.dst = none) (hg : guardT all.toList tm o.guard = some true) (hp1 : val tm p = some (.pe id i sz off)) (hb : look hp id = some (.rows e sz n (l.map enc)))
    (hti : look X.tab t = some ti) (hx : val tm x = some vx) (hc : cellsT hp vx = some (lt.map .t)) (hs : lt.length = ti.size) (hle : Nat.ble (off + lt.length) sz = true) (henc : enc y' = splc (enc y) off lt)
    (h : TieO X all rest ks ⟨tm, hput hp id (.rows e sz (l.set i y').length ((l.set i y').map enc))⟩ m Q) : TieO X all (o :: rest) ks ⟨tm, hp⟩ m Q := fun r hr a w ⟨S, E, hk⟩ => by
  have hrow : (l.map enc)[i]? = some (enc y) := by rw [List.getElem?_map, hy]; rfl
  obtain ⟨w', h1, h2⟩ := store_own (P := X.P) hk (X.htab t _ hti) hb (hk.val hp1) hrow (hk.val hx) hc hs (Nat.le_of_ble_eq_true hle)
  have hn : n = l.length := by have := (hk.hp id _ hb).1; simpa using this
  refine wpList_step fun K hK => ?_
  rw [guardT_ok hk hg, if_pos rfl]
  unfold Oper.wp
  have hexec : (execOp a.eval o).run X.P w = .ok .skip w' := by
    unfold execOp
    simp only [ho, Sem.run_bind, h1, Result.andThen_ok, Sem.run_pure]
  rw [hexec]
  refine hK _ _ (h r hr _ _ ⟨S, E, ?_⟩)
  rw [hd, List.map_set, henc, List.length_set, ← hn]
  exact h2
end
end Go.Pv
