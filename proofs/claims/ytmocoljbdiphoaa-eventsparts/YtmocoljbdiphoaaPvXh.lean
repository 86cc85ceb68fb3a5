/- The value machine, part Xh: quiet steps of regions that draw their order, taken at once. -/
import Derived.Test.YtmocoljbdiphoaaPvXf
namespace Go.Pv
open Go.RowKit

section
variable {X : Cx} {ops : Array Oper} {fe fuel : Nat} {le l l' : List Bool} {σ' : St} {o : Oper} {α : Type}

theorem TieA.bin {d ty yt : Nat} {op : BinOp} {k k' : IntKind} {x y : Operand} {u v : Int} {V : T} {tm : List (Nat × T)} {hp : List (Nat × Blk)} (i : Nat) (l' : List Bool) (ho : ops[i]? = some o) (hl : l.set i true = l') (hop : o.op = .binOp op ty x y yt) (hd : o.dst = some d) (hdn : Nat.blt d X.nt = true) (hg : o.guard = none)
    (hs : Region.noSelect ops = true) (hf : Region.free .any ops l.toArray i = true) (hr : (Region.ready .any ops l.toArray).contains i = true)
    (hx : val tm x = some (.t (.v (.int k u)))) (hy : val tm y = some (.t (.v (.int k' v)))) (hk : (sameKind k k' || isShift op) = true) (hb : ((arith op k u v).map fun z => T.t (.v z)) = some V) (h : TieA X ops fe le fuel l' ⟨(d, V) :: tm, hp⟩ σ') :
    TieA X ops fe le (fuel + 1) l ⟨tm, hp⟩ σ' := TieA.take1 i l' ho hl hd hdn hg hs hf hr (fun S E a w hw => by
  have e1 := (hw.val hx).tv
  have e2 := (hw.val hy).tv
  cases ha : arith op k u v with
  | none => simp [ha] at hb
  | some z =>
    simp only [ha, Option.map_some, Option.some.injEq] at hb
    subst hb
    refine ⟨z, fun w' => ?_, .t (.v z)⟩
    obtain ⟨h1, h2⟩ := arith_ok (P := X.P) (w := w') (by simpa using hk) ha
    simp only [execOp, hop, e1, e2, Sem.run_bind, eqGuard_run op ty x y (.int k u) (.int k' v) (by simp) (by simp), Result.andThen_ok, h2, h1, Sem.run_pure]) h

theorem TieA.idx {ty e sz el n s0 : Nat} {x ix : Operand} {ik : IntKind} {j : Int} {z0 : List Value} {te : TI} {d id : Nat} {r : List α} {enc : α → List Tree} {y : α} {tm : List (Nat × T)} {hp : List (Nat × Blk)} (i : Nat) (l' : List Bool) (hy : getI r j = some y) (ho : ops[i]? = some o) (hl : l.set i true = l')
    (hop : o.op = .indexAddr ty x ix) (hd : o.dst = some d) (hdn : Nat.blt d X.nt = true) (hg : o.guard = none)
    (hs : Region.noSelect ops = true) (hf : Region.free .any ops l.toArray i = true) (hr : (Region.ready .any ops l.toArray).contains i = true)
    (hx : val tm x = some (.own id)) (hb : look hp id = some (.rows el sz n (r.map enc))) (hi : val tm ix = some (.t (.v (.int ik j))))
    (hty : look X.tab ty = some ⟨s0, .slice e, z0⟩) (hte : look X.tab e = some te) (hsz : te.size = sz) (h : TieA X ops fe le fuel l' ⟨(d, .pe id j.toNat sz 0) :: tm, hp⟩ σ') :
    TieA X ops fe le (fuel + 1) l ⟨tm, hp⟩ σ' := TieA.take1 i l' ho hl hd hdn hg hs hf hr (fun S E a w hk => by
  obtain ⟨h0, hgl, hlt⟩ := getI_some hy
  have hiv := (hk.val hi).tv
  have hll : j.toNat < r.length := by omega
  have hxv := hk.val hx
  generalize hxe : a.eval x = xv at hxv
  cases hxv with
  | own _ _ hE =>
    obtain ⟨hn, ⟨hE', hr⟩ | ⟨β, cap, vs, _, hE', hh, _⟩⟩ := hk.hp id _ hb
    · simp at hr; subst hr; simp at hll
    · subst hsz
      have hpe := RV.pe (w := w) (S := S) (E := E) id j.toNat te.size 0 β (r.map enc).length cap hE'
      refine ⟨_, fun w' => ?_, hpe⟩
      obtain ⟨dd, hdd, ho2⟩ := (X.htab ty _ hty).run_under w'
      simp only [TD.ok] at ho2
      subst ho2
      have hsw := (X.htab e _ hte).run_size w'
      rw [hE'] at hE
      subst hE
      simp only [execOp, hop, Instr.indexAt, hiv, asIntOf, Sem.run_bind, Sem.run_pure, Result.andThen_ok, hdd, hxe]
      have c1 : 0 ≤ j ∧ j < ((r.map enc).length : Int) := ⟨h0, by simpa using hlt⟩
      simp only [Sem.run_bind, Result.andThen_ok, Sem.run_pure, c1, and_self, if_true, hsw, addr_add, Nat.zero_add, Nat.add_zero]) h
end
end Go.Pv
