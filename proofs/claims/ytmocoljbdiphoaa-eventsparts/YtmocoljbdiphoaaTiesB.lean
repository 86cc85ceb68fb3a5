/- Ties, printed by gen.py: each function of the loaded program computes its model. -/
import Derived.Test.YtmocoljbdiphoaaTiesA
import Derived.Test.YtmocoljbdiphoaaPvXl
import Derived.Test.YtmocoljbdiphoaaProg
import Derived.KernelRfl
namespace Go.Proofs.Ytmocoljbdiphoaa
open Go Go.Pv Go.Proofs
-- magneto/magnetoref23.insert
set_option maxRecDepth 100000 in
theorem tie_magnetoref23_insert (l : List SEvent) (x : SEvent) : TieF Try.prog 53 [.t (tS enc_SEvent l), A_SEvent x] (magnetoref23_insert l x) (fun r => .t (tS enc_SEvent r)) := by
  refine TieF.intro htab 36 [.tmp 4] Try.call53 Try.func53 rfl rfl rfl (Nat.le_of_ble_eq_true rfl) fun w0 L => ?_
  refine TieS.seq ?_
  refine TieS.region ?_
  refine TieO.run 2 rfl ?_
  refine TieO.nil ?_
  refine TieS.seq ?_
  refine TieS.region ?_
  refine TieO.run 3 rfl ?_
  refine TieO.nil ?_
  refine TieS.seq ?_
  refine TieS.block ?_
  refine TieS.loop (fun t => ⟨[(0, .t (tS enc_SEvent l)), (3, .ptr 3 0), (5, .t (tI t))], [(3, .box [.t (tI x.Angle), .t (tI x.Kind), .t (tI x.Cylinder), .t (tI x.Pulse)])]⟩) (fun b e σ' => match b with | .inl t => e = .exit 0 ∧ Sub ⟨[(0, .t (tS enc_SEvent l)), (3, .ptr 3 0), (5, .t (tI t))], [(3, .box [.t (tI x.Angle), .t (tI x.Kind), .t (tI x.Cylinder), .t (tI x.Pulse)])]⟩ σ' | .inr t => False) (.of rfl rfl) ?_ ?_
  · intro i
    refine TieS.seq ?_
    refine TieS.seq ?_
    refine TieS.bind (Q₁ := fun t e σ' => e = .normal ∧ Sub ⟨[(0, .t (tS enc_SEvent l)), (3, .ptr 3 0), (5, .t (tI i)), (19, .t (tB t))], [(3, .box [.t (tI x.Angle), .t (tI x.Kind), .t (tI x.Cylinder), .t (tI x.Pulse)])]⟩ σ') ?_ ?_
    · refine TieX.split (fun hg => ?_) (fun hg2 => ?_)
      · refine TieX.pre fun x2 hx2 => ?_
        refine TieX.pre fun v hv => ?_
        refine TieS.draw 11 [.t (tI i), .t (tB (decide (i > 0))), .t (tB true), .agg [.t (tI x.Angle), .t (tI x.Kind), .t (tI x.Cylinder), .t (tI x.Pulse)], .t (tS enc_SEvent l), .t (tI i), .t (tI (w64 (i - 1))), .el (enc_SEvent x2), .agg [.t (tI x2.Angle), .t (tI x2.Kind), .t (tI x2.Cylinder), .t (tI x2.Pulse)], .t (tB v), .t (tB v)] [(0, .t (tS enc_SEvent l)), (3, .ptr 3 0), (5, .t (tI i))] [(3, .box [.t (tI x.Angle), .t (tI x.Kind), .t (tI x.Cylinder), .t (tI x.Pulse)])] mixed (.of rfl rfl) rfl rfl rfl rfl (.cons (.quiet rfl rfl rfl) (.cons (.quiet rfl rfl rfl) (.cons (.cast (congrArg T.B hg) (.quiet rfl rfl rfl)) (.cons (.quiet rfl rfl rfl) (.cons (.quiet rfl rfl rfl) (.cons (.quiet rfl rfl rfl) (.cons (.quiet rfl rfl rfl) (.cons (.index hx2 rfl rfl rfl rfl rfl rfl (fun _ => rfl)) (.cons (.quiet rfl rfl rfl) (.cons (.callV (tie_magnetoref23_before x x2) hv rfl rfl rfl rfl) (.cons (.quiet rfl rfl rfl) (.nil)))))))))))) ?_
        refine TieO.nil ?_
        exact TieS.leaf ⟨rfl, .of rfl rfl⟩
      · refine TieS.draw 11 [.t (tI i), .t (tB (decide (i > 0))), .t (tB false), .t (.v undef), .t (.v undef), .t (.v undef), .t (.v undef), .t (.v undef), .t (.v undef), .t (.v undef), .t (tB false)] [(0, .t (tS enc_SEvent l)), (3, .ptr 3 0), (5, .t (tI i))] [(3, .box [.t (tI x.Angle), .t (tI x.Kind), .t (tI x.Cylinder), .t (tI x.Pulse)])] mixed (.of rfl rfl) rfl rfl rfl rfl (.cons (.quiet rfl rfl rfl) (.cons (.quiet rfl rfl rfl) (.cons (.cast (congrArg T.B hg2) (.quiet rfl rfl rfl)) (.cons (.skip rfl) (.cons (.skip rfl) (.cons (.skip rfl) (.cons (.skip rfl) (.cons (.skip rfl) (.cons (.skip rfl) (.cons (.skip rfl) (.cons (.quiet rfl rfl rfl) (.nil)))))))))))) ?_
        refine TieO.nil ?_
        exact TieS.leaf ⟨rfl, .of rfl rfl⟩
    rintro v2 e σ' _ ⟨rfl, hs⟩
    refine TieX.sub hs ?_
    refine TieS.cond rfl ?_ ?_
    · refine TieS.skip ?_
      refine TieS.block ?_
      refine TieS.region ?_
      refine TieO.run 3 rfl ?_
      refine TieO.nil ?_
      refine TieS.endb ?_
      exact TieS.leaf ⟨rfl, .of rfl rfl⟩
    · exact TieS.exitOut rfl ⟨(fun h => by cases h), rfl, .of rfl rfl⟩
  rintro (i2 | r) e σ' _ hq
  · obtain ⟨rfl, hs⟩ := hq
    refine TieX.exit rfl (TieX.sub hs ?_)
    refine TieS.seq ?_
    refine TieS.region ?_
    refine TieO.run 3 rfl ?_
    refine TieO.sliceF rfl rfl rfl rfl rfl rfl rfl (fun _ => rfl) rfl rfl fun l2 hl2 => ?_
    refine TieO.appendY (id := 22) (e' := 0) (l := ([] : List SEvent)) (r := l2) (tm' := [(0, .t (tS enc_SEvent l)), (3, .ptr 3 0), (5, .t (tI i2)), (23, .t (tS enc_SEvent l)), (24, .t (tI i2)), (25, .t (tS enc_SEvent l2))]) (hp' := [(3, .box [.t (tI x.Angle), .t (tI x.Kind), .t (tI x.Cylinder), .t (tI x.Pulse)])]) rfl rfl rfl rfl rfl rfl rfl (fun _ => rfl) (fun _ => rfl) (.inl ⟨rfl, rfl⟩) (.inl rfl) (.of rfl rfl) rfl rfl rfl fun l3 => ?_
    refine TieO.run 1 rfl ?_
    refine TieO.nil ?_
    refine TieS.seq ?_
    refine TieS.region ?_
    refine TieO.run 3 rfl ?_
    refine TieO.appendY (id := 22) (l := l3) (r := ([x] : List SEvent)) (tm' := [(0, .t (tS enc_SEvent l)), (3, .ptr 3 0), (5, .t (tI i2)), (23, .t (tS enc_SEvent l)), (24, .t (tI i2)), (25, .t (tS enc_SEvent l2)), (28, .agg [.t (tI x.Angle), .t (tI x.Kind), .t (tI x.Cylinder), .t (tI x.Pulse)]), (29, .own 29)]) (hp' := [(3, .box [.t (tI x.Angle), .t (tI x.Kind), .t (tI x.Cylinder), .t (tI x.Pulse)]), (29, .rows 44 4 ([x] : List SEvent).length (([x] : List SEvent).map enc_SEvent))]) rfl rfl rfl rfl rfl rfl rfl (fun _ => rfl) (fun _ => rfl) (.inl ⟨rfl, rfl⟩) (.inr ⟨_, rfl, rfl⟩) (.of rfl rfl) rfl rfl rfl fun l4 => ?_
    refine TieO.run 1 rfl ?_
    refine TieO.nil ?_
    refine TieS.seq ?_
    refine TieS.region ?_
    refine TieO.run 3 rfl ?_
    refine TieO.sliceF rfl rfl rfl rfl rfl rfl rfl (fun _ => rfl) rfl rfl fun l5 hl5 => ?_
    refine TieO.appendY (id := 22) (e' := 0) (l := l4) (r := l5) (tm' := [(0, .t (tS enc_SEvent l)), (3, .ptr 3 0), (5, .t (tI i2)), (23, .t (tS enc_SEvent l)), (24, .t (tI i2)), (25, .t (tS enc_SEvent l2)), (28, .agg [.t (tI x.Angle), .t (tI x.Kind), .t (tI x.Cylinder), .t (tI x.Pulse)]), (29, .own 29), (32, .t (tS enc_SEvent l)), (33, .t (tI i2)), (34, .t (tS enc_SEvent l5))]) (hp' := [(3, .box [.t (tI x.Angle), .t (tI x.Kind), .t (tI x.Cylinder), .t (tI x.Pulse)]), (29, .rows 44 4 ([x] : List SEvent).length (([x] : List SEvent).map enc_SEvent))]) rfl rfl rfl rfl rfl rfl rfl (fun _ => rfl) (fun _ => rfl) (.inl ⟨rfl, rfl⟩) (.inl rfl) (.of rfl rfl) rfl rfl rfl fun l6 => ?_
    refine TieO.run 1 rfl ?_
    refine TieO.nil ?_
    exact TieS.ret ⟨.inl rfl, rfl⟩
  · exact hq.elim
-- magneto/magnetoref23.Plan
set_option maxRecDepth 100000 in
theorem tie_magnetoref23_Plan (e2 : SEngine) (l : List SFire) (ticks : Int) : TieF Try.prog 22 [A_SEngine e2, .t (tS enc_SFire l), .t (tI ticks)] (magnetoref23_Plan e2 l ticks) (fun r => .tup [.t (tS enc_SEvent r.1), .t (tI r.2)]) := by
  refine TieF.intro htab 110 [.tmp 6, .tmp 7] Try.call22 Try.func22 rfl rfl rfl (Nat.le_of_ble_eq_true rfl) fun w0 L => ?_
  refine TieS.seq ?_
  refine TieS.region ?_
  refine TieO.run 3 rfl ?_
  refine TieO.nil ?_
  refine TieS.seq ?_
  refine TieS.seq ?_
  refine TieS.region ?_
  refine TieO.run 1 rfl ?_
  refine TieO.nil ?_
  refine TieS.block ?_
  refine TieS.loop (fun t => ⟨[(1, .t (tS enc_SFire l)), (2, .t (tI ticks)), (3, .ptr 3 0), (8, .t (tI t))], [(3, .box [.t (tS Pv.encI e2.Order), .t (tI e2.First)])]⟩) (fun b e σ' => match b with | .inl t => e = .exit 0 ∧ Sub ⟨[(1, .t (tS enc_SFire l)), (2, .t (tI ticks)), (3, .ptr 3 0)], [(3, .box [.t (tS Pv.encI e2.Order), .t (tI e2.First)])]⟩ σ' | .inr t => e = .ret ∧ retT tab σ' [.tmp 6, .tmp 7] = some (((fun r => .tup [.t (tS enc_SEvent r.1), .t (tI r.2)]) : (List SEvent × Int) → T) t)) (.of rfl rfl) ?_ ?_
  · intro i
    refine TieS.seq ?_
    refine TieS.seq ?_
    refine TieS.region ?_
    refine TieO.run 4 rfl ?_
    refine TieO.nil ?_
    refine TieS.cond rfl ?_ ?_
    · refine TieS.skip ?_
      refine TieS.seq ?_
      refine TieS.block ?_
      refine TieS.seq ?_
      refine TieX.pre fun x hx => ?_
      refine TieX.pre fun v hv => ?_
      refine TieS.draw 7 [.agg [.t (tS Pv.encI e2.Order), .t (tI e2.First)], .t (tS enc_SFire l), .t (tI i), .el (enc_SFire x), .agg [.t (tI x.Cylinder), .t (tI x.Spark), .t (tI x.Dwell), .t (tI x.End), .t (tI x.Inject), .t (tI x.Gap), .t (tI x.Extra)], .t (tB v), .t (tB (!v))] [(1, .t (tS enc_SFire l)), (2, .t (tI ticks)), (3, .ptr 3 0), (8, .t (tI i))] [(3, .box [.t (tS Pv.encI e2.Order), .t (tI e2.First)])] mixed (.of rfl rfl) rfl rfl rfl rfl (.cons (.quiet rfl rfl rfl) (.cons (.quiet rfl rfl rfl) (.cons (.quiet rfl rfl rfl) (.cons (.index hx rfl rfl rfl rfl rfl rfl (fun _ => rfl)) (.cons (.quiet rfl rfl rfl) (.cons (.callV (tie_magnetoref23_Fire e2 x) hv rfl rfl rfl rfl) (.cons (.quiet rfl rfl rfl) (.nil)))))))) ?_
      refine TieO.nil ?_
      refine TieS.cond rfl ?_ ?_
      · refine TieS.seq ?_
        refine TieS.region ?_
        refine TieO.run 2 rfl ?_
        refine TieO.nil ?_
        exact TieS.ret ⟨(fun h => by cases h), rfl, rfl⟩
      · refine TieS.skip ?_
        refine TieS.endb ?_
        refine TieS.region ?_
        refine TieO.run 3 rfl ?_
        refine TieO.nil ?_
        exact TieS.leaf ⟨rfl, .of rfl rfl⟩
    · exact TieS.exitOut rfl ⟨(fun h => by cases h), rfl, .of rfl rfl⟩
  rintro (i2 | r5) e σ' _ hq
  · obtain ⟨rfl, hs⟩ := hq
    refine TieX.exit rfl (TieX.sub hs ?_)
    refine TieS.seq ?_
    refine TieS.seq ?_
    refine TieS.region ?_
    refine TieO.run 3 rfl ?_
    refine TieO.selOr (v := decide (ticks > 1000000)) 3 30 (fun b => ⟨[(1, .t (tS enc_SFire l)), (2, .t (tI ticks)), (3, .ptr 3 0), (33, .t (tB b))], [(3, .box [.t (tS Pv.encI e2.Order), .t (tI e2.First)])]⟩) rfl ?_ ?_ ?_
    · refine TieO.run 3 rfl ?_
      refine TieO.nil ?_
      exact TieS.leaf ⟨rfl, .of rfl rfl⟩
    · refine TieO.run 3 rfl ?_
      refine TieO.nil ?_
      exact TieS.leaf ⟨rfl, .of rfl rfl⟩
    refine TieO.nil ?_
    refine TieS.cond rfl ?_ ?_
    · refine TieS.seq ?_
      refine TieS.region ?_
      refine TieO.run 2 rfl ?_
      refine TieO.nil ?_
      exact TieS.ret ⟨.inl rfl, rfl⟩
    · refine TieS.skip ?_
      refine TieS.seq ?_
      refine TieS.seq ?_
      refine TieS.region ?_
      refine TieO.run 1 rfl ?_
      refine TieO.nil ?_
      refine TieS.block ?_
      refine TieS.loop (fun t => ⟨[(1, .t (tS enc_SFire l)), (2, .t (tI ticks)), (3, .ptr 3 0), (9, .t (tI t))], [(3, .box [.t (tS Pv.encI e2.Order), .t (tI e2.First)])]⟩) (fun b e σ' => match b with | .inl t => e = .exit 2 ∧ Sub ⟨[(1, .t (tS enc_SFire l)), (2, .t (tI ticks)), (3, .ptr 3 0)], [(3, .box [.t (tS Pv.encI e2.Order), .t (tI e2.First)])]⟩ σ' | .inr t => e = .ret ∧ retT tab σ' [.tmp 6, .tmp 7] = some (((fun r => .tup [.t (tS enc_SEvent r.1), .t (tI r.2)]) : (List SEvent × Int) → T) t)) (.of rfl rfl) ?_ ?_
      · intro i3
        refine TieS.seq ?_
        refine TieS.seq ?_
        refine TieS.region ?_
        refine TieO.run 4 rfl ?_
        refine TieO.nil ?_
        refine TieS.cond rfl ?_ ?_
        · refine TieS.skip ?_
          refine TieS.seq ?_
          refine TieS.block ?_
          refine TieS.seq ?_
          refine TieS.region ?_
          refine TieO.run 1 rfl ?_
          refine TieO.nil ?_
          refine TieS.block ?_
          refine TieS.loop (fun t => ⟨[(1, .t (tS enc_SFire l)), (2, .t (tI ticks)), (3, .ptr 3 0), (9, .t (tI i3)), (10, .t (tI t))], [(3, .box [.t (tS Pv.encI e2.Order), .t (tI e2.First)])]⟩) (fun b e σ' => match b with | .inl t => e = .exit 4 ∧ Sub ⟨[(1, .t (tS enc_SFire l)), (2, .t (tI ticks)), (3, .ptr 3 0), (9, .t (tI i3))], [(3, .box [.t (tS Pv.encI e2.Order), .t (tI e2.First)])]⟩ σ' | .inr t => e = .ret ∧ retT tab σ' [.tmp 6, .tmp 7] = some (((fun r => .tup [.t (tS enc_SEvent r.1), .t (tI r.2)]) : (List SEvent × Int) → T) t)) (.of rfl rfl) ?_ ?_
          · intro k
            refine TieS.seq ?_
            refine TieS.seq ?_
            refine TieS.region ?_
            refine TieO.run 3 rfl ?_
            refine TieO.nil ?_
            refine TieS.cond rfl ?_ ?_
            · refine TieS.skip ?_
              refine TieS.seq ?_
              refine TieS.block ?_
              refine TieS.seq ?_
              refine TieX.pre fun x2 hx2 => ?_
              refine TieX.pre fun x3 hx3 => ?_
              refine TieS.draw 11 [.t (tS enc_SFire l), .t (tI i3), .el (enc_SFire x2), .el (List.drop 0 (enc_SFire x2)), .t (tI x2.Cylinder), .t (tS enc_SFire l), .t (tI k), .el (enc_SFire x3), .el (List.drop 0 (enc_SFire x3)), .t (tI x3.Cylinder), .t (tB (x2.Cylinder == x3.Cylinder))] [(1, .t (tS enc_SFire l)), (2, .t (tI ticks)), (3, .ptr 3 0), (9, .t (tI i3)), (10, .t (tI k))] [(3, .box [.t (tS Pv.encI e2.Order), .t (tI e2.First)])] mixed (.of rfl rfl) rfl rfl rfl rfl (.cons (.quiet rfl rfl rfl) (.cons (.quiet rfl rfl rfl) (.cons (.index hx2 rfl rfl rfl rfl rfl rfl (fun _ => rfl)) (.cons (.quiet rfl rfl rfl) (.cons (.quiet rfl rfl rfl) (.cons (.quiet rfl rfl rfl) (.cons (.quiet rfl rfl rfl) (.cons (.index hx3 rfl rfl rfl rfl rfl rfl (fun _ => rfl)) (.cons (.quiet rfl rfl rfl) (.cons (.quiet rfl rfl rfl) (.cons (.quiet rfl rfl rfl) (.nil)))))))))))) ?_
              refine TieO.nil ?_
              refine TieS.cond rfl ?_ ?_
              · refine TieS.seq ?_
                refine TieS.region ?_
                refine TieO.run 2 rfl ?_
                refine TieO.nil ?_
                exact TieS.ret ⟨(fun h => by cases h), rfl, rfl⟩
              · refine TieS.skip ?_
                refine TieS.endb ?_
                refine TieS.region ?_
                refine TieO.run 3 rfl ?_
                refine TieO.nil ?_
                exact TieS.leaf ⟨rfl, .of rfl rfl⟩
            · exact TieS.exitOut rfl ⟨(fun h => by cases h), rfl, .of rfl rfl⟩
          rintro (k2 | r2) e σ' _ hq
          · obtain ⟨rfl, hs⟩ := hq
            refine TieX.exit rfl (TieX.sub hs ?_)
            refine TieS.endb ?_
            refine TieS.region ?_
            refine TieO.run 3 rfl ?_
            refine TieO.nil ?_
            exact TieS.leaf ⟨rfl, .of rfl rfl⟩
          · obtain ⟨rfl, hs⟩ := hq
            exact TieX.ret ⟨(fun h => by cases h), rfl, hs⟩
        · exact TieS.exitOut rfl ⟨(fun h => by cases h), rfl, .of rfl rfl⟩
      rintro (i4 | r4) e σ' _ hq
      · obtain ⟨rfl, hs⟩ := hq
        refine TieX.exit rfl (TieX.sub hs ?_)
        refine TieS.seq ?_
        refine TieS.region ?_
        refine TieO.run 1 rfl ?_
        refine TieO.nil ?_
        refine TieS.seq ?_
        refine TieS.seq ?_
        refine TieS.region ?_
        refine TieO.run 1 rfl ?_
        refine TieO.nil ?_
        refine TieS.block ?_
        refine TieS.loop (fun t => ⟨[(1, .t (tS enc_SFire l)), (2, .t (tI ticks)), (3, .ptr 3 0), (11, .t (tS enc_SEvent t.1)), (12, .t (tI t.2))], [(3, .box [.t (tS Pv.encI e2.Order), .t (tI e2.First)])]⟩) (fun b e σ' => match b with | .inl t => e = .exit 6 ∧ Sub ⟨[(11, .t (tS enc_SEvent t.1))], []⟩ σ' | .inr t => e = .ret ∧ retT tab σ' [.tmp 6, .tmp 7] = some (((fun r => .tup [.t (tS enc_SEvent r.1), .t (tI r.2)]) : (List SEvent × Int) → T) t)) (.of rfl rfl) ?_ ?_
        · intro s
          refine TieS.seq ?_
          refine TieS.seq ?_
          refine TieS.region ?_
          refine TieO.run 4 rfl ?_
          refine TieO.nil ?_
          refine TieS.cond rfl ?_ ?_
          · refine TieS.skip ?_
            refine TieS.seq ?_
            refine TieS.block ?_
            refine TieS.seq ?_
            refine TieS.seq ?_
            refine TieS.region ?_
            refine TieO.run 2 rfl ?_
            refine TieO.index rfl rfl rfl rfl rfl rfl rfl rfl (fun _ => rfl) fun x4 hx4 => ?_
            refine TieO.run 3 rfl ?_
            refine TieO.call _ rfl rfl rfl (tie_magnetoref23_Turn x4.Inject ticks) (fun _ => rfl) fun v2 => ?_
            refine TieO.run 2 rfl ?_
            refine TieO.bind 9 (fun b2 => ⟨[(1, .t (tS enc_SFire l)), (2, .t (tI ticks)), (3, .ptr 3 0), (11, .t (tS enc_SEvent s.1)), (12, .t (tI s.2)), (79, .t (tB b2))], [(3, .box [.t (tS Pv.encI e2.Order), .t (tI e2.First)])]⟩) (TieO.split 70 rfl ?_ ?_) fun b2 _ => ?_
            · refine TieO.run 9 rfl ?_
              refine TieO.nil ?_
              exact TieS.leaf ⟨rfl, .of rfl rfl⟩
            · refine TieO.run 2 rfl ?_
              refine TieO.indexH hx4 rfl rfl rfl rfl rfl rfl rfl rfl (fun _ => rfl) ?_
              refine TieO.run 3 rfl ?_
              refine TieO.call _ rfl rfl rfl (tie_magnetoref23_Turn x4.Gap ticks) (fun _ => rfl) fun v3 => ?_
              refine TieO.run 2 rfl ?_
              refine TieO.nil ?_
              exact TieS.leaf ⟨rfl, .of rfl rfl⟩
            refine TieO.run 1 rfl ?_
            refine TieO.bind 9 (fun b3 => ⟨[(1, .t (tS enc_SFire l)), (2, .t (tI ticks)), (3, .ptr 3 0), (11, .t (tS enc_SEvent s.1)), (12, .t (tI s.2)), (89, .t (tB b3))], [(3, .box [.t (tS Pv.encI e2.Order), .t (tI e2.First)])]⟩) (TieO.split 80 rfl ?_ ?_) fun b3 _ => ?_
            · refine TieO.run 9 rfl ?_
              refine TieO.nil ?_
              exact TieS.leaf ⟨rfl, .of rfl rfl⟩
            · refine TieO.run 2 rfl ?_
              refine TieO.indexH hx4 rfl rfl rfl rfl rfl rfl rfl rfl (fun _ => rfl) ?_
              refine TieO.run 3 rfl ?_
              refine TieO.call _ rfl rfl rfl (tie_magnetoref23_Turn x4.Extra ticks) (fun _ => rfl) fun v4 => ?_
              refine TieO.run 2 rfl ?_
              refine TieO.nil ?_
              exact TieS.leaf ⟨rfl, .of rfl rfl⟩
            refine TieO.nil ?_
            refine TieS.cond rfl ?_ ?_
            · refine TieS.seq ?_
              refine TieS.region ?_
              refine TieO.run 2 rfl ?_
              refine TieO.nil ?_
              exact TieS.ret ⟨(fun h => by cases h), rfl, rfl⟩
            · refine TieS.skip ?_
              refine TieS.seq ?_
              refine TieX.pre fun v5 hv5 => ?_
              refine TieS.draw 8 [.agg [.t (tS Pv.encI e2.Order), .t (tI e2.First)], .t (tS enc_SFire l), .t (tI s.2), .el (enc_SFire x4), .agg [.t (tI x4.Cylinder), .t (tI x4.Spark), .t (tI x4.Dwell), .t (tI x4.End), .t (tI x4.Inject), .t (tI x4.Gap), .t (tI x4.Extra)], .t (tI ticks), .t (tS enc_SEvent v5), .t (tS enc_SEvent v5)] [(1, .t (tS enc_SFire l)), (2, .t (tI ticks)), (3, .ptr 3 0), (11, .t (tS enc_SEvent s.1)), (12, .t (tI s.2))] [(3, .box [.t (tS Pv.encI e2.Order), .t (tI e2.First)])] mixed (.of rfl rfl) rfl rfl rfl rfl (.cons (.quiet rfl rfl rfl) (.cons (.quiet rfl rfl rfl) (.cons (.quiet rfl rfl rfl) (.cons (.index hx4 rfl rfl rfl rfl rfl rfl (fun _ => rfl)) (.cons (.quiet rfl rfl rfl) (.cons (.quiet rfl rfl rfl) (.cons (.callV (tie_magnetoref23_Events e2 x4 ticks) hv5 rfl rfl rfl rfl) (.cons (.quiet rfl rfl rfl) (.nil))))))))) ?_
              refine TieO.nil ?_
              refine TieS.seq ?_
              refine TieS.region ?_
              refine TieO.run 1 rfl ?_
              refine TieO.nil ?_
              refine TieS.block ?_
              refine TieS.loop (fun t => ⟨[(1, .t (tS enc_SFire l)), (2, .t (tI ticks)), (3, .ptr 3 0), (11, .t (tS enc_SEvent t.1)), (12, .t (tI s.2)), (13, .t (tS enc_SEvent v5)), (14, .t (tI t.2))], [(3, .box [.t (tS Pv.encI e2.Order), .t (tI e2.First)])]⟩) (fun b e σ' => match b with | .inl t => e = .exit 8 ∧ Sub ⟨[(1, .t (tS enc_SFire l)), (2, .t (tI ticks)), (3, .ptr 3 0), (11, .t (tS enc_SEvent t.1)), (12, .t (tI s.2))], [(3, .box [.t (tS Pv.encI e2.Order), .t (tI e2.First)])]⟩ σ' | .inr t => False) (.of rfl rfl) ?_ ?_
              · intro s2
                refine TieS.seq ?_
                refine TieS.seq ?_
                refine TieS.region ?_
                refine TieO.run 4 rfl ?_
                refine TieO.nil ?_
                refine TieS.cond rfl ?_ ?_
                · refine TieS.skip ?_
                  refine TieS.seq ?_
                  refine TieS.block ?_
                  refine TieS.region ?_
                  refine TieO.run 3 rfl ?_
                  refine TieO.index rfl rfl rfl rfl rfl rfl rfl rfl (fun _ => rfl) fun x5 hx5 => ?_
                  refine TieO.run 1 rfl ?_
                  refine TieO.call _ rfl rfl rfl (tie_magnetoref23_insert s2.1 x5) (fun _ => rfl) fun v6 => ?_
                  refine TieO.run 1 rfl ?_
                  refine TieO.nil ?_
                  refine TieS.endb ?_
                  refine TieS.region ?_
                  refine TieO.run 3 rfl ?_
                  refine TieO.nil ?_
                  exact TieS.leaf ⟨rfl, .of rfl rfl⟩
                · exact TieS.exitOut rfl ⟨(fun h => by cases h), rfl, .of rfl rfl⟩
              rintro (s3 | r) e σ' _ hq
              · obtain ⟨rfl, hs⟩ := hq
                refine TieX.exit rfl (TieX.sub hs ?_)
                refine TieS.endb ?_
                refine TieS.region ?_
                refine TieO.run 3 rfl ?_
                refine TieO.nil ?_
                exact TieS.leaf ⟨rfl, .of rfl rfl⟩
              · exact hq.elim
          · exact TieS.exitOut rfl ⟨(fun h => by cases h), rfl, .of rfl rfl⟩
        rintro (s4 | r3) e σ' _ hq
        · obtain ⟨rfl, hs⟩ := hq
          refine TieX.exit rfl (TieX.sub hs ?_)
          refine TieS.seq ?_
          refine TieS.region ?_
          refine TieO.run 3 rfl ?_
          refine TieO.nil ?_
          exact TieS.ret ⟨.inl rfl, rfl⟩
        · obtain ⟨rfl, hs⟩ := hq
          exact TieX.ret ⟨.inl rfl, hs⟩
      · obtain ⟨rfl, hs⟩ := hq
        exact TieX.ret ⟨.inl rfl, hs⟩
  · obtain ⟨rfl, hs⟩ := hq
    exact TieX.ret ⟨.inl rfl, hs⟩
-- magneto/magnetolaw23.EventsPlans
set_option maxRecDepth 100000 in
theorem tie_magnetolaw23_EventsPlans (e2 : SEngine) (l : List SFire) (ticks : Int) : TieF Try.prog 5 [A_SEngine e2, .t (tS enc_SFire l), .t (tI ticks)] (magnetolaw23_EventsPlans e2 l ticks) (fun r => .t (tB r)) := by
  refine TieF.intro htab 48 [.tmp 6] Try.call5 Try.func5 rfl rfl rfl (Nat.le_of_ble_eq_true rfl) fun w0 L => ?_
  refine TieS.seq ?_
  refine TieS.region ?_
  refine TieO.run 2 rfl ?_
  refine TieO.nil ?_
  refine TieS.seq ?_
  refine TieS.seq ?_
  refine TieS.region ?_
  refine TieO.call _ rfl rfl rfl (tie_magnetolaw23_awake) (fun _ => rfl) fun v => ?_
  refine TieO.run 1 rfl ?_
  refine TieO.nil ?_
  refine TieS.cond rfl ?_ ?_
  · refine TieS.seq ?_
    refine TieS.region ?_
    refine TieO.run 1 rfl ?_
    refine TieO.nil ?_
    exact TieS.ret ⟨.inl rfl, rfl⟩
  · refine TieS.skip ?_
    refine TieS.seq ?_
    refine TieS.seq ?_
    refine TieS.region ?_
    refine TieO.run 3 rfl ?_
    refine TieO.nil ?_
    refine TieS.cond rfl ?_ ?_
    · refine TieS.seq ?_
      refine TieS.region ?_
      refine TieO.run 1 rfl ?_
      refine TieO.nil ?_
      exact TieS.ret ⟨.inl rfl, rfl⟩
    · refine TieS.skip ?_
      refine TieS.seq ?_
      refine TieS.region ?_
      refine TieO.run 3 rfl ?_
      refine TieO.call _ rfl rfl rfl (tie_events_Plan e2 l ticks) (fun _ => rfl) fun r2 => ?_
      refine TieO.run 5 rfl ?_
      refine TieO.nil ?_
      refine TieS.seq ?_
      refine TieS.seq ?_
      refine TieS.region ?_
      refine TieO.run 1 rfl ?_
      refine TieO.call _ rfl rfl rfl (tie_magnetoref23_Valid e2) (fun _ => rfl) fun v2 => ?_
      refine TieO.run 1 rfl ?_
      refine TieO.nil ?_
      refine TieS.cond rfl ?_ ?_
      · refine TieS.seq ?_
        refine TieS.region ?_
        refine TieO.run 3 rfl ?_
        refine TieO.selAnd (v := ((r2.1.length : Int) == 0)) 4 28 (fun b => ⟨[(32, .t (tB b))], []⟩) rfl ?_ ?_ ?_
        · refine TieO.run 4 rfl ?_
          refine TieO.nil ?_
          exact TieS.leaf ⟨rfl, .of rfl rfl⟩
        · refine TieO.run 4 rfl ?_
          refine TieO.nil ?_
          exact TieS.leaf ⟨rfl, .of rfl rfl⟩
        refine TieO.run 1 rfl ?_
        refine TieO.nil ?_
        exact TieS.ret ⟨.inl rfl, rfl⟩
      · refine TieS.skip ?_
        refine TieS.seq ?_
        refine TieS.region ?_
        refine TieO.run 3 rfl ?_
        refine TieO.call _ rfl rfl rfl (tie_magnetoref23_Plan e2 l ticks) (fun _ => rfl) fun r3 => ?_
        refine TieO.run 5 rfl ?_
        refine TieO.nil ?_
        refine TieS.seq ?_
        refine TieS.region ?_
        refine TieO.run 4 rfl ?_
        refine TieO.bind 4 (fun b2 => ⟨[(47, .t (tB b2))], []⟩) (TieO.split 43 rfl ?_ ?_) fun b2 _ => ?_
        · refine TieO.run 2 rfl ?_
          refine TieO.call _ rfl rfl rfl (tie_slices_Equal_sEvent r2.1 r3.1) (fun _ => rfl) fun v3 => ?_
          refine TieO.run 1 rfl ?_
          refine TieO.nil ?_
          exact TieS.leaf ⟨rfl, .of rfl rfl⟩
        · refine TieO.run 4 rfl ?_
          refine TieO.nil ?_
          exact TieS.leaf ⟨rfl, .of rfl rfl⟩
        refine TieO.run 1 rfl ?_
        refine TieO.nil ?_
        exact TieS.ret ⟨.inl rfl, rfl⟩
-- slices.Index[[]magneto/api.Event,magneto/api.Event]
set_option maxRecDepth 100000 in
theorem tie_slices_Index_sEvent (s : List SEvent) (v : SEvent) : TieF Try.prog 54 [.t (tS enc_SEvent s), A_SEvent v] (slices_Index_sEvent s v) (fun r => .t (tI r)) := by
  refine TieF.intro htab 19 [.tmp 4] Try.call54 Try.func54 rfl rfl rfl (Nat.le_of_ble_eq_true rfl) fun w0 L => ?_
  refine TieS.seq ?_
  refine TieS.region ?_
  refine TieO.run 2 rfl ?_
  refine TieO.nil ?_
  refine TieS.seq ?_
  refine TieS.seq ?_
  refine TieS.region ?_
  refine TieO.run 3 rfl ?_
  refine TieO.nil ?_
  refine TieS.block ?_
  refine TieS.loop (fun p => ⟨[(0, .t (tS enc_SEvent s)), (3, .ptr 3 0), (7, .t (tI (s.length : Int))), (8, .t (tI p.1))], [(3, .box [.t (tI v.Angle), .t (tI v.Kind), .t (tI v.Cylinder), .t (tI v.Pulse)])]⟩) (fun b e σ' => match b with | .inl t => e = .exit 0 ∧ Sub ⟨[], []⟩ σ' | .inr t => e = .ret ∧ retT tab σ' [.tmp 4] = some (((fun r => .t (tI r)) : Int → T) t)) (.of rfl rfl) ?_ ?_
  · rintro ⟨i, s2⟩
    refine TieS.seq ?_
    refine TieS.region ?_
    refine TieO.run 1 rfl ?_
    refine TieO.nil ?_
    refine TieS.seq ?_
    refine TieS.cond rfl ?_ ?_
    · refine TieS.skip ?_
      refine TieS.seq ?_
      refine TieX.sub (σ' := ⟨[(0, .t (tS enc_SEvent s)), (3, .ptr 3 0), (7, .t (tI (s.length : Int))), (8, .t (tI i))], [(3, .box [.t (tI v.Angle), .t (tI v.Kind), .t (tI v.Cylinder), .t (tI v.Pulse)])]⟩) (.of rfl rfl) ?_
      refine TieS.bind (Q₁ := fun f e σ' => match f with | .next t => e = .normal ∧ Sub ⟨[(0, .t (tS enc_SEvent s)), (3, .ptr 3 0), (7, .t (tI (s.length : Int))), (8, .t (tI i))], [(3, .box [.t (tI v.Angle), .t (tI v.Kind), .t (tI v.Cylinder), .t (tI v.Pulse)])]⟩ σ' | .brk t => e = .exit 0 ∧ Sub ⟨[], []⟩ σ' | .ret t => e = .ret ∧ retT tab σ' [.tmp 4] = some (((fun r => .t (tI r)) : Int → T) t)) ?_ ?_
      · refine TieS.block ?_
        refine TieS.seq ?_
        refine TieS.region ?_
        refine TieO.run 2 rfl ?_
        refine TieO.nil ?_
        refine TieS.seq ?_
        refine TieX.pre fun x hx => ?_
        refine TieS.draw 6 [.agg [.t (tI v.Angle), .t (tI v.Kind), .t (tI v.Cylinder), .t (tI v.Pulse)], .t (tS enc_SEvent s), .t (tI i), .el (enc_SEvent x), .agg [.t (tI x.Angle), .t (tI x.Kind), .t (tI x.Cylinder), .t (tI x.Pulse)], .t (tB ((v.Angle == x.Angle) && ((v.Kind == x.Kind) && ((v.Cylinder == x.Cylinder) && ((v.Pulse == x.Pulse) && true)))))] [(0, .t (tS enc_SEvent s)), (3, .ptr 3 0), (5, .t (tI i)), (7, .t (tI (s.length : Int))), (8, .t (tI i))] [(3, .box [.t (tI v.Angle), .t (tI v.Kind), .t (tI v.Cylinder), .t (tI v.Pulse)])] mixed (.of rfl rfl) rfl rfl rfl rfl (.cons (.quiet rfl rfl rfl) (.cons (.quiet rfl rfl rfl) (.cons (.quiet rfl rfl rfl) (.cons (.index hx rfl rfl rfl rfl rfl rfl (fun _ => rfl)) (.cons (.quiet rfl rfl rfl) (.cons (.eqS [.int .i64 v.Angle, .int .i64 v.Kind, .int .i64 v.Cylinder, .int .i64 v.Pulse] [.int .i64 x.Angle, .int .i64 x.Kind, .int .i64 x.Cylinder, .int .i64 x.Pulse] (eqv_44 v.Angle v.Kind v.Cylinder v.Pulse x.Angle x.Kind x.Cylinder x.Pulse) rfl rfl rfl rfl) (.nil))))))) ?_
        refine TieO.nil ?_
        refine TieS.cond rfl ?_ ?_
        · refine TieS.seq ?_
          refine TieS.region ?_
          refine TieO.run 2 rfl ?_
          refine TieO.nil ?_
          exact TieS.ret ⟨rfl, rfl⟩
        · refine TieS.skip ?_
          refine TieS.endb ?_
          exact TieS.leaf ⟨rfl, .of rfl rfl⟩
      rintro (t | t | t) e σ' _ hq
      · obtain ⟨rfl, hs⟩ := hq
        refine TieX.sub hs ?_
        refine TieS.region ?_
        refine TieO.run 2 rfl ?_
        refine TieO.nil ?_
        exact TieS.leaf ⟨rfl, .of rfl rfl⟩
      · obtain ⟨rfl, hs⟩ := hq
        exact TieX.exitOut rfl ⟨(fun h => by cases h), rfl, hs⟩
      · obtain ⟨rfl, hs⟩ := hq
        exact TieX.ret ⟨(fun h => by cases h), rfl, hs⟩
    · exact TieS.exitOut rfl ⟨(fun h => by cases h), rfl, .of rfl rfl⟩
  rintro (s3 | r2) e σ' _ hq
  · obtain ⟨rfl, hs⟩ := hq
    refine TieX.exit rfl (TieX.sub hs ?_)
    refine TieS.seq ?_
    refine TieS.region ?_
    refine TieO.run 1 rfl ?_
    refine TieO.nil ?_
    exact TieS.ret ⟨.inl rfl, rfl⟩
  · obtain ⟨rfl, hs⟩ := hq
    exact TieX.ret ⟨.inl rfl, hs⟩
-- slices.Contains[[]magneto/api.Event,magneto/api.Event]
set_option maxRecDepth 100000 in
theorem tie_slices_Contains_sEvent (s : List SEvent) (v : SEvent) : TieF Try.prog 24 [.t (tS enc_SEvent s), A_SEvent v] (slices_Contains_sEvent s v) (fun r => .t (tB r)) := by
  refine TieF.intro htab 9 [.tmp 4] Try.call24 Try.func24 rfl rfl rfl (Nat.le_of_ble_eq_true rfl) fun w0 L => ?_
  refine TieS.seq ?_
  refine TieS.region ?_
  refine TieO.run 2 rfl ?_
  refine TieO.nil ?_
  refine TieS.seq ?_
  refine TieS.region ?_
  refine TieO.run 2 rfl ?_
  refine TieO.call _ rfl rfl rfl (tie_slices_Index_sEvent s v) (fun _ => rfl) fun v2 => ?_
  refine TieO.run 2 rfl ?_
  refine TieO.nil ?_
  exact TieS.ret ⟨.inl rfl, rfl⟩
-- magneto/magnetolaw23.EventsTurned
set_option maxRecDepth 100000 in
theorem tie_magnetolaw23_EventsTurned (e2 : SEngine) (l : List SFire) (ticks : Int) (v_by : Int) : TieF Try.prog 6 [A_SEngine e2, .t (tS enc_SFire l), .t (tI ticks), .t (tI v_by)] (magnetolaw23_EventsTurned e2 l ticks v_by) (fun r => .t (tB r)) := by
  refine TieF.intro htab 87 [.tmp 8] Try.call6 Try.func6 rfl rfl rfl (Nat.le_of_ble_eq_true rfl) fun w0 L => ?_
  refine TieS.seq ?_
  refine TieS.region ?_
  refine TieO.run 2 rfl ?_
  refine TieO.nil ?_
  refine TieS.seq ?_
  refine TieS.seq ?_
  refine TieS.region ?_
  refine TieO.call _ rfl rfl rfl (tie_magnetolaw23_awake) (fun _ => rfl) fun v => ?_
  refine TieO.run 1 rfl ?_
  refine TieO.nil ?_
  refine TieS.cond rfl ?_ ?_
  · refine TieS.seq ?_
    refine TieS.region ?_
    refine TieO.run 1 rfl ?_
    refine TieO.nil ?_
    exact TieS.ret ⟨.inl rfl, rfl⟩
  · refine TieS.skip ?_
    refine TieS.seq ?_
    refine TieS.seq ?_
    refine TieS.region ?_
    refine TieO.run 4 rfl ?_
    refine TieO.selOr (v := decide (v_by < 0)) 3 21 (fun b => ⟨[(1, .t (tS enc_SFire l)), (2, .t (tI ticks)), (3, .t (tI v_by)), (4, .ptr 4 0), (24, .t (tB b))], [(4, .box [.t (tS Pv.encI e2.Order), .t (tI e2.First)])]⟩) rfl ?_ ?_ ?_
    · refine TieO.run 3 rfl ?_
      refine TieO.nil ?_
      exact TieS.leaf ⟨rfl, .of rfl rfl⟩
    · refine TieO.run 3 rfl ?_
      refine TieO.nil ?_
      exact TieS.leaf ⟨rfl, .of rfl rfl⟩
    refine TieO.run 1 rfl ?_
    refine TieO.selOr (v := decide (v_by ≥ 46080)) 3 25 (fun b => ⟨[(1, .t (tS enc_SFire l)), (2, .t (tI ticks)), (3, .t (tI v_by)), (4, .ptr 4 0), (28, .t (tB b))], [(4, .box [.t (tS Pv.encI e2.Order), .t (tI e2.First)])]⟩) rfl ?_ ?_ ?_
    · refine TieO.run 3 rfl ?_
      refine TieO.nil ?_
      exact TieS.leaf ⟨rfl, .of rfl rfl⟩
    · refine TieO.run 3 rfl ?_
      refine TieO.nil ?_
      exact TieS.leaf ⟨rfl, .of rfl rfl⟩
    refine TieO.run 1 rfl ?_
    refine TieO.selOr (v := decide (e2.First < 0)) 4 29 (fun b => ⟨[(1, .t (tS enc_SFire l)), (2, .t (tI ticks)), (3, .t (tI v_by)), (4, .ptr 4 0), (33, .t (tB b))], [(4, .box [.t (tS Pv.encI e2.Order), .t (tI e2.First)])]⟩) rfl ?_ ?_ ?_
    · refine TieO.run 4 rfl ?_
      refine TieO.nil ?_
      exact TieS.leaf ⟨rfl, .of rfl rfl⟩
    · refine TieO.run 4 rfl ?_
      refine TieO.nil ?_
      exact TieS.leaf ⟨rfl, .of rfl rfl⟩
    refine TieO.run 1 rfl ?_
    refine TieO.selOr (v := decide (e2.First ≥ 46080)) 4 34 (fun b => ⟨[(1, .t (tS enc_SFire l)), (2, .t (tI ticks)), (3, .t (tI v_by)), (4, .ptr 4 0), (38, .t (tB b))], [(4, .box [.t (tS Pv.encI e2.Order), .t (tI e2.First)])]⟩) rfl ?_ ?_ ?_
    · refine TieO.run 4 rfl ?_
      refine TieO.nil ?_
      exact TieS.leaf ⟨rfl, .of rfl rfl⟩
    · refine TieO.run 4 rfl ?_
      refine TieO.nil ?_
      exact TieS.leaf ⟨rfl, .of rfl rfl⟩
    refine TieO.nil ?_
    refine TieS.cond rfl ?_ ?_
    · refine TieS.seq ?_
      refine TieS.region ?_
      refine TieO.run 1 rfl ?_
      refine TieO.nil ?_
      exact TieS.ret ⟨.inl rfl, rfl⟩
    · refine TieS.skip ?_
      refine TieS.seq ?_
      refine TieS.region ?_
      refine TieO.run 3 rfl ?_
      refine TieO.call _ rfl rfl rfl (tie_events_Plan e2 l ticks) (fun _ => rfl) fun r2 => ?_
      refine TieO.run 5 rfl ?_
      refine TieO.nil ?_
      refine TieS.seq ?_
      refine TieS.region ?_
      refine TieO.run 3 rfl ?_
      refine TieO.nil ?_
      refine TieS.seq ?_
      refine TieS.region ?_
      refine TieO.run 7 rfl ?_
      refine TieO.nil ?_
      refine TieS.seq ?_
      refine TieS.region ?_
      refine TieO.run 3 rfl ?_
      refine TieO.call _ rfl rfl rfl (tie_events_Plan (⟨e2.Order, Int.tmod (w64 (e2.First + v_by)) 46080⟩ : SEngine) l ticks) (fun _ => rfl) fun r3 => ?_
      refine TieO.run 5 rfl ?_
      refine TieO.nil ?_
      refine TieS.seq ?_
      refine TieS.seq ?_
      refine TieS.region ?_
      refine TieO.run 4 rfl ?_
      refine TieO.selOr (v := ((r2.1.length : Int) != (r3.1.length : Int))) 6 63 (fun b => ⟨[(3, .t (tI v_by)), (9, .t (tS enc_SEvent r2.1)), (12, .t (tS enc_SEvent r3.1)), (69, .t (tB b))], []⟩) rfl ?_ ?_ ?_
      · refine TieO.run 6 rfl ?_
        refine TieO.nil ?_
        exact TieS.leaf ⟨rfl, .of rfl rfl⟩
      · refine TieO.run 6 rfl ?_
        refine TieO.nil ?_
        exact TieS.leaf ⟨rfl, .of rfl rfl⟩
      refine TieO.nil ?_
      refine TieS.cond rfl ?_ ?_
      · refine TieS.seq ?_
        refine TieS.region ?_
        refine TieO.run 1 rfl ?_
        refine TieO.nil ?_
        exact TieS.ret ⟨.inl rfl, rfl⟩
      · refine TieS.skip ?_
        refine TieS.seq ?_
        refine TieS.seq ?_
        refine TieS.region ?_
        refine TieO.run 3 rfl ?_
        refine TieO.nil ?_
        refine TieS.block ?_
        refine TieS.loop (fun p => ⟨[(3, .t (tI v_by)), (12, .t (tS enc_SEvent r3.1)), (70, .t (tS enc_SEvent r2.1)), (71, .t (tI (r2.1.length : Int))), (72, .t (tI p.1))], []⟩) (fun b e σ' => match b with | .inl t => e = .exit 0 ∧ Sub ⟨[], []⟩ σ' | .inr t => e = .ret ∧ retT tab σ' [.tmp 8] = some (((fun r => .t (tB r)) : Bool → T) t)) (.of rfl rfl) ?_ ?_
        · rintro ⟨i, s⟩
          refine TieS.seq ?_
          refine TieS.region ?_
          refine TieO.run 1 rfl ?_
          refine TieO.nil ?_
          refine TieS.seq ?_
          refine TieS.cond rfl ?_ ?_
          · refine TieS.skip ?_
            refine TieS.seq ?_
            refine TieX.pre fun x hx => ?_
            refine TieX.sub (σ' := ⟨[(3, .t (tI v_by)), (12, .t (tS enc_SEvent r3.1)), (70, .t (tS enc_SEvent r2.1)), (71, .t (tI (r2.1.length : Int))), (72, .t (tI i))], []⟩) (.of rfl rfl) ?_
            refine TieS.bind (Q₁ := fun f e σ' => match f with | .next t => e = .normal ∧ Sub ⟨[(3, .t (tI v_by)), (12, .t (tS enc_SEvent r3.1)), (70, .t (tS enc_SEvent r2.1)), (71, .t (tI (r2.1.length : Int))), (72, .t (tI i))], []⟩ σ' | .brk t => e = .exit 0 ∧ Sub ⟨[], []⟩ σ' | .ret t => e = .ret ∧ retT tab σ' [.tmp 8] = some (((fun r => .t (tB r)) : Bool → T) t)) ?_ ?_
            · refine TieS.block ?_
              refine TieS.seq ?_
              refine TieS.region ?_
              refine TieO.indexH hx rfl rfl rfl rfl rfl rfl rfl rfl (fun _ => rfl) ?_
              refine TieO.run 3 rfl ?_
              refine TieO.nil ?_
              refine TieS.seq ?_
              refine TieS.region ?_
              refine TieO.run 7 rfl ?_
              refine TieO.nil ?_
              refine TieS.seq ?_
              refine TieS.region ?_
              refine TieO.run 2 rfl ?_
              refine TieO.call _ rfl rfl rfl (tie_slices_Contains_sEvent r3.1 (⟨Int.tmod (w64 (x.Angle + v_by)) 46080, x.Kind, x.Cylinder, x.Pulse⟩ : SEvent)) (fun _ => rfl) fun v2 => ?_
              refine TieO.run 1 rfl ?_
              refine TieO.nil ?_
              refine TieS.cond rfl ?_ ?_
              · refine TieS.seq ?_
                refine TieS.region ?_
                refine TieO.run 1 rfl ?_
                refine TieO.nil ?_
                exact TieS.ret ⟨rfl, rfl⟩
              · refine TieS.skip ?_
                refine TieS.endb ?_
                exact TieS.leaf ⟨rfl, .of rfl rfl⟩
            rintro (t | t | t) e σ' _ hq
            · obtain ⟨rfl, hs⟩ := hq
              refine TieX.sub hs ?_
              refine TieS.region ?_
              refine TieO.run 2 rfl ?_
              refine TieO.nil ?_
              exact TieS.leaf ⟨rfl, .of rfl rfl⟩
            · obtain ⟨rfl, hs⟩ := hq
              exact TieX.exitOut rfl ⟨(fun h => by cases h), rfl, hs⟩
            · obtain ⟨rfl, hs⟩ := hq
              exact TieX.ret ⟨(fun h => by cases h), rfl, hs⟩
          · exact TieS.exitOut rfl ⟨(fun h => by cases h), rfl, .of rfl rfl⟩
        rintro (s2 | r4) e σ' _ hq
        · obtain ⟨rfl, hs⟩ := hq
          refine TieX.exit rfl (TieX.sub hs ?_)
          refine TieS.seq ?_
          refine TieS.region ?_
          refine TieO.run 1 rfl ?_
          refine TieO.nil ?_
          exact TieS.ret ⟨.inl rfl, rfl⟩
        · obtain ⟨rfl, hs⟩ := hq
          exact TieX.ret ⟨.inl rfl, hs⟩
-- magneto/events.Distance
set_option maxRecDepth 100000 in
theorem tie_events_Distance (v_from : Int) (v_to : Int) : TieF Try.prog 25 [.t (tI v_from), .t (tI v_to)] (events_Distance v_from v_to) (fun r => .t (tI r)) := by
  refine TieF.intro htab 17 [.tmp 4] Try.call25 Try.func25 rfl rfl rfl (Nat.le_of_ble_eq_true rfl) fun w0 L => ?_
  refine TieS.seq ?_
  refine TieS.region ?_
  refine TieO.run 1 rfl ?_
  refine TieO.nil ?_
  refine TieS.seq ?_
  refine TieS.seq ?_
  refine TieS.region ?_
  refine TieO.run 1 rfl ?_
  refine TieO.call _ rfl rfl rfl (tie_events_angle v_from) (fun _ => rfl) fun v => ?_
  refine TieO.run 2 rfl ?_
  refine TieO.bind 4 (fun b2 => ⟨[(0, .t (tI v_from)), (1, .t (tI v_to)), (12, .t (tB b2))], []⟩) (TieO.split 8 rfl ?_ ?_) fun b2 _ => ?_
  · refine TieO.run 4 rfl ?_
    refine TieO.nil ?_
    exact TieS.leaf ⟨rfl, .of rfl rfl⟩
  · refine TieO.run 1 rfl ?_
    refine TieO.call _ rfl rfl rfl (tie_events_angle v_to) (fun _ => rfl) fun v2 => ?_
    refine TieO.run 2 rfl ?_
    refine TieO.nil ?_
    exact TieS.leaf ⟨rfl, .of rfl rfl⟩
  refine TieO.nil ?_
  refine TieS.cond rfl ?_ ?_
  · refine TieS.seq ?_
    refine TieS.region ?_
    refine TieO.run 1 rfl ?_
    refine TieO.nil ?_
    exact TieS.ret ⟨.inl rfl, rfl⟩
  · refine TieS.skip ?_
    refine TieS.seq ?_
    refine TieS.region ?_
    refine TieO.run 3 rfl ?_
    refine TieO.call _ rfl rfl rfl (tie_arith_Mod (w64 (v_to - v_from)) 46080) (fun _ => rfl) fun v3 => ?_
    refine TieO.run 1 rfl ?_
    refine TieO.nil ?_
    exact TieS.ret ⟨.inl rfl, rfl⟩
-- magneto/magnetolaw23.EventsSpread
set_option maxRecDepth 100000 in
set_option maxHeartbeats 4000000 in
theorem tie_magnetolaw23_EventsSpread (e2 : SEngine) : TieF Try.prog 7 [A_SEngine e2] (magnetolaw23_EventsSpread e2) (fun r => .t (tB r)) := by
  refine TieF.intro htab 79 [.tmp 2] Try.call7 Try.func7 rfl rfl rfl (Nat.le_of_ble_eq_true rfl) fun w0 L => ?_
  refine TieS.seq ?_
  refine TieS.region ?_
  refine TieO.run 2 rfl ?_
  refine TieO.nil ?_
  refine TieS.seq ?_
  refine TieS.seq ?_
  refine TieS.region ?_
  refine TieO.call _ rfl rfl rfl (tie_magnetolaw23_awake) (fun _ => rfl) fun v => ?_
  refine TieO.run 1 rfl ?_
  refine TieO.nil ?_
  refine TieS.cond rfl ?_ ?_
  · refine TieS.seq ?_
    refine TieS.region ?_
    refine TieO.run 1 rfl ?_
    refine TieO.nil ?_
    exact TieS.ret ⟨.inl rfl, rfl⟩
  · refine TieS.skip ?_
    refine TieS.seq ?_
    refine TieS.seq ?_
    refine TieS.region ?_
    refine TieO.run 1 rfl ?_
    refine TieO.call _ rfl rfl rfl (tie_events_Valid e2) (fun _ => rfl) fun v2 => ?_
    refine TieO.run 1 rfl ?_
    refine TieO.nil ?_
    refine TieS.cond rfl ?_ ?_
    · refine TieS.seq ?_
      refine TieS.region ?_
      refine TieO.run 1 rfl ?_
      refine TieO.nil ?_
      exact TieS.ret ⟨.inl rfl, rfl⟩
    · refine TieS.skip ?_
      refine TieS.seq ?_
      refine TieS.region ?_
      refine TieO.run 4 rfl ?_
      refine TieO.nil ?_
      refine TieS.seq ?_
      refine TieS.seq ?_
      refine TieS.region ?_
      refine TieO.run 2 rfl ?_
      refine TieO.nil ?_
      refine TieS.cond rfl ?_ ?_
      · refine TieS.seq ?_
        refine TieS.region ?_
        refine TieO.run 1 rfl ?_
        refine TieO.nil ?_
        exact TieS.ret ⟨.inl rfl, rfl⟩
      · refine TieS.skip ?_
        refine TieS.seq ?_
        refine TieS.region ?_
        refine TieO.run 1 rfl ?_
        refine TieO.nil ?_
        refine TieS.seq ?_
        refine TieS.seq ?_
        refine TieS.region ?_
        refine TieO.run 4 rfl ?_
        refine TieO.nil ?_
        refine TieS.block ?_
        refine TieS.loop (fun p => ⟨[(1, .ptr 1 0), (3, .t (tI (e2.Order.length : Int))), (4, .t (tI p.2)), (23, .t (tS Pv.encI e2.Order)), (24, .t (tI (e2.Order.length : Int))), (25, .t (tI p.1))], [(1, .box [.t (tS Pv.encI e2.Order), .t (tI e2.First)])]⟩) (fun b e σ' => match b with | .inl t => e = .exit 0 ∧ Sub ⟨[(4, .t (tI t))], []⟩ σ' | .inr t => e = .ret ∧ retT tab σ' [.tmp 2] = some (((fun r => .t (tB r)) : Bool → T) t)) (.of rfl rfl) ?_ ?_
        · rintro ⟨i, sum⟩
          refine TieS.seq ?_
          refine TieS.region ?_
          refine TieO.run 1 rfl ?_
          refine TieO.nil ?_
          refine TieS.seq ?_
          refine TieS.cond rfl ?_ ?_
          · refine TieS.skip ?_
            refine TieS.seq ?_
            refine TieX.sub (σ' := ⟨[(1, .ptr 1 0), (3, .t (tI (e2.Order.length : Int))), (4, .t (tI sum)), (23, .t (tS Pv.encI e2.Order)), (24, .t (tI (e2.Order.length : Int))), (25, .t (tI i))], [(1, .box [.t (tS Pv.encI e2.Order), .t (tI e2.First)])]⟩) (.of rfl rfl) ?_
            refine TieS.bind (Q₁ := fun f e σ' => match f with | .next t => e = .normal ∧ Sub ⟨[(1, .ptr 1 0), (3, .t (tI (e2.Order.length : Int))), (4, .t (tI t)), (23, .t (tS Pv.encI e2.Order)), (24, .t (tI (e2.Order.length : Int))), (25, .t (tI i))], [(1, .box [.t (tS Pv.encI e2.Order), .t (tI e2.First)])]⟩ σ' | .brk t => e = .exit 0 ∧ Sub ⟨[(4, .t (tI t))], []⟩ σ' | .ret t => e = .ret ∧ retT tab σ' [.tmp 2] = some (((fun r => .t (tB r)) : Bool → T) t)) ?_ ?_
            · refine TieS.block ?_
              refine TieS.seq ?_
              refine TieS.region ?_
              refine TieO.run 1 rfl ?_
              refine TieO.index rfl rfl rfl rfl rfl rfl rfl rfl (fun _ => rfl) fun x hx => ?_
              refine TieO.run 3 rfl ?_
              refine TieO.nil ?_
              refine TieS.seq ?_
              refine TieS.region ?_
              refine TieO.run 2 rfl ?_
              refine TieO.call _ rfl rfl rfl (tie_events_Center e2 x) (fun _ => rfl) fun r2 => ?_
              refine TieO.run 5 rfl ?_
              refine TieO.nil ?_
              refine TieS.seq ?_
              refine TieS.bind (Q₁ := fun t e σ' => e = .normal ∧ Sub ⟨[(1, .ptr 1 0), (3, .t (tI (e2.Order.length : Int))), (4, .t (tI sum)), (7, .t (tI r2.1)), (8, .t (tI r2.2)), (9, .t (tI t.1)), (10, .t (tI t.2)), (23, .t (tS Pv.encI e2.Order)), (24, .t (tI (e2.Order.length : Int))), (25, .t (tI i))], [(1, .box [.t (tS Pv.encI e2.Order), .t (tI e2.First)])]⟩ σ') ?_ ?_
              · refine TieX.pre fun q hq => ?_
                refine TieX.pre fun x2 hx2 => ?_
                refine TieX.pre fun r3 hr3 => ?_
                refine TieS.draws 14 [false, false, false, false, false, false, false, false, false, false, false, false, false, false, false] [true, true, true, true, true, true, true, true, true, true, true, true, true, true, false] ⟨[(1, .ptr 1 0), (3, .t (tI (e2.Order.length : Int))), (4, .t (tI sum)), (5, .t (tI i)), (7, .t (tI r2.1)), (8, .t (tI r2.2)), (9, .t (tI r3.1)), (23, .t (tS Pv.encI e2.Order)), (24, .t (tI (e2.Order.length : Int))), (25, .t (tI i)), (36, .tup [.t (tI r3.1), .t (tI r3.2)]), (37, .agg [.t (tS Pv.encI e2.Order), .t (tI e2.First)]), (38, .ptr 1 0), (39, .t (tS Pv.encI e2.Order)), (40, .t (tI i)), (41, .t (tI (w64 (i + 1)))), (42, .t (tI (e2.Order.length : Int))), (43, .t (tI q)), (44, .el (Pv.encI x2)), (45, .t (tI x2)), (46, .tup [.t (tI r3.1), .t (tI r3.2)]), (47, .t (tI r3.1)), (48, .t (tI r3.2))], [(1, .box [.t (tS Pv.encI e2.Order), .t (tI e2.First)])]⟩ mixed (fun _ _ _ h => by cases h.1) rfl rfl rfl rfl ?_ ?_
                · refine TieA.have_ (fuel₁ := 1) (l₁ := [true, true, true, true, true, true, true, true, true, true, true, true, true, true, false]) (σ₁ := ⟨[(1, .ptr 1 0), (3, .t (tI (e2.Order.length : Int))), (4, .t (tI sum)), (5, .t (tI i)), (7, .t (tI r2.1)), (8, .t (tI r2.2)), (9, .t (tI r3.1)), (23, .t (tS Pv.encI e2.Order)), (24, .t (tI (e2.Order.length : Int))), (25, .t (tI i)), (36, .tup [.t (tI r3.1), .t (tI r3.2)]), (37, .agg [.t (tS Pv.encI e2.Order), .t (tI e2.First)]), (38, .ptr 1 0), (39, .t (tS Pv.encI e2.Order)), (40, .t (tI i)), (41, .t (tI (w64 (i + 1)))), (42, .t (tI (e2.Order.length : Int))), (43, .t (tI q)), (44, .el (Pv.encI x2)), (45, .t (tI x2)), (46, .tup [.t (tI r3.1), .t (tI r3.2)]), (47, .t (tI r3.1)), (48, .t (tI r3.2))], [(1, .box [.t (tS Pv.encI e2.Order), .t (tI e2.First)])]⟩) ?_ fun A_8 => ?_
                  · exact TieA.done (.of rfl rfl)
                  refine TieA.have_ (fuel₁ := 3) (l₁ := [true, true, true, true, true, true, true, true, true, true, true, true, false, false, false]) (σ₁ := ⟨[(1, .ptr 1 0), (3, .t (tI (e2.Order.length : Int))), (4, .t (tI sum)), (5, .t (tI i)), (7, .t (tI r2.1)), (8, .t (tI r2.2)), (23, .t (tS Pv.encI e2.Order)), (24, .t (tI (e2.Order.length : Int))), (25, .t (tI i)), (36, .tup [.t (tI r3.1), .t (tI r3.2)]), (37, .agg [.t (tS Pv.encI e2.Order), .t (tI e2.First)]), (38, .ptr 1 0), (39, .t (tS Pv.encI e2.Order)), (40, .t (tI i)), (41, .t (tI (w64 (i + 1)))), (42, .t (tI (e2.Order.length : Int))), (43, .t (tI q)), (44, .el (Pv.encI x2)), (45, .t (tI x2)), (46, .tup [.t (tI r3.1), .t (tI r3.2)]), (47, .t (tI r3.1))], [(1, .box [.t (tS Pv.encI e2.Order), .t (tI e2.First)])]⟩) ?_ fun A_7 => ?_
                  · refine TieA.move 13 [true, true, true, true, true, true, true, true, true, true, true, true, false, true, false] rfl rfl (by first | exact .inl rfl | exact .inr rfl) rfl rfl rfl (by kernel_rfl) (by kernel_rfl) (by kernel_rfl) rfl ?_
                    refine TieA.all [12] (by kernel_rfl) rfl ?_
                    refine AllA.cons (σ₁ := ⟨[(1, .ptr 1 0), (3, .t (tI (e2.Order.length : Int))), (4, .t (tI sum)), (5, .t (tI i)), (7, .t (tI r2.1)), (8, .t (tI r2.2)), (9, .t (tI r3.1)), (23, .t (tS Pv.encI e2.Order)), (24, .t (tI (e2.Order.length : Int))), (25, .t (tI i)), (36, .tup [.t (tI r3.1), .t (tI r3.2)]), (37, .agg [.t (tS Pv.encI e2.Order), .t (tI e2.First)]), (38, .ptr 1 0), (39, .t (tS Pv.encI e2.Order)), (40, .t (tI i)), (41, .t (tI (w64 (i + 1)))), (42, .t (tI (e2.Order.length : Int))), (43, .t (tI q)), (44, .el (Pv.encI x2)), (45, .t (tI x2)), (46, .tup [.t (tI r3.1), .t (tI r3.2)]), (47, .t (tI r3.1)), (48, .t (tI r3.2))], [(1, .box [.t (tS Pv.encI e2.Order), .t (tI e2.First)])]⟩) [true, true, true, true, true, true, true, true, true, true, true, true, true, true, false] rfl rfl ?_ A_8 ?_
                    · refine TieO.run 1 rfl ?_
                      exact TieO.nil (TieS.leaf ⟨rfl, .of rfl rfl⟩)
                    exact AllA.nil
                  refine TieA.have_ (fuel₁ := 2) (l₁ := [true, true, true, true, true, true, true, true, true, true, true, true, true, false, false]) (σ₁ := ⟨[(1, .ptr 1 0), (3, .t (tI (e2.Order.length : Int))), (4, .t (tI sum)), (5, .t (tI i)), (7, .t (tI r2.1)), (8, .t (tI r2.2)), (23, .t (tS Pv.encI e2.Order)), (24, .t (tI (e2.Order.length : Int))), (25, .t (tI i)), (36, .tup [.t (tI r3.1), .t (tI r3.2)]), (37, .agg [.t (tS Pv.encI e2.Order), .t (tI e2.First)]), (38, .ptr 1 0), (39, .t (tS Pv.encI e2.Order)), (40, .t (tI i)), (41, .t (tI (w64 (i + 1)))), (42, .t (tI (e2.Order.length : Int))), (43, .t (tI q)), (44, .el (Pv.encI x2)), (45, .t (tI x2)), (46, .tup [.t (tI r3.1), .t (tI r3.2)]), (47, .t (tI r3.1)), (48, .t (tI r3.2))], [(1, .box [.t (tS Pv.encI e2.Order), .t (tI e2.First)])]⟩) ?_ fun A_10 => ?_
                  · refine TieA.move 13 [true, true, true, true, true, true, true, true, true, true, true, true, true, true, false] rfl rfl (by first | exact .inl rfl | exact .inr rfl) rfl rfl rfl (by kernel_rfl) (by kernel_rfl) (by kernel_rfl) rfl ?_
                    exact TieA.done (.of rfl rfl)
                  refine TieA.have_ (fuel₁ := 3) (l₁ := [true, true, true, true, true, true, true, true, true, true, true, false, true, false, false]) (σ₁ := ⟨[(1, .ptr 1 0), (3, .t (tI (e2.Order.length : Int))), (4, .t (tI sum)), (5, .t (tI i)), (7, .t (tI r2.1)), (8, .t (tI r2.2)), (23, .t (tS Pv.encI e2.Order)), (24, .t (tI (e2.Order.length : Int))), (25, .t (tI i)), (36, .tup [.t (tI r3.1), .t (tI r3.2)]), (37, .agg [.t (tS Pv.encI e2.Order), .t (tI e2.First)]), (38, .ptr 1 0), (39, .t (tS Pv.encI e2.Order)), (40, .t (tI i)), (41, .t (tI (w64 (i + 1)))), (42, .t (tI (e2.Order.length : Int))), (43, .t (tI q)), (44, .el (Pv.encI x2)), (45, .t (tI x2)), (46, .tup [.t (tI r3.1), .t (tI r3.2)]), (48, .t (tI r3.2))], [(1, .box [.t (tS Pv.encI e2.Order), .t (tI e2.First)])]⟩) ?_ fun A_9 => ?_
                  · refine TieA.all [11] (by kernel_rfl) rfl ?_
                    refine AllA.cons (σ₁ := ⟨[(1, .ptr 1 0), (3, .t (tI (e2.Order.length : Int))), (4, .t (tI sum)), (5, .t (tI i)), (7, .t (tI r2.1)), (8, .t (tI r2.2)), (23, .t (tS Pv.encI e2.Order)), (24, .t (tI (e2.Order.length : Int))), (25, .t (tI i)), (36, .tup [.t (tI r3.1), .t (tI r3.2)]), (37, .agg [.t (tS Pv.encI e2.Order), .t (tI e2.First)]), (38, .ptr 1 0), (39, .t (tS Pv.encI e2.Order)), (40, .t (tI i)), (41, .t (tI (w64 (i + 1)))), (42, .t (tI (e2.Order.length : Int))), (43, .t (tI q)), (44, .el (Pv.encI x2)), (45, .t (tI x2)), (46, .tup [.t (tI r3.1), .t (tI r3.2)]), (47, .t (tI r3.1)), (48, .t (tI r3.2))], [(1, .box [.t (tS Pv.encI e2.Order), .t (tI e2.First)])]⟩) [true, true, true, true, true, true, true, true, true, true, true, true, true, false, false] rfl rfl ?_ A_10 ?_
                    · refine TieO.run 1 rfl ?_
                      exact TieO.nil (TieS.leaf ⟨rfl, .of rfl rfl⟩)
                    exact AllA.nil
                  refine TieA.have_ (fuel₁ := 5) (l₁ := [true, true, true, true, true, true, true, true, true, true, false, false, false, false, false]) (σ₁ := ⟨[(1, .ptr 1 0), (3, .t (tI (e2.Order.length : Int))), (4, .t (tI sum)), (5, .t (tI i)), (7, .t (tI r2.1)), (8, .t (tI r2.2)), (23, .t (tS Pv.encI e2.Order)), (24, .t (tI (e2.Order.length : Int))), (25, .t (tI i)), (37, .agg [.t (tS Pv.encI e2.Order), .t (tI e2.First)]), (38, .ptr 1 0), (39, .t (tS Pv.encI e2.Order)), (40, .t (tI i)), (41, .t (tI (w64 (i + 1)))), (42, .t (tI (e2.Order.length : Int))), (43, .t (tI q)), (44, .el (Pv.encI x2)), (45, .t (tI x2)), (46, .tup [.t (tI r3.1), .t (tI r3.2)])], [(1, .box [.t (tS Pv.encI e2.Order), .t (tI e2.First)])]⟩) ?_ fun A_6 => ?_
                  · refine TieA.move 10 [true, true, true, true, true, true, true, true, true, true, true, false, false, false, false] rfl rfl (by first | exact .inl rfl | exact .inr rfl) rfl rfl rfl (by kernel_rfl) (by kernel_rfl) (by kernel_rfl) rfl ?_
                    refine TieA.all [11, 12] (by kernel_rfl) rfl ?_
                    refine AllA.cons (σ₁ := ⟨[(1, .ptr 1 0), (3, .t (tI (e2.Order.length : Int))), (4, .t (tI sum)), (5, .t (tI i)), (7, .t (tI r2.1)), (8, .t (tI r2.2)), (23, .t (tS Pv.encI e2.Order)), (24, .t (tI (e2.Order.length : Int))), (25, .t (tI i)), (36, .tup [.t (tI r3.1), .t (tI r3.2)]), (37, .agg [.t (tS Pv.encI e2.Order), .t (tI e2.First)]), (38, .ptr 1 0), (39, .t (tS Pv.encI e2.Order)), (40, .t (tI i)), (41, .t (tI (w64 (i + 1)))), (42, .t (tI (e2.Order.length : Int))), (43, .t (tI q)), (44, .el (Pv.encI x2)), (45, .t (tI x2)), (46, .tup [.t (tI r3.1), .t (tI r3.2)]), (47, .t (tI r3.1))], [(1, .box [.t (tS Pv.encI e2.Order), .t (tI e2.First)])]⟩) [true, true, true, true, true, true, true, true, true, true, true, true, false, false, false] rfl rfl ?_ A_7 ?_
                    · refine TieO.run 1 rfl ?_
                      exact TieO.nil (TieS.leaf ⟨rfl, .of rfl rfl⟩)
                    refine AllA.cons (σ₁ := ⟨[(1, .ptr 1 0), (3, .t (tI (e2.Order.length : Int))), (4, .t (tI sum)), (5, .t (tI i)), (7, .t (tI r2.1)), (8, .t (tI r2.2)), (23, .t (tS Pv.encI e2.Order)), (24, .t (tI (e2.Order.length : Int))), (25, .t (tI i)), (36, .tup [.t (tI r3.1), .t (tI r3.2)]), (37, .agg [.t (tS Pv.encI e2.Order), .t (tI e2.First)]), (38, .ptr 1 0), (39, .t (tS Pv.encI e2.Order)), (40, .t (tI i)), (41, .t (tI (w64 (i + 1)))), (42, .t (tI (e2.Order.length : Int))), (43, .t (tI q)), (44, .el (Pv.encI x2)), (45, .t (tI x2)), (46, .tup [.t (tI r3.1), .t (tI r3.2)]), (48, .t (tI r3.2))], [(1, .box [.t (tS Pv.encI e2.Order), .t (tI e2.First)])]⟩) [true, true, true, true, true, true, true, true, true, true, true, false, true, false, false] rfl rfl ?_ A_9 ?_
                    · refine TieO.run 1 rfl ?_
                      exact TieO.nil (TieS.leaf ⟨rfl, .of rfl rfl⟩)
                    exact AllA.nil
                  refine TieA.have_ (fuel₁ := 6) (l₁ := [true, true, true, true, true, true, true, true, true, false, false, false, false, false, false]) (σ₁ := ⟨[(1, .ptr 1 0), (3, .t (tI (e2.Order.length : Int))), (4, .t (tI sum)), (5, .t (tI i)), (7, .t (tI r2.1)), (8, .t (tI r2.2)), (23, .t (tS Pv.encI e2.Order)), (24, .t (tI (e2.Order.length : Int))), (25, .t (tI i)), (37, .agg [.t (tS Pv.encI e2.Order), .t (tI e2.First)]), (38, .ptr 1 0), (39, .t (tS Pv.encI e2.Order)), (40, .t (tI i)), (41, .t (tI (w64 (i + 1)))), (42, .t (tI (e2.Order.length : Int))), (43, .t (tI q)), (44, .el (Pv.encI x2)), (45, .t (tI x2))], [(1, .box [.t (tS Pv.encI e2.Order), .t (tI e2.First)])]⟩) ?_ fun A_5 => ?_
                  · refine TieA.all [9] (by kernel_rfl) rfl ?_
                    refine AllA.cons (σ₁ := ⟨[(1, .ptr 1 0), (3, .t (tI (e2.Order.length : Int))), (4, .t (tI sum)), (5, .t (tI i)), (7, .t (tI r2.1)), (8, .t (tI r2.2)), (23, .t (tS Pv.encI e2.Order)), (24, .t (tI (e2.Order.length : Int))), (25, .t (tI i)), (37, .agg [.t (tS Pv.encI e2.Order), .t (tI e2.First)]), (38, .ptr 1 0), (39, .t (tS Pv.encI e2.Order)), (40, .t (tI i)), (41, .t (tI (w64 (i + 1)))), (42, .t (tI (e2.Order.length : Int))), (43, .t (tI q)), (44, .el (Pv.encI x2)), (45, .t (tI x2)), (46, .tup [.t (tI r3.1), .t (tI r3.2)])], [(1, .box [.t (tS Pv.encI e2.Order), .t (tI e2.First)])]⟩) [true, true, true, true, true, true, true, true, true, true, false, false, false, false, false] rfl rfl ?_ A_6 ?_
                    · refine TieO.withH hr3 (TieO.call _ rfl rfl rfl (tie_events_Center e2 x2) (fun _ => rfl) (TieO.ifH ?_))
                      exact TieO.nil (TieS.leaf ⟨rfl, .of rfl rfl⟩)
                    exact AllA.nil
                  refine TieA.have_ (fuel₁ := 7) (l₁ := [true, true, true, true, true, true, true, true, false, false, false, false, false, false, false]) (σ₁ := ⟨[(1, .ptr 1 0), (3, .t (tI (e2.Order.length : Int))), (4, .t (tI sum)), (5, .t (tI i)), (7, .t (tI r2.1)), (8, .t (tI r2.2)), (23, .t (tS Pv.encI e2.Order)), (24, .t (tI (e2.Order.length : Int))), (25, .t (tI i)), (37, .agg [.t (tS Pv.encI e2.Order), .t (tI e2.First)]), (38, .ptr 1 0), (39, .t (tS Pv.encI e2.Order)), (40, .t (tI i)), (41, .t (tI (w64 (i + 1)))), (42, .t (tI (e2.Order.length : Int))), (43, .t (tI q)), (44, .el (Pv.encI x2))], [(1, .box [.t (tS Pv.encI e2.Order), .t (tI e2.First)])]⟩) ?_ fun A_4 => ?_
                  · refine TieA.all [8] (by kernel_rfl) rfl ?_
                    refine AllA.cons (σ₁ := ⟨[(1, .ptr 1 0), (3, .t (tI (e2.Order.length : Int))), (4, .t (tI sum)), (5, .t (tI i)), (7, .t (tI r2.1)), (8, .t (tI r2.2)), (23, .t (tS Pv.encI e2.Order)), (24, .t (tI (e2.Order.length : Int))), (25, .t (tI i)), (37, .agg [.t (tS Pv.encI e2.Order), .t (tI e2.First)]), (38, .ptr 1 0), (39, .t (tS Pv.encI e2.Order)), (40, .t (tI i)), (41, .t (tI (w64 (i + 1)))), (42, .t (tI (e2.Order.length : Int))), (43, .t (tI q)), (44, .el (Pv.encI x2)), (45, .t (tI x2))], [(1, .box [.t (tS Pv.encI e2.Order), .t (tI e2.First)])]⟩) [true, true, true, true, true, true, true, true, true, false, false, false, false, false, false] rfl rfl ?_ A_5 ?_
                    · refine TieO.run 1 rfl ?_
                      exact TieO.nil (TieS.leaf ⟨rfl, .of rfl rfl⟩)
                    exact AllA.nil
                  refine TieA.have_ (fuel₁ := 8) (l₁ := [true, true, true, true, true, true, true, false, false, false, false, false, false, false, false]) (σ₁ := ⟨[(1, .ptr 1 0), (3, .t (tI (e2.Order.length : Int))), (4, .t (tI sum)), (5, .t (tI i)), (7, .t (tI r2.1)), (8, .t (tI r2.2)), (23, .t (tS Pv.encI e2.Order)), (24, .t (tI (e2.Order.length : Int))), (25, .t (tI i)), (37, .agg [.t (tS Pv.encI e2.Order), .t (tI e2.First)]), (38, .ptr 1 0), (39, .t (tS Pv.encI e2.Order)), (40, .t (tI i)), (41, .t (tI (w64 (i + 1)))), (42, .t (tI (e2.Order.length : Int))), (43, .t (tI q))], [(1, .box [.t (tS Pv.encI e2.Order), .t (tI e2.First)])]⟩) ?_ fun A_3 => ?_
                  · refine TieA.all [7] (by kernel_rfl) rfl ?_
                    refine AllA.cons (σ₁ := ⟨[(1, .ptr 1 0), (3, .t (tI (e2.Order.length : Int))), (4, .t (tI sum)), (5, .t (tI i)), (7, .t (tI r2.1)), (8, .t (tI r2.2)), (23, .t (tS Pv.encI e2.Order)), (24, .t (tI (e2.Order.length : Int))), (25, .t (tI i)), (37, .agg [.t (tS Pv.encI e2.Order), .t (tI e2.First)]), (38, .ptr 1 0), (39, .t (tS Pv.encI e2.Order)), (40, .t (tI i)), (41, .t (tI (w64 (i + 1)))), (42, .t (tI (e2.Order.length : Int))), (43, .t (tI q)), (44, .el (Pv.encI x2))], [(1, .box [.t (tS Pv.encI e2.Order), .t (tI e2.First)])]⟩) [true, true, true, true, true, true, true, true, false, false, false, false, false, false, false] rfl rfl ?_ A_4 ?_
                    · refine TieO.indexH hx2 rfl rfl rfl rfl rfl rfl rfl rfl (fun _ => rfl) ?_
                      exact TieO.nil (TieS.leaf ⟨rfl, .of rfl rfl⟩)
                    exact AllA.nil
                  refine TieA.have_ (fuel₁ := 9) (l₁ := [true, true, true, true, true, true, false, false, false, false, false, false, false, false, false]) (σ₁ := ⟨[(1, .ptr 1 0), (3, .t (tI (e2.Order.length : Int))), (4, .t (tI sum)), (5, .t (tI i)), (7, .t (tI r2.1)), (8, .t (tI r2.2)), (23, .t (tS Pv.encI e2.Order)), (24, .t (tI (e2.Order.length : Int))), (25, .t (tI i)), (37, .agg [.t (tS Pv.encI e2.Order), .t (tI e2.First)]), (38, .ptr 1 0), (39, .t (tS Pv.encI e2.Order)), (40, .t (tI i)), (41, .t (tI (w64 (i + 1)))), (42, .t (tI (e2.Order.length : Int)))], [(1, .box [.t (tS Pv.encI e2.Order), .t (tI e2.First)])]⟩) ?_ fun A_2 => ?_
                  · refine TieA.all [6] (by kernel_rfl) rfl ?_
                    refine AllA.cons (σ₁ := ⟨[(1, .ptr 1 0), (3, .t (tI (e2.Order.length : Int))), (4, .t (tI sum)), (5, .t (tI i)), (7, .t (tI r2.1)), (8, .t (tI r2.2)), (23, .t (tS Pv.encI e2.Order)), (24, .t (tI (e2.Order.length : Int))), (25, .t (tI i)), (37, .agg [.t (tS Pv.encI e2.Order), .t (tI e2.First)]), (38, .ptr 1 0), (39, .t (tS Pv.encI e2.Order)), (40, .t (tI i)), (41, .t (tI (w64 (i + 1)))), (42, .t (tI (e2.Order.length : Int))), (43, .t (tI q))], [(1, .box [.t (tS Pv.encI e2.Order), .t (tI e2.First)])]⟩) [true, true, true, true, true, true, true, false, false, false, false, false, false, false, false] rfl rfl ?_ A_3 ?_
                    · refine TieO.withH hq (TieO.rem rfl rfl rfl rfl rfl rfl (TieO.ifH ?_))
                      exact TieO.nil (TieS.leaf ⟨rfl, .of rfl rfl⟩)
                    exact AllA.nil
                  refine TieA.have_ (fuel₁ := 9) (l₁ := [true, true, false, true, true, true, true, false, false, false, false, false, false, false, false]) (σ₁ := ⟨[(1, .ptr 1 0), (3, .t (tI (e2.Order.length : Int))), (4, .t (tI sum)), (5, .t (tI i)), (7, .t (tI r2.1)), (8, .t (tI r2.2)), (23, .t (tS Pv.encI e2.Order)), (24, .t (tI (e2.Order.length : Int))), (25, .t (tI i)), (37, .agg [.t (tS Pv.encI e2.Order), .t (tI e2.First)]), (38, .ptr 1 0), (40, .t (tI i)), (41, .t (tI (w64 (i + 1)))), (42, .t (tI (e2.Order.length : Int))), (43, .t (tI q))], [(1, .box [.t (tS Pv.encI e2.Order), .t (tI e2.First)])]⟩) ?_ fun A_11 => ?_
                  · refine TieA.all [2] (by kernel_rfl) rfl ?_
                    refine AllA.cons (σ₁ := ⟨[(1, .ptr 1 0), (3, .t (tI (e2.Order.length : Int))), (4, .t (tI sum)), (5, .t (tI i)), (7, .t (tI r2.1)), (8, .t (tI r2.2)), (23, .t (tS Pv.encI e2.Order)), (24, .t (tI (e2.Order.length : Int))), (25, .t (tI i)), (37, .agg [.t (tS Pv.encI e2.Order), .t (tI e2.First)]), (38, .ptr 1 0), (39, .t (tS Pv.encI e2.Order)), (40, .t (tI i)), (41, .t (tI (w64 (i + 1)))), (42, .t (tI (e2.Order.length : Int))), (43, .t (tI q))], [(1, .box [.t (tS Pv.encI e2.Order), .t (tI e2.First)])]⟩) [true, true, true, true, true, true, true, false, false, false, false, false, false, false, false] rfl rfl ?_ A_3 ?_
                    · refine TieO.run 1 rfl ?_
                      exact TieO.nil (TieS.leaf ⟨rfl, .of rfl rfl⟩)
                    exact AllA.nil
                  refine TieA.have_ (fuel₁ := 10) (l₁ := [true, true, false, true, true, true, false, false, false, false, false, false, false, false, false]) (σ₁ := ⟨[(1, .ptr 1 0), (3, .t (tI (e2.Order.length : Int))), (4, .t (tI sum)), (5, .t (tI i)), (7, .t (tI r2.1)), (8, .t (tI r2.2)), (23, .t (tS Pv.encI e2.Order)), (24, .t (tI (e2.Order.length : Int))), (25, .t (tI i)), (37, .agg [.t (tS Pv.encI e2.Order), .t (tI e2.First)]), (38, .ptr 1 0), (40, .t (tI i)), (41, .t (tI (w64 (i + 1)))), (42, .t (tI (e2.Order.length : Int)))], [(1, .box [.t (tS Pv.encI e2.Order), .t (tI e2.First)])]⟩) ?_ fun A_1 => ?_
                  · refine TieA.all [2, 6] (by kernel_rfl) rfl ?_
                    refine AllA.cons (σ₁ := ⟨[(1, .ptr 1 0), (3, .t (tI (e2.Order.length : Int))), (4, .t (tI sum)), (5, .t (tI i)), (7, .t (tI r2.1)), (8, .t (tI r2.2)), (23, .t (tS Pv.encI e2.Order)), (24, .t (tI (e2.Order.length : Int))), (25, .t (tI i)), (37, .agg [.t (tS Pv.encI e2.Order), .t (tI e2.First)]), (38, .ptr 1 0), (39, .t (tS Pv.encI e2.Order)), (40, .t (tI i)), (41, .t (tI (w64 (i + 1)))), (42, .t (tI (e2.Order.length : Int)))], [(1, .box [.t (tS Pv.encI e2.Order), .t (tI e2.First)])]⟩) [true, true, true, true, true, true, false, false, false, false, false, false, false, false, false] rfl rfl ?_ A_2 ?_
                    · refine TieO.run 1 rfl ?_
                      exact TieO.nil (TieS.leaf ⟨rfl, .of rfl rfl⟩)
                    refine AllA.cons (σ₁ := ⟨[(1, .ptr 1 0), (3, .t (tI (e2.Order.length : Int))), (4, .t (tI sum)), (5, .t (tI i)), (7, .t (tI r2.1)), (8, .t (tI r2.2)), (23, .t (tS Pv.encI e2.Order)), (24, .t (tI (e2.Order.length : Int))), (25, .t (tI i)), (37, .agg [.t (tS Pv.encI e2.Order), .t (tI e2.First)]), (38, .ptr 1 0), (40, .t (tI i)), (41, .t (tI (w64 (i + 1)))), (42, .t (tI (e2.Order.length : Int))), (43, .t (tI q))], [(1, .box [.t (tS Pv.encI e2.Order), .t (tI e2.First)])]⟩) [true, true, false, true, true, true, true, false, false, false, false, false, false, false, false] rfl rfl ?_ A_11 ?_
                    · refine TieO.withH hq (TieO.rem rfl rfl rfl rfl rfl rfl (TieO.ifH ?_))
                      exact TieO.nil (TieS.leaf ⟨rfl, .of rfl rfl⟩)
                    exact AllA.nil
                  refine TieA.have_ (fuel₁ := 7) (l₁ := [false, true, true, true, true, true, true, true, true, false, false, false, false, false, false]) (σ₁ := ⟨[(1, .ptr 1 0), (3, .t (tI (e2.Order.length : Int))), (4, .t (tI sum)), (5, .t (tI i)), (7, .t (tI r2.1)), (8, .t (tI r2.2)), (23, .t (tS Pv.encI e2.Order)), (24, .t (tI (e2.Order.length : Int))), (25, .t (tI i)), (38, .ptr 1 0), (39, .t (tS Pv.encI e2.Order)), (40, .t (tI i)), (41, .t (tI (w64 (i + 1)))), (42, .t (tI (e2.Order.length : Int))), (43, .t (tI q)), (44, .el (Pv.encI x2)), (45, .t (tI x2))], [(1, .box [.t (tS Pv.encI e2.Order), .t (tI e2.First)])]⟩) ?_ fun A_15 => ?_
                  · refine TieA.all [0] (by kernel_rfl) rfl ?_
                    refine AllA.cons (σ₁ := ⟨[(1, .ptr 1 0), (3, .t (tI (e2.Order.length : Int))), (4, .t (tI sum)), (5, .t (tI i)), (7, .t (tI r2.1)), (8, .t (tI r2.2)), (23, .t (tS Pv.encI e2.Order)), (24, .t (tI (e2.Order.length : Int))), (25, .t (tI i)), (37, .agg [.t (tS Pv.encI e2.Order), .t (tI e2.First)]), (38, .ptr 1 0), (39, .t (tS Pv.encI e2.Order)), (40, .t (tI i)), (41, .t (tI (w64 (i + 1)))), (42, .t (tI (e2.Order.length : Int))), (43, .t (tI q)), (44, .el (Pv.encI x2)), (45, .t (tI x2))], [(1, .box [.t (tS Pv.encI e2.Order), .t (tI e2.First)])]⟩) [true, true, true, true, true, true, true, true, true, false, false, false, false, false, false] rfl rfl ?_ A_5 ?_
                    · refine TieO.run 1 rfl ?_
                      exact TieO.nil (TieS.leaf ⟨rfl, .of rfl rfl⟩)
                    exact AllA.nil
                  refine TieA.have_ (fuel₁ := 8) (l₁ := [false, true, true, true, true, true, true, true, false, false, false, false, false, false, false]) (σ₁ := ⟨[(1, .ptr 1 0), (3, .t (tI (e2.Order.length : Int))), (4, .t (tI sum)), (5, .t (tI i)), (7, .t (tI r2.1)), (8, .t (tI r2.2)), (23, .t (tS Pv.encI e2.Order)), (24, .t (tI (e2.Order.length : Int))), (25, .t (tI i)), (38, .ptr 1 0), (39, .t (tS Pv.encI e2.Order)), (40, .t (tI i)), (41, .t (tI (w64 (i + 1)))), (42, .t (tI (e2.Order.length : Int))), (43, .t (tI q)), (44, .el (Pv.encI x2))], [(1, .box [.t (tS Pv.encI e2.Order), .t (tI e2.First)])]⟩) ?_ fun A_14 => ?_
                  · refine TieA.all [0, 8] (by kernel_rfl) rfl ?_
                    refine AllA.cons (σ₁ := ⟨[(1, .ptr 1 0), (3, .t (tI (e2.Order.length : Int))), (4, .t (tI sum)), (5, .t (tI i)), (7, .t (tI r2.1)), (8, .t (tI r2.2)), (23, .t (tS Pv.encI e2.Order)), (24, .t (tI (e2.Order.length : Int))), (25, .t (tI i)), (37, .agg [.t (tS Pv.encI e2.Order), .t (tI e2.First)]), (38, .ptr 1 0), (39, .t (tS Pv.encI e2.Order)), (40, .t (tI i)), (41, .t (tI (w64 (i + 1)))), (42, .t (tI (e2.Order.length : Int))), (43, .t (tI q)), (44, .el (Pv.encI x2))], [(1, .box [.t (tS Pv.encI e2.Order), .t (tI e2.First)])]⟩) [true, true, true, true, true, true, true, true, false, false, false, false, false, false, false] rfl rfl ?_ A_4 ?_
                    · refine TieO.run 1 rfl ?_
                      exact TieO.nil (TieS.leaf ⟨rfl, .of rfl rfl⟩)
                    refine AllA.cons (σ₁ := ⟨[(1, .ptr 1 0), (3, .t (tI (e2.Order.length : Int))), (4, .t (tI sum)), (5, .t (tI i)), (7, .t (tI r2.1)), (8, .t (tI r2.2)), (23, .t (tS Pv.encI e2.Order)), (24, .t (tI (e2.Order.length : Int))), (25, .t (tI i)), (38, .ptr 1 0), (39, .t (tS Pv.encI e2.Order)), (40, .t (tI i)), (41, .t (tI (w64 (i + 1)))), (42, .t (tI (e2.Order.length : Int))), (43, .t (tI q)), (44, .el (Pv.encI x2)), (45, .t (tI x2))], [(1, .box [.t (tS Pv.encI e2.Order), .t (tI e2.First)])]⟩) [false, true, true, true, true, true, true, true, true, false, false, false, false, false, false] rfl rfl ?_ A_15 ?_
                    · refine TieO.run 1 rfl ?_
                      exact TieO.nil (TieS.leaf ⟨rfl, .of rfl rfl⟩)
                    exact AllA.nil
                  refine TieA.have_ (fuel₁ := 9) (l₁ := [false, true, true, true, true, true, true, false, false, false, false, false, false, false, false]) (σ₁ := ⟨[(1, .ptr 1 0), (3, .t (tI (e2.Order.length : Int))), (4, .t (tI sum)), (5, .t (tI i)), (7, .t (tI r2.1)), (8, .t (tI r2.2)), (23, .t (tS Pv.encI e2.Order)), (24, .t (tI (e2.Order.length : Int))), (25, .t (tI i)), (38, .ptr 1 0), (39, .t (tS Pv.encI e2.Order)), (40, .t (tI i)), (41, .t (tI (w64 (i + 1)))), (42, .t (tI (e2.Order.length : Int))), (43, .t (tI q))], [(1, .box [.t (tS Pv.encI e2.Order), .t (tI e2.First)])]⟩) ?_ fun A_13 => ?_
                  · refine TieA.all [0, 7] (by kernel_rfl) rfl ?_
                    refine AllA.cons (σ₁ := ⟨[(1, .ptr 1 0), (3, .t (tI (e2.Order.length : Int))), (4, .t (tI sum)), (5, .t (tI i)), (7, .t (tI r2.1)), (8, .t (tI r2.2)), (23, .t (tS Pv.encI e2.Order)), (24, .t (tI (e2.Order.length : Int))), (25, .t (tI i)), (37, .agg [.t (tS Pv.encI e2.Order), .t (tI e2.First)]), (38, .ptr 1 0), (39, .t (tS Pv.encI e2.Order)), (40, .t (tI i)), (41, .t (tI (w64 (i + 1)))), (42, .t (tI (e2.Order.length : Int))), (43, .t (tI q))], [(1, .box [.t (tS Pv.encI e2.Order), .t (tI e2.First)])]⟩) [true, true, true, true, true, true, true, false, false, false, false, false, false, false, false] rfl rfl ?_ A_3 ?_
                    · refine TieO.run 1 rfl ?_
                      exact TieO.nil (TieS.leaf ⟨rfl, .of rfl rfl⟩)
                    refine AllA.cons (σ₁ := ⟨[(1, .ptr 1 0), (3, .t (tI (e2.Order.length : Int))), (4, .t (tI sum)), (5, .t (tI i)), (7, .t (tI r2.1)), (8, .t (tI r2.2)), (23, .t (tS Pv.encI e2.Order)), (24, .t (tI (e2.Order.length : Int))), (25, .t (tI i)), (38, .ptr 1 0), (39, .t (tS Pv.encI e2.Order)), (40, .t (tI i)), (41, .t (tI (w64 (i + 1)))), (42, .t (tI (e2.Order.length : Int))), (43, .t (tI q)), (44, .el (Pv.encI x2))], [(1, .box [.t (tS Pv.encI e2.Order), .t (tI e2.First)])]⟩) [false, true, true, true, true, true, true, true, false, false, false, false, false, false, false] rfl rfl ?_ A_14 ?_
                    · refine TieO.indexH hx2 rfl rfl rfl rfl rfl rfl rfl rfl (fun _ => rfl) ?_
                      exact TieO.nil (TieS.leaf ⟨rfl, .of rfl rfl⟩)
                    exact AllA.nil
                  refine TieA.have_ (fuel₁ := 10) (l₁ := [false, true, true, true, true, true, false, false, false, false, false, false, false, false, false]) (σ₁ := ⟨[(1, .ptr 1 0), (3, .t (tI (e2.Order.length : Int))), (4, .t (tI sum)), (5, .t (tI i)), (7, .t (tI r2.1)), (8, .t (tI r2.2)), (23, .t (tS Pv.encI e2.Order)), (24, .t (tI (e2.Order.length : Int))), (25, .t (tI i)), (38, .ptr 1 0), (39, .t (tS Pv.encI e2.Order)), (40, .t (tI i)), (41, .t (tI (w64 (i + 1)))), (42, .t (tI (e2.Order.length : Int)))], [(1, .box [.t (tS Pv.encI e2.Order), .t (tI e2.First)])]⟩) ?_ fun A_12 => ?_
                  · refine TieA.all [0, 6] (by kernel_rfl) rfl ?_
                    refine AllA.cons (σ₁ := ⟨[(1, .ptr 1 0), (3, .t (tI (e2.Order.length : Int))), (4, .t (tI sum)), (5, .t (tI i)), (7, .t (tI r2.1)), (8, .t (tI r2.2)), (23, .t (tS Pv.encI e2.Order)), (24, .t (tI (e2.Order.length : Int))), (25, .t (tI i)), (37, .agg [.t (tS Pv.encI e2.Order), .t (tI e2.First)]), (38, .ptr 1 0), (39, .t (tS Pv.encI e2.Order)), (40, .t (tI i)), (41, .t (tI (w64 (i + 1)))), (42, .t (tI (e2.Order.length : Int)))], [(1, .box [.t (tS Pv.encI e2.Order), .t (tI e2.First)])]⟩) [true, true, true, true, true, true, false, false, false, false, false, false, false, false, false] rfl rfl ?_ A_2 ?_
                    · refine TieO.run 1 rfl ?_
                      exact TieO.nil (TieS.leaf ⟨rfl, .of rfl rfl⟩)
                    refine AllA.cons (σ₁ := ⟨[(1, .ptr 1 0), (3, .t (tI (e2.Order.length : Int))), (4, .t (tI sum)), (5, .t (tI i)), (7, .t (tI r2.1)), (8, .t (tI r2.2)), (23, .t (tS Pv.encI e2.Order)), (24, .t (tI (e2.Order.length : Int))), (25, .t (tI i)), (38, .ptr 1 0), (39, .t (tS Pv.encI e2.Order)), (40, .t (tI i)), (41, .t (tI (w64 (i + 1)))), (42, .t (tI (e2.Order.length : Int))), (43, .t (tI q))], [(1, .box [.t (tS Pv.encI e2.Order), .t (tI e2.First)])]⟩) [false, true, true, true, true, true, true, false, false, false, false, false, false, false, false] rfl rfl ?_ A_13 ?_
                    · refine TieO.withH hq (TieO.rem rfl rfl rfl rfl rfl rfl (TieO.ifH ?_))
                      exact TieO.nil (TieS.leaf ⟨rfl, .of rfl rfl⟩)
                    exact AllA.nil
                  refine TieA.have_ (fuel₁ := 10) (l₁ := [false, true, false, true, true, true, true, false, false, false, false, false, false, false, false]) (σ₁ := ⟨[(1, .ptr 1 0), (3, .t (tI (e2.Order.length : Int))), (4, .t (tI sum)), (5, .t (tI i)), (7, .t (tI r2.1)), (8, .t (tI r2.2)), (23, .t (tS Pv.encI e2.Order)), (24, .t (tI (e2.Order.length : Int))), (25, .t (tI i)), (38, .ptr 1 0), (40, .t (tI i)), (41, .t (tI (w64 (i + 1)))), (42, .t (tI (e2.Order.length : Int))), (43, .t (tI q))], [(1, .box [.t (tS Pv.encI e2.Order), .t (tI e2.First)])]⟩) ?_ fun A_16 => ?_
                  · refine TieA.all [0, 2] (by kernel_rfl) rfl ?_
                    refine AllA.cons (σ₁ := ⟨[(1, .ptr 1 0), (3, .t (tI (e2.Order.length : Int))), (4, .t (tI sum)), (5, .t (tI i)), (7, .t (tI r2.1)), (8, .t (tI r2.2)), (23, .t (tS Pv.encI e2.Order)), (24, .t (tI (e2.Order.length : Int))), (25, .t (tI i)), (37, .agg [.t (tS Pv.encI e2.Order), .t (tI e2.First)]), (38, .ptr 1 0), (40, .t (tI i)), (41, .t (tI (w64 (i + 1)))), (42, .t (tI (e2.Order.length : Int))), (43, .t (tI q))], [(1, .box [.t (tS Pv.encI e2.Order), .t (tI e2.First)])]⟩) [true, true, false, true, true, true, true, false, false, false, false, false, false, false, false] rfl rfl ?_ A_11 ?_
                    · refine TieO.run 1 rfl ?_
                      exact TieO.nil (TieS.leaf ⟨rfl, .of rfl rfl⟩)
                    refine AllA.cons (σ₁ := ⟨[(1, .ptr 1 0), (3, .t (tI (e2.Order.length : Int))), (4, .t (tI sum)), (5, .t (tI i)), (7, .t (tI r2.1)), (8, .t (tI r2.2)), (23, .t (tS Pv.encI e2.Order)), (24, .t (tI (e2.Order.length : Int))), (25, .t (tI i)), (38, .ptr 1 0), (39, .t (tS Pv.encI e2.Order)), (40, .t (tI i)), (41, .t (tI (w64 (i + 1)))), (42, .t (tI (e2.Order.length : Int))), (43, .t (tI q))], [(1, .box [.t (tS Pv.encI e2.Order), .t (tI e2.First)])]⟩) [false, true, true, true, true, true, true, false, false, false, false, false, false, false, false] rfl rfl ?_ A_13 ?_
                    · refine TieO.run 1 rfl ?_
                      exact TieO.nil (TieS.leaf ⟨rfl, .of rfl rfl⟩)
                    exact AllA.nil
                  refine TieA.fieldP 1 [false, true, false, false, false, false, false, false, false, false, false, false, false, false, false] rfl rfl rfl rfl rfl rfl (by kernel_rfl) (by kernel_rfl) (by kernel_rfl) rfl rfl rfl ?_
                  refine TieA.move 3 [false, true, false, true, false, false, false, false, false, false, false, false, false, false, false] rfl rfl (by first | exact .inl rfl | exact .inr rfl) rfl rfl rfl (by kernel_rfl) (by kernel_rfl) (by kernel_rfl) rfl ?_
                  refine TieA.bin (V := .t (tI (w64 (i + 1)))) 4 [false, true, false, true, true, false, false, false, false, false, false, false, false, false, false] rfl rfl rfl rfl rfl rfl (by kernel_rfl) (by kernel_rfl) (by kernel_rfl) rfl rfl rfl rfl ?_
                  refine TieA.move 5 [false, true, false, true, true, true, false, false, false, false, false, false, false, false, false] rfl rfl (by first | exact .inl rfl | exact .inr rfl) rfl rfl rfl (by kernel_rfl) (by kernel_rfl) (by kernel_rfl) rfl ?_
                  refine TieA.all [0, 2, 6] (by kernel_rfl) rfl ?_
                  refine AllA.cons (σ₁ := ⟨[(1, .ptr 1 0), (3, .t (tI (e2.Order.length : Int))), (4, .t (tI sum)), (5, .t (tI i)), (7, .t (tI r2.1)), (8, .t (tI r2.2)), (23, .t (tS Pv.encI e2.Order)), (24, .t (tI (e2.Order.length : Int))), (25, .t (tI i)), (37, .agg [.t (tS Pv.encI e2.Order), .t (tI e2.First)]), (38, .ptr 1 0), (40, .t (tI i)), (41, .t (tI (w64 (i + 1)))), (42, .t (tI (e2.Order.length : Int)))], [(1, .box [.t (tS Pv.encI e2.Order), .t (tI e2.First)])]⟩) [true, true, false, true, true, true, false, false, false, false, false, false, false, false, false] rfl rfl ?_ A_1 ?_
                  · refine TieO.run 1 rfl ?_
                    exact TieO.nil (TieS.leaf ⟨rfl, .of rfl rfl⟩)
                  refine AllA.cons (σ₁ := ⟨[(1, .ptr 1 0), (3, .t (tI (e2.Order.length : Int))), (4, .t (tI sum)), (5, .t (tI i)), (7, .t (tI r2.1)), (8, .t (tI r2.2)), (23, .t (tS Pv.encI e2.Order)), (24, .t (tI (e2.Order.length : Int))), (25, .t (tI i)), (38, .ptr 1 0), (39, .t (tS Pv.encI e2.Order)), (40, .t (tI i)), (41, .t (tI (w64 (i + 1)))), (42, .t (tI (e2.Order.length : Int)))], [(1, .box [.t (tS Pv.encI e2.Order), .t (tI e2.First)])]⟩) [false, true, true, true, true, true, false, false, false, false, false, false, false, false, false] rfl rfl ?_ A_12 ?_
                  · refine TieO.run 1 rfl ?_
                    exact TieO.nil (TieS.leaf ⟨rfl, .of rfl rfl⟩)
                  refine AllA.cons (σ₁ := ⟨[(1, .ptr 1 0), (3, .t (tI (e2.Order.length : Int))), (4, .t (tI sum)), (5, .t (tI i)), (7, .t (tI r2.1)), (8, .t (tI r2.2)), (23, .t (tS Pv.encI e2.Order)), (24, .t (tI (e2.Order.length : Int))), (25, .t (tI i)), (38, .ptr 1 0), (40, .t (tI i)), (41, .t (tI (w64 (i + 1)))), (42, .t (tI (e2.Order.length : Int))), (43, .t (tI q))], [(1, .box [.t (tS Pv.encI e2.Order), .t (tI e2.First)])]⟩) [false, true, false, true, true, true, true, false, false, false, false, false, false, false, false] rfl rfl ?_ A_16 ?_
                  · refine TieO.withH hq (TieO.rem rfl rfl rfl rfl rfl rfl (TieO.ifH ?_))
                    exact TieO.nil (TieS.leaf ⟨rfl, .of rfl rfl⟩)
                  exact AllA.nil
                refine TieO.run 1 rfl ?_
                refine TieO.nil ?_
                exact TieS.leaf ⟨rfl, .of rfl rfl⟩
              rintro s e σ' _ ⟨rfl, hs⟩
              refine TieX.sub hs ?_
              refine TieS.seq ?_
              refine TieS.region ?_
              refine TieO.run 2 rfl ?_
              refine TieO.call _ rfl rfl rfl (tie_events_Distance r2.1 s.1) (fun _ => rfl) fun v3 => ?_
              refine TieO.run 1 rfl ?_
              refine TieO.nil ?_
              refine TieS.seq ?_
              refine TieS.seq ?_
              refine TieS.region ?_
              refine TieO.run 2 rfl ?_
              refine TieO.nil ?_
              refine TieS.bind (Q₁ := fun t e σ' => e = .normal ∧ Sub ⟨[(1, .ptr 1 0), (3, .t (tI (e2.Order.length : Int))), (4, .t (tI sum)), (8, .t (tI r2.2)), (10, .t (tI s.2)), (11, .t (tI t)), (23, .t (tS Pv.encI e2.Order)), (24, .t (tI (e2.Order.length : Int))), (25, .t (tI i))], [(1, .box [.t (tS Pv.encI e2.Order), .t (tI e2.First)])]⟩ σ') ?_ ?_
              · refine TieS.cond rfl ?_ ?_
                · refine TieS.region ?_
                  refine TieO.run 1 rfl ?_
                  refine TieO.nil ?_
                  exact TieS.leaf ⟨rfl, .of rfl rfl⟩
                · refine TieS.skip ?_
                  exact TieS.leaf ⟨rfl, .of rfl rfl⟩
              rintro d e σ' _ ⟨rfl, hs⟩
              refine TieX.sub hs ?_
              refine TieS.seq ?_
              refine TieS.seq ?_
              refine TieS.region ?_
              refine TieO.run 3 rfl ?_
              refine TieO.selOr (v := (s.2 != 0)) 3 56 (fun b => ⟨[(1, .ptr 1 0), (3, .t (tI (e2.Order.length : Int))), (4, .t (tI sum)), (11, .t (tI d)), (23, .t (tS Pv.encI e2.Order)), (24, .t (tI (e2.Order.length : Int))), (25, .t (tI i)), (59, .t (tB b))], [(1, .box [.t (tS Pv.encI e2.Order), .t (tI e2.First)])]⟩) rfl ?_ ?_ ?_
              · refine TieO.run 3 rfl ?_
                refine TieO.nil ?_
                exact TieS.leaf ⟨rfl, .of rfl rfl⟩
              · refine TieO.run 3 rfl ?_
                refine TieO.nil ?_
                exact TieS.leaf ⟨rfl, .of rfl rfl⟩
              refine TieO.run 1 rfl ?_
              refine TieO.bind 5 (fun b2 => ⟨[(1, .ptr 1 0), (3, .t (tI (e2.Order.length : Int))), (4, .t (tI sum)), (11, .t (tI d)), (23, .t (tS Pv.encI e2.Order)), (24, .t (tI (e2.Order.length : Int))), (25, .t (tI i)), (65, .t (tB b2))], [(1, .box [.t (tS Pv.encI e2.Order), .t (tI e2.First)])]⟩) (TieO.split 60 rfl ?_ ?_) fun b2 _ => ?_
              · refine TieO.run 5 rfl ?_
                refine TieO.nil ?_
                exact TieS.leaf ⟨rfl, .of rfl rfl⟩
              · refine TieO.run 2 rfl ?_
                refine TieO.quo rfl rfl rfl rfl rfl rfl fun q2 => ?_
                refine TieO.run 2 rfl ?_
                refine TieO.nil ?_
                exact TieS.leaf ⟨rfl, .of rfl rfl⟩
              refine TieO.run 1 rfl ?_
              refine TieO.bind 6 (fun b3 => ⟨[(1, .ptr 1 0), (3, .t (tI (e2.Order.length : Int))), (4, .t (tI sum)), (11, .t (tI d)), (23, .t (tS Pv.encI e2.Order)), (24, .t (tI (e2.Order.length : Int))), (25, .t (tI i)), (72, .t (tB b3))], [(1, .box [.t (tS Pv.encI e2.Order), .t (tI e2.First)])]⟩) (TieO.split 66 rfl ?_ ?_) fun b3 _ => ?_
              · refine TieO.run 6 rfl ?_
                refine TieO.nil ?_
                exact TieS.leaf ⟨rfl, .of rfl rfl⟩
              · refine TieO.run 2 rfl ?_
                refine TieO.quo rfl rfl rfl rfl rfl rfl fun q3 => ?_
                refine TieO.run 3 rfl ?_
                refine TieO.nil ?_
                exact TieS.leaf ⟨rfl, .of rfl rfl⟩
              refine TieO.nil ?_
              refine TieS.cond rfl ?_ ?_
              · refine TieS.seq ?_
                refine TieS.region ?_
                refine TieO.run 1 rfl ?_
                refine TieO.nil ?_
                exact TieS.ret ⟨rfl, rfl⟩
              · refine TieS.skip ?_
                refine TieS.region ?_
                refine TieO.run 4 rfl ?_
                refine TieO.nil ?_
                refine TieS.endb ?_
                exact TieS.leaf ⟨rfl, .of rfl rfl⟩
            rintro (t | t | t) e σ' _ hq
            · obtain ⟨rfl, hs⟩ := hq
              refine TieX.sub hs ?_
              refine TieS.region ?_
              refine TieO.run 2 rfl ?_
              refine TieO.nil ?_
              exact TieS.leaf ⟨rfl, .of rfl rfl⟩
            · obtain ⟨rfl, hs⟩ := hq
              exact TieX.exitOut rfl ⟨(fun h => by cases h), rfl, hs⟩
            · obtain ⟨rfl, hs⟩ := hq
              exact TieX.ret ⟨(fun h => by cases h), rfl, hs⟩
          · exact TieS.exitOut rfl ⟨(fun h => by cases h), rfl, .of rfl rfl⟩
        rintro (sum2 | r4) e σ' _ hq
        · obtain ⟨rfl, hs⟩ := hq
          refine TieX.exit rfl (TieX.sub hs ?_)
          refine TieS.seq ?_
          refine TieS.region ?_
          refine TieO.run 3 rfl ?_
          refine TieO.nil ?_
          exact TieS.ret ⟨.inl rfl, rfl⟩
        · obtain ⟨rfl, hs⟩ := hq
          exact TieX.ret ⟨.inl rfl, hs⟩
-- slices.IsSortedFunc[[]magneto/api.Event,magneto/api.Event]
set_option maxRecDepth 100000 in
theorem tie_slices_IsSortedFunc_sEvent (x : List SEvent) (n2 : Nat) (cs : List (List Tree)) (cmp : SEvent → SEvent → Option Int) (h2 : ∀ x0 x1, TieF Try.prog n2 ([A_SEvent x0, A_SEvent x1] ++ cs.map T.el) (cmp x0 x1) (fun r => .t (tI r))) : TieF Try.prog 26 [.t (tS enc_SEvent x), .fz n2 cs] (slices_IsSortedFunc_sEvent x cmp) (fun r => .t (tB r)) := by
  refine TieF.intro htab 25 [.tmp 4] Try.call26 Try.func26 rfl rfl rfl (Nat.le_of_ble_eq_true rfl) fun w0 L => ?_
  refine TieS.seq ?_
  refine TieS.region ?_
  refine TieO.run 1 rfl ?_
  refine TieO.nil ?_
  refine TieS.seq ?_
  refine TieS.seq ?_
  refine TieS.region ?_
  refine TieO.run 4 rfl ?_
  refine TieO.nil ?_
  refine TieS.block ?_
  refine TieS.loop (fun t => ⟨[(0, .t (tS enc_SEvent x)), (1, .fz n2 cs), (5, .t (tI t))], []⟩) (fun b e σ' => match b with | .inl t => e = .exit 0 ∧ Sub ⟨[], []⟩ σ' | .inr t => e = .ret ∧ retT tab σ' [.tmp 4] = some (((fun r => .t (tB r)) : Bool → T) t)) (.of rfl rfl) ?_ ?_
  · intro i
    refine TieS.seq ?_
    refine TieS.seq ?_
    refine TieS.region ?_
    refine TieO.run 2 rfl ?_
    refine TieO.nil ?_
    refine TieS.cond rfl ?_ ?_
    · refine TieS.skip ?_
      refine TieS.seq ?_
      refine TieS.block ?_
      refine TieS.seq ?_
      refine TieX.pre fun x2 hx2 => ?_
      refine TieX.pre fun x3 hx3 => ?_
      refine TieX.pre fun v hv => ?_
      refine TieS.draw 12 [.fz n2 cs, .t (tS enc_SEvent x), .t (tI i), .el (enc_SEvent x2), .agg [.t (tI x2.Angle), .t (tI x2.Kind), .t (tI x2.Cylinder), .t (tI x2.Pulse)], .t (tS enc_SEvent x), .t (tI i), .t (tI (w64 (i - 1))), .el (enc_SEvent x3), .agg [.t (tI x3.Angle), .t (tI x3.Kind), .t (tI x3.Cylinder), .t (tI x3.Pulse)], .t (tI v), .t (tB (decide (v < 0)))] [(0, .t (tS enc_SEvent x)), (1, .fz n2 cs), (5, .t (tI i))] [] mixed (.of rfl rfl) rfl rfl rfl rfl (.cons (.quiet rfl rfl rfl) (.cons (.quiet rfl rfl rfl) (.cons (.quiet rfl rfl rfl) (.cons (.index hx2 rfl rfl rfl rfl rfl rfl (fun _ => rfl)) (.cons (.quiet rfl rfl rfl) (.cons (.quiet rfl rfl rfl) (.cons (.quiet rfl rfl rfl) (.cons (.quiet rfl rfl rfl) (.cons (.index hx3 rfl rfl rfl rfl rfl rfl (fun _ => rfl)) (.cons (.quiet rfl rfl rfl) (.cons (.callV (h2 x2 x3) hv rfl rfl rfl rfl) (.cons (.quiet rfl rfl rfl) (.nil))))))))))))) ?_
      refine TieO.nil ?_
      refine TieS.cond rfl ?_ ?_
      · refine TieS.seq ?_
        refine TieS.region ?_
        refine TieO.run 1 rfl ?_
        refine TieO.nil ?_
        exact TieS.ret ⟨(fun h => by cases h), rfl, rfl⟩
      · refine TieS.skip ?_
        refine TieS.endb ?_
        refine TieS.region ?_
        refine TieO.run 3 rfl ?_
        refine TieO.nil ?_
        exact TieS.leaf ⟨rfl, .of rfl rfl⟩
    · exact TieS.exitOut rfl ⟨(fun h => by cases h), rfl, .of rfl rfl⟩
  rintro (i2 | r2) e σ' _ hq
  · obtain ⟨rfl, hs⟩ := hq
    refine TieX.exit rfl (TieX.sub hs ?_)
    refine TieS.seq ?_
    refine TieS.region ?_
    refine TieO.run 1 rfl ?_
    refine TieO.nil ?_
    exact TieS.ret ⟨.inl rfl, rfl⟩
  · obtain ⟨rfl, hs⟩ := hq
    exact TieX.ret ⟨.inl rfl, hs⟩
-- magneto/magnetolaw23.EventsPairs$1
set_option maxRecDepth 100000 in
theorem tie_magnetolaw23_EventsPairs_1 (a : SEvent) (b2 : SEvent) : TieF Try.prog 27 [A_SEvent a, A_SEvent b2] (magnetolaw23_EventsPairs_1 a b2) (fun r => .t (tI r)) := by
  refine TieF.intro htab 10 [.tmp 4] Try.call27 Try.func27 rfl rfl rfl (Nat.le_of_ble_eq_true rfl) fun w0 L => ?_
  refine TieS.seq ?_
  refine TieS.region ?_
  refine TieO.run 3 rfl ?_
  refine TieO.nil ?_
  refine TieS.seq ?_
  refine TieS.region ?_
  refine TieO.run 6 rfl ?_
  refine TieO.nil ?_
  exact TieS.ret ⟨.inl rfl, rfl⟩
-- magneto/magnetolaw23.EventsPairs$2
set_option maxRecDepth 100000 in
theorem tie_magnetolaw23_EventsPairs_2 (kind : Int) (cylinder : Int) (pulse : Int) (c : List SEvent) : TieF Try.prog 28 [.t (tI kind), .t (tI cylinder), .t (tI pulse), .el ((Pv.encS enc_SEvent) c)] (magnetolaw23_EventsPairs_2 kind cylinder pulse c) (fun r => .tup [.t (tI r.1), .t (tB r.2)]) := by
  refine TieF.intro htab 43 [.tmp 7, .tmp 8] Try.call28 Try.func28 rfl rfl rfl (Nat.le_of_ble_eq_true rfl) fun w0 L => ?_
  refine TieS.seq ?_
  refine TieS.region ?_
  refine TieO.run 2 rfl ?_
  refine TieO.nil ?_
  refine TieS.seq ?_
  refine TieS.region ?_
  refine TieO.run 2 rfl ?_
  refine TieO.nil ?_
  refine TieS.seq ?_
  refine TieS.seq ?_
  refine TieS.region ?_
  refine TieO.run 3 rfl ?_
  refine TieO.nil ?_
  refine TieS.block ?_
  refine TieS.loop (fun p => ⟨[(0, .t (tI kind)), (1, .t (tI cylinder)), (2, .t (tI pulse)), (9, .t (tI p.2.1)), (10, .t (tI p.2.2)), (13, .t (tS enc_SEvent c)), (14, .t (tI (c.length : Int))), (15, .t (tI p.1))], []⟩) (fun b e σ' => match b with | .inl t => e = .exit 0 ∧ Sub ⟨[(9, .t (tI t.1)), (10, .t (tI t.2))], []⟩ σ' | .inr t => False) (.of rfl rfl) ?_ ?_
  · rintro ⟨i, s⟩
    refine TieS.seq ?_
    refine TieS.region ?_
    refine TieO.run 1 rfl ?_
    refine TieO.nil ?_
    refine TieS.seq ?_
    refine TieS.cond rfl ?_ ?_
    · refine TieS.skip ?_
      refine TieS.seq ?_
      refine TieX.pre fun x hx => ?_
      refine TieX.sub (σ' := ⟨[(0, .t (tI kind)), (1, .t (tI cylinder)), (2, .t (tI pulse)), (9, .t (tI s.1)), (10, .t (tI s.2)), (13, .t (tS enc_SEvent c)), (14, .t (tI (c.length : Int))), (15, .t (tI i))], []⟩) (.of rfl rfl) ?_
      refine TieS.bind (Q₁ := fun f e σ' => match f with | .next t => e = .normal ∧ Sub ⟨[(0, .t (tI kind)), (1, .t (tI cylinder)), (2, .t (tI pulse)), (9, .t (tI t.1)), (10, .t (tI t.2)), (13, .t (tS enc_SEvent c)), (14, .t (tI (c.length : Int))), (15, .t (tI i))], []⟩ σ' | .brk t => e = .exit 0 ∧ Sub ⟨[(9, .t (tI t.1)), (10, .t (tI t.2))], []⟩ σ' | .ret r => False) ?_ ?_
      · refine TieS.block ?_
        refine TieS.seq ?_
        refine TieS.region ?_
        refine TieO.indexH hx rfl rfl rfl rfl rfl rfl rfl rfl (fun _ => rfl) ?_
        refine TieO.run 3 rfl ?_
        refine TieO.nil ?_
        refine TieS.seq ?_
        refine TieS.region ?_
        refine TieO.run 5 rfl ?_
        refine TieO.selAnd (v := (x.Cylinder == cylinder)) 5 23 (fun b => ⟨[(0, .t (tI kind)), (1, .t (tI cylinder)), (2, .t (tI pulse)), (9, .t (tI s.1)), (10, .t (tI s.2)), (12, .ptr 12 0), (13, .t (tS enc_SEvent c)), (14, .t (tI (c.length : Int))), (15, .t (tI i)), (28, .t (tB b))], [(12, .box [.t (tI x.Angle), .t (tI x.Kind), .t (tI x.Cylinder), .t (tI x.Pulse)])]⟩) rfl ?_ ?_ ?_
        · refine TieO.run 5 rfl ?_
          refine TieO.nil ?_
          exact TieS.leaf ⟨rfl, .of rfl rfl⟩
        · refine TieO.run 5 rfl ?_
          refine TieO.nil ?_
          exact TieS.leaf ⟨rfl, .of rfl rfl⟩
        refine TieO.run 1 rfl ?_
        refine TieO.selAnd (v := (x.Pulse == pulse)) 5 29 (fun b => ⟨[(0, .t (tI kind)), (1, .t (tI cylinder)), (2, .t (tI pulse)), (9, .t (tI s.1)), (10, .t (tI s.2)), (12, .ptr 12 0), (13, .t (tS enc_SEvent c)), (14, .t (tI (c.length : Int))), (15, .t (tI i)), (34, .t (tB b))], [(12, .box [.t (tI x.Angle), .t (tI x.Kind), .t (tI x.Cylinder), .t (tI x.Pulse)])]⟩) rfl ?_ ?_ ?_
        · refine TieO.run 5 rfl ?_
          refine TieO.nil ?_
          exact TieS.leaf ⟨rfl, .of rfl rfl⟩
        · refine TieO.run 5 rfl ?_
          refine TieO.nil ?_
          exact TieS.leaf ⟨rfl, .of rfl rfl⟩
        refine TieO.nil ?_
        refine TieS.cond rfl ?_ ?_
        · refine TieS.region ?_
          refine TieO.run 6 rfl ?_
          refine TieO.nil ?_
          refine TieS.endb ?_
          exact TieS.leaf ⟨rfl, .of rfl rfl⟩
        · refine TieS.skip ?_
          refine TieS.endb ?_
          exact TieS.leaf ⟨rfl, .of rfl rfl⟩
      rintro (t | t | r) e σ' _ hq
      · obtain ⟨rfl, hs⟩ := hq
        refine TieX.sub hs ?_
        refine TieS.region ?_
        refine TieO.run 2 rfl ?_
        refine TieO.nil ?_
        exact TieS.leaf ⟨rfl, .of rfl rfl⟩
      · obtain ⟨rfl, hs⟩ := hq
        exact TieX.exitOut rfl ⟨(fun h => by cases h), rfl, hs⟩
      · exact hq.elim
    · exact TieS.exitOut rfl ⟨(fun h => by cases h), rfl, .of rfl rfl⟩
  rintro (s2 | r) e σ' _ hq
  · obtain ⟨rfl, hs⟩ := hq
    refine TieX.exit rfl (TieX.sub hs ?_)
    refine TieS.seq ?_
    refine TieS.region ?_
    refine TieO.run 5 rfl ?_
    refine TieO.nil ?_
    exact TieS.ret ⟨.inl rfl, rfl⟩
  · exact hq.elim
-- magneto/magnetolaw23.EventsPairs
set_option maxRecDepth 100000 in
set_option maxHeartbeats 4000000 in
theorem tie_magnetolaw23_EventsPairs (e2 : SEngine) (l : List SFire) (ticks : Int) : TieF Try.prog 8 [A_SEngine e2, .t (tS enc_SFire l), .t (tI ticks)] (magnetolaw23_EventsPairs e2 l ticks) (fun r => .t (tB r)) := by
  refine TieF.intro htab 202 [.tmp 6] Try.call8 Try.func8 rfl rfl rfl (Nat.le_of_ble_eq_true rfl) fun w0 L => ?_
  refine TieS.seq ?_
  refine TieS.region ?_
  refine TieO.run 2 rfl ?_
  refine TieO.nil ?_
  refine TieS.seq ?_
  refine TieS.seq ?_
  refine TieS.region ?_
  refine TieO.call _ rfl rfl rfl (tie_magnetolaw23_awake) (fun _ => rfl) fun v => ?_
  refine TieO.run 1 rfl ?_
  refine TieO.nil ?_
  refine TieS.cond rfl ?_ ?_
  · refine TieS.seq ?_
    refine TieS.region ?_
    refine TieO.run 1 rfl ?_
    refine TieO.nil ?_
    exact TieS.ret ⟨.inl rfl, rfl⟩
  · refine TieS.skip ?_
    refine TieS.seq ?_
    refine TieS.seq ?_
    refine TieS.region ?_
    refine TieO.run 3 rfl ?_
    refine TieO.nil ?_
    refine TieS.cond rfl ?_ ?_
    · refine TieS.seq ?_
      refine TieS.region ?_
      refine TieO.run 1 rfl ?_
      refine TieO.nil ?_
      exact TieS.ret ⟨.inl rfl, rfl⟩
    · refine TieS.skip ?_
      refine TieS.seq ?_
      refine TieS.region ?_
      refine TieO.run 3 rfl ?_
      refine TieO.call _ rfl rfl rfl (tie_events_Plan e2 l ticks) (fun _ => rfl) fun r2 => ?_
      refine TieO.run 6 rfl ?_
      refine TieO.nil ?_
      refine TieS.seq ?_
      refine TieS.seq ?_
      refine TieS.region ?_
      refine TieO.run 2 rfl ?_
      refine TieO.nil ?_
      refine TieS.cond rfl ?_ ?_
      · refine TieS.seq ?_
        refine TieS.region ?_
        refine TieO.run 4 rfl ?_
        refine TieO.nil ?_
        exact TieS.ret ⟨.inl rfl, rfl⟩
      · refine TieS.skip ?_
        refine TieS.seq ?_
        refine TieS.seq ?_
        refine TieS.region ?_
        refine TieO.run 3 rfl ?_
        refine TieO.selOr (v := decide (ticks > 1000000)) 3 44 (fun b => ⟨[(1, .t (tS enc_SFire l)), (2, .t (tI ticks)), (3, .ptr 3 0), (7, .ptr 7 0), (47, .t (tB b))], [(3, .box [.t (tS Pv.encI e2.Order), .t (tI e2.First)]), (7, .box [.t (tS enc_SEvent r2.1)])]⟩) rfl ?_ ?_ ?_
        · refine TieO.run 3 rfl ?_
          refine TieO.nil ?_
          exact TieS.leaf ⟨rfl, .of rfl rfl⟩
        · refine TieO.run 3 rfl ?_
          refine TieO.nil ?_
          exact TieS.leaf ⟨rfl, .of rfl rfl⟩
        refine TieO.run 1 rfl ?_
        refine TieO.bind 4 (fun b2 => ⟨[(1, .t (tS enc_SFire l)), (2, .t (tI ticks)), (3, .ptr 3 0), (7, .ptr 7 0), (52, .t (tB b2))], [(3, .box [.t (tS Pv.encI e2.Order), .t (tI e2.First)]), (7, .box [.t (tS enc_SEvent r2.1)])]⟩) (TieO.split 48 rfl ?_ ?_) fun b2 _ => ?_
        · refine TieO.run 4 rfl ?_
          refine TieO.nil ?_
          exact TieS.leaf ⟨rfl, .of rfl rfl⟩
        · refine TieO.run 1 rfl ?_
          refine TieO.call _ rfl rfl rfl (tie_slices_IsSortedFunc_sEvent r2.1 27 [] magnetolaw23_EventsPairs_1 tie_magnetolaw23_EventsPairs_1) (fun _ => rfl) fun v2 => ?_
          refine TieO.run 2 rfl ?_
          refine TieO.nil ?_
          exact TieS.leaf ⟨rfl, .of rfl rfl⟩
        refine TieO.nil ?_
        refine TieS.cond rfl ?_ ?_
        · refine TieS.seq ?_
          refine TieS.region ?_
          refine TieO.run 1 rfl ?_
          refine TieO.nil ?_
          exact TieS.ret ⟨.inl rfl, rfl⟩
        · refine TieS.skip ?_
          refine TieS.seq ?_
          refine TieS.region ?_
          refine TieO.frzBox 7 rfl rfl ?_
          refine TieO.run 1 rfl ?_
          refine TieO.sub (σ' := ⟨[(1, .t (tS enc_SFire l)), (2, .t (tI ticks)), (3, .ptr 3 0), (7, .el ((Pv.encS enc_SEvent) r2.1)), (52, .t (tB b2)), (53, .fz 28 [(Pv.encS enc_SEvent) r2.1])], [(3, .box [.t (tS Pv.encI e2.Order), .t (tI e2.First)])]⟩) (.of rfl rfl) ?_
          refine TieO.run 1 rfl ?_
          refine TieO.nil ?_
          refine TieS.seq ?_
          refine TieS.region ?_
          refine TieO.run 1 rfl ?_
          refine TieO.nil ?_
          refine TieS.seq ?_
          refine TieS.seq ?_
          refine TieS.region ?_
          refine TieO.run 3 rfl ?_
          refine TieO.nil ?_
          refine TieS.block ?_
          refine TieS.loop (fun p => ⟨[(2, .t (tI ticks)), (3, .ptr 3 0), (7, .el ((Pv.encS enc_SEvent) r2.1)), (9, .fz 28 [(Pv.encS enc_SEvent) r2.1]), (10, .t (tI p.2)), (54, .t (tS enc_SFire l)), (55, .t (tI (l.length : Int))), (56, .t (tI p.1))], [(3, .box [.t (tS Pv.encI e2.Order), .t (tI e2.First)])]⟩) (fun b e σ' => match b with | .inl t => e = .exit 0 ∧ Sub ⟨[(7, .el ((Pv.encS enc_SEvent) r2.1)), (10, .t (tI t))], []⟩ σ' | .inr t => e = .ret ∧ retT tab σ' [.tmp 6] = some (((fun r => .t (tB r)) : Bool → T) t)) (.of rfl rfl) ?_ ?_
          · rintro ⟨i, many⟩
            refine TieS.seq ?_
            refine TieS.region ?_
            refine TieO.run 1 rfl ?_
            refine TieO.nil ?_
            refine TieS.seq ?_
            refine TieS.cond rfl ?_ ?_
            · refine TieS.skip ?_
              refine TieS.seq ?_
              refine TieX.pre fun x hx => ?_
              refine TieX.sub (σ' := ⟨[(2, .t (tI ticks)), (3, .ptr 3 0), (7, .el ((Pv.encS enc_SEvent) r2.1)), (9, .fz 28 [(Pv.encS enc_SEvent) r2.1]), (10, .t (tI many)), (54, .t (tS enc_SFire l)), (55, .t (tI (l.length : Int))), (56, .t (tI i))], [(3, .box [.t (tS Pv.encI e2.Order), .t (tI e2.First)])]⟩) (.of rfl rfl) ?_
              refine TieS.bind (Q₁ := fun f e σ' => match f with | .next t => e = .normal ∧ Sub ⟨[(2, .t (tI ticks)), (3, .ptr 3 0), (7, .el ((Pv.encS enc_SEvent) r2.1)), (9, .fz 28 [(Pv.encS enc_SEvent) r2.1]), (10, .t (tI t)), (54, .t (tS enc_SFire l)), (55, .t (tI (l.length : Int))), (56, .t (tI i))], [(3, .box [.t (tS Pv.encI e2.Order), .t (tI e2.First)])]⟩ σ' | .brk t => e = .exit 0 ∧ Sub ⟨[(7, .el ((Pv.encS enc_SEvent) r2.1)), (10, .t (tI t))], []⟩ σ' | .ret t => e = .ret ∧ retT tab σ' [.tmp 6] = some (((fun r => .t (tB r)) : Bool → T) t)) ?_ ?_
              · refine TieS.block ?_
                refine TieS.seq ?_
                refine TieS.region ?_
                refine TieO.indexH hx rfl rfl rfl rfl rfl rfl rfl rfl (fun _ => rfl) ?_
                refine TieO.run 3 rfl ?_
                refine TieO.nil ?_
                refine TieS.seq ?_
                refine TieS.region ?_
                refine TieO.run 3 rfl ?_
                refine TieO.call _ rfl rfl rfl (tie_events_Center e2 x.Cylinder) (fun _ => rfl) fun r3 => ?_
                refine TieO.run 5 rfl ?_
                refine TieO.nil ?_
                refine TieS.seq ?_
                refine TieS.region ?_
                refine TieO.run 3 rfl ?_
                refine TieO.call _ rfl rfl rfl (tie_magnetolaw23_EventsPairs_2 1 x.Cylinder 0 r2.1) (fun _ => rfl) fun r4 => ?_
                refine TieO.run 5 rfl ?_
                refine TieO.nil ?_
                refine TieS.seq ?_
                refine TieS.region ?_
                refine TieO.run 3 rfl ?_
                refine TieO.call _ rfl rfl rfl (tie_magnetolaw23_EventsPairs_2 2 x.Cylinder 0 r2.1) (fun _ => rfl) fun r5 => ?_
                refine TieO.run 5 rfl ?_
                refine TieO.nil ?_
                refine TieS.seq ?_
                refine TieS.seq ?_
                refine TieS.bind (Q₁ := fun t e σ' => e = .normal ∧ Sub ⟨[(2, .t (tI ticks)), (3, .ptr 3 0), (7, .el ((Pv.encS enc_SEvent) r2.1)), (9, .fz 28 [(Pv.encS enc_SEvent) r2.1]), (10, .t (tI many)), (12, .ptr 12 0), (13, .t (tI r3.1)), (54, .t (tS enc_SFire l)), (55, .t (tI (l.length : Int))), (56, .t (tI i)), (122, .t (tB t))], [(3, .box [.t (tS Pv.encI e2.Order), .t (tI e2.First)]), (12, .box [.t (tI x.Cylinder), .t (tI x.Spark), .t (tI x.Dwell), .t (tI x.End), .t (tI x.Inject), .t (tI x.Gap), .t (tI x.Extra)])]⟩ σ') ?_ ?_
                · refine TieX.split (fun hg => ?_) (fun hg2 => ?_)
                  · refine TieS.draw 42 [.t (tI r3.2), .t (tB (r3.2 != 0)), .t (tB true), .t (.v undef), .t (.v undef), .t (tB true), .t (tB true), .t (.v undef), .t (.v undef), .t (tB true), .t (tB true), .t (.v undef), .t (.v undef), .t (.v undef), .t (tB true), .t (tB true), .t (.v undef), .t (.v undef), .t (.v undef), .t (tB true), .t (tB true), .t (.v undef), .t (.v undef), .t (.v undef), .t (.v undef), .t (.v undef), .t (.v undef), .t (.v undef), .t (.v undef), .t (.v undef), .t (.v undef), .t (tB true), .t (tB true), .t (.v undef), .t (.v undef), .t (.v undef), .t (.v undef), .t (.v undef), .t (.v undef), .t (.v undef), .t (.v undef), .t (tB true)] [(2, .t (tI ticks)), (3, .ptr 3 0), (7, .el ((Pv.encS enc_SEvent) r2.1)), (9, .fz 28 [(Pv.encS enc_SEvent) r2.1]), (10, .t (tI many)), (12, .ptr 12 0), (13, .t (tI r3.1)), (14, .t (tI r3.2)), (15, .t (tI r4.1)), (16, .t (tB r4.2)), (17, .t (tI r5.1)), (18, .t (tB r5.2)), (54, .t (tS enc_SFire l)), (55, .t (tI (l.length : Int))), (56, .t (tI i))] [(3, .box [.t (tS Pv.encI e2.Order), .t (tI e2.First)]), (12, .box [.t (tI x.Cylinder), .t (tI x.Spark), .t (tI x.Dwell), .t (tI x.End), .t (tI x.Inject), .t (tI x.Gap), .t (tI x.Extra)])] mixed (.of rfl rfl) rfl rfl rfl rfl (.cons (.quiet rfl rfl rfl) (.cons (.quiet rfl rfl rfl) (.cons (.cast (congrArg T.B hg) (.quiet rfl rfl rfl)) (.cons (.skip rfl) (.cons (.skip rfl) (.cons (.quiet rfl rfl rfl) (.cons (.quiet rfl rfl rfl) (.cons (.skip rfl) (.cons (.skip rfl) (.cons (.quiet rfl rfl rfl) (.cons (.quiet rfl rfl rfl) (.cons (.skip rfl) (.cons (.skip rfl) (.cons (.skip rfl) (.cons (.quiet rfl rfl rfl) (.cons (.quiet rfl rfl rfl) (.cons (.skip rfl) (.cons (.skip rfl) (.cons (.skip rfl) (.cons (.quiet rfl rfl rfl) (.cons (.quiet rfl rfl rfl) (.cons (.skip rfl) (.cons (.skip rfl) (.cons (.skip rfl) (.cons (.skip rfl) (.cons (.skip rfl) (.cons (.skip rfl) (.cons (.skip rfl) (.cons (.skip rfl) (.cons (.skip rfl) (.cons (.skip rfl) (.cons (.quiet rfl rfl rfl) (.cons (.quiet rfl rfl rfl) (.cons (.skip rfl) (.cons (.skip rfl) (.cons (.skip rfl) (.cons (.skip rfl) (.cons (.skip rfl) (.cons (.skip rfl) (.cons (.skip rfl) (.cons (.skip rfl) (.cons (.quiet rfl rfl rfl) (.nil))))))))))))))))))))))))))))))))))))))))))) ?_
                    refine TieO.nil ?_
                    exact TieS.leaf ⟨rfl, .of rfl rfl⟩
                  · refine TieX.split (fun hg3 => ?_) (fun hg4 => ?_)
                    · refine TieS.draw 42 [.t (tI r3.2), .t (tB (r3.2 != 0)), .t (tB false), .t (tB r4.2), .t (tB (!r4.2)), .t (tB (!r4.2)), .t (tB true), .t (.v undef), .t (.v undef), .t (tB true), .t (tB true), .t (.v undef), .t (.v undef), .t (.v undef), .t (tB true), .t (tB true), .t (.v undef), .t (.v undef), .t (.v undef), .t (tB true), .t (tB true), .t (.v undef), .t (.v undef), .t (.v undef), .t (.v undef), .t (.v undef), .t (.v undef), .t (.v undef), .t (.v undef), .t (.v undef), .t (.v undef), .t (tB true), .t (tB true), .t (.v undef), .t (.v undef), .t (.v undef), .t (.v undef), .t (.v undef), .t (.v undef), .t (.v undef), .t (.v undef), .t (tB true)] [(2, .t (tI ticks)), (3, .ptr 3 0), (7, .el ((Pv.encS enc_SEvent) r2.1)), (9, .fz 28 [(Pv.encS enc_SEvent) r2.1]), (10, .t (tI many)), (12, .ptr 12 0), (13, .t (tI r3.1)), (14, .t (tI r3.2)), (15, .t (tI r4.1)), (16, .t (tB r4.2)), (17, .t (tI r5.1)), (18, .t (tB r5.2)), (54, .t (tS enc_SFire l)), (55, .t (tI (l.length : Int))), (56, .t (tI i))] [(3, .box [.t (tS Pv.encI e2.Order), .t (tI e2.First)]), (12, .box [.t (tI x.Cylinder), .t (tI x.Spark), .t (tI x.Dwell), .t (tI x.End), .t (tI x.Inject), .t (tI x.Gap), .t (tI x.Extra)])] mixed (.of rfl rfl) rfl rfl rfl rfl (.cons (.quiet rfl rfl rfl) (.cons (.quiet rfl rfl rfl) (.cons (.cast (congrArg T.B hg2) (.quiet rfl rfl rfl)) (.cons (.quiet rfl rfl rfl) (.cons (.quiet rfl rfl rfl) (.cons (.quiet rfl rfl rfl) (.cons (.cast (congrArg T.B hg3) (.quiet rfl rfl rfl)) (.cons (.skip rfl) (.cons (.skip rfl) (.cons (.quiet rfl rfl rfl) (.cons (.quiet rfl rfl rfl) (.cons (.skip rfl) (.cons (.skip rfl) (.cons (.skip rfl) (.cons (.quiet rfl rfl rfl) (.cons (.quiet rfl rfl rfl) (.cons (.skip rfl) (.cons (.skip rfl) (.cons (.skip rfl) (.cons (.quiet rfl rfl rfl) (.cons (.quiet rfl rfl rfl) (.cons (.skip rfl) (.cons (.skip rfl) (.cons (.skip rfl) (.cons (.skip rfl) (.cons (.skip rfl) (.cons (.skip rfl) (.cons (.skip rfl) (.cons (.skip rfl) (.cons (.skip rfl) (.cons (.skip rfl) (.cons (.quiet rfl rfl rfl) (.cons (.quiet rfl rfl rfl) (.cons (.skip rfl) (.cons (.skip rfl) (.cons (.skip rfl) (.cons (.skip rfl) (.cons (.skip rfl) (.cons (.skip rfl) (.cons (.skip rfl) (.cons (.skip rfl) (.cons (.quiet rfl rfl rfl) (.nil))))))))))))))))))))))))))))))))))))))))))) ?_
                      refine TieO.nil ?_
                      exact TieS.leaf ⟨rfl, .of rfl rfl⟩
                    · refine TieX.split (fun hg5 => ?_) (fun hg6 => ?_)
                      · refine TieS.draw 42 [.t (tI r3.2), .t (tB (r3.2 != 0)), .t (tB false), .t (tB r4.2), .t (tB (!r4.2)), .t (tB (!r4.2)), .t (tB false), .t (tB r5.2), .t (tB (!r5.2)), .t (tB (!r5.2)), .t (tB true), .t (.v undef), .t (.v undef), .t (.v undef), .t (tB true), .t (tB true), .t (.v undef), .t (.v undef), .t (.v undef), .t (tB true), .t (tB true), .t (.v undef), .t (.v undef), .t (.v undef), .t (.v undef), .t (.v undef), .t (.v undef), .t (.v undef), .t (.v undef), .t (.v undef), .t (.v undef), .t (tB true), .t (tB true), .t (.v undef), .t (.v undef), .t (.v undef), .t (.v undef), .t (.v undef), .t (.v undef), .t (.v undef), .t (.v undef), .t (tB true)] [(2, .t (tI ticks)), (3, .ptr 3 0), (7, .el ((Pv.encS enc_SEvent) r2.1)), (9, .fz 28 [(Pv.encS enc_SEvent) r2.1]), (10, .t (tI many)), (12, .ptr 12 0), (13, .t (tI r3.1)), (14, .t (tI r3.2)), (15, .t (tI r4.1)), (16, .t (tB r4.2)), (17, .t (tI r5.1)), (18, .t (tB r5.2)), (54, .t (tS enc_SFire l)), (55, .t (tI (l.length : Int))), (56, .t (tI i))] [(3, .box [.t (tS Pv.encI e2.Order), .t (tI e2.First)]), (12, .box [.t (tI x.Cylinder), .t (tI x.Spark), .t (tI x.Dwell), .t (tI x.End), .t (tI x.Inject), .t (tI x.Gap), .t (tI x.Extra)])] mixed (.of rfl rfl) rfl rfl rfl rfl (.cons (.quiet rfl rfl rfl) (.cons (.quiet rfl rfl rfl) (.cons (.cast (congrArg T.B hg2) (.quiet rfl rfl rfl)) (.cons (.quiet rfl rfl rfl) (.cons (.quiet rfl rfl rfl) (.cons (.quiet rfl rfl rfl) (.cons (.cast (congrArg T.B hg4) (.quiet rfl rfl rfl)) (.cons (.quiet rfl rfl rfl) (.cons (.quiet rfl rfl rfl) (.cons (.quiet rfl rfl rfl) (.cons (.cast (congrArg T.B hg5) (.quiet rfl rfl rfl)) (.cons (.skip rfl) (.cons (.skip rfl) (.cons (.skip rfl) (.cons (.quiet rfl rfl rfl) (.cons (.quiet rfl rfl rfl) (.cons (.skip rfl) (.cons (.skip rfl) (.cons (.skip rfl) (.cons (.quiet rfl rfl rfl) (.cons (.quiet rfl rfl rfl) (.cons (.skip rfl) (.cons (.skip rfl) (.cons (.skip rfl) (.cons (.skip rfl) (.cons (.skip rfl) (.cons (.skip rfl) (.cons (.skip rfl) (.cons (.skip rfl) (.cons (.skip rfl) (.cons (.skip rfl) (.cons (.quiet rfl rfl rfl) (.cons (.quiet rfl rfl rfl) (.cons (.skip rfl) (.cons (.skip rfl) (.cons (.skip rfl) (.cons (.skip rfl) (.cons (.skip rfl) (.cons (.skip rfl) (.cons (.skip rfl) (.cons (.skip rfl) (.cons (.quiet rfl rfl rfl) (.nil))))))))))))))))))))))))))))))))))))))))))) ?_
                        refine TieO.nil ?_
                        exact TieS.leaf ⟨rfl, .of rfl rfl⟩
                      · refine TieX.split (fun hg7 => ?_) (fun hg8 => ?_)
                        · refine TieS.draw 42 [.t (tI r3.2), .t (tB (r3.2 != 0)), .t (tB false), .t (tB r4.2), .t (tB (!r4.2)), .t (tB (!r4.2)), .t (tB false), .t (tB r5.2), .t (tB (!r5.2)), .t (tB (!r5.2)), .t (tB false), .ptr 12 2, .t (tI x.Dwell), .t (tB (decide (x.Dwell < 0))), .t (tB (decide (x.Dwell < 0))), .t (tB true), .t (.v undef), .t (.v undef), .t (.v undef), .t (tB true), .t (tB true), .t (.v undef), .t (.v undef), .t (.v undef), .t (.v undef), .t (.v undef), .t (.v undef), .t (.v undef), .t (.v undef), .t (.v undef), .t (.v undef), .t (tB true), .t (tB true), .t (.v undef), .t (.v undef), .t (.v undef), .t (.v undef), .t (.v undef), .t (.v undef), .t (.v undef), .t (.v undef), .t (tB true)] [(2, .t (tI ticks)), (3, .ptr 3 0), (7, .el ((Pv.encS enc_SEvent) r2.1)), (9, .fz 28 [(Pv.encS enc_SEvent) r2.1]), (10, .t (tI many)), (12, .ptr 12 0), (13, .t (tI r3.1)), (14, .t (tI r3.2)), (15, .t (tI r4.1)), (16, .t (tB r4.2)), (17, .t (tI r5.1)), (18, .t (tB r5.2)), (54, .t (tS enc_SFire l)), (55, .t (tI (l.length : Int))), (56, .t (tI i))] [(3, .box [.t (tS Pv.encI e2.Order), .t (tI e2.First)]), (12, .box [.t (tI x.Cylinder), .t (tI x.Spark), .t (tI x.Dwell), .t (tI x.End), .t (tI x.Inject), .t (tI x.Gap), .t (tI x.Extra)])] mixed (.of rfl rfl) rfl rfl rfl rfl (.cons (.quiet rfl rfl rfl) (.cons (.quiet rfl rfl rfl) (.cons (.cast (congrArg T.B hg2) (.quiet rfl rfl rfl)) (.cons (.quiet rfl rfl rfl) (.cons (.quiet rfl rfl rfl) (.cons (.quiet rfl rfl rfl) (.cons (.cast (congrArg T.B hg4) (.quiet rfl rfl rfl)) (.cons (.quiet rfl rfl rfl) (.cons (.quiet rfl rfl rfl) (.cons (.quiet rfl rfl rfl) (.cons (.cast (congrArg T.B hg6) (.quiet rfl rfl rfl)) (.cons (.quiet rfl rfl rfl) (.cons (.quiet rfl rfl rfl) (.cons (.quiet rfl rfl rfl) (.cons (.quiet rfl rfl rfl) (.cons (.cast (congrArg T.B hg7) (.quiet rfl rfl rfl)) (.cons (.skip rfl) (.cons (.skip rfl) (.cons (.skip rfl) (.cons (.quiet rfl rfl rfl) (.cons (.quiet rfl rfl rfl) (.cons (.skip rfl) (.cons (.skip rfl) (.cons (.skip rfl) (.cons (.skip rfl) (.cons (.skip rfl) (.cons (.skip rfl) (.cons (.skip rfl) (.cons (.skip rfl) (.cons (.skip rfl) (.cons (.skip rfl) (.cons (.quiet rfl rfl rfl) (.cons (.quiet rfl rfl rfl) (.cons (.skip rfl) (.cons (.skip rfl) (.cons (.skip rfl) (.cons (.skip rfl) (.cons (.skip rfl) (.cons (.skip rfl) (.cons (.skip rfl) (.cons (.skip rfl) (.cons (.quiet rfl rfl rfl) (.nil))))))))))))))))))))))))))))))))))))))))))) ?_
                          refine TieO.nil ?_
                          exact TieS.leaf ⟨rfl, .of rfl rfl⟩
                        · refine TieX.split (fun hg9 => ?_) (fun hg10 => ?_)
                          · refine TieS.draw 42 [.t (tI r3.2), .t (tB (r3.2 != 0)), .t (tB false), .t (tB r4.2), .t (tB (!r4.2)), .t (tB (!r4.2)), .t (tB false), .t (tB r5.2), .t (tB (!r5.2)), .t (tB (!r5.2)), .t (tB false), .ptr 12 2, .t (tI x.Dwell), .t (tB (decide (x.Dwell < 0))), .t (tB (decide (x.Dwell < 0))), .t (tB false), .ptr 12 2, .t (tI x.Dwell), .t (tB (decide (x.Dwell > 10000))), .t (tB (decide (x.Dwell > 10000))), .t (tB true), .t (.v undef), .t (.v undef), .t (.v undef), .t (.v undef), .t (.v undef), .t (.v undef), .t (.v undef), .t (.v undef), .t (.v undef), .t (.v undef), .t (tB true), .t (tB true), .t (.v undef), .t (.v undef), .t (.v undef), .t (.v undef), .t (.v undef), .t (.v undef), .t (.v undef), .t (.v undef), .t (tB true)] [(2, .t (tI ticks)), (3, .ptr 3 0), (7, .el ((Pv.encS enc_SEvent) r2.1)), (9, .fz 28 [(Pv.encS enc_SEvent) r2.1]), (10, .t (tI many)), (12, .ptr 12 0), (13, .t (tI r3.1)), (14, .t (tI r3.2)), (15, .t (tI r4.1)), (16, .t (tB r4.2)), (17, .t (tI r5.1)), (18, .t (tB r5.2)), (54, .t (tS enc_SFire l)), (55, .t (tI (l.length : Int))), (56, .t (tI i))] [(3, .box [.t (tS Pv.encI e2.Order), .t (tI e2.First)]), (12, .box [.t (tI x.Cylinder), .t (tI x.Spark), .t (tI x.Dwell), .t (tI x.End), .t (tI x.Inject), .t (tI x.Gap), .t (tI x.Extra)])] mixed (.of rfl rfl) rfl rfl rfl rfl (.cons (.quiet rfl rfl rfl) (.cons (.quiet rfl rfl rfl) (.cons (.cast (congrArg T.B hg2) (.quiet rfl rfl rfl)) (.cons (.quiet rfl rfl rfl) (.cons (.quiet rfl rfl rfl) (.cons (.quiet rfl rfl rfl) (.cons (.cast (congrArg T.B hg4) (.quiet rfl rfl rfl)) (.cons (.quiet rfl rfl rfl) (.cons (.quiet rfl rfl rfl) (.cons (.quiet rfl rfl rfl) (.cons (.cast (congrArg T.B hg6) (.quiet rfl rfl rfl)) (.cons (.quiet rfl rfl rfl) (.cons (.quiet rfl rfl rfl) (.cons (.quiet rfl rfl rfl) (.cons (.quiet rfl rfl rfl) (.cons (.cast (congrArg T.B hg8) (.quiet rfl rfl rfl)) (.cons (.quiet rfl rfl rfl) (.cons (.quiet rfl rfl rfl) (.cons (.quiet rfl rfl rfl) (.cons (.quiet rfl rfl rfl) (.cons (.cast (congrArg T.B hg9) (.quiet rfl rfl rfl)) (.cons (.skip rfl) (.cons (.skip rfl) (.cons (.skip rfl) (.cons (.skip rfl) (.cons (.skip rfl) (.cons (.skip rfl) (.cons (.skip rfl) (.cons (.skip rfl) (.cons (.skip rfl) (.cons (.skip rfl) (.cons (.quiet rfl rfl rfl) (.cons (.quiet rfl rfl rfl) (.cons (.skip rfl) (.cons (.skip rfl) (.cons (.skip rfl) (.cons (.skip rfl) (.cons (.skip rfl) (.cons (.skip rfl) (.cons (.skip rfl) (.cons (.skip rfl) (.cons (.quiet rfl rfl rfl) (.nil))))))))))))))))))))))))))))))))))))))))))) ?_
                            refine TieO.nil ?_
                            exact TieS.leaf ⟨rfl, .of rfl rfl⟩
                          · refine TieX.pre fun v3 hv3 => ?_
                            refine TieX.pre fun q hq => ?_
                            refine TieX.split (fun hg11 => ?_) (fun hg12 => ?_)
                            · refine TieS.draw 42 [.t (tI r3.2), .t (tB (r3.2 != 0)), .t (tB false), .t (tB r4.2), .t (tB (!r4.2)), .t (tB (!r4.2)), .t (tB false), .t (tB r5.2), .t (tB (!r5.2)), .t (tB (!r5.2)), .t (tB false), .ptr 12 2, .t (tI x.Dwell), .t (tB (decide (x.Dwell < 0))), .t (tB (decide (x.Dwell < 0))), .t (tB false), .ptr 12 2, .t (tI x.Dwell), .t (tB (decide (x.Dwell > 10000))), .t (tB (decide (x.Dwell > 10000))), .t (tB false), .t (tI r4.1), .t (tI r5.1), .t (tI v3), .ptr 12 2, .t (tI x.Dwell), .t (tI (w64 (x.Dwell * 23040))), .t (tI ticks), .t (tI q), .t (tI (minI q 23040)), .t (tB (v3 != (minI q 23040))), .t (tB (v3 != (minI q 23040))), .t (tB true), .t (.v undef), .t (.v undef), .t (.v undef), .t (.v undef), .t (.v undef), .t (.v undef), .t (.v undef), .t (.v undef), .t (tB true)] [(2, .t (tI ticks)), (3, .ptr 3 0), (7, .el ((Pv.encS enc_SEvent) r2.1)), (9, .fz 28 [(Pv.encS enc_SEvent) r2.1]), (10, .t (tI many)), (12, .ptr 12 0), (13, .t (tI r3.1)), (14, .t (tI r3.2)), (15, .t (tI r4.1)), (16, .t (tB r4.2)), (17, .t (tI r5.1)), (18, .t (tB r5.2)), (54, .t (tS enc_SFire l)), (55, .t (tI (l.length : Int))), (56, .t (tI i))] [(3, .box [.t (tS Pv.encI e2.Order), .t (tI e2.First)]), (12, .box [.t (tI x.Cylinder), .t (tI x.Spark), .t (tI x.Dwell), .t (tI x.End), .t (tI x.Inject), .t (tI x.Gap), .t (tI x.Extra)])] mixed (.of rfl rfl) rfl rfl rfl rfl (.cons (.quiet rfl rfl rfl) (.cons (.quiet rfl rfl rfl) (.cons (.cast (congrArg T.B hg2) (.quiet rfl rfl rfl)) (.cons (.quiet rfl rfl rfl) (.cons (.quiet rfl rfl rfl) (.cons (.quiet rfl rfl rfl) (.cons (.cast (congrArg T.B hg4) (.quiet rfl rfl rfl)) (.cons (.quiet rfl rfl rfl) (.cons (.quiet rfl rfl rfl) (.cons (.quiet rfl rfl rfl) (.cons (.cast (congrArg T.B hg6) (.quiet rfl rfl rfl)) (.cons (.quiet rfl rfl rfl) (.cons (.quiet rfl rfl rfl) (.cons (.quiet rfl rfl rfl) (.cons (.quiet rfl rfl rfl) (.cons (.cast (congrArg T.B hg8) (.quiet rfl rfl rfl)) (.cons (.quiet rfl rfl rfl) (.cons (.quiet rfl rfl rfl) (.cons (.quiet rfl rfl rfl) (.cons (.quiet rfl rfl rfl) (.cons (.cast (congrArg T.B hg10) (.quiet rfl rfl rfl)) (.cons (.quiet rfl rfl rfl) (.cons (.quiet rfl rfl rfl) (.cons (.callV (tie_events_Distance r4.1 r5.1) hv3 rfl rfl rfl rfl) (.cons (.quiet rfl rfl rfl) (.cons (.quiet rfl rfl rfl) (.cons (.quiet rfl rfl rfl) (.cons (.quiet rfl rfl rfl) (.cons (.quo hq rfl rfl rfl rfl) (.cons (.quiet rfl rfl rfl) (.cons (.quiet rfl rfl rfl) (.cons (.quiet rfl rfl rfl) (.cons (.cast (congrArg T.B hg11) (.quiet rfl rfl rfl)) (.cons (.skip rfl) (.cons (.skip rfl) (.cons (.skip rfl) (.cons (.skip rfl) (.cons (.skip rfl) (.cons (.skip rfl) (.cons (.skip rfl) (.cons (.skip rfl) (.cons (.quiet rfl rfl rfl) (.nil))))))))))))))))))))))))))))))))))))))))))) ?_
                              refine TieO.nil ?_
                              exact TieS.leaf ⟨rfl, .of rfl rfl⟩
                            · refine TieS.draw 42 [.t (tI r3.2), .t (tB (r3.2 != 0)), .t (tB false), .t (tB r4.2), .t (tB (!r4.2)), .t (tB (!r4.2)), .t (tB false), .t (tB r5.2), .t (tB (!r5.2)), .t (tB (!r5.2)), .t (tB false), .ptr 12 2, .t (tI x.Dwell), .t (tB (decide (x.Dwell < 0))), .t (tB (decide (x.Dwell < 0))), .t (tB false), .ptr 12 2, .t (tI x.Dwell), .t (tB (decide (x.Dwell > 10000))), .t (tB (decide (x.Dwell > 10000))), .t (tB false), .t (tI r4.1), .t (tI r5.1), .t (tI v3), .ptr 12 2, .t (tI x.Dwell), .t (tI (w64 (x.Dwell * 23040))), .t (tI ticks), .t (tI q), .t (tI (minI q 23040)), .t (tB (v3 != (minI q 23040))), .t (tB (v3 != (minI q 23040))), .t (tB false), .t (tI r5.1), .ptr 12 1, .t (tI x.Spark), .t (tI (w64 (r5.1 + x.Spark))), .t (tI r3.1), .t (tI (w64 ((w64 (r5.1 + x.Spark)) - r3.1))), .t (tI (Int.tmod (w64 ((w64 (r5.1 + x.Spark)) - r3.1)) 46080)), .t (tB ((Int.tmod (w64 ((w64 (r5.1 + x.Spark)) - r3.1)) 46080) != 0)), .t (tB ((Int.tmod (w64 ((w64 (r5.1 + x.Spark)) - r3.1)) 46080) != 0))] [(2, .t (tI ticks)), (3, .ptr 3 0), (7, .el ((Pv.encS enc_SEvent) r2.1)), (9, .fz 28 [(Pv.encS enc_SEvent) r2.1]), (10, .t (tI many)), (12, .ptr 12 0), (13, .t (tI r3.1)), (14, .t (tI r3.2)), (15, .t (tI r4.1)), (16, .t (tB r4.2)), (17, .t (tI r5.1)), (18, .t (tB r5.2)), (54, .t (tS enc_SFire l)), (55, .t (tI (l.length : Int))), (56, .t (tI i))] [(3, .box [.t (tS Pv.encI e2.Order), .t (tI e2.First)]), (12, .box [.t (tI x.Cylinder), .t (tI x.Spark), .t (tI x.Dwell), .t (tI x.End), .t (tI x.Inject), .t (tI x.Gap), .t (tI x.Extra)])] mixed (.of rfl rfl) rfl rfl rfl rfl (.cons (.quiet rfl rfl rfl) (.cons (.quiet rfl rfl rfl) (.cons (.cast (congrArg T.B hg2) (.quiet rfl rfl rfl)) (.cons (.quiet rfl rfl rfl) (.cons (.quiet rfl rfl rfl) (.cons (.quiet rfl rfl rfl) (.cons (.cast (congrArg T.B hg4) (.quiet rfl rfl rfl)) (.cons (.quiet rfl rfl rfl) (.cons (.quiet rfl rfl rfl) (.cons (.quiet rfl rfl rfl) (.cons (.cast (congrArg T.B hg6) (.quiet rfl rfl rfl)) (.cons (.quiet rfl rfl rfl) (.cons (.quiet rfl rfl rfl) (.cons (.quiet rfl rfl rfl) (.cons (.quiet rfl rfl rfl) (.cons (.cast (congrArg T.B hg8) (.quiet rfl rfl rfl)) (.cons (.quiet rfl rfl rfl) (.cons (.quiet rfl rfl rfl) (.cons (.quiet rfl rfl rfl) (.cons (.quiet rfl rfl rfl) (.cons (.cast (congrArg T.B hg10) (.quiet rfl rfl rfl)) (.cons (.quiet rfl rfl rfl) (.cons (.quiet rfl rfl rfl) (.cons (.callV (tie_events_Distance r4.1 r5.1) hv3 rfl rfl rfl rfl) (.cons (.quiet rfl rfl rfl) (.cons (.quiet rfl rfl rfl) (.cons (.quiet rfl rfl rfl) (.cons (.quiet rfl rfl rfl) (.cons (.quo hq rfl rfl rfl rfl) (.cons (.quiet rfl rfl rfl) (.cons (.quiet rfl rfl rfl) (.cons (.quiet rfl rfl rfl) (.cons (.cast (congrArg T.B hg12) (.quiet rfl rfl rfl)) (.cons (.quiet rfl rfl rfl) (.cons (.quiet rfl rfl rfl) (.cons (.quiet rfl rfl rfl) (.cons (.quiet rfl rfl rfl) (.cons (.quiet rfl rfl rfl) (.cons (.quiet rfl rfl rfl) (.cons (.quiet rfl rfl rfl) (.cons (.quiet rfl rfl rfl) (.cons (.quiet rfl rfl rfl) (.nil))))))))))))))))))))))))))))))))))))))))))) ?_
                              refine TieO.nil ?_
                              exact TieS.leaf ⟨rfl, .of rfl rfl⟩
                rintro v4 e σ' _ ⟨rfl, hs⟩
                refine TieX.sub hs ?_
                refine TieS.cond rfl ?_ ?_
                · refine TieS.seq ?_
                  refine TieS.region ?_
                  refine TieO.run 1 rfl ?_
                  refine TieO.nil ?_
                  exact TieS.ret ⟨rfl, rfl⟩
                · refine TieS.skip ?_
                  refine TieS.seq ?_
                  refine TieS.region ?_
                  refine TieO.run 2 rfl ?_
                  refine TieO.call _ rfl rfl rfl (tie_events_Pulses x) (fun _ => rfl) fun v5 => ?_
                  refine TieO.run 4 rfl ?_
                  refine TieO.nil ?_
                  refine TieS.seq ?_
                  refine TieS.region ?_
                  refine TieO.run 1 rfl ?_
                  refine TieO.nil ?_
                  refine TieS.block ?_
                  refine TieS.loop (fun t => ⟨[(2, .t (tI ticks)), (3, .ptr 3 0), (7, .el ((Pv.encS enc_SEvent) r2.1)), (9, .fz 28 [(Pv.encS enc_SEvent) r2.1]), (10, .t (tI (w64 (many + (w64 (2 + (w64 (2 * v5)))))))), (12, .ptr 12 0), (13, .t (tI r3.1)), (19, .t (tI t)), (54, .t (tS enc_SFire l)), (55, .t (tI (l.length : Int))), (56, .t (tI i))], [(3, .box [.t (tS Pv.encI e2.Order), .t (tI e2.First)]), (12, .box [.t (tI x.Cylinder), .t (tI x.Spark), .t (tI x.Dwell), .t (tI x.End), .t (tI x.Inject), .t (tI x.Gap), .t (tI x.Extra)])]⟩) (fun b e σ' => match b with | .inl t => e = .exit 2 ∧ Sub ⟨[(2, .t (tI ticks)), (3, .ptr 3 0), (7, .el ((Pv.encS enc_SEvent) r2.1)), (9, .fz 28 [(Pv.encS enc_SEvent) r2.1]), (10, .t (tI (w64 (many + (w64 (2 + (w64 (2 * v5)))))))), (54, .t (tS enc_SFire l)), (55, .t (tI (l.length : Int))), (56, .t (tI i))], [(3, .box [.t (tS Pv.encI e2.Order), .t (tI e2.First)])]⟩ σ' | .inr t => e = .ret ∧ retT tab σ' [.tmp 6] = some (((fun r => .t (tB r)) : Bool → T) t)) (.of rfl rfl) ?_ ?_
                  · intro pulse
                    refine TieS.seq ?_
                    refine TieS.seq ?_
                    refine TieS.region ?_
                    refine TieO.run 2 rfl ?_
                    refine TieO.call _ rfl rfl rfl (tie_events_Pulses x) (fun _ => rfl) fun v6 => ?_
                    refine TieO.run 1 rfl ?_
                    refine TieO.nil ?_
                    refine TieS.cond rfl ?_ ?_
                    · refine TieS.skip ?_
                      refine TieS.seq ?_
                      refine TieS.block ?_
                      refine TieS.seq ?_
                      refine TieS.region ?_
                      refine TieO.run 4 rfl ?_
                      refine TieO.call _ rfl rfl rfl (tie_magnetolaw23_EventsPairs_2 3 x.Cylinder pulse r2.1) (fun _ => rfl) fun r6 => ?_
                      refine TieO.run 5 rfl ?_
                      refine TieO.nil ?_
                      refine TieS.seq ?_
                      refine TieS.region ?_
                      refine TieO.run 4 rfl ?_
                      refine TieO.call _ rfl rfl rfl (tie_magnetolaw23_EventsPairs_2 4 x.Cylinder pulse r2.1) (fun _ => rfl) fun r7 => ?_
                      refine TieO.run 5 rfl ?_
                      refine TieO.nil ?_
                      refine TieS.seq ?_
                      refine TieS.region ?_
                      refine TieO.run 3 rfl ?_
                      refine TieO.nil ?_
                      refine TieS.seq ?_
                      refine TieS.seq ?_
                      refine TieS.region ?_
                      refine TieO.run 2 rfl ?_
                      refine TieO.nil ?_
                      refine TieS.bind (Q₁ := fun t e σ' => e = .normal ∧ Sub ⟨[(2, .t (tI ticks)), (3, .ptr 3 0), (7, .el ((Pv.encS enc_SEvent) r2.1)), (9, .fz 28 [(Pv.encS enc_SEvent) r2.1]), (10, .t (tI (w64 (many + (w64 (2 + (w64 (2 * v5)))))))), (12, .ptr 12 0), (13, .t (tI r3.1)), (19, .t (tI pulse)), (20, .t (tI r6.1)), (21, .t (tB r6.2)), (22, .t (tI r7.1)), (23, .t (tB r7.2)), (24, .t (tI t)), (54, .t (tS enc_SFire l)), (55, .t (tI (l.length : Int))), (56, .t (tI i))], [(3, .box [.t (tS Pv.encI e2.Order), .t (tI e2.First)]), (12, .box [.t (tI x.Cylinder), .t (tI x.Spark), .t (tI x.Dwell), .t (tI x.End), .t (tI x.Inject), .t (tI x.Gap), .t (tI x.Extra)])]⟩ σ') ?_ ?_
                      · refine TieS.cond rfl ?_ ?_
                        · refine TieS.region ?_
                          refine TieO.run 3 rfl ?_
                          refine TieO.nil ?_
                          exact TieS.leaf ⟨rfl, .of rfl rfl⟩
                        · refine TieS.skip ?_
                          exact TieS.leaf ⟨rfl, .of rfl rfl⟩
                      rintro length e σ' _ ⟨rfl, hs⟩
                      refine TieX.sub hs ?_
                      refine TieS.seq ?_
                      refine TieS.bind (Q₁ := fun t e σ' => e = .normal ∧ Sub ⟨[(2, .t (tI ticks)), (3, .ptr 3 0), (7, .el ((Pv.encS enc_SEvent) r2.1)), (9, .fz 28 [(Pv.encS enc_SEvent) r2.1]), (10, .t (tI (w64 (many + (w64 (2 + (w64 (2 * v5)))))))), (12, .ptr 12 0), (13, .t (tI r3.1)), (19, .t (tI pulse)), (54, .t (tS enc_SFire l)), (55, .t (tI (l.length : Int))), (56, .t (tI i)), (196, .t (tB t))], [(3, .box [.t (tS Pv.encI e2.Order), .t (tI e2.First)]), (12, .box [.t (tI x.Cylinder), .t (tI x.Spark), .t (tI x.Dwell), .t (tI x.End), .t (tI x.Inject), .t (tI x.Gap), .t (tI x.Extra)])]⟩ σ') ?_ ?_
                      · refine TieX.split (fun hg13 => ?_) (fun hg14 => ?_)
                        · refine TieS.draw 40 [.t (tB r6.2), .t (tB (!r6.2)), .t (tB true), .t (.v undef), .t (.v undef), .t (tB true), .t (tB true), .t (.v undef), .t (.v undef), .t (tB true), .t (tB true), .t (.v undef), .t (.v undef), .t (.v undef), .t (.v undef), .t (.v undef), .t (.v undef), .t (.v undef), .t (.v undef), .t (tB true), .t (tB true), .t (.v undef), .t (.v undef), .t (.v undef), .t (.v undef), .t (tB true), .t (tB true), .t (.v undef), .t (.v undef), .t (.v undef), .t (.v undef), .t (.v undef), .t (.v undef), .t (.v undef), .t (.v undef), .t (.v undef), .t (.v undef), .t (.v undef), .t (.v undef), .t (tB true)] [(2, .t (tI ticks)), (3, .ptr 3 0), (7, .el ((Pv.encS enc_SEvent) r2.1)), (9, .fz 28 [(Pv.encS enc_SEvent) r2.1]), (10, .t (tI (w64 (many + (w64 (2 + (w64 (2 * v5)))))))), (12, .ptr 12 0), (13, .t (tI r3.1)), (19, .t (tI pulse)), (20, .t (tI r6.1)), (21, .t (tB r6.2)), (22, .t (tI r7.1)), (23, .t (tB r7.2)), (24, .t (tI length)), (54, .t (tS enc_SFire l)), (55, .t (tI (l.length : Int))), (56, .t (tI i))] [(3, .box [.t (tS Pv.encI e2.Order), .t (tI e2.First)]), (12, .box [.t (tI x.Cylinder), .t (tI x.Spark), .t (tI x.Dwell), .t (tI x.End), .t (tI x.Inject), .t (tI x.Gap), .t (tI x.Extra)])] mixed (.of rfl rfl) rfl rfl rfl rfl (.cons (.quiet rfl rfl rfl) (.cons (.quiet rfl rfl rfl) (.cons (.cast (congrArg T.B hg13) (.quiet rfl rfl rfl)) (.cons (.skip rfl) (.cons (.skip rfl) (.cons (.quiet rfl rfl rfl) (.cons (.quiet rfl rfl rfl) (.cons (.skip rfl) (.cons (.skip rfl) (.cons (.quiet rfl rfl rfl) (.cons (.quiet rfl rfl rfl) (.cons (.skip rfl) (.cons (.skip rfl) (.cons (.skip rfl) (.cons (.skip rfl) (.cons (.skip rfl) (.cons (.skip rfl) (.cons (.skip rfl) (.cons (.skip rfl) (.cons (.quiet rfl rfl rfl) (.cons (.quiet rfl rfl rfl) (.cons (.skip rfl) (.cons (.skip rfl) (.cons (.skip rfl) (.cons (.skip rfl) (.cons (.quiet rfl rfl rfl) (.cons (.quiet rfl rfl rfl) (.cons (.skip rfl) (.cons (.skip rfl) (.cons (.skip rfl) (.cons (.skip rfl) (.cons (.skip rfl) (.cons (.skip rfl) (.cons (.skip rfl) (.cons (.skip rfl) (.cons (.skip rfl) (.cons (.skip rfl) (.cons (.skip rfl) (.cons (.skip rfl) (.cons (.quiet rfl rfl rfl) (.nil))))))))))))))))))))))))))))))))))))))))) ?_
                          refine TieO.nil ?_
                          exact TieS.leaf ⟨rfl, .of rfl rfl⟩
                        · refine TieX.split (fun hg15 => ?_) (fun hg16 => ?_)
                          · refine TieS.draw 40 [.t (tB r6.2), .t (tB (!r6.2)), .t (tB false), .t (tB r7.2), .t (tB (!r7.2)), .t (tB (!r7.2)), .t (tB true), .t (.v undef), .t (.v undef), .t (tB true), .t (tB true), .t (.v undef), .t (.v undef), .t (.v undef), .t (.v undef), .t (.v undef), .t (.v undef), .t (.v undef), .t (.v undef), .t (tB true), .t (tB true), .t (.v undef), .t (.v undef), .t (.v undef), .t (.v undef), .t (tB true), .t (tB true), .t (.v undef), .t (.v undef), .t (.v undef), .t (.v undef), .t (.v undef), .t (.v undef), .t (.v undef), .t (.v undef), .t (.v undef), .t (.v undef), .t (.v undef), .t (.v undef), .t (tB true)] [(2, .t (tI ticks)), (3, .ptr 3 0), (7, .el ((Pv.encS enc_SEvent) r2.1)), (9, .fz 28 [(Pv.encS enc_SEvent) r2.1]), (10, .t (tI (w64 (many + (w64 (2 + (w64 (2 * v5)))))))), (12, .ptr 12 0), (13, .t (tI r3.1)), (19, .t (tI pulse)), (20, .t (tI r6.1)), (21, .t (tB r6.2)), (22, .t (tI r7.1)), (23, .t (tB r7.2)), (24, .t (tI length)), (54, .t (tS enc_SFire l)), (55, .t (tI (l.length : Int))), (56, .t (tI i))] [(3, .box [.t (tS Pv.encI e2.Order), .t (tI e2.First)]), (12, .box [.t (tI x.Cylinder), .t (tI x.Spark), .t (tI x.Dwell), .t (tI x.End), .t (tI x.Inject), .t (tI x.Gap), .t (tI x.Extra)])] mixed (.of rfl rfl) rfl rfl rfl rfl (.cons (.quiet rfl rfl rfl) (.cons (.quiet rfl rfl rfl) (.cons (.cast (congrArg T.B hg14) (.quiet rfl rfl rfl)) (.cons (.quiet rfl rfl rfl) (.cons (.quiet rfl rfl rfl) (.cons (.quiet rfl rfl rfl) (.cons (.cast (congrArg T.B hg15) (.quiet rfl rfl rfl)) (.cons (.skip rfl) (.cons (.skip rfl) (.cons (.quiet rfl rfl rfl) (.cons (.quiet rfl rfl rfl) (.cons (.skip rfl) (.cons (.skip rfl) (.cons (.skip rfl) (.cons (.skip rfl) (.cons (.skip rfl) (.cons (.skip rfl) (.cons (.skip rfl) (.cons (.skip rfl) (.cons (.quiet rfl rfl rfl) (.cons (.quiet rfl rfl rfl) (.cons (.skip rfl) (.cons (.skip rfl) (.cons (.skip rfl) (.cons (.skip rfl) (.cons (.quiet rfl rfl rfl) (.cons (.quiet rfl rfl rfl) (.cons (.skip rfl) (.cons (.skip rfl) (.cons (.skip rfl) (.cons (.skip rfl) (.cons (.skip rfl) (.cons (.skip rfl) (.cons (.skip rfl) (.cons (.skip rfl) (.cons (.skip rfl) (.cons (.skip rfl) (.cons (.skip rfl) (.cons (.skip rfl) (.cons (.quiet rfl rfl rfl) (.nil))))))))))))))))))))))))))))))))))))))))) ?_
                            refine TieO.nil ?_
                            exact TieS.leaf ⟨rfl, .of rfl rfl⟩
                          · refine TieX.split (fun hg17 => ?_) (fun hg18 => ?_)
                            · refine TieS.draw 40 [.t (tB r6.2), .t (tB (!r6.2)), .t (tB false), .t (tB r7.2), .t (tB (!r7.2)), .t (tB (!r7.2)), .t (tB false), .t (tI length), .t (tB (decide (length > 20000))), .t (tB (decide (length > 20000))), .t (tB true), .t (.v undef), .t (.v undef), .t (.v undef), .t (.v undef), .t (.v undef), .t (.v undef), .t (.v undef), .t (.v undef), .t (tB true), .t (tB true), .t (.v undef), .t (.v undef), .t (.v undef), .t (.v undef), .t (tB true), .t (tB true), .t (.v undef), .t (.v undef), .t (.v undef), .t (.v undef), .t (.v undef), .t (.v undef), .t (.v undef), .t (.v undef), .t (.v undef), .t (.v undef), .t (.v undef), .t (.v undef), .t (tB true)] [(2, .t (tI ticks)), (3, .ptr 3 0), (7, .el ((Pv.encS enc_SEvent) r2.1)), (9, .fz 28 [(Pv.encS enc_SEvent) r2.1]), (10, .t (tI (w64 (many + (w64 (2 + (w64 (2 * v5)))))))), (12, .ptr 12 0), (13, .t (tI r3.1)), (19, .t (tI pulse)), (20, .t (tI r6.1)), (21, .t (tB r6.2)), (22, .t (tI r7.1)), (23, .t (tB r7.2)), (24, .t (tI length)), (54, .t (tS enc_SFire l)), (55, .t (tI (l.length : Int))), (56, .t (tI i))] [(3, .box [.t (tS Pv.encI e2.Order), .t (tI e2.First)]), (12, .box [.t (tI x.Cylinder), .t (tI x.Spark), .t (tI x.Dwell), .t (tI x.End), .t (tI x.Inject), .t (tI x.Gap), .t (tI x.Extra)])] mixed (.of rfl rfl) rfl rfl rfl rfl (.cons (.quiet rfl rfl rfl) (.cons (.quiet rfl rfl rfl) (.cons (.cast (congrArg T.B hg14) (.quiet rfl rfl rfl)) (.cons (.quiet rfl rfl rfl) (.cons (.quiet rfl rfl rfl) (.cons (.quiet rfl rfl rfl) (.cons (.cast (congrArg T.B hg16) (.quiet rfl rfl rfl)) (.cons (.quiet rfl rfl rfl) (.cons (.quiet rfl rfl rfl) (.cons (.quiet rfl rfl rfl) (.cons (.cast (congrArg T.B hg17) (.quiet rfl rfl rfl)) (.cons (.skip rfl) (.cons (.skip rfl) (.cons (.skip rfl) (.cons (.skip rfl) (.cons (.skip rfl) (.cons (.skip rfl) (.cons (.skip rfl) (.cons (.skip rfl) (.cons (.quiet rfl rfl rfl) (.cons (.quiet rfl rfl rfl) (.cons (.skip rfl) (.cons (.skip rfl) (.cons (.skip rfl) (.cons (.skip rfl) (.cons (.quiet rfl rfl rfl) (.cons (.quiet rfl rfl rfl) (.cons (.skip rfl) (.cons (.skip rfl) (.cons (.skip rfl) (.cons (.skip rfl) (.cons (.skip rfl) (.cons (.skip rfl) (.cons (.skip rfl) (.cons (.skip rfl) (.cons (.skip rfl) (.cons (.skip rfl) (.cons (.skip rfl) (.cons (.skip rfl) (.cons (.quiet rfl rfl rfl) (.nil))))))))))))))))))))))))))))))))))))))))) ?_
                              refine TieO.nil ?_
                              exact TieS.leaf ⟨rfl, .of rfl rfl⟩
                            · refine TieX.pre fun v7 hv7 => ?_
                              refine TieX.pre fun q2 hq2 => ?_
                              refine TieX.split (fun hg19 => ?_) (fun hg20 => ?_)
                              · refine TieS.draw 40 [.t (tB r6.2), .t (tB (!r6.2)), .t (tB false), .t (tB r7.2), .t (tB (!r7.2)), .t (tB (!r7.2)), .t (tB false), .t (tI length), .t (tB (decide (length > 20000))), .t (tB (decide (length > 20000))), .t (tB false), .t (tI r6.1), .t (tI r7.1), .t (tI v7), .t (tI length), .t (tI (w64 (length * 23040))), .t (tI ticks), .t (tI q2), .t (tB (v7 != q2)), .t (tB (v7 != q2)), .t (tB true), .t (.v undef), .t (.v undef), .t (.v undef), .t (.v undef), .t (tB true), .t (tB true), .t (.v undef), .t (.v undef), .t (.v undef), .t (.v undef), .t (.v undef), .t (.v undef), .t (.v undef), .t (.v undef), .t (.v undef), .t (.v undef), .t (.v undef), .t (.v undef), .t (tB true)] [(2, .t (tI ticks)), (3, .ptr 3 0), (7, .el ((Pv.encS enc_SEvent) r2.1)), (9, .fz 28 [(Pv.encS enc_SEvent) r2.1]), (10, .t (tI (w64 (many + (w64 (2 + (w64 (2 * v5)))))))), (12, .ptr 12 0), (13, .t (tI r3.1)), (19, .t (tI pulse)), (20, .t (tI r6.1)), (21, .t (tB r6.2)), (22, .t (tI r7.1)), (23, .t (tB r7.2)), (24, .t (tI length)), (54, .t (tS enc_SFire l)), (55, .t (tI (l.length : Int))), (56, .t (tI i))] [(3, .box [.t (tS Pv.encI e2.Order), .t (tI e2.First)]), (12, .box [.t (tI x.Cylinder), .t (tI x.Spark), .t (tI x.Dwell), .t (tI x.End), .t (tI x.Inject), .t (tI x.Gap), .t (tI x.Extra)])] mixed (.of rfl rfl) rfl rfl rfl rfl (.cons (.quiet rfl rfl rfl) (.cons (.quiet rfl rfl rfl) (.cons (.cast (congrArg T.B hg14) (.quiet rfl rfl rfl)) (.cons (.quiet rfl rfl rfl) (.cons (.quiet rfl rfl rfl) (.cons (.quiet rfl rfl rfl) (.cons (.cast (congrArg T.B hg16) (.quiet rfl rfl rfl)) (.cons (.quiet rfl rfl rfl) (.cons (.quiet rfl rfl rfl) (.cons (.quiet rfl rfl rfl) (.cons (.cast (congrArg T.B hg18) (.quiet rfl rfl rfl)) (.cons (.quiet rfl rfl rfl) (.cons (.quiet rfl rfl rfl) (.cons (.callV (tie_events_Distance r6.1 r7.1) hv7 rfl rfl rfl rfl) (.cons (.quiet rfl rfl rfl) (.cons (.quiet rfl rfl rfl) (.cons (.quiet rfl rfl rfl) (.cons (.quo hq2 rfl rfl rfl rfl) (.cons (.quiet rfl rfl rfl) (.cons (.quiet rfl rfl rfl) (.cons (.cast (congrArg T.B hg19) (.quiet rfl rfl rfl)) (.cons (.skip rfl) (.cons (.skip rfl) (.cons (.skip rfl) (.cons (.skip rfl) (.cons (.quiet rfl rfl rfl) (.cons (.quiet rfl rfl rfl) (.cons (.skip rfl) (.cons (.skip rfl) (.cons (.skip rfl) (.cons (.skip rfl) (.cons (.skip rfl) (.cons (.skip rfl) (.cons (.skip rfl) (.cons (.skip rfl) (.cons (.skip rfl) (.cons (.skip rfl) (.cons (.skip rfl) (.cons (.skip rfl) (.cons (.quiet rfl rfl rfl) (.nil))))))))))))))))))))))))))))))))))))))))) ?_
                                refine TieO.nil ?_
                                exact TieS.leaf ⟨rfl, .of rfl rfl⟩
                              · refine TieX.pre fun v8 hv8 => ?_
                                refine TieX.split (fun hg21 => ?_) (fun hg22 => ?_)
                                · refine TieS.draw 40 [.t (tB r6.2), .t (tB (!r6.2)), .t (tB false), .t (tB r7.2), .t (tB (!r7.2)), .t (tB (!r7.2)), .t (tB false), .t (tI length), .t (tB (decide (length > 20000))), .t (tB (decide (length > 20000))), .t (tB false), .t (tI r6.1), .t (tI r7.1), .t (tI v7), .t (tI length), .t (tI (w64 (length * 23040))), .t (tI ticks), .t (tI q2), .t (tB (v7 != q2)), .t (tB (v7 != q2)), .t (tB false), .t (tI r6.1), .t (tI r7.1), .t (tI v8), .t (tB (decide (v8 > 23040))), .t (tB (decide (v8 > 23040))), .t (tB true), .t (.v undef), .t (.v undef), .t (.v undef), .t (.v undef), .t (.v undef), .t (.v undef), .t (.v undef), .t (.v undef), .t (.v undef), .t (.v undef), .t (.v undef), .t (.v undef), .t (tB true)] [(2, .t (tI ticks)), (3, .ptr 3 0), (7, .el ((Pv.encS enc_SEvent) r2.1)), (9, .fz 28 [(Pv.encS enc_SEvent) r2.1]), (10, .t (tI (w64 (many + (w64 (2 + (w64 (2 * v5)))))))), (12, .ptr 12 0), (13, .t (tI r3.1)), (19, .t (tI pulse)), (20, .t (tI r6.1)), (21, .t (tB r6.2)), (22, .t (tI r7.1)), (23, .t (tB r7.2)), (24, .t (tI length)), (54, .t (tS enc_SFire l)), (55, .t (tI (l.length : Int))), (56, .t (tI i))] [(3, .box [.t (tS Pv.encI e2.Order), .t (tI e2.First)]), (12, .box [.t (tI x.Cylinder), .t (tI x.Spark), .t (tI x.Dwell), .t (tI x.End), .t (tI x.Inject), .t (tI x.Gap), .t (tI x.Extra)])] mixed (.of rfl rfl) rfl rfl rfl rfl (.cons (.quiet rfl rfl rfl) (.cons (.quiet rfl rfl rfl) (.cons (.cast (congrArg T.B hg14) (.quiet rfl rfl rfl)) (.cons (.quiet rfl rfl rfl) (.cons (.quiet rfl rfl rfl) (.cons (.quiet rfl rfl rfl) (.cons (.cast (congrArg T.B hg16) (.quiet rfl rfl rfl)) (.cons (.quiet rfl rfl rfl) (.cons (.quiet rfl rfl rfl) (.cons (.quiet rfl rfl rfl) (.cons (.cast (congrArg T.B hg18) (.quiet rfl rfl rfl)) (.cons (.quiet rfl rfl rfl) (.cons (.quiet rfl rfl rfl) (.cons (.callV (tie_events_Distance r6.1 r7.1) hv7 rfl rfl rfl rfl) (.cons (.quiet rfl rfl rfl) (.cons (.quiet rfl rfl rfl) (.cons (.quiet rfl rfl rfl) (.cons (.quo hq2 rfl rfl rfl rfl) (.cons (.quiet rfl rfl rfl) (.cons (.quiet rfl rfl rfl) (.cons (.cast (congrArg T.B hg20) (.quiet rfl rfl rfl)) (.cons (.quiet rfl rfl rfl) (.cons (.quiet rfl rfl rfl) (.cons (.callV (tie_events_Distance r6.1 r7.1) hv8 rfl rfl rfl rfl) (.cons (.quiet rfl rfl rfl) (.cons (.quiet rfl rfl rfl) (.cons (.cast (congrArg T.B hg21) (.quiet rfl rfl rfl)) (.cons (.skip rfl) (.cons (.skip rfl) (.cons (.skip rfl) (.cons (.skip rfl) (.cons (.skip rfl) (.cons (.skip rfl) (.cons (.skip rfl) (.cons (.skip rfl) (.cons (.skip rfl) (.cons (.skip rfl) (.cons (.skip rfl) (.cons (.skip rfl) (.cons (.quiet rfl rfl rfl) (.nil))))))))))))))))))))))))))))))))))))))))) ?_
                                  refine TieO.nil ?_
                                  exact TieS.leaf ⟨rfl, .of rfl rfl⟩
                                · refine TieX.split (fun hg23 => ?_) (fun hg24 => ?_)
                                  · refine TieS.draw 40 [.t (tB r6.2), .t (tB (!r6.2)), .t (tB false), .t (tB r7.2), .t (tB (!r7.2)), .t (tB (!r7.2)), .t (tB false), .t (tI length), .t (tB (decide (length > 20000))), .t (tB (decide (length > 20000))), .t (tB false), .t (tI r6.1), .t (tI r7.1), .t (tI v7), .t (tI length), .t (tI (w64 (length * 23040))), .t (tI ticks), .t (tI q2), .t (tB (v7 != q2)), .t (tB (v7 != q2)), .t (tB false), .t (tI r6.1), .t (tI r7.1), .t (tI v8), .t (tB (decide (v8 > 23040))), .t (tB (decide (v8 > 23040))), .t (tB false), .t (tI pulse), .t (tB (pulse == 1)), .t (tB true), .t (tI r7.1), .ptr 12 3, .t (tI x.End), .t (tI (w64 (r7.1 + x.End))), .t (tI r3.1), .t (tI (w64 ((w64 (r7.1 + x.End)) - r3.1))), .t (tI (Int.tmod (w64 ((w64 (r7.1 + x.End)) - r3.1)) 46080)), .t (tB ((Int.tmod (w64 ((w64 (r7.1 + x.End)) - r3.1)) 46080) != 0)), .t (tB ((Int.tmod (w64 ((w64 (r7.1 + x.End)) - r3.1)) 46080) != 0)), .t (tB ((Int.tmod (w64 ((w64 (r7.1 + x.End)) - r3.1)) 46080) != 0))] [(2, .t (tI ticks)), (3, .ptr 3 0), (7, .el ((Pv.encS enc_SEvent) r2.1)), (9, .fz 28 [(Pv.encS enc_SEvent) r2.1]), (10, .t (tI (w64 (many + (w64 (2 + (w64 (2 * v5)))))))), (12, .ptr 12 0), (13, .t (tI r3.1)), (19, .t (tI pulse)), (20, .t (tI r6.1)), (21, .t (tB r6.2)), (22, .t (tI r7.1)), (23, .t (tB r7.2)), (24, .t (tI length)), (54, .t (tS enc_SFire l)), (55, .t (tI (l.length : Int))), (56, .t (tI i))] [(3, .box [.t (tS Pv.encI e2.Order), .t (tI e2.First)]), (12, .box [.t (tI x.Cylinder), .t (tI x.Spark), .t (tI x.Dwell), .t (tI x.End), .t (tI x.Inject), .t (tI x.Gap), .t (tI x.Extra)])] mixed (.of rfl rfl) rfl rfl rfl rfl (.cons (.quiet rfl rfl rfl) (.cons (.quiet rfl rfl rfl) (.cons (.cast (congrArg T.B hg14) (.quiet rfl rfl rfl)) (.cons (.quiet rfl rfl rfl) (.cons (.quiet rfl rfl rfl) (.cons (.quiet rfl rfl rfl) (.cons (.cast (congrArg T.B hg16) (.quiet rfl rfl rfl)) (.cons (.quiet rfl rfl rfl) (.cons (.quiet rfl rfl rfl) (.cons (.quiet rfl rfl rfl) (.cons (.cast (congrArg T.B hg18) (.quiet rfl rfl rfl)) (.cons (.quiet rfl rfl rfl) (.cons (.quiet rfl rfl rfl) (.cons (.callV (tie_events_Distance r6.1 r7.1) hv7 rfl rfl rfl rfl) (.cons (.quiet rfl rfl rfl) (.cons (.quiet rfl rfl rfl) (.cons (.quiet rfl rfl rfl) (.cons (.quo hq2 rfl rfl rfl rfl) (.cons (.quiet rfl rfl rfl) (.cons (.quiet rfl rfl rfl) (.cons (.cast (congrArg T.B hg20) (.quiet rfl rfl rfl)) (.cons (.quiet rfl rfl rfl) (.cons (.quiet rfl rfl rfl) (.cons (.callV (tie_events_Distance r6.1 r7.1) hv8 rfl rfl rfl rfl) (.cons (.quiet rfl rfl rfl) (.cons (.quiet rfl rfl rfl) (.cons (.cast (congrArg T.B hg22) (.quiet rfl rfl rfl)) (.cons (.quiet rfl rfl rfl) (.cons (.quiet rfl rfl rfl) (.cons (.cast (congrArg T.B hg23) (.quiet rfl rfl rfl)) (.cons (.quiet rfl rfl rfl) (.cons (.quiet rfl rfl rfl) (.cons (.quiet rfl rfl rfl) (.cons (.quiet rfl rfl rfl) (.cons (.quiet rfl rfl rfl) (.cons (.quiet rfl rfl rfl) (.cons (.quiet rfl rfl rfl) (.cons (.quiet rfl rfl rfl) (.cons (.quiet rfl rfl rfl) (.cons (.quiet rfl rfl rfl) (.nil))))))))))))))))))))))))))))))))))))))))) ?_
                                    refine TieO.nil ?_
                                    exact TieS.leaf ⟨rfl, .of rfl rfl⟩
                                  · refine TieS.draw 40 [.t (tB r6.2), .t (tB (!r6.2)), .t (tB false), .t (tB r7.2), .t (tB (!r7.2)), .t (tB (!r7.2)), .t (tB false), .t (tI length), .t (tB (decide (length > 20000))), .t (tB (decide (length > 20000))), .t (tB false), .t (tI r6.1), .t (tI r7.1), .t (tI v7), .t (tI length), .t (tI (w64 (length * 23040))), .t (tI ticks), .t (tI q2), .t (tB (v7 != q2)), .t (tB (v7 != q2)), .t (tB false), .t (tI r6.1), .t (tI r7.1), .t (tI v8), .t (tB (decide (v8 > 23040))), .t (tB (decide (v8 > 23040))), .t (tB false), .t (tI pulse), .t (tB (pulse == 1)), .t (tB false), .t (.v undef), .t (.v undef), .t (.v undef), .t (.v undef), .t (.v undef), .t (.v undef), .t (.v undef), .t (.v undef), .t (tB false), .t (tB false)] [(2, .t (tI ticks)), (3, .ptr 3 0), (7, .el ((Pv.encS enc_SEvent) r2.1)), (9, .fz 28 [(Pv.encS enc_SEvent) r2.1]), (10, .t (tI (w64 (many + (w64 (2 + (w64 (2 * v5)))))))), (12, .ptr 12 0), (13, .t (tI r3.1)), (19, .t (tI pulse)), (20, .t (tI r6.1)), (21, .t (tB r6.2)), (22, .t (tI r7.1)), (23, .t (tB r7.2)), (24, .t (tI length)), (54, .t (tS enc_SFire l)), (55, .t (tI (l.length : Int))), (56, .t (tI i))] [(3, .box [.t (tS Pv.encI e2.Order), .t (tI e2.First)]), (12, .box [.t (tI x.Cylinder), .t (tI x.Spark), .t (tI x.Dwell), .t (tI x.End), .t (tI x.Inject), .t (tI x.Gap), .t (tI x.Extra)])] mixed (.of rfl rfl) rfl rfl rfl rfl (.cons (.quiet rfl rfl rfl) (.cons (.quiet rfl rfl rfl) (.cons (.cast (congrArg T.B hg14) (.quiet rfl rfl rfl)) (.cons (.quiet rfl rfl rfl) (.cons (.quiet rfl rfl rfl) (.cons (.quiet rfl rfl rfl) (.cons (.cast (congrArg T.B hg16) (.quiet rfl rfl rfl)) (.cons (.quiet rfl rfl rfl) (.cons (.quiet rfl rfl rfl) (.cons (.quiet rfl rfl rfl) (.cons (.cast (congrArg T.B hg18) (.quiet rfl rfl rfl)) (.cons (.quiet rfl rfl rfl) (.cons (.quiet rfl rfl rfl) (.cons (.callV (tie_events_Distance r6.1 r7.1) hv7 rfl rfl rfl rfl) (.cons (.quiet rfl rfl rfl) (.cons (.quiet rfl rfl rfl) (.cons (.quiet rfl rfl rfl) (.cons (.quo hq2 rfl rfl rfl rfl) (.cons (.quiet rfl rfl rfl) (.cons (.quiet rfl rfl rfl) (.cons (.cast (congrArg T.B hg20) (.quiet rfl rfl rfl)) (.cons (.quiet rfl rfl rfl) (.cons (.quiet rfl rfl rfl) (.cons (.callV (tie_events_Distance r6.1 r7.1) hv8 rfl rfl rfl rfl) (.cons (.quiet rfl rfl rfl) (.cons (.quiet rfl rfl rfl) (.cons (.cast (congrArg T.B hg22) (.quiet rfl rfl rfl)) (.cons (.quiet rfl rfl rfl) (.cons (.quiet rfl rfl rfl) (.cons (.cast (congrArg T.B hg24) (.quiet rfl rfl rfl)) (.cons (.skip rfl) (.cons (.skip rfl) (.cons (.skip rfl) (.cons (.skip rfl) (.cons (.skip rfl) (.cons (.skip rfl) (.cons (.skip rfl) (.cons (.skip rfl) (.cons (.quiet rfl rfl rfl) (.cons (.quiet rfl rfl rfl) (.nil))))))))))))))))))))))))))))))))))))))))) ?_
                                    refine TieO.nil ?_
                                    exact TieS.leaf ⟨rfl, .of rfl rfl⟩
                      rintro v9 e σ' _ ⟨rfl, hs⟩
                      refine TieX.sub hs ?_
                      refine TieS.cond rfl ?_ ?_
                      · refine TieS.seq ?_
                        refine TieS.region ?_
                        refine TieO.run 1 rfl ?_
                        refine TieO.nil ?_
                        exact TieS.ret ⟨(fun h => by cases h), rfl, rfl⟩
                      · refine TieS.skip ?_
                        refine TieS.endb ?_
                        refine TieS.region ?_
                        refine TieO.run 3 rfl ?_
                        refine TieO.nil ?_
                        exact TieS.leaf ⟨rfl, .of rfl rfl⟩
                    · exact TieS.exitOut rfl ⟨(fun h => by cases h), rfl, .of rfl rfl⟩
                  rintro (pulse2 | r8) e σ' _ hq
                  · obtain ⟨rfl, hs⟩ := hq
                    refine TieX.exit rfl (TieX.sub hs ?_)
                    refine TieS.endb ?_
                    exact TieS.leaf ⟨rfl, .of rfl rfl⟩
                  · obtain ⟨rfl, hs⟩ := hq
                    exact TieX.ret ⟨rfl, hs⟩
              rintro (t | t | t) e σ' _ hq
              · obtain ⟨rfl, hs⟩ := hq
                refine TieX.sub hs ?_
                refine TieS.region ?_
                refine TieO.run 2 rfl ?_
                refine TieO.nil ?_
                exact TieS.leaf ⟨rfl, .of rfl rfl⟩
              · obtain ⟨rfl, hs⟩ := hq
                exact TieX.exitOut rfl ⟨(fun h => by cases h), rfl, hs⟩
              · obtain ⟨rfl, hs⟩ := hq
                exact TieX.ret ⟨(fun h => by cases h), rfl, hs⟩
            · exact TieS.exitOut rfl ⟨(fun h => by cases h), rfl, .of rfl rfl⟩
          rintro (many2 | r9) e σ' _ hq
          · obtain ⟨rfl, hs⟩ := hq
            refine TieX.exit rfl (TieX.sub hs ?_)
            refine TieS.seq ?_
            refine TieS.region ?_
            refine TieO.run 5 rfl ?_
            refine TieO.nil ?_
            exact TieS.ret ⟨.inl rfl, rfl⟩
          · obtain ⟨rfl, hs⟩ := hq
            exact TieX.ret ⟨.inl rfl, hs⟩
-- magneto/events.Due$1
set_option maxRecDepth 100000 in
theorem tie_events_Due_1 (x : SEvent) : TieF Try.prog 55 [A_SEvent x] (events_Due_1 x) (fun r => .t (tB r)) := by
  refine TieF.intro htab 25 [.tmp 2] Try.call55 Try.func55 rfl rfl rfl (Nat.le_of_ble_eq_true rfl) fun w0 L => ?_
  refine TieS.seq ?_
  refine TieS.region ?_
  refine TieO.run 2 rfl ?_
  refine TieO.nil ?_
  refine TieS.seq ?_
  refine TieS.region ?_
  refine TieO.run 2 rfl ?_
  refine TieO.call _ rfl rfl rfl (tie_events_angle x.Angle) (fun _ => rfl) fun v => ?_
  refine TieO.run 2 rfl ?_
  refine TieO.bind 5 (fun b2 => ⟨[(1, .ptr 1 0), (12, .t (tB b2))], [(1, .box [.t (tI x.Angle), .t (tI x.Kind), .t (tI x.Cylinder), .t (tI x.Pulse)])]⟩) (TieO.split 7 rfl ?_ ?_) fun b2 _ => ?_
  · refine TieO.run 5 rfl ?_
    refine TieO.nil ?_
    exact TieS.leaf ⟨rfl, .of rfl rfl⟩
  · refine TieO.run 2 rfl ?_
    refine TieO.call _ rfl rfl rfl (tie_events_within x.Kind 1 4) (fun _ => rfl) fun v2 => ?_
    refine TieO.run 2 rfl ?_
    refine TieO.nil ?_
    exact TieS.leaf ⟨rfl, .of rfl rfl⟩
  refine TieO.run 1 rfl ?_
  refine TieO.bind 5 (fun b3 => ⟨[(1, .ptr 1 0), (18, .t (tB b3))], [(1, .box [.t (tI x.Angle), .t (tI x.Kind), .t (tI x.Cylinder), .t (tI x.Pulse)])]⟩) (TieO.split 13 rfl ?_ ?_) fun b3 _ => ?_
  · refine TieO.run 5 rfl ?_
    refine TieO.nil ?_
    exact TieS.leaf ⟨rfl, .of rfl rfl⟩
  · refine TieO.run 2 rfl ?_
    refine TieO.call _ rfl rfl rfl (tie_events_within x.Cylinder 1 8) (fun _ => rfl) fun v3 => ?_
    refine TieO.run 2 rfl ?_
    refine TieO.nil ?_
    exact TieS.leaf ⟨rfl, .of rfl rfl⟩
  refine TieO.run 1 rfl ?_
  refine TieO.bind 5 (fun b4 => ⟨[(24, .t (tB b4))], []⟩) (TieO.split 19 rfl ?_ ?_) fun b4 _ => ?_
  · refine TieO.run 5 rfl ?_
    refine TieO.nil ?_
    exact TieS.leaf ⟨rfl, .of rfl rfl⟩
  · refine TieO.run 2 rfl ?_
    refine TieO.call _ rfl rfl rfl (tie_events_within x.Pulse 0 2) (fun _ => rfl) fun v4 => ?_
    refine TieO.run 2 rfl ?_
    refine TieO.nil ?_
    exact TieS.leaf ⟨rfl, .of rfl rfl⟩
  refine TieO.run 1 rfl ?_
  refine TieO.nil ?_
  exact TieS.ret ⟨.inl rfl, rfl⟩
-- slices.IndexFunc[[]magneto/api.Event,magneto/api.Event]
set_option maxRecDepth 100000 in
theorem tie_slices_IndexFunc_sEvent (s : List SEvent) (n2 : Nat) (cs : List (List Tree)) (f2 : SEvent → Option Bool) (h2 : ∀ x0, TieF Try.prog n2 ([A_SEvent x0] ++ cs.map T.el) (f2 x0) (fun r => .t (tB r))) : TieF Try.prog 69 [.t (tS enc_SEvent s), .fz n2 cs] (slices_IndexFunc_sEvent s f2) (fun r => .t (tI r)) := by
  refine TieF.intro htab 19 [.tmp 4] Try.call69 Try.func69 rfl rfl rfl (Nat.le_of_ble_eq_true rfl) fun w0 L => ?_
  refine TieS.seq ?_
  refine TieS.region ?_
  refine TieO.run 1 rfl ?_
  refine TieO.nil ?_
  refine TieS.seq ?_
  refine TieS.seq ?_
  refine TieS.region ?_
  refine TieO.run 3 rfl ?_
  refine TieO.nil ?_
  refine TieS.block ?_
  refine TieS.loop (fun p => ⟨[(0, .t (tS enc_SEvent s)), (1, .fz n2 cs), (7, .t (tI (s.length : Int))), (8, .t (tI p.1))], []⟩) (fun b e σ' => match b with | .inl t => e = .exit 0 ∧ Sub ⟨[], []⟩ σ' | .inr t => e = .ret ∧ retT tab σ' [.tmp 4] = some (((fun r => .t (tI r)) : Int → T) t)) (.of rfl rfl) ?_ ?_
  · rintro ⟨i, s2⟩
    refine TieS.seq ?_
    refine TieS.region ?_
    refine TieO.run 1 rfl ?_
    refine TieO.nil ?_
    refine TieS.seq ?_
    refine TieS.cond rfl ?_ ?_
    · refine TieS.skip ?_
      refine TieS.seq ?_
      refine TieX.sub (σ' := ⟨[(0, .t (tS enc_SEvent s)), (1, .fz n2 cs), (7, .t (tI (s.length : Int))), (8, .t (tI i))], []⟩) (.of rfl rfl) ?_
      refine TieS.bind (Q₁ := fun f e σ' => match f with | .next t => e = .normal ∧ Sub ⟨[(0, .t (tS enc_SEvent s)), (1, .fz n2 cs), (7, .t (tI (s.length : Int))), (8, .t (tI i))], []⟩ σ' | .brk t => e = .exit 0 ∧ Sub ⟨[], []⟩ σ' | .ret t => e = .ret ∧ retT tab σ' [.tmp 4] = some (((fun r => .t (tI r)) : Int → T) t)) ?_ ?_
      · refine TieS.block ?_
        refine TieS.seq ?_
        refine TieS.region ?_
        refine TieO.run 2 rfl ?_
        refine TieO.nil ?_
        refine TieS.seq ?_
        refine TieS.region ?_
        refine TieO.run 3 rfl ?_
        refine TieO.index rfl rfl rfl rfl rfl rfl rfl rfl (fun _ => rfl) fun x hx => ?_
        refine TieO.run 1 rfl ?_
        refine TieO.call _ rfl rfl rfl (h2 x) (fun _ => rfl) fun v => ?_
        refine TieO.nil ?_
        refine TieS.cond rfl ?_ ?_
        · refine TieS.seq ?_
          refine TieS.region ?_
          refine TieO.run 2 rfl ?_
          refine TieO.nil ?_
          exact TieS.ret ⟨rfl, rfl⟩
        · refine TieS.skip ?_
          refine TieS.endb ?_
          exact TieS.leaf ⟨rfl, .of rfl rfl⟩
      rintro (t | t | t) e σ' _ hq
      · obtain ⟨rfl, hs⟩ := hq
        refine TieX.sub hs ?_
        refine TieS.region ?_
        refine TieO.run 2 rfl ?_
        refine TieO.nil ?_
        exact TieS.leaf ⟨rfl, .of rfl rfl⟩
      · obtain ⟨rfl, hs⟩ := hq
        exact TieX.exitOut rfl ⟨(fun h => by cases h), rfl, hs⟩
      · obtain ⟨rfl, hs⟩ := hq
        exact TieX.ret ⟨(fun h => by cases h), rfl, hs⟩
    · exact TieS.exitOut rfl ⟨(fun h => by cases h), rfl, .of rfl rfl⟩
  rintro (s3 | r2) e σ' _ hq
  · obtain ⟨rfl, hs⟩ := hq
    refine TieX.exit rfl (TieX.sub hs ?_)
    refine TieS.seq ?_
    refine TieS.region ?_
    refine TieO.run 1 rfl ?_
    refine TieO.nil ?_
    exact TieS.ret ⟨.inl rfl, rfl⟩
  · obtain ⟨rfl, hs⟩ := hq
    exact TieX.ret ⟨.inl rfl, hs⟩
-- slices.ContainsFunc[[]magneto/api.Event,magneto/api.Event]
set_option maxRecDepth 100000 in
theorem tie_slices_ContainsFunc_sEvent (s : List SEvent) (n2 : Nat) (cs : List (List Tree)) (f2 : SEvent → Option Bool) (h2 : ∀ x0, TieF Try.prog n2 ([A_SEvent x0] ++ cs.map T.el) (f2 x0) (fun r => .t (tB r))) : TieF Try.prog 56 [.t (tS enc_SEvent s), .fz n2 cs] (slices_ContainsFunc_sEvent s f2) (fun r => .t (tB r)) := by
  refine TieF.intro htab 9 [.tmp 4] Try.call56 Try.func56 rfl rfl rfl (Nat.le_of_ble_eq_true rfl) fun w0 L => ?_
  refine TieS.seq ?_
  refine TieS.region ?_
  refine TieO.run 1 rfl ?_
  refine TieO.nil ?_
  refine TieS.seq ?_
  refine TieS.region ?_
  refine TieO.run 2 rfl ?_
  refine TieO.call _ rfl rfl rfl (tie_slices_IndexFunc_sEvent s n2 cs f2 h2) (fun _ => rfl) fun v => ?_
  refine TieO.run 2 rfl ?_
  refine TieO.nil ?_
  exact TieS.ret ⟨.inl rfl, rfl⟩
-- slices.insertionSortCmpFunc[int]
set_option maxRecDepth 100000 in
theorem tie_slices_insertionSortCmpFunc_int (data : List Int) (a : Int) (b2 : Int) (n2 : Nat) (cs : List (List Tree)) (cmp : Int → Int → Option Int) (h2 : ∀ x0 x1, TieF Try.prog n2 ([.t (tI x0), .t (tI x1)] ++ cs.map T.el) (cmp x0 x1) (fun r => .t (tI r))) : TieG Try.prog 91 [.own 1000000, .t (tI a), .t (tI b2), .fz n2 cs] [(1000000, .rows 3 1 data.length (data.map Pv.encI))] (slices_insertionSortCmpFunc_int data a b2 cmp) (fun _ => .tup []) (fun r => [(1000000, .rows 3 1 r.length (r.map Pv.encI))]) := by
  refine TieG.intro htab 53 [] Try.call91 Try.func91 rfl rfl rfl (Nat.le_of_ble_eq_true rfl) fun w0 L => ?_
  refine TieS.seq ?_
  refine TieS.region ?_
  refine TieO.run 3 rfl ?_
  refine TieO.nil ?_
  refine TieS.block ?_
  refine TieS.loop (fun t => ⟨[(0, .own 1000000), (1, .t (tI a)), (2, .t (tI b2)), (3, .fz n2 cs), (8, .t (tI t.1))], [(1000000, .rows 3 1 t.2.length (t.2.map Pv.encI))]⟩) (fun b e σ' => match b with | .inl t => e = .exit 0 ∧ Sub ⟨[], [(1000000, .rows 3 1 t.2.length (t.2.map Pv.encI))]⟩ σ' | .inr t => False) (.of rfl rfl) ?_ ?_
  · intro s
    refine TieS.seq ?_
    refine TieS.seq ?_
    refine TieS.region ?_
    refine TieO.run 3 rfl ?_
    refine TieO.nil ?_
    refine TieS.cond rfl ?_ ?_
    · refine TieS.skip ?_
      refine TieS.seq ?_
      refine TieS.block ?_
      refine TieS.seq ?_
      refine TieS.region ?_
      refine TieO.run 2 rfl ?_
      refine TieO.nil ?_
      refine TieS.block ?_
      refine TieS.loop (fun t => ⟨[(0, .own 1000000), (1, .t (tI a)), (2, .t (tI b2)), (3, .fz n2 cs), (8, .t (tI s.1)), (9, .t (tI t.1))], [(1000000, .rows 3 1 t.2.length (t.2.map Pv.encI))]⟩) (fun b e σ' => match b with | .inl t => e = .exit 2 ∧ Sub ⟨[(0, .own 1000000), (1, .t (tI a)), (2, .t (tI b2)), (3, .fz n2 cs), (8, .t (tI s.1))], [(1000000, .rows 3 1 t.2.length (t.2.map Pv.encI))]⟩ σ' | .inr t => False) (.of rfl rfl) ?_ ?_
      · intro s2
        refine TieS.seq ?_
        refine TieS.seq ?_
        refine TieS.bind (Q₁ := fun t e σ' => e = .normal ∧ Sub ⟨[(0, .own 1000000), (1, .t (tI a)), (2, .t (tI b2)), (3, .fz n2 cs), (8, .t (tI s.1)), (9, .t (tI s2.1)), (34, .t (tB t))], [(1000000, .rows 3 1 s2.2.length (s2.2.map Pv.encI))]⟩ σ') ?_ ?_
        · refine TieX.split (fun hg => ?_) (fun hg2 => ?_)
          · refine TieX.pre fun x hx => ?_
            refine TieX.pre fun x2 hx2 => ?_
            refine TieX.pre fun v hv => ?_
            refine TieS.draw 17 [.t (tI s2.1), .t (tI a), .t (tB (decide (s2.1 > a))), .t (tB true), .fz n2 cs, .own 1000000, .t (tI s2.1), .pe 1000000 (Int.toNat s2.1) 1 0, .t (tI x), .own 1000000, .t (tI s2.1), .t (tI (w64 (s2.1 - 1))), .pe 1000000 (Int.toNat (w64 (s2.1 - 1))) 1 0, .t (tI x2), .t (tI v), .t (tB (decide (v < 0))), .t (tB (decide (v < 0)))] [(0, .own 1000000), (1, .t (tI a)), (2, .t (tI b2)), (3, .fz n2 cs), (8, .t (tI s.1)), (9, .t (tI s2.1))] [(1000000, .rows 3 1 s2.2.length (s2.2.map Pv.encI))] mixed (.of rfl rfl) rfl rfl rfl rfl (.cons (.quiet rfl rfl rfl) (.cons (.quiet rfl rfl rfl) (.cons (.quiet rfl rfl rfl) (.cons (.cast (congrArg T.B hg) (.quiet rfl rfl rfl)) (.cons (.quiet rfl rfl rfl) (.cons (.quiet rfl rfl rfl) (.cons (.quiet rfl rfl rfl) (.cons (.indexO (sz := 1) hx rfl rfl rfl rfl rfl rfl rfl rfl) (.cons (.loadY hx rfl rfl rfl rfl rfl rfl) (.cons (.quiet rfl rfl rfl) (.cons (.quiet rfl rfl rfl) (.cons (.quiet rfl rfl rfl) (.cons (.indexO (sz := 1) hx2 rfl rfl rfl rfl rfl rfl rfl rfl) (.cons (.loadY hx2 rfl rfl rfl rfl rfl rfl) (.cons (.callV (h2 x x2) hv rfl rfl rfl rfl) (.cons (.quiet rfl rfl rfl) (.cons (.quiet rfl rfl rfl) (.nil)))))))))))))))))) ?_
            refine TieO.nil ?_
            exact TieS.leaf ⟨rfl, .of rfl rfl⟩
          · refine TieS.draw 17 [.t (tI s2.1), .t (tI a), .t (tB (decide (s2.1 > a))), .t (tB false), .t (.v undef), .t (.v undef), .t (.v undef), .t (.v undef), .t (.v undef), .t (.v undef), .t (.v undef), .t (.v undef), .t (.v undef), .t (.v undef), .t (.v undef), .t (.v undef), .t (tB false)] [(0, .own 1000000), (1, .t (tI a)), (2, .t (tI b2)), (3, .fz n2 cs), (8, .t (tI s.1)), (9, .t (tI s2.1))] [(1000000, .rows 3 1 s2.2.length (s2.2.map Pv.encI))] mixed (.of rfl rfl) rfl rfl rfl rfl (.cons (.quiet rfl rfl rfl) (.cons (.quiet rfl rfl rfl) (.cons (.quiet rfl rfl rfl) (.cons (.cast (congrArg T.B hg2) (.quiet rfl rfl rfl)) (.cons (.skip rfl) (.cons (.skip rfl) (.cons (.skip rfl) (.cons (.skip rfl) (.cons (.skip rfl) (.cons (.skip rfl) (.cons (.skip rfl) (.cons (.skip rfl) (.cons (.skip rfl) (.cons (.skip rfl) (.cons (.skip rfl) (.cons (.skip rfl) (.cons (.quiet rfl rfl rfl) (.nil)))))))))))))))))) ?_
            refine TieO.nil ?_
            exact TieS.leaf ⟨rfl, .of rfl rfl⟩
        rintro v2 e σ' _ ⟨rfl, hs⟩
        refine TieX.sub hs ?_
        refine TieS.cond rfl ?_ ?_
        · refine TieS.skip ?_
          refine TieS.seq ?_
          refine TieS.block ?_
          refine TieS.bind (Q₁ := fun t e σ' => e = .normal ∧ Sub ⟨[(0, .own 1000000), (1, .t (tI a)), (2, .t (tI b2)), (3, .fz n2 cs), (8, .t (tI s.1)), (9, .t (tI s2.1))], [(1000000, .rows 3 1 t.length (t.map Pv.encI))]⟩ σ') ?_ ?_
          · refine TieX.pre fun x3 hx3 => ?_
            refine TieX.pre fun x4 hx4 => ?_
            refine TieX.pre fun l hl => ?_
            refine TieS.draws 16 [false, false, false, false, false, false, false, false, false, false, false, false, false, false, false, false, false, false] [true, true, true, true, true, true, true, true, true, true, true, true, true, true, true, true, false, false] ⟨[(0, .own 1000000), (1, .t (tI a)), (2, .t (tI b2)), (3, .fz n2 cs), (8, .t (tI s.1)), (9, .t (tI s2.1)), (37, .own 1000000), (38, .t (tI s2.1)), (39, .own 1000000), (40, .t (tI s2.1)), (41, .t (tI (w64 (s2.1 - 1)))), (42, .own 1000000), (43, .t (tI s2.1)), (44, .t (tI (w64 (s2.1 - 1)))), (45, .pe 1000000 (Int.toNat (w64 (s2.1 - 1))) 1 0), (46, .t (tI x3)), (47, .own 1000000), (48, .t (tI s2.1)), (49, .pe 1000000 (Int.toNat s2.1) 1 0), (50, .t (tI x4)), (51, .pe 1000000 (Int.toNat s2.1) 1 0)], [(1000000, .rows 3 1 l.length (l.map Pv.encI))]⟩ mixed (fun _ _ _ h => by cases h.1) rfl rfl rfl rfl ?_ ?_
            · refine TieA.have_ (fuel₁ := 2) (l₁ := [true, true, true, true, true, true, true, true, true, true, true, true, true, true, true, true, false, false]) (σ₁ := ⟨[(0, .own 1000000), (1, .t (tI a)), (2, .t (tI b2)), (3, .fz n2 cs), (8, .t (tI s.1)), (9, .t (tI s2.1)), (37, .own 1000000), (38, .t (tI s2.1)), (39, .own 1000000), (40, .t (tI s2.1)), (41, .t (tI (w64 (s2.1 - 1)))), (42, .own 1000000), (43, .t (tI s2.1)), (44, .t (tI (w64 (s2.1 - 1)))), (45, .pe 1000000 (Int.toNat (w64 (s2.1 - 1))) 1 0), (46, .t (tI x3)), (47, .own 1000000), (48, .t (tI s2.1)), (49, .pe 1000000 (Int.toNat s2.1) 1 0), (50, .t (tI x4)), (51, .pe 1000000 (Int.toNat s2.1) 1 0)], [(1000000, .rows 3 1 l.length (l.map Pv.encI))]⟩) ?_ fun A_3 => ?_
              · exact TieA.done (.of rfl rfl)
              refine TieA.have_ (fuel₁ := 4) (l₁ := [true, true, true, true, true, true, true, true, true, true, true, true, true, true, false, false, false, false]) (σ₁ := ⟨[(0, .own 1000000), (1, .t (tI a)), (2, .t (tI b2)), (3, .fz n2 cs), (8, .t (tI s.1)), (9, .t (tI s2.1)), (37, .own 1000000), (38, .t (tI s2.1)), (39, .own 1000000), (40, .t (tI s2.1)), (41, .t (tI (w64 (s2.1 - 1)))), (42, .own 1000000), (43, .t (tI s2.1)), (44, .t (tI (w64 (s2.1 - 1)))), (45, .pe 1000000 (Int.toNat (w64 (s2.1 - 1))) 1 0), (46, .t (tI x3)), (47, .own 1000000), (48, .t (tI s2.1)), (49, .pe 1000000 (Int.toNat s2.1) 1 0), (50, .t (tI x4))], [(1000000, .rows 3 1 s2.2.length (s2.2.map Pv.encI))]⟩) ?_ fun A_2 => ?_
              · refine TieA.idx 14 [true, true, true, true, true, true, true, true, true, true, true, true, true, true, true, false, false, false] hx4 rfl rfl rfl rfl rfl rfl (by kernel_rfl) (by kernel_rfl) (by kernel_rfl) rfl rfl rfl rfl rfl rfl ?_
                refine TieA.all [15] (by kernel_rfl) rfl ?_
                refine AllA.cons (σ₁ := ⟨[(0, .own 1000000), (1, .t (tI a)), (2, .t (tI b2)), (3, .fz n2 cs), (8, .t (tI s.1)), (9, .t (tI s2.1)), (37, .own 1000000), (38, .t (tI s2.1)), (39, .own 1000000), (40, .t (tI s2.1)), (41, .t (tI (w64 (s2.1 - 1)))), (42, .own 1000000), (43, .t (tI s2.1)), (44, .t (tI (w64 (s2.1 - 1)))), (45, .pe 1000000 (Int.toNat (w64 (s2.1 - 1))) 1 0), (46, .t (tI x3)), (47, .own 1000000), (48, .t (tI s2.1)), (49, .pe 1000000 (Int.toNat s2.1) 1 0), (50, .t (tI x4)), (51, .pe 1000000 (Int.toNat s2.1) 1 0)], [(1000000, .rows 3 1 l.length (l.map Pv.encI))]⟩) [true, true, true, true, true, true, true, true, true, true, true, true, true, true, true, true, false, false] rfl rfl ?_ A_3 ?_
                · refine TieO.withH hl (TieO.storeY x3 [tI x3] hx4 rfl rfl rfl rfl rfl rfl rfl rfl rfl rfl rfl rfl (TieO.ifG ?_))
                  exact TieO.nil (TieS.leaf ⟨rfl, .of rfl rfl⟩)
                exact AllA.nil
              refine TieA.have_ (fuel₁ := 5) (l₁ := [true, true, true, true, true, true, true, true, true, true, true, true, true, false, false, false, false, false]) (σ₁ := ⟨[(0, .own 1000000), (1, .t (tI a)), (2, .t (tI b2)), (3, .fz n2 cs), (8, .t (tI s.1)), (9, .t (tI s2.1)), (37, .own 1000000), (38, .t (tI s2.1)), (39, .own 1000000), (40, .t (tI s2.1)), (41, .t (tI (w64 (s2.1 - 1)))), (42, .own 1000000), (43, .t (tI s2.1)), (44, .t (tI (w64 (s2.1 - 1)))), (45, .pe 1000000 (Int.toNat (w64 (s2.1 - 1))) 1 0), (46, .t (tI x3)), (47, .own 1000000), (48, .t (tI s2.1)), (49, .pe 1000000 (Int.toNat s2.1) 1 0)], [(1000000, .rows 3 1 s2.2.length (s2.2.map Pv.encI))]⟩) ?_ fun A_1 => ?_
              · refine TieA.all [13] (by kernel_rfl) rfl ?_
                refine AllA.cons (σ₁ := ⟨[(0, .own 1000000), (1, .t (tI a)), (2, .t (tI b2)), (3, .fz n2 cs), (8, .t (tI s.1)), (9, .t (tI s2.1)), (37, .own 1000000), (38, .t (tI s2.1)), (39, .own 1000000), (40, .t (tI s2.1)), (41, .t (tI (w64 (s2.1 - 1)))), (42, .own 1000000), (43, .t (tI s2.1)), (44, .t (tI (w64 (s2.1 - 1)))), (45, .pe 1000000 (Int.toNat (w64 (s2.1 - 1))) 1 0), (46, .t (tI x3)), (47, .own 1000000), (48, .t (tI s2.1)), (49, .pe 1000000 (Int.toNat s2.1) 1 0), (50, .t (tI x4))], [(1000000, .rows 3 1 s2.2.length (s2.2.map Pv.encI))]⟩) [true, true, true, true, true, true, true, true, true, true, true, true, true, true, false, false, false, false] rfl rfl ?_ A_2 ?_
                · refine TieO.loadY hx4 rfl rfl rfl rfl rfl rfl rfl rfl ?_
                  exact TieO.nil (TieS.leaf ⟨rfl, .of rfl rfl⟩)
                exact AllA.nil
              refine TieA.have_ (fuel₁ := 5) (l₁ := [true, true, true, true, true, true, true, true, true, false, true, true, true, true, false, false, false, false]) (σ₁ := ⟨[(0, .own 1000000), (1, .t (tI a)), (2, .t (tI b2)), (3, .fz n2 cs), (8, .t (tI s.1)), (9, .t (tI s2.1)), (37, .own 1000000), (38, .t (tI s2.1)), (39, .own 1000000), (40, .t (tI s2.1)), (41, .t (tI (w64 (s2.1 - 1)))), (42, .own 1000000), (43, .t (tI s2.1)), (44, .t (tI (w64 (s2.1 - 1)))), (45, .pe 1000000 (Int.toNat (w64 (s2.1 - 1))) 1 0), (47, .own 1000000), (48, .t (tI s2.1)), (49, .pe 1000000 (Int.toNat s2.1) 1 0), (50, .t (tI x4))], [(1000000, .rows 3 1 s2.2.length (s2.2.map Pv.encI))]⟩) ?_ fun A_4 => ?_
              · refine TieA.all [9] (by kernel_rfl) rfl ?_
                refine AllA.cons (σ₁ := ⟨[(0, .own 1000000), (1, .t (tI a)), (2, .t (tI b2)), (3, .fz n2 cs), (8, .t (tI s.1)), (9, .t (tI s2.1)), (37, .own 1000000), (38, .t (tI s2.1)), (39, .own 1000000), (40, .t (tI s2.1)), (41, .t (tI (w64 (s2.1 - 1)))), (42, .own 1000000), (43, .t (tI s2.1)), (44, .t (tI (w64 (s2.1 - 1)))), (45, .pe 1000000 (Int.toNat (w64 (s2.1 - 1))) 1 0), (46, .t (tI x3)), (47, .own 1000000), (48, .t (tI s2.1)), (49, .pe 1000000 (Int.toNat s2.1) 1 0), (50, .t (tI x4))], [(1000000, .rows 3 1 s2.2.length (s2.2.map Pv.encI))]⟩) [true, true, true, true, true, true, true, true, true, true, true, true, true, true, false, false, false, false] rfl rfl ?_ A_2 ?_
                · refine TieO.loadY hx3 rfl rfl rfl rfl rfl rfl rfl rfl ?_
                  exact TieO.nil (TieS.leaf ⟨rfl, .of rfl rfl⟩)
                exact AllA.nil
              refine TieA.move 0 [true, false, false, false, false, false, false, false, false, false, false, false, false, false, false, false, false, false] rfl rfl (by first | exact .inl rfl | exact .inr rfl) rfl rfl rfl (by kernel_rfl) (by kernel_rfl) (by kernel_rfl) rfl ?_
              refine TieA.move 1 [true, true, false, false, false, false, false, false, false, false, false, false, false, false, false, false, false, false] rfl rfl (by first | exact .inl rfl | exact .inr rfl) rfl rfl rfl (by kernel_rfl) (by kernel_rfl) (by kernel_rfl) rfl ?_
              refine TieA.move 2 [true, true, true, false, false, false, false, false, false, false, false, false, false, false, false, false, false, false] rfl rfl (by first | exact .inl rfl | exact .inr rfl) rfl rfl rfl (by kernel_rfl) (by kernel_rfl) (by kernel_rfl) rfl ?_
              refine TieA.move 3 [true, true, true, true, false, false, false, false, false, false, false, false, false, false, false, false, false, false] rfl rfl (by first | exact .inl rfl | exact .inr rfl) rfl rfl rfl (by kernel_rfl) (by kernel_rfl) (by kernel_rfl) rfl ?_
              refine TieA.bin (V := .t (tI (w64 (s2.1 - 1)))) 4 [true, true, true, true, true, false, false, false, false, false, false, false, false, false, false, false, false, false] rfl rfl rfl rfl rfl rfl (by kernel_rfl) (by kernel_rfl) (by kernel_rfl) rfl rfl rfl rfl ?_
              refine TieA.move 5 [true, true, true, true, true, true, false, false, false, false, false, false, false, false, false, false, false, false] rfl rfl (by first | exact .inl rfl | exact .inr rfl) rfl rfl rfl (by kernel_rfl) (by kernel_rfl) (by kernel_rfl) rfl ?_
              refine TieA.move 6 [true, true, true, true, true, true, true, false, false, false, false, false, false, false, false, false, false, false] rfl rfl (by first | exact .inl rfl | exact .inr rfl) rfl rfl rfl (by kernel_rfl) (by kernel_rfl) (by kernel_rfl) rfl ?_
              refine TieA.bin (V := .t (tI (w64 (s2.1 - 1)))) 7 [true, true, true, true, true, true, true, true, false, false, false, false, false, false, false, false, false, false] rfl rfl rfl rfl rfl rfl (by kernel_rfl) (by kernel_rfl) (by kernel_rfl) rfl rfl rfl rfl ?_
              refine TieA.idx 8 [true, true, true, true, true, true, true, true, true, false, false, false, false, false, false, false, false, false] hx3 rfl rfl rfl rfl rfl rfl (by kernel_rfl) (by kernel_rfl) (by kernel_rfl) rfl rfl rfl rfl rfl rfl ?_
              refine TieA.move 10 [true, true, true, true, true, true, true, true, true, false, true, false, false, false, false, false, false, false] rfl rfl (by first | exact .inl rfl | exact .inr rfl) rfl rfl rfl (by kernel_rfl) (by kernel_rfl) (by kernel_rfl) rfl ?_
              refine TieA.move 11 [true, true, true, true, true, true, true, true, true, false, true, true, false, false, false, false, false, false] rfl rfl (by first | exact .inl rfl | exact .inr rfl) rfl rfl rfl (by kernel_rfl) (by kernel_rfl) (by kernel_rfl) rfl ?_
              refine TieA.idx 12 [true, true, true, true, true, true, true, true, true, false, true, true, true, false, false, false, false, false] hx4 rfl rfl rfl rfl rfl rfl (by kernel_rfl) (by kernel_rfl) (by kernel_rfl) rfl rfl rfl rfl rfl rfl ?_
              refine TieA.all [9, 13] (by kernel_rfl) rfl ?_
              refine AllA.cons (σ₁ := ⟨[(0, .own 1000000), (1, .t (tI a)), (2, .t (tI b2)), (3, .fz n2 cs), (8, .t (tI s.1)), (9, .t (tI s2.1)), (37, .own 1000000), (38, .t (tI s2.1)), (39, .own 1000000), (40, .t (tI s2.1)), (41, .t (tI (w64 (s2.1 - 1)))), (42, .own 1000000), (43, .t (tI s2.1)), (44, .t (tI (w64 (s2.1 - 1)))), (45, .pe 1000000 (Int.toNat (w64 (s2.1 - 1))) 1 0), (46, .t (tI x3)), (47, .own 1000000), (48, .t (tI s2.1)), (49, .pe 1000000 (Int.toNat s2.1) 1 0)], [(1000000, .rows 3 1 s2.2.length (s2.2.map Pv.encI))]⟩) [true, true, true, true, true, true, true, true, true, true, true, true, true, false, false, false, false, false] rfl rfl ?_ A_1 ?_
              · refine TieO.loadY hx3 rfl rfl rfl rfl rfl rfl rfl rfl ?_
                exact TieO.nil (TieS.leaf ⟨rfl, .of rfl rfl⟩)
              refine AllA.cons (σ₁ := ⟨[(0, .own 1000000), (1, .t (tI a)), (2, .t (tI b2)), (3, .fz n2 cs), (8, .t (tI s.1)), (9, .t (tI s2.1)), (37, .own 1000000), (38, .t (tI s2.1)), (39, .own 1000000), (40, .t (tI s2.1)), (41, .t (tI (w64 (s2.1 - 1)))), (42, .own 1000000), (43, .t (tI s2.1)), (44, .t (tI (w64 (s2.1 - 1)))), (45, .pe 1000000 (Int.toNat (w64 (s2.1 - 1))) 1 0), (47, .own 1000000), (48, .t (tI s2.1)), (49, .pe 1000000 (Int.toNat s2.1) 1 0), (50, .t (tI x4))], [(1000000, .rows 3 1 s2.2.length (s2.2.map Pv.encI))]⟩) [true, true, true, true, true, true, true, true, true, false, true, true, true, true, false, false, false, false] rfl rfl ?_ A_4 ?_
              · refine TieO.loadY hx4 rfl rfl rfl rfl rfl rfl rfl rfl ?_
                exact TieO.nil (TieS.leaf ⟨rfl, .of rfl rfl⟩)
              exact AllA.nil
            refine TieO.indexO rfl rfl rfl rfl rfl rfl rfl rfl rfl rfl fun x5 hx5 => ?_
            refine TieO.storeY x4 [tI x4] hx5 rfl rfl rfl rfl rfl rfl rfl rfl rfl rfl rfl rfl fun l2 hl2 => ?_
            refine TieO.nil ?_
            exact TieS.leaf ⟨rfl, .of rfl rfl⟩
          rintro f2 e σ' _ ⟨rfl, hs⟩
          refine TieX.sub hs ?_
          refine TieS.endb ?_
          refine TieS.region ?_
          refine TieO.run 3 rfl ?_
          refine TieO.nil ?_
          exact TieS.leaf ⟨rfl, .of rfl rfl⟩
        · exact TieS.exitOut rfl ⟨(fun h => by cases h), rfl, .of rfl rfl⟩
      rintro (s3 | r) e σ' _ hq
      · obtain ⟨rfl, hs⟩ := hq
        refine TieX.exit rfl (TieX.sub hs ?_)
        refine TieS.endb ?_
        refine TieS.region ?_
        refine TieO.run 3 rfl ?_
        refine TieO.nil ?_
        exact TieS.leaf ⟨rfl, .of rfl rfl⟩
      · exact hq.elim
    · exact TieS.exitOut rfl ⟨(fun h => by cases h), rfl, .of rfl rfl⟩
  rintro (s4 | r) e σ' _ hq
  · obtain ⟨rfl, hs⟩ := hq
    refine TieX.exit rfl (TieX.sub hs ?_)
    exact TieS.leaf ⟨.inr rfl, ⟨[(1000000, 1000000)], _, _, rfl, rfl, rfl, rfl, rfl⟩⟩
  · exact hq.elim
-- slices.swapRangeCmpFunc[int]
set_option maxRecDepth 100000 in
theorem tie_slices_swapRangeCmpFunc_int (data : List Int) (a : Int) (b2 : Int) (n2 : Int) (n3 : Nat) (cs : List (List Tree)) (cmp : Int → Int → Option Int) (h2 : ∀ x0 x1, TieF Try.prog n3 ([.t (tI x0), .t (tI x1)] ++ cs.map T.el) (cmp x0 x1) (fun r => .t (tI r))) : TieG Try.prog 104 [.own 1000000, .t (tI a), .t (tI b2), .t (tI n2), .fz n3 cs] [(1000000, .rows 3 1 data.length (data.map Pv.encI))] (slices_swapRangeCmpFunc_int data a b2 n2 cmp) (fun _ => .tup []) (fun r => [(1000000, .rows 3 1 r.length (r.map Pv.encI))]) := by
  refine TieG.intro htab 38 [] Try.call104 Try.func104 rfl rfl rfl (Nat.le_of_ble_eq_true rfl) fun w0 L => ?_
  refine TieS.seq ?_
  refine TieS.region ?_
  refine TieO.run 1 rfl ?_
  refine TieO.nil ?_
  refine TieS.block ?_
  refine TieS.loop (fun t => ⟨[(0, .own 1000000), (1, .t (tI a)), (2, .t (tI b2)), (3, .t (tI n2)), (10, .t (tI t.1))], [(1000000, .rows 3 1 t.2.length (t.2.map Pv.encI))]⟩) (fun b e σ' => match b with | .inl t => e = .exit 0 ∧ Sub ⟨[], [(1000000, .rows 3 1 t.2.length (t.2.map Pv.encI))]⟩ σ' | .inr t => False) (.of rfl rfl) ?_ ?_
  · intro s
    refine TieS.seq ?_
    refine TieS.seq ?_
    refine TieS.region ?_
    refine TieO.run 3 rfl ?_
    refine TieO.nil ?_
    refine TieS.cond rfl ?_ ?_
    · refine TieS.skip ?_
      refine TieS.seq ?_
      refine TieS.block ?_
      refine TieS.bind (Q₁ := fun t e σ' => e = .normal ∧ Sub ⟨[(0, .own 1000000), (1, .t (tI a)), (2, .t (tI b2)), (3, .t (tI n2)), (10, .t (tI s.1))], [(1000000, .rows 3 1 t.length (t.map Pv.encI))]⟩ σ') ?_ ?_
      · refine TieX.pre fun x hx => ?_
        refine TieX.pre fun x2 hx2 => ?_
        refine TieX.pre fun l hl => ?_
        refine TieS.draws 22 [false, false, false, false, false, false, false, false, false, false, false, false, false, false, false, false, false, false, false, false, false, false, false, false] [true, true, true, true, true, true, true, true, true, true, true, true, true, true, true, true, true, true, true, true, true, true, false, false] ⟨[(0, .own 1000000), (1, .t (tI a)), (2, .t (tI b2)), (3, .t (tI n2)), (10, .t (tI s.1)), (16, .own 1000000), (17, .t (tI a)), (18, .t (tI s.1)), (19, .t (tI (w64 (a + s.1)))), (20, .own 1000000), (21, .t (tI b2)), (22, .t (tI s.1)), (23, .t (tI (w64 (b2 + s.1)))), (24, .own 1000000), (25, .t (tI b2)), (26, .t (tI s.1)), (27, .t (tI (w64 (b2 + s.1)))), (28, .pe 1000000 (Int.toNat (w64 (b2 + s.1))) 1 0), (29, .t (tI x)), (30, .own 1000000), (31, .t (tI a)), (32, .t (tI s.1)), (33, .t (tI (w64 (a + s.1)))), (34, .pe 1000000 (Int.toNat (w64 (a + s.1))) 1 0), (35, .t (tI x2)), (36, .pe 1000000 (Int.toNat (w64 (a + s.1))) 1 0)], [(1000000, .rows 3 1 l.length (l.map Pv.encI))]⟩ mixed (fun _ _ _ h => by cases h.1) rfl rfl rfl rfl ?_ ?_
        · refine TieA.have_ (fuel₁ := 2) (l₁ := [true, true, true, true, true, true, true, true, true, true, true, true, true, true, true, true, true, true, true, true, true, true, false, false]) (σ₁ := ⟨[(0, .own 1000000), (1, .t (tI a)), (2, .t (tI b2)), (3, .t (tI n2)), (10, .t (tI s.1)), (16, .own 1000000), (17, .t (tI a)), (18, .t (tI s.1)), (19, .t (tI (w64 (a + s.1)))), (20, .own 1000000), (21, .t (tI b2)), (22, .t (tI s.1)), (23, .t (tI (w64 (b2 + s.1)))), (24, .own 1000000), (25, .t (tI b2)), (26, .t (tI s.1)), (27, .t (tI (w64 (b2 + s.1)))), (28, .pe 1000000 (Int.toNat (w64 (b2 + s.1))) 1 0), (29, .t (tI x)), (30, .own 1000000), (31, .t (tI a)), (32, .t (tI s.1)), (33, .t (tI (w64 (a + s.1)))), (34, .pe 1000000 (Int.toNat (w64 (a + s.1))) 1 0), (35, .t (tI x2)), (36, .pe 1000000 (Int.toNat (w64 (a + s.1))) 1 0)], [(1000000, .rows 3 1 l.length (l.map Pv.encI))]⟩) ?_ fun A_3 => ?_
          · exact TieA.done (.of rfl rfl)
          refine TieA.have_ (fuel₁ := 4) (l₁ := [true, true, true, true, true, true, true, true, true, true, true, true, true, true, true, true, true, true, true, true, false, false, false, false]) (σ₁ := ⟨[(0, .own 1000000), (1, .t (tI a)), (2, .t (tI b2)), (3, .t (tI n2)), (10, .t (tI s.1)), (16, .own 1000000), (17, .t (tI a)), (18, .t (tI s.1)), (19, .t (tI (w64 (a + s.1)))), (20, .own 1000000), (21, .t (tI b2)), (22, .t (tI s.1)), (23, .t (tI (w64 (b2 + s.1)))), (24, .own 1000000), (25, .t (tI b2)), (26, .t (tI s.1)), (27, .t (tI (w64 (b2 + s.1)))), (28, .pe 1000000 (Int.toNat (w64 (b2 + s.1))) 1 0), (29, .t (tI x)), (30, .own 1000000), (31, .t (tI a)), (32, .t (tI s.1)), (33, .t (tI (w64 (a + s.1)))), (34, .pe 1000000 (Int.toNat (w64 (a + s.1))) 1 0), (35, .t (tI x2))], [(1000000, .rows 3 1 s.2.length (s.2.map Pv.encI))]⟩) ?_ fun A_2 => ?_
          · refine TieA.idx 20 [true, true, true, true, true, true, true, true, true, true, true, true, true, true, true, true, true, true, true, true, true, false, false, false] hx2 rfl rfl rfl rfl rfl rfl (by kernel_rfl) (by kernel_rfl) (by kernel_rfl) rfl rfl rfl rfl rfl rfl ?_
            refine TieA.all [21] (by kernel_rfl) rfl ?_
            refine AllA.cons (σ₁ := ⟨[(0, .own 1000000), (1, .t (tI a)), (2, .t (tI b2)), (3, .t (tI n2)), (10, .t (tI s.1)), (16, .own 1000000), (17, .t (tI a)), (18, .t (tI s.1)), (19, .t (tI (w64 (a + s.1)))), (20, .own 1000000), (21, .t (tI b2)), (22, .t (tI s.1)), (23, .t (tI (w64 (b2 + s.1)))), (24, .own 1000000), (25, .t (tI b2)), (26, .t (tI s.1)), (27, .t (tI (w64 (b2 + s.1)))), (28, .pe 1000000 (Int.toNat (w64 (b2 + s.1))) 1 0), (29, .t (tI x)), (30, .own 1000000), (31, .t (tI a)), (32, .t (tI s.1)), (33, .t (tI (w64 (a + s.1)))), (34, .pe 1000000 (Int.toNat (w64 (a + s.1))) 1 0), (35, .t (tI x2)), (36, .pe 1000000 (Int.toNat (w64 (a + s.1))) 1 0)], [(1000000, .rows 3 1 l.length (l.map Pv.encI))]⟩) [true, true, true, true, true, true, true, true, true, true, true, true, true, true, true, true, true, true, true, true, true, true, false, false] rfl rfl ?_ A_3 ?_
            · refine TieO.withH hl (TieO.storeY x [tI x] hx2 rfl rfl rfl rfl rfl rfl rfl rfl rfl rfl rfl rfl (TieO.ifG ?_))
              exact TieO.nil (TieS.leaf ⟨rfl, .of rfl rfl⟩)
            exact AllA.nil
          refine TieA.have_ (fuel₁ := 5) (l₁ := [true, true, true, true, true, true, true, true, true, true, true, true, true, true, true, true, true, true, true, false, false, false, false, false]) (σ₁ := ⟨[(0, .own 1000000), (1, .t (tI a)), (2, .t (tI b2)), (3, .t (tI n2)), (10, .t (tI s.1)), (16, .own 1000000), (17, .t (tI a)), (18, .t (tI s.1)), (19, .t (tI (w64 (a + s.1)))), (20, .own 1000000), (21, .t (tI b2)), (22, .t (tI s.1)), (23, .t (tI (w64 (b2 + s.1)))), (24, .own 1000000), (25, .t (tI b2)), (26, .t (tI s.1)), (27, .t (tI (w64 (b2 + s.1)))), (28, .pe 1000000 (Int.toNat (w64 (b2 + s.1))) 1 0), (29, .t (tI x)), (30, .own 1000000), (31, .t (tI a)), (32, .t (tI s.1)), (33, .t (tI (w64 (a + s.1)))), (34, .pe 1000000 (Int.toNat (w64 (a + s.1))) 1 0)], [(1000000, .rows 3 1 s.2.length (s.2.map Pv.encI))]⟩) ?_ fun A_1 => ?_
          · refine TieA.all [19] (by kernel_rfl) rfl ?_
            refine AllA.cons (σ₁ := ⟨[(0, .own 1000000), (1, .t (tI a)), (2, .t (tI b2)), (3, .t (tI n2)), (10, .t (tI s.1)), (16, .own 1000000), (17, .t (tI a)), (18, .t (tI s.1)), (19, .t (tI (w64 (a + s.1)))), (20, .own 1000000), (21, .t (tI b2)), (22, .t (tI s.1)), (23, .t (tI (w64 (b2 + s.1)))), (24, .own 1000000), (25, .t (tI b2)), (26, .t (tI s.1)), (27, .t (tI (w64 (b2 + s.1)))), (28, .pe 1000000 (Int.toNat (w64 (b2 + s.1))) 1 0), (29, .t (tI x)), (30, .own 1000000), (31, .t (tI a)), (32, .t (tI s.1)), (33, .t (tI (w64 (a + s.1)))), (34, .pe 1000000 (Int.toNat (w64 (a + s.1))) 1 0), (35, .t (tI x2))], [(1000000, .rows 3 1 s.2.length (s.2.map Pv.encI))]⟩) [true, true, true, true, true, true, true, true, true, true, true, true, true, true, true, true, true, true, true, true, false, false, false, false] rfl rfl ?_ A_2 ?_
            · refine TieO.loadY hx2 rfl rfl rfl rfl rfl rfl rfl rfl ?_
              exact TieO.nil (TieS.leaf ⟨rfl, .of rfl rfl⟩)
            exact AllA.nil
          refine TieA.have_ (fuel₁ := 5) (l₁ := [true, true, true, true, true, true, true, true, true, true, true, true, true, false, true, true, true, true, true, true, false, false, false, false]) (σ₁ := ⟨[(0, .own 1000000), (1, .t (tI a)), (2, .t (tI b2)), (3, .t (tI n2)), (10, .t (tI s.1)), (16, .own 1000000), (17, .t (tI a)), (18, .t (tI s.1)), (19, .t (tI (w64 (a + s.1)))), (20, .own 1000000), (21, .t (tI b2)), (22, .t (tI s.1)), (23, .t (tI (w64 (b2 + s.1)))), (24, .own 1000000), (25, .t (tI b2)), (26, .t (tI s.1)), (27, .t (tI (w64 (b2 + s.1)))), (28, .pe 1000000 (Int.toNat (w64 (b2 + s.1))) 1 0), (30, .own 1000000), (31, .t (tI a)), (32, .t (tI s.1)), (33, .t (tI (w64 (a + s.1)))), (34, .pe 1000000 (Int.toNat (w64 (a + s.1))) 1 0), (35, .t (tI x2))], [(1000000, .rows 3 1 s.2.length (s.2.map Pv.encI))]⟩) ?_ fun A_4 => ?_
          · refine TieA.all [13] (by kernel_rfl) rfl ?_
            refine AllA.cons (σ₁ := ⟨[(0, .own 1000000), (1, .t (tI a)), (2, .t (tI b2)), (3, .t (tI n2)), (10, .t (tI s.1)), (16, .own 1000000), (17, .t (tI a)), (18, .t (tI s.1)), (19, .t (tI (w64 (a + s.1)))), (20, .own 1000000), (21, .t (tI b2)), (22, .t (tI s.1)), (23, .t (tI (w64 (b2 + s.1)))), (24, .own 1000000), (25, .t (tI b2)), (26, .t (tI s.1)), (27, .t (tI (w64 (b2 + s.1)))), (28, .pe 1000000 (Int.toNat (w64 (b2 + s.1))) 1 0), (29, .t (tI x)), (30, .own 1000000), (31, .t (tI a)), (32, .t (tI s.1)), (33, .t (tI (w64 (a + s.1)))), (34, .pe 1000000 (Int.toNat (w64 (a + s.1))) 1 0), (35, .t (tI x2))], [(1000000, .rows 3 1 s.2.length (s.2.map Pv.encI))]⟩) [true, true, true, true, true, true, true, true, true, true, true, true, true, true, true, true, true, true, true, true, false, false, false, false] rfl rfl ?_ A_2 ?_
            · refine TieO.loadY hx rfl rfl rfl rfl rfl rfl rfl rfl ?_
              exact TieO.nil (TieS.leaf ⟨rfl, .of rfl rfl⟩)
            exact AllA.nil
          refine TieA.move 0 [true, false, false, false, false, false, false, false, false, false, false, false, false, false, false, false, false, false, false, false, false, false, false, false] rfl rfl (by first | exact .inl rfl | exact .inr rfl) rfl rfl rfl (by kernel_rfl) (by kernel_rfl) (by kernel_rfl) rfl ?_
          refine TieA.move 1 [true, true, false, false, false, false, false, false, false, false, false, false, false, false, false, false, false, false, false, false, false, false, false, false] rfl rfl (by first | exact .inl rfl | exact .inr rfl) rfl rfl rfl (by kernel_rfl) (by kernel_rfl) (by kernel_rfl) rfl ?_
          refine TieA.move 2 [true, true, true, false, false, false, false, false, false, false, false, false, false, false, false, false, false, false, false, false, false, false, false, false] rfl rfl (by first | exact .inl rfl | exact .inr rfl) rfl rfl rfl (by kernel_rfl) (by kernel_rfl) (by kernel_rfl) rfl ?_
          refine TieA.bin (V := .t (tI (w64 (a + s.1)))) 3 [true, true, true, true, false, false, false, false, false, false, false, false, false, false, false, false, false, false, false, false, false, false, false, false] rfl rfl rfl rfl rfl rfl (by kernel_rfl) (by kernel_rfl) (by kernel_rfl) rfl rfl rfl rfl ?_
          refine TieA.move 4 [true, true, true, true, true, false, false, false, false, false, false, false, false, false, false, false, false, false, false, false, false, false, false, false] rfl rfl (by first | exact .inl rfl | exact .inr rfl) rfl rfl rfl (by kernel_rfl) (by kernel_rfl) (by kernel_rfl) rfl ?_
          refine TieA.move 5 [true, true, true, true, true, true, false, false, false, false, false, false, false, false, false, false, false, false, false, false, false, false, false, false] rfl rfl (by first | exact .inl rfl | exact .inr rfl) rfl rfl rfl (by kernel_rfl) (by kernel_rfl) (by kernel_rfl) rfl ?_
          refine TieA.move 6 [true, true, true, true, true, true, true, false, false, false, false, false, false, false, false, false, false, false, false, false, false, false, false, false] rfl rfl (by first | exact .inl rfl | exact .inr rfl) rfl rfl rfl (by kernel_rfl) (by kernel_rfl) (by kernel_rfl) rfl ?_
          refine TieA.bin (V := .t (tI (w64 (b2 + s.1)))) 7 [true, true, true, true, true, true, true, true, false, false, false, false, false, false, false, false, false, false, false, false, false, false, false, false] rfl rfl rfl rfl rfl rfl (by kernel_rfl) (by kernel_rfl) (by kernel_rfl) rfl rfl rfl rfl ?_
          refine TieA.move 8 [true, true, true, true, true, true, true, true, true, false, false, false, false, false, false, false, false, false, false, false, false, false, false, false] rfl rfl (by first | exact .inl rfl | exact .inr rfl) rfl rfl rfl (by kernel_rfl) (by kernel_rfl) (by kernel_rfl) rfl ?_
          refine TieA.move 9 [true, true, true, true, true, true, true, true, true, true, false, false, false, false, false, false, false, false, false, false, false, false, false, false] rfl rfl (by first | exact .inl rfl | exact .inr rfl) rfl rfl rfl (by kernel_rfl) (by kernel_rfl) (by kernel_rfl) rfl ?_
          refine TieA.move 10 [true, true, true, true, true, true, true, true, true, true, true, false, false, false, false, false, false, false, false, false, false, false, false, false] rfl rfl (by first | exact .inl rfl | exact .inr rfl) rfl rfl rfl (by kernel_rfl) (by kernel_rfl) (by kernel_rfl) rfl ?_
          refine TieA.bin (V := .t (tI (w64 (b2 + s.1)))) 11 [true, true, true, true, true, true, true, true, true, true, true, true, false, false, false, false, false, false, false, false, false, false, false, false] rfl rfl rfl rfl rfl rfl (by kernel_rfl) (by kernel_rfl) (by kernel_rfl) rfl rfl rfl rfl ?_
          refine TieA.idx 12 [true, true, true, true, true, true, true, true, true, true, true, true, true, false, false, false, false, false, false, false, false, false, false, false] hx rfl rfl rfl rfl rfl rfl (by kernel_rfl) (by kernel_rfl) (by kernel_rfl) rfl rfl rfl rfl rfl rfl ?_
          refine TieA.move 14 [true, true, true, true, true, true, true, true, true, true, true, true, true, false, true, false, false, false, false, false, false, false, false, false] rfl rfl (by first | exact .inl rfl | exact .inr rfl) rfl rfl rfl (by kernel_rfl) (by kernel_rfl) (by kernel_rfl) rfl ?_
          refine TieA.move 15 [true, true, true, true, true, true, true, true, true, true, true, true, true, false, true, true, false, false, false, false, false, false, false, false] rfl rfl (by first | exact .inl rfl | exact .inr rfl) rfl rfl rfl (by kernel_rfl) (by kernel_rfl) (by kernel_rfl) rfl ?_
          refine TieA.move 16 [true, true, true, true, true, true, true, true, true, true, true, true, true, false, true, true, true, false, false, false, false, false, false, false] rfl rfl (by first | exact .inl rfl | exact .inr rfl) rfl rfl rfl (by kernel_rfl) (by kernel_rfl) (by kernel_rfl) rfl ?_
          refine TieA.bin (V := .t (tI (w64 (a + s.1)))) 17 [true, true, true, true, true, true, true, true, true, true, true, true, true, false, true, true, true, true, false, false, false, false, false, false] rfl rfl rfl rfl rfl rfl (by kernel_rfl) (by kernel_rfl) (by kernel_rfl) rfl rfl rfl rfl ?_
          refine TieA.idx 18 [true, true, true, true, true, true, true, true, true, true, true, true, true, false, true, true, true, true, true, false, false, false, false, false] hx2 rfl rfl rfl rfl rfl rfl (by kernel_rfl) (by kernel_rfl) (by kernel_rfl) rfl rfl rfl rfl rfl rfl ?_
          refine TieA.all [13, 19] (by kernel_rfl) rfl ?_
          refine AllA.cons (σ₁ := ⟨[(0, .own 1000000), (1, .t (tI a)), (2, .t (tI b2)), (3, .t (tI n2)), (10, .t (tI s.1)), (16, .own 1000000), (17, .t (tI a)), (18, .t (tI s.1)), (19, .t (tI (w64 (a + s.1)))), (20, .own 1000000), (21, .t (tI b2)), (22, .t (tI s.1)), (23, .t (tI (w64 (b2 + s.1)))), (24, .own 1000000), (25, .t (tI b2)), (26, .t (tI s.1)), (27, .t (tI (w64 (b2 + s.1)))), (28, .pe 1000000 (Int.toNat (w64 (b2 + s.1))) 1 0), (29, .t (tI x)), (30, .own 1000000), (31, .t (tI a)), (32, .t (tI s.1)), (33, .t (tI (w64 (a + s.1)))), (34, .pe 1000000 (Int.toNat (w64 (a + s.1))) 1 0)], [(1000000, .rows 3 1 s.2.length (s.2.map Pv.encI))]⟩) [true, true, true, true, true, true, true, true, true, true, true, true, true, true, true, true, true, true, true, false, false, false, false, false] rfl rfl ?_ A_1 ?_
          · refine TieO.loadY hx rfl rfl rfl rfl rfl rfl rfl rfl ?_
            exact TieO.nil (TieS.leaf ⟨rfl, .of rfl rfl⟩)
          refine AllA.cons (σ₁ := ⟨[(0, .own 1000000), (1, .t (tI a)), (2, .t (tI b2)), (3, .t (tI n2)), (10, .t (tI s.1)), (16, .own 1000000), (17, .t (tI a)), (18, .t (tI s.1)), (19, .t (tI (w64 (a + s.1)))), (20, .own 1000000), (21, .t (tI b2)), (22, .t (tI s.1)), (23, .t (tI (w64 (b2 + s.1)))), (24, .own 1000000), (25, .t (tI b2)), (26, .t (tI s.1)), (27, .t (tI (w64 (b2 + s.1)))), (28, .pe 1000000 (Int.toNat (w64 (b2 + s.1))) 1 0), (30, .own 1000000), (31, .t (tI a)), (32, .t (tI s.1)), (33, .t (tI (w64 (a + s.1)))), (34, .pe 1000000 (Int.toNat (w64 (a + s.1))) 1 0), (35, .t (tI x2))], [(1000000, .rows 3 1 s.2.length (s.2.map Pv.encI))]⟩) [true, true, true, true, true, true, true, true, true, true, true, true, true, false, true, true, true, true, true, true, false, false, false, false] rfl rfl ?_ A_4 ?_
          · refine TieO.loadY hx2 rfl rfl rfl rfl rfl rfl rfl rfl ?_
            exact TieO.nil (TieS.leaf ⟨rfl, .of rfl rfl⟩)
          exact AllA.nil
        refine TieO.indexO rfl rfl rfl rfl rfl rfl rfl rfl rfl rfl fun x3 hx3 => ?_
        refine TieO.storeY x2 [tI x2] hx3 rfl rfl rfl rfl rfl rfl rfl rfl rfl rfl rfl rfl fun l2 hl2 => ?_
        refine TieO.nil ?_
        exact TieS.leaf ⟨rfl, .of rfl rfl⟩
      rintro f2 e σ' _ ⟨rfl, hs⟩
      refine TieX.sub hs ?_
      refine TieS.endb ?_
      refine TieS.region ?_
      refine TieO.run 3 rfl ?_
      refine TieO.nil ?_
      exact TieS.leaf ⟨rfl, .of rfl rfl⟩
    · exact TieS.exitOut rfl ⟨(fun h => by cases h), rfl, .of rfl rfl⟩
  rintro (s2 | r) e σ' _ hq
  · obtain ⟨rfl, hs⟩ := hq
    refine TieX.exit rfl (TieX.sub hs ?_)
    exact TieS.leaf ⟨.inr rfl, ⟨[(1000000, 1000000)], _, _, rfl, rfl, rfl, rfl, rfl⟩⟩
  · exact hq.elim
-- slices.rotateCmpFunc[int]
set_option maxRecDepth 100000 in
theorem tie_slices_rotateCmpFunc_int (data : List Int) (a : Int) (m2 : Int) (b2 : Int) (n2 : Nat) (cs : List (List Tree)) (cmp : Int → Int → Option Int) (h2 : ∀ x0 x1, TieF Try.prog n2 ([.t (tI x0), .t (tI x1)] ++ cs.map T.el) (cmp x0 x1) (fun r => .t (tI r))) : TieG Try.prog 101 [.own 1000000, .t (tI a), .t (tI m2), .t (tI b2), .fz n2 cs] [(1000000, .rows 3 1 data.length (data.map Pv.encI))] (slices_rotateCmpFunc_int data a m2 b2 cmp) (fun _ => .tup []) (fun r => [(1000000, .rows 3 1 r.length (r.map Pv.encI))]) := by
  refine TieG.intro htab 58 [] Try.call101 Try.func101 rfl rfl rfl (Nat.le_of_ble_eq_true rfl) fun w0 L => ?_
  refine TieS.seq ?_
  refine TieS.region ?_
  refine TieO.run 4 rfl ?_
  refine TieO.nil ?_
  refine TieS.seq ?_
  refine TieS.region ?_
  refine TieO.run 4 rfl ?_
  refine TieO.nil ?_
  refine TieS.seq ?_
  refine TieS.block ?_
  refine TieS.loop (fun t => ⟨[(0, .own 1000000), (2, .t (tI m2)), (4, .fz n2 cs), (10, .t (tI t.1)), (11, .t (tI t.2.1))], [(1000000, .rows 3 1 t.2.2.length (t.2.2.map Pv.encI))]⟩) (fun b e σ' => match b with | .inl t => e = .exit 0 ∧ Sub ⟨[(0, .own 1000000), (2, .t (tI m2)), (4, .fz n2 cs), (10, .t (tI t.1))], [(1000000, .rows 3 1 t.2.2.length (t.2.2.map Pv.encI))]⟩ σ' | .inr t => False) (.of rfl rfl) ?_ ?_
  · intro s
    refine TieS.seq ?_
    refine TieS.seq ?_
    refine TieS.region ?_
    refine TieO.run 3 rfl ?_
    refine TieO.nil ?_
    refine TieS.cond rfl ?_ ?_
    · refine TieS.skip ?_
      refine TieS.block ?_
      refine TieS.seq ?_
      refine TieS.region ?_
      refine TieO.run 3 rfl ?_
      refine TieO.nil ?_
      refine TieS.cond rfl ?_ ?_
      · refine TieS.seq ?_
        refine TieS.region ?_
        refine TieO.run 7 rfl ?_
        refine TieO.callG [(1000000, 1000000)] [] (fun v => ⟨[(0, .own 1000000), (2, .t (tI m2)), (4, .fz n2 cs), (10, .t (tI s.1)), (11, .t (tI s.2.1)), (18, .t (tI s.1)), (19, .t (tI s.2.1)), (20, .t (tB (s.1 != s.2.1))), (21, .t (tI s.1)), (22, .t (tI s.2.1)), (23, .t (tB (decide (s.1 > s.2.1)))), (24, .own 1000000), (25, .t (tI m2)), (26, .t (tI s.1)), (27, .t (tI (w64 (m2 - s.1)))), (28, .t (tI m2)), (29, .t (tI s.2.1)), (30, .fz n2 cs), (31, .tup [])], [(1000000, .rows 3 1 v.length (v.map Pv.encI))]⟩) (tie_slices_swapRangeCmpFunc_int s.2.2 (w64 (m2 - s.1)) m2 s.2.1 n2 cs cmp h2) rfl rfl rfl rfl rfl rfl rfl (fun _ => rfl) (fun _ => rfl) (fun _ => rfl) (fun _ => .of rfl rfl) fun v hv => ?_
        refine TieO.nil ?_
        refine TieS.region ?_
        refine TieO.run 4 rfl ?_
        refine TieO.nil ?_
        refine TieS.endb ?_
        exact TieS.leaf ⟨rfl, .of rfl rfl⟩
      · refine TieS.seq ?_
        refine TieS.region ?_
        refine TieO.run 11 rfl ?_
        refine TieO.callG [(1000000, 1000000)] [] (fun v2 => ⟨[(0, .own 1000000), (2, .t (tI m2)), (4, .fz n2 cs), (10, .t (tI s.1)), (11, .t (tI s.2.1)), (18, .t (tI s.1)), (19, .t (tI s.2.1)), (20, .t (tB (s.1 != s.2.1))), (21, .t (tI s.1)), (22, .t (tI s.2.1)), (23, .t (tB (decide (s.1 > s.2.1)))), (35, .own 1000000), (36, .t (tI m2)), (37, .t (tI s.1)), (38, .t (tI (w64 (m2 - s.1)))), (39, .t (tI m2)), (40, .t (tI s.2.1)), (41, .t (tI (w64 (m2 + s.2.1)))), (42, .t (tI s.1)), (43, .t (tI (w64 ((w64 (m2 + s.2.1)) - s.1)))), (44, .t (tI s.1)), (45, .fz n2 cs), (46, .tup [])], [(1000000, .rows 3 1 v2.length (v2.map Pv.encI))]⟩) (tie_slices_swapRangeCmpFunc_int s.2.2 (w64 (m2 - s.1)) (w64 ((w64 (m2 + s.2.1)) - s.1)) s.1 n2 cs cmp h2) rfl rfl rfl rfl rfl rfl rfl (fun _ => rfl) (fun _ => rfl) (fun _ => rfl) (fun _ => .of rfl rfl) fun v2 hv2 => ?_
        refine TieO.nil ?_
        refine TieS.region ?_
        refine TieO.run 4 rfl ?_
        refine TieO.nil ?_
        refine TieS.endb ?_
        exact TieS.leaf ⟨rfl, .of rfl rfl⟩
    · exact TieS.exitOut rfl ⟨(fun h => by cases h), rfl, .of rfl rfl⟩
  rintro (s2 | r) e σ' _ hq
  · obtain ⟨rfl, hs⟩ := hq
    refine TieX.exit rfl (TieX.sub hs ?_)
    refine TieS.region ?_
    refine TieO.run 7 rfl ?_
    refine TieO.callG [(1000000, 1000000)] [] (fun v3 => ⟨[(0, .own 1000000), (2, .t (tI m2)), (4, .fz n2 cs), (10, .t (tI s2.1)), (50, .own 1000000), (51, .t (tI m2)), (52, .t (tI s2.1)), (53, .t (tI (w64 (m2 - s2.1)))), (54, .t (tI m2)), (55, .t (tI s2.1)), (56, .fz n2 cs), (57, .tup [])], [(1000000, .rows 3 1 v3.length (v3.map Pv.encI))]⟩) (tie_slices_swapRangeCmpFunc_int s2.2.2 (w64 (m2 - s2.1)) m2 s2.1 n2 cs cmp h2) rfl rfl rfl rfl rfl rfl rfl (fun _ => rfl) (fun _ => rfl) (fun _ => rfl) (fun _ => .of rfl rfl) fun v3 hv3 => ?_
    refine TieO.nil ?_
    exact TieS.leaf ⟨.inr rfl, ⟨[(1000000, 1000000)], _, _, rfl, rfl, rfl, rfl, rfl⟩⟩
  · exact hq.elim
end Go.Proofs.Ytmocoljbdiphoaa
