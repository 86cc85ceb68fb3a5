/- This file joins: Ties, printed by gen.py: each function of the loaded program computes its model. -/
import Derived.Test.YtllofihbdbdaeaaMonitorGrantsD
import Derived.Test.YtllofihbdbdaeaaProg
import Derived.KernelRfl
namespace Go.Proofs.Ytllofihbdbdaeaa
open Go Go.Pv Go.Proofs
-- magneto/magnetoref39.Valid
set_option maxRecDepth 100000 in
theorem tie_magnetoref39_Valid (g : SGuard) : TieF Try.prog 22 [A_SGuard g] (magnetoref39_Valid g) (fun r => .t (tB r)) := by
  refine TieF.intro htab 30 [.tmp 2] Try.call22 Try.func22 rfl rfl rfl (Nat.le_of_ble_eq_true rfl) fun w0 L => ?_
  refine TieS.seq ?_
  refine TieS.region ?_
  refine TieO.run 2 rfl ?_
  refine TieO.nil ?_
  refine TieS.seq ?_
  refine TieS.region ?_
  refine TieO.run 2 rfl ?_
  refine TieO.call _ rfl rfl rfl (tie_magnetoref39_In g.Over 0 5) (fun _ => rfl) fun v => ?_
  refine TieO.run 1 rfl ?_
  refine TieO.bind 4 (fun b2 => ⟨[(1, .ptr 1 0), (10, .t (tB b2))], [(1, .box [.t (tI g.Over), .t (tI g.Calm), .t (tB g.Off)])]⟩) (TieO.split 6 rfl ?_ ?_) fun b2 _ => ?_
  · refine TieO.run 2 rfl ?_
    refine TieO.call _ rfl rfl rfl (tie_magnetoref39_In g.Calm 0 1000) (fun _ => rfl) fun v2 => ?_
    refine TieO.run 1 rfl ?_
    refine TieO.nil ?_
    exact TieS.leaf ⟨rfl, .of rfl rfl⟩
  · refine TieO.run 4 rfl ?_
    refine TieO.nil ?_
    exact TieS.leaf ⟨rfl, .of rfl rfl⟩
  refine TieO.run 1 rfl ?_
  refine TieO.frzBox 1 rfl rfl ?_
  refine TieO.bind 9 (fun b3 => ⟨[(1, .el (enc_SGuard g)), (20, .t (tB b3))], []⟩) (TieO.split 11 rfl ?_ ?_) fun b3 _ => ?_
  · refine TieO.run 4 rfl ?_
    refine TieO.selOr (v := (g.Calm == 0)) 4 15 (fun b => ⟨[(1, .el (enc_SGuard g)), (11, .t (tB true)), (19, .t (tB b))], []⟩) rfl ?_ ?_ ?_
    · refine TieO.run 4 rfl ?_
      refine TieO.nil ?_
      exact TieS.leaf ⟨rfl, .of rfl rfl⟩
    · refine TieO.run 4 rfl ?_
      refine TieO.nil ?_
      exact TieS.leaf ⟨rfl, .of rfl rfl⟩
    refine TieO.run 1 rfl ?_
    refine TieO.nil ?_
    exact TieS.leaf ⟨rfl, .of rfl rfl⟩
  · refine TieO.run 9 rfl ?_
    refine TieO.nil ?_
    exact TieS.leaf ⟨rfl, .of rfl rfl⟩
  refine TieO.run 1 rfl ?_
  refine TieO.bind 8 (fun b4 => ⟨[(29, .t (tB b4))], []⟩) (TieO.split 21 rfl ?_ ?_) fun b4 _ => ?_
  · refine TieO.run 4 rfl ?_
    refine TieO.selOr (v := g.Off) 3 25 (fun b => ⟨[(21, .t (tB true)), (28, .t (tB b))], []⟩) rfl ?_ ?_ ?_
    · refine TieO.run 3 rfl ?_
      refine TieO.nil ?_
      exact TieS.leaf ⟨rfl, .of rfl rfl⟩
    · refine TieO.run 3 rfl ?_
      refine TieO.nil ?_
      exact TieS.leaf ⟨rfl, .of rfl rfl⟩
    refine TieO.run 1 rfl ?_
    refine TieO.nil ?_
    exact TieS.leaf ⟨rfl, .of rfl rfl⟩
  · refine TieO.run 8 rfl ?_
    refine TieO.nil ?_
    exact TieS.leaf ⟨rfl, .of rfl rfl⟩
  refine TieO.run 1 rfl ?_
  refine TieO.nil ?_
  exact TieS.ret ⟨.inl rfl, rfl⟩
-- magneto/magnetoref39.Torque
set_option maxRecDepth 100000 in
theorem tie_magnetoref39_Torque (n2 : Int) : TieF Try.prog 23 [.t (tI n2)] (magnetoref39_Torque n2) (fun r => .t (tB r)) := by
  refine TieF.intro htab 5 [.tmp 2] Try.call23 Try.func23 rfl rfl rfl (Nat.le_of_ble_eq_true rfl) fun w0 L => ?_
  refine TieS.seq ?_
  refine TieS.region ?_
  refine TieO.run 1 rfl ?_
  refine TieO.nil ?_
  refine TieS.seq ?_
  refine TieS.region ?_
  refine TieO.run 1 rfl ?_
  refine TieO.call _ rfl rfl rfl (tie_magnetoref39_In n2 (-20000) 20000) (fun _ => rfl) fun v => ?_
  refine TieO.run 1 rfl ?_
  refine TieO.nil ?_
  exact TieS.ret ⟨.inl rfl, rfl⟩
-- magneto/magnetoref39.Step
set_option maxRecDepth 100000 in
theorem tie_magnetoref39_Step (g : SGuard) (permitted : Int) (actual : Int) : TieF Try.prog 24 [A_SGuard g, .t (tI permitted), .t (tI actual)] (magnetoref39_Step g permitted actual) (fun r => A_SGuard r) := by
  refine TieF.intro htab 34 [.cell 6 49] Try.call24 Try.func24 rfl rfl rfl (Nat.le_of_ble_eq_true rfl) fun w0 L => ?_
  refine TieS.seq ?_
  refine TieS.region ?_
  refine TieO.run 2 rfl ?_
  refine TieO.nil ?_
  refine TieS.seq ?_
  refine TieS.seq ?_
  refine TieS.region ?_
  refine TieO.run 3 rfl ?_
  refine TieO.nil ?_
  refine TieS.cond rfl ?_ ?_
  · refine TieS.seq ?_
    refine TieS.region ?_
    refine TieO.run 4 rfl ?_
    refine TieO.nil ?_
    refine TieS.seq ?_
    refine TieS.seq ?_
    refine TieS.region ?_
    refine TieO.run 2 rfl ?_
    refine TieO.nil ?_
    refine TieS.bind (Q₁ := fun t e σ' => e = .normal ∧ Sub ⟨[(3, .ptr 3 0), (6, .ptr 6 0), (7, .t (tI t))], [(3, .box [.t (tI g.Over), .t (tI g.Calm), .t (tB g.Off)]), (6, .box [.t (tI 0), .t (tI 0), .t (tB false)])]⟩ σ') ?_ ?_
    · refine TieS.cond rfl ?_ ?_
      · refine TieS.region ?_
        refine TieO.run 1 rfl ?_
        refine TieO.nil ?_
        exact TieS.leaf ⟨rfl, .of rfl rfl⟩
      · refine TieS.skip ?_
        exact TieS.leaf ⟨rfl, .of rfl rfl⟩
    rintro over e σ' _ ⟨rfl, hs⟩
    refine TieX.sub hs ?_
    refine TieS.seq ?_
    refine TieS.region ?_
    refine TieO.run 4 rfl ?_
    refine TieO.selOr (v := (over == 5)) 3 20 (fun b => ⟨[(6, .ptr 6 0), (17, .t (tI over)), (23, .t (tB b))], [(6, .box [.t (tI 0), .t (tI 0), .t (tB false)])]⟩) rfl ?_ ?_ ?_
    · refine TieO.run 3 rfl ?_
      refine TieO.nil ?_
      exact TieS.leaf ⟨rfl, .of rfl rfl⟩
    · refine TieO.run 3 rfl ?_
      refine TieO.nil ?_
      exact TieS.leaf ⟨rfl, .of rfl rfl⟩
    refine TieO.run 2 rfl ?_
    refine TieO.nil ?_
    exact TieS.ret ⟨.inl rfl, rfl⟩
  · refine TieS.skip ?_
    refine TieS.seq ?_
    refine TieS.region ?_
    refine TieO.run 4 rfl ?_
    refine TieO.nil ?_
    refine TieS.seq ?_
    refine TieS.seq ?_
    refine TieS.region ?_
    refine TieO.run 2 rfl ?_
    refine TieO.nil ?_
    refine TieS.cond rfl ?_ ?_
    · refine TieS.region ?_
      refine TieO.run 1 rfl ?_
      refine TieO.nil ?_
      refine TieS.seq ?_
      refine TieS.region ?_
      refine TieO.run 5 rfl ?_
      refine TieO.nil ?_
      exact TieS.ret ⟨.inl rfl, rfl⟩
    · refine TieS.skip ?_
      refine TieS.seq ?_
      refine TieS.region ?_
      refine TieO.run 5 rfl ?_
      refine TieO.nil ?_
      exact TieS.ret ⟨.inl rfl, rfl⟩
-- magneto/magnetolaw39.MonitorSteps
set_option maxRecDepth 100000 in
theorem tie_magnetolaw39_MonitorSteps (g : SGuard) (permitted : Int) (actual : Int) : TieF Try.prog 5 [A_SGuard g, .t (tI permitted), .t (tI actual)] (magnetolaw39_MonitorSteps g permitted actual) (fun r => .t (tB r)) := by
  refine TieF.intro htab 64 [.tmp 6] Try.call5 Try.func5 rfl rfl rfl (Nat.le_of_ble_eq_true rfl) fun w0 L => ?_
  refine TieS.seq ?_
  refine TieS.region ?_
  refine TieO.run 2 rfl ?_
  refine TieO.nil ?_
  refine TieS.seq ?_
  refine TieS.seq ?_
  refine TieS.region ?_
  refine TieO.call _ rfl rfl rfl (tie_magnetolaw39_awake) (fun _ => rfl) fun v => ?_
  refine TieO.run 1 rfl ?_
  refine TieO.nil ?_
  refine TieS.cond rfl ?_ ?_
  · refine TieS.seq ?_
    refine TieS.region ?_
    refine TieO.run 1 rfl ?_
    refine TieO.nil ?_
    exact TieS.ret ⟨.inl rfl, rfl⟩
  · refine TieS.skip ?_
    refine TieS.seq ?_
    refine TieS.region ?_
    refine TieO.run 3 rfl ?_
    refine TieO.call _ rfl rfl rfl (tie_monitor_Step g permitted actual) (fun _ => rfl) fun r2 => ?_
    refine TieO.run 6 rfl ?_
    refine TieO.nil ?_
    refine TieS.seq ?_
    refine TieS.seq ?_
    refine TieX.pre fun v2 hv2 => ?_
    refine TieX.pre fun v3 hv3 => ?_
    refine TieS.draw 5 [.agg [.t (tI g.Over), .t (tI g.Calm), .t (tB g.Off)], .t (tB v2), .agg [.t (tI g.Over), .t (tI g.Calm), .t (tB g.Off)], .t (tB v3), .t (tB (!(v2 == v3)))] [(1, .t (tI permitted)), (2, .t (tI actual)), (3, .ptr 3 0), (7, .ptr 7 0), (8, .t (tI r2.2))] [(3, .box [.t (tI g.Over), .t (tI g.Calm), .t (tB g.Off)]), (7, .box [.t (tI r2.1.Over), .t (tI r2.1.Calm), .t (tB r2.1.Off)])] mixed (.of rfl rfl) rfl rfl rfl rfl (.cons (.quiet rfl rfl rfl) (.cons (.callV (tie_monitor_Valid g) hv2 rfl rfl rfl rfl) (.cons (.quiet rfl rfl rfl) (.cons (.callV (tie_magnetoref39_Valid g) hv3 rfl rfl rfl rfl) (.cons (.quiet rfl rfl rfl) (.nil)))))) ?_
    refine TieO.nil ?_
    refine TieS.cond rfl ?_ ?_
    · refine TieS.seq ?_
      refine TieS.region ?_
      refine TieO.run 1 rfl ?_
      refine TieO.nil ?_
      exact TieS.ret ⟨.inl rfl, rfl⟩
    · refine TieS.skip ?_
      refine TieS.seq ?_
      refine TieS.block ?_
      refine TieS.seq ?_
      refine TieS.region ?_
      refine TieO.run 1 rfl ?_
      refine TieO.call _ rfl rfl rfl (tie_magnetoref39_Valid g) (fun _ => rfl) fun v4 => ?_
      refine TieO.run 2 rfl ?_
      refine TieO.nil ?_
      refine TieS.cond rfl ?_ ?_
      · refine TieS.seq ?_
        refine TieS.region ?_
        refine TieO.run 3 rfl ?_
        refine TieO.bind 4 (fun b2 => ⟨[(33, .t (tB b2))], []⟩) (TieO.split 29 rfl ?_ ?_) fun b2 _ => ?_
        · refine TieO.run 2 rfl ?_
          refine TieO.eqS [.int .i64 r2.1.Over, .int .i64 r2.1.Calm, .bool r2.1.Off] [.int .i64 0, .int .i64 0, .bool false] (eqv_49 r2.1.Over r2.1.Calm r2.1.Off 0 0 false) rfl rfl rfl rfl rfl rfl ?_
          refine TieO.run 1 rfl ?_
          refine TieO.nil ?_
          exact TieS.leaf ⟨rfl, .of rfl rfl⟩
        · refine TieO.run 4 rfl ?_
          refine TieO.nil ?_
          exact TieS.leaf ⟨rfl, .of rfl rfl⟩
        refine TieO.run 1 rfl ?_
        refine TieO.nil ?_
        exact TieS.ret ⟨.inl rfl, rfl⟩
      · refine TieS.seq ?_
        refine TieS.region ?_
        refine TieO.run 1 rfl ?_
        refine TieO.call _ rfl rfl rfl (tie_magnetoref39_Torque permitted) (fun _ => rfl) fun v5 => ?_
        refine TieO.run 2 rfl ?_
        refine TieO.bind 4 (fun b3 => ⟨[(1, .t (tI permitted)), (2, .t (tI actual)), (3, .ptr 3 0), (7, .ptr 7 0), (8, .t (tI r2.2)), (42, .t (tB b3))], [(3, .box [.t (tI g.Over), .t (tI g.Calm), .t (tB g.Off)]), (7, .box [.t (tI r2.1.Over), .t (tI r2.1.Calm), .t (tB r2.1.Off)])]⟩) (TieO.split 38 rfl ?_ ?_) fun b3 _ => ?_
        · refine TieO.run 4 rfl ?_
          refine TieO.nil ?_
          exact TieS.leaf ⟨rfl, .of rfl rfl⟩
        · refine TieO.run 1 rfl ?_
          refine TieO.call _ rfl rfl rfl (tie_magnetoref39_Torque actual) (fun _ => rfl) fun v6 => ?_
          refine TieO.run 2 rfl ?_
          refine TieO.nil ?_
          exact TieS.leaf ⟨rfl, .of rfl rfl⟩
        refine TieO.run 1 rfl ?_
        refine TieO.nil ?_
        refine TieS.cond rfl ?_ ?_
        · refine TieS.seq ?_
          refine TieS.region ?_
          refine TieO.run 3 rfl ?_
          refine TieO.bind 4 (fun b4 => ⟨[(49, .t (tB b4))], []⟩) (TieO.split 45 rfl ?_ ?_) fun b4 _ => ?_
          · refine TieO.run 2 rfl ?_
            refine TieO.eqS [.int .i64 r2.1.Over, .int .i64 r2.1.Calm, .bool r2.1.Off] [.int .i64 0, .int .i64 0, .bool false] (eqv_49 r2.1.Over r2.1.Calm r2.1.Off 0 0 false) rfl rfl rfl rfl rfl rfl ?_
            refine TieO.run 1 rfl ?_
            refine TieO.nil ?_
            exact TieS.leaf ⟨rfl, .of rfl rfl⟩
          · refine TieO.run 4 rfl ?_
            refine TieO.nil ?_
            exact TieS.leaf ⟨rfl, .of rfl rfl⟩
          refine TieO.run 1 rfl ?_
          refine TieO.nil ?_
          exact TieS.ret ⟨.inl rfl, rfl⟩
        · refine TieS.skip ?_
          refine TieS.endb ?_
          refine TieS.seq ?_
          refine TieX.split (fun hg => ?_) (fun hg4 => ?_)
          · refine TieX.pre fun v7 hv7 => ?_
            refine TieX.split (fun hg2 => ?_) (fun hg3 => ?_)
            · refine TieX.pre fun v8 hv8 => ?_
              refine TieS.draw 15 [.t (tI r2.2), .t (tB (r2.2 == 0)), .t (tB true), .agg [.t (tI r2.1.Over), .t (tI r2.1.Calm), .t (tB r2.1.Off)], .agg [.t (tI g.Over), .t (tI g.Calm), .t (tB g.Off)], .t (tI permitted), .t (tI actual), .agg [.t (tI v7.Over), .t (tI v7.Calm), .t (tB v7.Off)], .t (tB ((r2.1.Over == v7.Over) && ((r2.1.Calm == v7.Calm) && ((r2.1.Off == v7.Off) && true)))), .t (tB ((r2.1.Over == v7.Over) && ((r2.1.Calm == v7.Calm) && ((r2.1.Off == v7.Off) && true)))), .t (tB true), .agg [.t (tI r2.1.Over), .t (tI r2.1.Calm), .t (tB r2.1.Off)], .t (tB v8), .t (tB v8), .t (tB v8)] [(1, .t (tI permitted)), (2, .t (tI actual)), (3, .ptr 3 0), (7, .ptr 7 0), (8, .t (tI r2.2))] [(3, .box [.t (tI g.Over), .t (tI g.Calm), .t (tB g.Off)]), (7, .box [.t (tI r2.1.Over), .t (tI r2.1.Calm), .t (tB r2.1.Off)])] mixed (.of rfl rfl) rfl rfl rfl rfl (.cons (.quiet rfl rfl rfl) (.cons (.quiet rfl rfl rfl) (.cons (.cast (congrArg T.B hg) (.quiet rfl rfl rfl)) (.cons (.quiet rfl rfl rfl) (.cons (.quiet rfl rfl rfl) (.cons (.quiet rfl rfl rfl) (.cons (.quiet rfl rfl rfl) (.cons (.callV (tie_magnetoref39_Step g permitted actual) hv7 rfl rfl rfl rfl) (.cons (.eqS [.int .i64 r2.1.Over, .int .i64 r2.1.Calm, .bool r2.1.Off] [.int .i64 v7.Over, .int .i64 v7.Calm, .bool v7.Off] (eqv_49 r2.1.Over r2.1.Calm r2.1.Off v7.Over v7.Calm v7.Off) rfl rfl rfl rfl) (.cons (.quiet rfl rfl rfl) (.cons (.cast (congrArg T.B hg2) (.quiet rfl rfl rfl)) (.cons (.quiet rfl rfl rfl) (.cons (.callV (tie_monitor_Valid r2.1) hv8 rfl rfl rfl rfl) (.cons (.quiet rfl rfl rfl) (.cons (.quiet rfl rfl rfl) (.nil)))))))))))))))) ?_
              refine TieO.nil ?_
              exact TieS.ret ⟨.inl rfl, rfl⟩
            · refine TieS.draw 15 [.t (tI r2.2), .t (tB (r2.2 == 0)), .t (tB true), .agg [.t (tI r2.1.Over), .t (tI r2.1.Calm), .t (tB r2.1.Off)], .agg [.t (tI g.Over), .t (tI g.Calm), .t (tB g.Off)], .t (tI permitted), .t (tI actual), .agg [.t (tI v7.Over), .t (tI v7.Calm), .t (tB v7.Off)], .t (tB ((r2.1.Over == v7.Over) && ((r2.1.Calm == v7.Calm) && ((r2.1.Off == v7.Off) && true)))), .t (tB ((r2.1.Over == v7.Over) && ((r2.1.Calm == v7.Calm) && ((r2.1.Off == v7.Off) && true)))), .t (tB false), .t (.v undef), .t (.v undef), .t (tB false), .t (tB false)] [(1, .t (tI permitted)), (2, .t (tI actual)), (3, .ptr 3 0), (7, .ptr 7 0), (8, .t (tI r2.2))] [(3, .box [.t (tI g.Over), .t (tI g.Calm), .t (tB g.Off)]), (7, .box [.t (tI r2.1.Over), .t (tI r2.1.Calm), .t (tB r2.1.Off)])] mixed (.of rfl rfl) rfl rfl rfl rfl (.cons (.quiet rfl rfl rfl) (.cons (.quiet rfl rfl rfl) (.cons (.cast (congrArg T.B hg) (.quiet rfl rfl rfl)) (.cons (.quiet rfl rfl rfl) (.cons (.quiet rfl rfl rfl) (.cons (.quiet rfl rfl rfl) (.cons (.quiet rfl rfl rfl) (.cons (.callV (tie_magnetoref39_Step g permitted actual) hv7 rfl rfl rfl rfl) (.cons (.eqS [.int .i64 r2.1.Over, .int .i64 r2.1.Calm, .bool r2.1.Off] [.int .i64 v7.Over, .int .i64 v7.Calm, .bool v7.Off] (eqv_49 r2.1.Over r2.1.Calm r2.1.Off v7.Over v7.Calm v7.Off) rfl rfl rfl rfl) (.cons (.quiet rfl rfl rfl) (.cons (.cast (congrArg T.B hg3) (.quiet rfl rfl rfl)) (.cons (.skip rfl) (.cons (.skip rfl) (.cons (.quiet rfl rfl rfl) (.cons (.quiet rfl rfl rfl) (.nil)))))))))))))))) ?_
              refine TieO.nil ?_
              exact TieS.ret ⟨.inl rfl, rfl⟩
          · refine TieS.draw 15 [.t (tI r2.2), .t (tB (r2.2 == 0)), .t (tB false), .t (.v undef), .t (.v undef), .t (.v undef), .t (.v undef), .t (.v undef), .t (.v undef), .t (tB false), .t (tB false), .t (.v undef), .t (.v undef), .t (tB false), .t (tB false)] [(1, .t (tI permitted)), (2, .t (tI actual)), (3, .ptr 3 0), (7, .ptr 7 0), (8, .t (tI r2.2))] [(3, .box [.t (tI g.Over), .t (tI g.Calm), .t (tB g.Off)]), (7, .box [.t (tI r2.1.Over), .t (tI r2.1.Calm), .t (tB r2.1.Off)])] mixed (.of rfl rfl) rfl rfl rfl rfl (.cons (.quiet rfl rfl rfl) (.cons (.quiet rfl rfl rfl) (.cons (.cast (congrArg T.B hg4) (.quiet rfl rfl rfl)) (.cons (.skip rfl) (.cons (.skip rfl) (.cons (.skip rfl) (.cons (.skip rfl) (.cons (.skip rfl) (.cons (.skip rfl) (.cons (.quiet rfl rfl rfl) (.cons (.quiet rfl rfl rfl) (.cons (.skip rfl) (.cons (.skip rfl) (.cons (.quiet rfl rfl rfl) (.cons (.quiet rfl rfl rfl) (.nil)))))))))))))))) ?_
            refine TieO.nil ?_
            exact TieS.ret ⟨.inl rfl, rfl⟩
-- magneto/monitor.Actual
set_option maxRecDepth 100000 in
theorem tie_monitor_Actual (t2 : STables) (speed : Int) (charge : Int) (l : List SFire) : TieF Try.prog 25 [A_STables t2, .t (tI speed), .t (tI charge), .t (tS enc_SFire l)] (monitor_Actual t2 speed charge l) (fun r => .tup [.t (tI r.1), .t (tI r.2)]) := by
  refine TieF.intro htab 65 [.tmp 8, .tmp 9] Try.call25 Try.func25 rfl rfl rfl (Nat.le_of_ble_eq_true rfl) fun w0 L => ?_
  refine TieS.seq ?_
  refine TieS.region ?_
  refine TieO.run 3 rfl ?_
  refine TieO.nil ?_
  refine TieS.seq ?_
  refine TieS.block ?_
  refine TieS.seq ?_
  refine TieS.region ?_
  refine TieO.run 2 rfl ?_
  refine TieO.call _ rfl rfl rfl (tie_surface_Valid t2.Torque) (fun _ => rfl) fun v => ?_
  refine TieO.run 2 rfl ?_
  refine TieO.nil ?_
  refine TieS.cond rfl ?_ ?_
  · refine TieS.seq ?_
    refine TieS.region ?_
    refine TieO.run 2 rfl ?_
    refine TieO.nil ?_
    exact TieS.ret ⟨.inl rfl, rfl⟩
  · refine TieS.seq ?_
    refine TieS.region ?_
    refine TieO.run 4 rfl ?_
    refine TieO.nil ?_
    refine TieS.cond rfl ?_ ?_
    · refine TieS.seq ?_
      refine TieS.region ?_
      refine TieO.run 2 rfl ?_
      refine TieO.nil ?_
      exact TieS.ret ⟨.inl rfl, rfl⟩
    · refine TieS.seq ?_
      refine TieS.region ?_
      refine TieO.run 1 rfl ?_
      refine TieO.call _ rfl rfl rfl (tie_monitor_within speed 0 12000) (fun _ => rfl) fun v2 => ?_
      refine TieO.run 2 rfl ?_
      refine TieO.bind 4 (fun b2 => ⟨[(1, .t (tI speed)), (2, .t (tI charge)), (3, .t (tS enc_SFire l)), (4, .ptr 4 0), (31, .t (tB b2))], [(4, .box [.t (tS Pv.encI t2.Air.X), .t (tS Pv.encI t2.Air.Y), .t (tS (Pv.encS Pv.encI) t2.Air.Z), .t (tS Pv.encI t2.Spark.X), .t (tS Pv.encI t2.Spark.Y), .t (tS (Pv.encS Pv.encI) t2.Spark.Z), .t (tS Pv.encI t2.Torque.X), .t (tS Pv.encI t2.Torque.Y), .t (tS (Pv.encS Pv.encI) t2.Torque.Z), .t (tS Pv.encI t2.Wish.X), .t (tS Pv.encI t2.Wish.Y), .t (tS (Pv.encS Pv.encI) t2.Wish.Z), .t (tS Pv.encI t2.AirTemp.X), .t (tS Pv.encI t2.AirTemp.Y), .t (tS Pv.encI t2.Dwell.X), .t (tS Pv.encI t2.Dwell.Y), .t (tS Pv.encI t2.Dead.X), .t (tS Pv.encI t2.Dead.Y), .t (tS Pv.encI t2.Efficiency.X), .t (tS Pv.encI t2.Efficiency.Y), .t (tI t2.Idle.P), .t (tI t2.Idle.I), .t (tI t2.Idle.Low), .t (tI t2.Idle.High)])]⟩) (TieO.split 27 rfl ?_ ?_) fun b2 _ => ?_
      · refine TieO.run 4 rfl ?_
        refine TieO.nil ?_
        exact TieS.leaf ⟨rfl, .of rfl rfl⟩
      · refine TieO.run 1 rfl ?_
        refine TieO.call _ rfl rfl rfl (tie_monitor_within charge 0 1048576) (fun _ => rfl) fun v3 => ?_
        refine TieO.run 2 rfl ?_
        refine TieO.nil ?_
        exact TieS.leaf ⟨rfl, .of rfl rfl⟩
      refine TieO.run 1 rfl ?_
      refine TieO.nil ?_
      refine TieS.cond rfl ?_ ?_
      · refine TieS.seq ?_
        refine TieS.region ?_
        refine TieO.run 2 rfl ?_
        refine TieO.nil ?_
        exact TieS.ret ⟨.inl rfl, rfl⟩
      · refine TieS.seq ?_
        refine TieS.region ?_
        refine TieO.run 4 rfl ?_
        refine TieO.nil ?_
        refine TieS.cond rfl ?_ ?_
        · refine TieS.seq ?_
          refine TieS.region ?_
          refine TieO.run 2 rfl ?_
          refine TieO.nil ?_
          exact TieS.ret ⟨.inl rfl, rfl⟩
        · refine TieS.skip ?_
          refine TieS.endb ?_
          refine TieS.seq ?_
          refine TieS.region ?_
          refine TieO.run 1 rfl ?_
          refine TieO.nil ?_
          refine TieS.seq ?_
          refine TieS.seq ?_
          refine TieS.region ?_
          refine TieO.run 3 rfl ?_
          refine TieO.nil ?_
          refine TieS.block ?_
          refine TieS.loop (fun p => ⟨[(1, .t (tI speed)), (2, .t (tI charge)), (3, .t (tS enc_SFire l)), (4, .ptr 4 0), (10, .t (tI p.2)), (36, .t (tS enc_SFire l)), (37, .t (tI (l.length : Int))), (38, .t (tI p.1))], [(4, .box [.t (tS Pv.encI t2.Air.X), .t (tS Pv.encI t2.Air.Y), .t (tS (Pv.encS Pv.encI) t2.Air.Z), .t (tS Pv.encI t2.Spark.X), .t (tS Pv.encI t2.Spark.Y), .t (tS (Pv.encS Pv.encI) t2.Spark.Z), .t (tS Pv.encI t2.Torque.X), .t (tS Pv.encI t2.Torque.Y), .t (tS (Pv.encS Pv.encI) t2.Torque.Z), .t (tS Pv.encI t2.Wish.X), .t (tS Pv.encI t2.Wish.Y), .t (tS (Pv.encS Pv.encI) t2.Wish.Z), .t (tS Pv.encI t2.AirTemp.X), .t (tS Pv.encI t2.AirTemp.Y), .t (tS Pv.encI t2.Dwell.X), .t (tS Pv.encI t2.Dwell.Y), .t (tS Pv.encI t2.Dead.X), .t (tS Pv.encI t2.Dead.Y), .t (tS Pv.encI t2.Efficiency.X), .t (tS Pv.encI t2.Efficiency.Y), .t (tI t2.Idle.P), .t (tI t2.Idle.I), .t (tI t2.Idle.Low), .t (tI t2.Idle.High)])]⟩) (fun b e σ' => match b with | .inl t => e = .exit 1 ∧ Sub ⟨[(1, .t (tI speed)), (2, .t (tI charge)), (3, .t (tS enc_SFire l)), (4, .ptr 4 0), (10, .t (tI t))], [(4, .box [.t (tS Pv.encI t2.Air.X), .t (tS Pv.encI t2.Air.Y), .t (tS (Pv.encS Pv.encI) t2.Air.Z), .t (tS Pv.encI t2.Spark.X), .t (tS Pv.encI t2.Spark.Y), .t (tS (Pv.encS Pv.encI) t2.Spark.Z), .t (tS Pv.encI t2.Torque.X), .t (tS Pv.encI t2.Torque.Y), .t (tS (Pv.encS Pv.encI) t2.Torque.Z), .t (tS Pv.encI t2.Wish.X), .t (tS Pv.encI t2.Wish.Y), .t (tS (Pv.encS Pv.encI) t2.Wish.Z), .t (tS Pv.encI t2.AirTemp.X), .t (tS Pv.encI t2.AirTemp.Y), .t (tS Pv.encI t2.Dwell.X), .t (tS Pv.encI t2.Dwell.Y), .t (tS Pv.encI t2.Dead.X), .t (tS Pv.encI t2.Dead.Y), .t (tS Pv.encI t2.Efficiency.X), .t (tS Pv.encI t2.Efficiency.Y), .t (tI t2.Idle.P), .t (tI t2.Idle.I), .t (tI t2.Idle.Low), .t (tI t2.Idle.High)])]⟩ σ' | .inr t => False) (.of rfl rfl) ?_ ?_
          · rintro ⟨i, n2⟩
            refine TieS.seq ?_
            refine TieS.region ?_
            refine TieO.run 1 rfl ?_
            refine TieO.nil ?_
            refine TieS.seq ?_
            refine TieS.cond rfl ?_ ?_
            · refine TieS.skip ?_
              refine TieS.seq ?_
              refine TieX.pre fun x hx => ?_
              refine TieX.sub (σ' := ⟨[(1, .t (tI speed)), (2, .t (tI charge)), (3, .t (tS enc_SFire l)), (4, .ptr 4 0), (10, .t (tI n2)), (36, .t (tS enc_SFire l)), (37, .t (tI (l.length : Int))), (38, .t (tI i))], [(4, .box [.t (tS Pv.encI t2.Air.X), .t (tS Pv.encI t2.Air.Y), .t (tS (Pv.encS Pv.encI) t2.Air.Z), .t (tS Pv.encI t2.Spark.X), .t (tS Pv.encI t2.Spark.Y), .t (tS (Pv.encS Pv.encI) t2.Spark.Z), .t (tS Pv.encI t2.Torque.X), .t (tS Pv.encI t2.Torque.Y), .t (tS (Pv.encS Pv.encI) t2.Torque.Z), .t (tS Pv.encI t2.Wish.X), .t (tS Pv.encI t2.Wish.Y), .t (tS (Pv.encS Pv.encI) t2.Wish.Z), .t (tS Pv.encI t2.AirTemp.X), .t (tS Pv.encI t2.AirTemp.Y), .t (tS Pv.encI t2.Dwell.X), .t (tS Pv.encI t2.Dwell.Y), .t (tS Pv.encI t2.Dead.X), .t (tS Pv.encI t2.Dead.Y), .t (tS Pv.encI t2.Efficiency.X), .t (tS Pv.encI t2.Efficiency.Y), .t (tI t2.Idle.P), .t (tI t2.Idle.I), .t (tI t2.Idle.Low), .t (tI t2.Idle.High)])]⟩) (.of rfl rfl) ?_
              refine TieS.bind (Q₁ := fun f e σ' => match f with | .next t => e = .normal ∧ Sub ⟨[(1, .t (tI speed)), (2, .t (tI charge)), (3, .t (tS enc_SFire l)), (4, .ptr 4 0), (10, .t (tI t)), (36, .t (tS enc_SFire l)), (37, .t (tI (l.length : Int))), (38, .t (tI i))], [(4, .box [.t (tS Pv.encI t2.Air.X), .t (tS Pv.encI t2.Air.Y), .t (tS (Pv.encS Pv.encI) t2.Air.Z), .t (tS Pv.encI t2.Spark.X), .t (tS Pv.encI t2.Spark.Y), .t (tS (Pv.encS Pv.encI) t2.Spark.Z), .t (tS Pv.encI t2.Torque.X), .t (tS Pv.encI t2.Torque.Y), .t (tS (Pv.encS Pv.encI) t2.Torque.Z), .t (tS Pv.encI t2.Wish.X), .t (tS Pv.encI t2.Wish.Y), .t (tS (Pv.encS Pv.encI) t2.Wish.Z), .t (tS Pv.encI t2.AirTemp.X), .t (tS Pv.encI t2.AirTemp.Y), .t (tS Pv.encI t2.Dwell.X), .t (tS Pv.encI t2.Dwell.Y), .t (tS Pv.encI t2.Dead.X), .t (tS Pv.encI t2.Dead.Y), .t (tS Pv.encI t2.Efficiency.X), .t (tS Pv.encI t2.Efficiency.Y), .t (tI t2.Idle.P), .t (tI t2.Idle.I), .t (tI t2.Idle.Low), .t (tI t2.Idle.High)])]⟩ σ' | .brk t => e = .exit 1 ∧ Sub ⟨[(1, .t (tI speed)), (2, .t (tI charge)), (3, .t (tS enc_SFire l)), (4, .ptr 4 0), (10, .t (tI t))], [(4, .box [.t (tS Pv.encI t2.Air.X), .t (tS Pv.encI t2.Air.Y), .t (tS (Pv.encS Pv.encI) t2.Air.Z), .t (tS Pv.encI t2.Spark.X), .t (tS Pv.encI t2.Spark.Y), .t (tS (Pv.encS Pv.encI) t2.Spark.Z), .t (tS Pv.encI t2.Torque.X), .t (tS Pv.encI t2.Torque.Y), .t (tS (Pv.encS Pv.encI) t2.Torque.Z), .t (tS Pv.encI t2.Wish.X), .t (tS Pv.encI t2.Wish.Y), .t (tS (Pv.encS Pv.encI) t2.Wish.Z), .t (tS Pv.encI t2.AirTemp.X), .t (tS Pv.encI t2.AirTemp.Y), .t (tS Pv.encI t2.Dwell.X), .t (tS Pv.encI t2.Dwell.Y), .t (tS Pv.encI t2.Dead.X), .t (tS Pv.encI t2.Dead.Y), .t (tS Pv.encI t2.Efficiency.X), .t (tS Pv.encI t2.Efficiency.Y), .t (tI t2.Idle.P), .t (tI t2.Idle.I), .t (tI t2.Idle.Low), .t (tI t2.Idle.High)])]⟩ σ' | .ret r => False) ?_ ?_
              · refine TieS.block ?_
                refine TieS.seq ?_
                refine TieS.region ?_
                refine TieO.indexH hx rfl rfl rfl rfl rfl rfl rfl rfl (fun _ => rfl) ?_
                refine TieO.run 3 rfl ?_
                refine TieO.nil ?_
                refine TieS.seq ?_
                refine TieS.region ?_
                refine TieO.run 3 rfl ?_
                refine TieO.nil ?_
                refine TieS.cond rfl ?_ ?_
                · refine TieS.region ?_
                  refine TieO.run 3 rfl ?_
                  refine TieO.nil ?_
                  refine TieS.endb ?_
                  exact TieS.leaf ⟨rfl, .of rfl rfl⟩
                · refine TieS.skip ?_
                  refine TieS.endb ?_
                  exact TieS.leaf ⟨rfl, .of rfl rfl⟩
              rintro (t | t | r) e σ' _ hq
              · obtain ⟨rfl, hs⟩ := hq
                refine TieX.sub hs ?_
                refine TieS.region ?_
                refine TieO.run 2 rfl ?_
                refine TieO.nil ?_
                exact TieS.leaf ⟨rfl, .of rfl rfl⟩
              · obtain ⟨rfl, hs⟩ := hq
                exact TieX.exitOut rfl ⟨(fun h => by cases h), rfl, hs⟩
              · exact hq.elim
            · exact TieS.exitOut rfl ⟨(fun h => by cases h), rfl, .of rfl rfl⟩
          rintro (n3 | r) e σ' _ hq
          · obtain ⟨rfl, hs⟩ := hq
            refine TieX.exit rfl (TieX.sub hs ?_)
            refine TieS.seq ?_
            refine TieS.region ?_
            refine TieO.run 4 rfl ?_
            refine TieO.call _ rfl rfl rfl (tie_monitor_corner t2.Torque speed charge) (fun _ => rfl) fun v4 => ?_
            refine TieO.run 3 rfl ?_
            refine TieO.nil ?_
            refine TieS.seq ?_
            refine TieS.region ?_
            refine TieO.run 9 rfl ?_
            refine TieO.quo rfl rfl rfl rfl rfl rfl fun q => ?_
            refine TieO.run 2 rfl ?_
            refine TieO.nil ?_
            exact TieS.ret ⟨.inl rfl, rfl⟩
          · exact hq.elim
-- magneto/magnetoref39.Actual
set_option maxRecDepth 100000 in
theorem tie_magnetoref39_Actual (t2 : STables) (speed : Int) (charge : Int) (l : List SFire) : TieF Try.prog 26 [A_STables t2, .t (tI speed), .t (tI charge), .t (tS enc_SFire l)] (magnetoref39_Actual t2 speed charge l) (fun r => .t (tI r)) := by
  refine TieF.intro htab 45 [.tmp 8] Try.call26 Try.func26 rfl rfl rfl (Nat.le_of_ble_eq_true rfl) fun w0 L => ?_
  refine TieS.seq ?_
  refine TieS.region ?_
  refine TieO.run 2 rfl ?_
  refine TieO.nil ?_
  refine TieS.seq ?_
  refine TieS.seq ?_
  refine TieS.region ?_
  refine TieO.run 3 rfl ?_
  refine TieO.nil ?_
  refine TieS.cond rfl ?_ ?_
  · refine TieS.seq ?_
    refine TieS.region ?_
    refine TieO.run 1 rfl ?_
    refine TieO.nil ?_
    exact TieS.ret ⟨.inl rfl, rfl⟩
  · refine TieS.skip ?_
    refine TieS.seq ?_
    refine TieS.region ?_
    refine TieO.run 1 rfl ?_
    refine TieO.nil ?_
    refine TieS.seq ?_
    refine TieS.seq ?_
    refine TieS.region ?_
    refine TieO.run 1 rfl ?_
    refine TieO.nil ?_
    refine TieS.block ?_
    refine TieS.loop (fun t => ⟨[(1, .t (tI speed)), (2, .t (tI charge)), (3, .t (tS enc_SFire l)), (4, .ptr 4 0), (9, .t (tI t.1)), (10, .t (tI t.2))], [(4, .box [.t (tS Pv.encI t2.Air.X), .t (tS Pv.encI t2.Air.Y), .t (tS (Pv.encS Pv.encI) t2.Air.Z), .t (tS Pv.encI t2.Spark.X), .t (tS Pv.encI t2.Spark.Y), .t (tS (Pv.encS Pv.encI) t2.Spark.Z), .t (tS Pv.encI t2.Torque.X), .t (tS Pv.encI t2.Torque.Y), .t (tS (Pv.encS Pv.encI) t2.Torque.Z), .t (tS Pv.encI t2.Wish.X), .t (tS Pv.encI t2.Wish.Y), .t (tS (Pv.encS Pv.encI) t2.Wish.Z), .t (tS Pv.encI t2.AirTemp.X), .t (tS Pv.encI t2.AirTemp.Y), .t (tS Pv.encI t2.Dwell.X), .t (tS Pv.encI t2.Dwell.Y), .t (tS Pv.encI t2.Dead.X), .t (tS Pv.encI t2.Dead.Y), .t (tS Pv.encI t2.Efficiency.X), .t (tS Pv.encI t2.Efficiency.Y), .t (tI t2.Idle.P), .t (tI t2.Idle.I), .t (tI t2.Idle.Low), .t (tI t2.Idle.High)])]⟩) (fun b e σ' => match b with | .inl t => e = .exit 0 ∧ Sub ⟨[(1, .t (tI speed)), (2, .t (tI charge)), (3, .t (tS enc_SFire l)), (4, .ptr 4 0), (9, .t (tI t.1))], [(4, .box [.t (tS Pv.encI t2.Air.X), .t (tS Pv.encI t2.Air.Y), .t (tS (Pv.encS Pv.encI) t2.Air.Z), .t (tS Pv.encI t2.Spark.X), .t (tS Pv.encI t2.Spark.Y), .t (tS (Pv.encS Pv.encI) t2.Spark.Z), .t (tS Pv.encI t2.Torque.X), .t (tS Pv.encI t2.Torque.Y), .t (tS (Pv.encS Pv.encI) t2.Torque.Z), .t (tS Pv.encI t2.Wish.X), .t (tS Pv.encI t2.Wish.Y), .t (tS (Pv.encS Pv.encI) t2.Wish.Z), .t (tS Pv.encI t2.AirTemp.X), .t (tS Pv.encI t2.AirTemp.Y), .t (tS Pv.encI t2.Dwell.X), .t (tS Pv.encI t2.Dwell.Y), .t (tS Pv.encI t2.Dead.X), .t (tS Pv.encI t2.Dead.Y), .t (tS Pv.encI t2.Efficiency.X), .t (tS Pv.encI t2.Efficiency.Y), .t (tI t2.Idle.P), .t (tI t2.Idle.I), .t (tI t2.Idle.Low), .t (tI t2.Idle.High)])]⟩ σ' | .inr t => False) (.of rfl rfl) ?_ ?_
    · intro s
      refine TieS.seq ?_
      refine TieS.seq ?_
      refine TieS.region ?_
      refine TieO.run 4 rfl ?_
      refine TieO.nil ?_
      refine TieS.cond rfl ?_ ?_
      · refine TieS.skip ?_
        refine TieS.seq ?_
        refine TieS.block ?_
        refine TieS.seq ?_
        refine TieS.region ?_
        refine TieO.run 2 rfl ?_
        refine TieO.index rfl rfl rfl rfl rfl rfl rfl rfl (fun _ => rfl) fun x hx => ?_
        refine TieO.run 3 rfl ?_
        refine TieO.nil ?_
        refine TieS.cond rfl ?_ ?_
        · refine TieS.region ?_
          refine TieO.run 3 rfl ?_
          refine TieO.nil ?_
          refine TieS.endb ?_
          refine TieS.region ?_
          refine TieO.run 3 rfl ?_
          refine TieO.nil ?_
          exact TieS.leaf ⟨rfl, .of rfl rfl⟩
        · refine TieS.skip ?_
          refine TieS.endb ?_
          refine TieS.region ?_
          refine TieO.run 3 rfl ?_
          refine TieO.nil ?_
          exact TieS.leaf ⟨rfl, .of rfl rfl⟩
      · exact TieS.exitOut rfl ⟨(fun h => by cases h), rfl, .of rfl rfl⟩
    rintro (s2 | r) e σ' _ hq
    · obtain ⟨rfl, hs⟩ := hq
      refine TieX.exit rfl (TieX.sub hs ?_)
      refine TieS.seq ?_
      refine TieS.region ?_
      refine TieO.run 4 rfl ?_
      refine TieO.call _ rfl rfl rfl (tie_magnetoref39_Corner t2.Torque speed charge) (fun _ => rfl) fun v => ?_
      refine TieO.call _ rfl rfl rfl (tie_magnetoref39_limit v 0 10000) (fun _ => rfl) fun v2 => ?_
      refine TieO.run 1 rfl ?_
      refine TieO.nil ?_
      refine TieS.seq ?_
      refine TieS.region ?_
      refine TieO.run 9 rfl ?_
      refine TieO.quo rfl rfl rfl rfl rfl rfl fun q => ?_
      refine TieO.run 1 rfl ?_
      refine TieO.nil ?_
      exact TieS.ret ⟨.inl rfl, rfl⟩
    · exact hq.elim
-- magneto/magnetolaw39.MonitorMeasures
set_option maxRecDepth 100000 in
theorem tie_magnetolaw39_MonitorMeasures (t2 : STables) (speed : Int) (charge : Int) (l : List SFire) : TieF Try.prog 6 [A_STables t2, .t (tI speed), .t (tI charge), .t (tS enc_SFire l)] (magnetolaw39_MonitorMeasures t2 speed charge l) (fun r => .t (tB r)) := by
  refine TieF.intro htab 71 [.tmp 8] Try.call6 Try.func6 rfl rfl rfl (Nat.le_of_ble_eq_true rfl) fun w0 L => ?_
  refine TieS.seq ?_
  refine TieS.region ?_
  refine TieO.run 2 rfl ?_
  refine TieO.nil ?_
  refine TieS.seq ?_
  refine TieS.seq ?_
  refine TieS.region ?_
  refine TieO.call _ rfl rfl rfl (tie_magnetolaw39_awake) (fun _ => rfl) fun v => ?_
  refine TieO.run 1 rfl ?_
  refine TieO.nil ?_
  refine TieS.cond rfl ?_ ?_
  · refine TieS.seq ?_
    refine TieS.region ?_
    refine TieO.run 1 rfl ?_
    refine TieO.nil ?_
    exact TieS.ret ⟨.inl rfl, rfl⟩
  · refine TieS.skip ?_
    refine TieS.seq ?_
    refine TieS.seq ?_
    refine TieS.region ?_
    refine TieO.run 3 rfl ?_
    refine TieO.nil ?_
    refine TieS.cond rfl ?_ ?_
    · refine TieS.seq ?_
      refine TieS.region ?_
      refine TieO.run 1 rfl ?_
      refine TieO.nil ?_
      exact TieS.ret ⟨.inl rfl, rfl⟩
    · refine TieS.skip ?_
      refine TieS.seq ?_
      refine TieS.region ?_
      refine TieO.run 4 rfl ?_
      refine TieO.call _ rfl rfl rfl (tie_monitor_Actual t2 speed charge l) (fun _ => rfl) fun r2 => ?_
      refine TieO.run 5 rfl ?_
      refine TieO.nil ?_
      refine TieS.seq ?_
      refine TieS.block ?_
      refine TieS.seq ?_
      refine TieS.region ?_
      refine TieO.run 2 rfl ?_
      refine TieO.call _ rfl rfl rfl (tie_magnetoref39_Map t2.Torque) (fun _ => rfl) fun v2 => ?_
      refine TieO.run 2 rfl ?_
      refine TieO.nil ?_
      refine TieS.cond rfl ?_ ?_
      · refine TieS.seq ?_
        refine TieS.region ?_
        refine TieO.run 3 rfl ?_
        refine TieO.selAnd (v := (r2.1 == 0)) 3 31 (fun b => ⟨[(34, .t (tB b))], []⟩) rfl ?_ ?_ ?_
        · refine TieO.run 3 rfl ?_
          refine TieO.nil ?_
          exact TieS.leaf ⟨rfl, .of rfl rfl⟩
        · refine TieO.run 3 rfl ?_
          refine TieO.nil ?_
          exact TieS.leaf ⟨rfl, .of rfl rfl⟩
        refine TieO.run 1 rfl ?_
        refine TieO.nil ?_
        exact TieS.ret ⟨.inl rfl, rfl⟩
      · refine TieS.seq ?_
        refine TieS.region ?_
        refine TieO.run 4 rfl ?_
        refine TieO.nil ?_
        refine TieS.cond rfl ?_ ?_
        · refine TieS.seq ?_
          refine TieS.region ?_
          refine TieO.run 3 rfl ?_
          refine TieO.selAnd (v := (r2.1 == 0)) 3 41 (fun b => ⟨[(44, .t (tB b))], []⟩) rfl ?_ ?_ ?_
          · refine TieO.run 3 rfl ?_
            refine TieO.nil ?_
            exact TieS.leaf ⟨rfl, .of rfl rfl⟩
          · refine TieO.run 3 rfl ?_
            refine TieO.nil ?_
            exact TieS.leaf ⟨rfl, .of rfl rfl⟩
          refine TieO.run 1 rfl ?_
          refine TieO.nil ?_
          exact TieS.ret ⟨.inl rfl, rfl⟩
        · refine TieS.seq ?_
          refine TieS.region ?_
          refine TieO.run 1 rfl ?_
          refine TieO.call _ rfl rfl rfl (tie_magnetoref39_In speed 0 12000) (fun _ => rfl) fun v3 => ?_
          refine TieO.run 2 rfl ?_
          refine TieO.bind 4 (fun b2 => ⟨[(1, .t (tI speed)), (2, .t (tI charge)), (3, .t (tS enc_SFire l)), (4, .ptr 4 0), (9, .t (tI r2.1)), (10, .t (tI r2.2)), (53, .t (tB b2))], [(4, .box [.t (tS Pv.encI t2.Air.X), .t (tS Pv.encI t2.Air.Y), .t (tS (Pv.encS Pv.encI) t2.Air.Z), .t (tS Pv.encI t2.Spark.X), .t (tS Pv.encI t2.Spark.Y), .t (tS (Pv.encS Pv.encI) t2.Spark.Z), .t (tS Pv.encI t2.Torque.X), .t (tS Pv.encI t2.Torque.Y), .t (tS (Pv.encS Pv.encI) t2.Torque.Z), .t (tS Pv.encI t2.Wish.X), .t (tS Pv.encI t2.Wish.Y), .t (tS (Pv.encS Pv.encI) t2.Wish.Z), .t (tS Pv.encI t2.AirTemp.X), .t (tS Pv.encI t2.AirTemp.Y), .t (tS Pv.encI t2.Dwell.X), .t (tS Pv.encI t2.Dwell.Y), .t (tS Pv.encI t2.Dead.X), .t (tS Pv.encI t2.Dead.Y), .t (tS Pv.encI t2.Efficiency.X), .t (tS Pv.encI t2.Efficiency.Y), .t (tI t2.Idle.P), .t (tI t2.Idle.I), .t (tI t2.Idle.Low), .t (tI t2.Idle.High)])]⟩) (TieO.split 49 rfl ?_ ?_) fun b2 _ => ?_
          · refine TieO.run 4 rfl ?_
            refine TieO.nil ?_
            exact TieS.leaf ⟨rfl, .of rfl rfl⟩
          · refine TieO.run 1 rfl ?_
            refine TieO.call _ rfl rfl rfl (tie_magnetoref39_In charge 0 1048576) (fun _ => rfl) fun v4 => ?_
            refine TieO.run 2 rfl ?_
            refine TieO.nil ?_
            exact TieS.leaf ⟨rfl, .of rfl rfl⟩
          refine TieO.run 1 rfl ?_
          refine TieO.nil ?_
          refine TieS.cond rfl ?_ ?_
          · refine TieS.seq ?_
            refine TieS.region ?_
            refine TieO.run 3 rfl ?_
            refine TieO.selAnd (v := (r2.1 == 0)) 3 56 (fun b => ⟨[(59, .t (tB b))], []⟩) rfl ?_ ?_ ?_
            · refine TieO.run 3 rfl ?_
              refine TieO.nil ?_
              exact TieS.leaf ⟨rfl, .of rfl rfl⟩
            · refine TieO.run 3 rfl ?_
              refine TieO.nil ?_
              exact TieS.leaf ⟨rfl, .of rfl rfl⟩
            refine TieO.run 1 rfl ?_
            refine TieO.nil ?_
            exact TieS.ret ⟨.inl rfl, rfl⟩
          · refine TieS.skip ?_
            refine TieS.endb ?_
            refine TieS.seq ?_
            refine TieS.region ?_
            refine TieO.run 3 rfl ?_
            refine TieO.bind 8 (fun b3 => ⟨[(70, .t (tB b3))], []⟩) (TieO.split 62 rfl ?_ ?_) fun b3 _ => ?_
            · refine TieO.run 5 rfl ?_
              refine TieO.call _ rfl rfl rfl (tie_magnetoref39_Actual t2 speed charge l) (fun _ => rfl) fun v5 => ?_
              refine TieO.run 2 rfl ?_
              refine TieO.nil ?_
              exact TieS.leaf ⟨rfl, .of rfl rfl⟩
            · refine TieO.run 8 rfl ?_
              refine TieO.nil ?_
              exact TieS.leaf ⟨rfl, .of rfl rfl⟩
            refine TieO.run 1 rfl ?_
            refine TieO.nil ?_
            exact TieS.ret ⟨.inl rfl, rfl⟩
-- slices.Clone[[]magneto/api.Fire,magneto/api.Fire]
set_option maxRecDepth 100000 in
theorem tie_slices_Clone_sFire (s : List SFire) : TieG Try.prog 27 [.t (tS enc_SFire s)] [] (slices_Clone_sFire s) (fun _ => .own 900000) (fun r => [(900000, .rows 62 7 r.length (r.map enc_SFire))]) := by
  refine TieG.intro htab 8 [.tmp 2] Try.call27 Try.func27 rfl rfl rfl (Nat.le_of_ble_eq_true rfl) fun w0 L => ?_
  refine TieS.seq ?_
  refine TieS.region ?_
  refine TieO.run 1 rfl ?_
  refine TieO.nil ?_
  refine TieS.seq ?_
  refine TieS.seq ?_
  refine TieS.region ?_
  refine TieO.run 1 rfl ?_
  refine TieO.isNil rfl rfl rfl rfl rfl rfl fun b2 hb2 => ?_
  refine TieO.nil ?_
  refine TieS.condB rfl (fun hb1 => ?_) (fun _ => ?_)
  · refine TieX.model (m' := some ([] : List SFire)) (by rw [hb2 hb1]; rfl) ?_
    refine TieS.seq ?_
    refine TieS.region ?_
    refine TieO.run 1 rfl ?_
    refine TieO.nil ?_
    refine TieX.nilP 2 70000 62 7 [] rfl rfl rfl rfl rfl ?_
    exact TieS.ret ⟨.inl rfl, ⟨[(70000, 900000)], _, _, rfl, rfl, rfl, rfl, rfl⟩⟩
  · refine TieS.skip ?_
    refine TieS.seq ?_
    refine TieS.region ?_
    refine TieO.run 2 rfl ?_
    refine TieO.appendY (id := 5) (e' := 0) (l := ([] : List SFire)) (r := s) (tm' := [(0, .t (tS enc_SFire s)), (2, .t (.v (.slice none 0 0))), (3, .t (tS enc_SFire s)), (4, .t (tB b2)), (6, .t (tS enc_SFire s))]) (hp' := []) rfl rfl rfl rfl rfl rfl rfl (fun _ => rfl) (fun _ => rfl) (.inl ⟨rfl, rfl⟩) (.inl rfl) (.of rfl rfl) rfl rfl rfl fun l => ?_
    refine TieO.run 1 rfl ?_
    refine TieO.nil ?_
    exact TieS.ret ⟨.inl rfl, ⟨[(5, 900000)], _, _, rfl, rfl, rfl, rfl, rfl⟩⟩
-- magneto/magnetolaw39.MonitorCut
set_option maxRecDepth 100000 in
theorem tie_magnetolaw39_MonitorCut (t2 : STables) (speed : Int) (charge : Int) (l : List SFire) (k : Int) : TieF Try.prog 7 [A_STables t2, .t (tI speed), .t (tI charge), .t (tS enc_SFire l), .t (tK .u8 k)] (magnetolaw39_MonitorCut t2 speed charge l k) (fun r => .t (tB r)) := by
  refine TieF.intro htab 105 [.tmp 10] Try.call7 Try.func7 rfl rfl rfl (Nat.le_of_ble_eq_true rfl) fun w0 L => ?_
  refine TieS.seq ?_
  refine TieS.region ?_
  refine TieO.run 2 rfl ?_
  refine TieO.nil ?_
  refine TieS.seq ?_
  refine TieS.seq ?_
  refine TieS.region ?_
  refine TieO.call _ rfl rfl rfl (tie_magnetolaw39_awake) (fun _ => rfl) fun v => ?_
  refine TieO.run 1 rfl ?_
  refine TieO.nil ?_
  refine TieS.cond rfl ?_ ?_
  · refine TieS.seq ?_
    refine TieS.region ?_
    refine TieO.run 1 rfl ?_
    refine TieO.nil ?_
    exact TieS.ret ⟨.inl rfl, rfl⟩
  · refine TieS.skip ?_
    refine TieS.seq ?_
    refine TieS.seq ?_
    refine TieS.region ?_
    refine TieO.run 4 rfl ?_
    refine TieO.selOr (v := decide ((l.length : Int) > 8)) 4 25 (fun b => ⟨[(1, .t (tI speed)), (2, .t (tI charge)), (3, .t (tS enc_SFire l)), (4, .t (tK .u8 k)), (5, .ptr 5 0), (29, .t (tB b))], [(5, .box [.t (tS Pv.encI t2.Air.X), .t (tS Pv.encI t2.Air.Y), .t (tS (Pv.encS Pv.encI) t2.Air.Z), .t (tS Pv.encI t2.Spark.X), .t (tS Pv.encI t2.Spark.Y), .t (tS (Pv.encS Pv.encI) t2.Spark.Z), .t (tS Pv.encI t2.Torque.X), .t (tS Pv.encI t2.Torque.Y), .t (tS (Pv.encS Pv.encI) t2.Torque.Z), .t (tS Pv.encI t2.Wish.X), .t (tS Pv.encI t2.Wish.Y), .t (tS (Pv.encS Pv.encI) t2.Wish.Z), .t (tS Pv.encI t2.AirTemp.X), .t (tS Pv.encI t2.AirTemp.Y), .t (tS Pv.encI t2.Dwell.X), .t (tS Pv.encI t2.Dwell.Y), .t (tS Pv.encI t2.Dead.X), .t (tS Pv.encI t2.Dead.Y), .t (tS Pv.encI t2.Efficiency.X), .t (tS Pv.encI t2.Efficiency.Y), .t (tI t2.Idle.P), .t (tI t2.Idle.I), .t (tI t2.Idle.Low), .t (tI t2.Idle.High)])]⟩) rfl ?_ ?_ ?_
    · refine TieO.run 4 rfl ?_
      refine TieO.nil ?_
      exact TieS.leaf ⟨rfl, .of rfl rfl⟩
    · refine TieO.run 4 rfl ?_
      refine TieO.nil ?_
      exact TieS.leaf ⟨rfl, .of rfl rfl⟩
    refine TieO.nil ?_
    refine TieS.cond rfl ?_ ?_
    · refine TieS.seq ?_
      refine TieS.region ?_
      refine TieO.run 1 rfl ?_
      refine TieO.nil ?_
      exact TieS.ret ⟨.inl rfl, rfl⟩
    · refine TieS.skip ?_
      refine TieS.seq ?_
      refine TieS.region ?_
      refine TieO.run 4 rfl ?_
      refine TieO.call _ rfl rfl rfl (tie_monitor_Actual t2 speed charge l) (fun _ => rfl) fun r2 => ?_
      refine TieO.run 5 rfl ?_
      refine TieO.nil ?_
      refine TieS.seq ?_
      refine TieS.region ?_
      refine TieO.run 1 rfl ?_
      refine TieO.callG [] [(900000, 2312)] (fun v2 => ⟨[(1, .t (tI speed)), (2, .t (tI charge)), (3, .t (tS enc_SFire l)), (4, .t (tK .u8 k)), (5, .ptr 5 0), (11, .t (tI r2.1)), (12, .t (tI r2.2)), (29, .t (tB ((decide ((l.length : Int) < 1)) || (decide ((l.length : Int) > 8))))), (30, .tup [.t (tI r2.1), .t (tI r2.2)]), (31, .agg [.t (tS Pv.encI t2.Air.X), .t (tS Pv.encI t2.Air.Y), .t (tS (Pv.encS Pv.encI) t2.Air.Z), .t (tS Pv.encI t2.Spark.X), .t (tS Pv.encI t2.Spark.Y), .t (tS (Pv.encS Pv.encI) t2.Spark.Z), .t (tS Pv.encI t2.Torque.X), .t (tS Pv.encI t2.Torque.Y), .t (tS (Pv.encS Pv.encI) t2.Torque.Z), .t (tS Pv.encI t2.Wish.X), .t (tS Pv.encI t2.Wish.Y), .t (tS (Pv.encS Pv.encI) t2.Wish.Z), .t (tS Pv.encI t2.AirTemp.X), .t (tS Pv.encI t2.AirTemp.Y), .t (tS Pv.encI t2.Dwell.X), .t (tS Pv.encI t2.Dwell.Y), .t (tS Pv.encI t2.Dead.X), .t (tS Pv.encI t2.Dead.Y), .t (tS Pv.encI t2.Efficiency.X), .t (tS Pv.encI t2.Efficiency.Y), .t (tI t2.Idle.P), .t (tI t2.Idle.I), .t (tI t2.Idle.Low), .t (tI t2.Idle.High)]), (32, .t (tI speed)), (33, .t (tI charge)), (34, .t (tS enc_SFire l)), (35, .tup [.t (tI r2.1), .t (tI r2.2)]), (36, .t (tI r2.1)), (37, .t (tI r2.2)), (38, .t (tS enc_SFire l)), (39, .own 2312)], [(5, .box [.t (tS Pv.encI t2.Air.X), .t (tS Pv.encI t2.Air.Y), .t (tS (Pv.encS Pv.encI) t2.Air.Z), .t (tS Pv.encI t2.Spark.X), .t (tS Pv.encI t2.Spark.Y), .t (tS (Pv.encS Pv.encI) t2.Spark.Z), .t (tS Pv.encI t2.Torque.X), .t (tS Pv.encI t2.Torque.Y), .t (tS (Pv.encS Pv.encI) t2.Torque.Z), .t (tS Pv.encI t2.Wish.X), .t (tS Pv.encI t2.Wish.Y), .t (tS (Pv.encS Pv.encI) t2.Wish.Z), .t (tS Pv.encI t2.AirTemp.X), .t (tS Pv.encI t2.AirTemp.Y), .t (tS Pv.encI t2.Dwell.X), .t (tS Pv.encI t2.Dwell.Y), .t (tS Pv.encI t2.Dead.X), .t (tS Pv.encI t2.Dead.Y), .t (tS Pv.encI t2.Efficiency.X), .t (tS Pv.encI t2.Efficiency.Y), .t (tI t2.Idle.P), .t (tI t2.Idle.I), .t (tI t2.Idle.Low), .t (tI t2.Idle.High)]), (2312, .rows 62 7 v2.length (v2.map enc_SFire))]⟩) (tie_slices_Clone_sFire l) rfl rfl rfl rfl rfl rfl rfl (fun _ => rfl) (fun _ => rfl) (fun _ => rfl) (fun _ => .of rfl rfl) fun v2 hv2 => ?_
      refine TieO.run 1 rfl ?_
      refine TieO.callG [] [(900000, 2328)] (fun v3 => ⟨[(1, .t (tI speed)), (2, .t (tI charge)), (3, .t (tS enc_SFire l)), (4, .t (tK .u8 k)), (5, .ptr 5 0), (11, .t (tI r2.1)), (12, .t (tI r2.2)), (29, .t (tB ((decide ((l.length : Int) < 1)) || (decide ((l.length : Int) > 8))))), (30, .tup [.t (tI r2.1), .t (tI r2.2)]), (31, .agg [.t (tS Pv.encI t2.Air.X), .t (tS Pv.encI t2.Air.Y), .t (tS (Pv.encS Pv.encI) t2.Air.Z), .t (tS Pv.encI t2.Spark.X), .t (tS Pv.encI t2.Spark.Y), .t (tS (Pv.encS Pv.encI) t2.Spark.Z), .t (tS Pv.encI t2.Torque.X), .t (tS Pv.encI t2.Torque.Y), .t (tS (Pv.encS Pv.encI) t2.Torque.Z), .t (tS Pv.encI t2.Wish.X), .t (tS Pv.encI t2.Wish.Y), .t (tS (Pv.encS Pv.encI) t2.Wish.Z), .t (tS Pv.encI t2.AirTemp.X), .t (tS Pv.encI t2.AirTemp.Y), .t (tS Pv.encI t2.Dwell.X), .t (tS Pv.encI t2.Dwell.Y), .t (tS Pv.encI t2.Dead.X), .t (tS Pv.encI t2.Dead.Y), .t (tS Pv.encI t2.Efficiency.X), .t (tS Pv.encI t2.Efficiency.Y), .t (tI t2.Idle.P), .t (tI t2.Idle.I), .t (tI t2.Idle.Low), .t (tI t2.Idle.High)]), (32, .t (tI speed)), (33, .t (tI charge)), (34, .t (tS enc_SFire l)), (35, .tup [.t (tI r2.1), .t (tI r2.2)]), (36, .t (tI r2.1)), (37, .t (tI r2.2)), (38, .t (tS enc_SFire l)), (39, .own 2312), (40, .t (tS enc_SFire l)), (41, .own 2328)], [(5, .box [.t (tS Pv.encI t2.Air.X), .t (tS Pv.encI t2.Air.Y), .t (tS (Pv.encS Pv.encI) t2.Air.Z), .t (tS Pv.encI t2.Spark.X), .t (tS Pv.encI t2.Spark.Y), .t (tS (Pv.encS Pv.encI) t2.Spark.Z), .t (tS Pv.encI t2.Torque.X), .t (tS Pv.encI t2.Torque.Y), .t (tS (Pv.encS Pv.encI) t2.Torque.Z), .t (tS Pv.encI t2.Wish.X), .t (tS Pv.encI t2.Wish.Y), .t (tS (Pv.encS Pv.encI) t2.Wish.Z), .t (tS Pv.encI t2.AirTemp.X), .t (tS Pv.encI t2.AirTemp.Y), .t (tS Pv.encI t2.Dwell.X), .t (tS Pv.encI t2.Dwell.Y), .t (tS Pv.encI t2.Dead.X), .t (tS Pv.encI t2.Dead.Y), .t (tS Pv.encI t2.Efficiency.X), .t (tS Pv.encI t2.Efficiency.Y), .t (tI t2.Idle.P), .t (tI t2.Idle.I), .t (tI t2.Idle.Low), .t (tI t2.Idle.High)]), (2312, .rows 62 7 v2.length (v2.map enc_SFire)), (2328, .rows 62 7 v3.length (v3.map enc_SFire))]⟩) (tie_slices_Clone_sFire l) rfl rfl rfl rfl rfl rfl rfl (fun _ => rfl) (fun _ => rfl) (fun _ => rfl) (fun _ => .of rfl rfl) fun v3 hv3 => ?_
      refine TieO.run 2 rfl ?_
      refine TieO.nil ?_
      refine TieS.seq ?_
      refine TieS.region ?_
      refine TieO.run 5 rfl ?_
      refine TieO.rem rfl rfl rfl rfl rfl rfl fun q => ?_
      refine TieO.indexO rfl rfl rfl rfl rfl rfl rfl rfl rfl rfl fun x hx => ?_
      refine TieO.run 1 rfl ?_
      refine TieO.storeY (⟨x.Cylinder, x.Spark, x.Dwell, x.End, 0, x.Gap, x.Extra⟩ : SFire) [tI 0] hx rfl rfl rfl rfl rfl rfl rfl rfl rfl rfl rfl rfl fun l2 hl2 => ?_
      refine TieO.nil ?_
      refine TieS.seq ?_
      refine TieS.seq ?_
      refine TieS.region ?_
      refine TieO.run 3 rfl ?_
      refine TieO.nil ?_
      refine TieS.block ?_
      refine TieS.loop (fun p => ⟨[(1, .t (tI speed)), (2, .t (tI charge)), (5, .ptr 5 0), (11, .t (tI r2.1)), (12, .t (tI r2.2)), (13, .own 2312), (14, .own 2328), (51, .t (tI (v3.length : Int))), (52, .t (tI p.1))], [(5, .box [.t (tS Pv.encI t2.Air.X), .t (tS Pv.encI t2.Air.Y), .t (tS (Pv.encS Pv.encI) t2.Air.Z), .t (tS Pv.encI t2.Spark.X), .t (tS Pv.encI t2.Spark.Y), .t (tS (Pv.encS Pv.encI) t2.Spark.Z), .t (tS Pv.encI t2.Torque.X), .t (tS Pv.encI t2.Torque.Y), .t (tS (Pv.encS Pv.encI) t2.Torque.Z), .t (tS Pv.encI t2.Wish.X), .t (tS Pv.encI t2.Wish.Y), .t (tS (Pv.encS Pv.encI) t2.Wish.Z), .t (tS Pv.encI t2.AirTemp.X), .t (tS Pv.encI t2.AirTemp.Y), .t (tS Pv.encI t2.Dwell.X), .t (tS Pv.encI t2.Dwell.Y), .t (tS Pv.encI t2.Dead.X), .t (tS Pv.encI t2.Dead.Y), .t (tS Pv.encI t2.Efficiency.X), .t (tS Pv.encI t2.Efficiency.Y), .t (tI t2.Idle.P), .t (tI t2.Idle.I), .t (tI t2.Idle.Low), .t (tI t2.Idle.High)]), (2312, .rows 62 7 l2.length (l2.map enc_SFire)), (2328, .rows 62 7 p.2.length (p.2.map enc_SFire))]⟩) (fun b e σ' => match b with | .inl t => e = .exit 0 ∧ Sub ⟨[(1, .t (tI speed)), (2, .t (tI charge)), (5, .ptr 5 0), (11, .t (tI r2.1)), (12, .t (tI r2.2)), (13, .own 2312), (14, .own 2328)], [(5, .box [.t (tS Pv.encI t2.Air.X), .t (tS Pv.encI t2.Air.Y), .t (tS (Pv.encS Pv.encI) t2.Air.Z), .t (tS Pv.encI t2.Spark.X), .t (tS Pv.encI t2.Spark.Y), .t (tS (Pv.encS Pv.encI) t2.Spark.Z), .t (tS Pv.encI t2.Torque.X), .t (tS Pv.encI t2.Torque.Y), .t (tS (Pv.encS Pv.encI) t2.Torque.Z), .t (tS Pv.encI t2.Wish.X), .t (tS Pv.encI t2.Wish.Y), .t (tS (Pv.encS Pv.encI) t2.Wish.Z), .t (tS Pv.encI t2.AirTemp.X), .t (tS Pv.encI t2.AirTemp.Y), .t (tS Pv.encI t2.Dwell.X), .t (tS Pv.encI t2.Dwell.Y), .t (tS Pv.encI t2.Dead.X), .t (tS Pv.encI t2.Dead.Y), .t (tS Pv.encI t2.Efficiency.X), .t (tS Pv.encI t2.Efficiency.Y), .t (tI t2.Idle.P), .t (tI t2.Idle.I), .t (tI t2.Idle.Low), .t (tI t2.Idle.High)]), (2312, .rows 62 7 l2.length (l2.map enc_SFire)), (2328, .rows 62 7 t.length (t.map enc_SFire))]⟩ σ' | .inr t => False) (.of rfl rfl) ?_ ?_
      · rintro ⟨i, f2⟩
        refine TieS.seq ?_
        refine TieS.region ?_
        refine TieO.run 1 rfl ?_
        refine TieO.nil ?_
        refine TieS.seq ?_
        refine TieS.cond rfl ?_ ?_
        · refine TieS.skip ?_
          refine TieS.seq ?_
          refine TieX.sub (σ' := ⟨[(1, .t (tI speed)), (2, .t (tI charge)), (5, .ptr 5 0), (11, .t (tI r2.1)), (12, .t (tI r2.2)), (13, .own 2312), (14, .own 2328), (51, .t (tI (v3.length : Int))), (52, .t (tI i))], [(5, .box [.t (tS Pv.encI t2.Air.X), .t (tS Pv.encI t2.Air.Y), .t (tS (Pv.encS Pv.encI) t2.Air.Z), .t (tS Pv.encI t2.Spark.X), .t (tS Pv.encI t2.Spark.Y), .t (tS (Pv.encS Pv.encI) t2.Spark.Z), .t (tS Pv.encI t2.Torque.X), .t (tS Pv.encI t2.Torque.Y), .t (tS (Pv.encS Pv.encI) t2.Torque.Z), .t (tS Pv.encI t2.Wish.X), .t (tS Pv.encI t2.Wish.Y), .t (tS (Pv.encS Pv.encI) t2.Wish.Z), .t (tS Pv.encI t2.AirTemp.X), .t (tS Pv.encI t2.AirTemp.Y), .t (tS Pv.encI t2.Dwell.X), .t (tS Pv.encI t2.Dwell.Y), .t (tS Pv.encI t2.Dead.X), .t (tS Pv.encI t2.Dead.Y), .t (tS Pv.encI t2.Efficiency.X), .t (tS Pv.encI t2.Efficiency.Y), .t (tI t2.Idle.P), .t (tI t2.Idle.I), .t (tI t2.Idle.Low), .t (tI t2.Idle.High)]), (2312, .rows 62 7 l2.length (l2.map enc_SFire)), (2328, .rows 62 7 f2.length (f2.map enc_SFire))]⟩) (.of rfl rfl) ?_
          refine TieS.bind (Q₁ := fun f e σ' => match f with | .next t => e = .normal ∧ Sub ⟨[(1, .t (tI speed)), (2, .t (tI charge)), (5, .ptr 5 0), (11, .t (tI r2.1)), (12, .t (tI r2.2)), (13, .own 2312), (14, .own 2328), (51, .t (tI (v3.length : Int))), (52, .t (tI i))], [(5, .box [.t (tS Pv.encI t2.Air.X), .t (tS Pv.encI t2.Air.Y), .t (tS (Pv.encS Pv.encI) t2.Air.Z), .t (tS Pv.encI t2.Spark.X), .t (tS Pv.encI t2.Spark.Y), .t (tS (Pv.encS Pv.encI) t2.Spark.Z), .t (tS Pv.encI t2.Torque.X), .t (tS Pv.encI t2.Torque.Y), .t (tS (Pv.encS Pv.encI) t2.Torque.Z), .t (tS Pv.encI t2.Wish.X), .t (tS Pv.encI t2.Wish.Y), .t (tS (Pv.encS Pv.encI) t2.Wish.Z), .t (tS Pv.encI t2.AirTemp.X), .t (tS Pv.encI t2.AirTemp.Y), .t (tS Pv.encI t2.Dwell.X), .t (tS Pv.encI t2.Dwell.Y), .t (tS Pv.encI t2.Dead.X), .t (tS Pv.encI t2.Dead.Y), .t (tS Pv.encI t2.Efficiency.X), .t (tS Pv.encI t2.Efficiency.Y), .t (tI t2.Idle.P), .t (tI t2.Idle.I), .t (tI t2.Idle.Low), .t (tI t2.Idle.High)]), (2312, .rows 62 7 l2.length (l2.map enc_SFire)), (2328, .rows 62 7 t.length (t.map enc_SFire))]⟩ σ' | .brk t => e = .exit 0 ∧ Sub ⟨[(1, .t (tI speed)), (2, .t (tI charge)), (5, .ptr 5 0), (11, .t (tI r2.1)), (12, .t (tI r2.2)), (13, .own 2312), (14, .own 2328)], [(5, .box [.t (tS Pv.encI t2.Air.X), .t (tS Pv.encI t2.Air.Y), .t (tS (Pv.encS Pv.encI) t2.Air.Z), .t (tS Pv.encI t2.Spark.X), .t (tS Pv.encI t2.Spark.Y), .t (tS (Pv.encS Pv.encI) t2.Spark.Z), .t (tS Pv.encI t2.Torque.X), .t (tS Pv.encI t2.Torque.Y), .t (tS (Pv.encS Pv.encI) t2.Torque.Z), .t (tS Pv.encI t2.Wish.X), .t (tS Pv.encI t2.Wish.Y), .t (tS (Pv.encS Pv.encI) t2.Wish.Z), .t (tS Pv.encI t2.AirTemp.X), .t (tS Pv.encI t2.AirTemp.Y), .t (tS Pv.encI t2.Dwell.X), .t (tS Pv.encI t2.Dwell.Y), .t (tS Pv.encI t2.Dead.X), .t (tS Pv.encI t2.Dead.Y), .t (tS Pv.encI t2.Efficiency.X), .t (tS Pv.encI t2.Efficiency.Y), .t (tI t2.Idle.P), .t (tI t2.Idle.I), .t (tI t2.Idle.Low), .t (tI t2.Idle.High)]), (2312, .rows 62 7 l2.length (l2.map enc_SFire)), (2328, .rows 62 7 t.length (t.map enc_SFire))]⟩ σ' | .ret r => False) ?_ ?_
          · refine TieS.block ?_
            refine TieS.seq ?_
            refine TieS.region ?_
            refine TieO.run 2 rfl ?_
            refine TieO.nil ?_
            refine TieS.region ?_
            refine TieO.run 2 rfl ?_
            refine TieO.indexO rfl rfl rfl rfl rfl rfl rfl rfl rfl rfl fun x2 hx2 => ?_
            refine TieO.run 1 rfl ?_
            refine TieO.storeY (⟨x2.Cylinder, x2.Spark, x2.Dwell, x2.End, 0, x2.Gap, x2.Extra⟩ : SFire) [tI 0] hx2 rfl rfl rfl rfl rfl rfl rfl rfl rfl rfl rfl rfl fun l3 hl3 => ?_
            refine TieO.nil ?_
            refine TieS.endb ?_
            exact TieS.leaf ⟨rfl, .of rfl rfl⟩
          rintro (t | t | r) e σ' _ hq
          · obtain ⟨rfl, hs⟩ := hq
            refine TieX.sub hs ?_
            refine TieS.region ?_
            refine TieO.run 2 rfl ?_
            refine TieO.nil ?_
            exact TieS.leaf ⟨rfl, .of rfl rfl⟩
          · obtain ⟨rfl, hs⟩ := hq
            exact TieX.exitOut rfl ⟨(fun h => by cases h), rfl, hs⟩
          · exact hq.elim
        · exact TieS.exitOut rfl ⟨(fun h => by cases h), rfl, .of rfl rfl⟩
      rintro (f3 | r) e σ' _ hq
      · obtain ⟨rfl, hs⟩ := hq
        refine TieX.exit rfl (TieX.sub hs ?_)
        refine TieS.seq ?_
        refine TieS.region ?_
        refine TieO.run 4 rfl ?_
        refine TieO.callS _ rfl rfl rfl (tie_monitor_Actual t2 speed charge l2) (fun _ => rfl) (fun _ => rfl) fun r3 => ?_
        refine TieO.run 5 rfl ?_
        refine TieO.nil ?_
        refine TieS.seq ?_
        refine TieS.region ?_
        refine TieO.run 4 rfl ?_
        refine TieO.callS _ rfl rfl rfl (tie_monitor_Actual t2 speed charge f3) (fun _ => rfl) (fun _ => rfl) fun r4 => ?_
        refine TieO.run 5 rfl ?_
        refine TieO.nil ?_
        refine TieS.seq ?_
        refine TieS.seq ?_
        refine TieS.region ?_
        refine TieO.run 2 rfl ?_
        refine TieO.nil ?_
        refine TieS.cond rfl ?_ ?_
        · refine TieS.seq ?_
          refine TieS.region ?_
          refine TieO.run 4 rfl ?_
          refine TieO.selAnd (v := (r3.2 == r4.2)) 4 81 (fun b => ⟨[(85, .t (tB b))], []⟩) rfl ?_ ?_ ?_
          · refine TieO.run 4 rfl ?_
            refine TieO.nil ?_
            exact TieS.leaf ⟨rfl, .of rfl rfl⟩
          · refine TieO.run 4 rfl ?_
            refine TieO.nil ?_
            exact TieS.leaf ⟨rfl, .of rfl rfl⟩
          refine TieO.run 1 rfl ?_
          refine TieO.nil ?_
          exact TieS.ret ⟨.inl rfl, rfl⟩
        · refine TieS.skip ?_
          refine TieS.seq ?_
          refine TieS.region ?_
          refine TieO.run 3 rfl ?_
          refine TieO.selAnd (v := (r4.2 == 0)) 3 88 (fun b => ⟨[(11, .t (tI r2.1)), (16, .t (tI r3.1)), (18, .t (tI r4.1)), (91, .t (tB b))], []⟩) rfl ?_ ?_ ?_
          · refine TieO.run 3 rfl ?_
            refine TieO.nil ?_
            exact TieS.leaf ⟨rfl, .of rfl rfl⟩
          · refine TieO.run 3 rfl ?_
            refine TieO.nil ?_
            exact TieS.leaf ⟨rfl, .of rfl rfl⟩
          refine TieO.run 1 rfl ?_
          refine TieO.selAnd (v := decide (r3.1 ≤ r2.1)) 4 92 (fun b => ⟨[(11, .t (tI r2.1)), (18, .t (tI r4.1)), (96, .t (tB b))], []⟩) rfl ?_ ?_ ?_
          · refine TieO.run 4 rfl ?_
            refine TieO.nil ?_
            exact TieS.leaf ⟨rfl, .of rfl rfl⟩
          · refine TieO.run 4 rfl ?_
            refine TieO.nil ?_
            exact TieS.leaf ⟨rfl, .of rfl rfl⟩
          refine TieO.run 1 rfl ?_
          refine TieO.selAnd (v := (r4.1 == 0)) 3 97 (fun b => ⟨[(11, .t (tI r2.1)), (100, .t (tB b))], []⟩) rfl ?_ ?_ ?_
          · refine TieO.run 3 rfl ?_
            refine TieO.nil ?_
            exact TieS.leaf ⟨rfl, .of rfl rfl⟩
          · refine TieO.run 3 rfl ?_
            refine TieO.nil ?_
            exact TieS.leaf ⟨rfl, .of rfl rfl⟩
          refine TieO.run 1 rfl ?_
          refine TieO.selAnd (v := decide (r2.1 ≤ 10000)) 3 101 (fun b => ⟨[(104, .t (tB b))], []⟩) rfl ?_ ?_ ?_
          · refine TieO.run 3 rfl ?_
            refine TieO.nil ?_
            exact TieS.leaf ⟨rfl, .of rfl rfl⟩
          · refine TieO.run 3 rfl ?_
            refine TieO.nil ?_
            exact TieS.leaf ⟨rfl, .of rfl rfl⟩
          refine TieO.run 1 rfl ?_
          refine TieO.nil ?_
          exact TieS.ret ⟨.inl rfl, rfl⟩
      · exact hq.elim
-- magneto/monitor.Run
set_option maxRecDepth 100000 in
theorem tie_monitor_Run (l : List (Int × Int)) : TieF Try.prog 28 [.t (tS enc_arr2_Int l)] (monitor_Run l) (fun r => .tup [.t (tS Pv.encB r.1), .t (tI r.2)]) := by
  refine TieF.intro htab 39 [.tmp 2, .tmp 3] Try.call28 Try.func28 rfl rfl rfl (Nat.le_of_ble_eq_true rfl) fun w0 L => ?_
  refine TieS.seq ?_
  refine TieS.region ?_
  refine TieO.run 2 rfl ?_
  refine TieO.nil ?_
  refine TieS.seq ?_
  refine TieS.seq ?_
  refine TieS.region ?_
  refine TieO.run 3 rfl ?_
  refine TieO.nil ?_
  refine TieS.cond rfl ?_ ?_
  · refine TieS.seq ?_
    refine TieS.region ?_
    refine TieO.run 2 rfl ?_
    refine TieO.nil ?_
    exact TieS.ret ⟨.inl rfl, rfl⟩
  · refine TieS.skip ?_
    refine TieS.seq ?_
    refine TieS.region ?_
    refine TieO.run 1 rfl ?_
    refine TieO.nil ?_
    refine TieS.seq ?_
    refine TieS.region ?_
    refine TieO.run 1 rfl ?_
    refine TieO.nil ?_
    refine TieS.seq ?_
    refine TieS.seq ?_
    refine TieS.region ?_
    refine TieO.run 3 rfl ?_
    refine TieO.nil ?_
    refine TieS.block ?_
    refine TieX.nilP 4 2288 4 1 [] rfl rfl rfl rfl rfl ?_
    refine TieS.loop (fun p => ⟨[(4, .own 2288), (5, .ptr 5 0), (13, .t (tS enc_arr2_Int l)), (14, .t (tI (l.length : Int))), (15, .t (tI p.1))], [(5, .box [.t (tI p.2.2.Over), .t (tI p.2.2.Calm), .t (tB p.2.2.Off)]), (2288, .rows 4 1 p.2.1.length (p.2.1.map Pv.encB))]⟩) (fun b e σ' => match b with | .inl t => e = .exit 0 ∧ Sub ⟨[(4, .own 2288)], [(2288, .rows 4 1 t.1.length (t.1.map Pv.encB))]⟩ σ' | .inr t => e = .ret ∧ retT tab σ' [.tmp 2, .tmp 3] = some (((fun r => .tup [.t (tS Pv.encB r.1), .t (tI r.2)]) : (List Bool × Int) → T) t)) (.of rfl rfl) ?_ ?_
    · rintro ⟨i, s⟩
      refine TieS.seq ?_
      refine TieS.region ?_
      refine TieO.run 1 rfl ?_
      refine TieO.nil ?_
      refine TieS.seq ?_
      refine TieS.cond rfl ?_ ?_
      · refine TieS.skip ?_
        refine TieS.seq ?_
        refine TieX.pre fun x hx => ?_
        refine TieX.sub (σ' := ⟨[(4, .own 2288), (5, .ptr 5 0), (13, .t (tS enc_arr2_Int l)), (14, .t (tI (l.length : Int))), (15, .t (tI i))], [(5, .box [.t (tI s.2.Over), .t (tI s.2.Calm), .t (tB s.2.Off)]), (2288, .rows 4 1 s.1.length (s.1.map Pv.encB))]⟩) (.of rfl rfl) ?_
        refine TieS.bind (Q₁ := fun f e σ' => match f with | .next t => e = .normal ∧ Sub ⟨[(4, .own 2288), (5, .ptr 5 0), (13, .t (tS enc_arr2_Int l)), (14, .t (tI (l.length : Int))), (15, .t (tI i))], [(5, .box [.t (tI t.2.Over), .t (tI t.2.Calm), .t (tB t.2.Off)]), (2288, .rows 4 1 t.1.length (t.1.map Pv.encB))]⟩ σ' | .brk t => e = .exit 0 ∧ Sub ⟨[(4, .own 2288)], [(2288, .rows 4 1 t.1.length (t.1.map Pv.encB))]⟩ σ' | .ret t => e = .ret ∧ retT tab σ' [.tmp 2, .tmp 3] = some (((fun r => .tup [.t (tS Pv.encB r.1), .t (tI r.2)]) : (List Bool × Int) → T) t)) ?_ ?_
        · refine TieS.block ?_
          refine TieS.seq ?_
          refine TieS.region ?_
          refine TieO.indexH hx rfl rfl rfl rfl rfl rfl rfl rfl (fun _ => rfl) ?_
          refine TieO.run 3 rfl ?_
          refine TieO.nil ?_
          refine TieS.seq ?_
          refine TieS.region ?_
          refine TieO.run 5 rfl ?_
          refine TieO.call _ rfl rfl rfl (tie_monitor_Step s.2 x.1 x.2) (fun _ => rfl) fun r2 => ?_
          refine TieO.run 6 rfl ?_
          refine TieO.nil ?_
          refine TieS.seq ?_
          refine TieS.seq ?_
          refine TieS.region ?_
          refine TieO.run 2 rfl ?_
          refine TieO.nil ?_
          refine TieS.cond rfl ?_ ?_
          · refine TieS.seq ?_
            refine TieS.region ?_
            refine TieO.run 3 rfl ?_
            refine TieO.nil ?_
            exact TieS.ret ⟨rfl, rfl⟩
          · refine TieS.skip ?_
            refine TieS.bind (Q₁ := fun t e σ' => e = .normal ∧ Sub ⟨[(4, .own 2288), (5, .ptr 5 0), (13, .t (tS enc_arr2_Int l)), (14, .t (tI (l.length : Int))), (15, .t (tI i))], [(5, .box [.t (tI t.1.Over), .t (tI t.1.Calm), .t (tB t.1.Off)]), (2288, .rows 4 1 t.2.length (t.2.map Pv.encB))]⟩ σ') ?_ ?_
            · refine TieX.pre fun l2 hl2 => ?_
              refine TieS.draws 6 [false, false, false, false, false, false, false, false] [true, true, true, true, true, true, false, false] ⟨[(5, .ptr 5 0), (8, .ptr 8 0), (13, .t (tS enc_arr2_Int l)), (14, .t (tI (l.length : Int))), (15, .t (tI i)), (31, .agg [.t (tI r2.1.Over), .t (tI r2.1.Calm), .t (tB r2.1.Off)]), (33, .ptr 8 2), (34, .t (tB r2.1.Off)), (35, .own 35), (36, .own 2288)], [(5, .box [.t (tI s.2.Over), .t (tI s.2.Calm), .t (tB s.2.Off)]), (7, .box [.t (tI x.1), .t (tI x.2)]), (8, .box [.t (tI r2.1.Over), .t (tI r2.1.Calm), .t (tB r2.1.Off)]), (35, .rows 4 1 ([r2.1.Off] : List Bool).length (([r2.1.Off] : List Bool).map Pv.encB)), (2288, .rows 4 1 l2.length (l2.map Pv.encB))]⟩ mixed (fun _ _ _ h => by cases h.1) rfl rfl rfl rfl ?_ ?_
              · refine TieA.have_ (fuel₁ := 2) (l₁ := [true, true, true, true, true, true, false, false]) (σ₁ := ⟨[(5, .ptr 5 0), (8, .ptr 8 0), (13, .t (tS enc_arr2_Int l)), (14, .t (tI (l.length : Int))), (15, .t (tI i)), (31, .agg [.t (tI r2.1.Over), .t (tI r2.1.Calm), .t (tB r2.1.Off)]), (33, .ptr 8 2), (34, .t (tB r2.1.Off)), (35, .own 35), (36, .own 2288)], [(5, .box [.t (tI s.2.Over), .t (tI s.2.Calm), .t (tB s.2.Off)]), (7, .box [.t (tI x.1), .t (tI x.2)]), (8, .box [.t (tI r2.1.Over), .t (tI r2.1.Calm), .t (tB r2.1.Off)]), (35, .rows 4 1 ([r2.1.Off] : List Bool).length (([r2.1.Off] : List Bool).map Pv.encB)), (2288, .rows 4 1 l2.length (l2.map Pv.encB))]⟩) ?_ fun A_4 => ?_
                · exact TieA.done (.of rfl rfl)
                refine TieA.have_ (fuel₁ := 3) (l₁ := [true, true, true, true, true, false, false, false]) (σ₁ := ⟨[(4, .own 2288), (5, .ptr 5 0), (8, .ptr 8 0), (13, .t (tS enc_arr2_Int l)), (14, .t (tI (l.length : Int))), (15, .t (tI i)), (31, .agg [.t (tI r2.1.Over), .t (tI r2.1.Calm), .t (tB r2.1.Off)]), (32, .own 2288), (33, .ptr 8 2), (34, .t (tB r2.1.Off)), (35, .own 35)], [(5, .box [.t (tI s.2.Over), .t (tI s.2.Calm), .t (tB s.2.Off)]), (7, .box [.t (tI x.1), .t (tI x.2)]), (8, .box [.t (tI r2.1.Over), .t (tI r2.1.Calm), .t (tB r2.1.Off)]), (35, .rows 4 1 ([r2.1.Off] : List Bool).length (([r2.1.Off] : List Bool).map Pv.encB)), (2288, .rows 4 1 s.1.length (s.1.map Pv.encB))]⟩) ?_ fun A_3 => ?_
                · refine TieA.all [5] (by kernel_rfl) rfl ?_
                  refine AllA.cons (σ₁ := ⟨[(5, .ptr 5 0), (8, .ptr 8 0), (13, .t (tS enc_arr2_Int l)), (14, .t (tI (l.length : Int))), (15, .t (tI i)), (31, .agg [.t (tI r2.1.Over), .t (tI r2.1.Calm), .t (tB r2.1.Off)]), (33, .ptr 8 2), (34, .t (tB r2.1.Off)), (35, .own 35), (36, .own 2288)], [(5, .box [.t (tI s.2.Over), .t (tI s.2.Calm), .t (tB s.2.Off)]), (7, .box [.t (tI x.1), .t (tI x.2)]), (8, .box [.t (tI r2.1.Over), .t (tI r2.1.Calm), .t (tB r2.1.Off)]), (35, .rows 4 1 ([r2.1.Off] : List Bool).length (([r2.1.Off] : List Bool).map Pv.encB)), (2288, .rows 4 1 l2.length (l2.map Pv.encB))]⟩) [true, true, true, true, true, true, false, false] rfl rfl ?_ A_4 ?_
                  · refine TieO.withH hl2 (TieO.appendY (id := 2288) (l := s.1) (r := ([r2.1.Off] : List Bool)) (tm' := [(5, .ptr 5 0), (8, .ptr 8 0), (13, .t (tS enc_arr2_Int l)), (14, .t (tI (l.length : Int))), (15, .t (tI i)), (31, .agg [.t (tI r2.1.Over), .t (tI r2.1.Calm), .t (tB r2.1.Off)]), (33, .ptr 8 2), (34, .t (tB r2.1.Off)), (35, .own 35)]) (hp' := [(5, .box [.t (tI s.2.Over), .t (tI s.2.Calm), .t (tB s.2.Off)]), (7, .box [.t (tI x.1), .t (tI x.2)]), (8, .box [.t (tI r2.1.Over), .t (tI r2.1.Calm), .t (tB r2.1.Off)]), (35, .rows 4 1 ([r2.1.Off] : List Bool).length (([r2.1.Off] : List Bool).map Pv.encB))]) rfl rfl rfl rfl rfl rfl rfl (fun _ => rfl) (fun _ => rfl) (.inl ⟨rfl, rfl⟩) (.inr ⟨_, rfl, rfl⟩) (.of rfl rfl) rfl rfl rfl (TieO.ifH ?_))
                    exact TieO.nil (TieS.leaf ⟨rfl, .of rfl rfl⟩)
                  exact AllA.nil
                refine TieA.have_ (fuel₁ := 4) (l₁ := [true, true, true, true, false, false, false, false]) (σ₁ := ⟨[(4, .own 2288), (5, .ptr 5 0), (8, .ptr 8 0), (13, .t (tS enc_arr2_Int l)), (14, .t (tI (l.length : Int))), (15, .t (tI i)), (31, .agg [.t (tI r2.1.Over), .t (tI r2.1.Calm), .t (tB r2.1.Off)]), (32, .own 2288), (33, .ptr 8 2), (34, .t (tB r2.1.Off))], [(5, .box [.t (tI s.2.Over), .t (tI s.2.Calm), .t (tB s.2.Off)]), (7, .box [.t (tI x.1), .t (tI x.2)]), (8, .box [.t (tI r2.1.Over), .t (tI r2.1.Calm), .t (tB r2.1.Off)]), (2288, .rows 4 1 s.1.length (s.1.map Pv.encB))]⟩) ?_ fun A_2 => ?_
                · refine TieA.all [4] (by kernel_rfl) rfl ?_
                  refine AllA.cons (σ₁ := ⟨[(4, .own 2288), (5, .ptr 5 0), (8, .ptr 8 0), (13, .t (tS enc_arr2_Int l)), (14, .t (tI (l.length : Int))), (15, .t (tI i)), (31, .agg [.t (tI r2.1.Over), .t (tI r2.1.Calm), .t (tB r2.1.Off)]), (32, .own 2288), (33, .ptr 8 2), (34, .t (tB r2.1.Off)), (35, .own 35)], [(5, .box [.t (tI s.2.Over), .t (tI s.2.Calm), .t (tB s.2.Off)]), (7, .box [.t (tI x.1), .t (tI x.2)]), (8, .box [.t (tI r2.1.Over), .t (tI r2.1.Calm), .t (tB r2.1.Off)]), (35, .rows 4 1 ([r2.1.Off] : List Bool).length (([r2.1.Off] : List Bool).map Pv.encB)), (2288, .rows 4 1 s.1.length (s.1.map Pv.encB))]⟩) [true, true, true, true, true, false, false, false] rfl rfl ?_ A_3 ?_
                  · refine TieO.run 1 rfl ?_
                    exact TieO.nil (TieS.leaf ⟨rfl, .of rfl rfl⟩)
                  exact AllA.nil
                refine TieA.have_ (fuel₁ := 5) (l₁ := [true, true, true, false, false, false, false, false]) (σ₁ := ⟨[(4, .own 2288), (5, .ptr 5 0), (8, .ptr 8 0), (13, .t (tS enc_arr2_Int l)), (14, .t (tI (l.length : Int))), (15, .t (tI i)), (31, .agg [.t (tI r2.1.Over), .t (tI r2.1.Calm), .t (tB r2.1.Off)]), (32, .own 2288), (33, .ptr 8 2)], [(5, .box [.t (tI s.2.Over), .t (tI s.2.Calm), .t (tB s.2.Off)]), (7, .box [.t (tI x.1), .t (tI x.2)]), (8, .box [.t (tI r2.1.Over), .t (tI r2.1.Calm), .t (tB r2.1.Off)]), (2288, .rows 4 1 s.1.length (s.1.map Pv.encB))]⟩) ?_ fun A_1 => ?_
                · refine TieA.all [3] (by kernel_rfl) rfl ?_
                  refine AllA.cons (σ₁ := ⟨[(4, .own 2288), (5, .ptr 5 0), (8, .ptr 8 0), (13, .t (tS enc_arr2_Int l)), (14, .t (tI (l.length : Int))), (15, .t (tI i)), (31, .agg [.t (tI r2.1.Over), .t (tI r2.1.Calm), .t (tB r2.1.Off)]), (32, .own 2288), (33, .ptr 8 2), (34, .t (tB r2.1.Off))], [(5, .box [.t (tI s.2.Over), .t (tI s.2.Calm), .t (tB s.2.Off)]), (7, .box [.t (tI x.1), .t (tI x.2)]), (8, .box [.t (tI r2.1.Over), .t (tI r2.1.Calm), .t (tB r2.1.Off)]), (2288, .rows 4 1 s.1.length (s.1.map Pv.encB))]⟩) [true, true, true, true, false, false, false, false] rfl rfl ?_ A_2 ?_
                  · refine TieO.run 1 rfl ?_
                    exact TieO.nil (TieS.leaf ⟨rfl, .of rfl rfl⟩)
                  exact AllA.nil
                refine TieA.have_ (fuel₁ := 3) (l₁ := [false, true, true, true, true, true, false, false]) (σ₁ := ⟨[(5, .ptr 5 0), (8, .ptr 8 0), (13, .t (tS enc_arr2_Int l)), (14, .t (tI (l.length : Int))), (15, .t (tI i)), (33, .ptr 8 2), (34, .t (tB r2.1.Off)), (35, .own 35), (36, .own 2288)], [(5, .box [.t (tI s.2.Over), .t (tI s.2.Calm), .t (tB s.2.Off)]), (7, .box [.t (tI x.1), .t (tI x.2)]), (8, .box [.t (tI r2.1.Over), .t (tI r2.1.Calm), .t (tB r2.1.Off)]), (35, .rows 4 1 ([r2.1.Off] : List Bool).length (([r2.1.Off] : List Bool).map Pv.encB)), (2288, .rows 4 1 l2.length (l2.map Pv.encB))]⟩) ?_ fun A_7 => ?_
                · refine TieA.all [0] (by kernel_rfl) rfl ?_
                  refine AllA.cons (σ₁ := ⟨[(5, .ptr 5 0), (8, .ptr 8 0), (13, .t (tS enc_arr2_Int l)), (14, .t (tI (l.length : Int))), (15, .t (tI i)), (31, .agg [.t (tI r2.1.Over), .t (tI r2.1.Calm), .t (tB r2.1.Off)]), (33, .ptr 8 2), (34, .t (tB r2.1.Off)), (35, .own 35), (36, .own 2288)], [(5, .box [.t (tI s.2.Over), .t (tI s.2.Calm), .t (tB s.2.Off)]), (7, .box [.t (tI x.1), .t (tI x.2)]), (8, .box [.t (tI r2.1.Over), .t (tI r2.1.Calm), .t (tB r2.1.Off)]), (35, .rows 4 1 ([r2.1.Off] : List Bool).length (([r2.1.Off] : List Bool).map Pv.encB)), (2288, .rows 4 1 l2.length (l2.map Pv.encB))]⟩) [true, true, true, true, true, true, false, false] rfl rfl ?_ A_4 ?_
                  · refine TieO.run 1 rfl ?_
                    exact TieO.nil (TieS.leaf ⟨rfl, .of rfl rfl⟩)
                  exact AllA.nil
                refine TieA.have_ (fuel₁ := 4) (l₁ := [false, true, true, true, true, false, false, false]) (σ₁ := ⟨[(4, .own 2288), (5, .ptr 5 0), (8, .ptr 8 0), (13, .t (tS enc_arr2_Int l)), (14, .t (tI (l.length : Int))), (15, .t (tI i)), (32, .own 2288), (33, .ptr 8 2), (34, .t (tB r2.1.Off)), (35, .own 35)], [(5, .box [.t (tI s.2.Over), .t (tI s.2.Calm), .t (tB s.2.Off)]), (7, .box [.t (tI x.1), .t (tI x.2)]), (8, .box [.t (tI r2.1.Over), .t (tI r2.1.Calm), .t (tB r2.1.Off)]), (35, .rows 4 1 ([r2.1.Off] : List Bool).length (([r2.1.Off] : List Bool).map Pv.encB)), (2288, .rows 4 1 s.1.length (s.1.map Pv.encB))]⟩) ?_ fun A_6 => ?_
                · refine TieA.all [0, 5] (by kernel_rfl) rfl ?_
                  refine AllA.cons (σ₁ := ⟨[(4, .own 2288), (5, .ptr 5 0), (8, .ptr 8 0), (13, .t (tS enc_arr2_Int l)), (14, .t (tI (l.length : Int))), (15, .t (tI i)), (31, .agg [.t (tI r2.1.Over), .t (tI r2.1.Calm), .t (tB r2.1.Off)]), (32, .own 2288), (33, .ptr 8 2), (34, .t (tB r2.1.Off)), (35, .own 35)], [(5, .box [.t (tI s.2.Over), .t (tI s.2.Calm), .t (tB s.2.Off)]), (7, .box [.t (tI x.1), .t (tI x.2)]), (8, .box [.t (tI r2.1.Over), .t (tI r2.1.Calm), .t (tB r2.1.Off)]), (35, .rows 4 1 ([r2.1.Off] : List Bool).length (([r2.1.Off] : List Bool).map Pv.encB)), (2288, .rows 4 1 s.1.length (s.1.map Pv.encB))]⟩) [true, true, true, true, true, false, false, false] rfl rfl ?_ A_3 ?_
                  · refine TieO.run 1 rfl ?_
                    exact TieO.nil (TieS.leaf ⟨rfl, .of rfl rfl⟩)
                  refine AllA.cons (σ₁ := ⟨[(5, .ptr 5 0), (8, .ptr 8 0), (13, .t (tS enc_arr2_Int l)), (14, .t (tI (l.length : Int))), (15, .t (tI i)), (33, .ptr 8 2), (34, .t (tB r2.1.Off)), (35, .own 35), (36, .own 2288)], [(5, .box [.t (tI s.2.Over), .t (tI s.2.Calm), .t (tB s.2.Off)]), (7, .box [.t (tI x.1), .t (tI x.2)]), (8, .box [.t (tI r2.1.Over), .t (tI r2.1.Calm), .t (tB r2.1.Off)]), (35, .rows 4 1 ([r2.1.Off] : List Bool).length (([r2.1.Off] : List Bool).map Pv.encB)), (2288, .rows 4 1 l2.length (l2.map Pv.encB))]⟩) [false, true, true, true, true, true, false, false] rfl rfl ?_ A_7 ?_
                  · refine TieO.withH hl2 (TieO.appendY (id := 2288) (l := s.1) (r := ([r2.1.Off] : List Bool)) (tm' := [(5, .ptr 5 0), (8, .ptr 8 0), (13, .t (tS enc_arr2_Int l)), (14, .t (tI (l.length : Int))), (15, .t (tI i)), (33, .ptr 8 2), (34, .t (tB r2.1.Off)), (35, .own 35)]) (hp' := [(5, .box [.t (tI s.2.Over), .t (tI s.2.Calm), .t (tB s.2.Off)]), (7, .box [.t (tI x.1), .t (tI x.2)]), (8, .box [.t (tI r2.1.Over), .t (tI r2.1.Calm), .t (tB r2.1.Off)]), (35, .rows 4 1 ([r2.1.Off] : List Bool).length (([r2.1.Off] : List Bool).map Pv.encB))]) rfl rfl rfl rfl rfl rfl rfl (fun _ => rfl) (fun _ => rfl) (.inl ⟨rfl, rfl⟩) (.inr ⟨_, rfl, rfl⟩) (.of rfl rfl) rfl rfl rfl (TieO.ifH ?_))
                    exact TieO.nil (TieS.leaf ⟨rfl, .of rfl rfl⟩)
                  exact AllA.nil
                refine TieA.have_ (fuel₁ := 5) (l₁ := [false, true, true, true, false, false, false, false]) (σ₁ := ⟨[(4, .own 2288), (5, .ptr 5 0), (8, .ptr 8 0), (13, .t (tS enc_arr2_Int l)), (14, .t (tI (l.length : Int))), (15, .t (tI i)), (32, .own 2288), (33, .ptr 8 2), (34, .t (tB r2.1.Off))], [(5, .box [.t (tI s.2.Over), .t (tI s.2.Calm), .t (tB s.2.Off)]), (7, .box [.t (tI x.1), .t (tI x.2)]), (8, .box [.t (tI r2.1.Over), .t (tI r2.1.Calm), .t (tB r2.1.Off)]), (2288, .rows 4 1 s.1.length (s.1.map Pv.encB))]⟩) ?_ fun A_5 => ?_
                · refine TieA.all [0, 4] (by kernel_rfl) rfl ?_
                  refine AllA.cons (σ₁ := ⟨[(4, .own 2288), (5, .ptr 5 0), (8, .ptr 8 0), (13, .t (tS enc_arr2_Int l)), (14, .t (tI (l.length : Int))), (15, .t (tI i)), (31, .agg [.t (tI r2.1.Over), .t (tI r2.1.Calm), .t (tB r2.1.Off)]), (32, .own 2288), (33, .ptr 8 2), (34, .t (tB r2.1.Off))], [(5, .box [.t (tI s.2.Over), .t (tI s.2.Calm), .t (tB s.2.Off)]), (7, .box [.t (tI x.1), .t (tI x.2)]), (8, .box [.t (tI r2.1.Over), .t (tI r2.1.Calm), .t (tB r2.1.Off)]), (2288, .rows 4 1 s.1.length (s.1.map Pv.encB))]⟩) [true, true, true, true, false, false, false, false] rfl rfl ?_ A_2 ?_
                  · refine TieO.run 1 rfl ?_
                    exact TieO.nil (TieS.leaf ⟨rfl, .of rfl rfl⟩)
                  refine AllA.cons (σ₁ := ⟨[(4, .own 2288), (5, .ptr 5 0), (8, .ptr 8 0), (13, .t (tS enc_arr2_Int l)), (14, .t (tI (l.length : Int))), (15, .t (tI i)), (32, .own 2288), (33, .ptr 8 2), (34, .t (tB r2.1.Off)), (35, .own 35)], [(5, .box [.t (tI s.2.Over), .t (tI s.2.Calm), .t (tB s.2.Off)]), (7, .box [.t (tI x.1), .t (tI x.2)]), (8, .box [.t (tI r2.1.Over), .t (tI r2.1.Calm), .t (tB r2.1.Off)]), (35, .rows 4 1 ([r2.1.Off] : List Bool).length (([r2.1.Off] : List Bool).map Pv.encB)), (2288, .rows 4 1 s.1.length (s.1.map Pv.encB))]⟩) [false, true, true, true, true, false, false, false] rfl rfl ?_ A_6 ?_
                  · refine TieO.run 1 rfl ?_
                    exact TieO.nil (TieS.leaf ⟨rfl, .of rfl rfl⟩)
                  exact AllA.nil
                refine TieA.move 1 [false, true, false, false, false, false, false, false] rfl rfl (by first | exact .inl rfl | exact .inr rfl) rfl rfl rfl (by kernel_rfl) (by kernel_rfl) (by kernel_rfl) rfl ?_
                refine TieA.fieldP 2 [false, true, true, false, false, false, false, false] rfl rfl rfl rfl rfl rfl (by kernel_rfl) (by kernel_rfl) (by kernel_rfl) rfl rfl rfl ?_
                refine TieA.all [0, 3] (by kernel_rfl) rfl ?_
                refine AllA.cons (σ₁ := ⟨[(4, .own 2288), (5, .ptr 5 0), (8, .ptr 8 0), (13, .t (tS enc_arr2_Int l)), (14, .t (tI (l.length : Int))), (15, .t (tI i)), (31, .agg [.t (tI r2.1.Over), .t (tI r2.1.Calm), .t (tB r2.1.Off)]), (32, .own 2288), (33, .ptr 8 2)], [(5, .box [.t (tI s.2.Over), .t (tI s.2.Calm), .t (tB s.2.Off)]), (7, .box [.t (tI x.1), .t (tI x.2)]), (8, .box [.t (tI r2.1.Over), .t (tI r2.1.Calm), .t (tB r2.1.Off)]), (2288, .rows 4 1 s.1.length (s.1.map Pv.encB))]⟩) [true, true, true, false, false, false, false, false] rfl rfl ?_ A_1 ?_
                · refine TieO.run 1 rfl ?_
                  exact TieO.nil (TieS.leaf ⟨rfl, .of rfl rfl⟩)
                refine AllA.cons (σ₁ := ⟨[(4, .own 2288), (5, .ptr 5 0), (8, .ptr 8 0), (13, .t (tS enc_arr2_Int l)), (14, .t (tI (l.length : Int))), (15, .t (tI i)), (32, .own 2288), (33, .ptr 8 2), (34, .t (tB r2.1.Off))], [(5, .box [.t (tI s.2.Over), .t (tI s.2.Calm), .t (tB s.2.Off)]), (7, .box [.t (tI x.1), .t (tI x.2)]), (8, .box [.t (tI r2.1.Over), .t (tI r2.1.Calm), .t (tB r2.1.Off)]), (2288, .rows 4 1 s.1.length (s.1.map Pv.encB))]⟩) [false, true, true, true, false, false, false, false] rfl rfl ?_ A_5 ?_
                · refine TieO.run 1 rfl ?_
                  exact TieO.nil (TieS.leaf ⟨rfl, .of rfl rfl⟩)
                exact AllA.nil
              refine TieO.run 2 rfl ?_
              refine TieO.nil ?_
              exact TieS.leaf ⟨rfl, .of rfl rfl⟩
            rintro s2 e σ' _ ⟨rfl, hs⟩
            refine TieX.sub hs ?_
            refine TieS.endb ?_
            exact TieS.leaf ⟨rfl, .of rfl rfl⟩
        rintro (t | t | t) e σ' _ hq
        · obtain ⟨rfl, hs⟩ := hq
          refine TieX.sub hs ?_
          refine TieS.region ?_
          refine TieO.run 2 rfl ?_
          refine TieO.nil ?_
          exact TieS.leaf ⟨rfl, .of rfl rfl⟩
        · obtain ⟨rfl, hs⟩ := hq
          exact TieX.exitOut rfl ⟨(fun h => by cases h), rfl, hs⟩
        · obtain ⟨rfl, hs⟩ := hq
          exact TieX.ret ⟨(fun h => by cases h), rfl, hs⟩
      · exact TieS.exitOut rfl ⟨(fun h => by cases h), rfl, .of rfl rfl⟩
    rintro (s3 | r3) e σ' _ hq
    · obtain ⟨rfl, hs⟩ := hq
      refine TieX.exit rfl (TieX.sub hs ?_)
      refine TieS.seq ?_
      refine TieS.region ?_
      refine TieO.run 3 rfl ?_
      refine TieO.nil ?_
      exact TieS.ret ⟨.inl rfl, rfl⟩
    · obtain ⟨rfl, hs⟩ := hq
      exact TieX.ret ⟨.inl rfl, hs⟩
-- slices.IndexFunc[[][2]int,[2]int]
set_option maxRecDepth 100000 in
theorem tie_slices_IndexFunc_s_2_int (s : List (Int × Int)) (n2 : Nat) (cs : List (List Tree)) (f2 : (Int × Int) → Option Bool) (h2 : ∀ x0, TieF Try.prog n2 ([A_arr2_Int x0] ++ cs.map T.el) (f2 x0) (fun r => .t (tB r))) : TieF Try.prog 49 [.t (tS enc_arr2_Int s), .fz n2 cs] (slices_IndexFunc_s_2_int s f2) (fun r => .t (tI r)) := by
  refine TieF.intro htab 19 [.tmp 4] Try.call49 Try.func49 rfl rfl rfl (Nat.le_of_ble_eq_true rfl) fun w0 L => ?_
  refine TieS.seq ?_
  refine TieS.region ?_
  refine TieO.run 1 rfl ?_
  refine TieO.nil ?_
  refine TieS.seq ?_
  refine TieS.seq ?_
  refine TieS.region ?_
  refine TieO.run 3 rfl ?_
  refine TieO.nil ?_
  refine TieS.block ?_
  refine TieS.loop (fun p => ⟨[(0, .t (tS enc_arr2_Int s)), (1, .fz n2 cs), (7, .t (tI (s.length : Int))), (8, .t (tI p.1))], []⟩) (fun b e σ' => match b with | .inl t => e = .exit 0 ∧ Sub ⟨[], []⟩ σ' | .inr t => e = .ret ∧ retT tab σ' [.tmp 4] = some (((fun r => .t (tI r)) : Int → T) t)) (.of rfl rfl) ?_ ?_
  · rintro ⟨i, s2⟩
    refine TieS.seq ?_
    refine TieS.region ?_
    refine TieO.run 1 rfl ?_
    refine TieO.nil ?_
    refine TieS.seq ?_
    refine TieS.cond rfl ?_ ?_
    · refine TieS.skip ?_
      refine TieS.seq ?_
      refine TieX.sub (σ' := ⟨[(0, .t (tS enc_arr2_Int s)), (1, .fz n2 cs), (7, .t (tI (s.length : Int))), (8, .t (tI i))], []⟩) (.of rfl rfl) ?_
      refine TieS.bind (Q₁ := fun f e σ' => match f with | .next t => e = .normal ∧ Sub ⟨[(0, .t (tS enc_arr2_Int s)), (1, .fz n2 cs), (7, .t (tI (s.length : Int))), (8, .t (tI i))], []⟩ σ' | .brk t => e = .exit 0 ∧ Sub ⟨[], []⟩ σ' | .ret t => e = .ret ∧ retT tab σ' [.tmp 4] = some (((fun r => .t (tI r)) : Int → T) t)) ?_ ?_
      · refine TieS.block ?_
        refine TieS.seq ?_
        refine TieS.region ?_
        refine TieO.run 2 rfl ?_
        refine TieO.nil ?_
        refine TieS.seq ?_
        refine TieS.region ?_
        refine TieO.run 3 rfl ?_
        refine TieO.index rfl rfl rfl rfl rfl rfl rfl rfl (fun _ => rfl) fun x hx => ?_
        refine TieO.run 1 rfl ?_
        refine TieO.call _ rfl rfl rfl (h2 x) (fun _ => rfl) fun v => ?_
        refine TieO.nil ?_
        refine TieS.cond rfl ?_ ?_
        · refine TieS.seq ?_
          refine TieS.region ?_
          refine TieO.run 2 rfl ?_
          refine TieO.nil ?_
          exact TieS.ret ⟨rfl, rfl⟩
        · refine TieS.skip ?_
          refine TieS.endb ?_
          exact TieS.leaf ⟨rfl, .of rfl rfl⟩
      rintro (t | t | t) e σ' _ hq
      · obtain ⟨rfl, hs⟩ := hq
        refine TieX.sub hs ?_
        refine TieS.region ?_
        refine TieO.run 2 rfl ?_
        refine TieO.nil ?_
        exact TieS.leaf ⟨rfl, .of rfl rfl⟩
      · obtain ⟨rfl, hs⟩ := hq
        exact TieX.exitOut rfl ⟨(fun h => by cases h), rfl, hs⟩
      · obtain ⟨rfl, hs⟩ := hq
        exact TieX.ret ⟨(fun h => by cases h), rfl, hs⟩
    · exact TieS.exitOut rfl ⟨(fun h => by cases h), rfl, .of rfl rfl⟩
  rintro (s3 | r2) e σ' _ hq
  · obtain ⟨rfl, hs⟩ := hq
    refine TieX.exit rfl (TieX.sub hs ?_)
    refine TieS.seq ?_
    refine TieS.region ?_
    refine TieO.run 1 rfl ?_
    refine TieO.nil ?_
    exact TieS.ret ⟨.inl rfl, rfl⟩
  · obtain ⟨rfl, hs⟩ := hq
    exact TieX.ret ⟨.inl rfl, hs⟩
-- slices.ContainsFunc[[][2]int,[2]int]
set_option maxRecDepth 100000 in
theorem tie_slices_ContainsFunc_s_2_int (s : List (Int × Int)) (n2 : Nat) (cs : List (List Tree)) (f2 : (Int × Int) → Option Bool) (h2 : ∀ x0, TieF Try.prog n2 ([A_arr2_Int x0] ++ cs.map T.el) (f2 x0) (fun r => .t (tB r))) : TieF Try.prog 29 [.t (tS enc_arr2_Int s), .fz n2 cs] (slices_ContainsFunc_s_2_int s f2) (fun r => .t (tB r)) := by
  refine TieF.intro htab 9 [.tmp 4] Try.call29 Try.func29 rfl rfl rfl (Nat.le_of_ble_eq_true rfl) fun w0 L => ?_
  refine TieS.seq ?_
  refine TieS.region ?_
  refine TieO.run 1 rfl ?_
  refine TieO.nil ?_
  refine TieS.seq ?_
  refine TieS.region ?_
  refine TieO.run 2 rfl ?_
  refine TieO.call _ rfl rfl rfl (tie_slices_IndexFunc_s_2_int s n2 cs f2 h2) (fun _ => rfl) fun v => ?_
  refine TieO.run 2 rfl ?_
  refine TieO.nil ?_
  exact TieS.ret ⟨.inl rfl, rfl⟩
-- magneto/magnetolaw39.MonitorReacts$1
set_option maxRecDepth 100000 in
theorem tie_magnetolaw39_MonitorReacts_1 (p2 : (Int × Int)) : TieF Try.prog 30 [A_arr2_Int p2] (magnetolaw39_MonitorReacts_1 p2) (fun r => .t (tB r)) := by
  refine TieF.intro htab 13 [.tmp 2] Try.call30 Try.func30 rfl rfl rfl (Nat.le_of_ble_eq_true rfl) fun w0 L => ?_
  refine TieS.seq ?_
  refine TieS.region ?_
  refine TieO.run 2 rfl ?_
  refine TieO.nil ?_
  refine TieS.seq ?_
  refine TieS.region ?_
  refine TieO.run 2 rfl ?_
  refine TieO.call _ rfl rfl rfl (tie_magnetoref39_Torque p2.1) (fun _ => rfl) fun v => ?_
  refine TieO.run 2 rfl ?_
  refine TieO.bind 5 (fun b2 => ⟨[(12, .t (tB b2))], []⟩) (TieO.split 7 rfl ?_ ?_) fun b2 _ => ?_
  · refine TieO.run 5 rfl ?_
    refine TieO.nil ?_
    exact TieS.leaf ⟨rfl, .of rfl rfl⟩
  · refine TieO.run 2 rfl ?_
    refine TieO.call _ rfl rfl rfl (tie_magnetoref39_Torque p2.2) (fun _ => rfl) fun v2 => ?_
    refine TieO.run 2 rfl ?_
    refine TieO.nil ?_
    exact TieS.leaf ⟨rfl, .of rfl rfl⟩
  refine TieO.run 1 rfl ?_
  refine TieO.nil ?_
  exact TieS.ret ⟨.inl rfl, rfl⟩
-- magneto/magnetolaw39.MonitorReacts
set_option maxRecDepth 100000 in
theorem tie_magnetolaw39_MonitorReacts (l : List (Int × Int)) : TieF Try.prog 8 [.t (tS enc_arr2_Int l)] (magnetolaw39_MonitorReacts l) (fun r => .t (tB r)) := by
  refine TieF.intro htab 87 [.tmp 2] Try.call8 Try.func8 rfl rfl rfl (Nat.le_of_ble_eq_true rfl) fun w0 L => ?_
  refine TieS.seq ?_
  refine TieS.region ?_
  refine TieO.run 1 rfl ?_
  refine TieO.nil ?_
  refine TieS.seq ?_
  refine TieS.seq ?_
  refine TieS.region ?_
  refine TieO.call _ rfl rfl rfl (tie_magnetolaw39_awake) (fun _ => rfl) fun v => ?_
  refine TieO.run 1 rfl ?_
  refine TieO.nil ?_
  refine TieS.cond rfl ?_ ?_
  · refine TieS.seq ?_
    refine TieS.region ?_
    refine TieO.run 1 rfl ?_
    refine TieO.nil ?_
    exact TieS.ret ⟨.inl rfl, rfl⟩
  · refine TieS.skip ?_
    refine TieS.seq ?_
    refine TieS.seq ?_
    refine TieS.region ?_
    refine TieO.run 3 rfl ?_
    refine TieO.nil ?_
    refine TieS.cond rfl ?_ ?_
    · refine TieS.seq ?_
      refine TieS.region ?_
      refine TieO.run 1 rfl ?_
      refine TieO.nil ?_
      exact TieS.ret ⟨.inl rfl, rfl⟩
    · refine TieS.skip ?_
      refine TieS.seq ?_
      refine TieS.region ?_
      refine TieO.run 1 rfl ?_
      refine TieO.call _ rfl rfl rfl (tie_monitor_Run l) (fun _ => rfl) fun r2 => ?_
      refine TieO.run 5 rfl ?_
      refine TieO.nil ?_
      refine TieS.seq ?_
      refine TieS.seq ?_
      refine TieS.region ?_
      refine TieO.run 1 rfl ?_
      refine TieO.call _ rfl rfl rfl (tie_slices_ContainsFunc_s_2_int l 30 [] magnetolaw39_MonitorReacts_1 tie_magnetolaw39_MonitorReacts_1) (fun _ => rfl) fun v2 => ?_
      refine TieO.nil ?_
      refine TieS.cond rfl ?_ ?_
      · refine TieS.seq ?_
        refine TieS.region ?_
        refine TieO.run 3 rfl ?_
        refine TieO.selAnd (v := ((r2.1.length : Int) == 0)) 4 26 (fun b => ⟨[(30, .t (tB b))], []⟩) rfl ?_ ?_ ?_
        · refine TieO.run 4 rfl ?_
          refine TieO.nil ?_
          exact TieS.leaf ⟨rfl, .of rfl rfl⟩
        · refine TieO.run 4 rfl ?_
          refine TieO.nil ?_
          exact TieS.leaf ⟨rfl, .of rfl rfl⟩
        refine TieO.run 1 rfl ?_
        refine TieO.nil ?_
        exact TieS.ret ⟨.inl rfl, rfl⟩
      · refine TieS.skip ?_
        refine TieS.seq ?_
        refine TieS.seq ?_
        refine TieS.region ?_
        refine TieO.run 3 rfl ?_
        refine TieO.selOr (v := ((r2.1.length : Int) != (l.length : Int))) 6 33 (fun b => ⟨[(0, .t (tS enc_arr2_Int l)), (3, .t (tS Pv.encB r2.1)), (39, .t (tB b))], []⟩) rfl ?_ ?_ ?_
        · refine TieO.run 6 rfl ?_
          refine TieO.nil ?_
          exact TieS.leaf ⟨rfl, .of rfl rfl⟩
        · refine TieO.run 6 rfl ?_
          refine TieO.nil ?_
          exact TieS.leaf ⟨rfl, .of rfl rfl⟩
        refine TieO.nil ?_
        refine TieS.cond rfl ?_ ?_
        · refine TieS.seq ?_
          refine TieS.region ?_
          refine TieO.run 1 rfl ?_
          refine TieO.nil ?_
          exact TieS.ret ⟨.inl rfl, rfl⟩
        · refine TieS.skip ?_
          refine TieS.seq ?_
          refine TieS.region ?_
          refine TieO.run 2 rfl ?_
          refine TieO.nil ?_
          refine TieS.seq ?_
          refine TieS.region ?_
          refine TieO.run 1 rfl ?_
          refine TieO.nil ?_
          refine TieS.seq ?_
          refine TieS.seq ?_
          refine TieS.region ?_
          refine TieO.run 3 rfl ?_
          refine TieO.nil ?_
          refine TieS.block ?_
          refine TieS.loop (fun p => ⟨[(3, .t (tS Pv.encB r2.1)), (5, .t (tI p.2.1)), (6, .t (tB p.2.2.1)), (7, .ptr 7 0), (40, .t (tS enc_arr2_Int l)), (41, .t (tI (l.length : Int))), (42, .t (tI p.1))], [(7, .box [.t (tI p.2.2.2.Over), .t (tI p.2.2.2.Calm), .t (tB p.2.2.2.Off)])]⟩) (fun b e σ' => match b with | .inl t => e = .exit 0 ∧ Sub ⟨[], []⟩ σ' | .inr t => e = .ret ∧ retT tab σ' [.tmp 2] = some (((fun r => .t (tB r)) : Bool → T) t)) (.of rfl rfl) ?_ ?_
          · rintro ⟨i, s⟩
            refine TieS.seq ?_
            refine TieS.region ?_
            refine TieO.run 1 rfl ?_
            refine TieO.nil ?_
            refine TieS.seq ?_
            refine TieS.cond rfl ?_ ?_
            · refine TieS.skip ?_
              refine TieS.seq ?_
              refine TieX.sub (σ' := ⟨[(3, .t (tS Pv.encB r2.1)), (5, .t (tI s.1)), (6, .t (tB s.2.1)), (7, .ptr 7 0), (40, .t (tS enc_arr2_Int l)), (41, .t (tI (l.length : Int))), (42, .t (tI i))], [(7, .box [.t (tI s.2.2.Over), .t (tI s.2.2.Calm), .t (tB s.2.2.Off)])]⟩) (.of rfl rfl) ?_
              refine TieS.bind (Q₁ := fun f e σ' => match f with | .next t => e = .normal ∧ Sub ⟨[(3, .t (tS Pv.encB r2.1)), (5, .t (tI t.1)), (6, .t (tB t.2.1)), (7, .ptr 7 0), (40, .t (tS enc_arr2_Int l)), (41, .t (tI (l.length : Int))), (42, .t (tI i))], [(7, .box [.t (tI t.2.2.Over), .t (tI t.2.2.Calm), .t (tB t.2.2.Off)])]⟩ σ' | .brk t => e = .exit 0 ∧ Sub ⟨[], []⟩ σ' | .ret t => e = .ret ∧ retT tab σ' [.tmp 2] = some (((fun r => .t (tB r)) : Bool → T) t)) ?_ ?_
              · refine TieS.block ?_
                refine TieS.seq ?_
                refine TieS.region ?_
                refine TieO.run 1 rfl ?_
                refine TieO.index rfl rfl rfl rfl rfl rfl rfl rfl (fun _ => rfl) fun x hx => ?_
                refine TieO.run 4 rfl ?_
                refine TieO.nil ?_
                refine TieS.seq ?_
                refine TieS.region ?_
                refine TieO.run 3 rfl ?_
                refine TieO.nil ?_
                refine TieS.seq ?_
                refine TieS.seq ?_
                refine TieS.region ?_
                refine TieO.run 5 rfl ?_
                refine TieO.nil ?_
                refine TieS.bind (Q₁ := fun t e σ' => e = .normal ∧ Sub ⟨[(3, .t (tS Pv.encB r2.1)), (5, .t (tI t)), (6, .t (tB s.2.1)), (7, .ptr 7 0), (8, .t (tI i)), (9, .ptr 9 0), (40, .t (tS enc_arr2_Int l)), (41, .t (tI (l.length : Int))), (42, .t (tI i))], [(7, .box [.t (tI s.2.2.Over), .t (tI s.2.2.Calm), .t (tB s.2.2.Off)]), (9, .box [.t (tI x.1), .t (tI x.2)])]⟩ σ') ?_ ?_
                · refine TieS.cond rfl ?_ ?_
                  · refine TieS.region ?_
                    refine TieO.run 1 rfl ?_
                    refine TieO.nil ?_
                    exact TieS.leaf ⟨rfl, .of rfl rfl⟩
                  · refine TieS.skip ?_
                    exact TieS.leaf ⟨rfl, .of rfl rfl⟩
                rintro row e σ' _ ⟨rfl, hs⟩
                refine TieX.sub hs ?_
                refine TieS.seq ?_
                refine TieS.region ?_
                refine TieO.run 2 rfl ?_
                refine TieO.bind 4 (fun b2 => ⟨[(3, .t (tS Pv.encB r2.1)), (5, .t (tI row)), (7, .ptr 7 0), (8, .t (tI i)), (9, .ptr 9 0), (40, .t (tS enc_arr2_Int l)), (41, .t (tI (l.length : Int))), (42, .t (tI i)), (59, .t (tB b2))], [(7, .box [.t (tI s.2.2.Over), .t (tI s.2.2.Calm), .t (tB s.2.2.Off)]), (9, .box [.t (tI x.1), .t (tI x.2)])]⟩) (TieO.split 55 rfl ?_ ?_) fun b2 _ => ?_
                · refine TieO.run 4 rfl ?_
                  refine TieO.nil ?_
                  exact TieS.leaf ⟨rfl, .of rfl rfl⟩
                · refine TieO.run 1 rfl ?_
                  refine TieO.call _ rfl rfl rfl (tie_monitor_Steps) (fun _ => rfl) fun v3 => ?_
                  refine TieO.run 2 rfl ?_
                  refine TieO.nil ?_
                  exact TieS.leaf ⟨rfl, .of rfl rfl⟩
                refine TieO.run 1 rfl ?_
                refine TieO.nil ?_
                refine TieS.seq ?_
                refine TieS.region ?_
                refine TieO.run 5 rfl ?_
                refine TieO.call _ rfl rfl rfl (tie_monitor_Step s.2.2 x.1 x.2) (fun _ => rfl) fun r3 => ?_
                refine TieO.run 6 rfl ?_
                refine TieO.nil ?_
                refine TieS.seq ?_
                refine TieS.seq ?_
                refine TieS.region ?_
                refine TieO.run 3 rfl ?_
                refine TieO.selOr (v := (!(r3.1.Off == b2))) 5 71 (fun b => ⟨[(3, .t (tS Pv.encB r2.1)), (5, .t (tI row)), (6, .t (tB b2)), (7, .ptr 7 0), (8, .t (tI i)), (10, .ptr 10 0), (40, .t (tS enc_arr2_Int l)), (41, .t (tI (l.length : Int))), (42, .t (tI i)), (76, .t (tB b))], [(7, .box [.t (tI s.2.2.Over), .t (tI s.2.2.Calm), .t (tB s.2.2.Off)]), (10, .box [.t (tI r3.1.Over), .t (tI r3.1.Calm), .t (tB r3.1.Off)])]⟩) rfl ?_ ?_ ?_
                · refine TieO.run 5 rfl ?_
                  refine TieO.nil ?_
                  exact TieS.leaf ⟨rfl, .of rfl rfl⟩
                · refine TieO.run 5 rfl ?_
                  refine TieO.nil ?_
                  exact TieS.leaf ⟨rfl, .of rfl rfl⟩
                refine TieO.run 1 rfl ?_
                refine TieO.bind 7 (fun b3 => ⟨[(3, .t (tS Pv.encB r2.1)), (5, .t (tI row)), (6, .t (tB b2)), (7, .ptr 7 0), (10, .ptr 10 0), (40, .t (tS enc_arr2_Int l)), (41, .t (tI (l.length : Int))), (42, .t (tI i)), (84, .t (tB b3))], [(7, .box [.t (tI s.2.2.Over), .t (tI s.2.2.Calm), .t (tB s.2.2.Off)]), (10, .box [.t (tI r3.1.Over), .t (tI r3.1.Calm), .t (tB r3.1.Off)])]⟩) (TieO.split 77 rfl ?_ ?_) fun b3 _ => ?_
                · refine TieO.run 7 rfl ?_
                  refine TieO.nil ?_
                  exact TieS.leaf ⟨rfl, .of rfl rfl⟩
                · refine TieO.run 2 rfl ?_
                  refine TieO.index rfl rfl rfl rfl rfl rfl rfl rfl (fun _ => rfl) fun x2 hx2 => ?_
                  refine TieO.run 4 rfl ?_
                  refine TieO.nil ?_
                  exact TieS.leaf ⟨rfl, .of rfl rfl⟩
                refine TieO.nil ?_
                refine TieS.cond rfl ?_ ?_
                · refine TieS.seq ?_
                  refine TieS.region ?_
                  refine TieO.run 1 rfl ?_
                  refine TieO.nil ?_
                  exact TieS.ret ⟨rfl, rfl⟩
                · refine TieS.skip ?_
                  refine TieS.region ?_
                  refine TieO.run 2 rfl ?_
                  refine TieO.nil ?_
                  refine TieS.endb ?_
                  exact TieS.leaf ⟨rfl, .of rfl rfl⟩
              rintro (t | t | t) e σ' _ hq
              · obtain ⟨rfl, hs⟩ := hq
                refine TieX.sub hs ?_
                refine TieS.region ?_
                refine TieO.run 2 rfl ?_
                refine TieO.nil ?_
                exact TieS.leaf ⟨rfl, .of rfl rfl⟩
              · obtain ⟨rfl, hs⟩ := hq
                exact TieX.exitOut rfl ⟨(fun h => by cases h), rfl, hs⟩
              · obtain ⟨rfl, hs⟩ := hq
                exact TieX.ret ⟨(fun h => by cases h), rfl, hs⟩
            · exact TieS.exitOut rfl ⟨(fun h => by cases h), rfl, .of rfl rfl⟩
          rintro (s2 | r4) e σ' _ hq
          · obtain ⟨rfl, hs⟩ := hq
            refine TieX.exit rfl (TieX.sub hs ?_)
            refine TieS.seq ?_
            refine TieS.region ?_
            refine TieO.run 1 rfl ?_
            refine TieO.nil ?_
            exact TieS.ret ⟨.inl rfl, rfl⟩
          · obtain ⟨rfl, hs⟩ := hq
            exact TieX.ret ⟨.inl rfl, hs⟩
-- magneto/torque.within
set_option maxRecDepth 100000 in
theorem tie_torque_within (x : Int) (low : Int) (high : Int) : TieF Try.prog 51 [.t (tI x), .t (tI low), .t (tI high)] (torque_within x low high) (fun r => .t (tB r)) := by
  refine TieF.intro htab 15 [.tmp 6] Try.call51 Try.func51 rfl rfl rfl (Nat.le_of_ble_eq_true rfl) fun w0 L => ?_
  refine TieS.seq ?_
  refine TieS.region ?_
  refine TieO.run 1 rfl ?_
  refine TieO.nil ?_
  refine TieS.seq ?_
  refine TieS.region ?_
  refine TieO.run 4 rfl ?_
  refine TieO.selAnd (v := decide (x ≤ high)) 4 10 (fun b => ⟨[(14, .t (tB b))], []⟩) rfl ?_ ?_ ?_
  · refine TieO.run 4 rfl ?_
    refine TieO.nil ?_
    exact TieS.leaf ⟨rfl, .of rfl rfl⟩
  · refine TieO.run 4 rfl ?_
    refine TieO.nil ?_
    exact TieS.leaf ⟨rfl, .of rfl rfl⟩
  refine TieO.run 1 rfl ?_
  refine TieO.nil ?_
  exact TieS.ret ⟨.inl rfl, rfl⟩
-- magneto/arith.Clamp
set_option maxRecDepth 100000 in
theorem tie_arith_Clamp (x : Int) (low : Int) (high : Int) : TieF Try.prog 53 [.t (tI x), .t (tI low), .t (tI high)] (arith_Clamp x low high) (fun r => .t (tI r)) := by
  refine TieF.intro htab 12 [.tmp 6] Try.call53 Try.func53 rfl rfl rfl (Nat.le_of_ble_eq_true rfl) fun w0 L => ?_
  refine TieS.seq ?_
  refine TieS.region ?_
  refine TieO.run 1 rfl ?_
  refine TieO.nil ?_
  refine TieS.seq ?_
  refine TieS.region ?_
  refine TieO.run 6 rfl ?_
  refine TieO.nil ?_
  exact TieS.ret ⟨.inl rfl, rfl⟩
-- sort.Search
set_option maxRecDepth 100000 in
theorem tie_sort_Search (n2 : Int) (n3 : Nat) (cs : List (List Tree)) (f2 : Int → Option Bool) (h2 : ∀ x0, TieF Try.prog n3 ([.t (tI x0)] ++ cs.map T.el) (f2 x0) (fun r => .t (tB r))) : TieF Try.prog 101 [.t (tI n2), .fz n3 cs] (sort_Search n2 f2) (fun r => .t (tI r)) := by
  refine TieF.intro htab 26 [.tmp 4] Try.call101 Try.func101 rfl rfl rfl (Nat.le_of_ble_eq_true rfl) fun w0 L => ?_
  refine TieS.seq ?_
  refine TieS.region ?_
  refine TieO.run 1 rfl ?_
  refine TieO.nil ?_
  refine TieS.seq ?_
  refine TieS.region ?_
  refine TieO.run 3 rfl ?_
  refine TieO.nil ?_
  refine TieS.seq ?_
  refine TieS.block ?_
  refine TieS.loop (fun t => ⟨[(1, .fz n3 cs), (5, .t (tI t.1)), (6, .t (tI t.2))], []⟩) (fun b e σ' => match b with | .inl t => e = .exit 0 ∧ Sub ⟨[(5, .t (tI t.1))], []⟩ σ' | .inr t => False) (.of rfl rfl) ?_ ?_
  · intro s
    refine TieS.seq ?_
    refine TieS.seq ?_
    refine TieS.region ?_
    refine TieO.run 3 rfl ?_
    refine TieO.nil ?_
    refine TieS.cond rfl ?_ ?_
    · refine TieS.skip ?_
      refine TieS.block ?_
      refine TieS.seq ?_
      refine TieS.region ?_
      refine TieO.run 7 rfl ?_
      refine TieO.nil ?_
      refine TieS.seq ?_
      refine TieS.region ?_
      refine TieO.run 2 rfl ?_
      refine TieO.call _ rfl rfl rfl (h2 (w64 (bitShr .u64 (IntKind.u64.wrap (w64 (s.1 + s.2))) 1))) (fun _ => rfl) fun v => ?_
      refine TieO.run 1 rfl ?_
      refine TieO.nil ?_
      refine TieS.cond rfl ?_ ?_
      · refine TieS.region ?_
        refine TieO.run 3 rfl ?_
        refine TieO.nil ?_
        refine TieS.endb ?_
        exact TieS.leaf ⟨rfl, .of rfl rfl⟩
      · refine TieS.region ?_
        refine TieO.run 2 rfl ?_
        refine TieO.nil ?_
        refine TieS.endb ?_
        exact TieS.leaf ⟨rfl, .of rfl rfl⟩
    · exact TieS.exitOut rfl ⟨(fun h => by cases h), rfl, .of rfl rfl⟩
  rintro (s2 | r) e σ' _ hq
  · obtain ⟨rfl, hs⟩ := hq
    refine TieX.exit rfl (TieX.sub hs ?_)
    refine TieS.seq ?_
    refine TieS.region ?_
    refine TieO.run 2 rfl ?_
    refine TieO.nil ?_
    exact TieS.ret ⟨.inl rfl, rfl⟩
  · exact hq.elim
-- magneto/surface.segment$1
set_option maxRecDepth 100000 in
theorem tie_surface_segment_1 (i : Int) (c : List Int) (c2 : Int) : TieF Try.prog 102 [.t (tI i), .el ((Pv.encS Pv.encI) c), .el (Pv.encI c2)] (surface_segment_1 i c c2) (fun r => .t (tB r)) := by
  refine TieF.intro htab 11 [.tmp 4] Try.call102 Try.func102 rfl rfl rfl (Nat.le_of_ble_eq_true rfl) fun w0 L => ?_
  refine TieS.seq ?_
  refine TieS.region ?_
  refine TieO.run 1 rfl ?_
  refine TieO.nil ?_
  refine TieS.seq ?_
  refine TieX.pre fun x hx => ?_
  refine TieS.draw 7 [.t (tS Pv.encI c), .t (tI i), .el (Pv.encI x), .t (tI x), .t (tI c2), .t (tB (decide (x > c2))), .t (tB (decide (x > c2)))] [(0, .t (tI i)), (1, .el ((Pv.encS Pv.encI) c)), (2, .el (Pv.encI c2))] [] mixed (.of rfl rfl) rfl rfl rfl rfl (.cons (.quiet rfl rfl rfl) (.cons (.quiet rfl rfl rfl) (.cons (.index hx rfl rfl rfl rfl rfl rfl (fun _ => rfl)) (.cons (.quiet rfl rfl rfl) (.cons (.quiet rfl rfl rfl) (.cons (.quiet rfl rfl rfl) (.cons (.quiet rfl rfl rfl) (.nil)))))))) ?_
  refine TieO.nil ?_
  exact TieS.ret ⟨.inl rfl, rfl⟩
-- magneto/surface.segment
set_option maxRecDepth 100000 in
theorem tie_surface_segment (l : List Int) (x : Int) : TieF Try.prog 85 [.t (tS Pv.encI l), .t (tI x)] (surface_segment l x) (fun r => .tup [.t (tI r.1), .t (tI r.2)]) := by
  refine TieF.intro htab 29 [.tmp 4, .tmp 5] Try.call85 Try.func85 rfl rfl rfl (Nat.le_of_ble_eq_true rfl) fun w0 L => ?_
  refine TieS.seq ?_
  refine TieS.region ?_
  refine TieO.run 4 rfl ?_
  refine TieO.nil ?_
  refine TieS.seq ?_
  refine TieX.pre fun x2 hx2 => ?_
  refine TieX.pre fun x3 hx3 => ?_
  refine TieX.pre fun v hv => ?_
  refine TieS.draw 11 [.t (tI x), .t (tS Pv.encI l), .el (Pv.encI x2), .t (tI x2), .t (tS Pv.encI l), .t (tS Pv.encI l), .t (tI (l.length : Int)), .t (tI (w64 ((l.length : Int) - 1))), .el (Pv.encI x3), .t (tI x3), .t (tI v)] [(2, .ptr 2 0), (3, .ptr 3 0)] [(2, .box [.t (tS Pv.encI l)]), (3, .box [.t (tI x)])] mixed (.of rfl rfl) rfl rfl rfl rfl (.cons (.quiet rfl rfl rfl) (.cons (.quiet rfl rfl rfl) (.cons (.index hx2 rfl rfl rfl rfl rfl rfl (fun _ => rfl)) (.cons (.quiet rfl rfl rfl) (.cons (.quiet rfl rfl rfl) (.cons (.quiet rfl rfl rfl) (.cons (.quiet rfl rfl rfl) (.cons (.quiet rfl rfl rfl) (.cons (.index hx3 rfl rfl rfl rfl rfl rfl (fun _ => rfl)) (.cons (.quiet rfl rfl rfl) (.cons (.callV (tie_arith_Clamp x x2 x3) hv rfl rfl rfl rfl) (.nil)))))))))))) ?_
  refine TieO.run 1 rfl ?_
  refine TieO.nil ?_
  refine TieS.seq ?_
  refine TieS.region ?_
  refine TieO.run 2 rfl ?_
  refine TieO.frzBox 2 rfl rfl ?_
  refine TieO.frzBox 3 rfl rfl ?_
  refine TieO.run 1 rfl ?_
  refine TieO.sub (σ' := ⟨[(2, .el ((Pv.encS Pv.encI) l)), (3, .el (Pv.encI v)), (7, .t (tI x)), (8, .t (tS Pv.encI l)), (9, .el (Pv.encI x2)), (10, .t (tI x2)), (11, .t (tS Pv.encI l)), (12, .t (tS Pv.encI l)), (13, .t (tI (l.length : Int))), (14, .t (tI (w64 ((l.length : Int) - 1)))), (15, .el (Pv.encI x3)), (16, .t (tI x3)), (17, .t (tI v)), (18, .t (tS Pv.encI l)), (19, .t (tI (l.length : Int))), (20, .fz 102 [(Pv.encS Pv.encI) l, Pv.encI v])], []⟩) (.of rfl rfl) ?_
  refine TieO.call _ rfl rfl rfl (tie_sort_Search (l.length : Int) 102 [(Pv.encS Pv.encI) l, Pv.encI v] (fun x0 => surface_segment_1 x0 l v) (fun x0 => tie_surface_segment_1 x0 l v)) (fun _ => rfl) fun v2 => ?_
  refine TieO.run 2 rfl ?_
  refine TieO.nil ?_
  refine TieS.seq ?_
  refine TieS.draw 8 [.t (tI (w64 (v2 - 1))), .t (tS Pv.encI l), .t (tI (l.length : Int)), .t (tI (w64 ((l.length : Int) - 2))), .t (tI (minI (w64 (v2 - 1)) (w64 ((l.length : Int) - 2)))), .t (tI v), .t (tI (minI (w64 (v2 - 1)) (w64 ((l.length : Int) - 2)))), .t (tI v)] [(2, .el ((Pv.encS Pv.encI) l)), (3, .el (Pv.encI v)), (6, .t (tI (w64 (v2 - 1))))] [] mixed (.of rfl rfl) rfl rfl rfl rfl (.cons (.quiet rfl rfl rfl) (.cons (.quiet rfl rfl rfl) (.cons (.quiet rfl rfl rfl) (.cons (.quiet rfl rfl rfl) (.cons (.quiet rfl rfl rfl) (.cons (.quiet rfl rfl rfl) (.cons (.quiet rfl rfl rfl) (.cons (.quiet rfl rfl rfl) (.nil))))))))) ?_
  refine TieO.nil ?_
  exact TieS.ret ⟨.inl rfl, rfl⟩
-- math/bits.Mul64
set_option maxRecDepth 100000 in
def mul64L127_ren : Go.Shelf.Ren := ⟨fun | 264 => 127 | n => n, fun | 46 => 115 | 53 => 131 | n => n, fun  | n => n⟩
open Go.Shelf in
theorem mul64L127 : Lays.n264 Try.prog mul64L127_ren := {
  mixed := by kernel_rfl,
  f264 := Try.func127.trans (congrArg some (by kernel_rfl)),
  t46 := Try.underlying115,
  a46 := Try.isAgg115,
  z46 := Try.sizeOf115,
  v46 := Try.zeroValue115,
  t53 := Try.underlying131,
  a53 := Try.isAgg131,
  z53 := Try.sizeOf131,
  v53 := Try.zeroValue131 }
theorem tie_math_bits_Mul64 (x y : Int) : TieF Try.prog 127 [.t (tK .u64 x), .t (tK .u64 y)] (math_bits_Mul64 x y) (fun r => .tup [.t (tK .u64 r.1), .t (tK .u64 r.2)]) :=
  mul64_tie (ρ := mul64L127_ren) mul64L127 Try.call127 x y
-- magneto/arith.magnitude
set_option maxRecDepth 100000 in
theorem tie_arith_magnitude (n2 : Int) : TieF Try.prog 128 [.t (tI n2)] (arith_magnitude n2) (fun r => .t (tK .u64 r)) := by
  refine TieF.intro htab 12 [.tmp 2] Try.call128 Try.func128 rfl rfl rfl (Nat.le_of_ble_eq_true rfl) fun w0 L => ?_
  refine TieS.seq ?_
  refine TieS.region ?_
  refine TieO.run 1 rfl ?_
  refine TieO.nil ?_
  refine TieS.seq ?_
  refine TieS.seq ?_
  refine TieS.region ?_
  refine TieO.run 2 rfl ?_
  refine TieO.nil ?_
  refine TieS.cond rfl ?_ ?_
  · refine TieS.seq ?_
    refine TieS.region ?_
    refine TieO.run 6 rfl ?_
    refine TieO.nil ?_
    exact TieS.ret ⟨.inl rfl, rfl⟩
  · refine TieS.skip ?_
    refine TieS.seq ?_
    refine TieS.region ?_
    refine TieO.run 3 rfl ?_
    refine TieO.nil ?_
    exact TieS.ret ⟨.inl rfl, rfl⟩
-- math/bits.Len64
set_option maxRecDepth 100000 in
def len64L114_ren : Go.Shelf.Ren := ⟨fun | 129 => 114 | n => n, fun | 3 => 3 | 4 => 4 | 5 => 5 | 9 => 9 | 46 => 115 | 53 => 131 | n => n, fun  | n => n⟩
open Go.Shelf in
theorem len64L114 : Lays.n129 Try.prog len64L114_ren := {
  mixed := by kernel_rfl,
  f129 := Try.func114.trans (congrArg some (by kernel_rfl)),
  t3 := Try.underlying3,
  a3 := Try.isAgg3,
  z3 := Try.sizeOf3,
  v3 := Try.zeroValue3,
  t4 := Try.underlying4,
  a4 := Try.isAgg4,
  z4 := Try.sizeOf4,
  v4 := Try.zeroValue4,
  t5 := Try.underlying5,
  a5 := Try.isAgg5,
  z5 := Try.sizeOf5,
  v5 := Try.zeroValue5,
  t9 := Try.underlying9,
  a9 := Try.isAgg9,
  z9 := Try.sizeOf9,
  v9 := Try.zeroValue9,
  t46 := Try.underlying115,
  a46 := Try.isAgg115,
  z46 := Try.sizeOf115,
  v46 := Try.zeroValue115,
  t53 := Try.underlying131,
  a53 := Try.isAgg131,
  z53 := Try.sizeOf131,
  v53 := Try.zeroValue131 }
theorem tie_math_bits_Len64 (x : Int) : TieF Try.prog 114 [.t (tK .u64 x)] (math_bits_Len64 x) (fun r => .t (tI r)) :=
  len64_tie (ρ := len64L114_ren) len64L114 Try.call114 x
-- math/bits.LeadingZeros64
set_option maxRecDepth 100000 in
theorem tie_math_bits_LeadingZeros64 (x : Int) : TieF Try.prog 131 [.t (tK .u64 x)] (math_bits_LeadingZeros64 x) (fun r => .t (tI r)) := by
  refine TieF.intro htab 6 [.tmp 2] Try.call131 Try.func131 rfl rfl rfl (Nat.le_of_ble_eq_true rfl) fun w0 L => ?_
  refine TieS.seq ?_
  refine TieS.region ?_
  refine TieO.run 1 rfl ?_
  refine TieO.nil ?_
  refine TieS.seq ?_
  refine TieS.region ?_
  refine TieO.run 1 rfl ?_
  refine TieO.call _ rfl rfl rfl (tie_math_bits_Len64 x) (fun _ => rfl) fun v => ?_
  refine TieO.run 2 rfl ?_
  refine TieO.nil ?_
  exact TieS.ret ⟨.inl rfl, rfl⟩
-- math/bits.Div64
set_option maxRecDepth 100000 in
theorem tie_math_bits_Div64 (hi : Int) (lo : Int) (y : Int) : TieF Try.prog 129 [.t (tK .u64 hi), .t (tK .u64 lo), .t (tK .u64 y)] (math_bits_Div64 hi lo y) (fun r => .tup [.t (tK .u64 r.1), .t (tK .u64 r.2)]) := by
  refine TieF.intro htab 135 [.tmp 6, .tmp 7] Try.call129 Try.func129 rfl rfl rfl (Nat.le_of_ble_eq_true rfl) fun w0 L => ?_
  refine TieS.seq ?_
  refine TieS.region ?_
  refine TieO.run 2 rfl ?_
  refine TieO.nil ?_
  refine TieS.seq ?_
  refine TieS.seq ?_
  refine TieS.region ?_
  refine TieO.run 2 rfl ?_
  refine TieO.nil ?_
  refine TieS.bind (Q₁ := fun t e σ' => e = .normal ∧ Sub ⟨[(0, .t (tK .u64 hi)), (1, .t (tK .u64 lo)), (2, .t (tK .u64 y))], []⟩ σ') ?_ ?_
  · refine TieS.cond rfl ?_ ?_
    · refine TieS.region ?_
      exact TieO.fail
    · refine TieS.skip ?_
      exact TieS.leaf ⟨rfl, .of rfl rfl⟩
  rintro s e σ' _ ⟨rfl, hs⟩
  refine TieX.sub hs ?_
  refine TieS.seq ?_
  refine TieS.seq ?_
  refine TieS.region ?_
  refine TieO.run 3 rfl ?_
  refine TieO.nil ?_
  refine TieS.bind (Q₁ := fun t e σ' => e = .normal ∧ Sub ⟨[(0, .t (tK .u64 hi)), (1, .t (tK .u64 lo)), (2, .t (tK .u64 y))], []⟩ σ') ?_ ?_
  · refine TieS.cond rfl ?_ ?_
    · refine TieS.region ?_
      exact TieO.fail
    · refine TieS.skip ?_
      exact TieS.leaf ⟨rfl, .of rfl rfl⟩
  rintro s2 e σ' _ ⟨rfl, hs⟩
  refine TieX.sub hs ?_
  refine TieS.seq ?_
  refine TieS.seq ?_
  refine TieS.region ?_
  refine TieO.run 2 rfl ?_
  refine TieO.nil ?_
  refine TieS.cond rfl ?_ ?_
  · refine TieS.seq ?_
    refine TieX.pre fun q hq => ?_
    refine TieX.pre fun q2 hq2 => ?_
    refine TieS.draw 8 [.t (tK .u64 lo), .t (tK .u64 y), .t (tK .u64 q), .t (tK .u64 lo), .t (tK .u64 y), .t (tK .u64 q2), .t (tK .u64 q), .t (tK .u64 q2)] [(1, .t (tK .u64 lo)), (2, .t (tK .u64 y))] [] mixed (.of rfl rfl) rfl rfl rfl rfl (.cons (.quiet rfl rfl rfl) (.cons (.quiet rfl rfl rfl) (.cons (.quo hq rfl rfl rfl rfl) (.cons (.quiet rfl rfl rfl) (.cons (.quiet rfl rfl rfl) (.cons (.rem hq2 rfl rfl rfl rfl) (.cons (.quiet rfl rfl rfl) (.cons (.quiet rfl rfl rfl) (.nil))))))))) ?_
    refine TieO.nil ?_
    exact TieS.ret ⟨.inl rfl, rfl⟩
  · refine TieS.skip ?_
    refine TieS.seq ?_
    refine TieS.region ?_
    refine TieO.run 1 rfl ?_
    refine TieO.call _ rfl rfl rfl (tie_math_bits_LeadingZeros64 y) (fun _ => rfl) fun v => ?_
    refine TieO.run 2 rfl ?_
    refine TieO.nil ?_
    refine TieS.seq ?_
    refine TieS.region ?_
    refine TieO.run 2 rfl ?_
    refine TieO.shl rfl rfl rfl rfl rfl rfl fun q3 => ?_
    refine TieO.run 1 rfl ?_
    refine TieO.nil ?_
    refine TieS.seq ?_
    refine TieS.region ?_
    refine TieO.run 3 rfl ?_
    refine TieO.nil ?_
    refine TieS.seq ?_
    refine TieS.region ?_
    refine TieO.run 3 rfl ?_
    refine TieO.nil ?_
    refine TieS.seq ?_
    refine TieS.region ?_
    refine TieO.run 2 rfl ?_
    refine TieO.shl rfl rfl rfl rfl rfl rfl fun q4 => ?_
    refine TieO.run 3 rfl ?_
    refine TieO.shr rfl rfl rfl rfl rfl rfl fun q5 => ?_
    refine TieO.run 2 rfl ?_
    refine TieO.nil ?_
    refine TieS.seq ?_
    refine TieS.region ?_
    refine TieO.run 2 rfl ?_
    refine TieO.shl rfl rfl rfl rfl rfl rfl fun q6 => ?_
    refine TieO.run 1 rfl ?_
    refine TieO.nil ?_
    refine TieS.seq ?_
    refine TieS.region ?_
    refine TieO.run 3 rfl ?_
    refine TieO.nil ?_
    refine TieS.seq ?_
    refine TieS.region ?_
    refine TieO.run 3 rfl ?_
    refine TieO.nil ?_
    refine TieS.seq ?_
    refine TieS.region ?_
    refine TieO.run 2 rfl ?_
    refine TieO.quo rfl rfl rfl rfl rfl rfl fun q7 => ?_
    refine TieO.run 1 rfl ?_
    refine TieO.nil ?_
    refine TieS.seq ?_
    refine TieS.region ?_
    refine TieO.run 6 rfl ?_
    refine TieO.nil ?_
    refine TieS.seq ?_
    refine TieS.block ?_
    refine TieS.loop (fun t => ⟨[(2, .t (tK .u64 q3)), (8, .t (tK .u64 (IntKind.u64.wrap v))), (9, .t (tK .u64 (bitShr .u64 q3 32))), (10, .t (tK .u64 (bitAnd .u64 q3 4294967295))), (11, .t (tK .u64 (bitOr .u64 q4 q5))), (13, .t (tK .u64 (bitShr .u64 q6 32))), (14, .t (tK .u64 (bitAnd .u64 q6 4294967295))), (15, .t (tK .u64 t.1)), (16, .t (tK .u64 t.2))], []⟩) (fun b e σ' => match b with | .inl t => e = .exit 0 ∧ Sub ⟨[(2, .t (tK .u64 q3)), (8, .t (tK .u64 (IntKind.u64.wrap v))), (9, .t (tK .u64 (bitShr .u64 q3 32))), (10, .t (tK .u64 (bitAnd .u64 q3 4294967295))), (11, .t (tK .u64 (bitOr .u64 q4 q5))), (13, .t (tK .u64 (bitShr .u64 q6 32))), (14, .t (tK .u64 (bitAnd .u64 q6 4294967295))), (15, .t (tK .u64 t.1))], []⟩ σ' | .inr t => False) (.of rfl rfl) ?_ ?_
    · intro s3
      refine TieS.seq ?_
      refine TieS.seq ?_
      refine TieS.region ?_
      refine TieO.run 3 rfl ?_
      refine TieO.selOr (v := decide ((IntKind.u64.wrap (s3.1 * (bitAnd .u64 q3 4294967295))) > (IntKind.u64.wrap ((IntKind.u64.wrap (4294967296 * s3.2)) + (bitShr .u64 q6 32))))) 9 69 (fun b => ⟨[(2, .t (tK .u64 q3)), (8, .t (tK .u64 (IntKind.u64.wrap v))), (9, .t (tK .u64 (bitShr .u64 q3 32))), (10, .t (tK .u64 (bitAnd .u64 q3 4294967295))), (11, .t (tK .u64 (bitOr .u64 q4 q5))), (13, .t (tK .u64 (bitShr .u64 q6 32))), (14, .t (tK .u64 (bitAnd .u64 q6 4294967295))), (15, .t (tK .u64 s3.1)), (16, .t (tK .u64 s3.2)), (78, .t (tB b))], []⟩) rfl ?_ ?_ ?_
      · refine TieO.run 9 rfl ?_
        refine TieO.nil ?_
        exact TieS.leaf ⟨rfl, .of rfl rfl⟩
      · refine TieO.run 9 rfl ?_
        refine TieO.nil ?_
        exact TieS.leaf ⟨rfl, .of rfl rfl⟩
      refine TieO.nil ?_
      refine TieS.cond rfl ?_ ?_
      · refine TieS.skip ?_
        refine TieS.block ?_
        refine TieS.seq ?_
        refine TieS.region ?_
        refine TieO.run 3 rfl ?_
        refine TieO.nil ?_
        refine TieS.seq ?_
        refine TieS.region ?_
        refine TieO.run 4 rfl ?_
        refine TieO.nil ?_
        refine TieS.seq ?_
        refine TieS.region ?_
        refine TieO.run 2 rfl ?_
        refine TieO.nil ?_
        refine TieS.cond rfl ?_ ?_
        · exact TieS.exitOut rfl ⟨(fun h => by cases h), rfl, .of rfl rfl⟩
        · refine TieS.skip ?_
          refine TieS.endb ?_
          exact TieS.leaf ⟨rfl, .of rfl rfl⟩
      · exact TieS.exitOut rfl ⟨(fun h => by cases h), rfl, .of rfl rfl⟩
    rintro (s4 | r) e σ' _ hq
    · obtain ⟨rfl, hs⟩ := hq
      refine TieX.exit rfl (TieX.sub hs ?_)
      refine TieS.seq ?_
      refine TieS.region ?_
      refine TieO.run 9 rfl ?_
      refine TieO.nil ?_
      refine TieS.seq ?_
      refine TieS.region ?_
      refine TieO.run 2 rfl ?_
      refine TieO.quo rfl rfl rfl rfl rfl rfl fun q8 => ?_
      refine TieO.run 1 rfl ?_
      refine TieO.nil ?_
      refine TieS.seq ?_
      refine TieS.region ?_
      refine TieO.run 6 rfl ?_
      refine TieO.nil ?_
      refine TieS.seq ?_
      refine TieS.block ?_
      refine TieS.loop (fun t => ⟨[(2, .t (tK .u64 q3)), (8, .t (tK .u64 (IntKind.u64.wrap v))), (9, .t (tK .u64 (bitShr .u64 q3 32))), (10, .t (tK .u64 (bitAnd .u64 q3 4294967295))), (14, .t (tK .u64 (bitAnd .u64 q6 4294967295))), (15, .t (tK .u64 s4.1)), (16, .t (tK .u64 t.1)), (17, .t (tK .u64 (IntKind.u64.wrap ((IntKind.u64.wrap ((IntKind.u64.wrap ((bitOr .u64 q4 q5) * 4294967296)) + (bitShr .u64 q6 32))) - (IntKind.u64.wrap (s4.1 * q3)))))), (18, .t (tK .u64 t.2))], []⟩) (fun b e σ' => match b with | .inl t => e = .exit 2 ∧ Sub ⟨[(2, .t (tK .u64 q3)), (8, .t (tK .u64 (IntKind.u64.wrap v))), (14, .t (tK .u64 (bitAnd .u64 q6 4294967295))), (15, .t (tK .u64 s4.1)), (17, .t (tK .u64 (IntKind.u64.wrap ((IntKind.u64.wrap ((IntKind.u64.wrap ((bitOr .u64 q4 q5) * 4294967296)) + (bitShr .u64 q6 32))) - (IntKind.u64.wrap (s4.1 * q3)))))), (18, .t (tK .u64 t.2))], []⟩ σ' | .inr t => False) (.of rfl rfl) ?_ ?_
      · intro s5
        refine TieS.seq ?_
        refine TieS.seq ?_
        refine TieS.region ?_
        refine TieO.run 3 rfl ?_
        refine TieO.selOr (v := decide ((IntKind.u64.wrap (s5.2 * (bitAnd .u64 q3 4294967295))) > (IntKind.u64.wrap ((IntKind.u64.wrap (4294967296 * s5.1)) + (bitAnd .u64 q6 4294967295))))) 9 104 (fun b => ⟨[(2, .t (tK .u64 q3)), (8, .t (tK .u64 (IntKind.u64.wrap v))), (9, .t (tK .u64 (bitShr .u64 q3 32))), (10, .t (tK .u64 (bitAnd .u64 q3 4294967295))), (14, .t (tK .u64 (bitAnd .u64 q6 4294967295))), (15, .t (tK .u64 s4.1)), (16, .t (tK .u64 s5.1)), (17, .t (tK .u64 (IntKind.u64.wrap ((IntKind.u64.wrap ((IntKind.u64.wrap ((bitOr .u64 q4 q5) * 4294967296)) + (bitShr .u64 q6 32))) - (IntKind.u64.wrap (s4.1 * q3)))))), (18, .t (tK .u64 s5.2)), (113, .t (tB b))], []⟩) rfl ?_ ?_ ?_
        · refine TieO.run 9 rfl ?_
          refine TieO.nil ?_
          exact TieS.leaf ⟨rfl, .of rfl rfl⟩
        · refine TieO.run 9 rfl ?_
          refine TieO.nil ?_
          exact TieS.leaf ⟨rfl, .of rfl rfl⟩
        refine TieO.nil ?_
        refine TieS.cond rfl ?_ ?_
        · refine TieS.skip ?_
          refine TieS.block ?_
          refine TieS.seq ?_
          refine TieS.region ?_
          refine TieO.run 3 rfl ?_
          refine TieO.nil ?_
          refine TieS.seq ?_
          refine TieS.region ?_
          refine TieO.run 4 rfl ?_
          refine TieO.nil ?_
          refine TieS.seq ?_
          refine TieS.region ?_
          refine TieO.run 2 rfl ?_
          refine TieO.nil ?_
          refine TieS.cond rfl ?_ ?_
          · exact TieS.exitOut rfl ⟨(fun h => by cases h), rfl, .of rfl rfl⟩
          · refine TieS.skip ?_
            refine TieS.endb ?_
            exact TieS.leaf ⟨rfl, .of rfl rfl⟩
        · exact TieS.exitOut rfl ⟨(fun h => by cases h), rfl, .of rfl rfl⟩
      rintro (s6 | r) e σ' _ hq
      · obtain ⟨rfl, hs⟩ := hq
        refine TieX.exit rfl (TieX.sub hs ?_)
        refine TieS.seq ?_
        refine TieS.region ?_
        refine TieO.run 13 rfl ?_
        refine TieO.shr rfl rfl rfl rfl rfl rfl fun q9 => ?_
        refine TieO.run 2 rfl ?_
        refine TieO.nil ?_
        exact TieS.ret ⟨.inl rfl, rfl⟩
      · exact hq.elim
    · exact hq.elim
-- magneto/arith.rounded
set_option maxRecDepth 100000 in
theorem tie_arith_rounded (r2 : Int) (c : Int) (negative : Bool) (mode : Int) : TieF Try.prog 130 [.t (tK .u64 r2), .t (tK .u64 c), .t (tB negative), .t (tI mode)] (arith_rounded r2 c negative mode) (fun r => .t (tB r)) := by
  refine TieF.intro htab 36 [.tmp 8] Try.call130 Try.func130 rfl rfl rfl (Nat.le_of_ble_eq_true rfl) fun w0 L => ?_
  refine TieS.seq ?_
  refine TieS.region ?_
  refine TieO.run 1 rfl ?_
  refine TieO.nil ?_
  refine TieS.seq ?_
  refine TieS.seq ?_
  refine TieS.region ?_
  refine TieO.run 1 rfl ?_
  refine TieO.nil ?_
  refine TieS.block ?_
  refine TieS.seq ?_
  refine TieS.region ?_
  refine TieO.run 2 rfl ?_
  refine TieO.nil ?_
  refine TieS.cond rfl ?_ ?_
  · refine TieS.seq ?_
    refine TieS.region ?_
    refine TieO.run 2 rfl ?_
    refine TieO.selAnd (v := decide (r2 > 0)) 3 13 (fun b => ⟨[(16, .t (tB b))], []⟩) rfl ?_ ?_ ?_
    · refine TieO.run 3 rfl ?_
      refine TieO.nil ?_
      exact TieS.leaf ⟨rfl, .of rfl rfl⟩
    · refine TieO.run 3 rfl ?_
      refine TieO.nil ?_
      exact TieS.leaf ⟨rfl, .of rfl rfl⟩
    refine TieO.run 1 rfl ?_
    refine TieO.nil ?_
    exact TieS.ret ⟨.inl rfl, rfl⟩
  · refine TieS.seq ?_
    refine TieS.region ?_
    refine TieO.run 2 rfl ?_
    refine TieO.nil ?_
    refine TieS.cond rfl ?_ ?_
    · refine TieS.seq ?_
      refine TieS.region ?_
      refine TieO.run 3 rfl ?_
      refine TieO.selAnd (v := decide (r2 > 0)) 3 21 (fun b => ⟨[(24, .t (tB b))], []⟩) rfl ?_ ?_ ?_
      · refine TieO.run 3 rfl ?_
        refine TieO.nil ?_
        exact TieS.leaf ⟨rfl, .of rfl rfl⟩
      · refine TieO.run 3 rfl ?_
        refine TieO.nil ?_
        exact TieS.leaf ⟨rfl, .of rfl rfl⟩
      refine TieO.run 1 rfl ?_
      refine TieO.nil ?_
      exact TieS.ret ⟨.inl rfl, rfl⟩
    · refine TieS.skip ?_
      refine TieS.endb ?_
      refine TieS.seq ?_
      refine TieS.seq ?_
      refine TieS.region ?_
      refine TieO.run 1 rfl ?_
      refine TieO.nil ?_
      refine TieS.cond rfl ?_ ?_
      · refine TieS.seq ?_
        refine TieS.region ?_
        refine TieO.run 6 rfl ?_
        refine TieO.nil ?_
        exact TieS.ret ⟨.inl rfl, rfl⟩
      · refine TieS.skip ?_
        refine TieS.seq ?_
        refine TieS.region ?_
        refine TieO.run 6 rfl ?_
        refine TieO.nil ?_
        exact TieS.ret ⟨.inl rfl, rfl⟩
-- magneto/arith.MulDiv
set_option maxRecDepth 100000 in
theorem tie_arith_MulDiv (a : Int) (b2 : Int) (c : Int) (mode : Int) : TieF Try.prog 124 [.t (tI a), .t (tI b2), .t (tI c), .t (tI mode)] (arith_MulDiv a b2 c mode) (fun r => .tup [.t (tI r.1), .t (tI r.2)]) := by
  refine TieF.intro htab 83 [.tmp 8, .tmp 9] Try.call124 Try.func124 rfl rfl rfl (Nat.le_of_ble_eq_true rfl) fun w0 L => ?_
  refine TieS.seq ?_
  refine TieS.region ?_
  refine TieO.run 2 rfl ?_
  refine TieO.nil ?_
  refine TieS.seq ?_
  refine TieS.block ?_
  refine TieS.seq ?_
  refine TieS.region ?_
  refine TieO.run 3 rfl ?_
  refine TieO.selOr (v := decide (mode > 3)) 3 19 (fun b => ⟨[(0, .t (tI a)), (1, .t (tI b2)), (2, .t (tI c)), (3, .t (tI mode)), (22, .t (tB b))], []⟩) rfl ?_ ?_ ?_
  · refine TieO.run 3 rfl ?_
    refine TieO.nil ?_
    exact TieS.leaf ⟨rfl, .of rfl rfl⟩
  · refine TieO.run 3 rfl ?_
    refine TieO.nil ?_
    exact TieS.leaf ⟨rfl, .of rfl rfl⟩
  refine TieO.run 1 rfl ?_
  refine TieO.nil ?_
  refine TieS.cond rfl ?_ ?_
  · refine TieS.seq ?_
    refine TieS.region ?_
    refine TieO.run 2 rfl ?_
    refine TieO.nil ?_
    exact TieS.ret ⟨.inl rfl, rfl⟩
  · refine TieS.seq ?_
    refine TieS.region ?_
    refine TieO.run 3 rfl ?_
    refine TieO.nil ?_
    refine TieS.cond rfl ?_ ?_
    · refine TieS.seq ?_
      refine TieS.region ?_
      refine TieO.run 2 rfl ?_
      refine TieO.nil ?_
      exact TieS.ret ⟨.inl rfl, rfl⟩
    · refine TieS.skip ?_
      refine TieS.endb ?_
      refine TieS.seq ?_
      refine TieS.region ?_
      refine TieO.run 9 rfl ?_
      refine TieO.nil ?_
      refine TieS.seq ?_
      refine TieS.region ?_
      refine TieO.run 1 rfl ?_
      refine TieO.call _ rfl rfl rfl (tie_arith_magnitude a) (fun _ => rfl) fun v => ?_
      refine TieO.run 1 rfl ?_
      refine TieO.call _ rfl rfl rfl (tie_arith_magnitude b2) (fun _ => rfl) fun v2 => ?_
      refine TieO.call _ rfl rfl rfl (tie_math_bits_Mul64 v v2) (fun _ => rfl) fun r2 => ?_
      refine TieO.run 5 rfl ?_
      refine TieO.nil ?_
      refine TieS.seq ?_
      refine TieS.region ?_
      refine TieO.run 1 rfl ?_
      refine TieO.call _ rfl rfl rfl (tie_arith_magnitude c) (fun _ => rfl) fun v3 => ?_
      refine TieO.run 1 rfl ?_
      refine TieO.nil ?_
      refine TieS.seq ?_
      refine TieS.seq ?_
      refine TieS.region ?_
      refine TieO.run 3 rfl ?_
      refine TieO.nil ?_
      refine TieS.cond rfl ?_ ?_
      · refine TieS.seq ?_
        refine TieS.region ?_
        refine TieO.run 2 rfl ?_
        refine TieO.nil ?_
        exact TieS.ret ⟨.inl rfl, rfl⟩
      · refine TieS.skip ?_
        refine TieS.seq ?_
        refine TieS.region ?_
        refine TieO.run 3 rfl ?_
        refine TieO.call _ rfl rfl rfl (tie_math_bits_Div64 r2.1 r2.2 v3) (fun _ => rfl) fun r3 => ?_
        refine TieO.run 5 rfl ?_
        refine TieO.nil ?_
        refine TieS.seq ?_
        refine TieS.seq ?_
        refine TieS.region ?_
        refine TieO.run 2 rfl ?_
        refine TieO.nil ?_
        refine TieS.cond rfl ?_ ?_
        · refine TieS.seq ?_
          refine TieS.region ?_
          refine TieO.run 2 rfl ?_
          refine TieO.nil ?_
          exact TieS.ret ⟨.inl rfl, rfl⟩
        · refine TieS.skip ?_
          refine TieS.seq ?_
          refine TieS.seq ?_
          refine TieS.region ?_
          refine TieO.run 4 rfl ?_
          refine TieO.call _ rfl rfl rfl (tie_arith_rounded r3.2 v3 (!((!((decide (a < 0)) == (decide (b2 < 0)))) == (decide (c < 0)))) mode) (fun _ => rfl) fun v4 => ?_
          refine TieO.nil ?_
          refine TieS.bind (Q₁ := fun t e σ' => e = .normal ∧ Sub ⟨[(10, .t (tB (!((!((decide (a < 0)) == (decide (b2 < 0)))) == (decide (c < 0)))))), (14, .t (tK .u64 t))], []⟩ σ') ?_ ?_
          · refine TieS.cond rfl ?_ ?_
            · refine TieS.region ?_
              refine TieO.run 3 rfl ?_
              refine TieO.nil ?_
              exact TieS.leaf ⟨rfl, .of rfl rfl⟩
            · refine TieS.skip ?_
              exact TieS.leaf ⟨rfl, .of rfl rfl⟩
          rintro q e σ' _ ⟨rfl, hs⟩
          refine TieX.sub hs ?_
          refine TieS.seq ?_
          refine TieS.block ?_
          refine TieS.seq ?_
          refine TieS.region ?_
          refine TieO.run 2 rfl ?_
          refine TieO.selAnd (v := decide (q ≤ 9223372036854775808)) 3 65 (fun b => ⟨[(10, .t (tB (!((!((decide (a < 0)) == (decide (b2 < 0)))) == (decide (c < 0)))))), (14, .t (tK .u64 q)), (68, .t (tB b))], []⟩) rfl ?_ ?_ ?_
          · refine TieO.run 3 rfl ?_
            refine TieO.nil ?_
            exact TieS.leaf ⟨rfl, .of rfl rfl⟩
          · refine TieO.run 3 rfl ?_
            refine TieO.nil ?_
            exact TieS.leaf ⟨rfl, .of rfl rfl⟩
          refine TieO.run 1 rfl ?_
          refine TieO.nil ?_
          refine TieS.cond rfl ?_ ?_
          · refine TieS.seq ?_
            refine TieS.region ?_
            refine TieO.run 7 rfl ?_
            refine TieO.nil ?_
            exact TieS.ret ⟨.inl rfl, rfl⟩
          · refine TieS.seq ?_
            refine TieS.region ?_
            refine TieO.run 3 rfl ?_
            refine TieO.selAnd (v := decide (q < 9223372036854775808)) 3 77 (fun b => ⟨[(14, .t (tK .u64 q)), (80, .t (tB b))], []⟩) rfl ?_ ?_ ?_
            · refine TieO.run 3 rfl ?_
              refine TieO.nil ?_
              exact TieS.leaf ⟨rfl, .of rfl rfl⟩
            · refine TieO.run 3 rfl ?_
              refine TieO.nil ?_
              exact TieS.leaf ⟨rfl, .of rfl rfl⟩
            refine TieO.run 1 rfl ?_
            refine TieO.nil ?_
            refine TieS.cond rfl ?_ ?_
            · refine TieS.seq ?_
              refine TieS.region ?_
              refine TieO.run 4 rfl ?_
              refine TieO.nil ?_
              exact TieS.ret ⟨.inl rfl, rfl⟩
            · refine TieS.skip ?_
              refine TieS.endb ?_
              refine TieS.seq ?_
              refine TieS.region ?_
              refine TieO.run 2 rfl ?_
              refine TieO.nil ?_
              exact TieS.ret ⟨.inl rfl, rfl⟩
-- magneto/arith.Div
set_option maxRecDepth 100000 in
theorem tie_arith_Div (a : Int) (b2 : Int) (mode : Int) : TieF Try.prog 117 [.t (tI a), .t (tI b2), .t (tI mode)] (arith_Div a b2 mode) (fun r => .tup [.t (tI r.1), .t (tI r.2)]) := by
  refine TieF.intro htab 14 [.tmp 6, .tmp 7] Try.call117 Try.func117 rfl rfl rfl (Nat.le_of_ble_eq_true rfl) fun w0 L => ?_
  refine TieS.seq ?_
  refine TieS.region ?_
  refine TieO.run 2 rfl ?_
  refine TieO.nil ?_
  refine TieS.seq ?_
  refine TieS.region ?_
  refine TieO.run 3 rfl ?_
  refine TieO.call _ rfl rfl rfl (tie_arith_MulDiv a 1 b2 mode) (fun _ => rfl) fun r2 => ?_
  refine TieO.run 4 rfl ?_
  refine TieO.nil ?_
  exact TieS.ret ⟨.inl rfl, rfl⟩
-- magneto/arith.Floor
set_option maxRecDepth 100000 in
theorem tie_arith_Floor (a : Int) (b2 : Int) : TieF Try.prog 100 [.t (tI a), .t (tI b2)] (arith_Floor a b2) (fun r => .t (tI r)) := by
  refine TieF.intro htab 14 [.tmp 4] Try.call100 Try.func100 rfl rfl rfl (Nat.le_of_ble_eq_true rfl) fun w0 L => ?_
  refine TieS.seq ?_
  refine TieS.region ?_
  refine TieO.run 1 rfl ?_
  refine TieO.nil ?_
  refine TieS.seq ?_
  refine TieS.region ?_
  refine TieO.run 2 rfl ?_
  refine TieO.call _ rfl rfl rfl (tie_arith_Div a b2 1) (fun _ => rfl) fun r2 => ?_
  refine TieO.run 5 rfl ?_
  refine TieO.nil ?_
  refine TieS.seq ?_
  refine TieS.region ?_
  refine TieO.run 2 rfl ?_
  refine TieO.nil ?_
  exact TieS.ret ⟨.inl rfl, rfl⟩
-- magneto/surface.between
set_option maxRecDepth 100000 in
theorem tie_surface_between (x0 : Int) (x1 : Int) (y0 : Int) (y1 : Int) (x : Int) : TieF Try.prog 87 [.t (tI x0), .t (tI x1), .t (tI y0), .t (tI y1), .t (tI x)] (surface_between x0 x1 y0 y1 x) (fun r => .t (tI r)) := by
  refine TieF.intro htab 24 [.tmp 10] Try.call87 Try.func87 rfl rfl rfl (Nat.le_of_ble_eq_true rfl) fun w0 L => ?_
  refine TieS.seq ?_
  refine TieS.region ?_
  refine TieO.run 1 rfl ?_
  refine TieO.nil ?_
  refine TieS.seq ?_
  refine TieS.region ?_
  refine TieO.run 11 rfl ?_
  refine TieO.call _ rfl rfl rfl (tie_arith_Floor (w64 ((w64 (x - x0)) * (w64 (y1 - y0)))) (w64 (x1 - x0))) (fun _ => rfl) fun v => ?_
  refine TieO.run 2 rfl ?_
  refine TieO.nil ?_
  exact TieS.ret ⟨.inl rfl, rfl⟩
-- magneto/surface.at$1
set_option maxRecDepth 100000 in
theorem tie_surface_at_1 (j : Int) (c : SMap) (c2 : Int) (c3 : Int) : TieF Try.prog 86 [.t (tI j), .el (enc_SMap c), .el (Pv.encI c2), .el (Pv.encI c3)] (surface_at_1 j c c2 c3) (fun r => .t (tI r)) := by
  refine TieF.intro htab 36 [.tmp 5] Try.call86 Try.func86 rfl rfl rfl (Nat.le_of_ble_eq_true rfl) fun w0 L => ?_
  refine TieS.seq ?_
  refine TieS.region ?_
  refine TieO.run 1 rfl ?_
  refine TieO.nil ?_
  refine TieS.seq ?_
  refine TieX.pre fun x hx => ?_
  refine TieX.pre fun x2 hx2 => ?_
  refine TieX.pre fun x3 hx3 => ?_
  refine TieX.pre fun x4 hx4 => ?_
  refine TieX.pre fun x5 hx5 => ?_
  refine TieX.pre fun x6 hx6 => ?_
  refine TieX.pre fun v hv => ?_
  refine TieS.draw 31 [.el (List.drop 0 (enc_SMap c)), .t (tS Pv.encI c.X), .t (tI c2), .el (Pv.encI x), .t (tI x), .el (List.drop 0 (enc_SMap c)), .t (tS Pv.encI c.X), .t (tI c2), .t (tI (w64 (c2 + 1))), .el (Pv.encI x2), .t (tI x2), .el (List.drop 2 (enc_SMap c)), .t (tS (Pv.encS Pv.encI) c.Z), .t (tI c2), .el ((Pv.encS Pv.encI) x3), .t (tS Pv.encI x3), .t (tI j), .el (Pv.encI x4), .t (tI x4), .el (List.drop 2 (enc_SMap c)), .t (tS (Pv.encS Pv.encI) c.Z), .t (tI c2), .t (tI (w64 (c2 + 1))), .el ((Pv.encS Pv.encI) x5), .t (tS Pv.encI x5), .t (tI j), .el (Pv.encI x6), .t (tI x6), .t (tI c3), .t (tI v), .t (tI v)] [(0, .t (tI j)), (1, .el (enc_SMap c)), (2, .el (Pv.encI c2)), (3, .el (Pv.encI c3))] [] mixed (.of rfl rfl) rfl rfl rfl rfl (.cons (.quiet rfl rfl rfl) (.cons (.quiet rfl rfl rfl) (.cons (.quiet rfl rfl rfl) (.cons (.index hx rfl rfl rfl rfl rfl rfl (fun _ => rfl)) (.cons (.quiet rfl rfl rfl) (.cons (.quiet rfl rfl rfl) (.cons (.quiet rfl rfl rfl) (.cons (.quiet rfl rfl rfl) (.cons (.quiet rfl rfl rfl) (.cons (.index hx2 rfl rfl rfl rfl rfl rfl (fun _ => rfl)) (.cons (.quiet rfl rfl rfl) (.cons (.quiet rfl rfl rfl) (.cons (.quiet rfl rfl rfl) (.cons (.quiet rfl rfl rfl) (.cons (.index hx3 rfl rfl rfl rfl rfl rfl (fun _ => rfl)) (.cons (.quiet rfl rfl rfl) (.cons (.quiet rfl rfl rfl) (.cons (.index hx4 rfl rfl rfl rfl rfl rfl (fun _ => rfl)) (.cons (.quiet rfl rfl rfl) (.cons (.quiet rfl rfl rfl) (.cons (.quiet rfl rfl rfl) (.cons (.quiet rfl rfl rfl) (.cons (.quiet rfl rfl rfl) (.cons (.index hx5 rfl rfl rfl rfl rfl rfl (fun _ => rfl)) (.cons (.quiet rfl rfl rfl) (.cons (.quiet rfl rfl rfl) (.cons (.index hx6 rfl rfl rfl rfl rfl rfl (fun _ => rfl)) (.cons (.quiet rfl rfl rfl) (.cons (.quiet rfl rfl rfl) (.cons (.callV (tie_surface_between x x2 x4 x6 c3) hv rfl rfl rfl rfl) (.cons (.quiet rfl rfl rfl) (.nil)))))))))))))))))))))))))))))))) ?_
  refine TieO.nil ?_
  exact TieS.ret ⟨.inl rfl, rfl⟩
-- magneto/surface.at
set_option maxRecDepth 100000 in
theorem tie_surface_at (m2 : SMap) (x : Int) (y : Int) : TieF Try.prog 69 [A_SMap m2, .t (tI x), .t (tI y)] (surface_at m2 x y) (fun r => .t (tI r)) := by
  refine TieF.intro htab 45 [.tmp 6] Try.call69 Try.func69 rfl rfl rfl (Nat.le_of_ble_eq_true rfl) fun w0 L => ?_
  refine TieS.seq ?_
  refine TieS.region ?_
  refine TieO.run 3 rfl ?_
  refine TieO.nil ?_
  refine TieS.seq ?_
  refine TieS.region ?_
  refine TieO.run 3 rfl ?_
  refine TieO.call _ rfl rfl rfl (tie_surface_segment m2.X x) (fun _ => rfl) fun r2 => ?_
  refine TieO.run 6 rfl ?_
  refine TieO.nil ?_
  refine TieS.seq ?_
  refine TieS.region ?_
  refine TieO.run 3 rfl ?_
  refine TieO.call _ rfl rfl rfl (tie_surface_segment m2.Y y) (fun _ => rfl) fun r3 => ?_
  refine TieO.run 5 rfl ?_
  refine TieO.nil ?_
  refine TieS.seq ?_
  refine TieS.region ?_
  refine TieO.frzBox 3 rfl rfl ?_
  refine TieO.frzBox 7 rfl rfl ?_
  refine TieO.frzBox 4 rfl rfl ?_
  refine TieO.run 1 rfl ?_
  refine TieO.sub (σ' := ⟨[(0, .agg [.t (tS Pv.encI m2.X), .t (tS Pv.encI m2.Y), .t (tS (Pv.encS Pv.encI) m2.Z)]), (1, .t (tI x)), (2, .t (tI r3.2)), (3, .el (enc_SMap m2)), (4, .el (Pv.encI r2.2)), (6, .t (tI 0)), (7, .el (Pv.encI r2.1)), (8, .t (tI r3.1)), (10, .tup [.t (tI r2.1), .t (tI r2.2)]), (11, .el (enc_SMap m2)), (12, .t (tS Pv.encI m2.X)), (13, .t (tI x)), (14, .tup [.t (tI r2.1), .t (tI r2.2)]), (15, .t (tI r2.1)), (16, .t (tI r2.2)), (17, .tup [.t (tI r3.1), .t (tI r3.2)]), (18, .el (List.drop 1 (enc_SMap m2))), (19, .t (tS Pv.encI m2.Y)), (20, .t (tI y)), (21, .tup [.t (tI r3.1), .t (tI r3.2)]), (22, .t (tI r3.1)), (23, .t (tI r3.2)), (24, .fz 86 [enc_SMap m2, Pv.encI r2.1, Pv.encI r2.2])], []⟩) (.of rfl rfl) ?_
  refine TieO.run 1 rfl ?_
  refine TieO.nil ?_
  refine TieS.seq ?_
  refine TieX.pre fun x2 hx2 => ?_
  refine TieX.pre fun x3 hx3 => ?_
  refine TieX.pre fun v hv => ?_
  refine TieX.pre fun v2 hv2 => ?_
  refine TieX.pre fun v3 hv3 => ?_
  refine TieS.draw 21 [.el (List.drop 1 (enc_SMap m2)), .t (tS Pv.encI m2.Y), .t (tI r3.1), .el (Pv.encI x2), .t (tI x2), .el (List.drop 1 (enc_SMap m2)), .t (tS Pv.encI m2.Y), .t (tI r3.1), .t (tI (w64 (r3.1 + 1))), .el (Pv.encI x3), .t (tI x3), .fz 86 [enc_SMap m2, Pv.encI r2.1, Pv.encI r2.2], .t (tI r3.1), .t (tI v), .fz 86 [enc_SMap m2, Pv.encI r2.1, Pv.encI r2.2], .t (tI r3.1), .t (tI (w64 (r3.1 + 1))), .t (tI v2), .t (tI r3.2), .t (tI v3), .t (tI v3)] [(2, .t (tI r3.2)), (3, .el (enc_SMap m2)), (8, .t (tI r3.1)), (9, .fz 86 [enc_SMap m2, Pv.encI r2.1, Pv.encI r2.2])] [] mixed (.of rfl rfl) rfl rfl rfl rfl (.cons (.quiet rfl rfl rfl) (.cons (.quiet rfl rfl rfl) (.cons (.quiet rfl rfl rfl) (.cons (.index hx2 rfl rfl rfl rfl rfl rfl (fun _ => rfl)) (.cons (.quiet rfl rfl rfl) (.cons (.quiet rfl rfl rfl) (.cons (.quiet rfl rfl rfl) (.cons (.quiet rfl rfl rfl) (.cons (.quiet rfl rfl rfl) (.cons (.index hx3 rfl rfl rfl rfl rfl rfl (fun _ => rfl)) (.cons (.quiet rfl rfl rfl) (.cons (.quiet rfl rfl rfl) (.cons (.quiet rfl rfl rfl) (.cons (.callV (tie_surface_at_1 r3.1 m2 r2.1 r2.2) hv rfl rfl rfl rfl) (.cons (.quiet rfl rfl rfl) (.cons (.quiet rfl rfl rfl) (.cons (.quiet rfl rfl rfl) (.cons (.callV (tie_surface_at_1 (w64 (r3.1 + 1)) m2 r2.1 r2.2) hv2 rfl rfl rfl rfl) (.cons (.quiet rfl rfl rfl) (.cons (.callV (tie_surface_between x2 x3 v v2 r3.2) hv3 rfl rfl rfl rfl) (.cons (.quiet rfl rfl rfl) (.nil)))))))))))))))))))))) ?_
  refine TieO.nil ?_
  exact TieS.ret ⟨.inl rfl, rfl⟩
-- magneto/surface.At
set_option maxRecDepth 100000 in
theorem tie_surface_At (m2 : SMap) (x : Int) (y : Int) : TieF Try.prog 54 [A_SMap m2, .t (tI x), .t (tI y)] (surface_At m2 x y) (fun r => .t (tI r)) := by
  refine TieF.intro htab 14 [.tmp 6] Try.call54 Try.func54 rfl rfl rfl (Nat.le_of_ble_eq_true rfl) fun w0 L => ?_
  refine TieS.seq ?_
  refine TieS.region ?_
  refine TieO.run 2 rfl ?_
  refine TieO.nil ?_
  refine TieS.seq ?_
  refine TieS.seq ?_
  refine TieS.region ?_
  refine TieO.run 1 rfl ?_
  refine TieO.call _ rfl rfl rfl (tie_surface_Valid m2) (fun _ => rfl) fun v => ?_
  refine TieO.run 1 rfl ?_
  refine TieO.nil ?_
  refine TieS.cond rfl ?_ ?_
  · refine TieS.seq ?_
    refine TieS.region ?_
    refine TieO.run 1 rfl ?_
    refine TieO.nil ?_
    exact TieS.ret ⟨.inl rfl, rfl⟩
  · refine TieS.skip ?_
    refine TieS.seq ?_
    refine TieS.region ?_
    refine TieO.run 3 rfl ?_
    refine TieO.call _ rfl rfl rfl (tie_surface_at m2 x y) (fun _ => rfl) fun v2 => ?_
    refine TieO.run 1 rfl ?_
    refine TieO.nil ?_
    exact TieS.ret ⟨.inl rfl, rfl⟩
-- magneto/curve.far
set_option maxRecDepth 100000 in
theorem tie_curve_far (n2 : Int) : TieF Try.prog 95 [.t (tI n2)] (curve_far n2) (fun r => .t (tB r)) := by
  refine TieF.intro htab 9 [.tmp 2] Try.call95 Try.func95 rfl rfl rfl (Nat.le_of_ble_eq_true rfl) fun w0 L => ?_
  refine TieS.seq ?_
  refine TieS.region ?_
  refine TieO.run 1 rfl ?_
  refine TieO.nil ?_
  refine TieS.seq ?_
  refine TieS.region ?_
  refine TieO.run 3 rfl ?_
  refine TieO.selOr (v := decide (n2 > 1073741824)) 3 5 (fun b => ⟨[(8, .t (tB b))], []⟩) rfl ?_ ?_ ?_
  · refine TieO.run 3 rfl ?_
    refine TieO.nil ?_
    exact TieS.leaf ⟨rfl, .of rfl rfl⟩
  · refine TieO.run 3 rfl ?_
    refine TieO.nil ?_
    exact TieS.leaf ⟨rfl, .of rfl rfl⟩
  refine TieO.run 1 rfl ?_
  refine TieO.nil ?_
  exact TieS.ret ⟨.inl rfl, rfl⟩
-- magneto/curve.axis
set_option maxRecDepth 100000 in
theorem tie_curve_axis (l : List Int) : TieF Try.prog 94 [.t (tS Pv.encI l)] (curve_axis l) (fun r => .t (tB r)) := by
  refine TieF.intro htab 33 [.tmp 2] Try.call94 Try.func94 rfl rfl rfl (Nat.le_of_ble_eq_true rfl) fun w0 L => ?_
  refine TieS.seq ?_
  refine TieS.region ?_
  refine TieO.run 1 rfl ?_
  refine TieO.nil ?_
  refine TieS.seq ?_
  refine TieS.seq ?_
  refine TieS.region ?_
  refine TieO.run 4 rfl ?_
  refine TieO.selOr (v := decide ((l.length : Int) > 32)) 4 7 (fun b => ⟨[(0, .t (tS Pv.encI l)), (11, .t (tB b))], []⟩) rfl ?_ ?_ ?_
  · refine TieO.run 4 rfl ?_
    refine TieO.nil ?_
    exact TieS.leaf ⟨rfl, .of rfl rfl⟩
  · refine TieO.run 4 rfl ?_
    refine TieO.nil ?_
    exact TieS.leaf ⟨rfl, .of rfl rfl⟩
  refine TieO.run 1 rfl ?_
  refine TieO.bind 3 (fun b2 => ⟨[(0, .t (tS Pv.encI l)), (15, .t (tB b2))], []⟩) (TieO.split 12 rfl ?_ ?_) fun b2 _ => ?_
  · refine TieO.run 3 rfl ?_
    refine TieO.nil ?_
    exact TieS.leaf ⟨rfl, .of rfl rfl⟩
  · refine TieO.run 1 rfl ?_
    refine TieO.call _ rfl rfl rfl (tie_slices_ContainsFunc_sint l 95 [] curve_far tie_curve_far) (fun _ => rfl) fun v => ?_
    refine TieO.run 1 rfl ?_
    refine TieO.nil ?_
    exact TieS.leaf ⟨rfl, .of rfl rfl⟩
  refine TieO.nil ?_
  refine TieS.cond rfl ?_ ?_
  · refine TieS.seq ?_
    refine TieS.region ?_
    refine TieO.run 1 rfl ?_
    refine TieO.nil ?_
    exact TieS.ret ⟨.inl rfl, rfl⟩
  · refine TieS.skip ?_
    refine TieS.seq ?_
    refine TieS.seq ?_
    refine TieS.region ?_
    refine TieO.run 4 rfl ?_
    refine TieO.nil ?_
    refine TieS.block ?_
    refine TieS.loop (fun p => ⟨[(0, .t (tS Pv.encI l)), (18, .t (tI (w64 ((l.length : Int) - 1)))), (19, .t (tI p.1))], []⟩) (fun b e σ' => match b with | .inl t => e = .exit 0 ∧ Sub ⟨[], []⟩ σ' | .inr t => e = .ret ∧ retT tab σ' [.tmp 2] = some (((fun r => .t (tB r)) : Bool → T) t)) (.of rfl rfl) ?_ ?_
    · rintro ⟨i, s⟩
      refine TieS.seq ?_
      refine TieS.region ?_
      refine TieO.run 1 rfl ?_
      refine TieO.nil ?_
      refine TieS.seq ?_
      refine TieS.cond rfl ?_ ?_
      · refine TieS.skip ?_
        refine TieS.seq ?_
        refine TieX.sub (σ' := ⟨[(0, .t (tS Pv.encI l)), (18, .t (tI (w64 ((l.length : Int) - 1)))), (19, .t (tI i))], []⟩) (.of rfl rfl) ?_
        refine TieS.bind (Q₁ := fun f e σ' => match f with | .next t => e = .normal ∧ Sub ⟨[(0, .t (tS Pv.encI l)), (18, .t (tI (w64 ((l.length : Int) - 1)))), (19, .t (tI i))], []⟩ σ' | .brk t => e = .exit 0 ∧ Sub ⟨[], []⟩ σ' | .ret t => e = .ret ∧ retT tab σ' [.tmp 2] = some (((fun r => .t (tB r)) : Bool → T) t)) ?_ ?_
        · refine TieS.block ?_
          refine TieS.seq ?_
          refine TieS.region ?_
          refine TieO.run 2 rfl ?_
          refine TieO.nil ?_
          refine TieS.seq ?_
          refine TieX.pre fun x hx => ?_
          refine TieX.pre fun x2 hx2 => ?_
          refine TieS.draw 10 [.t (tS Pv.encI l), .t (tI i), .el (Pv.encI x), .t (tI x), .t (tS Pv.encI l), .t (tI i), .t (tI (w64 (i + 1))), .el (Pv.encI x2), .t (tI x2), .t (tB (decide (x ≥ x2)))] [(0, .t (tS Pv.encI l)), (3, .t (tI i)), (18, .t (tI (w64 ((l.length : Int) - 1)))), (19, .t (tI i))] [] mixed (.of rfl rfl) rfl rfl rfl rfl (.cons (.quiet rfl rfl rfl) (.cons (.quiet rfl rfl rfl) (.cons (.index hx rfl rfl rfl rfl rfl rfl (fun _ => rfl)) (.cons (.quiet rfl rfl rfl) (.cons (.quiet rfl rfl rfl) (.cons (.quiet rfl rfl rfl) (.cons (.quiet rfl rfl rfl) (.cons (.index hx2 rfl rfl rfl rfl rfl rfl (fun _ => rfl)) (.cons (.quiet rfl rfl rfl) (.cons (.quiet rfl rfl rfl) (.nil))))))))))) ?_
          refine TieO.nil ?_
          refine TieS.cond rfl ?_ ?_
          · refine TieS.seq ?_
            refine TieS.region ?_
            refine TieO.run 1 rfl ?_
            refine TieO.nil ?_
            exact TieS.ret ⟨rfl, rfl⟩
          · refine TieS.skip ?_
            refine TieS.endb ?_
            exact TieS.leaf ⟨rfl, .of rfl rfl⟩
        rintro (t | t | t) e σ' _ hq
        · obtain ⟨rfl, hs⟩ := hq
          refine TieX.sub hs ?_
          refine TieS.region ?_
          refine TieO.run 2 rfl ?_
          refine TieO.nil ?_
          exact TieS.leaf ⟨rfl, .of rfl rfl⟩
        · obtain ⟨rfl, hs⟩ := hq
          exact TieX.exitOut rfl ⟨(fun h => by cases h), rfl, hs⟩
        · obtain ⟨rfl, hs⟩ := hq
          exact TieX.ret ⟨(fun h => by cases h), rfl, hs⟩
      · exact TieS.exitOut rfl ⟨(fun h => by cases h), rfl, .of rfl rfl⟩
    rintro (s2 | r2) e σ' _ hq
    · obtain ⟨rfl, hs⟩ := hq
      refine TieX.exit rfl (TieX.sub hs ?_)
      refine TieS.seq ?_
      refine TieS.region ?_
      refine TieO.run 1 rfl ?_
      refine TieO.nil ?_
      exact TieS.ret ⟨.inl rfl, rfl⟩
    · obtain ⟨rfl, hs⟩ := hq
      exact TieX.ret ⟨.inl rfl, hs⟩
-- magneto/curve.Valid
set_option maxRecDepth 100000 in
theorem tie_curve_Valid (c : SCurve) : TieF Try.prog 77 [A_SCurve c] (curve_Valid c) (fun r => .t (tB r)) := by
  refine TieF.intro htab 21 [.tmp 2] Try.call77 Try.func77 rfl rfl rfl (Nat.le_of_ble_eq_true rfl) fun w0 L => ?_
  refine TieS.seq ?_
  refine TieS.region ?_
  refine TieO.run 2 rfl ?_
  refine TieO.nil ?_
  refine TieS.seq ?_
  refine TieS.region ?_
  refine TieO.run 8 rfl ?_
  refine TieO.bind 4 (fun b2 => ⟨[(1, .ptr 1 0), (14, .t (tB b2))], [(1, .box [.t (tS Pv.encI c.X), .t (tS Pv.encI c.Y)])]⟩) (TieO.split 10 rfl ?_ ?_) fun b2 _ => ?_
  · refine TieO.run 2 rfl ?_
    refine TieO.call _ rfl rfl rfl (tie_curve_axis c.X) (fun _ => rfl) fun v => ?_
    refine TieO.run 1 rfl ?_
    refine TieO.nil ?_
    exact TieS.leaf ⟨rfl, .of rfl rfl⟩
  · refine TieO.run 4 rfl ?_
    refine TieO.nil ?_
    exact TieS.leaf ⟨rfl, .of rfl rfl⟩
  refine TieO.run 1 rfl ?_
  refine TieO.bind 5 (fun b3 => ⟨[(20, .t (tB b3))], []⟩) (TieO.split 15 rfl ?_ ?_) fun b3 _ => ?_
  · refine TieO.run 2 rfl ?_
    refine TieO.call _ rfl rfl rfl (tie_slices_ContainsFunc_sint c.Y 95 [] curve_far tie_curve_far) (fun _ => rfl) fun v2 => ?_
    refine TieO.run 2 rfl ?_
    refine TieO.nil ?_
    exact TieS.leaf ⟨rfl, .of rfl rfl⟩
  · refine TieO.run 5 rfl ?_
    refine TieO.nil ?_
    exact TieS.leaf ⟨rfl, .of rfl rfl⟩
  refine TieO.run 1 rfl ?_
  refine TieO.nil ?_
  exact TieS.ret ⟨.inl rfl, rfl⟩
-- magneto/torque.outside$1
set_option maxRecDepth 100000 in
theorem tie_torque_outside_1 (x : Int) (c : Int) (c2 : Int) : TieF Try.prog 96 [.t (tI x), .el (Pv.encI c), .el (Pv.encI c2)] (torque_outside_1 x c c2) (fun r => .t (tB r)) := by
  refine TieF.intro htab 10 [.tmp 4] Try.call96 Try.func96 rfl rfl rfl (Nat.le_of_ble_eq_true rfl) fun w0 L => ?_
  refine TieS.seq ?_
  refine TieS.region ?_
  refine TieO.run 1 rfl ?_
  refine TieO.nil ?_
  refine TieS.seq ?_
  refine TieS.region ?_
  refine TieO.run 3 rfl ?_
  refine TieO.call _ rfl rfl rfl (tie_torque_within x c c2) (fun _ => rfl) fun v => ?_
  refine TieO.run 2 rfl ?_
  refine TieO.nil ?_
  exact TieS.ret ⟨.inl rfl, rfl⟩
-- magneto/torque.outside
set_option maxRecDepth 100000 in
theorem tie_torque_outside (l : List Int) (low : Int) (high : Int) : TieF Try.prog 78 [.t (tS Pv.encI l), .t (tI low), .t (tI high)] (torque_outside l low high) (fun r => .t (tB r)) := by
  refine TieF.intro htab 10 [.tmp 6] Try.call78 Try.func78 rfl rfl rfl (Nat.le_of_ble_eq_true rfl) fun w0 L => ?_
  refine TieS.seq ?_
  refine TieS.region ?_
  refine TieO.run 3 rfl ?_
  refine TieO.nil ?_
  refine TieS.seq ?_
  refine TieS.region ?_
  refine TieO.run 1 rfl ?_
  refine TieO.frzBox 4 rfl rfl ?_
  refine TieO.frzBox 5 rfl rfl ?_
  refine TieO.run 1 rfl ?_
  refine TieO.sub (σ' := ⟨[(0, .t (tS Pv.encI l)), (1, .t (tI low)), (2, .t (tI high)), (4, .el (Pv.encI low)), (5, .el (Pv.encI high)), (6, .t (tB false)), (7, .t (tS Pv.encI l)), (8, .fz 96 [Pv.encI low, Pv.encI high])], []⟩) (.of rfl rfl) ?_
  refine TieO.call _ rfl rfl rfl (tie_slices_ContainsFunc_sint l 96 [Pv.encI low, Pv.encI high] (fun x0 => torque_outside_1 x0 low high) (fun x0 => tie_torque_outside_1 x0 low high)) (fun _ => rfl) fun v => ?_
  refine TieO.run 1 rfl ?_
  refine TieO.nil ?_
  exact TieS.ret ⟨.inl rfl, rfl⟩
-- slices.IsSortedFunc[[]int,int]
set_option maxRecDepth 100000 in
theorem tie_slices_IsSortedFunc_sint (x : List Int) (n2 : Nat) (cs : List (List Tree)) (cmp : Int → Int → Option Int) (h2 : ∀ x0 x1, TieF Try.prog n2 ([.t (tI x0), .t (tI x1)] ++ cs.map T.el) (cmp x0 x1) (fun r => .t (tI r))) : TieF Try.prog 79 [.t (tS Pv.encI x), .fz n2 cs] (slices_IsSortedFunc_sint x cmp) (fun r => .t (tB r)) := by
  refine TieF.intro htab 25 [.tmp 4] Try.call79 Try.func79 rfl rfl rfl (Nat.le_of_ble_eq_true rfl) fun w0 L => ?_
  refine TieS.seq ?_
  refine TieS.region ?_
  refine TieO.run 1 rfl ?_
  refine TieO.nil ?_
  refine TieS.seq ?_
  refine TieS.seq ?_
  refine TieS.region ?_
  refine TieO.run 4 rfl ?_
  refine TieO.nil ?_
  refine TieS.block ?_
  refine TieS.loop (fun t => ⟨[(0, .t (tS Pv.encI x)), (1, .fz n2 cs), (5, .t (tI t))], []⟩) (fun b e σ' => match b with | .inl t => e = .exit 0 ∧ Sub ⟨[], []⟩ σ' | .inr t => e = .ret ∧ retT tab σ' [.tmp 4] = some (((fun r => .t (tB r)) : Bool → T) t)) (.of rfl rfl) ?_ ?_
  · intro i
    refine TieS.seq ?_
    refine TieS.seq ?_
    refine TieS.region ?_
    refine TieO.run 2 rfl ?_
    refine TieO.nil ?_
    refine TieS.cond rfl ?_ ?_
    · refine TieS.skip ?_
      refine TieS.seq ?_
      refine TieS.block ?_
      refine TieS.seq ?_
      refine TieX.pre fun x2 hx2 => ?_
      refine TieX.pre fun x3 hx3 => ?_
      refine TieX.pre fun v hv => ?_
      refine TieS.draw 12 [.fz n2 cs, .t (tS Pv.encI x), .t (tI i), .el (Pv.encI x2), .t (tI x2), .t (tS Pv.encI x), .t (tI i), .t (tI (w64 (i - 1))), .el (Pv.encI x3), .t (tI x3), .t (tI v), .t (tB (decide (v < 0)))] [(0, .t (tS Pv.encI x)), (1, .fz n2 cs), (5, .t (tI i))] [] mixed (.of rfl rfl) rfl rfl rfl rfl (.cons (.quiet rfl rfl rfl) (.cons (.quiet rfl rfl rfl) (.cons (.quiet rfl rfl rfl) (.cons (.index hx2 rfl rfl rfl rfl rfl rfl (fun _ => rfl)) (.cons (.quiet rfl rfl rfl) (.cons (.quiet rfl rfl rfl) (.cons (.quiet rfl rfl rfl) (.cons (.quiet rfl rfl rfl) (.cons (.index hx3 rfl rfl rfl rfl rfl rfl (fun _ => rfl)) (.cons (.quiet rfl rfl rfl) (.cons (.callV (h2 x2 x3) hv rfl rfl rfl rfl) (.cons (.quiet rfl rfl rfl) (.nil))))))))))))) ?_
      refine TieO.nil ?_
      refine TieS.cond rfl ?_ ?_
      · refine TieS.seq ?_
        refine TieS.region ?_
        refine TieO.run 1 rfl ?_
        refine TieO.nil ?_
        exact TieS.ret ⟨(fun h => by cases h), rfl, rfl⟩
      · refine TieS.skip ?_
        refine TieS.endb ?_
        refine TieS.region ?_
        refine TieO.run 3 rfl ?_
        refine TieO.nil ?_
        exact TieS.leaf ⟨rfl, .of rfl rfl⟩
    · exact TieS.exitOut rfl ⟨(fun h => by cases h), rfl, .of rfl rfl⟩
  rintro (i2 | r2) e σ' _ hq
  · obtain ⟨rfl, hs⟩ := hq
    refine TieX.exit rfl (TieX.sub hs ?_)
    refine TieS.seq ?_
    refine TieS.region ?_
    refine TieO.run 1 rfl ?_
    refine TieO.nil ?_
    exact TieS.ret ⟨.inl rfl, rfl⟩
  · obtain ⟨rfl, hs⟩ := hq
    exact TieX.ret ⟨.inl rfl, hs⟩
-- magneto/torque.Valid$1
set_option maxRecDepth 100000 in
theorem tie_torque_Valid_1 (a : Int) (b2 : Int) : TieF Try.prog 80 [.t (tI a), .t (tI b2)] (torque_Valid_1 a b2) (fun r => .t (tI r)) := by
  refine TieF.intro htab 8 [.tmp 4] Try.call80 Try.func80 rfl rfl rfl (Nat.le_of_ble_eq_true rfl) fun w0 L => ?_
  refine TieS.seq ?_
  refine TieS.region ?_
  refine TieO.run 1 rfl ?_
  refine TieO.nil ?_
  refine TieS.seq ?_
  refine TieS.region ?_
  refine TieO.run 4 rfl ?_
  refine TieO.nil ?_
  exact TieS.ret ⟨.inl rfl, rfl⟩
-- slices.IndexFunc[[][]int,[]int]
set_option maxRecDepth 100000 in
theorem tie_slices_IndexFunc_ssint (s : List (List Int)) (n2 : Nat) (cs : List (List Tree)) (f2 : (List Int) → Option Bool) (h2 : ∀ x0, TieF Try.prog n2 ([.t (tS Pv.encI x0)] ++ cs.map T.el) (f2 x0) (fun r => .t (tB r))) : TieF Try.prog 97 [.t (tS (Pv.encS Pv.encI) s), .fz n2 cs] (slices_IndexFunc_ssint s f2) (fun r => .t (tI r)) := by
  refine TieF.intro htab 19 [.tmp 4] Try.call97 Try.func97 rfl rfl rfl (Nat.le_of_ble_eq_true rfl) fun w0 L => ?_
  refine TieS.seq ?_
  refine TieS.region ?_
  refine TieO.run 1 rfl ?_
  refine TieO.nil ?_
  refine TieS.seq ?_
  refine TieS.seq ?_
  refine TieS.region ?_
  refine TieO.run 3 rfl ?_
  refine TieO.nil ?_
  refine TieS.block ?_
  refine TieS.loop (fun p => ⟨[(0, .t (tS (Pv.encS Pv.encI) s)), (1, .fz n2 cs), (7, .t (tI (s.length : Int))), (8, .t (tI p.1))], []⟩) (fun b e σ' => match b with | .inl t => e = .exit 0 ∧ Sub ⟨[], []⟩ σ' | .inr t => e = .ret ∧ retT tab σ' [.tmp 4] = some (((fun r => .t (tI r)) : Int → T) t)) (.of rfl rfl) ?_ ?_
  · rintro ⟨i, s2⟩
    refine TieS.seq ?_
    refine TieS.region ?_
    refine TieO.run 1 rfl ?_
    refine TieO.nil ?_
    refine TieS.seq ?_
    refine TieS.cond rfl ?_ ?_
    · refine TieS.skip ?_
      refine TieS.seq ?_
      refine TieX.sub (σ' := ⟨[(0, .t (tS (Pv.encS Pv.encI) s)), (1, .fz n2 cs), (7, .t (tI (s.length : Int))), (8, .t (tI i))], []⟩) (.of rfl rfl) ?_
      refine TieS.bind (Q₁ := fun f e σ' => match f with | .next t => e = .normal ∧ Sub ⟨[(0, .t (tS (Pv.encS Pv.encI) s)), (1, .fz n2 cs), (7, .t (tI (s.length : Int))), (8, .t (tI i))], []⟩ σ' | .brk t => e = .exit 0 ∧ Sub ⟨[], []⟩ σ' | .ret t => e = .ret ∧ retT tab σ' [.tmp 4] = some (((fun r => .t (tI r)) : Int → T) t)) ?_ ?_
      · refine TieS.block ?_
        refine TieS.seq ?_
        refine TieS.region ?_
        refine TieO.run 2 rfl ?_
        refine TieO.nil ?_
        refine TieS.seq ?_
        refine TieS.region ?_
        refine TieO.run 3 rfl ?_
        refine TieO.index rfl rfl rfl rfl rfl rfl rfl rfl (fun _ => rfl) fun x hx => ?_
        refine TieO.run 1 rfl ?_
        refine TieO.call _ rfl rfl rfl (h2 x) (fun _ => rfl) fun v => ?_
        refine TieO.nil ?_
        refine TieS.cond rfl ?_ ?_
        · refine TieS.seq ?_
          refine TieS.region ?_
          refine TieO.run 2 rfl ?_
          refine TieO.nil ?_
          exact TieS.ret ⟨rfl, rfl⟩
        · refine TieS.skip ?_
          refine TieS.endb ?_
          exact TieS.leaf ⟨rfl, .of rfl rfl⟩
      rintro (t | t | t) e σ' _ hq
      · obtain ⟨rfl, hs⟩ := hq
        refine TieX.sub hs ?_
        refine TieS.region ?_
        refine TieO.run 2 rfl ?_
        refine TieO.nil ?_
        exact TieS.leaf ⟨rfl, .of rfl rfl⟩
      · obtain ⟨rfl, hs⟩ := hq
        exact TieX.exitOut rfl ⟨(fun h => by cases h), rfl, hs⟩
      · obtain ⟨rfl, hs⟩ := hq
        exact TieX.ret ⟨(fun h => by cases h), rfl, hs⟩
    · exact TieS.exitOut rfl ⟨(fun h => by cases h), rfl, .of rfl rfl⟩
  rintro (s3 | r2) e σ' _ hq
  · obtain ⟨rfl, hs⟩ := hq
    refine TieX.exit rfl (TieX.sub hs ?_)
    refine TieS.seq ?_
    refine TieS.region ?_
    refine TieO.run 1 rfl ?_
    refine TieO.nil ?_
    exact TieS.ret ⟨.inl rfl, rfl⟩
  · obtain ⟨rfl, hs⟩ := hq
    exact TieX.ret ⟨.inl rfl, hs⟩
-- slices.ContainsFunc[[][]int,[]int]
set_option maxRecDepth 100000 in
theorem tie_slices_ContainsFunc_ssint (s : List (List Int)) (n2 : Nat) (cs : List (List Tree)) (f2 : (List Int) → Option Bool) (h2 : ∀ x0, TieF Try.prog n2 ([.t (tS Pv.encI x0)] ++ cs.map T.el) (f2 x0) (fun r => .t (tB r))) : TieF Try.prog 81 [.t (tS (Pv.encS Pv.encI) s), .fz n2 cs] (slices_ContainsFunc_ssint s f2) (fun r => .t (tB r)) := by
  refine TieF.intro htab 9 [.tmp 4] Try.call81 Try.func81 rfl rfl rfl (Nat.le_of_ble_eq_true rfl) fun w0 L => ?_
  refine TieS.seq ?_
  refine TieS.region ?_
  refine TieO.run 1 rfl ?_
  refine TieO.nil ?_
  refine TieS.seq ?_
  refine TieS.region ?_
  refine TieO.run 2 rfl ?_
  refine TieO.call _ rfl rfl rfl (tie_slices_IndexFunc_ssint s n2 cs f2 h2) (fun _ => rfl) fun v => ?_
  refine TieO.run 2 rfl ?_
  refine TieO.nil ?_
  exact TieS.ret ⟨.inl rfl, rfl⟩
-- cmp.isNaN[int]
set_option maxRecDepth 100000 in
theorem tie_cmp_isNaN_int (x : Int) : TieF Try.prog 115 [.t (tI x)] (cmp_isNaN_int x) (fun r => .t (tB r)) := by
  refine TieF.intro htab 6 [.tmp 2] Try.call115 Try.func115 rfl rfl rfl (Nat.le_of_ble_eq_true rfl) fun w0 L => ?_
  refine TieS.seq ?_
  refine TieS.region ?_
  refine TieO.run 1 rfl ?_
  refine TieO.nil ?_
  refine TieS.seq ?_
  refine TieS.region ?_
  refine TieO.run 4 rfl ?_
  refine TieO.nil ?_
  exact TieS.ret ⟨.inl rfl, rfl⟩
-- cmp.Less[int]
set_option maxRecDepth 100000 in
theorem tie_cmp_Less_int (x : Int) (y : Int) : TieF Try.prog 98 [.t (tI x), .t (tI y)] (cmp_Less_int x y) (fun r => .t (tB r)) := by
  refine TieF.intro htab 17 [.tmp 4] Try.call98 Try.func98 rfl rfl rfl (Nat.le_of_ble_eq_true rfl) fun w0 L => ?_
  refine TieS.seq ?_
  refine TieS.region ?_
  refine TieO.run 1 rfl ?_
  refine TieO.nil ?_
  refine TieS.seq ?_
  refine TieS.region ?_
  refine TieO.run 1 rfl ?_
  refine TieO.call _ rfl rfl rfl (tie_cmp_isNaN_int x) (fun _ => rfl) fun v => ?_
  refine TieO.run 1 rfl ?_
  refine TieO.bind 4 (fun b2 => ⟨[(0, .t (tI x)), (1, .t (tI y)), (11, .t (tB b2))], []⟩) (TieO.split 7 rfl ?_ ?_) fun b2 _ => ?_
  · refine TieO.run 1 rfl ?_
    refine TieO.call _ rfl rfl rfl (tie_cmp_isNaN_int y) (fun _ => rfl) fun v2 => ?_
    refine TieO.run 2 rfl ?_
    refine TieO.nil ?_
    exact TieS.leaf ⟨rfl, .of rfl rfl⟩
  · refine TieO.run 4 rfl ?_
    refine TieO.nil ?_
    exact TieS.leaf ⟨rfl, .of rfl rfl⟩
  refine TieO.run 1 rfl ?_
  refine TieO.selOr (v := decide (x < y)) 4 12 (fun b => ⟨[(16, .t (tB b))], []⟩) rfl ?_ ?_ ?_
  · refine TieO.run 4 rfl ?_
    refine TieO.nil ?_
    exact TieS.leaf ⟨rfl, .of rfl rfl⟩
  · refine TieO.run 4 rfl ?_
    refine TieO.nil ?_
    exact TieS.leaf ⟨rfl, .of rfl rfl⟩
  refine TieO.run 1 rfl ?_
  refine TieO.nil ?_
  exact TieS.ret ⟨.inl rfl, rfl⟩
-- slices.IsSorted[[]int,int]
set_option maxRecDepth 100000 in
theorem tie_slices_IsSorted_sint (x : List Int) : TieF Try.prog 83 [.t (tS Pv.encI x)] (slices_IsSorted_sint x) (fun r => .t (tB r)) := by
  refine TieF.intro htab 21 [.tmp 2] Try.call83 Try.func83 rfl rfl rfl (Nat.le_of_ble_eq_true rfl) fun w0 L => ?_
  refine TieS.seq ?_
  refine TieS.region ?_
  refine TieO.run 1 rfl ?_
  refine TieO.nil ?_
  refine TieS.seq ?_
  refine TieS.seq ?_
  refine TieS.region ?_
  refine TieO.run 4 rfl ?_
  refine TieO.nil ?_
  refine TieS.block ?_
  refine TieS.loop (fun t => ⟨[(0, .t (tS Pv.encI x)), (3, .t (tI t))], []⟩) (fun b e σ' => match b with | .inl t => e = .exit 0 ∧ Sub ⟨[], []⟩ σ' | .inr t => e = .ret ∧ retT tab σ' [.tmp 2] = some (((fun r => .t (tB r)) : Bool → T) t)) (.of rfl rfl) ?_ ?_
  · intro i
    refine TieS.seq ?_
    refine TieS.seq ?_
    refine TieS.region ?_
    refine TieO.run 2 rfl ?_
    refine TieO.nil ?_
    refine TieS.cond rfl ?_ ?_
    · refine TieS.skip ?_
      refine TieS.seq ?_
      refine TieS.block ?_
      refine TieS.seq ?_
      refine TieX.pre fun x2 hx2 => ?_
      refine TieX.pre fun x3 hx3 => ?_
      refine TieX.pre fun v hv => ?_
      refine TieS.draw 10 [.t (tS Pv.encI x), .t (tI i), .el (Pv.encI x2), .t (tI x2), .t (tS Pv.encI x), .t (tI i), .t (tI (w64 (i - 1))), .el (Pv.encI x3), .t (tI x3), .t (tB v)] [(0, .t (tS Pv.encI x)), (3, .t (tI i))] [] mixed (.of rfl rfl) rfl rfl rfl rfl (.cons (.quiet rfl rfl rfl) (.cons (.quiet rfl rfl rfl) (.cons (.index hx2 rfl rfl rfl rfl rfl rfl (fun _ => rfl)) (.cons (.quiet rfl rfl rfl) (.cons (.quiet rfl rfl rfl) (.cons (.quiet rfl rfl rfl) (.cons (.quiet rfl rfl rfl) (.cons (.index hx3 rfl rfl rfl rfl rfl rfl (fun _ => rfl)) (.cons (.quiet rfl rfl rfl) (.cons (.callV (tie_cmp_Less_int x2 x3) hv rfl rfl rfl rfl) (.nil))))))))))) ?_
      refine TieO.nil ?_
      refine TieS.cond rfl ?_ ?_
      · refine TieS.seq ?_
        refine TieS.region ?_
        refine TieO.run 1 rfl ?_
        refine TieO.nil ?_
        exact TieS.ret ⟨(fun h => by cases h), rfl, rfl⟩
      · refine TieS.skip ?_
        refine TieS.endb ?_
        refine TieS.region ?_
        refine TieO.run 3 rfl ?_
        refine TieO.nil ?_
        exact TieS.leaf ⟨rfl, .of rfl rfl⟩
    · exact TieS.exitOut rfl ⟨(fun h => by cases h), rfl, .of rfl rfl⟩
  rintro (i2 | r2) e σ' _ hq
  · obtain ⟨rfl, hs⟩ := hq
    refine TieX.exit rfl (TieX.sub hs ?_)
    refine TieS.seq ?_
    refine TieS.region ?_
    refine TieO.run 1 rfl ?_
    refine TieO.nil ?_
    exact TieS.ret ⟨.inl rfl, rfl⟩
  · obtain ⟨rfl, hs⟩ := hq
    exact TieX.ret ⟨.inl rfl, hs⟩
-- magneto/torque.Valid$2
set_option maxRecDepth 100000 in
theorem tie_torque_Valid_2 (row : List Int) : TieF Try.prog 82 [.t (tS Pv.encI row)] (torque_Valid_2 row) (fun r => .t (tB r)) := by
  refine TieF.intro htab 10 [.tmp 2] Try.call82 Try.func82 rfl rfl rfl (Nat.le_of_ble_eq_true rfl) fun w0 L => ?_
  refine TieS.seq ?_
  refine TieS.region ?_
  refine TieO.run 1 rfl ?_
  refine TieO.nil ?_
  refine TieS.seq ?_
  refine TieS.region ?_
  refine TieO.run 1 rfl ?_
  refine TieO.call _ rfl rfl rfl (tie_torque_outside row 0 10000) (fun _ => rfl) fun v => ?_
  refine TieO.run 1 rfl ?_
  refine TieO.bind 4 (fun b2 => ⟨[(9, .t (tB b2))], []⟩) (TieO.split 5 rfl ?_ ?_) fun b2 _ => ?_
  · refine TieO.run 4 rfl ?_
    refine TieO.nil ?_
    exact TieS.leaf ⟨rfl, .of rfl rfl⟩
  · refine TieO.run 1 rfl ?_
    refine TieO.call _ rfl rfl rfl (tie_slices_IsSorted_sint row) (fun _ => rfl) fun v2 => ?_
    refine TieO.run 2 rfl ?_
    refine TieO.nil ?_
    exact TieS.leaf ⟨rfl, .of rfl rfl⟩
  refine TieO.run 1 rfl ?_
  refine TieO.nil ?_
  exact TieS.ret ⟨.inl rfl, rfl⟩
-- magneto/torque.Valid
set_option maxRecDepth 100000 in
theorem tie_torque_Valid (t2 : STables) : TieF Try.prog 67 [A_STables t2] (torque_Valid t2) (fun r => .t (tB r)) := by
  refine TieF.intro htab 29 [.tmp 2] Try.call67 Try.func67 rfl rfl rfl (Nat.le_of_ble_eq_true rfl) fun w0 L => ?_
  refine TieS.seq ?_
  refine TieS.region ?_
  refine TieO.run 2 rfl ?_
  refine TieO.nil ?_
  refine TieS.seq ?_
  refine TieS.seq ?_
  refine TieS.region ?_
  refine TieO.run 2 rfl ?_
  refine TieO.call _ rfl rfl rfl (tie_surface_Valid t2.Torque) (fun _ => rfl) fun v => ?_
  refine TieO.run 2 rfl ?_
  refine TieO.bind 5 (fun b2 => ⟨[(1, .ptr 1 0), (12, .t (tB b2))], [(1, .box [.t (tS Pv.encI t2.Air.X), .t (tS Pv.encI t2.Air.Y), .t (tS (Pv.encS Pv.encI) t2.Air.Z), .t (tS Pv.encI t2.Spark.X), .t (tS Pv.encI t2.Spark.Y), .t (tS (Pv.encS Pv.encI) t2.Spark.Z), .t (tS Pv.encI t2.Torque.X), .t (tS Pv.encI t2.Torque.Y), .t (tS (Pv.encS Pv.encI) t2.Torque.Z), .t (tS Pv.encI t2.Wish.X), .t (tS Pv.encI t2.Wish.Y), .t (tS (Pv.encS Pv.encI) t2.Wish.Z), .t (tS Pv.encI t2.AirTemp.X), .t (tS Pv.encI t2.AirTemp.Y), .t (tS Pv.encI t2.Dwell.X), .t (tS Pv.encI t2.Dwell.Y), .t (tS Pv.encI t2.Dead.X), .t (tS Pv.encI t2.Dead.Y), .t (tS Pv.encI t2.Efficiency.X), .t (tS Pv.encI t2.Efficiency.Y), .t (tI t2.Idle.P), .t (tI t2.Idle.I), .t (tI t2.Idle.Low), .t (tI t2.Idle.High)])]⟩) (TieO.split 7 rfl ?_ ?_) fun b2 _ => ?_
  · refine TieO.run 5 rfl ?_
    refine TieO.nil ?_
    exact TieS.leaf ⟨rfl, .of rfl rfl⟩
  · refine TieO.run 2 rfl ?_
    refine TieO.call _ rfl rfl rfl (tie_curve_Valid t2.Efficiency) (fun _ => rfl) fun v2 => ?_
    refine TieO.run 2 rfl ?_
    refine TieO.nil ?_
    exact TieS.leaf ⟨rfl, .of rfl rfl⟩
  refine TieO.run 1 rfl ?_
  refine TieO.bind 5 (fun b3 => ⟨[(1, .ptr 1 0), (18, .t (tB b3))], [(1, .box [.t (tS Pv.encI t2.Air.X), .t (tS Pv.encI t2.Air.Y), .t (tS (Pv.encS Pv.encI) t2.Air.Z), .t (tS Pv.encI t2.Spark.X), .t (tS Pv.encI t2.Spark.Y), .t (tS (Pv.encS Pv.encI) t2.Spark.Z), .t (tS Pv.encI t2.Torque.X), .t (tS Pv.encI t2.Torque.Y), .t (tS (Pv.encS Pv.encI) t2.Torque.Z), .t (tS Pv.encI t2.Wish.X), .t (tS Pv.encI t2.Wish.Y), .t (tS (Pv.encS Pv.encI) t2.Wish.Z), .t (tS Pv.encI t2.AirTemp.X), .t (tS Pv.encI t2.AirTemp.Y), .t (tS Pv.encI t2.Dwell.X), .t (tS Pv.encI t2.Dwell.Y), .t (tS Pv.encI t2.Dead.X), .t (tS Pv.encI t2.Dead.Y), .t (tS Pv.encI t2.Efficiency.X), .t (tS Pv.encI t2.Efficiency.Y), .t (tI t2.Idle.P), .t (tI t2.Idle.I), .t (tI t2.Idle.Low), .t (tI t2.Idle.High)])]⟩) (TieO.split 13 rfl ?_ ?_) fun b3 _ => ?_
  · refine TieO.run 5 rfl ?_
    refine TieO.nil ?_
    exact TieS.leaf ⟨rfl, .of rfl rfl⟩
  · refine TieO.run 3 rfl ?_
    refine TieO.call _ rfl rfl rfl (tie_torque_outside t2.Efficiency.Y 0 1000) (fun _ => rfl) fun v3 => ?_
    refine TieO.run 1 rfl ?_
    refine TieO.nil ?_
    exact TieS.leaf ⟨rfl, .of rfl rfl⟩
  refine TieO.nil ?_
  refine TieS.cond rfl ?_ ?_
  · refine TieS.seq ?_
    refine TieS.region ?_
    refine TieO.run 1 rfl ?_
    refine TieO.nil ?_
    exact TieS.ret ⟨.inl rfl, rfl⟩
  · refine TieS.skip ?_
    refine TieS.seq ?_
    refine TieS.seq ?_
    refine TieS.region ?_
    refine TieO.run 3 rfl ?_
    refine TieO.call _ rfl rfl rfl (tie_slices_IsSortedFunc_sint t2.Efficiency.Y 80 [] torque_Valid_1 tie_torque_Valid_1) (fun _ => rfl) fun v4 => ?_
    refine TieO.run 1 rfl ?_
    refine TieO.nil ?_
    refine TieS.cond rfl ?_ ?_
    · refine TieS.seq ?_
      refine TieS.region ?_
      refine TieO.run 1 rfl ?_
      refine TieO.nil ?_
      exact TieS.ret ⟨.inl rfl, rfl⟩
    · refine TieS.skip ?_
      refine TieS.seq ?_
      refine TieS.region ?_
      refine TieO.run 3 rfl ?_
      refine TieO.call _ rfl rfl rfl (tie_slices_ContainsFunc_ssint t2.Torque.Z 82 [] torque_Valid_2 tie_torque_Valid_2) (fun _ => rfl) fun v5 => ?_
      refine TieO.run 2 rfl ?_
      refine TieO.nil ?_
      exact TieS.ret ⟨.inl rfl, rfl⟩
-- magneto/torque.Optimal
set_option maxRecDepth 100000 in
theorem tie_torque_Optimal (t2 : STables) (speed : Int) (charge : Int) : TieF Try.prog 50 [A_STables t2, .t (tI speed), .t (tI charge)] (torque_Optimal t2 speed charge) (fun r => .tup [.t (tI r.1), .t (tI r.2)]) := by
  refine TieF.intro htab 26 [.tmp 6, .tmp 7] Try.call50 Try.func50 rfl rfl rfl (Nat.le_of_ble_eq_true rfl) fun w0 L => ?_
  refine TieS.seq ?_
  refine TieS.region ?_
  refine TieO.run 3 rfl ?_
  refine TieO.nil ?_
  refine TieS.seq ?_
  refine TieS.block ?_
  refine TieS.seq ?_
  refine TieS.region ?_
  refine TieO.run 1 rfl ?_
  refine TieO.call _ rfl rfl rfl (tie_torque_Valid t2) (fun _ => rfl) fun v => ?_
  refine TieO.run 2 rfl ?_
  refine TieO.nil ?_
  refine TieS.cond rfl ?_ ?_
  · refine TieS.seq ?_
    refine TieS.region ?_
    refine TieO.run 2 rfl ?_
    refine TieO.nil ?_
    exact TieS.ret ⟨.inl rfl, rfl⟩
  · refine TieS.seq ?_
    refine TieS.region ?_
    refine TieO.run 1 rfl ?_
    refine TieO.call _ rfl rfl rfl (tie_torque_within speed 0 12000) (fun _ => rfl) fun v2 => ?_
    refine TieO.run 2 rfl ?_
    refine TieO.bind 4 (fun b2 => ⟨[(1, .t (tI speed)), (2, .t (tI charge)), (3, .ptr 3 0), (20, .t (tB b2))], [(3, .box [.t (tS Pv.encI t2.Air.X), .t (tS Pv.encI t2.Air.Y), .t (tS (Pv.encS Pv.encI) t2.Air.Z), .t (tS Pv.encI t2.Spark.X), .t (tS Pv.encI t2.Spark.Y), .t (tS (Pv.encS Pv.encI) t2.Spark.Z), .t (tS Pv.encI t2.Torque.X), .t (tS Pv.encI t2.Torque.Y), .t (tS (Pv.encS Pv.encI) t2.Torque.Z), .t (tS Pv.encI t2.Wish.X), .t (tS Pv.encI t2.Wish.Y), .t (tS (Pv.encS Pv.encI) t2.Wish.Z), .t (tS Pv.encI t2.AirTemp.X), .t (tS Pv.encI t2.AirTemp.Y), .t (tS Pv.encI t2.Dwell.X), .t (tS Pv.encI t2.Dwell.Y), .t (tS Pv.encI t2.Dead.X), .t (tS Pv.encI t2.Dead.Y), .t (tS Pv.encI t2.Efficiency.X), .t (tS Pv.encI t2.Efficiency.Y), .t (tI t2.Idle.P), .t (tI t2.Idle.I), .t (tI t2.Idle.Low), .t (tI t2.Idle.High)])]⟩) (TieO.split 16 rfl ?_ ?_) fun b2 _ => ?_
    · refine TieO.run 4 rfl ?_
      refine TieO.nil ?_
      exact TieS.leaf ⟨rfl, .of rfl rfl⟩
    · refine TieO.run 1 rfl ?_
      refine TieO.call _ rfl rfl rfl (tie_torque_within charge 0 1048576) (fun _ => rfl) fun v3 => ?_
      refine TieO.run 2 rfl ?_
      refine TieO.nil ?_
      exact TieS.leaf ⟨rfl, .of rfl rfl⟩
    refine TieO.run 1 rfl ?_
    refine TieO.nil ?_
    refine TieS.cond rfl ?_ ?_
    · refine TieS.seq ?_
      refine TieS.region ?_
      refine TieO.run 2 rfl ?_
      refine TieO.nil ?_
      exact TieS.ret ⟨.inl rfl, rfl⟩
    · refine TieS.skip ?_
      refine TieS.endb ?_
      refine TieS.seq ?_
      refine TieS.region ?_
      refine TieO.run 4 rfl ?_
      refine TieO.call _ rfl rfl rfl (tie_surface_At t2.Torque speed charge) (fun _ => rfl) fun v4 => ?_
      refine TieO.run 2 rfl ?_
      refine TieO.nil ?_
      exact TieS.ret ⟨.inl rfl, rfl⟩
-- magneto/curve.segment$1
set_option maxRecDepth 100000 in
theorem tie_curve_segment_1 (i : Int) (c : SCurve) (c2 : Int) : TieF Try.prog 116 [.t (tI i), .el (enc_SCurve c), .el (Pv.encI c2)] (curve_segment_1 i c c2) (fun r => .t (tB r)) := by
  refine TieF.intro htab 12 [.tmp 4] Try.call116 Try.func116 rfl rfl rfl (Nat.le_of_ble_eq_true rfl) fun w0 L => ?_
  refine TieS.seq ?_
  refine TieS.region ?_
  refine TieO.run 1 rfl ?_
  refine TieO.nil ?_
  refine TieS.seq ?_
  refine TieX.pre fun x hx => ?_
  refine TieS.draw 8 [.el (List.drop 0 (enc_SCurve c)), .t (tS Pv.encI c.X), .t (tI i), .el (Pv.encI x), .t (tI x), .t (tI c2), .t (tB (decide (x > c2))), .t (tB (decide (x > c2)))] [(0, .t (tI i)), (1, .el (enc_SCurve c)), (2, .el (Pv.encI c2))] [] mixed (.of rfl rfl) rfl rfl rfl rfl (.cons (.quiet rfl rfl rfl) (.cons (.quiet rfl rfl rfl) (.cons (.quiet rfl rfl rfl) (.cons (.index hx rfl rfl rfl rfl rfl rfl (fun _ => rfl)) (.cons (.quiet rfl rfl rfl) (.cons (.quiet rfl rfl rfl) (.cons (.quiet rfl rfl rfl) (.cons (.quiet rfl rfl rfl) (.nil))))))))) ?_
  refine TieO.nil ?_
  exact TieS.ret ⟨.inl rfl, rfl⟩
-- magneto/curve.segment
set_option maxRecDepth 100000 in
theorem tie_curve_segment (c : SCurve) (x : Int) : TieF Try.prog 99 [A_SCurve c, .t (tI x)] (curve_segment c x) (fun r => .t (tI r)) := by
  refine TieF.intro htab 11 [.tmp 4] Try.call99 Try.func99 rfl rfl rfl (Nat.le_of_ble_eq_true rfl) fun w0 L => ?_
  refine TieS.seq ?_
  refine TieS.region ?_
  refine TieO.run 3 rfl ?_
  refine TieO.nil ?_
  refine TieS.seq ?_
  refine TieS.region ?_
  refine TieO.run 3 rfl ?_
  refine TieO.frzBox 2 rfl rfl ?_
  refine TieO.frzBox 3 rfl rfl ?_
  refine TieO.run 1 rfl ?_
  refine TieO.sub (σ' := ⟨[(0, .agg [.t (tS Pv.encI c.X), .t (tS Pv.encI c.Y)]), (1, .t (tI x)), (2, .el (enc_SCurve c)), (3, .el (Pv.encI x)), (4, .t (tI 0)), (5, .el (enc_SCurve c)), (6, .t (tS Pv.encI c.X)), (7, .t (tI (c.X.length : Int))), (8, .fz 116 [enc_SCurve c, Pv.encI x])], []⟩) (.of rfl rfl) ?_
  refine TieO.call _ rfl rfl rfl (tie_sort_Search (c.X.length : Int) 116 [enc_SCurve c, Pv.encI x] (fun x0 => curve_segment_1 x0 c x) (fun x0 => tie_curve_segment_1 x0 c x)) (fun _ => rfl) fun v => ?_
  refine TieO.run 2 rfl ?_
  refine TieO.nil ?_
  exact TieS.ret ⟨.inl rfl, rfl⟩
-- magneto/curve.value
set_option maxRecDepth 100000 in
theorem tie_curve_value (c : SCurve) (x : Int) : TieF Try.prog 84 [A_SCurve c, .t (tI x)] (curve_value c x) (fun r => .t (tI r)) := by
  refine TieF.intro htab 78 [.tmp 4] Try.call84 Try.func84 rfl rfl rfl (Nat.le_of_ble_eq_true rfl) fun w0 L => ?_
  refine TieS.seq ?_
  refine TieS.region ?_
  refine TieO.run 2 rfl ?_
  refine TieO.nil ?_
  refine TieS.seq ?_
  refine TieS.region ?_
  refine TieO.run 4 rfl ?_
  refine TieO.nil ?_
  refine TieS.seq ?_
  refine TieS.block ?_
  refine TieS.seq ?_
  refine TieS.region ?_
  refine TieO.run 3 rfl ?_
  refine TieO.index rfl rfl rfl rfl rfl rfl rfl rfl (fun _ => rfl) fun x2 hx2 => ?_
  refine TieO.run 3 rfl ?_
  refine TieO.nil ?_
  refine TieS.cond rfl ?_ ?_
  · refine TieS.seq ?_
    refine TieS.region ?_
    refine TieO.run 2 rfl ?_
    refine TieO.index rfl rfl rfl rfl rfl rfl rfl rfl (fun _ => rfl) fun x3 hx3 => ?_
    refine TieO.run 2 rfl ?_
    refine TieO.nil ?_
    exact TieS.ret ⟨.inl rfl, rfl⟩
  · refine TieS.seq ?_
    refine TieS.region ?_
    refine TieO.run 5 rfl ?_
    refine TieO.index rfl rfl rfl rfl rfl rfl rfl rfl (fun _ => rfl) fun x4 hx4 => ?_
    refine TieO.run 3 rfl ?_
    refine TieO.nil ?_
    refine TieS.cond rfl ?_ ?_
    · refine TieS.seq ?_
      refine TieS.region ?_
      refine TieO.run 4 rfl ?_
      refine TieO.index rfl rfl rfl rfl rfl rfl rfl rfl (fun _ => rfl) fun x5 hx5 => ?_
      refine TieO.run 2 rfl ?_
      refine TieO.nil ?_
      exact TieS.ret ⟨.inl rfl, rfl⟩
    · refine TieS.skip ?_
      refine TieS.endb ?_
      refine TieS.seq ?_
      refine TieS.region ?_
      refine TieO.run 2 rfl ?_
      refine TieO.call _ rfl rfl rfl (tie_curve_segment c x) (fun _ => rfl) fun v => ?_
      refine TieO.run 1 rfl ?_
      refine TieO.nil ?_
      refine TieS.seq ?_
      refine TieX.pre fun x6 hx6 => ?_
      refine TieX.pre fun x7 hx7 => ?_
      refine TieX.pre fun x8 hx8 => ?_
      refine TieX.pre fun x9 hx9 => ?_
      refine TieX.pre fun v2 hv2 => ?_
      refine TieS.draw 40 [.ptr 2 1, .t (tS Pv.encI c.Y), .t (tI v), .el (Pv.encI x6), .t (tI x6), .t (tI x), .ptr 2 0, .t (tS Pv.encI c.X), .t (tI v), .el (Pv.encI x7), .t (tI x7), .t (tI (w64 (x - x7))), .ptr 2 1, .t (tS Pv.encI c.Y), .t (tI v), .t (tI (w64 (v + 1))), .el (Pv.encI x8), .t (tI x8), .ptr 2 1, .t (tS Pv.encI c.Y), .t (tI v), .el (Pv.encI x6), .t (tI x6), .t (tI (w64 (x8 - x6))), .t (tI (w64 ((w64 (x - x7)) * (w64 (x8 - x6))))), .ptr 2 0, .t (tS Pv.encI c.X), .t (tI v), .t (tI (w64 (v + 1))), .el (Pv.encI x9), .t (tI x9), .ptr 2 0, .t (tS Pv.encI c.X), .t (tI v), .el (Pv.encI x7), .t (tI x7), .t (tI (w64 (x9 - x7))), .t (tI v2), .t (tI (w64 (x6 + v2))), .t (tI (w64 (x6 + v2)))] [(1, .t (tI x)), (2, .ptr 2 0), (6, .t (tI v))] [(2, .box [.t (tS Pv.encI c.X), .t (tS Pv.encI c.Y)])] mixed (.of rfl rfl) rfl rfl rfl rfl (.cons (.quiet rfl rfl rfl) (.cons (.quiet rfl rfl rfl) (.cons (.quiet rfl rfl rfl) (.cons (.index hx6 rfl rfl rfl rfl rfl rfl (fun _ => rfl)) (.cons (.quiet rfl rfl rfl) (.cons (.quiet rfl rfl rfl) (.cons (.quiet rfl rfl rfl) (.cons (.quiet rfl rfl rfl) (.cons (.quiet rfl rfl rfl) (.cons (.index hx7 rfl rfl rfl rfl rfl rfl (fun _ => rfl)) (.cons (.quiet rfl rfl rfl) (.cons (.quiet rfl rfl rfl) (.cons (.quiet rfl rfl rfl) (.cons (.quiet rfl rfl rfl) (.cons (.quiet rfl rfl rfl) (.cons (.quiet rfl rfl rfl) (.cons (.index hx8 rfl rfl rfl rfl rfl rfl (fun _ => rfl)) (.cons (.quiet rfl rfl rfl) (.cons (.quiet rfl rfl rfl) (.cons (.quiet rfl rfl rfl) (.cons (.quiet rfl rfl rfl) (.cons (.index hx6 rfl rfl rfl rfl rfl rfl (fun _ => rfl)) (.cons (.quiet rfl rfl rfl) (.cons (.quiet rfl rfl rfl) (.cons (.quiet rfl rfl rfl) (.cons (.quiet rfl rfl rfl) (.cons (.quiet rfl rfl rfl) (.cons (.quiet rfl rfl rfl) (.cons (.quiet rfl rfl rfl) (.cons (.index hx9 rfl rfl rfl rfl rfl rfl (fun _ => rfl)) (.cons (.quiet rfl rfl rfl) (.cons (.quiet rfl rfl rfl) (.cons (.quiet rfl rfl rfl) (.cons (.quiet rfl rfl rfl) (.cons (.index hx7 rfl rfl rfl rfl rfl rfl (fun _ => rfl)) (.cons (.quiet rfl rfl rfl) (.cons (.quiet rfl rfl rfl) (.cons (.callV (tie_arith_Floor (w64 ((w64 (x - x7)) * (w64 (x8 - x6)))) (w64 (x9 - x7))) hv2 rfl rfl rfl rfl) (.cons (.quiet rfl rfl rfl) (.cons (.quiet rfl rfl rfl) (.nil))))))))))))))))))))))))))))))))))))))))) ?_
      refine TieO.nil ?_
      exact TieS.ret ⟨.inl rfl, rfl⟩
-- magneto/curve.At
set_option maxRecDepth 100000 in
theorem tie_curve_At (c : SCurve) (x : Int) : TieF Try.prog 68 [A_SCurve c, .t (tI x)] (curve_At c x) (fun r => .t (tI r)) := by
  refine TieF.intro htab 11 [.tmp 4] Try.call68 Try.func68 rfl rfl rfl (Nat.le_of_ble_eq_true rfl) fun w0 L => ?_
  refine TieS.seq ?_
  refine TieS.region ?_
  refine TieO.run 2 rfl ?_
  refine TieO.nil ?_
  refine TieS.seq ?_
  refine TieS.seq ?_
  refine TieS.region ?_
  refine TieO.run 1 rfl ?_
  refine TieO.call _ rfl rfl rfl (tie_curve_Valid c) (fun _ => rfl) fun v => ?_
  refine TieO.run 1 rfl ?_
  refine TieO.nil ?_
  refine TieS.cond rfl ?_ ?_
  · refine TieS.seq ?_
    refine TieS.region ?_
    refine TieO.run 1 rfl ?_
    refine TieO.nil ?_
    exact TieS.ret ⟨.inl rfl, rfl⟩
  · refine TieS.skip ?_
    refine TieS.seq ?_
    refine TieS.region ?_
    refine TieO.run 2 rfl ?_
    refine TieO.call _ rfl rfl rfl (tie_curve_value c x) (fun _ => rfl) fun v2 => ?_
    refine TieO.run 1 rfl ?_
    refine TieO.nil ?_
    exact TieS.ret ⟨.inl rfl, rfl⟩
-- magneto/torque.torque
set_option maxRecDepth 100000 in
theorem tie_torque_torque (t2 : STables) (optimal : Int) (late : Int) (fired : Int) (cylinders : Int) : TieF Try.prog 52 [A_STables t2, .t (tI optimal), .t (tI late), .t (tI fired), .t (tI cylinders)] (torque_torque t2 optimal late fired cylinders) (fun r => .t (tI r)) := by
  refine TieF.intro htab 22 [.tmp 10] Try.call52 Try.func52 rfl rfl rfl (Nat.le_of_ble_eq_true rfl) fun w0 L => ?_
  refine TieS.seq ?_
  refine TieS.region ?_
  refine TieO.run 2 rfl ?_
  refine TieO.nil ?_
  refine TieS.seq ?_
  refine TieS.region ?_
  refine TieO.run 4 rfl ?_
  refine TieO.call _ rfl rfl rfl (tie_curve_At t2.Efficiency late) (fun _ => rfl) fun v => ?_
  refine TieO.run 5 rfl ?_
  refine TieO.quo rfl rfl rfl rfl rfl rfl fun q => ?_
  refine TieO.run 1 rfl ?_
  refine TieO.nil ?_
  exact TieS.ret ⟨.inl rfl, rfl⟩
-- magneto/torque.Torque
set_option maxRecDepth 100000 in
theorem tie_torque_Torque (t2 : STables) (speed : Int) (charge : Int) (late : Int) (fired : Int) (cylinders : Int) : TieF Try.prog 32 [A_STables t2, .t (tI speed), .t (tI charge), .t (tI late), .t (tI fired), .t (tI cylinders)] (torque_Torque t2 speed charge late fired cylinders) (fun r => .tup [.t (tI r.1), .t (tI r.2)]) := by
  refine TieF.intro htab 48 [.tmp 12, .tmp 13] Try.call32 Try.func32 rfl rfl rfl (Nat.le_of_ble_eq_true rfl) fun w0 L => ?_
  refine TieS.seq ?_
  refine TieS.region ?_
  refine TieO.run 3 rfl ?_
  refine TieO.nil ?_
  refine TieS.seq ?_
  refine TieS.region ?_
  refine TieO.run 3 rfl ?_
  refine TieO.call _ rfl rfl rfl (tie_torque_Optimal t2 speed charge) (fun _ => rfl) fun r2 => ?_
  refine TieO.run 5 rfl ?_
  refine TieO.nil ?_
  refine TieS.seq ?_
  refine TieS.block ?_
  refine TieS.seq ?_
  refine TieS.region ?_
  refine TieO.run 3 rfl ?_
  refine TieO.nil ?_
  refine TieS.cond rfl ?_ ?_
  · refine TieS.seq ?_
    refine TieS.region ?_
    refine TieO.run 3 rfl ?_
    refine TieO.nil ?_
    exact TieS.ret ⟨.inl rfl, rfl⟩
  · refine TieS.seq ?_
    refine TieS.region ?_
    refine TieO.run 1 rfl ?_
    refine TieO.call _ rfl rfl rfl (tie_torque_within late 0 2560) (fun _ => rfl) fun v => ?_
    refine TieO.run 2 rfl ?_
    refine TieO.bind 4 (fun b2 => ⟨[(3, .t (tI late)), (4, .t (tI fired)), (5, .t (tI cylinders)), (6, .ptr 6 0), (14, .t (tI r2.1)), (35, .t (tB b2))], [(6, .box [.t (tS Pv.encI t2.Air.X), .t (tS Pv.encI t2.Air.Y), .t (tS (Pv.encS Pv.encI) t2.Air.Z), .t (tS Pv.encI t2.Spark.X), .t (tS Pv.encI t2.Spark.Y), .t (tS (Pv.encS Pv.encI) t2.Spark.Z), .t (tS Pv.encI t2.Torque.X), .t (tS Pv.encI t2.Torque.Y), .t (tS (Pv.encS Pv.encI) t2.Torque.Z), .t (tS Pv.encI t2.Wish.X), .t (tS Pv.encI t2.Wish.Y), .t (tS (Pv.encS Pv.encI) t2.Wish.Z), .t (tS Pv.encI t2.AirTemp.X), .t (tS Pv.encI t2.AirTemp.Y), .t (tS Pv.encI t2.Dwell.X), .t (tS Pv.encI t2.Dwell.Y), .t (tS Pv.encI t2.Dead.X), .t (tS Pv.encI t2.Dead.Y), .t (tS Pv.encI t2.Efficiency.X), .t (tS Pv.encI t2.Efficiency.Y), .t (tI t2.Idle.P), .t (tI t2.Idle.I), .t (tI t2.Idle.Low), .t (tI t2.Idle.High)])]⟩) (TieO.split 31 rfl ?_ ?_) fun b2 _ => ?_
    · refine TieO.run 4 rfl ?_
      refine TieO.nil ?_
      exact TieS.leaf ⟨rfl, .of rfl rfl⟩
    · refine TieO.run 1 rfl ?_
      refine TieO.call _ rfl rfl rfl (tie_torque_within cylinders 1 8) (fun _ => rfl) fun v2 => ?_
      refine TieO.run 2 rfl ?_
      refine TieO.nil ?_
      exact TieS.leaf ⟨rfl, .of rfl rfl⟩
    refine TieO.run 1 rfl ?_
    refine TieO.bind 5 (fun b3 => ⟨[(3, .t (tI late)), (4, .t (tI fired)), (5, .t (tI cylinders)), (6, .ptr 6 0), (14, .t (tI r2.1)), (41, .t (tB b3))], [(6, .box [.t (tS Pv.encI t2.Air.X), .t (tS Pv.encI t2.Air.Y), .t (tS (Pv.encS Pv.encI) t2.Air.Z), .t (tS Pv.encI t2.Spark.X), .t (tS Pv.encI t2.Spark.Y), .t (tS (Pv.encS Pv.encI) t2.Spark.Z), .t (tS Pv.encI t2.Torque.X), .t (tS Pv.encI t2.Torque.Y), .t (tS (Pv.encS Pv.encI) t2.Torque.Z), .t (tS Pv.encI t2.Wish.X), .t (tS Pv.encI t2.Wish.Y), .t (tS (Pv.encS Pv.encI) t2.Wish.Z), .t (tS Pv.encI t2.AirTemp.X), .t (tS Pv.encI t2.AirTemp.Y), .t (tS Pv.encI t2.Dwell.X), .t (tS Pv.encI t2.Dwell.Y), .t (tS Pv.encI t2.Dead.X), .t (tS Pv.encI t2.Dead.Y), .t (tS Pv.encI t2.Efficiency.X), .t (tS Pv.encI t2.Efficiency.Y), .t (tI t2.Idle.P), .t (tI t2.Idle.I), .t (tI t2.Idle.Low), .t (tI t2.Idle.High)])]⟩) (TieO.split 36 rfl ?_ ?_) fun b3 _ => ?_
    · refine TieO.run 5 rfl ?_
      refine TieO.nil ?_
      exact TieS.leaf ⟨rfl, .of rfl rfl⟩
    · refine TieO.run 2 rfl ?_
      refine TieO.call _ rfl rfl rfl (tie_torque_within fired 0 cylinders) (fun _ => rfl) fun v3 => ?_
      refine TieO.run 2 rfl ?_
      refine TieO.nil ?_
      exact TieS.leaf ⟨rfl, .of rfl rfl⟩
    refine TieO.run 1 rfl ?_
    refine TieO.nil ?_
    refine TieS.cond rfl ?_ ?_
    · refine TieS.seq ?_
      refine TieS.region ?_
      refine TieO.run 2 rfl ?_
      refine TieO.nil ?_
      exact TieS.ret ⟨.inl rfl, rfl⟩
    · refine TieS.skip ?_
      refine TieS.endb ?_
      refine TieS.seq ?_
      refine TieS.region ?_
      refine TieO.run 5 rfl ?_
      refine TieO.call _ rfl rfl rfl (tie_torque_torque t2 r2.1 late fired cylinders) (fun _ => rfl) fun v4 => ?_
      refine TieO.run 2 rfl ?_
      refine TieO.nil ?_
      exact TieS.ret ⟨.inl rfl, rfl⟩
-- magneto/magnetolaw39.MonitorSees
set_option maxRecDepth 100000 in
theorem tie_magnetolaw39_MonitorSees (t2 : STables) (speed : Int) (charge : Int) (late : Int) (l : List SFire) : TieF Try.prog 9 [A_STables t2, .t (tI speed), .t (tI charge), .t (tI late), .t (tS enc_SFire l)] (magnetolaw39_MonitorSees t2 speed charge late l) (fun r => .t (tB r)) := by
  refine TieF.intro htab 70 [.tmp 10] Try.call9 Try.func9 rfl rfl rfl (Nat.le_of_ble_eq_true rfl) fun w0 L => ?_
  refine TieS.seq ?_
  refine TieS.region ?_
  refine TieO.run 2 rfl ?_
  refine TieO.nil ?_
  refine TieS.seq ?_
  refine TieS.seq ?_
  refine TieS.region ?_
  refine TieO.call _ rfl rfl rfl (tie_magnetolaw39_awake) (fun _ => rfl) fun v => ?_
  refine TieO.run 1 rfl ?_
  refine TieO.nil ?_
  refine TieS.cond rfl ?_ ?_
  · refine TieS.seq ?_
    refine TieS.region ?_
    refine TieO.run 1 rfl ?_
    refine TieO.nil ?_
    exact TieS.ret ⟨.inl rfl, rfl⟩
  · refine TieS.skip ?_
    refine TieS.seq ?_
    refine TieS.seq ?_
    refine TieS.region ?_
    refine TieO.run 4 rfl ?_
    refine TieO.selOr (v := decide ((l.length : Int) > 8)) 4 23 (fun b => ⟨[(1, .t (tI speed)), (2, .t (tI charge)), (3, .t (tI late)), (4, .t (tS enc_SFire l)), (5, .ptr 5 0), (27, .t (tB b))], [(5, .box [.t (tS Pv.encI t2.Air.X), .t (tS Pv.encI t2.Air.Y), .t (tS (Pv.encS Pv.encI) t2.Air.Z), .t (tS Pv.encI t2.Spark.X), .t (tS Pv.encI t2.Spark.Y), .t (tS (Pv.encS Pv.encI) t2.Spark.Z), .t (tS Pv.encI t2.Torque.X), .t (tS Pv.encI t2.Torque.Y), .t (tS (Pv.encS Pv.encI) t2.Torque.Z), .t (tS Pv.encI t2.Wish.X), .t (tS Pv.encI t2.Wish.Y), .t (tS (Pv.encS Pv.encI) t2.Wish.Z), .t (tS Pv.encI t2.AirTemp.X), .t (tS Pv.encI t2.AirTemp.Y), .t (tS Pv.encI t2.Dwell.X), .t (tS Pv.encI t2.Dwell.Y), .t (tS Pv.encI t2.Dead.X), .t (tS Pv.encI t2.Dead.Y), .t (tS Pv.encI t2.Efficiency.X), .t (tS Pv.encI t2.Efficiency.Y), .t (tI t2.Idle.P), .t (tI t2.Idle.I), .t (tI t2.Idle.Low), .t (tI t2.Idle.High)])]⟩) rfl ?_ ?_ ?_
    · refine TieO.run 4 rfl ?_
      refine TieO.nil ?_
      exact TieS.leaf ⟨rfl, .of rfl rfl⟩
    · refine TieO.run 4 rfl ?_
      refine TieO.nil ?_
      exact TieS.leaf ⟨rfl, .of rfl rfl⟩
    refine TieO.nil ?_
    refine TieS.cond rfl ?_ ?_
    · refine TieS.seq ?_
      refine TieS.region ?_
      refine TieO.run 1 rfl ?_
      refine TieO.nil ?_
      exact TieS.ret ⟨.inl rfl, rfl⟩
    · refine TieS.skip ?_
      refine TieS.seq ?_
      refine TieS.region ?_
      refine TieO.run 1 rfl ?_
      refine TieO.nil ?_
      refine TieS.seq ?_
      refine TieS.seq ?_
      refine TieS.region ?_
      refine TieO.run 3 rfl ?_
      refine TieO.nil ?_
      refine TieS.block ?_
      refine TieS.loop (fun p => ⟨[(1, .t (tI speed)), (2, .t (tI charge)), (3, .t (tI late)), (4, .t (tS enc_SFire l)), (5, .ptr 5 0), (11, .t (tI p.2)), (28, .t (tS enc_SFire l)), (29, .t (tI (l.length : Int))), (30, .t (tI p.1))], [(5, .box [.t (tS Pv.encI t2.Air.X), .t (tS Pv.encI t2.Air.Y), .t (tS (Pv.encS Pv.encI) t2.Air.Z), .t (tS Pv.encI t2.Spark.X), .t (tS Pv.encI t2.Spark.Y), .t (tS (Pv.encS Pv.encI) t2.Spark.Z), .t (tS Pv.encI t2.Torque.X), .t (tS Pv.encI t2.Torque.Y), .t (tS (Pv.encS Pv.encI) t2.Torque.Z), .t (tS Pv.encI t2.Wish.X), .t (tS Pv.encI t2.Wish.Y), .t (tS (Pv.encS Pv.encI) t2.Wish.Z), .t (tS Pv.encI t2.AirTemp.X), .t (tS Pv.encI t2.AirTemp.Y), .t (tS Pv.encI t2.Dwell.X), .t (tS Pv.encI t2.Dwell.Y), .t (tS Pv.encI t2.Dead.X), .t (tS Pv.encI t2.Dead.Y), .t (tS Pv.encI t2.Efficiency.X), .t (tS Pv.encI t2.Efficiency.Y), .t (tI t2.Idle.P), .t (tI t2.Idle.I), .t (tI t2.Idle.Low), .t (tI t2.Idle.High)])]⟩) (fun b e σ' => match b with | .inl t => e = .exit 0 ∧ Sub ⟨[(1, .t (tI speed)), (2, .t (tI charge)), (3, .t (tI late)), (4, .t (tS enc_SFire l)), (5, .ptr 5 0), (11, .t (tI t))], [(5, .box [.t (tS Pv.encI t2.Air.X), .t (tS Pv.encI t2.Air.Y), .t (tS (Pv.encS Pv.encI) t2.Air.Z), .t (tS Pv.encI t2.Spark.X), .t (tS Pv.encI t2.Spark.Y), .t (tS (Pv.encS Pv.encI) t2.Spark.Z), .t (tS Pv.encI t2.Torque.X), .t (tS Pv.encI t2.Torque.Y), .t (tS (Pv.encS Pv.encI) t2.Torque.Z), .t (tS Pv.encI t2.Wish.X), .t (tS Pv.encI t2.Wish.Y), .t (tS (Pv.encS Pv.encI) t2.Wish.Z), .t (tS Pv.encI t2.AirTemp.X), .t (tS Pv.encI t2.AirTemp.Y), .t (tS Pv.encI t2.Dwell.X), .t (tS Pv.encI t2.Dwell.Y), .t (tS Pv.encI t2.Dead.X), .t (tS Pv.encI t2.Dead.Y), .t (tS Pv.encI t2.Efficiency.X), .t (tS Pv.encI t2.Efficiency.Y), .t (tI t2.Idle.P), .t (tI t2.Idle.I), .t (tI t2.Idle.Low), .t (tI t2.Idle.High)])]⟩ σ' | .inr t => False) (.of rfl rfl) ?_ ?_
      · rintro ⟨i, fired⟩
        refine TieS.seq ?_
        refine TieS.region ?_
        refine TieO.run 1 rfl ?_
        refine TieO.nil ?_
        refine TieS.seq ?_
        refine TieS.cond rfl ?_ ?_
        · refine TieS.skip ?_
          refine TieS.seq ?_
          refine TieX.pre fun x hx => ?_
          refine TieX.sub (σ' := ⟨[(1, .t (tI speed)), (2, .t (tI charge)), (3, .t (tI late)), (4, .t (tS enc_SFire l)), (5, .ptr 5 0), (11, .t (tI fired)), (28, .t (tS enc_SFire l)), (29, .t (tI (l.length : Int))), (30, .t (tI i))], [(5, .box [.t (tS Pv.encI t2.Air.X), .t (tS Pv.encI t2.Air.Y), .t (tS (Pv.encS Pv.encI) t2.Air.Z), .t (tS Pv.encI t2.Spark.X), .t (tS Pv.encI t2.Spark.Y), .t (tS (Pv.encS Pv.encI) t2.Spark.Z), .t (tS Pv.encI t2.Torque.X), .t (tS Pv.encI t2.Torque.Y), .t (tS (Pv.encS Pv.encI) t2.Torque.Z), .t (tS Pv.encI t2.Wish.X), .t (tS Pv.encI t2.Wish.Y), .t (tS (Pv.encS Pv.encI) t2.Wish.Z), .t (tS Pv.encI t2.AirTemp.X), .t (tS Pv.encI t2.AirTemp.Y), .t (tS Pv.encI t2.Dwell.X), .t (tS Pv.encI t2.Dwell.Y), .t (tS Pv.encI t2.Dead.X), .t (tS Pv.encI t2.Dead.Y), .t (tS Pv.encI t2.Efficiency.X), .t (tS Pv.encI t2.Efficiency.Y), .t (tI t2.Idle.P), .t (tI t2.Idle.I), .t (tI t2.Idle.Low), .t (tI t2.Idle.High)])]⟩) (.of rfl rfl) ?_
          refine TieS.bind (Q₁ := fun f e σ' => match f with | .next t => e = .normal ∧ Sub ⟨[(1, .t (tI speed)), (2, .t (tI charge)), (3, .t (tI late)), (4, .t (tS enc_SFire l)), (5, .ptr 5 0), (11, .t (tI t)), (28, .t (tS enc_SFire l)), (29, .t (tI (l.length : Int))), (30, .t (tI i))], [(5, .box [.t (tS Pv.encI t2.Air.X), .t (tS Pv.encI t2.Air.Y), .t (tS (Pv.encS Pv.encI) t2.Air.Z), .t (tS Pv.encI t2.Spark.X), .t (tS Pv.encI t2.Spark.Y), .t (tS (Pv.encS Pv.encI) t2.Spark.Z), .t (tS Pv.encI t2.Torque.X), .t (tS Pv.encI t2.Torque.Y), .t (tS (Pv.encS Pv.encI) t2.Torque.Z), .t (tS Pv.encI t2.Wish.X), .t (tS Pv.encI t2.Wish.Y), .t (tS (Pv.encS Pv.encI) t2.Wish.Z), .t (tS Pv.encI t2.AirTemp.X), .t (tS Pv.encI t2.AirTemp.Y), .t (tS Pv.encI t2.Dwell.X), .t (tS Pv.encI t2.Dwell.Y), .t (tS Pv.encI t2.Dead.X), .t (tS Pv.encI t2.Dead.Y), .t (tS Pv.encI t2.Efficiency.X), .t (tS Pv.encI t2.Efficiency.Y), .t (tI t2.Idle.P), .t (tI t2.Idle.I), .t (tI t2.Idle.Low), .t (tI t2.Idle.High)])]⟩ σ' | .brk t => e = .exit 0 ∧ Sub ⟨[(1, .t (tI speed)), (2, .t (tI charge)), (3, .t (tI late)), (4, .t (tS enc_SFire l)), (5, .ptr 5 0), (11, .t (tI t))], [(5, .box [.t (tS Pv.encI t2.Air.X), .t (tS Pv.encI t2.Air.Y), .t (tS (Pv.encS Pv.encI) t2.Air.Z), .t (tS Pv.encI t2.Spark.X), .t (tS Pv.encI t2.Spark.Y), .t (tS (Pv.encS Pv.encI) t2.Spark.Z), .t (tS Pv.encI t2.Torque.X), .t (tS Pv.encI t2.Torque.Y), .t (tS (Pv.encS Pv.encI) t2.Torque.Z), .t (tS Pv.encI t2.Wish.X), .t (tS Pv.encI t2.Wish.Y), .t (tS (Pv.encS Pv.encI) t2.Wish.Z), .t (tS Pv.encI t2.AirTemp.X), .t (tS Pv.encI t2.AirTemp.Y), .t (tS Pv.encI t2.Dwell.X), .t (tS Pv.encI t2.Dwell.Y), .t (tS Pv.encI t2.Dead.X), .t (tS Pv.encI t2.Dead.Y), .t (tS Pv.encI t2.Efficiency.X), .t (tS Pv.encI t2.Efficiency.Y), .t (tI t2.Idle.P), .t (tI t2.Idle.I), .t (tI t2.Idle.Low), .t (tI t2.Idle.High)])]⟩ σ' | .ret r => False) ?_ ?_
          · refine TieS.block ?_
            refine TieS.seq ?_
            refine TieS.region ?_
            refine TieO.indexH hx rfl rfl rfl rfl rfl rfl rfl rfl (fun _ => rfl) ?_
            refine TieO.run 3 rfl ?_
            refine TieO.nil ?_
            refine TieS.seq ?_
            refine TieS.region ?_
            refine TieO.run 3 rfl ?_
            refine TieO.nil ?_
            refine TieS.cond rfl ?_ ?_
            · refine TieS.region ?_
              refine TieO.run 3 rfl ?_
              refine TieO.nil ?_
              refine TieS.endb ?_
              exact TieS.leaf ⟨rfl, .of rfl rfl⟩
            · refine TieS.skip ?_
              refine TieS.endb ?_
              exact TieS.leaf ⟨rfl, .of rfl rfl⟩
          rintro (t | t | r) e σ' _ hq
          · obtain ⟨rfl, hs⟩ := hq
            refine TieX.sub hs ?_
            refine TieS.region ?_
            refine TieO.run 2 rfl ?_
            refine TieO.nil ?_
            exact TieS.leaf ⟨rfl, .of rfl rfl⟩
          · obtain ⟨rfl, hs⟩ := hq
            exact TieX.exitOut rfl ⟨(fun h => by cases h), rfl, hs⟩
          · exact hq.elim
        · exact TieS.exitOut rfl ⟨(fun h => by cases h), rfl, .of rfl rfl⟩
      rintro (fired2 | r) e σ' _ hq
      · obtain ⟨rfl, hs⟩ := hq
        refine TieX.exit rfl (TieX.sub hs ?_)
        refine TieS.seq ?_
        refine TieS.region ?_
        refine TieO.run 4 rfl ?_
        refine TieO.call _ rfl rfl rfl (tie_monitor_Actual t2 speed charge l) (fun _ => rfl) fun r2 => ?_
        refine TieO.run 5 rfl ?_
        refine TieO.nil ?_
        refine TieS.seq ?_
        refine TieS.region ?_
        refine TieO.run 7 rfl ?_
        refine TieO.call _ rfl rfl rfl (tie_torque_Torque t2 speed charge late fired2 (l.length : Int)) (fun _ => rfl) fun r3 => ?_
        refine TieO.run 5 rfl ?_
        refine TieO.nil ?_
        refine TieS.seq ?_
        refine TieS.region ?_
        refine TieO.run 3 rfl ?_
        refine TieO.selOr (v := (r3.2 != 0)) 3 61 (fun b => ⟨[(14, .t (tI r2.1)), (16, .t (tI r3.1)), (64, .t (tB b))], []⟩) rfl ?_ ?_ ?_
        · refine TieO.run 3 rfl ?_
          refine TieO.nil ?_
          exact TieS.leaf ⟨rfl, .of rfl rfl⟩
        · refine TieO.run 3 rfl ?_
          refine TieO.nil ?_
          exact TieS.leaf ⟨rfl, .of rfl rfl⟩
        refine TieO.run 1 rfl ?_
        refine TieO.selOr (v := decide (r3.1 ≤ r2.1)) 4 65 (fun b => ⟨[(69, .t (tB b))], []⟩) rfl ?_ ?_ ?_
        · refine TieO.run 4 rfl ?_
          refine TieO.nil ?_
          exact TieS.leaf ⟨rfl, .of rfl rfl⟩
        · refine TieO.run 4 rfl ?_
          refine TieO.nil ?_
          exact TieS.leaf ⟨rfl, .of rfl rfl⟩
        refine TieO.run 1 rfl ?_
        refine TieO.nil ?_
        exact TieS.ret ⟨.inl rfl, rfl⟩
      · exact hq.elim
-- magneto/pedal.Wish
set_option maxRecDepth 100000 in
theorem tie_pedal_Wish (t2 : STables) (value : Int) (speed : Int) : TieF Try.prog 33 [A_STables t2, .t (tI value), .t (tI speed)] (pedal_Wish t2 value speed) (fun r => .tup [.t (tI r.1), .t (tI r.2)]) := by
  refine TieF.intro htab 34 [.tmp 6, .tmp 7] Try.call33 Try.func33 rfl rfl rfl (Nat.le_of_ble_eq_true rfl) fun w0 L => ?_
  refine TieS.seq ?_
  refine TieS.region ?_
  refine TieO.run 3 rfl ?_
  refine TieO.nil ?_
  refine TieS.seq ?_
  refine TieS.block ?_
  refine TieS.seq ?_
  refine TieS.region ?_
  refine TieO.run 2 rfl ?_
  refine TieO.call _ rfl rfl rfl (tie_surface_Valid t2.Wish) (fun _ => rfl) fun v => ?_
  refine TieO.run 2 rfl ?_
  refine TieO.nil ?_
  refine TieS.cond rfl ?_ ?_
  · refine TieS.seq ?_
    refine TieS.region ?_
    refine TieO.run 2 rfl ?_
    refine TieO.nil ?_
    exact TieS.ret ⟨.inl rfl, rfl⟩
  · refine TieS.seq ?_
    refine TieS.region ?_
    refine TieO.run 3 rfl ?_
    refine TieO.selOr (v := decide (value > 1000)) 3 16 (fun b => ⟨[(1, .t (tI value)), (2, .t (tI speed)), (3, .ptr 3 0), (19, .t (tB b))], [(3, .box [.t (tS Pv.encI t2.Air.X), .t (tS Pv.encI t2.Air.Y), .t (tS (Pv.encS Pv.encI) t2.Air.Z), .t (tS Pv.encI t2.Spark.X), .t (tS Pv.encI t2.Spark.Y), .t (tS (Pv.encS Pv.encI) t2.Spark.Z), .t (tS Pv.encI t2.Torque.X), .t (tS Pv.encI t2.Torque.Y), .t (tS (Pv.encS Pv.encI) t2.Torque.Z), .t (tS Pv.encI t2.Wish.X), .t (tS Pv.encI t2.Wish.Y), .t (tS (Pv.encS Pv.encI) t2.Wish.Z), .t (tS Pv.encI t2.AirTemp.X), .t (tS Pv.encI t2.AirTemp.Y), .t (tS Pv.encI t2.Dwell.X), .t (tS Pv.encI t2.Dwell.Y), .t (tS Pv.encI t2.Dead.X), .t (tS Pv.encI t2.Dead.Y), .t (tS Pv.encI t2.Efficiency.X), .t (tS Pv.encI t2.Efficiency.Y), .t (tI t2.Idle.P), .t (tI t2.Idle.I), .t (tI t2.Idle.Low), .t (tI t2.Idle.High)])]⟩) rfl ?_ ?_ ?_
    · refine TieO.run 3 rfl ?_
      refine TieO.nil ?_
      exact TieS.leaf ⟨rfl, .of rfl rfl⟩
    · refine TieO.run 3 rfl ?_
      refine TieO.nil ?_
      exact TieS.leaf ⟨rfl, .of rfl rfl⟩
    refine TieO.run 1 rfl ?_
    refine TieO.selOr (v := decide (speed < 0)) 3 20 (fun b => ⟨[(1, .t (tI value)), (2, .t (tI speed)), (3, .ptr 3 0), (23, .t (tB b))], [(3, .box [.t (tS Pv.encI t2.Air.X), .t (tS Pv.encI t2.Air.Y), .t (tS (Pv.encS Pv.encI) t2.Air.Z), .t (tS Pv.encI t2.Spark.X), .t (tS Pv.encI t2.Spark.Y), .t (tS (Pv.encS Pv.encI) t2.Spark.Z), .t (tS Pv.encI t2.Torque.X), .t (tS Pv.encI t2.Torque.Y), .t (tS (Pv.encS Pv.encI) t2.Torque.Z), .t (tS Pv.encI t2.Wish.X), .t (tS Pv.encI t2.Wish.Y), .t (tS (Pv.encS Pv.encI) t2.Wish.Z), .t (tS Pv.encI t2.AirTemp.X), .t (tS Pv.encI t2.AirTemp.Y), .t (tS Pv.encI t2.Dwell.X), .t (tS Pv.encI t2.Dwell.Y), .t (tS Pv.encI t2.Dead.X), .t (tS Pv.encI t2.Dead.Y), .t (tS Pv.encI t2.Efficiency.X), .t (tS Pv.encI t2.Efficiency.Y), .t (tI t2.Idle.P), .t (tI t2.Idle.I), .t (tI t2.Idle.Low), .t (tI t2.Idle.High)])]⟩) rfl ?_ ?_ ?_
    · refine TieO.run 3 rfl ?_
      refine TieO.nil ?_
      exact TieS.leaf ⟨rfl, .of rfl rfl⟩
    · refine TieO.run 3 rfl ?_
      refine TieO.nil ?_
      exact TieS.leaf ⟨rfl, .of rfl rfl⟩
    refine TieO.run 1 rfl ?_
    refine TieO.selOr (v := decide (speed > 12000)) 3 24 (fun b => ⟨[(1, .t (tI value)), (2, .t (tI speed)), (3, .ptr 3 0), (27, .t (tB b))], [(3, .box [.t (tS Pv.encI t2.Air.X), .t (tS Pv.encI t2.Air.Y), .t (tS (Pv.encS Pv.encI) t2.Air.Z), .t (tS Pv.encI t2.Spark.X), .t (tS Pv.encI t2.Spark.Y), .t (tS (Pv.encS Pv.encI) t2.Spark.Z), .t (tS Pv.encI t2.Torque.X), .t (tS Pv.encI t2.Torque.Y), .t (tS (Pv.encS Pv.encI) t2.Torque.Z), .t (tS Pv.encI t2.Wish.X), .t (tS Pv.encI t2.Wish.Y), .t (tS (Pv.encS Pv.encI) t2.Wish.Z), .t (tS Pv.encI t2.AirTemp.X), .t (tS Pv.encI t2.AirTemp.Y), .t (tS Pv.encI t2.Dwell.X), .t (tS Pv.encI t2.Dwell.Y), .t (tS Pv.encI t2.Dead.X), .t (tS Pv.encI t2.Dead.Y), .t (tS Pv.encI t2.Efficiency.X), .t (tS Pv.encI t2.Efficiency.Y), .t (tI t2.Idle.P), .t (tI t2.Idle.I), .t (tI t2.Idle.Low), .t (tI t2.Idle.High)])]⟩) rfl ?_ ?_ ?_
    · refine TieO.run 3 rfl ?_
      refine TieO.nil ?_
      exact TieS.leaf ⟨rfl, .of rfl rfl⟩
    · refine TieO.run 3 rfl ?_
      refine TieO.nil ?_
      exact TieS.leaf ⟨rfl, .of rfl rfl⟩
    refine TieO.run 1 rfl ?_
    refine TieO.nil ?_
    refine TieS.cond rfl ?_ ?_
    · refine TieS.seq ?_
      refine TieS.region ?_
      refine TieO.run 2 rfl ?_
      refine TieO.nil ?_
      exact TieS.ret ⟨.inl rfl, rfl⟩
    · refine TieS.skip ?_
      refine TieS.endb ?_
      refine TieS.seq ?_
      refine TieS.region ?_
      refine TieO.run 4 rfl ?_
      refine TieO.call _ rfl rfl rfl (tie_surface_At t2.Wish speed value) (fun _ => rfl) fun v2 => ?_
      refine TieO.call _ rfl rfl rfl (tie_arith_Clamp v2 (-5000) 10000) (fun _ => rfl) fun v3 => ?_
      refine TieO.run 2 rfl ?_
      refine TieO.nil ?_
      exact TieS.ret ⟨.inl rfl, rfl⟩
-- magneto/arbiter.given$1
set_option maxRecDepth 100000 in
theorem tie_arbiter_given_1 (r2 : SRequest) : TieF Try.prog 70 [A_SRequest r2] (arbiter_given_1 r2) (fun r => .t (tB r)) := by
  refine TieF.intro htab 6 [.tmp 2] Try.call70 Try.func70 rfl rfl rfl (Nat.le_of_ble_eq_true rfl) fun w0 L => ?_
  refine TieS.seq ?_
  refine TieS.region ?_
  refine TieO.run 2 rfl ?_
  refine TieO.nil ?_
  refine TieS.seq ?_
  refine TieS.region ?_
  refine TieO.run 1 rfl ?_
  refine TieO.call _ rfl rfl rfl (tie_arbiter_Valid r2) (fun _ => rfl) fun v => ?_
  refine TieO.run 2 rfl ?_
  refine TieO.nil ?_
  exact TieS.ret ⟨.inl rfl, rfl⟩
-- magneto/arbiter.given
set_option maxRecDepth 100000 in
theorem tie_arbiter_given (l : List SRequest) (low : Int) (high : Int) : TieF Try.prog 55 [.t (tS enc_SRequest l), .t (tI low), .t (tI high)] (arbiter_given l low high) (fun r => .t (tI r)) := by
  refine TieF.intro htab 28 [.tmp 6] Try.call55 Try.func55 rfl rfl rfl (Nat.le_of_ble_eq_true rfl) fun w0 L => ?_
  refine TieS.seq ?_
  refine TieS.region ?_
  refine TieO.run 1 rfl ?_
  refine TieO.nil ?_
  refine TieS.seq ?_
  refine TieS.block ?_
  refine TieS.seq ?_
  refine TieS.region ?_
  refine TieO.run 1 rfl ?_
  refine TieO.call _ rfl rfl rfl (tie_slices_ContainsFunc_sRequest l 70 [] arbiter_given_1 tie_arbiter_given_1) (fun _ => rfl) fun v => ?_
  refine TieO.run 1 rfl ?_
  refine TieO.nil ?_
  refine TieS.cond rfl ?_ ?_
  · refine TieS.seq ?_
    refine TieS.region ?_
    refine TieO.run 1 rfl ?_
    refine TieO.nil ?_
    exact TieS.ret ⟨.inl rfl, rfl⟩
  · refine TieS.seq ?_
    refine TieS.region ?_
    refine TieO.run 4 rfl ?_
    refine TieO.nil ?_
    refine TieS.cond rfl ?_ ?_
    · refine TieS.seq ?_
      refine TieS.region ?_
      refine TieO.run 1 rfl ?_
      refine TieO.nil ?_
      exact TieS.ret ⟨.inl rfl, rfl⟩
    · refine TieS.seq ?_
      refine TieS.region ?_
      refine TieO.run 1 rfl ?_
      refine TieO.call _ rfl rfl rfl (tie_arbiter_torque low) (fun _ => rfl) fun v2 => ?_
      refine TieO.run 2 rfl ?_
      refine TieO.bind 4 (fun b2 => ⟨[(1, .t (tI low)), (2, .t (tI high)), (22, .t (tB b2))], []⟩) (TieO.split 18 rfl ?_ ?_) fun b2 _ => ?_
      · refine TieO.run 4 rfl ?_
        refine TieO.nil ?_
        exact TieS.leaf ⟨rfl, .of rfl rfl⟩
      · refine TieO.run 1 rfl ?_
        refine TieO.call _ rfl rfl rfl (tie_arbiter_torque high) (fun _ => rfl) fun v3 => ?_
        refine TieO.run 2 rfl ?_
        refine TieO.nil ?_
        exact TieS.leaf ⟨rfl, .of rfl rfl⟩
      refine TieO.run 1 rfl ?_
      refine TieO.selOr (v := decide (low > high)) 4 23 (fun b => ⟨[(27, .t (tB b))], []⟩) rfl ?_ ?_ ?_
      · refine TieO.run 4 rfl ?_
        refine TieO.nil ?_
        exact TieS.leaf ⟨rfl, .of rfl rfl⟩
      · refine TieO.run 4 rfl ?_
        refine TieO.nil ?_
        exact TieS.leaf ⟨rfl, .of rfl rfl⟩
      refine TieO.run 1 rfl ?_
      refine TieO.nil ?_
      refine TieS.cond rfl ?_ ?_
      · refine TieS.seq ?_
        refine TieS.region ?_
        refine TieO.run 1 rfl ?_
        refine TieO.nil ?_
        exact TieS.ret ⟨.inl rfl, rfl⟩
      · refine TieS.skip ?_
        refine TieS.endb ?_
        refine TieS.seq ?_
        refine TieS.region ?_
        refine TieO.run 1 rfl ?_
        refine TieO.nil ?_
        exact TieS.ret ⟨.inl rfl, rfl⟩
-- slices.insertionSortCmpFunc[magneto/api.Request]
set_option maxRecDepth 100000 in
theorem tie_slices_insertionSortCmpFunc_Request (data : List SRequest) (a : Int) (b2 : Int) (n2 : Nat) (cs : List (List Tree)) (cmp : SRequest → SRequest → Option Int) (h2 : ∀ x0 x1, TieF Try.prog n2 ([A_SRequest x0, A_SRequest x1] ++ cs.map T.el) (cmp x0 x1) (fun r => .t (tI r))) : TieG Try.prog 103 [.own 1000000, .t (tI a), .t (tI b2), .fz n2 cs] [(1000000, .rows 44 4 data.length (data.map enc_SRequest))] (slices_insertionSortCmpFunc_Request data a b2 cmp) (fun _ => .tup []) (fun r => [(1000000, .rows 44 4 r.length (r.map enc_SRequest))]) := by
  refine TieG.intro htab 53 [] Try.call103 Try.func103 rfl rfl rfl (Nat.le_of_ble_eq_true rfl) fun w0 L => ?_
  refine TieS.seq ?_
  refine TieS.region ?_
  refine TieO.run 3 rfl ?_
  refine TieO.nil ?_
  refine TieS.block ?_
  refine TieS.loop (fun t => ⟨[(0, .own 1000000), (1, .t (tI a)), (2, .t (tI b2)), (3, .fz n2 cs), (8, .t (tI t.1))], [(1000000, .rows 44 4 t.2.length (t.2.map enc_SRequest))]⟩) (fun b e σ' => match b with | .inl t => e = .exit 0 ∧ Sub ⟨[], [(1000000, .rows 44 4 t.2.length (t.2.map enc_SRequest))]⟩ σ' | .inr t => False) (.of rfl rfl) ?_ ?_
  · intro s
    refine TieS.seq ?_
    refine TieS.seq ?_
    refine TieS.region ?_
    refine TieO.run 3 rfl ?_
    refine TieO.nil ?_
    refine TieS.cond rfl ?_ ?_
    · refine TieS.skip ?_
      refine TieS.seq ?_
      refine TieS.block ?_
      refine TieS.seq ?_
      refine TieS.region ?_
      refine TieO.run 2 rfl ?_
      refine TieO.nil ?_
      refine TieS.block ?_
      refine TieS.loop (fun t => ⟨[(0, .own 1000000), (1, .t (tI a)), (2, .t (tI b2)), (3, .fz n2 cs), (8, .t (tI s.1)), (9, .t (tI t.1))], [(1000000, .rows 44 4 t.2.length (t.2.map enc_SRequest))]⟩) (fun b e σ' => match b with | .inl t => e = .exit 2 ∧ Sub ⟨[(0, .own 1000000), (1, .t (tI a)), (2, .t (tI b2)), (3, .fz n2 cs), (8, .t (tI s.1))], [(1000000, .rows 44 4 t.2.length (t.2.map enc_SRequest))]⟩ σ' | .inr t => False) (.of rfl rfl) ?_ ?_
      · intro s2
        refine TieS.seq ?_
        refine TieS.seq ?_
        refine TieS.bind (Q₁ := fun t e σ' => e = .normal ∧ Sub ⟨[(0, .own 1000000), (1, .t (tI a)), (2, .t (tI b2)), (3, .fz n2 cs), (8, .t (tI s.1)), (9, .t (tI s2.1)), (34, .t (tB t))], [(1000000, .rows 44 4 s2.2.length (s2.2.map enc_SRequest))]⟩ σ') ?_ ?_
        · refine TieX.split (fun hg => ?_) (fun hg2 => ?_)
          · refine TieX.pre fun x hx => ?_
            refine TieX.pre fun x2 hx2 => ?_
            refine TieX.pre fun v hv => ?_
            refine TieS.draw 17 [.t (tI s2.1), .t (tI a), .t (tB (decide (s2.1 > a))), .t (tB true), .fz n2 cs, .own 1000000, .t (tI s2.1), .pe 1000000 (Int.toNat s2.1) 4 0, .agg [.t (tI x.Source), .t (tI x.Kind), .t (tI x.Torque), .t (tI x.Priority)], .own 1000000, .t (tI s2.1), .t (tI (w64 (s2.1 - 1))), .pe 1000000 (Int.toNat (w64 (s2.1 - 1))) 4 0, .agg [.t (tI x2.Source), .t (tI x2.Kind), .t (tI x2.Torque), .t (tI x2.Priority)], .t (tI v), .t (tB (decide (v < 0))), .t (tB (decide (v < 0)))] [(0, .own 1000000), (1, .t (tI a)), (2, .t (tI b2)), (3, .fz n2 cs), (8, .t (tI s.1)), (9, .t (tI s2.1))] [(1000000, .rows 44 4 s2.2.length (s2.2.map enc_SRequest))] mixed (.of rfl rfl) rfl rfl rfl rfl (.cons (.quiet rfl rfl rfl) (.cons (.quiet rfl rfl rfl) (.cons (.quiet rfl rfl rfl) (.cons (.cast (congrArg T.B hg) (.quiet rfl rfl rfl)) (.cons (.quiet rfl rfl rfl) (.cons (.quiet rfl rfl rfl) (.cons (.quiet rfl rfl rfl) (.cons (.indexO (sz := 4) hx rfl rfl rfl rfl rfl rfl rfl rfl) (.cons (.loadY hx rfl rfl rfl rfl rfl rfl) (.cons (.quiet rfl rfl rfl) (.cons (.quiet rfl rfl rfl) (.cons (.quiet rfl rfl rfl) (.cons (.indexO (sz := 4) hx2 rfl rfl rfl rfl rfl rfl rfl rfl) (.cons (.loadY hx2 rfl rfl rfl rfl rfl rfl) (.cons (.callV (h2 x x2) hv rfl rfl rfl rfl) (.cons (.quiet rfl rfl rfl) (.cons (.quiet rfl rfl rfl) (.nil)))))))))))))))))) ?_
            refine TieO.nil ?_
            exact TieS.leaf ⟨rfl, .of rfl rfl⟩
          · refine TieS.draw 17 [.t (tI s2.1), .t (tI a), .t (tB (decide (s2.1 > a))), .t (tB false), .t (.v undef), .t (.v undef), .t (.v undef), .t (.v undef), .t (.v undef), .t (.v undef), .t (.v undef), .t (.v undef), .t (.v undef), .t (.v undef), .t (.v undef), .t (.v undef), .t (tB false)] [(0, .own 1000000), (1, .t (tI a)), (2, .t (tI b2)), (3, .fz n2 cs), (8, .t (tI s.1)), (9, .t (tI s2.1))] [(1000000, .rows 44 4 s2.2.length (s2.2.map enc_SRequest))] mixed (.of rfl rfl) rfl rfl rfl rfl (.cons (.quiet rfl rfl rfl) (.cons (.quiet rfl rfl rfl) (.cons (.quiet rfl rfl rfl) (.cons (.cast (congrArg T.B hg2) (.quiet rfl rfl rfl)) (.cons (.skip rfl) (.cons (.skip rfl) (.cons (.skip rfl) (.cons (.skip rfl) (.cons (.skip rfl) (.cons (.skip rfl) (.cons (.skip rfl) (.cons (.skip rfl) (.cons (.skip rfl) (.cons (.skip rfl) (.cons (.skip rfl) (.cons (.skip rfl) (.cons (.quiet rfl rfl rfl) (.nil)))))))))))))))))) ?_
            refine TieO.nil ?_
            exact TieS.leaf ⟨rfl, .of rfl rfl⟩
        rintro v2 e σ' _ ⟨rfl, hs⟩
        refine TieX.sub hs ?_
        refine TieS.cond rfl ?_ ?_
        · refine TieS.skip ?_
          refine TieS.seq ?_
          refine TieS.block ?_
          refine TieS.bind (Q₁ := fun t e σ' => e = .normal ∧ Sub ⟨[(0, .own 1000000), (1, .t (tI a)), (2, .t (tI b2)), (3, .fz n2 cs), (8, .t (tI s.1)), (9, .t (tI s2.1))], [(1000000, .rows 44 4 t.length (t.map enc_SRequest))]⟩ σ') ?_ ?_
          · refine TieX.pre fun x3 hx3 => ?_
            refine TieX.pre fun x4 hx4 => ?_
            refine TieX.pre fun l hl => ?_
            refine TieS.draws 16 [false, false, false, false, false, false, false, false, false, false, false, false, false, false, false, false, false, false] [true, true, true, true, true, true, true, true, true, true, true, true, true, true, true, true, false, false] ⟨[(0, .own 1000000), (1, .t (tI a)), (2, .t (tI b2)), (3, .fz n2 cs), (8, .t (tI s.1)), (9, .t (tI s2.1)), (37, .own 1000000), (38, .t (tI s2.1)), (39, .own 1000000), (40, .t (tI s2.1)), (41, .t (tI (w64 (s2.1 - 1)))), (42, .own 1000000), (43, .t (tI s2.1)), (44, .t (tI (w64 (s2.1 - 1)))), (45, .pe 1000000 (Int.toNat (w64 (s2.1 - 1))) 4 0), (46, .agg [.t (tI x3.Source), .t (tI x3.Kind), .t (tI x3.Torque), .t (tI x3.Priority)]), (47, .own 1000000), (48, .t (tI s2.1)), (49, .pe 1000000 (Int.toNat s2.1) 4 0), (50, .agg [.t (tI x4.Source), .t (tI x4.Kind), .t (tI x4.Torque), .t (tI x4.Priority)]), (51, .pe 1000000 (Int.toNat s2.1) 4 0)], [(1000000, .rows 44 4 l.length (l.map enc_SRequest))]⟩ mixed (fun _ _ _ h => by cases h.1) rfl rfl rfl rfl ?_ ?_
            · refine TieA.have_ (fuel₁ := 2) (l₁ := [true, true, true, true, true, true, true, true, true, true, true, true, true, true, true, true, false, false]) (σ₁ := ⟨[(0, .own 1000000), (1, .t (tI a)), (2, .t (tI b2)), (3, .fz n2 cs), (8, .t (tI s.1)), (9, .t (tI s2.1)), (37, .own 1000000), (38, .t (tI s2.1)), (39, .own 1000000), (40, .t (tI s2.1)), (41, .t (tI (w64 (s2.1 - 1)))), (42, .own 1000000), (43, .t (tI s2.1)), (44, .t (tI (w64 (s2.1 - 1)))), (45, .pe 1000000 (Int.toNat (w64 (s2.1 - 1))) 4 0), (46, .agg [.t (tI x3.Source), .t (tI x3.Kind), .t (tI x3.Torque), .t (tI x3.Priority)]), (47, .own 1000000), (48, .t (tI s2.1)), (49, .pe 1000000 (Int.toNat s2.1) 4 0), (50, .agg [.t (tI x4.Source), .t (tI x4.Kind), .t (tI x4.Torque), .t (tI x4.Priority)]), (51, .pe 1000000 (Int.toNat s2.1) 4 0)], [(1000000, .rows 44 4 l.length (l.map enc_SRequest))]⟩) ?_ fun A_3 => ?_
              · exact TieA.done (.of rfl rfl)
              refine TieA.have_ (fuel₁ := 4) (l₁ := [true, true, true, true, true, true, true, true, true, true, true, true, true, true, false, false, false, false]) (σ₁ := ⟨[(0, .own 1000000), (1, .t (tI a)), (2, .t (tI b2)), (3, .fz n2 cs), (8, .t (tI s.1)), (9, .t (tI s2.1)), (37, .own 1000000), (38, .t (tI s2.1)), (39, .own 1000000), (40, .t (tI s2.1)), (41, .t (tI (w64 (s2.1 - 1)))), (42, .own 1000000), (43, .t (tI s2.1)), (44, .t (tI (w64 (s2.1 - 1)))), (45, .pe 1000000 (Int.toNat (w64 (s2.1 - 1))) 4 0), (46, .agg [.t (tI x3.Source), .t (tI x3.Kind), .t (tI x3.Torque), .t (tI x3.Priority)]), (47, .own 1000000), (48, .t (tI s2.1)), (49, .pe 1000000 (Int.toNat s2.1) 4 0), (50, .agg [.t (tI x4.Source), .t (tI x4.Kind), .t (tI x4.Torque), .t (tI x4.Priority)])], [(1000000, .rows 44 4 s2.2.length (s2.2.map enc_SRequest))]⟩) ?_ fun A_2 => ?_
              · refine TieA.idx 14 [true, true, true, true, true, true, true, true, true, true, true, true, true, true, true, false, false, false] hx4 rfl rfl rfl rfl rfl rfl (by kernel_rfl) (by kernel_rfl) (by kernel_rfl) rfl rfl rfl rfl rfl rfl ?_
                refine TieA.all [15] (by kernel_rfl) rfl ?_
                refine AllA.cons (σ₁ := ⟨[(0, .own 1000000), (1, .t (tI a)), (2, .t (tI b2)), (3, .fz n2 cs), (8, .t (tI s.1)), (9, .t (tI s2.1)), (37, .own 1000000), (38, .t (tI s2.1)), (39, .own 1000000), (40, .t (tI s2.1)), (41, .t (tI (w64 (s2.1 - 1)))), (42, .own 1000000), (43, .t (tI s2.1)), (44, .t (tI (w64 (s2.1 - 1)))), (45, .pe 1000000 (Int.toNat (w64 (s2.1 - 1))) 4 0), (46, .agg [.t (tI x3.Source), .t (tI x3.Kind), .t (tI x3.Torque), .t (tI x3.Priority)]), (47, .own 1000000), (48, .t (tI s2.1)), (49, .pe 1000000 (Int.toNat s2.1) 4 0), (50, .agg [.t (tI x4.Source), .t (tI x4.Kind), .t (tI x4.Torque), .t (tI x4.Priority)]), (51, .pe 1000000 (Int.toNat s2.1) 4 0)], [(1000000, .rows 44 4 l.length (l.map enc_SRequest))]⟩) [true, true, true, true, true, true, true, true, true, true, true, true, true, true, true, true, false, false] rfl rfl ?_ A_3 ?_
                · refine TieO.withH hl (TieO.storeY x3 [tI x3.Source, tI x3.Kind, tI x3.Torque, tI x3.Priority] hx4 rfl rfl rfl rfl rfl rfl rfl rfl rfl rfl rfl rfl (TieO.ifG ?_))
                  exact TieO.nil (TieS.leaf ⟨rfl, .of rfl rfl⟩)
                exact AllA.nil
              refine TieA.have_ (fuel₁ := 5) (l₁ := [true, true, true, true, true, true, true, true, true, true, true, true, true, false, false, false, false, false]) (σ₁ := ⟨[(0, .own 1000000), (1, .t (tI a)), (2, .t (tI b2)), (3, .fz n2 cs), (8, .t (tI s.1)), (9, .t (tI s2.1)), (37, .own 1000000), (38, .t (tI s2.1)), (39, .own 1000000), (40, .t (tI s2.1)), (41, .t (tI (w64 (s2.1 - 1)))), (42, .own 1000000), (43, .t (tI s2.1)), (44, .t (tI (w64 (s2.1 - 1)))), (45, .pe 1000000 (Int.toNat (w64 (s2.1 - 1))) 4 0), (46, .agg [.t (tI x3.Source), .t (tI x3.Kind), .t (tI x3.Torque), .t (tI x3.Priority)]), (47, .own 1000000), (48, .t (tI s2.1)), (49, .pe 1000000 (Int.toNat s2.1) 4 0)], [(1000000, .rows 44 4 s2.2.length (s2.2.map enc_SRequest))]⟩) ?_ fun A_1 => ?_
              · refine TieA.all [13] (by kernel_rfl) rfl ?_
                refine AllA.cons (σ₁ := ⟨[(0, .own 1000000), (1, .t (tI a)), (2, .t (tI b2)), (3, .fz n2 cs), (8, .t (tI s.1)), (9, .t (tI s2.1)), (37, .own 1000000), (38, .t (tI s2.1)), (39, .own 1000000), (40, .t (tI s2.1)), (41, .t (tI (w64 (s2.1 - 1)))), (42, .own 1000000), (43, .t (tI s2.1)), (44, .t (tI (w64 (s2.1 - 1)))), (45, .pe 1000000 (Int.toNat (w64 (s2.1 - 1))) 4 0), (46, .agg [.t (tI x3.Source), .t (tI x3.Kind), .t (tI x3.Torque), .t (tI x3.Priority)]), (47, .own 1000000), (48, .t (tI s2.1)), (49, .pe 1000000 (Int.toNat s2.1) 4 0), (50, .agg [.t (tI x4.Source), .t (tI x4.Kind), .t (tI x4.Torque), .t (tI x4.Priority)])], [(1000000, .rows 44 4 s2.2.length (s2.2.map enc_SRequest))]⟩) [true, true, true, true, true, true, true, true, true, true, true, true, true, true, false, false, false, false] rfl rfl ?_ A_2 ?_
                · refine TieO.loadY hx4 rfl rfl rfl rfl rfl rfl rfl rfl ?_
                  exact TieO.nil (TieS.leaf ⟨rfl, .of rfl rfl⟩)
                exact AllA.nil
              refine TieA.have_ (fuel₁ := 5) (l₁ := [true, true, true, true, true, true, true, true, true, false, true, true, true, true, false, false, false, false]) (σ₁ := ⟨[(0, .own 1000000), (1, .t (tI a)), (2, .t (tI b2)), (3, .fz n2 cs), (8, .t (tI s.1)), (9, .t (tI s2.1)), (37, .own 1000000), (38, .t (tI s2.1)), (39, .own 1000000), (40, .t (tI s2.1)), (41, .t (tI (w64 (s2.1 - 1)))), (42, .own 1000000), (43, .t (tI s2.1)), (44, .t (tI (w64 (s2.1 - 1)))), (45, .pe 1000000 (Int.toNat (w64 (s2.1 - 1))) 4 0), (47, .own 1000000), (48, .t (tI s2.1)), (49, .pe 1000000 (Int.toNat s2.1) 4 0), (50, .agg [.t (tI x4.Source), .t (tI x4.Kind), .t (tI x4.Torque), .t (tI x4.Priority)])], [(1000000, .rows 44 4 s2.2.length (s2.2.map enc_SRequest))]⟩) ?_ fun A_4 => ?_
              · refine TieA.all [9] (by kernel_rfl) rfl ?_
                refine AllA.cons (σ₁ := ⟨[(0, .own 1000000), (1, .t (tI a)), (2, .t (tI b2)), (3, .fz n2 cs), (8, .t (tI s.1)), (9, .t (tI s2.1)), (37, .own 1000000), (38, .t (tI s2.1)), (39, .own 1000000), (40, .t (tI s2.1)), (41, .t (tI (w64 (s2.1 - 1)))), (42, .own 1000000), (43, .t (tI s2.1)), (44, .t (tI (w64 (s2.1 - 1)))), (45, .pe 1000000 (Int.toNat (w64 (s2.1 - 1))) 4 0), (46, .agg [.t (tI x3.Source), .t (tI x3.Kind), .t (tI x3.Torque), .t (tI x3.Priority)]), (47, .own 1000000), (48, .t (tI s2.1)), (49, .pe 1000000 (Int.toNat s2.1) 4 0), (50, .agg [.t (tI x4.Source), .t (tI x4.Kind), .t (tI x4.Torque), .t (tI x4.Priority)])], [(1000000, .rows 44 4 s2.2.length (s2.2.map enc_SRequest))]⟩) [true, true, true, true, true, true, true, true, true, true, true, true, true, true, false, false, false, false] rfl rfl ?_ A_2 ?_
                · refine TieO.loadY hx3 rfl rfl rfl rfl rfl rfl rfl rfl ?_
                  exact TieO.nil (TieS.leaf ⟨rfl, .of rfl rfl⟩)
                exact AllA.nil
              refine TieA.move 0 [true, false, false, false, false, false, false, false, false, false, false, false, false, false, false, false, false, false] rfl rfl (by first | exact .inl rfl | exact .inr rfl) rfl rfl rfl (by kernel_rfl) (by kernel_rfl) (by kernel_rfl) rfl ?_
              refine TieA.move 1 [true, true, false, false, false, false, false, false, false, false, false, false, false, false, false, false, false, false] rfl rfl (by first | exact .inl rfl | exact .inr rfl) rfl rfl rfl (by kernel_rfl) (by kernel_rfl) (by kernel_rfl) rfl ?_
              refine TieA.move 2 [true, true, true, false, false, false, false, false, false, false, false, false, false, false, false, false, false, false] rfl rfl (by first | exact .inl rfl | exact .inr rfl) rfl rfl rfl (by kernel_rfl) (by kernel_rfl) (by kernel_rfl) rfl ?_
              refine TieA.move 3 [true, true, true, true, false, false, false, false, false, false, false, false, false, false, false, false, false, false] rfl rfl (by first | exact .inl rfl | exact .inr rfl) rfl rfl rfl (by kernel_rfl) (by kernel_rfl) (by kernel_rfl) rfl ?_
              refine TieA.bin (V := .t (tI (w64 (s2.1 - 1)))) 4 [true, true, true, true, true, false, false, false, false, false, false, false, false, false, false, false, false, false] rfl rfl rfl rfl rfl rfl (by kernel_rfl) (by kernel_rfl) (by kernel_rfl) rfl rfl rfl rfl ?_
              refine TieA.move 5 [true, true, true, true, true, true, false, false, false, false, false, false, false, false, false, false, false, false] rfl rfl (by first | exact .inl rfl | exact .inr rfl) rfl rfl rfl (by kernel_rfl) (by kernel_rfl) (by kernel_rfl) rfl ?_
              refine TieA.move 6 [true, true, true, true, true, true, true, false, false, false, false, false, false, false, false, false, false, false] rfl rfl (by first | exact .inl rfl | exact .inr rfl) rfl rfl rfl (by kernel_rfl) (by kernel_rfl) (by kernel_rfl) rfl ?_
              refine TieA.bin (V := .t (tI (w64 (s2.1 - 1)))) 7 [true, true, true, true, true, true, true, true, false, false, false, false, false, false, false, false, false, false] rfl rfl rfl rfl rfl rfl (by kernel_rfl) (by kernel_rfl) (by kernel_rfl) rfl rfl rfl rfl ?_
              refine TieA.idx 8 [true, true, true, true, true, true, true, true, true, false, false, false, false, false, false, false, false, false] hx3 rfl rfl rfl rfl rfl rfl (by kernel_rfl) (by kernel_rfl) (by kernel_rfl) rfl rfl rfl rfl rfl rfl ?_
              refine TieA.move 10 [true, true, true, true, true, true, true, true, true, false, true, false, false, false, false, false, false, false] rfl rfl (by first | exact .inl rfl | exact .inr rfl) rfl rfl rfl (by kernel_rfl) (by kernel_rfl) (by kernel_rfl) rfl ?_
              refine TieA.move 11 [true, true, true, true, true, true, true, true, true, false, true, true, false, false, false, false, false, false] rfl rfl (by first | exact .inl rfl | exact .inr rfl) rfl rfl rfl (by kernel_rfl) (by kernel_rfl) (by kernel_rfl) rfl ?_
              refine TieA.idx 12 [true, true, true, true, true, true, true, true, true, false, true, true, true, false, false, false, false, false] hx4 rfl rfl rfl rfl rfl rfl (by kernel_rfl) (by kernel_rfl) (by kernel_rfl) rfl rfl rfl rfl rfl rfl ?_
              refine TieA.all [9, 13] (by kernel_rfl) rfl ?_
              refine AllA.cons (σ₁ := ⟨[(0, .own 1000000), (1, .t (tI a)), (2, .t (tI b2)), (3, .fz n2 cs), (8, .t (tI s.1)), (9, .t (tI s2.1)), (37, .own 1000000), (38, .t (tI s2.1)), (39, .own 1000000), (40, .t (tI s2.1)), (41, .t (tI (w64 (s2.1 - 1)))), (42, .own 1000000), (43, .t (tI s2.1)), (44, .t (tI (w64 (s2.1 - 1)))), (45, .pe 1000000 (Int.toNat (w64 (s2.1 - 1))) 4 0), (46, .agg [.t (tI x3.Source), .t (tI x3.Kind), .t (tI x3.Torque), .t (tI x3.Priority)]), (47, .own 1000000), (48, .t (tI s2.1)), (49, .pe 1000000 (Int.toNat s2.1) 4 0)], [(1000000, .rows 44 4 s2.2.length (s2.2.map enc_SRequest))]⟩) [true, true, true, true, true, true, true, true, true, true, true, true, true, false, false, false, false, false] rfl rfl ?_ A_1 ?_
              · refine TieO.loadY hx3 rfl rfl rfl rfl rfl rfl rfl rfl ?_
                exact TieO.nil (TieS.leaf ⟨rfl, .of rfl rfl⟩)
              refine AllA.cons (σ₁ := ⟨[(0, .own 1000000), (1, .t (tI a)), (2, .t (tI b2)), (3, .fz n2 cs), (8, .t (tI s.1)), (9, .t (tI s2.1)), (37, .own 1000000), (38, .t (tI s2.1)), (39, .own 1000000), (40, .t (tI s2.1)), (41, .t (tI (w64 (s2.1 - 1)))), (42, .own 1000000), (43, .t (tI s2.1)), (44, .t (tI (w64 (s2.1 - 1)))), (45, .pe 1000000 (Int.toNat (w64 (s2.1 - 1))) 4 0), (47, .own 1000000), (48, .t (tI s2.1)), (49, .pe 1000000 (Int.toNat s2.1) 4 0), (50, .agg [.t (tI x4.Source), .t (tI x4.Kind), .t (tI x4.Torque), .t (tI x4.Priority)])], [(1000000, .rows 44 4 s2.2.length (s2.2.map enc_SRequest))]⟩) [true, true, true, true, true, true, true, true, true, false, true, true, true, true, false, false, false, false] rfl rfl ?_ A_4 ?_
              · refine TieO.loadY hx4 rfl rfl rfl rfl rfl rfl rfl rfl ?_
                exact TieO.nil (TieS.leaf ⟨rfl, .of rfl rfl⟩)
              exact AllA.nil
            refine TieO.indexO rfl rfl rfl rfl rfl rfl rfl rfl rfl rfl fun x5 hx5 => ?_
            refine TieO.storeY x4 [tI x4.Source, tI x4.Kind, tI x4.Torque, tI x4.Priority] hx5 rfl rfl rfl rfl rfl rfl rfl rfl rfl rfl rfl rfl fun l2 hl2 => ?_
            refine TieO.nil ?_
            exact TieS.leaf ⟨rfl, .of rfl rfl⟩
          rintro f2 e σ' _ ⟨rfl, hs⟩
          refine TieX.sub hs ?_
          refine TieS.endb ?_
          refine TieS.region ?_
          refine TieO.run 3 rfl ?_
          refine TieO.nil ?_
          exact TieS.leaf ⟨rfl, .of rfl rfl⟩
        · exact TieS.exitOut rfl ⟨(fun h => by cases h), rfl, .of rfl rfl⟩
      rintro (s3 | r) e σ' _ hq
      · obtain ⟨rfl, hs⟩ := hq
        refine TieX.exit rfl (TieX.sub hs ?_)
        refine TieS.endb ?_
        refine TieS.region ?_
        refine TieO.run 3 rfl ?_
        refine TieO.nil ?_
        exact TieS.leaf ⟨rfl, .of rfl rfl⟩
      · exact hq.elim
    · exact TieS.exitOut rfl ⟨(fun h => by cases h), rfl, .of rfl rfl⟩
  rintro (s4 | r) e σ' _ hq
  · obtain ⟨rfl, hs⟩ := hq
    refine TieX.exit rfl (TieX.sub hs ?_)
    exact TieS.leaf ⟨.inr rfl, ⟨[(1000000, 1000000)], _, _, rfl, rfl, rfl, rfl, rfl⟩⟩
  · exact hq.elim
-- slices.swapRangeCmpFunc[magneto/api.Request]
set_option maxRecDepth 100000 in
theorem tie_slices_swapRangeCmpFunc_Request (data : List SRequest) (a : Int) (b2 : Int) (n2 : Int) (n3 : Nat) (cs : List (List Tree)) (cmp : SRequest → SRequest → Option Int) (h2 : ∀ x0 x1, TieF Try.prog n3 ([A_SRequest x0, A_SRequest x1] ++ cs.map T.el) (cmp x0 x1) (fun r => .t (tI r))) : TieG Try.prog 125 [.own 1000000, .t (tI a), .t (tI b2), .t (tI n2), .fz n3 cs] [(1000000, .rows 44 4 data.length (data.map enc_SRequest))] (slices_swapRangeCmpFunc_Request data a b2 n2 cmp) (fun _ => .tup []) (fun r => [(1000000, .rows 44 4 r.length (r.map enc_SRequest))]) := by
  refine TieG.intro htab 38 [] Try.call125 Try.func125 rfl rfl rfl (Nat.le_of_ble_eq_true rfl) fun w0 L => ?_
  refine TieS.seq ?_
  refine TieS.region ?_
  refine TieO.run 1 rfl ?_
  refine TieO.nil ?_
  refine TieS.block ?_
  refine TieS.loop (fun t => ⟨[(0, .own 1000000), (1, .t (tI a)), (2, .t (tI b2)), (3, .t (tI n2)), (10, .t (tI t.1))], [(1000000, .rows 44 4 t.2.length (t.2.map enc_SRequest))]⟩) (fun b e σ' => match b with | .inl t => e = .exit 0 ∧ Sub ⟨[], [(1000000, .rows 44 4 t.2.length (t.2.map enc_SRequest))]⟩ σ' | .inr t => False) (.of rfl rfl) ?_ ?_
  · intro s
    refine TieS.seq ?_
    refine TieS.seq ?_
    refine TieS.region ?_
    refine TieO.run 3 rfl ?_
    refine TieO.nil ?_
    refine TieS.cond rfl ?_ ?_
    · refine TieS.skip ?_
      refine TieS.seq ?_
      refine TieS.block ?_
      refine TieS.bind (Q₁ := fun t e σ' => e = .normal ∧ Sub ⟨[(0, .own 1000000), (1, .t (tI a)), (2, .t (tI b2)), (3, .t (tI n2)), (10, .t (tI s.1))], [(1000000, .rows 44 4 t.length (t.map enc_SRequest))]⟩ σ') ?_ ?_
      · refine TieX.pre fun x hx => ?_
        refine TieX.pre fun x2 hx2 => ?_
        refine TieX.pre fun l hl => ?_
        refine TieS.draws 22 [false, false, false, false, false, false, false, false, false, false, false, false, false, false, false, false, false, false, false, false, false, false, false, false] [true, true, true, true, true, true, true, true, true, true, true, true, true, true, true, true, true, true, true, true, true, true, false, false] ⟨[(0, .own 1000000), (1, .t (tI a)), (2, .t (tI b2)), (3, .t (tI n2)), (10, .t (tI s.1)), (16, .own 1000000), (17, .t (tI a)), (18, .t (tI s.1)), (19, .t (tI (w64 (a + s.1)))), (20, .own 1000000), (21, .t (tI b2)), (22, .t (tI s.1)), (23, .t (tI (w64 (b2 + s.1)))), (24, .own 1000000), (25, .t (tI b2)), (26, .t (tI s.1)), (27, .t (tI (w64 (b2 + s.1)))), (28, .pe 1000000 (Int.toNat (w64 (b2 + s.1))) 4 0), (29, .agg [.t (tI x.Source), .t (tI x.Kind), .t (tI x.Torque), .t (tI x.Priority)]), (30, .own 1000000), (31, .t (tI a)), (32, .t (tI s.1)), (33, .t (tI (w64 (a + s.1)))), (34, .pe 1000000 (Int.toNat (w64 (a + s.1))) 4 0), (35, .agg [.t (tI x2.Source), .t (tI x2.Kind), .t (tI x2.Torque), .t (tI x2.Priority)]), (36, .pe 1000000 (Int.toNat (w64 (a + s.1))) 4 0)], [(1000000, .rows 44 4 l.length (l.map enc_SRequest))]⟩ mixed (fun _ _ _ h => by cases h.1) rfl rfl rfl rfl ?_ ?_
        · refine TieA.have_ (fuel₁ := 2) (l₁ := [true, true, true, true, true, true, true, true, true, true, true, true, true, true, true, true, true, true, true, true, true, true, false, false]) (σ₁ := ⟨[(0, .own 1000000), (1, .t (tI a)), (2, .t (tI b2)), (3, .t (tI n2)), (10, .t (tI s.1)), (16, .own 1000000), (17, .t (tI a)), (18, .t (tI s.1)), (19, .t (tI (w64 (a + s.1)))), (20, .own 1000000), (21, .t (tI b2)), (22, .t (tI s.1)), (23, .t (tI (w64 (b2 + s.1)))), (24, .own 1000000), (25, .t (tI b2)), (26, .t (tI s.1)), (27, .t (tI (w64 (b2 + s.1)))), (28, .pe 1000000 (Int.toNat (w64 (b2 + s.1))) 4 0), (29, .agg [.t (tI x.Source), .t (tI x.Kind), .t (tI x.Torque), .t (tI x.Priority)]), (30, .own 1000000), (31, .t (tI a)), (32, .t (tI s.1)), (33, .t (tI (w64 (a + s.1)))), (34, .pe 1000000 (Int.toNat (w64 (a + s.1))) 4 0), (35, .agg [.t (tI x2.Source), .t (tI x2.Kind), .t (tI x2.Torque), .t (tI x2.Priority)]), (36, .pe 1000000 (Int.toNat (w64 (a + s.1))) 4 0)], [(1000000, .rows 44 4 l.length (l.map enc_SRequest))]⟩) ?_ fun A_3 => ?_
          · exact TieA.done (.of rfl rfl)
          refine TieA.have_ (fuel₁ := 4) (l₁ := [true, true, true, true, true, true, true, true, true, true, true, true, true, true, true, true, true, true, true, true, false, false, false, false]) (σ₁ := ⟨[(0, .own 1000000), (1, .t (tI a)), (2, .t (tI b2)), (3, .t (tI n2)), (10, .t (tI s.1)), (16, .own 1000000), (17, .t (tI a)), (18, .t (tI s.1)), (19, .t (tI (w64 (a + s.1)))), (20, .own 1000000), (21, .t (tI b2)), (22, .t (tI s.1)), (23, .t (tI (w64 (b2 + s.1)))), (24, .own 1000000), (25, .t (tI b2)), (26, .t (tI s.1)), (27, .t (tI (w64 (b2 + s.1)))), (28, .pe 1000000 (Int.toNat (w64 (b2 + s.1))) 4 0), (29, .agg [.t (tI x.Source), .t (tI x.Kind), .t (tI x.Torque), .t (tI x.Priority)]), (30, .own 1000000), (31, .t (tI a)), (32, .t (tI s.1)), (33, .t (tI (w64 (a + s.1)))), (34, .pe 1000000 (Int.toNat (w64 (a + s.1))) 4 0), (35, .agg [.t (tI x2.Source), .t (tI x2.Kind), .t (tI x2.Torque), .t (tI x2.Priority)])], [(1000000, .rows 44 4 s.2.length (s.2.map enc_SRequest))]⟩) ?_ fun A_2 => ?_
          · refine TieA.idx 20 [true, true, true, true, true, true, true, true, true, true, true, true, true, true, true, true, true, true, true, true, true, false, false, false] hx2 rfl rfl rfl rfl rfl rfl (by kernel_rfl) (by kernel_rfl) (by kernel_rfl) rfl rfl rfl rfl rfl rfl ?_
            refine TieA.all [21] (by kernel_rfl) rfl ?_
            refine AllA.cons (σ₁ := ⟨[(0, .own 1000000), (1, .t (tI a)), (2, .t (tI b2)), (3, .t (tI n2)), (10, .t (tI s.1)), (16, .own 1000000), (17, .t (tI a)), (18, .t (tI s.1)), (19, .t (tI (w64 (a + s.1)))), (20, .own 1000000), (21, .t (tI b2)), (22, .t (tI s.1)), (23, .t (tI (w64 (b2 + s.1)))), (24, .own 1000000), (25, .t (tI b2)), (26, .t (tI s.1)), (27, .t (tI (w64 (b2 + s.1)))), (28, .pe 1000000 (Int.toNat (w64 (b2 + s.1))) 4 0), (29, .agg [.t (tI x.Source), .t (tI x.Kind), .t (tI x.Torque), .t (tI x.Priority)]), (30, .own 1000000), (31, .t (tI a)), (32, .t (tI s.1)), (33, .t (tI (w64 (a + s.1)))), (34, .pe 1000000 (Int.toNat (w64 (a + s.1))) 4 0), (35, .agg [.t (tI x2.Source), .t (tI x2.Kind), .t (tI x2.Torque), .t (tI x2.Priority)]), (36, .pe 1000000 (Int.toNat (w64 (a + s.1))) 4 0)], [(1000000, .rows 44 4 l.length (l.map enc_SRequest))]⟩) [true, true, true, true, true, true, true, true, true, true, true, true, true, true, true, true, true, true, true, true, true, true, false, false] rfl rfl ?_ A_3 ?_
            · refine TieO.withH hl (TieO.storeY x [tI x.Source, tI x.Kind, tI x.Torque, tI x.Priority] hx2 rfl rfl rfl rfl rfl rfl rfl rfl rfl rfl rfl rfl (TieO.ifG ?_))
              exact TieO.nil (TieS.leaf ⟨rfl, .of rfl rfl⟩)
            exact AllA.nil
          refine TieA.have_ (fuel₁ := 5) (l₁ := [true, true, true, true, true, true, true, true, true, true, true, true, true, true, true, true, true, true, true, false, false, false, false, false]) (σ₁ := ⟨[(0, .own 1000000), (1, .t (tI a)), (2, .t (tI b2)), (3, .t (tI n2)), (10, .t (tI s.1)), (16, .own 1000000), (17, .t (tI a)), (18, .t (tI s.1)), (19, .t (tI (w64 (a + s.1)))), (20, .own 1000000), (21, .t (tI b2)), (22, .t (tI s.1)), (23, .t (tI (w64 (b2 + s.1)))), (24, .own 1000000), (25, .t (tI b2)), (26, .t (tI s.1)), (27, .t (tI (w64 (b2 + s.1)))), (28, .pe 1000000 (Int.toNat (w64 (b2 + s.1))) 4 0), (29, .agg [.t (tI x.Source), .t (tI x.Kind), .t (tI x.Torque), .t (tI x.Priority)]), (30, .own 1000000), (31, .t (tI a)), (32, .t (tI s.1)), (33, .t (tI (w64 (a + s.1)))), (34, .pe 1000000 (Int.toNat (w64 (a + s.1))) 4 0)], [(1000000, .rows 44 4 s.2.length (s.2.map enc_SRequest))]⟩) ?_ fun A_1 => ?_
          · refine TieA.all [19] (by kernel_rfl) rfl ?_
            refine AllA.cons (σ₁ := ⟨[(0, .own 1000000), (1, .t (tI a)), (2, .t (tI b2)), (3, .t (tI n2)), (10, .t (tI s.1)), (16, .own 1000000), (17, .t (tI a)), (18, .t (tI s.1)), (19, .t (tI (w64 (a + s.1)))), (20, .own 1000000), (21, .t (tI b2)), (22, .t (tI s.1)), (23, .t (tI (w64 (b2 + s.1)))), (24, .own 1000000), (25, .t (tI b2)), (26, .t (tI s.1)), (27, .t (tI (w64 (b2 + s.1)))), (28, .pe 1000000 (Int.toNat (w64 (b2 + s.1))) 4 0), (29, .agg [.t (tI x.Source), .t (tI x.Kind), .t (tI x.Torque), .t (tI x.Priority)]), (30, .own 1000000), (31, .t (tI a)), (32, .t (tI s.1)), (33, .t (tI (w64 (a + s.1)))), (34, .pe 1000000 (Int.toNat (w64 (a + s.1))) 4 0), (35, .agg [.t (tI x2.Source), .t (tI x2.Kind), .t (tI x2.Torque), .t (tI x2.Priority)])], [(1000000, .rows 44 4 s.2.length (s.2.map enc_SRequest))]⟩) [true, true, true, true, true, true, true, true, true, true, true, true, true, true, true, true, true, true, true, true, false, false, false, false] rfl rfl ?_ A_2 ?_
            · refine TieO.loadY hx2 rfl rfl rfl rfl rfl rfl rfl rfl ?_
              exact TieO.nil (TieS.leaf ⟨rfl, .of rfl rfl⟩)
            exact AllA.nil
          refine TieA.have_ (fuel₁ := 5) (l₁ := [true, true, true, true, true, true, true, true, true, true, true, true, true, false, true, true, true, true, true, true, false, false, false, false]) (σ₁ := ⟨[(0, .own 1000000), (1, .t (tI a)), (2, .t (tI b2)), (3, .t (tI n2)), (10, .t (tI s.1)), (16, .own 1000000), (17, .t (tI a)), (18, .t (tI s.1)), (19, .t (tI (w64 (a + s.1)))), (20, .own 1000000), (21, .t (tI b2)), (22, .t (tI s.1)), (23, .t (tI (w64 (b2 + s.1)))), (24, .own 1000000), (25, .t (tI b2)), (26, .t (tI s.1)), (27, .t (tI (w64 (b2 + s.1)))), (28, .pe 1000000 (Int.toNat (w64 (b2 + s.1))) 4 0), (30, .own 1000000), (31, .t (tI a)), (32, .t (tI s.1)), (33, .t (tI (w64 (a + s.1)))), (34, .pe 1000000 (Int.toNat (w64 (a + s.1))) 4 0), (35, .agg [.t (tI x2.Source), .t (tI x2.Kind), .t (tI x2.Torque), .t (tI x2.Priority)])], [(1000000, .rows 44 4 s.2.length (s.2.map enc_SRequest))]⟩) ?_ fun A_4 => ?_
          · refine TieA.all [13] (by kernel_rfl) rfl ?_
            refine AllA.cons (σ₁ := ⟨[(0, .own 1000000), (1, .t (tI a)), (2, .t (tI b2)), (3, .t (tI n2)), (10, .t (tI s.1)), (16, .own 1000000), (17, .t (tI a)), (18, .t (tI s.1)), (19, .t (tI (w64 (a + s.1)))), (20, .own 1000000), (21, .t (tI b2)), (22, .t (tI s.1)), (23, .t (tI (w64 (b2 + s.1)))), (24, .own 1000000), (25, .t (tI b2)), (26, .t (tI s.1)), (27, .t (tI (w64 (b2 + s.1)))), (28, .pe 1000000 (Int.toNat (w64 (b2 + s.1))) 4 0), (29, .agg [.t (tI x.Source), .t (tI x.Kind), .t (tI x.Torque), .t (tI x.Priority)]), (30, .own 1000000), (31, .t (tI a)), (32, .t (tI s.1)), (33, .t (tI (w64 (a + s.1)))), (34, .pe 1000000 (Int.toNat (w64 (a + s.1))) 4 0), (35, .agg [.t (tI x2.Source), .t (tI x2.Kind), .t (tI x2.Torque), .t (tI x2.Priority)])], [(1000000, .rows 44 4 s.2.length (s.2.map enc_SRequest))]⟩) [true, true, true, true, true, true, true, true, true, true, true, true, true, true, true, true, true, true, true, true, false, false, false, false] rfl rfl ?_ A_2 ?_
            · refine TieO.loadY hx rfl rfl rfl rfl rfl rfl rfl rfl ?_
              exact TieO.nil (TieS.leaf ⟨rfl, .of rfl rfl⟩)
            exact AllA.nil
          refine TieA.move 0 [true, false, false, false, false, false, false, false, false, false, false, false, false, false, false, false, false, false, false, false, false, false, false, false] rfl rfl (by first | exact .inl rfl | exact .inr rfl) rfl rfl rfl (by kernel_rfl) (by kernel_rfl) (by kernel_rfl) rfl ?_
          refine TieA.move 1 [true, true, false, false, false, false, false, false, false, false, false, false, false, false, false, false, false, false, false, false, false, false, false, false] rfl rfl (by first | exact .inl rfl | exact .inr rfl) rfl rfl rfl (by kernel_rfl) (by kernel_rfl) (by kernel_rfl) rfl ?_
          refine TieA.move 2 [true, true, true, false, false, false, false, false, false, false, false, false, false, false, false, false, false, false, false, false, false, false, false, false] rfl rfl (by first | exact .inl rfl | exact .inr rfl) rfl rfl rfl (by kernel_rfl) (by kernel_rfl) (by kernel_rfl) rfl ?_
          refine TieA.bin (V := .t (tI (w64 (a + s.1)))) 3 [true, true, true, true, false, false, false, false, false, false, false, false, false, false, false, false, false, false, false, false, false, false, false, false] rfl rfl rfl rfl rfl rfl (by kernel_rfl) (by kernel_rfl) (by kernel_rfl) rfl rfl rfl rfl ?_
          refine TieA.move 4 [true, true, true, true, true, false, false, false, false, false, false, false, false, false, false, false, false, false, false, false, false, false, false, false] rfl rfl (by first | exact .inl rfl | exact .inr rfl) rfl rfl rfl (by kernel_rfl) (by kernel_rfl) (by kernel_rfl) rfl ?_
          refine TieA.move 5 [true, true, true, true, true, true, false, false, false, false, false, false, false, false, false, false, false, false, false, false, false, false, false, false] rfl rfl (by first | exact .inl rfl | exact .inr rfl) rfl rfl rfl (by kernel_rfl) (by kernel_rfl) (by kernel_rfl) rfl ?_
          refine TieA.move 6 [true, true, true, true, true, true, true, false, false, false, false, false, false, false, false, false, false, false, false, false, false, false, false, false] rfl rfl (by first | exact .inl rfl | exact .inr rfl) rfl rfl rfl (by kernel_rfl) (by kernel_rfl) (by kernel_rfl) rfl ?_
          refine TieA.bin (V := .t (tI (w64 (b2 + s.1)))) 7 [true, true, true, true, true, true, true, true, false, false, false, false, false, false, false, false, false, false, false, false, false, false, false, false] rfl rfl rfl rfl rfl rfl (by kernel_rfl) (by kernel_rfl) (by kernel_rfl) rfl rfl rfl rfl ?_
          refine TieA.move 8 [true, true, true, true, true, true, true, true, true, false, false, false, false, false, false, false, false, false, false, false, false, false, false, false] rfl rfl (by first | exact .inl rfl | exact .inr rfl) rfl rfl rfl (by kernel_rfl) (by kernel_rfl) (by kernel_rfl) rfl ?_
          refine TieA.move 9 [true, true, true, true, true, true, true, true, true, true, false, false, false, false, false, false, false, false, false, false, false, false, false, false] rfl rfl (by first | exact .inl rfl | exact .inr rfl) rfl rfl rfl (by kernel_rfl) (by kernel_rfl) (by kernel_rfl) rfl ?_
          refine TieA.move 10 [true, true, true, true, true, true, true, true, true, true, true, false, false, false, false, false, false, false, false, false, false, false, false, false] rfl rfl (by first | exact .inl rfl | exact .inr rfl) rfl rfl rfl (by kernel_rfl) (by kernel_rfl) (by kernel_rfl) rfl ?_
          refine TieA.bin (V := .t (tI (w64 (b2 + s.1)))) 11 [true, true, true, true, true, true, true, true, true, true, true, true, false, false, false, false, false, false, false, false, false, false, false, false] rfl rfl rfl rfl rfl rfl (by kernel_rfl) (by kernel_rfl) (by kernel_rfl) rfl rfl rfl rfl ?_
          refine TieA.idx 12 [true, true, true, true, true, true, true, true, true, true, true, true, true, false, false, false, false, false, false, false, false, false, false, false] hx rfl rfl rfl rfl rfl rfl (by kernel_rfl) (by kernel_rfl) (by kernel_rfl) rfl rfl rfl rfl rfl rfl ?_
          refine TieA.move 14 [true, true, true, true, true, true, true, true, true, true, true, true, true, false, true, false, false, false, false, false, false, false, false, false] rfl rfl (by first | exact .inl rfl | exact .inr rfl) rfl rfl rfl (by kernel_rfl) (by kernel_rfl) (by kernel_rfl) rfl ?_
          refine TieA.move 15 [true, true, true, true, true, true, true, true, true, true, true, true, true, false, true, true, false, false, false, false, false, false, false, false] rfl rfl (by first | exact .inl rfl | exact .inr rfl) rfl rfl rfl (by kernel_rfl) (by kernel_rfl) (by kernel_rfl) rfl ?_
          refine TieA.move 16 [true, true, true, true, true, true, true, true, true, true, true, true, true, false, true, true, true, false, false, false, false, false, false, false] rfl rfl (by first | exact .inl rfl | exact .inr rfl) rfl rfl rfl (by kernel_rfl) (by kernel_rfl) (by kernel_rfl) rfl ?_
          refine TieA.bin (V := .t (tI (w64 (a + s.1)))) 17 [true, true, true, true, true, true, true, true, true, true, true, true, true, false, true, true, true, true, false, false, false, false, false, false] rfl rfl rfl rfl rfl rfl (by kernel_rfl) (by kernel_rfl) (by kernel_rfl) rfl rfl rfl rfl ?_
          refine TieA.idx 18 [true, true, true, true, true, true, true, true, true, true, true, true, true, false, true, true, true, true, true, false, false, false, false, false] hx2 rfl rfl rfl rfl rfl rfl (by kernel_rfl) (by kernel_rfl) (by kernel_rfl) rfl rfl rfl rfl rfl rfl ?_
          refine TieA.all [13, 19] (by kernel_rfl) rfl ?_
          refine AllA.cons (σ₁ := ⟨[(0, .own 1000000), (1, .t (tI a)), (2, .t (tI b2)), (3, .t (tI n2)), (10, .t (tI s.1)), (16, .own 1000000), (17, .t (tI a)), (18, .t (tI s.1)), (19, .t (tI (w64 (a + s.1)))), (20, .own 1000000), (21, .t (tI b2)), (22, .t (tI s.1)), (23, .t (tI (w64 (b2 + s.1)))), (24, .own 1000000), (25, .t (tI b2)), (26, .t (tI s.1)), (27, .t (tI (w64 (b2 + s.1)))), (28, .pe 1000000 (Int.toNat (w64 (b2 + s.1))) 4 0), (29, .agg [.t (tI x.Source), .t (tI x.Kind), .t (tI x.Torque), .t (tI x.Priority)]), (30, .own 1000000), (31, .t (tI a)), (32, .t (tI s.1)), (33, .t (tI (w64 (a + s.1)))), (34, .pe 1000000 (Int.toNat (w64 (a + s.1))) 4 0)], [(1000000, .rows 44 4 s.2.length (s.2.map enc_SRequest))]⟩) [true, true, true, true, true, true, true, true, true, true, true, true, true, true, true, true, true, true, true, false, false, false, false, false] rfl rfl ?_ A_1 ?_
          · refine TieO.loadY hx rfl rfl rfl rfl rfl rfl rfl rfl ?_
            exact TieO.nil (TieS.leaf ⟨rfl, .of rfl rfl⟩)
          refine AllA.cons (σ₁ := ⟨[(0, .own 1000000), (1, .t (tI a)), (2, .t (tI b2)), (3, .t (tI n2)), (10, .t (tI s.1)), (16, .own 1000000), (17, .t (tI a)), (18, .t (tI s.1)), (19, .t (tI (w64 (a + s.1)))), (20, .own 1000000), (21, .t (tI b2)), (22, .t (tI s.1)), (23, .t (tI (w64 (b2 + s.1)))), (24, .own 1000000), (25, .t (tI b2)), (26, .t (tI s.1)), (27, .t (tI (w64 (b2 + s.1)))), (28, .pe 1000000 (Int.toNat (w64 (b2 + s.1))) 4 0), (30, .own 1000000), (31, .t (tI a)), (32, .t (tI s.1)), (33, .t (tI (w64 (a + s.1)))), (34, .pe 1000000 (Int.toNat (w64 (a + s.1))) 4 0), (35, .agg [.t (tI x2.Source), .t (tI x2.Kind), .t (tI x2.Torque), .t (tI x2.Priority)])], [(1000000, .rows 44 4 s.2.length (s.2.map enc_SRequest))]⟩) [true, true, true, true, true, true, true, true, true, true, true, true, true, false, true, true, true, true, true, true, false, false, false, false] rfl rfl ?_ A_4 ?_
          · refine TieO.loadY hx2 rfl rfl rfl rfl rfl rfl rfl rfl ?_
            exact TieO.nil (TieS.leaf ⟨rfl, .of rfl rfl⟩)
          exact AllA.nil
        refine TieO.indexO rfl rfl rfl rfl rfl rfl rfl rfl rfl rfl fun x3 hx3 => ?_
        refine TieO.storeY x2 [tI x2.Source, tI x2.Kind, tI x2.Torque, tI x2.Priority] hx3 rfl rfl rfl rfl rfl rfl rfl rfl rfl rfl rfl rfl fun l2 hl2 => ?_
        refine TieO.nil ?_
        exact TieS.leaf ⟨rfl, .of rfl rfl⟩
      rintro f2 e σ' _ ⟨rfl, hs⟩
      refine TieX.sub hs ?_
      refine TieS.endb ?_
      refine TieS.region ?_
      refine TieO.run 3 rfl ?_
      refine TieO.nil ?_
      exact TieS.leaf ⟨rfl, .of rfl rfl⟩
    · exact TieS.exitOut rfl ⟨(fun h => by cases h), rfl, .of rfl rfl⟩
  rintro (s2 | r) e σ' _ hq
  · obtain ⟨rfl, hs⟩ := hq
    refine TieX.exit rfl (TieX.sub hs ?_)
    exact TieS.leaf ⟨.inr rfl, ⟨[(1000000, 1000000)], _, _, rfl, rfl, rfl, rfl, rfl⟩⟩
  · exact hq.elim
-- slices.rotateCmpFunc[magneto/api.Request]
set_option maxRecDepth 100000 in
theorem tie_slices_rotateCmpFunc_Request (data : List SRequest) (a : Int) (m2 : Int) (b2 : Int) (n2 : Nat) (cs : List (List Tree)) (cmp : SRequest → SRequest → Option Int) (h2 : ∀ x0 x1, TieF Try.prog n2 ([A_SRequest x0, A_SRequest x1] ++ cs.map T.el) (cmp x0 x1) (fun r => .t (tI r))) : TieG Try.prog 118 [.own 1000000, .t (tI a), .t (tI m2), .t (tI b2), .fz n2 cs] [(1000000, .rows 44 4 data.length (data.map enc_SRequest))] (slices_rotateCmpFunc_Request data a m2 b2 cmp) (fun _ => .tup []) (fun r => [(1000000, .rows 44 4 r.length (r.map enc_SRequest))]) := by
  refine TieG.intro htab 58 [] Try.call118 Try.func118 rfl rfl rfl (Nat.le_of_ble_eq_true rfl) fun w0 L => ?_
  refine TieS.seq ?_
  refine TieS.region ?_
  refine TieO.run 4 rfl ?_
  refine TieO.nil ?_
  refine TieS.seq ?_
  refine TieS.region ?_
  refine TieO.run 4 rfl ?_
  refine TieO.nil ?_
  refine TieS.seq ?_
  refine TieS.block ?_
  refine TieS.loop (fun t => ⟨[(0, .own 1000000), (2, .t (tI m2)), (4, .fz n2 cs), (10, .t (tI t.1)), (11, .t (tI t.2.1))], [(1000000, .rows 44 4 t.2.2.length (t.2.2.map enc_SRequest))]⟩) (fun b e σ' => match b with | .inl t => e = .exit 0 ∧ Sub ⟨[(0, .own 1000000), (2, .t (tI m2)), (4, .fz n2 cs), (10, .t (tI t.1))], [(1000000, .rows 44 4 t.2.2.length (t.2.2.map enc_SRequest))]⟩ σ' | .inr t => False) (.of rfl rfl) ?_ ?_
  · intro s
    refine TieS.seq ?_
    refine TieS.seq ?_
    refine TieS.region ?_
    refine TieO.run 3 rfl ?_
    refine TieO.nil ?_
    refine TieS.cond rfl ?_ ?_
    · refine TieS.skip ?_
      refine TieS.block ?_
      refine TieS.seq ?_
      refine TieS.region ?_
      refine TieO.run 3 rfl ?_
      refine TieO.nil ?_
      refine TieS.cond rfl ?_ ?_
      · refine TieS.seq ?_
        refine TieS.region ?_
        refine TieO.run 7 rfl ?_
        refine TieO.callG [(1000000, 1000000)] [] (fun v => ⟨[(0, .own 1000000), (2, .t (tI m2)), (4, .fz n2 cs), (10, .t (tI s.1)), (11, .t (tI s.2.1)), (18, .t (tI s.1)), (19, .t (tI s.2.1)), (20, .t (tB (s.1 != s.2.1))), (21, .t (tI s.1)), (22, .t (tI s.2.1)), (23, .t (tB (decide (s.1 > s.2.1)))), (24, .own 1000000), (25, .t (tI m2)), (26, .t (tI s.1)), (27, .t (tI (w64 (m2 - s.1)))), (28, .t (tI m2)), (29, .t (tI s.2.1)), (30, .fz n2 cs), (31, .tup [])], [(1000000, .rows 44 4 v.length (v.map enc_SRequest))]⟩) (tie_slices_swapRangeCmpFunc_Request s.2.2 (w64 (m2 - s.1)) m2 s.2.1 n2 cs cmp h2) rfl rfl rfl rfl rfl rfl rfl (fun _ => rfl) (fun _ => rfl) (fun _ => rfl) (fun _ => .of rfl rfl) fun v hv => ?_
        refine TieO.nil ?_
        refine TieS.region ?_
        refine TieO.run 4 rfl ?_
        refine TieO.nil ?_
        refine TieS.endb ?_
        exact TieS.leaf ⟨rfl, .of rfl rfl⟩
      · refine TieS.seq ?_
        refine TieS.region ?_
        refine TieO.run 11 rfl ?_
        refine TieO.callG [(1000000, 1000000)] [] (fun v2 => ⟨[(0, .own 1000000), (2, .t (tI m2)), (4, .fz n2 cs), (10, .t (tI s.1)), (11, .t (tI s.2.1)), (18, .t (tI s.1)), (19, .t (tI s.2.1)), (20, .t (tB (s.1 != s.2.1))), (21, .t (tI s.1)), (22, .t (tI s.2.1)), (23, .t (tB (decide (s.1 > s.2.1)))), (35, .own 1000000), (36, .t (tI m2)), (37, .t (tI s.1)), (38, .t (tI (w64 (m2 - s.1)))), (39, .t (tI m2)), (40, .t (tI s.2.1)), (41, .t (tI (w64 (m2 + s.2.1)))), (42, .t (tI s.1)), (43, .t (tI (w64 ((w64 (m2 + s.2.1)) - s.1)))), (44, .t (tI s.1)), (45, .fz n2 cs), (46, .tup [])], [(1000000, .rows 44 4 v2.length (v2.map enc_SRequest))]⟩) (tie_slices_swapRangeCmpFunc_Request s.2.2 (w64 (m2 - s.1)) (w64 ((w64 (m2 + s.2.1)) - s.1)) s.1 n2 cs cmp h2) rfl rfl rfl rfl rfl rfl rfl (fun _ => rfl) (fun _ => rfl) (fun _ => rfl) (fun _ => .of rfl rfl) fun v2 hv2 => ?_
        refine TieO.nil ?_
        refine TieS.region ?_
        refine TieO.run 4 rfl ?_
        refine TieO.nil ?_
        refine TieS.endb ?_
        exact TieS.leaf ⟨rfl, .of rfl rfl⟩
    · exact TieS.exitOut rfl ⟨(fun h => by cases h), rfl, .of rfl rfl⟩
  rintro (s2 | r) e σ' _ hq
  · obtain ⟨rfl, hs⟩ := hq
    refine TieX.exit rfl (TieX.sub hs ?_)
    refine TieS.region ?_
    refine TieO.run 7 rfl ?_
    refine TieO.callG [(1000000, 1000000)] [] (fun v3 => ⟨[(0, .own 1000000), (2, .t (tI m2)), (4, .fz n2 cs), (10, .t (tI s2.1)), (50, .own 1000000), (51, .t (tI m2)), (52, .t (tI s2.1)), (53, .t (tI (w64 (m2 - s2.1)))), (54, .t (tI m2)), (55, .t (tI s2.1)), (56, .fz n2 cs), (57, .tup [])], [(1000000, .rows 44 4 v3.length (v3.map enc_SRequest))]⟩) (tie_slices_swapRangeCmpFunc_Request s2.2.2 (w64 (m2 - s2.1)) m2 s2.1 n2 cs cmp h2) rfl rfl rfl rfl rfl rfl rfl (fun _ => rfl) (fun _ => rfl) (fun _ => rfl) (fun _ => .of rfl rfl) fun v3 hv3 => ?_
    refine TieO.nil ?_
    exact TieS.leaf ⟨.inr rfl, ⟨[(1000000, 1000000)], _, _, rfl, rfl, rfl, rfl, rfl⟩⟩
  · exact hq.elim
end Go.Proofs.Ytllofihbdbdaeaa
