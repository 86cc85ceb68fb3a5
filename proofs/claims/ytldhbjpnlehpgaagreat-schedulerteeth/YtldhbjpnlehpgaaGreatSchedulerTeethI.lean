/- This file joins: Ties, printed by gen.py: each function of the loaded program computes its model. Ties, printed by gen.py: each function of the loaded program computes its model. What the arguments are known to be. Printed by law.py. What the arguments of the rows hold. Printed by law.py. Part Xg: loops by invariants, lists. Plain Lean. The events' functions, as they compute. Plain Lean. The events' functions, as they compute. Plain Lean. Plan and its reference, as they compute. Plain Lean. The reference's Plan; the examples. Plain Lean. Plain Lean: events that are valid, and distances of angles. -/
import Derived.Test.YtldhbjpnlehpgaaGreatSchedulerTeethH
import Derived.Test.YtldhbjpnlehpgaaGreatProg
import Derived.KernelRfl
set_option linter.unusedSimpArgs false
set_option linter.unusedVariables false
namespace Go.Proofs.YtldhbjpnlehpgaaGreat
open Go Go.Pv Go.Proofs
abbrev x51_0 : List T := [.t (.v (.slice none 0 0)), .t (tI 0), .t (tB false), .t (tI 0), .t (tI 0), .t (tI 0), .t (tI 0), .t (tI 0), .t (tI 0), .t (.v (.slice none 0 0)), .t (.v (.slice none 0 0)), .t (.v (.slice none 0 0)), .t (tB false)]
set_option maxRecDepth 100000 in
set_option maxHeartbeats 4000000 in
theorem q207 (s : SScheduler) : TieG Tryz.prog 51 [.agg [.t (tS Pv.encI s.Engine.Order), .t (tI s.Engine.First), .t (tB s.Clock.Valid), .t (tI s.Clock.At), .t (tI s.Clock.Angle), .t (tI s.Clock.Period), .t (tI s.Clock.Space), .t (tI s.Clock.Ahead), .t (tI s.Timer.Now), .own 1000000, .t (tS q16 s.Next), .own 1000001, .t (tB s.Cut)]] [(1000000, .rs 74 4 s.Timer.Channels q11), (1000001, .rs 85 7 s.Jobs q13)] (q107 s) (fun r => .agg [.t (tS Pv.encI r.Engine.Order), .t (tI r.Engine.First), .t (tB r.Clock.Valid), .t (tI r.Clock.At), .t (tI r.Clock.Angle), .t (tI r.Clock.Period), .t (tI r.Clock.Space), .t (tI r.Clock.Ahead), .t (tI r.Timer.Now), .t (tS q11 r.Timer.Channels), .t (tS q16 r.Next), .own 900000, .t (tB r.Cut)]) (fun r => [(900000, .rs 85 7 r.Jobs q13)]) := by
 refine TieG.intro htab 99 [.cell 2 33] Tryz.call51 Tryz.func51 rfl rfl rfl (Nat.le_of_ble_eq_true rfl) fun w0 L => ?_
 refine TieS.seq (.region (.run 2 rfl (.nil (.seq ?_))))
 refine TieS.seq (.region (.run 3 rfl (.selOr (v := (!s.Clock.Valid)) 5 8 (fun b => ⟨[(1, .ptr 1 0), (2, .ptr 2 0), (13, .t (tB b))], [(1, .box (lset (q10 s) [(9, .own 1000000), (11, .own 1000001)])), (2, .box x51_0), (1000000, .rs 74 4 s.Timer.Channels q11), (1000001, .rs 85 7 s.Jobs q13)]⟩) rfl ?_ ?_ ?_)))
 ·exact TieO.run 5 rfl (.nil (.leaf ⟨rfl, .of rfl rfl⟩))
 ·exact TieO.run 5 rfl (.nil (.leaf ⟨rfl, .of rfl rfl⟩))
 refine TieO.nil (.cond rfl ?_ ?_)
 ·refine TieS.seq (.region (.run 2 rfl (.nil (TieX.frz 1000000 rfl ?_))))
  exact TieS.ret ⟨.inl rfl, ⟨[(1000001, 900000)], _, _, rfl, rfl, rfl, rfl, rfl⟩⟩
 ·refine TieS.skip (.seq (.seq (.region (.run 1 rfl ?_))))
  refine TieO.nil (.block (.loop (fun t => ⟨[(1, .ptr 1 0), (2, .ptr 2 0), (3, .t (tI t.1))], [(1, .box (lset (q10 s) [(9, .own 1000000), (11, .own 1000001)])), (2, .box x51_0), (1000000, .rs 74 4 t.2.1 q11), (1000001, .rs 85 7 t.2.2 q13)]⟩) (fun b e σ' => match b with | .inl t => e = .exit 0 ∧ Sub ⟨[(1, .ptr 1 0), (2, .ptr 2 0)], [(1, .box (lset (q10 s) [(9, .own 1000000), (11, .own 1000001)])), (2, .box x51_0), (1000000, .rs 74 4 t.2.1 q11), (1000001, .rs 85 7 t.2.2 q13)]⟩ σ' | .inr t => False) (.of rfl rfl) ?_ ?_))
  ·intro s2
   refine TieS.seq (.seq (.region (.run 6 rfl (.nil ?_))))
   refine TieS.cond rfl ?_ ?_
   ·refine TieS.skip (.seq (.block (.seq (.region ?_))))
    refine TieO.run 2 rfl (.callS _ rfl rfl rfl (q329 (u7_4 (u7_2 s (u3_1 s.Timer s2.2.1)) s2.2.2) s2.1) (fun _ => rfl) (fun _ => rfl) fun v => .run 1 rfl (.nil (.seq ?_)))
    refine TieS.seq (.bind (Q₁ := fun t e σ' => e = .normal ∧ Sub ⟨[(1, .ptr 1 0), (2, .ptr 2 0), (3, .t (tI s2.1)), (4, .t (tI v)), (39, .t (tB t))], [(1, .box (lset (q10 s) [(9, .own 1000000), (11, .own 1000001)])), (2, .box x51_0), (1000000, .rs 74 4 s2.2.1 q11), (1000001, .rs 85 7 s2.2.2 q13)]⟩ σ') ?_ ?_)
    ·refine TieX.split (fun hg => ?_) (fun hg2 => ?_)
     ·exact TieS.draw 14 [_, _, _, _, _, _, _, _, _, _, _, _, _, _] [(1, .ptr 1 0), (2, .ptr 2 0), (3, .t (tI s2.1)), (4, .t (tI v))] [(1, .box (lset (q10 s) [(9, .own 1000000), (11, .own 1000001)])), (2, .box x51_0), (1000000, .rs 74 4 s2.2.1 q11), (1000001, .rs 85 7 s2.2.2 q13)] mixed (.of rfl rfl) rfl rfl rfl rfl (.cons (.quiet rfl rfl rfl) (.cons (.quiet rfl rfl rfl) (.cons (.cast (congrArg T.B hg) (.quiet rfl rfl rfl)) (.cons (.skip rfl) (.cons (.skip rfl) (.cons (.skip rfl) (.cons (.skip rfl) (.cons (.skip rfl) (.cons (.skip rfl) (.cons (.skip rfl) (.cons (.skip rfl) (.cons (.skip rfl) (.cons (.skip rfl) (.cons (.quiet rfl rfl rfl) (.nil))))))))))))))) (.nil (.leaf ⟨rfl, .of rfl rfl⟩))
     ·exact TieX.pre fun x hx => TieS.draw 14 [_, _, _, _, _, _, _, _, _, _, _, _, _, _] [(1, .ptr 1 0), (2, .ptr 2 0), (3, .t (tI s2.1)), (4, .t (tI v))] [(1, .box (lset (q10 s) [(9, .own 1000000), (11, .own 1000001)])), (2, .box x51_0), (1000000, .rs 74 4 s2.2.1 q11), (1000001, .rs 85 7 s2.2.2 q13)] mixed (.of rfl rfl) rfl rfl rfl rfl (.cons (.quiet rfl rfl rfl) (.cons (.quiet rfl rfl rfl) (.cons (.cast (congrArg T.B hg2) (.quiet rfl rfl rfl)) (.cons (.quiet rfl rfl rfl) (.cons (.quiet rfl rfl rfl) (.cons (.quiet rfl rfl rfl) (.cons (.indexO (sz := 7) hx rfl rfl rfl rfl rfl rfl rfl rfl) (.cons (.quiet rfl rfl rfl) (.cons (.loadY hx rfl rfl rfl rfl rfl rfl) (.cons (.quiet rfl rfl rfl) (.cons (.quiet rfl rfl rfl) (.cons (.quiet rfl rfl rfl) (.cons (.quiet rfl rfl rfl) (.cons (.quiet rfl rfl rfl) (.nil))))))))))))))) (.nil (.leaf ⟨rfl, .of rfl rfl⟩))
    rintro v2 e σ' _ ⟨rfl, hs⟩
    refine TieX.sub hs (TieS.cond rfl ?_ ?_)
    ·exact TieS.exit rfl (.region (.run 3 rfl (.nil (.leaf ⟨rfl, .of rfl rfl⟩))))
    ·refine TieS.skip (.seq (TieX.pre fun x2 hx2 => TieX.pre fun v3 hv3 => TieS.draw 24 [_, _, _, _, _, _, _, _, _, _, _, _, _, _, _, _, _, _, _, _, _, _, _, _] [(1, .ptr 1 0), (2, .ptr 2 0), (3, .t (tI s2.1)), (4, .t (tI v))] [(1, .box (lset (q10 s) [(9, .own 1000000), (11, .own 1000001)])), (2, .box x51_0), (1000000, .rs 74 4 s2.2.1 q11), (1000001, .rs 85 7 s2.2.2 q13)] mixed (.of rfl rfl) rfl rfl rfl rfl (.cons (.quiet rfl rfl rfl) (.cons (.quiet rfl rfl rfl) (.cons (.quiet rfl rfl rfl) (.cons (.quiet rfl rfl rfl) (.cons (.quiet rfl rfl rfl) (.cons (.quiet rfl rfl rfl) (.cons (.indexO (sz := 7) hx2 rfl rfl rfl rfl rfl rfl rfl rfl) (.cons (.quiet rfl rfl rfl) (.cons (.loadY hx2 rfl rfl rfl rfl rfl rfl) (.cons (.quiet rfl rfl rfl) (.cons (.quiet rfl rfl rfl) (.cons (.quiet rfl rfl rfl) (.cons (.quiet rfl rfl rfl) (.cons (.quiet rfl rfl rfl) (.cons (.quiet rfl rfl rfl) (.cons (.quiet rfl rfl rfl) (.cons (.callV (q279 (w64 (x2.Left * s.Clock.Period)) s.Clock.Space) hv3 rfl rfl rfl rfl) (.cons (.quiet rfl rfl rfl) (.cons (.quiet rfl rfl rfl) (.cons (.quiet rfl rfl rfl) (.cons (.quiet rfl rfl rfl) (.cons (.quiet rfl rfl rfl) (.cons (.quiet rfl rfl rfl) (.cons (.quiet rfl rfl rfl) (.nil))))))))))))))))))))))))) ?_))
     refine TieO.nil (.seq (.region (.run 2 rfl (.nil ?_))))
     refine TieS.cond rfl ?_ ?_
     ·refine TieS.seq (.region (.run 3 rfl (.indexOH hx2 rfl rfl rfl rfl rfl rfl rfl rfl rfl rfl (.run 1 rfl ?_))))
      refine TieO.storeY (u6_2 x2 true) [tB true] hx2 rfl rfl rfl rfl rfl rfl rfl rfl rfl rfl rfl rfl fun l hl => .nil (.seq (.region (.run 4 rfl ?_)))
      refine TieO.indexOH (setM_get hl) rfl rfl rfl rfl rfl rfl rfl rfl rfl rfl (.run 1 rfl (.storeY (u6_3 (u6_2 x2 true) (maxI (w64 (s.Clock.At + v3)) (w64 (s.Timer.Now + 1)))) [tI (maxI (w64 (s.Clock.At + v3)) (w64 (s.Timer.Now + 1)))] (setM_get hl) rfl rfl rfl rfl rfl rfl rfl rfl rfl rfl rfl rfl fun l2 hl2 => .nil (TieX.pre fun v4 hv4 => ?_)))
      refine TieX.pre fun x3 hx3 => TieS.draw 22 [_, _, _, _, _, _, _, _, _, _, _, _, _, _, _, _, _, _, _, _, _, _] [(1, .ptr 1 0), (2, .ptr 2 0), (3, .t (tI s2.1)), (4, .t (tI v)), (5, .t (tI (maxI (w64 (s.Clock.At + v3)) (w64 (s.Timer.Now + 1)))))] [(1, .box (lset (q10 s) [(9, .own 1000000), (11, .own 1000001)])), (2, .box x51_0), (1000000, .rs 74 4 s2.2.1 q11), (1000001, .rs 85 7 l2 q13)] mixed (.of rfl rfl) rfl rfl rfl rfl (.cons (.quiet rfl rfl rfl) (.cons (.quiet rfl rfl rfl) (.cons (.quiet rfl rfl rfl) (.cons (.quiet rfl rfl rfl) (.cons (.quiet rfl rfl rfl) (.cons (.quiet rfl rfl rfl) (.cons (.quiet rfl rfl rfl) (.cons (.quiet rfl rfl rfl) (.cons (.indexO (sz := 7) (setM_get hl2) rfl rfl rfl rfl rfl rfl rfl rfl) (.cons (.quiet rfl rfl rfl) (.cons (.quiet rfl rfl rfl) (.cons (.loadY (setM_get hl2) rfl rfl rfl rfl rfl rfl) (.cons (.callV (q50 x2.Event.Kind) hv4 rfl rfl rfl rfl) (.cons (.quiet rfl rfl rfl) (.cons (.quiet rfl rfl rfl) (.cons (.quiet rfl rfl rfl) (.cons (.quiet rfl rfl rfl) (.cons (.indexO (sz := 4) hx3 rfl rfl rfl rfl rfl rfl rfl rfl) (.cons (.quiet rfl rfl rfl) (.cons (.loadY hx3 rfl rfl rfl rfl rfl rfl) (.cons (.quiet rfl rfl rfl) (.cons (.indexO (sz := 4) hx3 rfl rfl rfl rfl rfl rfl rfl rfl) (.nil))))))))))))))))))))))) (.storeY (u2_2 (u2_1 (u2_0 x3 true) (maxI (w64 (s.Clock.At + v3)) (w64 (s.Timer.Now + 1)))) v4) [tB true, tI (maxI (w64 (s.Clock.At + v3)) (w64 (s.Timer.Now + 1))), tB v4, tB x3.Level] hx3 rfl rfl rfl rfl rfl rfl rfl rfl rfl rfl rfl rfl fun l3 hl3 => .nil (.endb ?_))
      exact TieS.region (.run 3 rfl (.nil (.leaf ⟨rfl, .of rfl rfl⟩)))
     ·refine TieS.skip (.endb (.region (.run 3 rfl (.nil ?_))))
      exact TieS.leaf ⟨rfl, .of rfl rfl⟩
   ·exact TieS.exitOut rfl ⟨(fun h => by cases h), rfl, .of rfl rfl⟩
  rintro (s3 | r) e σ' _ hq
  ·obtain ⟨rfl, hs⟩ := hq
   refine TieX.exit rfl (TieX.sub hs ?_)
   refine TieS.seq (.region (.run 2 rfl (.nil (TieX.frz 1000000 rfl ?_))))
   exact TieS.ret ⟨.inl rfl, ⟨[(1000001, 900000)], _, _, rfl, rfl, rfl, rfl, rfl⟩⟩
  ·exact hq.elim
set_option maxRecDepth 100000 in
theorem q202 (t2 : STimer) : TieF Tryz.prog 98 [q87 t2] (q100 t2) (fun r => .tup [.t (tI r.1), .t (tB r.2)]) := by
 refine TieF.intro htab 42 [.tmp 2, .tmp 3] Tryz.call98 Tryz.func98 rfl rfl rfl (Nat.le_of_ble_eq_true rfl) fun w0 L => ?_
 refine TieS.seq (.region (.run 3 rfl (.nil (.seq ?_))))
 refine TieS.region (.run 2 rfl (.nil (.seq (.seq ?_))))
 refine TieS.region (.run 1 rfl (.nil (.block (.loop (fun t => ⟨[(1, .ptr 1 0), (4, .t (tI t.1)), (5, .t (tB t.2.1)), (6, .t (tI t.2.2))], [(1, .box [.t (tI t2.Now), .t (tS q11 t2.Channels)])]⟩) (fun b e σ' => match b with | .inl t => e = .exit 0 ∧ Sub ⟨[(4, .t (tI t.1)), (5, .t (tB t.2.1))], []⟩ σ' | .inr t => False) (.of rfl rfl) ?_ ?_))))
 ·intro s
  refine TieS.seq (.seq (.region (.run 5 rfl (.nil ?_))))
  refine TieS.cond rfl ?_ ?_
  ·refine TieS.skip (.seq (.block (.seq (.region ?_))))
   refine TieO.run 3 rfl (.index rfl rfl rfl rfl rfl rfl rfl rfl (fun _ => rfl) fun x hx => .run 3 rfl (.bind 13 (fun b3 => ⟨[(1, .ptr 1 0), (4, .t (tI s.1)), (5, .t (tB s.2.1)), (6, .t (tI s.2.2)), (33, .t (tB b3))], [(1, .box [.t (tI t2.Now), .t (tS q11 t2.Channels)])]⟩) (TieO.split 20 rfl ?_ ?_) fun b3 _ => ?_))
   ·refine TieO.run 3 rfl (.bind 9 (fun b2 => ⟨[(1, .ptr 1 0), (4, .t (tI s.1)), (5, .t (tB s.2.1)), (6, .t (tI s.2.2)), (20, .t (tB true)), (32, .t (tB b2))], [(1, .box [.t (tI t2.Now), .t (tS q11 t2.Channels)])]⟩) (TieO.split 23 rfl ?_ ?_) fun b2 _ => ?_)
    ·exact TieO.run 9 rfl (.nil (.leaf ⟨rfl, .of rfl rfl⟩))
    ·exact TieO.run 3 rfl (.indexH hx rfl rfl rfl rfl rfl rfl rfl rfl (fun _ => rfl) (.run 5 rfl (.nil (.leaf ⟨rfl, .of rfl rfl⟩))))
    exact TieO.run 1 rfl (.nil (.leaf ⟨rfl, .of rfl rfl⟩))
   ·exact TieO.run 13 rfl (.nil (.leaf ⟨rfl, .of rfl rfl⟩))
   refine TieO.nil (.cond rfl ?_ ?_)
   ·refine TieS.region (.run 3 rfl (.indexH hx rfl rfl rfl rfl rfl rfl rfl rfl (fun _ => rfl) (.run 4 rfl (.nil ?_))))
    exact TieS.endb (.region (.run 3 rfl (.nil (.leaf ⟨rfl, .of rfl rfl⟩))))
   ·refine TieS.skip (.endb (.region (.run 3 rfl (.nil ?_))))
    exact TieS.leaf ⟨rfl, .of rfl rfl⟩
  ·exact TieS.exitOut rfl ⟨(fun h => by cases h), rfl, .of rfl rfl⟩
 rintro (s2 | r) e σ' _ hq
 ·obtain ⟨rfl, hs⟩ := hq
  refine TieX.exit rfl (TieX.sub hs ?_)
  exact TieS.seq (.region (.run 4 rfl (.nil (.ret ⟨.inl rfl, rfl⟩))))
 ·exact hq.elim
abbrev x99_0 (x : SChannel) : List T := [.t (tB x.Armed), .t (tI x.At), .t (tB x.Next), .t (tB x.Level)]
set_option maxRecDepth 100000 in
set_option maxHeartbeats 4000000 in
theorem q229 (t2 : STimer) (v_to : Int) : TieG Tryz.prog 99 [q87 t2, .t (tI v_to)] [] (q88 t2 v_to) (fun r => .tup [.agg [.t (tI r.1.Now), .own 900000], .t (tS q15 r.2)]) (fun r => [(900000, .rs 74 4 r.1.Channels q11)]) := by
 refine TieG.intro htab 74 [.cell 4 29, .tmp 5] Tryz.call99 Tryz.func99 rfl rfl rfl (Nat.le_of_ble_eq_true rfl) fun w0 L => ?_
 refine TieS.seq (.region (.run 3 rfl (.nil (.seq ?_))))
 refine TieS.region (.run 1 rfl (.callG [] [(900000, 2096)] (fun v => ⟨[(0, .agg [.t (tI t2.Now), .t (tS q11 t2.Channels)]), (1, .t (tI v_to)), (2, .ptr 2 0), (4, .ptr 4 0), (5, .t (.v (.slice none 0 0))), (11, .agg [.t (tI t2.Now), .t (tS q11 t2.Channels)]), (12, .agg [.t (tI v.Now), .own 2096])], [(2, .box [.t (tI t2.Now), .t (tS q11 t2.Channels)]), (4, .box [.t (tI 0), .t (.v (.slice none 0 0))]), (2096, .rs 74 4 v.Channels q11)]⟩) (q265 t2) rfl rfl rfl rfl rfl rfl rfl (fun _ => rfl) (fun _ => rfl) (fun _ => rfl) (fun _ => .of rfl rfl) fun v hv => .run 1 rfl (.nil ?_)))
 refine TieS.seq (.region (.run 1 rfl (.nil (.seq ?_))))
 refine TieS.region (.run 1 rfl (.callS _ rfl rfl rfl (q202 v) (fun _ => rfl) (fun _ => rfl) fun r2 => .run 5 rfl (.nil ?_)))
 refine TieS.seq (.block (TieX.nilP 6 2456 52 3 [] rfl rfl rfl rfl rfl (TieS.loop (fun t => ⟨[(1, .t (tI v_to)), (2, .ptr 2 0), (4, .ptr 4 0), (6, .own 2456), (7, .t (tI t.2.1)), (8, .t (tB t.2.2.1))], [(2, .box [.t (tI v.Now), .own 2096]), (4, .box [.t (tI 0), .t (.v (.slice none 0 0))]), (2096, .rs 74 4 t.2.2.2 q11), (2456, .rs 52 3 t.1 q15)]⟩) (fun b e σ' => match b with | .inl t => e = .exit 0 ∧ Sub ⟨[(1, .t (tI v_to)), (2, .ptr 2 0), (4, .ptr 4 0), (6, .own 2456)], [(2, .box [.t (tI v.Now), .own 2096]), (4, .box [.t (tI 0), .t (.v (.slice none 0 0))]), (2096, .rs 74 4 t.2.2.2 q11), (2456, .rs 52 3 t.1 q15)]⟩ σ' | .inr t => False) (.of rfl rfl) ?_ ?_)))
 ·intro s
  refine TieS.seq (.seq (.region (.run 2 rfl (.selAnd (v := decide (s.2.1 ≤ v_to)) 4 19 (fun b => ⟨[(1, .t (tI v_to)), (2, .ptr 2 0), (4, .ptr 4 0), (6, .own 2456), (7, .t (tI s.2.1)), (23, .t (tB b))], [(2, .box [.t (tI v.Now), .own 2096]), (4, .box [.t (tI 0), .t (.v (.slice none 0 0))]), (2096, .rs 74 4 s.2.2.2 q11), (2456, .rs 52 3 s.1 q15)]⟩) rfl ?_ ?_ ?_))))
  ·exact TieO.run 4 rfl (.nil (.leaf ⟨rfl, .of rfl rfl⟩))
  ·exact TieO.run 4 rfl (.nil (.leaf ⟨rfl, .of rfl rfl⟩))
  refine TieO.nil (.cond rfl ?_ ?_)
  ·refine TieS.skip (.block (.seq (.seq (.region ?_))))
   refine TieO.run 1 rfl (.nil (.block (.loop (fun t => ⟨[(1, .t (tI v_to)), (2, .ptr 2 0), (4, .ptr 4 0), (6, .own 2456), (7, .t (tI s.2.1)), (9, .t (tI t.1))], [(2, .box [.t (tI v.Now), .own 2096]), (4, .box [.t (tI 0), .t (.v (.slice none 0 0))]), (2096, .rs 74 4 t.2.1 q11), (2456, .rs 52 3 t.2.2 q15)]⟩) (fun b e σ' => match b with | .inl t => e = .exit 2 ∧ Sub ⟨[(1, .t (tI v_to)), (2, .ptr 2 0), (4, .ptr 4 0), (6, .own 2456)], [(2, .box [.t (tI v.Now), .own 2096]), (4, .box [.t (tI 0), .t (.v (.slice none 0 0))]), (2096, .rs 74 4 t.2.1 q11), (2456, .rs 52 3 t.2.2 q15)]⟩ σ' | .inr t => False) (.of rfl rfl) ?_ ?_)))
   ·intro s2
    refine TieS.seq (.seq (.region (.run 5 rfl (.nil ?_))))
    refine TieS.cond rfl ?_ ?_
    ·refine TieS.skip (.seq (.block (.seq (.region ?_))))
     refine TieO.run 3 rfl (.indexO rfl rfl rfl rfl rfl rfl rfl rfl rfl rfl fun x hx => .loadY hx rfl rfl rfl rfl rfl rfl rfl rfl (.run 2 rfl (.nil ?_)))
     refine TieS.seq (.seq (.region (.run 4 rfl (.selOr (v := (x.At != s.2.1)) 5 39 (fun b => ⟨[(1, .t (tI v_to)), (2, .ptr 2 0), (4, .ptr 4 0), (6, .own 2456), (7, .t (tI s.2.1)), (9, .t (tI s2.1)), (10, .ptr 10 0), (44, .t (tB b))], [(2, .box [.t (tI v.Now), .own 2096]), (4, .box [.t (tI 0), .t (.v (.slice none 0 0))]), (10, .box (x99_0 x)), (2096, .rs 74 4 s2.2.1 q11), (2456, .rs 52 3 s2.2.2 q15)]⟩) rfl ?_ ?_ ?_))))
     ·exact TieO.run 5 rfl (.nil (.leaf ⟨rfl, .of rfl rfl⟩))
     ·exact TieO.run 5 rfl (.nil (.leaf ⟨rfl, .of rfl rfl⟩))
     refine TieO.nil (.cond rfl ?_ ?_)
     ·exact TieS.exit rfl (.region (.run 3 rfl (.nil (.leaf ⟨rfl, .of rfl rfl⟩))))
     ·refine TieS.skip (.seq (.seq (.region (.run 5 rfl ?_))))
      refine TieO.nil (.bind (Q₁ := fun t e σ' => e = .normal ∧ Sub ⟨[(1, .t (tI v_to)), (2, .ptr 2 0), (4, .ptr 4 0), (6, .own 2456), (7, .t (tI s.2.1)), (9, .t (tI s2.1)), (10, .ptr 10 0)], [(2, .box [.t (tI v.Now), .own 2096]), (4, .box [.t (tI 0), .t (.v (.slice none 0 0))]), (10, .box (x99_0 x)), (2096, .rs 74 4 s2.2.1 q11), (2456, .rs 52 3 t q15)]⟩ σ') ?_ ?_)
      ·refine TieS.cond rfl ?_ ?_
       ·refine TieS.region (.run 7 rfl (.appendY (id := 2456) (l := s2.2.2) (r := ([(⟨s.2.1, s2.1, x.Next⟩ : SSwitch)] : List SSwitch)) (tm' := [(1, .t (tI v_to)), (2, .ptr 2 0), (4, .ptr 4 0), (7, .t (tI s.2.1)), (9, .t (tI s2.1)), (10, .ptr 10 0), (44, .t (tB ((!x.Armed) || (x.At != s.2.1)))), (45, .ptr 10 3), (46, .t (tB x.Level)), (47, .ptr 10 2), (48, .t (tB x.Next)), (49, .t (tB (!(x.Level == x.Next)))), (51, .t (tI s.2.1)), (52, .t (tI s2.1)), (53, .ptr 10 2), (54, .t (tB x.Next)), (55, .agg [.t (tI s.2.1), .t (tI s2.1), .t (tB x.Next)]), (56, .own 56)]) (hp' := [(2, .box [.t (tI v.Now), .own 2096]), (4, .box [.t (tI 0), .t (.v (.slice none 0 0))]), (10, .box (x99_0 x)), (56, .rs 52 3 ([(⟨s.2.1, s2.1, x.Next⟩ : SSwitch)] : List SSwitch) q15), (2096, .rs 74 4 s2.2.1 q11)]) rfl rfl rfl rfl rfl rfl rfl (fun _ => rfl) (fun _ => rfl) (.inl ⟨rfl, rfl⟩) (.inr ⟨_, rfl, rfl⟩) (.of rfl rfl) rfl rfl rfl fun l => .run 1 rfl (.nil ?_)))
        exact TieS.leaf ⟨rfl, .of rfl rfl⟩
       ·exact TieS.skip (.leaf ⟨rfl, .of rfl rfl⟩)
      rintro f2 e σ' _ ⟨rfl, hs⟩
      refine TieX.sub hs (TieS.region (.run 6 rfl (.indexOH hx rfl rfl rfl rfl rfl rfl rfl rfl rfl rfl (.storeY (⟨false, 0, false, x.Next⟩ : SChannel) [tB false, tI 0, tB false, tB x.Next] hx rfl rfl rfl rfl rfl rfl rfl rfl rfl rfl rfl rfl fun l2 hl2 => ?_))))
      refine TieO.nil (.endb (.region (.run 3 rfl (.nil ?_))))
      exact TieS.leaf ⟨rfl, .of rfl rfl⟩
    ·exact TieS.exitOut rfl ⟨(fun h => by cases h), rfl, .of rfl rfl⟩
   rintro (s3 | r) e σ' _ hq
   ·obtain ⟨rfl, hs⟩ := hq
    refine TieX.exit rfl (TieX.sub hs ?_)
    refine TieS.region (.run 1 rfl (.callS _ rfl rfl rfl (q202 (u3_1 v s3.2.1)) (fun _ => rfl) (fun _ => rfl) fun r3 => .run 5 rfl (.nil ?_)))
    exact TieS.endb (.leaf ⟨rfl, .of rfl rfl⟩)
   ·exact hq.elim
  ·exact TieS.exitOut rfl ⟨(fun h => by cases h), rfl, .of rfl rfl⟩
 rintro (s4 | r) e σ' _ hq
 ·obtain ⟨rfl, hs⟩ := hq
  refine TieX.exit rfl (TieX.sub hs ?_)
  refine TieS.seq (.region (.run 3 rfl (.nil (.seq ?_))))
  exact TieS.region (.run 4 rfl (.nil (TieX.frz 2456 rfl (TieS.ret ⟨.inl rfl, ⟨[(2096, 900000)], _, _, rfl, rfl, rfl, rfl, rfl⟩⟩))))
 ·exact hq.elim
abbrev x46_0 : List T := [.t (.v (.slice none 0 0)), .t (tI 0), .t (tB false), .t (tI 0), .t (tI 0), .t (tI 0), .t (tI 0), .t (tI 0), .t (tI 0), .t (.v (.slice none 0 0)), .t (.v (.slice none 0 0)), .t (.v (.slice none 0 0)), .t (tB false)]
set_option maxRecDepth 100000 in
set_option maxHeartbeats 4000000 in
theorem q381 (s : SScheduler) (v_to : Int) : TieG Tryz.prog 46 [q24 s, .t (tI v_to)] [] (q225 s v_to) (fun r => .tup [.agg [.t (tS Pv.encI r.1.Engine.Order), .t (tI r.1.Engine.First), .t (tB r.1.Clock.Valid), .t (tI r.1.Clock.At), .t (tI r.1.Clock.Angle), .t (tI r.1.Clock.Period), .t (tI r.1.Clock.Space), .t (tI r.1.Clock.Ahead), .t (tI r.1.Timer.Now), .own 900001, .t (tS q16 r.1.Next), .own 900000, .t (tB r.1.Cut)], .t (tS q15 r.2)]) (fun r => [(900000, .rs 85 7 r.1.Jobs q13), (900001, .rs 74 4 r.1.Timer.Channels q11)]) := by
 refine TieG.intro htab 89 [.cell 4 33, .tmp 5] Tryz.call46 Tryz.func46 rfl rfl rfl (Nat.le_of_ble_eq_true rfl) fun w0 L => ?_
 refine TieS.seq (.region (.run 3 rfl (.nil (.seq ?_))))
 refine TieS.region (.run 1 rfl (.callG [] [(900000, 2128)] (fun v => ⟨[(0, .agg [.t (tS Pv.encI s.Engine.Order), .t (tI s.Engine.First), .t (tB s.Clock.Valid), .t (tI s.Clock.At), .t (tI s.Clock.Angle), .t (tI s.Clock.Period), .t (tI s.Clock.Space), .t (tI s.Clock.Ahead), .t (tI s.Timer.Now), .t (tS q11 s.Timer.Channels), .t (tS q16 s.Next), .t (tS q13 s.Jobs), .t (tB s.Cut)]), (1, .t (tI v_to)), (2, .ptr 2 0), (4, .ptr 4 0), (5, .t (.v (.slice none 0 0))), (15, .agg [.t (tS Pv.encI s.Engine.Order), .t (tI s.Engine.First), .t (tB s.Clock.Valid), .t (tI s.Clock.At), .t (tI s.Clock.Angle), .t (tI s.Clock.Period), .t (tI s.Clock.Space), .t (tI s.Clock.Ahead), .t (tI s.Timer.Now), .t (tS q11 s.Timer.Channels), .t (tS q16 s.Next), .t (tS q13 s.Jobs), .t (tB s.Cut)]), (16, .agg [.t (tS Pv.encI v.Engine.Order), .t (tI v.Engine.First), .t (tB v.Clock.Valid), .t (tI v.Clock.At), .t (tI v.Clock.Angle), .t (tI v.Clock.Period), .t (tI v.Clock.Space), .t (tI v.Clock.Ahead), .t (tI v.Timer.Now), .t (tS q11 v.Timer.Channels), .t (tS q16 v.Next), .own 2128, .t (tB v.Cut)])], [(2, .box (q10 s)), (4, .box x46_0), (2128, .rs 85 7 v.Jobs q13)]⟩) (q339 s) rfl rfl rfl rfl rfl rfl rfl (fun _ => rfl) (fun _ => rfl) (fun _ => rfl) (fun _ => .of rfl rfl) fun v hv => .run 1 rfl (.nil ?_)))
 refine TieS.seq (.region (.run 1 rfl (.nil (.seq ?_))))
 refine TieS.block (TieX.nilP 6 2328 52 3 [] rfl rfl rfl rfl rfl (TieS.loop (fun t => ⟨[(1, .t (tI v_to)), (2, .ptr 2 0), (4, .ptr 4 0), (6, .own 2328)], [(2, .box (lset (q10 t.2) [(11, .own 2128)])), (4, .box x46_0), (2128, .rs 85 7 t.2.Jobs q13), (2328, .rs 52 3 t.1 q15)]⟩) (fun b e σ' => match b with | .inl t => e = .exit 0 ∧ Sub ⟨[(1, .t (tI v_to)), (2, .ptr 2 0), (4, .ptr 4 0), (6, .own 2328)], [(2, .box (lset (q10 t.2) [(11, .own 2128)])), (4, .box x46_0), (2128, .rs 85 7 t.2.Jobs q13), (2328, .rs 52 3 t.1 q15)]⟩ σ' | .inr t => False) (.of rfl rfl) ?_ ?_))
 ·intro s2
  refine TieS.block (.seq (.region (.run 2 rfl (.call _ rfl rfl rfl (q202 (⟨s2.2.Timer.Now, s2.2.Timer.Channels⟩ : STimer)) (fun _ => rfl) fun r2 => ?_))))
  refine TieO.run 5 rfl (.nil (.seq (.seq (.region ?_))))
  refine TieO.run 3 rfl (.selOr (v := decide (r2.1 > v_to)) 4 25 (fun b => ⟨[(1, .t (tI v_to)), (2, .ptr 2 0), (4, .ptr 4 0), (6, .own 2328), (7, .t (tI r2.1)), (29, .t (tB b))], [(2, .box (lset (q10 s2.2) [(11, .own 2128)])), (4, .box x46_0), (2128, .rs 85 7 s2.2.Jobs q13), (2328, .rs 52 3 s2.1 q15)]⟩) rfl ?_ ?_ ?_)
  ·exact TieO.run 4 rfl (.nil (.leaf ⟨rfl, .of rfl rfl⟩))
  ·exact TieO.run 4 rfl (.nil (.leaf ⟨rfl, .of rfl rfl⟩))
  refine TieO.nil (.cond rfl ?_ ?_)
  ·exact TieS.exitOut rfl ⟨(fun h => by cases h), rfl, .of rfl rfl⟩
  ·refine TieS.skip (.seq (.region (.run 3 rfl (.callG [] [(900000, 2272)] (fun r3 => ⟨[(1, .t (tI v_to)), (2, .ptr 2 0), (4, .ptr 4 0), (6, .own 2328), (7, .t (tI r2.1)), (29, .t (tB ((!r2.2) || (decide (r2.1 > v_to))))), (31, .ptr 2 8), (32, .agg [.t (tI s2.2.Timer.Now), .t (tS q11 s2.2.Timer.Channels)]), (33, .t (tI r2.1)), (34, .tup [.agg [.t (tI r3.1.Now), .own 2272], .t (tS q15 r3.2)])], [(2, .box (lset (q10 s2.2) [(11, .own 2128)])), (4, .box x46_0), (2128, .rs 85 7 s2.2.Jobs q13), (2272, .rs 74 4 r3.1.Channels q11), (2328, .rs 52 3 s2.1 q15)]⟩) (q229 (⟨s2.2.Timer.Now, s2.2.Timer.Channels⟩ : STimer) r2.1) rfl rfl rfl rfl rfl rfl rfl (fun _ => rfl) (fun _ => rfl) (fun _ => rfl) (fun _ => .of rfl rfl) fun r3 hr3 => ?_))))
   refine TieO.run 6 rfl (.nil (.seq (.region (.run 3 rfl ?_))))
   refine TieO.nil (.seq (.region (.run 2 rfl (.appendY (id := 2328) (e' := 0) (l := s2.1) (r := r3.2) (tm' := [(1, .t (tI v_to)), (2, .ptr 2 0), (4, .ptr 4 0), (7, .t (tI r2.1)), (9, .ptr 9 0), (10, .t (tS q15 r3.2)), (29, .t (tB ((!r2.2) || (decide (r2.1 > v_to))))), (30, .tup [.agg [.t (tI r3.1.Now), .own 2272], .t (tS q15 r3.2)]), (31, .ptr 2 8), (32, .agg [.t (tI s2.2.Timer.Now), .t (tS q11 s2.2.Timer.Channels)]), (33, .t (tI r2.1)), (34, .tup [.agg [.t (tI r3.1.Now), .own 2272], .t (tS q15 r3.2)]), (35, .agg [.t (tI r3.1.Now), .own 2272]), (36, .t (tS q15 r3.2)), (37, .agg [.t (tI r3.1.Now), .own 2272]), (38, .ptr 2 8), (40, .t (tS q15 r3.2))]) (hp' := [(2, .box (lset (q10 (u7_2 (u7_1 (u7_0 s2.2 (⟨s2.2.Engine.Order, s2.2.Engine.First⟩ : SEngine)) (⟨s2.2.Clock.Valid, s2.2.Clock.At, s2.2.Clock.Angle, s2.2.Clock.Period, s2.2.Clock.Space, s2.2.Clock.Ahead⟩ : SClock)) r3.1)) [(9, .own 2272), (11, .own 2128)])), (4, .box x46_0), (9, .box [.t (tI r3.1.Now), .own 2272]), (2128, .rs 85 7 s2.2.Jobs q13), (2272, .rs 74 4 r3.1.Channels q11)]) rfl rfl rfl rfl rfl rfl rfl (fun _ => rfl) (fun _ => rfl) (.inl ⟨rfl, rfl⟩) (.inl rfl) (.of rfl rfl) rfl rfl rfl fun l => ?_))))
   refine TieO.run 1 rfl (.nil (.seq (.region (.run 1 rfl ?_))))
   refine TieO.nil (.seq (.seq (.region (.run 1 rfl ?_))))
   refine TieO.nil (.block (TieX.nilP 11 2584 85 7 [] rfl rfl rfl rfl rfl (TieS.loop (fun t => ⟨[(1, .t (tI v_to)), (2, .ptr 2 0), (4, .ptr 4 0), (6, .own 2328), (7, .t (tI r2.1)), (11, .own 2584), (12, .t (tI t.2))], [(2, .box (lset (q10 (u7_2 (u7_1 (u7_0 s2.2 (⟨s2.2.Engine.Order, s2.2.Engine.First⟩ : SEngine)) (⟨s2.2.Clock.Valid, s2.2.Clock.At, s2.2.Clock.Angle, s2.2.Clock.Period, s2.2.Clock.Space, s2.2.Clock.Ahead⟩ : SClock)) r3.1)) [(9, .own 2272), (11, .own 2128)])), (4, .box x46_0), (2128, .rs 85 7 s2.2.Jobs q13), (2272, .rs 74 4 r3.1.Channels q11), (2328, .rs 52 3 l q15), (2584, .rs 85 7 t.1 q13)]⟩) (fun b e σ' => match b with | .inl t => e = .exit 2 ∧ Sub ⟨[(1, .t (tI v_to)), (2, .ptr 2 0), (4, .ptr 4 0), (6, .own 2328), (11, .own 2584)], [(2, .box (lset (q10 (u7_2 (u7_1 (u7_0 s2.2 (⟨s2.2.Engine.Order, s2.2.Engine.First⟩ : SEngine)) (⟨s2.2.Clock.Valid, s2.2.Clock.At, s2.2.Clock.Angle, s2.2.Clock.Period, s2.2.Clock.Space, s2.2.Clock.Ahead⟩ : SClock)) r3.1)) [(9, .own 2272), (11, .own 2128)])), (4, .box x46_0), (2128, .rs 85 7 s2.2.Jobs q13), (2272, .rs 74 4 r3.1.Channels q11), (2328, .rs 52 3 l q15), (2584, .rs 85 7 t.1 q13)]⟩ σ' | .inr t => False) (.of rfl rfl) ?_ ?_)))
   ·intro s3
    refine TieS.seq (.seq (.region (.run 5 rfl (.nil ?_))))
    refine TieS.cond rfl ?_ ?_
    ·refine TieS.skip (.seq (.block (.seq (.region ?_))))
     refine TieO.run 3 rfl (.indexO rfl rfl rfl rfl rfl rfl rfl rfl rfl rfl fun x hx => .run 1 rfl (.loadY hx rfl rfl rfl rfl rfl rfl rfl rfl (.run 2 rfl ?_)))
     refine TieO.bind 9 (fun b2 => ⟨[(1, .t (tI v_to)), (2, .ptr 2 0), (4, .ptr 4 0), (6, .own 2328), (7, .t (tI r2.1)), (11, .own 2584), (12, .t (tI s3.2)), (65, .t (tB b2))], [(2, .box (lset (q10 (u7_2 (u7_1 (u7_0 s2.2 (⟨s2.2.Engine.Order, s2.2.Engine.First⟩ : SEngine)) (⟨s2.2.Clock.Valid, s2.2.Clock.At, s2.2.Clock.Angle, s2.2.Clock.Period, s2.2.Clock.Space, s2.2.Clock.Ahead⟩ : SClock)) r3.1)) [(9, .own 2272), (11, .own 2128)])), (4, .box x46_0), (2128, .rs 85 7 s2.2.Jobs q13), (2272, .rs 74 4 r3.1.Channels q11), (2328, .rs 52 3 l q15), (2584, .rs 85 7 s3.1 q13)]⟩) (TieO.split 56 rfl ?_ ?_) fun b2 _ => ?_
     ·exact TieO.run 9 rfl (.nil (.leaf ⟨rfl, .of rfl rfl⟩))
     ·refine TieO.run 3 rfl (.indexOH hx rfl rfl rfl rfl rfl rfl rfl rfl rfl rfl (.run 1 rfl (.loadY hx rfl rfl rfl rfl rfl rfl rfl rfl (.run 3 rfl ?_))))
      exact TieO.nil (.leaf ⟨rfl, .of rfl rfl⟩)
     refine TieO.nil (.cond rfl ?_ ?_)
     ·refine TieS.region (.run 4 rfl (.indexOH hx rfl rfl rfl rfl rfl rfl rfl rfl rfl rfl (.loadY hx rfl rfl rfl rfl rfl rfl rfl rfl (.run 1 rfl ?_))))
      refine TieO.appendY (id := 2584) (l := s3.1) (r := ([x] : List SJob)) (tm' := [(1, .t (tI v_to)), (2, .ptr 2 0), (4, .ptr 4 0), (6, .own 2328), (7, .t (tI r2.1)), (12, .t (tI s3.2)), (65, .t (tB b2)), (67, .ptr 2 11), (68, .own 2128), (69, .t (tI s3.2)), (70, .pe 2128 (Int.toNat s3.2) 7 0), (71, .agg [.t (tI x.Event.Angle), .t (tI x.Event.Kind), .t (tI x.Event.Cylinder), .t (tI x.Event.Pulse), .t (tI x.Left), .t (tB x.Armed), .t (tI x.At)]), (72, .own 72)]) (hp' := [(2, .box (lset (q10 (u7_2 (u7_1 (u7_0 s2.2 (⟨s2.2.Engine.Order, s2.2.Engine.First⟩ : SEngine)) (⟨s2.2.Clock.Valid, s2.2.Clock.At, s2.2.Clock.Angle, s2.2.Clock.Period, s2.2.Clock.Space, s2.2.Clock.Ahead⟩ : SClock)) r3.1)) [(9, .own 2272), (11, .own 2128)])), (4, .box x46_0), (72, .rs 85 7 ([x] : List SJob) q13), (2128, .rs 85 7 s2.2.Jobs q13), (2272, .rs 74 4 r3.1.Channels q11), (2328, .rs 52 3 l q15)]) rfl rfl rfl rfl rfl rfl rfl (fun _ => rfl) (fun _ => rfl) (.inl ⟨rfl, rfl⟩) (.inr ⟨_, rfl, rfl⟩) (.of rfl rfl) rfl rfl rfl fun l2 => .run 1 rfl (.nil (.endb (.region ?_)))
      exact TieO.run 3 rfl (.nil (.leaf ⟨rfl, .of rfl rfl⟩))
     ·refine TieS.skip (.endb (.region (.run 3 rfl (.nil ?_))))
      exact TieS.leaf ⟨rfl, .of rfl rfl⟩
    ·exact TieS.exitOut rfl ⟨(fun h => by cases h), rfl, .of rfl rfl⟩
   rintro (s4 | r) e σ' _ hq
   ·obtain ⟨rfl, hs⟩ := hq
    refine TieX.exit rfl (TieX.sub hs ?_)
    refine TieS.seq (.region (.run 3 rfl (.nil (.region ?_))))
    refine TieO.run 1 rfl (.callG [(1000000, 2272), (1000001, 2584)] [(900000, 2616)] (fun v2 => ⟨[(1, .t (tI v_to)), (2, .ptr 2 0), (4, .ptr 4 0), (6, .own 2328), (75, .ptr 2 11), (77, .agg [.t (tS Pv.encI v2.Engine.Order), .t (tI v2.Engine.First), .t (tB v2.Clock.Valid), .t (tI v2.Clock.At), .t (tI v2.Clock.Angle), .t (tI v2.Clock.Period), .t (tI v2.Clock.Space), .t (tI v2.Clock.Ahead), .t (tI v2.Timer.Now), .t (tS q11 v2.Timer.Channels), .t (tS q16 v2.Next), .own 2616, .t (tB v2.Cut)])], [(2, .box (lset (q10 (u7_2 (u7_1 (u7_0 s2.2 (⟨s2.2.Engine.Order, s2.2.Engine.First⟩ : SEngine)) (⟨s2.2.Clock.Valid, s2.2.Clock.At, s2.2.Clock.Angle, s2.2.Clock.Period, s2.2.Clock.Space, s2.2.Clock.Ahead⟩ : SClock)) r3.1)) [(9, .any), (11, .any)])), (4, .box x46_0), (2128, .rs 85 7 s2.2.Jobs q13), (2328, .rs 52 3 l q15), (2616, .rs 85 7 v2.Jobs q13)]⟩) (q207 (u7_4 (u7_2 (u7_1 (u7_0 s2.2 (⟨s2.2.Engine.Order, s2.2.Engine.First⟩ : SEngine)) (⟨s2.2.Clock.Valid, s2.2.Clock.At, s2.2.Clock.Angle, s2.2.Clock.Period, s2.2.Clock.Space, s2.2.Clock.Ahead⟩ : SClock)) r3.1) s4.1)) rfl rfl rfl rfl rfl rfl rfl (fun _ => rfl) (fun _ => rfl) (fun _ => rfl) (fun _ => .of rfl rfl) fun v2 hv2 => .run 1 rfl (.nil (.endb ?_)))
    exact TieX.sub (σ' := ⟨[(1, .t (tI v_to)), (2, .ptr 2 0), (4, .ptr 4 0), (6, .own 2328)], [(2, .box (lset (q10 v2) [(11, .own 2616)])), (4, .box x46_0), (2328, .rs 52 3 l q15), (2616, .rs 85 7 v2.Jobs q13)]⟩) (.of rfl rfl) (TieX.ren [(2, 2), (4, 4), (2328, 2328), (2616, 2128)] rfl rfl rfl (TieS.leaf ⟨rfl, .of rfl rfl⟩))
   ·exact hq.elim
 rintro (s5 | r) e σ' _ hq
 ·obtain ⟨rfl, hs⟩ := hq
  refine TieX.exit rfl (TieX.sub hs ?_)
  refine TieS.seq (.region (.run 3 rfl (.callG [] [(900000, 2656)] (fun r4 => ⟨[(1, .t (tI v_to)), (2, .ptr 2 0), (4, .ptr 4 0), (6, .own 2328), (79, .ptr 2 8), (80, .agg [.t (tI s5.2.Timer.Now), .t (tS q11 s5.2.Timer.Channels)]), (81, .t (tI v_to)), (82, .tup [.agg [.t (tI r4.1.Now), .own 2656], .t (tS q15 r4.2)])], [(2, .box (lset (q10 s5.2) [(11, .own 2128)])), (4, .box x46_0), (2128, .rs 85 7 s5.2.Jobs q13), (2328, .rs 52 3 s5.1 q15), (2656, .rs 74 4 r4.1.Channels q11)]⟩) (q229 (⟨s5.2.Timer.Now, s5.2.Timer.Channels⟩ : STimer) v_to) rfl rfl rfl rfl rfl rfl rfl (fun _ => rfl) (fun _ => rfl) (fun _ => rfl) (fun _ => .of rfl rfl) fun r4 hr4 => .run 6 rfl ?_)))
  refine TieO.nil (.seq (.region (.run 3 rfl (.nil ?_))))
  refine TieS.seq (.region (.run 4 rfl (.nil (TieX.frz 2328 rfl ?_))))
  exact TieS.ret ⟨.inl rfl, ⟨[(2128, 900000), (2656, 900001)], _, _, rfl, rfl, rfl, rfl, rfl⟩⟩
 ·exact hq.elim
set_option maxRecDepth 100000 in
theorem q19 (a : Int) : TieF Tryz.prog 100 [.t (tI a)] (q32 a) (fun r => .t (tI r)) := by
 refine TieF.intro htab 7 [.tmp 2] Tryz.call100 Tryz.func100 rfl rfl rfl (Nat.le_of_ble_eq_true rfl) fun w0 L => ?_
 refine TieS.seq (.region (.run 1 rfl (.nil (.seq ?_))))
 exact TieS.region (.run 5 rfl (.nil (.ret ⟨.inl rfl, rfl⟩)))
set_option maxRecDepth 100000 in
theorem q28 (v_from : Int) (v_to : Int) : TieF Tryz.prog 47 [.t (tI v_from), .t (tI v_to)] (q53 v_from v_to) (fun r => .t (tI r)) := by
 refine TieF.intro htab 9 [.tmp 4] Tryz.call47 Tryz.func47 rfl rfl rfl (Nat.le_of_ble_eq_true rfl) fun w0 L => ?_
 refine TieS.seq (.region (.run 1 rfl (.nil (.seq ?_))))
 refine TieS.region (.run 3 rfl (.call _ rfl rfl rfl (q19 (w64 (v_to - v_from))) (fun _ => rfl) fun v => .run 1 rfl (.nil ?_)))
 exact TieS.ret ⟨.inl rfl, rfl⟩
set_option maxRecDepth 100000 in
theorem q241 (e2 : SEngine) (cylinder : Int) : TieF Tryz.prog 102 [q38 e2, .t (tI cylinder)] (q104 e2 cylinder) (fun r => .t (tI r)) := by
 refine TieF.intro htab 17 [.tmp 4] Tryz.call102 Tryz.func102 rfl rfl rfl (Nat.le_of_ble_eq_true rfl) fun w0 L => ?_
 refine TieS.seq (.region (.run 2 rfl (.nil (.seq ?_))))
 exact TieX.pre fun v hv => TieX.pre fun q hq => TieS.draw 13 [_, _, _, _, _, _, _, _, _, _, _, _, _] [(1, .t (tI cylinder)), (2, .ptr 2 0)] [(2, .box [.t (tS Pv.encI e2.Order), .t (tI e2.First)])] mixed (.of rfl rfl) rfl rfl rfl rfl (.cons (.quiet rfl rfl rfl) (.cons (.quiet rfl rfl rfl) (.cons (.quiet rfl rfl rfl) (.cons (.quiet rfl rfl rfl) (.cons (.callV (q252 e2 cylinder) hv rfl rfl rfl rfl) (.cons (.quiet rfl rfl rfl) (.cons (.quiet rfl rfl rfl) (.cons (.quiet rfl rfl rfl) (.cons (.quiet rfl rfl rfl) (.cons (.quo hq rfl rfl rfl rfl) (.cons (.quiet rfl rfl rfl) (.cons (.quiet rfl rfl rfl) (.cons (.quiet rfl rfl rfl) (.nil)))))))))))))) (.nil (.ret ⟨.inl rfl, rfl⟩))
set_option maxRecDepth 100000 in
theorem q248 (e2 : SEngine) (cylinder : Int) : TieF Tryz.prog 49 [q38 e2, .t (tI cylinder)] (q120 e2 cylinder) (fun r => .t (tI r)) := by
 refine TieF.intro htab 10 [.tmp 4] Tryz.call49 Tryz.func49 rfl rfl rfl (Nat.le_of_ble_eq_true rfl) fun w0 L => ?_
 refine TieS.seq (.region (.run 2 rfl (.nil (.seq ?_))))
 refine TieS.region (.run 2 rfl (.call _ rfl rfl rfl (q241 e2 cylinder) (fun _ => rfl) fun v => .run 3 rfl (.nil ?_)))
 exact TieS.ret ⟨.inl rfl, rfl⟩
set_option maxRecDepth 100000 in
theorem q31 (d : Int) (ticks : Int) : TieF Tryz.prog 125 [.t (tI d), .t (tI ticks)] (q27 d ticks) (fun r => .t (tI r)) := by
 refine TieF.intro htab 9 [.tmp 4] Tryz.call125 Tryz.func125 rfl rfl rfl (Nat.le_of_ble_eq_true rfl) fun w0 L => ?_
 refine TieS.seq (.region (.run 1 rfl (.nil (.seq ?_))))
 refine TieS.region (.run 3 rfl (.quo rfl rfl rfl rfl rfl rfl fun q => .run 1 rfl (.nil ?_)))
 exact TieS.ret ⟨.inl rfl, rfl⟩
set_option maxRecDepth 100000 in
theorem q242 (f2 : SFire) : TieF Tryz.prog 141 [A_SFire f2] (q106 f2) (fun r => .t (tI r)) := by
 refine TieF.intro htab 9 [.tmp 2] Tryz.call141 Tryz.func141 rfl rfl rfl (Nat.le_of_ble_eq_true rfl) fun w0 L => ?_
 refine TieS.seq (.region (.run 2 rfl (.nil (.seq ?_))))
 refine TieS.seq (.region (.run 3 rfl (.nil (.cond rfl ?_ ?_))))
 ·exact TieS.seq (.region (.run 1 rfl (.nil (.ret ⟨.inl rfl, rfl⟩))))
 ·refine TieS.skip (.seq (.seq (.region (.run 3 rfl ?_))))
  refine TieO.nil (.cond rfl ?_ ?_)
  ·exact TieS.seq (.region (.run 1 rfl (.nil (.ret ⟨.inl rfl, rfl⟩))))
  ·refine TieS.skip (.seq (.region (.run 1 rfl (.nil ?_))))
   exact TieS.ret ⟨.inl rfl, rfl⟩
abbrev x126_0 (f2 : SFire) : List T := [.t (tI f2.Cylinder), .t (tI f2.Spark), .t (tI f2.Dwell), .t (tI f2.End), .t (tI f2.Inject), .t (tI f2.Gap), .t (tI f2.Extra)]
set_option maxRecDepth 100000 in
set_option maxHeartbeats 4000000 in
theorem q316 (e2 : SEngine) (f2 : SFire) (ticks : Int) : TieF Tryz.prog 126 [q38 e2, A_SFire f2, .t (tI ticks)] (q162 e2 f2 ticks) (fun r => .t (tS q14 r)) := by
 refine TieF.intro htab 100 [.tmp 6] Tryz.call126 Tryz.func126 rfl rfl rfl (Nat.le_of_ble_eq_true rfl) fun w0 L => ?_
 refine TieS.seq (.region (.run 3 rfl (.nil (.seq ?_))))
 refine TieS.region (.run 3 rfl (.call _ rfl rfl rfl (q241 e2 f2.Cylinder) (fun _ => rfl) fun v => .run 1 rfl (.nil ?_)))
 refine TieS.seq (.region (.run 3 rfl (.call _ rfl rfl rfl (q31 f2.Dwell ticks) (fun _ => rfl) fun v2 => .run 1 rfl ?_)))
 refine TieO.nil (.seq (.seq (.region (.run 2 rfl ?_))))
 refine TieO.nil (.bind (Q₁ := fun t e σ' => e = .normal ∧ Sub ⟨[(2, .t (tI ticks)), (4, .ptr 4 0), (7, .t (tI v)), (8, .t (tI t))], [(4, .box (x126_0 f2))]⟩ σ') ?_ ?_)
 ·refine TieS.cond rfl ?_ ?_
  ·exact TieS.region (.run 1 rfl (.nil (.leaf ⟨rfl, .of rfl rfl⟩)))
  ·exact TieS.skip (.leaf ⟨rfl, .of rfl rfl⟩)
 rintro dwell e σ' _ ⟨rfl, hs⟩
 refine TieX.sub hs (TieS.seq (TieX.pre fun v3 hv3 => TieX.pre fun v4 hv4 => TieS.draw 18 [_, _, _, _, _, _, _, _, _, _, _, _, _, _, _, _, _, _] [(2, .t (tI ticks)), (4, .ptr 4 0), (7, .t (tI v)), (8, .t (tI dwell))] [(4, .box (x126_0 f2))] mixed (.of rfl rfl) rfl rfl rfl rfl (.cons (.quiet rfl rfl rfl) (.cons (.quiet rfl rfl rfl) (.cons (.quiet rfl rfl rfl) (.cons (.quiet rfl rfl rfl) (.cons (.quiet rfl rfl rfl) (.cons (.quiet rfl rfl rfl) (.cons (.callV (q19 (w64 ((w64 (v - f2.Spark)) - dwell))) hv3 rfl rfl rfl rfl) (.cons (.quiet rfl rfl rfl) (.cons (.quiet rfl rfl rfl) (.cons (.quiet rfl rfl rfl) (.cons (.quiet rfl rfl rfl) (.cons (.quiet rfl rfl rfl) (.cons (.quiet rfl rfl rfl) (.cons (.quiet rfl rfl rfl) (.cons (.callV (q19 (w64 (v - f2.Spark))) hv4 rfl rfl rfl rfl) (.cons (.quiet rfl rfl rfl) (.cons (.quiet rfl rfl rfl) (.cons (.quiet rfl rfl rfl) (.nil))))))))))))))))))) ?_))
 refine TieO.run 2 rfl (.nil (.seq (.seq (.region ?_))))
 refine TieO.run 1 rfl (.call _ rfl rfl rfl (q242 f2) (fun _ => rfl) fun v5 => .run 1 rfl (.nil (.cond rfl ?_ ?_)))
 ·exact TieS.seq (.region (.run 2 rfl (.nil (.ret ⟨.inl rfl, rfl⟩))))
 ·refine TieS.skip (.seq (.region (.run 5 rfl (.nil ?_))))
  refine TieS.seq (.bind (Q₁ := fun t e σ' => e = .normal ∧ Sub ⟨[(2, .t (tI ticks)), (4, .ptr 4 0), (9, .own 39), (10, .t (tI (w64 (v - f2.End))))], [(4, .box (x126_0 f2)), (39, .rs 68 4 t q14)]⟩ σ') ?_ ?_)
  ·refine TieX.pre fun v6 hv6 => TieX.pre fun v7 hv7 => TieS.draws 12 (bm 14 0) (bm 14 4095) ⟨[(2, .t (tI ticks)), (4, .ptr 4 0), (9, .own 39), (10, .t (tI (w64 (v - f2.End)))), (48, .own 39), (59, .own 59)], [(4, .box (x126_0 f2)), (39, .rs 68 4 ([(⟨v3, 1, f2.Cylinder, 0⟩ : SEvent), (⟨v4, 2, f2.Cylinder, 0⟩ : SEvent)] : List SEvent) q14), (59, .rs 68 4 ([(⟨v7, 3, f2.Cylinder, 1⟩ : SEvent)] : List SEvent) q14)]⟩ mixed (fun _ _ _ h => by cases h.1) rfl rfl rfl rfl ?_ ?_
   ·refine TieA.have_ (fuel₁ := 4) (l₁ := (bm 14 1023)) (σ₁ := ⟨[(2, .t (tI ticks)), (4, .ptr 4 0), (9, .own 39), (10, .t (tI (w64 (v - f2.End)))), (48, .own 39), (55, .t (tI v7)), (57, .t (tI f2.Cylinder))], [(4, .box (x126_0 f2)), (39, .rs 68 4 ([(⟨v3, 1, f2.Cylinder, 0⟩ : SEvent), (⟨v4, 2, f2.Cylinder, 0⟩ : SEvent)] : List SEvent) q14)]⟩) ?_ fun A_0 => ?_
    ·refine TieA.all [10] (by kernel_rfl) rfl (AllA.run _ rfl rfl rfl ?_ ?_)
     ·refine TieA.all [11] (by kernel_rfl) rfl (AllA.run _ rfl rfl rfl ?_ ?_)
      ·exact TieA.done (.of rfl rfl)
      exact AllA.nil
     exact AllA.nil
    refine TieA.have_ (fuel₁ := 7) (l₁ := (bm 14 799)) (σ₁ := ⟨[(2, .t (tI ticks)), (4, .ptr 4 0), (9, .own 39), (10, .t (tI (w64 (v - f2.End)))), (48, .own 39), (49, .t (tI (w64 (v - f2.End)))), (51, .t (tI f2.Inject)), (52, .t (tI ticks)), (57, .t (tI f2.Cylinder))], [(4, .box (x126_0 f2)), (39, .rs 68 4 ([(⟨v3, 1, f2.Cylinder, 0⟩ : SEvent), (⟨v4, 2, f2.Cylinder, 0⟩ : SEvent)] : List SEvent) q14)]⟩) ?_ fun A_1 => ?_
    ·refine TieA.all [5] (by kernel_rfl) rfl (AllA.cons (σ₁ := ⟨[(2, .t (tI ticks)), (4, .ptr 4 0), (9, .own 39), (10, .t (tI (w64 (v - f2.End)))), (48, .own 39), (49, .t (tI (w64 (v - f2.End)))), (53, .t (tI v6)), (57, .t (tI f2.Cylinder))], [(4, .box (x126_0 f2)), (39, .rs 68 4 ([(⟨v3, 1, f2.Cylinder, 0⟩ : SEvent), (⟨v4, 2, f2.Cylinder, 0⟩ : SEvent)] : List SEvent) q14)]⟩) _ rfl rfl ?_ ?_ ?_)
     ·refine TieO.withH hv6 (TieO.call _ rfl rfl rfl (q31 f2.Inject ticks) (fun _ => rfl) (TieO.ifH ?_))
      exact TieO.nil (TieS.leaf ⟨rfl, .of rfl rfl⟩)
     ·refine TieA.bin (V := .t (tI (w64 ((w64 (v - f2.End)) - v6)))) 6 _ rfl rfl rfl rfl rfl rfl (by kernel_rfl) (by kernel_rfl) (by kernel_rfl) rfl rfl rfl rfl (.all [7] (by kernel_rfl) rfl (AllA.cons _ rfl rfl ?_ A_0 ?_))
      ·refine TieO.withH hv7 (TieO.call _ rfl rfl rfl (q19 (w64 ((w64 (v - f2.End)) - v6))) (fun _ => rfl) (TieO.ifH ?_))
       exact TieO.nil (TieS.leaf ⟨rfl, .of rfl rfl⟩)
      exact AllA.nil
     exact AllA.nil
    refine TieA.mv 0 rfl (.inl rfl) rfl (by kernel_rfl) rfl (.mv 1 rfl (.inl rfl) rfl (by kernel_rfl) rfl (.fP 2 rfl rfl rfl (by kernel_rfl) rfl rfl rfl (.mv 4 rfl (.inl rfl) rfl (by kernel_rfl) rfl (.fP 8 rfl rfl rfl (by kernel_rfl) rfl rfl rfl ?_))))
    refine TieA.all [3, 9] (by kernel_rfl) rfl (AllA.run _ rfl rfl rfl ?_ ?_)
    ·refine TieA.all [5, 9] (by kernel_rfl) rfl (AllA.cons (σ₁ := ⟨[(2, .t (tI ticks)), (4, .ptr 4 0), (9, .own 39), (10, .t (tI (w64 (v - f2.End)))), (48, .own 39), (49, .t (tI (w64 (v - f2.End)))), (53, .t (tI v6)), (56, .ptr 4 0)], [(4, .box (x126_0 f2)), (39, .rs 68 4 ([(⟨v3, 1, f2.Cylinder, 0⟩ : SEvent), (⟨v4, 2, f2.Cylinder, 0⟩ : SEvent)] : List SEvent) q14)]⟩) _ rfl rfl ?_ ?_ ?_)
     ·refine TieO.withH hv6 (TieO.call _ rfl rfl rfl (q31 f2.Inject ticks) (fun _ => rfl) (TieO.ifH ?_))
      exact TieO.nil (TieS.leaf ⟨rfl, .of rfl rfl⟩)
     ·refine TieA.bin (V := .t (tI (w64 ((w64 (v - f2.End)) - v6)))) 6 _ rfl rfl rfl rfl rfl rfl (by kernel_rfl) (by kernel_rfl) (by kernel_rfl) rfl rfl rfl rfl (.all [7, 9] (by kernel_rfl) rfl (AllA.cons (σ₁ := ⟨[(2, .t (tI ticks)), (4, .ptr 4 0), (9, .own 39), (10, .t (tI (w64 (v - f2.End)))), (48, .own 39), (55, .t (tI v7)), (56, .ptr 4 0)], [(4, .box (x126_0 f2)), (39, .rs 68 4 ([(⟨v3, 1, f2.Cylinder, 0⟩ : SEvent), (⟨v4, 2, f2.Cylinder, 0⟩ : SEvent)] : List SEvent) q14)]⟩) _ rfl rfl ?_ ?_ ?_))
      ·refine TieO.withH hv7 (TieO.call _ rfl rfl rfl (q19 (w64 ((w64 (v - f2.End)) - v6))) (fun _ => rfl) (TieO.ifH ?_))
       exact TieO.nil (TieS.leaf ⟨rfl, .of rfl rfl⟩)
      ·exact TieA.all [9] (by kernel_rfl) rfl (AllA.runTo _ rfl rfl rfl (.of rfl rfl) A_0 (AllA.nil))
      refine AllA.run _ rfl rfl rfl ?_ ?_
      ·refine TieA.all [7] (by kernel_rfl) rfl (AllA.cons _ rfl rfl ?_ A_0 ?_)
       ·refine TieO.withH hv7 (TieO.call _ rfl rfl rfl (q19 (w64 ((w64 (v - f2.End)) - v6))) (fun _ => rfl) (TieO.ifH ?_))
        exact TieO.nil (TieS.leaf ⟨rfl, .of rfl rfl⟩)
       exact AllA.nil
      exact AllA.nil
     exact AllA.runTo _ rfl rfl rfl (.of rfl rfl) A_1 (AllA.nil)
    refine AllA.run _ rfl rfl rfl ?_ ?_
    ·exact TieA.all [3] (by kernel_rfl) rfl (AllA.runTo _ rfl rfl rfl (.of rfl rfl) A_1 (AllA.nil))
    exact AllA.nil
   exact TieO.appendY (id := 39) (l := ([(⟨v3, 1, f2.Cylinder, 0⟩ : SEvent), (⟨v4, 2, f2.Cylinder, 0⟩ : SEvent)] : List SEvent)) (r := ([(⟨v7, 3, f2.Cylinder, 1⟩ : SEvent)] : List SEvent)) (tm' := [(2, .t (tI ticks)), (4, .ptr 4 0), (10, .t (tI (w64 (v - f2.End)))), (59, .own 59)]) (hp' := [(4, .box (x126_0 f2)), (59, .rs 68 4 ([(⟨v7, 3, f2.Cylinder, 1⟩ : SEvent)] : List SEvent) q14)]) rfl rfl rfl rfl rfl rfl rfl (fun _ => rfl) (fun _ => rfl) (.inl ⟨rfl, rfl⟩) (.inr ⟨_, rfl, rfl⟩) (.of rfl rfl) rfl rfl rfl fun l => .run 1 rfl (.nil (.leaf ⟨rfl, .of rfl rfl⟩))
  rintro f3 e σ' _ ⟨rfl, hs⟩
  refine TieX.sub hs (TieS.seq (.bind (Q₁ := fun t e σ' => e = .normal ∧ Sub ⟨[(2, .t (tI ticks)), (4, .ptr 4 0), (9, .own 39), (10, .t (tI (w64 (v - f2.End))))], [(4, .box (x126_0 f2)), (39, .rs 68 4 t q14)]⟩ σ') ?_ ?_))
  ·refine TieX.pre fun v8 hv8 => TieS.draws 7 (bm 9 0) (bm 9 127) ⟨[(2, .t (tI ticks)), (4, .ptr 4 0), (9, .own 39), (10, .t (tI (w64 (v - f2.End)))), (61, .own 39), (67, .own 67)], [(4, .box (x126_0 f2)), (39, .rs 68 4 f3 q14), (67, .rs 68 4 ([(⟨v8, 4, f2.Cylinder, 1⟩ : SEvent)] : List SEvent) q14)]⟩ mixed (fun _ _ _ h => by cases h.1) rfl rfl rfl rfl ?_ ?_
   ·refine TieA.have_ (fuel₁ := 4) (l₁ := (bm 9 31)) (σ₁ := ⟨[(2, .t (tI ticks)), (4, .ptr 4 0), (9, .own 39), (10, .t (tI (w64 (v - f2.End)))), (61, .own 39), (63, .t (tI v8)), (65, .t (tI f2.Cylinder))], [(4, .box (x126_0 f2)), (39, .rs 68 4 f3 q14)]⟩) ?_ fun A_0 => ?_
    ·refine TieA.all [5] (by kernel_rfl) rfl (AllA.run _ rfl rfl rfl ?_ ?_)
     ·refine TieA.all [6] (by kernel_rfl) rfl (AllA.run _ rfl rfl rfl ?_ ?_)
      ·exact TieA.done (.of rfl rfl)
      exact AllA.nil
     exact AllA.nil
    refine TieA.mv 0 rfl (.inl rfl) rfl (by kernel_rfl) rfl (.mv 1 rfl (.inl rfl) rfl (by kernel_rfl) rfl (.fP 3 rfl rfl rfl (by kernel_rfl) rfl rfl rfl (.all [2, 4] (by kernel_rfl) rfl (AllA.cons (σ₁ := ⟨[(2, .t (tI ticks)), (4, .ptr 4 0), (9, .own 39), (10, .t (tI (w64 (v - f2.End)))), (61, .own 39), (63, .t (tI v8)), (64, .ptr 4 0)], [(4, .box (x126_0 f2)), (39, .rs 68 4 f3 q14)]⟩) _ rfl rfl ?_ ?_ ?_))))
    ·refine TieO.withH hv8 (TieO.call _ rfl rfl rfl (q19 (w64 (v - f2.End))) (fun _ => rfl) (TieO.ifH ?_))
     exact TieO.nil (TieS.leaf ⟨rfl, .of rfl rfl⟩)
    ·exact TieA.all [4] (by kernel_rfl) rfl (AllA.runTo _ rfl rfl rfl (.of rfl rfl) A_0 (AllA.nil))
    refine AllA.run _ rfl rfl rfl ?_ ?_
    ·refine TieA.all [2] (by kernel_rfl) rfl (AllA.cons _ rfl rfl ?_ A_0 ?_)
     ·refine TieO.withH hv8 (TieO.call _ rfl rfl rfl (q19 (w64 (v - f2.End))) (fun _ => rfl) (TieO.ifH ?_))
      exact TieO.nil (TieS.leaf ⟨rfl, .of rfl rfl⟩)
     exact AllA.nil
    exact AllA.nil
   exact TieO.appendY (id := 39) (l := f3) (r := ([(⟨v8, 4, f2.Cylinder, 1⟩ : SEvent)] : List SEvent)) (tm' := [(2, .t (tI ticks)), (4, .ptr 4 0), (10, .t (tI (w64 (v - f2.End)))), (67, .own 67)]) (hp' := [(4, .box (x126_0 f2)), (67, .rs 68 4 ([(⟨v8, 4, f2.Cylinder, 1⟩ : SEvent)] : List SEvent) q14)]) rfl rfl rfl rfl rfl rfl rfl (fun _ => rfl) (fun _ => rfl) (.inl ⟨rfl, rfl⟩) (.inr ⟨_, rfl, rfl⟩) (.of rfl rfl) rfl rfl rfl fun l2 => .run 1 rfl (.nil (.leaf ⟨rfl, .of rfl rfl⟩))
  rintro f4 e σ' _ ⟨rfl, hs⟩
  refine TieX.sub hs (TieS.seq (.seq (.region (.run 1 rfl ?_))))
  refine TieO.call _ rfl rfl rfl (q242 f2) (fun _ => rfl) fun v9 => .run 1 rfl (.nil (.cond rfl ?_ ?_))
  ·exact TieS.seq (.region (.run 2 rfl (.nil (.ret ⟨.inl rfl, rfl⟩))))
  ·refine TieS.skip (.seq (.region (.run 4 rfl (.call _ rfl rfl rfl (q31 f2.Gap ticks) (fun _ => rfl) fun v10 => ?_))))
   refine TieO.run 2 rfl (.nil (.seq (.bind (Q₁ := fun t e σ' => e = .normal ∧ Sub ⟨[(2, .t (tI ticks)), (4, .ptr 4 0), (9, .own 39), (10, .t (tI (w64 ((w64 (v - f2.End)) + v10))))], [(4, .box (x126_0 f2)), (39, .rs 68 4 t q14)]⟩ σ') ?_ ?_)))
   ·refine TieX.pre fun v11 hv11 => TieS.draws 7 (bm 9 0) (bm 9 127) ⟨[(2, .t (tI ticks)), (4, .ptr 4 0), (9, .own 39), (10, .t (tI (w64 ((w64 (v - f2.End)) + v10)))), (79, .own 39), (85, .own 85)], [(4, .box (x126_0 f2)), (39, .rs 68 4 f4 q14), (85, .rs 68 4 ([(⟨v11, 3, f2.Cylinder, 2⟩ : SEvent)] : List SEvent) q14)]⟩ mixed (fun _ _ _ h => by cases h.1) rfl rfl rfl rfl ?_ ?_
    ·refine TieA.have_ (fuel₁ := 4) (l₁ := (bm 9 31)) (σ₁ := ⟨[(2, .t (tI ticks)), (4, .ptr 4 0), (9, .own 39), (10, .t (tI (w64 ((w64 (v - f2.End)) + v10)))), (79, .own 39), (81, .t (tI v11)), (83, .t (tI f2.Cylinder))], [(4, .box (x126_0 f2)), (39, .rs 68 4 f4 q14)]⟩) ?_ fun A_0 => ?_
     ·refine TieA.all [5] (by kernel_rfl) rfl (AllA.run _ rfl rfl rfl ?_ ?_)
      ·refine TieA.all [6] (by kernel_rfl) rfl (AllA.run _ rfl rfl rfl ?_ ?_)
       ·exact TieA.done (.of rfl rfl)
       exact AllA.nil
      exact AllA.nil
     refine TieA.mv 0 rfl (.inl rfl) rfl (by kernel_rfl) rfl (.mv 1 rfl (.inl rfl) rfl (by kernel_rfl) rfl (.fP 3 rfl rfl rfl (by kernel_rfl) rfl rfl rfl (.all [2, 4] (by kernel_rfl) rfl (AllA.cons (σ₁ := ⟨[(2, .t (tI ticks)), (4, .ptr 4 0), (9, .own 39), (10, .t (tI (w64 ((w64 (v - f2.End)) + v10)))), (79, .own 39), (81, .t (tI v11)), (82, .ptr 4 0)], [(4, .box (x126_0 f2)), (39, .rs 68 4 f4 q14)]⟩) _ rfl rfl ?_ ?_ ?_))))
     ·refine TieO.withH hv11 (TieO.call _ rfl rfl rfl (q19 (w64 ((w64 (v - f2.End)) + v10))) (fun _ => rfl) (TieO.ifH ?_))
      exact TieO.nil (TieS.leaf ⟨rfl, .of rfl rfl⟩)
     ·exact TieA.all [4] (by kernel_rfl) rfl (AllA.runTo _ rfl rfl rfl (.of rfl rfl) A_0 (AllA.nil))
     refine AllA.run _ rfl rfl rfl ?_ ?_
     ·refine TieA.all [2] (by kernel_rfl) rfl (AllA.cons _ rfl rfl ?_ A_0 ?_)
      ·refine TieO.withH hv11 (TieO.call _ rfl rfl rfl (q19 (w64 ((w64 (v - f2.End)) + v10))) (fun _ => rfl) (TieO.ifH ?_))
       exact TieO.nil (TieS.leaf ⟨rfl, .of rfl rfl⟩)
      exact AllA.nil
     exact AllA.nil
    exact TieO.appendY (id := 39) (l := f4) (r := ([(⟨v11, 3, f2.Cylinder, 2⟩ : SEvent)] : List SEvent)) (tm' := [(2, .t (tI ticks)), (4, .ptr 4 0), (10, .t (tI (w64 ((w64 (v - f2.End)) + v10)))), (85, .own 85)]) (hp' := [(4, .box (x126_0 f2)), (85, .rs 68 4 ([(⟨v11, 3, f2.Cylinder, 2⟩ : SEvent)] : List SEvent) q14)]) rfl rfl rfl rfl rfl rfl rfl (fun _ => rfl) (fun _ => rfl) (.inl ⟨rfl, rfl⟩) (.inr ⟨_, rfl, rfl⟩) (.of rfl rfl) rfl rfl rfl fun l3 => .run 1 rfl (.nil (.leaf ⟨rfl, .of rfl rfl⟩))
   rintro f5 e σ' _ ⟨rfl, hs⟩
   refine TieX.sub hs (TieS.seq (.bind (Q₁ := fun t e σ' => e = .normal ∧ Sub ⟨[(6, .own 39)], [(39, .rs 68 4 t q14)]⟩ σ') ?_ ?_))
   ·refine TieX.pre fun v12 hv12 => TieX.pre fun v13 hv13 => TieS.draws 12 (bm 14 0) (bm 14 4095) ⟨[(87, .own 39), (98, .own 98)], [(4, .box (x126_0 f2)), (39, .rs 68 4 f5 q14), (98, .rs 68 4 ([(⟨v13, 4, f2.Cylinder, 2⟩ : SEvent)] : List SEvent) q14)]⟩ mixed (fun _ _ _ h => by cases h.1) rfl rfl rfl rfl ?_ ?_
    ·refine TieA.have_ (fuel₁ := 4) (l₁ := (bm 14 1023)) (σ₁ := ⟨[(87, .own 39), (94, .t (tI v13)), (96, .t (tI f2.Cylinder))], [(4, .box (x126_0 f2)), (39, .rs 68 4 f5 q14)]⟩) ?_ fun A_0 => ?_
     ·refine TieA.all [10] (by kernel_rfl) rfl (AllA.run _ rfl rfl rfl ?_ ?_)
      ·refine TieA.all [11] (by kernel_rfl) rfl (AllA.run _ rfl rfl rfl ?_ ?_)
       ·exact TieA.done (.of rfl rfl)
       exact AllA.nil
      exact AllA.nil
     refine TieA.have_ (fuel₁ := 7) (l₁ := (bm 14 799)) (σ₁ := ⟨[(87, .own 39), (88, .t (tI (w64 ((w64 (v - f2.End)) + v10)))), (90, .t (tI f2.Extra)), (91, .t (tI ticks)), (96, .t (tI f2.Cylinder))], [(4, .box (x126_0 f2)), (39, .rs 68 4 f5 q14)]⟩) ?_ fun A_1 => ?_
     ·refine TieA.all [5] (by kernel_rfl) rfl (AllA.cons (σ₁ := ⟨[(87, .own 39), (88, .t (tI (w64 ((w64 (v - f2.End)) + v10)))), (92, .t (tI v12)), (96, .t (tI f2.Cylinder))], [(4, .box (x126_0 f2)), (39, .rs 68 4 f5 q14)]⟩) _ rfl rfl ?_ ?_ ?_)
      ·refine TieO.withH hv12 (TieO.call _ rfl rfl rfl (q31 f2.Extra ticks) (fun _ => rfl) (TieO.ifH ?_))
       exact TieO.nil (TieS.leaf ⟨rfl, .of rfl rfl⟩)
      ·refine TieA.bin (V := .t (tI (w64 ((w64 ((w64 (v - f2.End)) + v10)) + v12)))) 6 _ rfl rfl rfl rfl rfl rfl (by kernel_rfl) (by kernel_rfl) (by kernel_rfl) rfl rfl rfl rfl (.all [7] (by kernel_rfl) rfl (AllA.cons _ rfl rfl ?_ A_0 ?_))
       ·refine TieO.withH hv13 (TieO.call _ rfl rfl rfl (q19 (w64 ((w64 ((w64 (v - f2.End)) + v10)) + v12))) (fun _ => rfl) (TieO.ifH ?_))
        exact TieO.nil (TieS.leaf ⟨rfl, .of rfl rfl⟩)
       exact AllA.nil
      exact AllA.nil
     refine TieA.mv 0 rfl (.inl rfl) rfl (by kernel_rfl) rfl (.mv 1 rfl (.inl rfl) rfl (by kernel_rfl) rfl (.fP 2 rfl rfl rfl (by kernel_rfl) rfl rfl rfl (.mv 4 rfl (.inl rfl) rfl (by kernel_rfl) rfl (.fP 8 rfl rfl rfl (by kernel_rfl) rfl rfl rfl ?_))))
     refine TieA.all [3, 9] (by kernel_rfl) rfl (AllA.run _ rfl rfl rfl ?_ ?_)
     ·refine TieA.all [5, 9] (by kernel_rfl) rfl (AllA.cons (σ₁ := ⟨[(87, .own 39), (88, .t (tI (w64 ((w64 (v - f2.End)) + v10)))), (92, .t (tI v12)), (95, .ptr 4 0)], [(4, .box (x126_0 f2)), (39, .rs 68 4 f5 q14)]⟩) _ rfl rfl ?_ ?_ ?_)
      ·refine TieO.withH hv12 (TieO.call _ rfl rfl rfl (q31 f2.Extra ticks) (fun _ => rfl) (TieO.ifH ?_))
       exact TieO.nil (TieS.leaf ⟨rfl, .of rfl rfl⟩)
      ·refine TieA.bin (V := .t (tI (w64 ((w64 ((w64 (v - f2.End)) + v10)) + v12)))) 6 _ rfl rfl rfl rfl rfl rfl (by kernel_rfl) (by kernel_rfl) (by kernel_rfl) rfl rfl rfl rfl (.all [7, 9] (by kernel_rfl) rfl (AllA.cons (σ₁ := ⟨[(87, .own 39), (94, .t (tI v13)), (95, .ptr 4 0)], [(4, .box (x126_0 f2)), (39, .rs 68 4 f5 q14)]⟩) _ rfl rfl ?_ ?_ ?_))
       ·refine TieO.withH hv13 (TieO.call _ rfl rfl rfl (q19 (w64 ((w64 ((w64 (v - f2.End)) + v10)) + v12))) (fun _ => rfl) (TieO.ifH ?_))
        exact TieO.nil (TieS.leaf ⟨rfl, .of rfl rfl⟩)
       ·exact TieA.all [9] (by kernel_rfl) rfl (AllA.runTo _ rfl rfl rfl (.of rfl rfl) A_0 (AllA.nil))
       refine AllA.run _ rfl rfl rfl ?_ ?_
       ·refine TieA.all [7] (by kernel_rfl) rfl (AllA.cons _ rfl rfl ?_ A_0 ?_)
        ·refine TieO.withH hv13 (TieO.call _ rfl rfl rfl (q19 (w64 ((w64 ((w64 (v - f2.End)) + v10)) + v12))) (fun _ => rfl) (TieO.ifH ?_))
         exact TieO.nil (TieS.leaf ⟨rfl, .of rfl rfl⟩)
        exact AllA.nil
       exact AllA.nil
      exact AllA.runTo _ rfl rfl rfl (.of rfl rfl) A_1 (AllA.nil)
     refine AllA.run _ rfl rfl rfl ?_ ?_
     ·exact TieA.all [3] (by kernel_rfl) rfl (AllA.runTo _ rfl rfl rfl (.of rfl rfl) A_1 (AllA.nil))
     exact AllA.nil
    exact TieO.appendY (id := 39) (l := f5) (r := ([(⟨v13, 4, f2.Cylinder, 2⟩ : SEvent)] : List SEvent)) (tm' := [(98, .own 98)]) (hp' := [(4, .box (x126_0 f2)), (98, .rs 68 4 ([(⟨v13, 4, f2.Cylinder, 2⟩ : SEvent)] : List SEvent) q14)]) rfl rfl rfl rfl rfl rfl rfl (fun _ => rfl) (fun _ => rfl) (.inl ⟨rfl, rfl⟩) (.inr ⟨_, rfl, rfl⟩) (.of rfl rfl) rfl rfl rfl fun l4 => .run 1 rfl (.nil (.leaf ⟨rfl, .of rfl rfl⟩))
   rintro v14 e σ' _ ⟨rfl, hs⟩
   exact TieX.sub hs (TieS.ret ⟨.inl rfl, rfl⟩)
set_option maxRecDepth 100000 in
theorem q314 (a : SEvent) (b2 : SEvent) : TieF Tryz.prog 142 [q185 a, q185 b2] (q161 a b2) (fun r => .t (tB r)) := by
 refine TieF.intro htab 40 [.tmp 4] Tryz.call142 Tryz.func142 rfl rfl rfl (Nat.le_of_ble_eq_true rfl) fun w0 L => ?_
 refine TieS.seq (.region (.run 3 rfl (.nil (.seq ?_))))
 refine TieS.seq (.region (.run 5 rfl (.nil (.cond rfl ?_ ?_))))
 ·exact TieS.seq (.region (.run 6 rfl (.nil (.ret ⟨.inl rfl, rfl⟩))))
 ·refine TieS.skip (.seq (.seq (.region (.run 5 rfl ?_))))
  refine TieO.nil (.cond rfl ?_ ?_)
  ·exact TieS.seq (.region (.run 6 rfl (.nil (.ret ⟨.inl rfl, rfl⟩))))
  ·refine TieS.skip (.seq (.seq (.region (.run 5 rfl ?_))))
   refine TieO.nil (.cond rfl ?_ ?_)
   ·exact TieS.seq (.region (.run 6 rfl (.nil (.ret ⟨.inl rfl, rfl⟩))))
   ·refine TieS.skip (.seq (.region (.run 6 rfl (.nil ?_))))
    exact TieS.ret ⟨.inl rfl, rfl⟩
abbrev x127_0 (x : SEvent) : List T := [.t (tI x.Angle), .t (tI x.Kind), .t (tI x.Cylinder), .t (tI x.Pulse)]
set_option maxRecDepth 100000 in
set_option maxHeartbeats 4000000 in
theorem q313 (l : List SEvent) (x : SEvent) : TieF Tryz.prog 127 [.t (tS q14 l), q185 x] (q159 l x) (fun r => .t (tS q14 r)) := by
 refine TieF.intro htab 36 [.tmp 4] Tryz.call127 Tryz.func127 rfl rfl rfl (Nat.le_of_ble_eq_true rfl) fun w0 L => ?_
 refine TieS.seq (.region (.run 2 rfl (.nil (.seq ?_))))
 refine TieS.region (.run 3 rfl (.nil (.seq (.block ?_))))
 refine TieS.loop (fun t => ⟨[(0, .t (tS q14 l)), (3, .ptr 3 0), (5, .t (tI t))], [(3, .box (x127_0 x))]⟩) (fun b e σ' => match b with | .inl t => e = .exit 0 ∧ Sub ⟨[(0, .t (tS q14 l)), (3, .ptr 3 0), (5, .t (tI t))], [(3, .box (x127_0 x))]⟩ σ' | .inr t => False) (.of rfl rfl) ?_ ?_
 ·intro i
  refine TieS.seq (.seq (.bind (Q₁ := fun t e σ' => e = .normal ∧ Sub ⟨[(0, .t (tS q14 l)), (3, .ptr 3 0), (5, .t (tI i)), (19, .t (tB t))], [(3, .box (x127_0 x))]⟩ σ') ?_ ?_))
  ·refine TieX.split (fun hg => ?_) (fun hg2 => ?_)
   ·exact TieX.pre fun x2 hx2 => TieX.pre fun v hv => TieS.draw 11 [_, _, _, _, _, _, _, _, _, _, _] [(0, .t (tS q14 l)), (3, .ptr 3 0), (5, .t (tI i))] [(3, .box (x127_0 x))] mixed (.of rfl rfl) rfl rfl rfl rfl (.cons (.quiet rfl rfl rfl) (.cons (.quiet rfl rfl rfl) (.cons (.cast (congrArg T.B hg) (.quiet rfl rfl rfl)) (.cons (.quiet rfl rfl rfl) (.cons (.quiet rfl rfl rfl) (.cons (.quiet rfl rfl rfl) (.cons (.quiet rfl rfl rfl) (.cons (.index hx2 rfl rfl rfl rfl rfl rfl (fun _ => rfl)) (.cons (.quiet rfl rfl rfl) (.cons (.callV (q314 x x2) hv rfl rfl rfl rfl) (.cons (.quiet rfl rfl rfl) (.nil)))))))))))) (.nil (.leaf ⟨rfl, .of rfl rfl⟩))
   ·exact TieS.draw 11 [_, _, _, _, _, _, _, _, _, _, _] [(0, .t (tS q14 l)), (3, .ptr 3 0), (5, .t (tI i))] [(3, .box (x127_0 x))] mixed (.of rfl rfl) rfl rfl rfl rfl (.cons (.quiet rfl rfl rfl) (.cons (.quiet rfl rfl rfl) (.cons (.cast (congrArg T.B hg2) (.quiet rfl rfl rfl)) (.cons (.skip rfl) (.cons (.skip rfl) (.cons (.skip rfl) (.cons (.skip rfl) (.cons (.skip rfl) (.cons (.skip rfl) (.cons (.skip rfl) (.cons (.quiet rfl rfl rfl) (.nil)))))))))))) (.nil (.leaf ⟨rfl, .of rfl rfl⟩))
  rintro v2 e σ' _ ⟨rfl, hs⟩
  refine TieX.sub hs (TieS.cond rfl ?_ ?_)
  ·refine TieS.skip (.block (.region (.run 3 rfl (.nil ?_))))
   exact TieS.endb (.leaf ⟨rfl, .of rfl rfl⟩)
  ·exact TieS.exitOut rfl ⟨(fun h => by cases h), rfl, .of rfl rfl⟩
 rintro (i2 | r) e σ' _ hq
 ·obtain ⟨rfl, hs⟩ := hq
  refine TieX.exit rfl (TieX.sub hs ?_)
  refine TieS.seq (.region (.run 3 rfl (.sliceF rfl rfl rfl rfl rfl rfl rfl (fun _ => rfl) rfl rfl fun l2 hl2 => .appendY (id := 22) (e' := 0) (l := ([] : List SEvent)) (r := l2) (tm' := [(0, .t (tS q14 l)), (3, .ptr 3 0), (5, .t (tI i2)), (23, .t (tS q14 l)), (24, .t (tI i2)), (25, .t (tS q14 l2))]) (hp' := [(3, .box (x127_0 x))]) rfl rfl rfl rfl rfl rfl rfl (fun _ => rfl) (fun _ => rfl) (.inl ⟨rfl, rfl⟩) (.inl rfl) (.of rfl rfl) rfl rfl rfl fun l3 => ?_)))
  refine TieO.run 1 rfl (.nil (.seq (.region (.run 3 rfl ?_))))
  refine TieO.appendY (id := 22) (l := l3) (r := ([x] : List SEvent)) (tm' := [(0, .t (tS q14 l)), (3, .ptr 3 0), (5, .t (tI i2)), (23, .t (tS q14 l)), (24, .t (tI i2)), (25, .t (tS q14 l2)), (28, .agg [.t (tI x.Angle), .t (tI x.Kind), .t (tI x.Cylinder), .t (tI x.Pulse)]), (29, .own 29)]) (hp' := [(3, .box (x127_0 x)), (29, .rs 68 4 ([x] : List SEvent) q14)]) rfl rfl rfl rfl rfl rfl rfl (fun _ => rfl) (fun _ => rfl) (.inl ⟨rfl, rfl⟩) (.inr ⟨_, rfl, rfl⟩) (.of rfl rfl) rfl rfl rfl fun l4 => .run 1 rfl (.nil (.seq (.region ?_)))
  refine TieO.run 3 rfl (.sliceF rfl rfl rfl rfl rfl rfl rfl (fun _ => rfl) rfl rfl fun l5 hl5 => .appendY (id := 22) (e' := 0) (l := l4) (r := l5) (tm' := [(0, .t (tS q14 l)), (3, .ptr 3 0), (5, .t (tI i2)), (23, .t (tS q14 l)), (24, .t (tI i2)), (25, .t (tS q14 l2)), (28, .agg [.t (tI x.Angle), .t (tI x.Kind), .t (tI x.Cylinder), .t (tI x.Pulse)]), (29, .own 29), (32, .t (tS q14 l)), (33, .t (tI i2)), (34, .t (tS q14 l5))]) (hp' := [(3, .box (x127_0 x)), (29, .rs 68 4 ([x] : List SEvent) q14)]) rfl rfl rfl rfl rfl rfl rfl (fun _ => rfl) (fun _ => rfl) (.inl ⟨rfl, rfl⟩) (.inl rfl) (.of rfl rfl) rfl rfl rfl fun l6 => .run 1 rfl (.nil ?_))
  exact TieS.ret ⟨.inl rfl, rfl⟩
 ·exact hq.elim
set_option maxRecDepth 100000 in
set_option maxHeartbeats 4000000 in
theorem q340 (e2 : SEngine) (l : List SFire) (ticks : Int) : TieF Tryz.prog 103 [q38 e2, .t (tS q16 l), .t (tI ticks)] (q195 e2 l ticks) (fun r => .tup [.t (tS q14 r.1), .t (tI r.2)]) := by
 refine TieF.intro htab 110 [.tmp 6, .tmp 7] Tryz.call103 Tryz.func103 rfl rfl rfl (Nat.le_of_ble_eq_true rfl) fun w0 L => ?_
 refine TieS.seq (.region (.run 3 rfl (.nil (.seq ?_))))
 refine TieS.seq (.region (.run 1 rfl (.nil (.block ?_))))
 refine TieS.loop (fun t => ⟨[(1, .t (tS q16 l)), (2, .t (tI ticks)), (3, .ptr 3 0), (8, .t (tI t))], [(3, .box [.t (tS Pv.encI e2.Order), .t (tI e2.First)])]⟩) (fun b e σ' => match b with | .inl t => e = .exit 0 ∧ Sub ⟨[(1, .t (tS q16 l)), (2, .t (tI ticks)), (3, .ptr 3 0)], [(3, .box [.t (tS Pv.encI e2.Order), .t (tI e2.First)])]⟩ σ' | .inr t => e = .ret ∧ retT tab σ' [.tmp 6, .tmp 7] = some (((fun r => .tup [.t (tS q14 r.1), .t (tI r.2)]) : (List SEvent × Int) → T) t)) (.of rfl rfl) ?_ ?_
 ·intro i
  refine TieS.seq (.seq (.region (.run 4 rfl (.nil ?_))))
  refine TieS.cond rfl ?_ ?_
  ·refine TieS.skip (.seq (.block (.seq (TieX.pre fun x hx => ?_))))
   refine TieX.pre fun v hv => TieS.draw 7 [_, _, _, _, _, _, _] [(1, .t (tS q16 l)), (2, .t (tI ticks)), (3, .ptr 3 0), (8, .t (tI i))] [(3, .box [.t (tS Pv.encI e2.Order), .t (tI e2.First)])] mixed (.of rfl rfl) rfl rfl rfl rfl (.cons (.quiet rfl rfl rfl) (.cons (.quiet rfl rfl rfl) (.cons (.quiet rfl rfl rfl) (.cons (.index hx rfl rfl rfl rfl rfl rfl (fun _ => rfl)) (.cons (.quiet rfl rfl rfl) (.cons (.callV (q263 e2 x) hv rfl rfl rfl rfl) (.cons (.quiet rfl rfl rfl) (.nil)))))))) (.nil (.cond rfl ?_ ?_))
   ·exact TieS.seq (.region (.run 2 rfl (.nil (.ret ⟨(fun h => by cases h), rfl, rfl⟩))))
   ·refine TieS.skip (.endb (.region (.run 3 rfl (.nil ?_))))
    exact TieS.leaf ⟨rfl, .of rfl rfl⟩
  ·exact TieS.exitOut rfl ⟨(fun h => by cases h), rfl, .of rfl rfl⟩
 rintro (i2 | r5) e σ' _ hq
 ·obtain ⟨rfl, hs⟩ := hq
  refine TieX.exit rfl (TieX.sub hs ?_)
  refine TieS.seq (.seq (.region (.run 3 rfl (.selOr (v := decide (ticks > 1000000)) 3 30 (fun b => ⟨[(1, .t (tS q16 l)), (2, .t (tI ticks)), (3, .ptr 3 0), (33, .t (tB b))], [(3, .box [.t (tS Pv.encI e2.Order), .t (tI e2.First)])]⟩) rfl ?_ ?_ ?_))))
  ·exact TieO.run 3 rfl (.nil (.leaf ⟨rfl, .of rfl rfl⟩))
  ·exact TieO.run 3 rfl (.nil (.leaf ⟨rfl, .of rfl rfl⟩))
  refine TieO.nil (.cond rfl ?_ ?_)
  ·exact TieS.seq (.region (.run 2 rfl (.nil (.ret ⟨.inl rfl, rfl⟩))))
  ·refine TieS.skip (.seq (.seq (.region (.run 1 rfl ?_))))
   refine TieO.nil (.block (.loop (fun t => ⟨[(1, .t (tS q16 l)), (2, .t (tI ticks)), (3, .ptr 3 0), (9, .t (tI t))], [(3, .box [.t (tS Pv.encI e2.Order), .t (tI e2.First)])]⟩) (fun b e σ' => match b with | .inl t => e = .exit 2 ∧ Sub ⟨[(1, .t (tS q16 l)), (2, .t (tI ticks)), (3, .ptr 3 0)], [(3, .box [.t (tS Pv.encI e2.Order), .t (tI e2.First)])]⟩ σ' | .inr t => e = .ret ∧ retT tab σ' [.tmp 6, .tmp 7] = some (((fun r => .tup [.t (tS q14 r.1), .t (tI r.2)]) : (List SEvent × Int) → T) t)) (.of rfl rfl) ?_ ?_))
   ·intro i3
    refine TieS.seq (.seq (.region (.run 4 rfl (.nil ?_))))
    refine TieS.cond rfl ?_ ?_
    ·refine TieS.skip (.seq (.block (.seq (.region ?_))))
     refine TieO.run 1 rfl (.nil (.block (.loop (fun t => ⟨[(1, .t (tS q16 l)), (2, .t (tI ticks)), (3, .ptr 3 0), (9, .t (tI i3)), (10, .t (tI t))], [(3, .box [.t (tS Pv.encI e2.Order), .t (tI e2.First)])]⟩) (fun b e σ' => match b with | .inl t => e = .exit 4 ∧ Sub ⟨[(1, .t (tS q16 l)), (2, .t (tI ticks)), (3, .ptr 3 0), (9, .t (tI i3))], [(3, .box [.t (tS Pv.encI e2.Order), .t (tI e2.First)])]⟩ σ' | .inr t => e = .ret ∧ retT tab σ' [.tmp 6, .tmp 7] = some (((fun r => .tup [.t (tS q14 r.1), .t (tI r.2)]) : (List SEvent × Int) → T) t)) (.of rfl rfl) ?_ ?_)))
     ·intro k
      refine TieS.seq (.seq (.region (.run 3 rfl (.nil ?_))))
      refine TieS.cond rfl ?_ ?_
      ·refine TieS.skip (.seq (.block (.seq (TieX.pre fun x2 hx2 => ?_))))
       refine TieX.pre fun x3 hx3 => TieS.draw 11 [_, _, _, _, _, _, _, _, _, _, _] [(1, .t (tS q16 l)), (2, .t (tI ticks)), (3, .ptr 3 0), (9, .t (tI i3)), (10, .t (tI k))] [(3, .box [.t (tS Pv.encI e2.Order), .t (tI e2.First)])] mixed (.of rfl rfl) rfl rfl rfl rfl (.cons (.quiet rfl rfl rfl) (.cons (.quiet rfl rfl rfl) (.cons (.index hx2 rfl rfl rfl rfl rfl rfl (fun _ => rfl)) (.cons (.quiet rfl rfl rfl) (.cons (.quiet rfl rfl rfl) (.cons (.quiet rfl rfl rfl) (.cons (.quiet rfl rfl rfl) (.cons (.index hx3 rfl rfl rfl rfl rfl rfl (fun _ => rfl)) (.cons (.quiet rfl rfl rfl) (.cons (.quiet rfl rfl rfl) (.cons (.quiet rfl rfl rfl) (.nil)))))))))))) (.nil (.cond rfl ?_ ?_))
       ·exact TieS.seq (.region (.run 2 rfl (.nil (.ret ⟨(fun h => by cases h), rfl, rfl⟩))))
       ·refine TieS.skip (.endb (.region (.run 3 rfl (.nil ?_))))
        exact TieS.leaf ⟨rfl, .of rfl rfl⟩
      ·exact TieS.exitOut rfl ⟨(fun h => by cases h), rfl, .of rfl rfl⟩
     rintro (k2 | r2) e σ' _ hq
     ·obtain ⟨rfl, hs⟩ := hq
      refine TieX.exit rfl (TieX.sub hs ?_)
      exact TieS.endb (.region (.run 3 rfl (.nil (.leaf ⟨rfl, .of rfl rfl⟩))))
     ·obtain ⟨rfl, hs⟩ := hq
      exact TieX.ret ⟨(fun h => by cases h), rfl, hs⟩
    ·exact TieS.exitOut rfl ⟨(fun h => by cases h), rfl, .of rfl rfl⟩
   rintro (i4 | r4) e σ' _ hq
   ·obtain ⟨rfl, hs⟩ := hq
    refine TieX.exit rfl (TieX.sub hs ?_)
    refine TieS.seq (.region (.run 1 rfl (.nil (.seq ?_))))
    refine TieS.seq (.region (.run 1 rfl (.nil (.block ?_))))
    refine TieS.loop (fun t => ⟨[(1, .t (tS q16 l)), (2, .t (tI ticks)), (3, .ptr 3 0), (11, .t (tS q14 t.1)), (12, .t (tI t.2))], [(3, .box [.t (tS Pv.encI e2.Order), .t (tI e2.First)])]⟩) (fun b e σ' => match b with | .inl t => e = .exit 6 ∧ Sub ⟨[(11, .t (tS q14 t.1))], []⟩ σ' | .inr t => e = .ret ∧ retT tab σ' [.tmp 6, .tmp 7] = some (((fun r => .tup [.t (tS q14 r.1), .t (tI r.2)]) : (List SEvent × Int) → T) t)) (.of rfl rfl) ?_ ?_
    ·intro s
     refine TieS.seq (.seq (.region (.run 4 rfl (.nil ?_))))
     refine TieS.cond rfl ?_ ?_
     ·refine TieS.skip (.seq (.block (.seq (.seq ?_))))
      refine TieS.region (.run 2 rfl (.index rfl rfl rfl rfl rfl rfl rfl rfl (fun _ => rfl) fun x4 hx4 => .run 3 rfl (.call _ rfl rfl rfl (q31 x4.Inject ticks) (fun _ => rfl) fun v2 => ?_)))
      refine TieO.run 2 rfl (.bind 9 (fun b2 => ⟨[(1, .t (tS q16 l)), (2, .t (tI ticks)), (3, .ptr 3 0), (11, .t (tS q14 s.1)), (12, .t (tI s.2)), (79, .t (tB b2))], [(3, .box [.t (tS Pv.encI e2.Order), .t (tI e2.First)])]⟩) (TieO.split 70 rfl ?_ ?_) fun b2 _ => ?_)
      ·exact TieO.run 9 rfl (.nil (.leaf ⟨rfl, .of rfl rfl⟩))
      ·refine TieO.run 2 rfl (.indexH hx4 rfl rfl rfl rfl rfl rfl rfl rfl (fun _ => rfl) (.run 3 rfl (.call _ rfl rfl rfl (q31 x4.Gap ticks) (fun _ => rfl) fun v3 => .run 2 rfl ?_)))
       exact TieO.nil (.leaf ⟨rfl, .of rfl rfl⟩)
      refine TieO.run 1 rfl (.bind 9 (fun b3 => ⟨[(1, .t (tS q16 l)), (2, .t (tI ticks)), (3, .ptr 3 0), (11, .t (tS q14 s.1)), (12, .t (tI s.2)), (89, .t (tB b3))], [(3, .box [.t (tS Pv.encI e2.Order), .t (tI e2.First)])]⟩) (TieO.split 80 rfl ?_ ?_) fun b3 _ => ?_)
      ·exact TieO.run 9 rfl (.nil (.leaf ⟨rfl, .of rfl rfl⟩))
      ·refine TieO.run 2 rfl (.indexH hx4 rfl rfl rfl rfl rfl rfl rfl rfl (fun _ => rfl) (.run 3 rfl (.call _ rfl rfl rfl (q31 x4.Extra ticks) (fun _ => rfl) fun v4 => .run 2 rfl ?_)))
       exact TieO.nil (.leaf ⟨rfl, .of rfl rfl⟩)
      refine TieO.nil (.cond rfl ?_ ?_)
      ·exact TieS.seq (.region (.run 2 rfl (.nil (.ret ⟨(fun h => by cases h), rfl, rfl⟩))))
      ·refine TieS.skip (.seq (TieX.pre fun v5 hv5 => TieS.draw 8 [_, _, _, _, _, _, _, _] [(1, .t (tS q16 l)), (2, .t (tI ticks)), (3, .ptr 3 0), (11, .t (tS q14 s.1)), (12, .t (tI s.2))] [(3, .box [.t (tS Pv.encI e2.Order), .t (tI e2.First)])] mixed (.of rfl rfl) rfl rfl rfl rfl (.cons (.quiet rfl rfl rfl) (.cons (.quiet rfl rfl rfl) (.cons (.quiet rfl rfl rfl) (.cons (.index hx4 rfl rfl rfl rfl rfl rfl (fun _ => rfl)) (.cons (.quiet rfl rfl rfl) (.cons (.quiet rfl rfl rfl) (.cons (.callV (q316 e2 x4 ticks) hv5 rfl rfl rfl rfl) (.cons (.quiet rfl rfl rfl) (.nil))))))))) (.nil ?_)))
       refine TieS.seq (.region (.run 1 rfl (.nil (.block ?_))))
       refine TieS.loop (fun t => ⟨[(1, .t (tS q16 l)), (2, .t (tI ticks)), (3, .ptr 3 0), (11, .t (tS q14 t.1)), (12, .t (tI s.2)), (13, .t (tS q14 v5)), (14, .t (tI t.2))], [(3, .box [.t (tS Pv.encI e2.Order), .t (tI e2.First)])]⟩) (fun b e σ' => match b with | .inl t => e = .exit 8 ∧ Sub ⟨[(1, .t (tS q16 l)), (2, .t (tI ticks)), (3, .ptr 3 0), (11, .t (tS q14 t.1)), (12, .t (tI s.2))], [(3, .box [.t (tS Pv.encI e2.Order), .t (tI e2.First)])]⟩ σ' | .inr t => False) (.of rfl rfl) ?_ ?_
       ·intro s2
        refine TieS.seq (.seq (.region (.run 4 rfl (.nil ?_))))
        refine TieS.cond rfl ?_ ?_
        ·refine TieS.skip (.seq (.block (.region (.run 3 rfl ?_))))
         refine TieO.index rfl rfl rfl rfl rfl rfl rfl rfl (fun _ => rfl) fun x5 hx5 => .run 1 rfl (.call _ rfl rfl rfl (q313 s2.1 x5) (fun _ => rfl) fun v6 => .run 1 rfl (.nil ?_))
         exact TieS.endb (.region (.run 3 rfl (.nil (.leaf ⟨rfl, .of rfl rfl⟩))))
        ·exact TieS.exitOut rfl ⟨(fun h => by cases h), rfl, .of rfl rfl⟩
       rintro (s3 | r) e σ' _ hq
       ·obtain ⟨rfl, hs⟩ := hq
        refine TieX.exit rfl (TieX.sub hs ?_)
        exact TieS.endb (.region (.run 3 rfl (.nil (.leaf ⟨rfl, .of rfl rfl⟩))))
       ·exact hq.elim
     ·exact TieS.exitOut rfl ⟨(fun h => by cases h), rfl, .of rfl rfl⟩
    rintro (s4 | r3) e σ' _ hq
    ·obtain ⟨rfl, hs⟩ := hq
     refine TieX.exit rfl (TieX.sub hs ?_)
     exact TieS.seq (.region (.run 3 rfl (.nil (.ret ⟨.inl rfl, rfl⟩))))
    ·obtain ⟨rfl, hs⟩ := hq
     exact TieX.ret ⟨.inl rfl, hs⟩
   ·obtain ⟨rfl, hs⟩ := hq
    exact TieX.ret ⟨.inl rfl, hs⟩
 ·obtain ⟨rfl, hs⟩ := hq
  exact TieX.ret ⟨.inl rfl, hs⟩
set_option maxRecDepth 100000 in
theorem q327 (l : List SJob) (channel : Int) : TieG Tryz.prog 72 [.own 1000000, .t (tI channel)] [(1000000, .rs 85 7 l q13)] (q119 l channel) (fun r => .t (tS q13 r)) (fun _ => [(1000000, .rs 85 7 l q13)]) := by
 refine TieG.intro htab 29 [.tmp 4] Tryz.call72 Tryz.func72 rfl rfl rfl (Nat.le_of_ble_eq_true rfl) fun w0 L => ?_
 refine TieS.seq (.region (.run 1 rfl (.nil (.seq ?_))))
 refine TieS.region (.run 1 rfl (.nil (.seq (.seq ?_))))
 refine TieS.region (.run 1 rfl (.nil (.block (TieX.nilP 5 2216 85 7 [] rfl rfl rfl rfl rfl ?_))))
 refine TieS.loop (fun t => ⟨[(0, .own 1000000), (1, .t (tI channel)), (5, .own 2216), (6, .t (tI t.2))], [(2216, .rs 85 7 t.1 q13), (1000000, .rs 85 7 l q13)]⟩) (fun b e σ' => match b with | .inl t => e = .exit 0 ∧ Sub ⟨[(5, .own 2216)], [(2216, .rs 85 7 t.1 q13), (1000000, .rs 85 7 l q13)]⟩ σ' | .inr t => False) (.of rfl rfl) ?_ ?_
 ·intro s
  refine TieS.seq (.seq (.region (.run 4 rfl (.nil ?_))))
  refine TieS.cond rfl ?_ ?_
  ·refine TieS.skip (.seq (.block (.seq (.region ?_))))
   refine TieO.run 2 rfl (.indexO rfl rfl rfl rfl rfl rfl rfl rfl rfl rfl fun x hx => .run 1 rfl (.loadY hx rfl rfl rfl rfl rfl rfl rfl rfl (.call _ rfl rfl rfl (q58 x.Event) (fun _ => rfl) fun v => ?_)))
   refine TieO.run 2 rfl (.nil (.cond rfl ?_ ?_))
   ·refine TieS.region (.run 3 rfl (.indexOH hx rfl rfl rfl rfl rfl rfl rfl rfl rfl rfl (.loadY hx rfl rfl rfl rfl rfl rfl rfl rfl (.run 1 rfl ?_))))
    refine TieO.appendY (id := 2216) (l := s.1) (r := ([x] : List SJob)) (tm' := [(0, .own 1000000), (1, .t (tI channel)), (6, .t (tI s.2)), (7, .t (tI s.2)), (8, .own 1000000), (9, .t (tI (l.length : Int))), (10, .t (tB (decide (s.2 < (l.length : Int))))), (13, .own 1000000), (14, .t (tI s.2)), (15, .pe 1000000 (Int.toNat s.2) 7 0), (16, .pe 1000000 (Int.toNat s.2) 7 0), (17, .agg [.t (tI x.Event.Angle), .t (tI x.Event.Kind), .t (tI x.Event.Cylinder), .t (tI x.Event.Pulse)]), (18, .t (tI v)), (19, .t (tI channel)), (20, .t (tB (v == channel))), (22, .own 1000000), (23, .t (tI s.2)), (24, .pe 1000000 (Int.toNat s.2) 7 0), (25, .agg [.t (tI x.Event.Angle), .t (tI x.Event.Kind), .t (tI x.Event.Cylinder), .t (tI x.Event.Pulse), .t (tI x.Left), .t (tB x.Armed), .t (tI x.At)]), (26, .own 26)]) (hp' := [(26, .rs 85 7 ([x] : List SJob) q13), (1000000, .rs 85 7 l q13)]) rfl rfl rfl rfl rfl rfl rfl (fun _ => rfl) (fun _ => rfl) (.inl ⟨rfl, rfl⟩) (.inr ⟨_, rfl, rfl⟩) (.of rfl rfl) rfl rfl rfl fun l2 => .run 1 rfl (.nil (.endb (.region ?_)))
    exact TieO.run 3 rfl (.nil (.leaf ⟨rfl, .of rfl rfl⟩))
   ·refine TieS.skip (.endb (.region (.run 3 rfl (.nil ?_))))
    exact TieS.leaf ⟨rfl, .of rfl rfl⟩
  ·exact TieS.exitOut rfl ⟨(fun h => by cases h), rfl, .of rfl rfl⟩
 rintro (s2 | r) e σ' _ hq
 ·obtain ⟨rfl, hs⟩ := hq
  refine TieX.exit rfl (TieX.sub hs ?_)
  refine TieS.seq (.region (.run 2 rfl (.nil (TieX.frz 2216 rfl ?_))))
  exact TieS.ret ⟨.inl rfl, ⟨[(1000000, 1000000)], _, _, rfl, rfl, rfl, rfl, rfl⟩⟩
 ·exact hq.elim
abbrev x50_0 (f2 : SFire) : List T := [.t (tI f2.Cylinder), .t (tI f2.Spark), .t (tI f2.Dwell), .t (tI f2.End), .t (tI f2.Inject), .t (tI f2.Gap), .t (tI f2.Extra)]
abbrev x50_1 (s2 : SEvent × Int) : List T := [.t (tI s2.1.Angle), .t (tI s2.1.Kind), .t (tI s2.1.Cylinder), .t (tI s2.1.Pulse), .t (tI s2.2), .t (tB false), .t (tI 0)]
abbrev x50_2 : List T := [.t (tI 0), .t (tI 0), .t (tI 0), .t (tI 0), .t (tI 0), .t (tB false), .t (tI 0)]
set_option maxRecDepth 100000 in
set_option maxHeartbeats 4000000 in
theorem q312 (e2 : SEngine) (f2 : SFire) (ticks : Int) : TieG Tryz.prog 50 [q38 e2, A_SFire f2, .t (tI ticks)] [] (q160 e2 f2 ticks) (fun _ => .own 900000) (fun r => [(900000, .rs 85 7 r q13)]) := by
 refine TieG.intro htab 169 [.tmp 6] Tryz.call50 Tryz.func50 rfl rfl rfl (Nat.le_of_ble_eq_true rfl) fun w0 L => ?_
 refine TieS.seq (.region (.run 3 rfl (.nil (.seq ?_))))
 refine TieS.region (.run 4 rfl (.frz 22 rfl (.call _ rfl rfl rfl (q340 e2 ([f2] : List SFire) ticks) (fun _ => rfl) fun r2 => .run 5 rfl ?_)))
 refine TieO.nil (.seq (.seq (.region (.run 2 rfl ?_))))
 refine TieO.nil (.cond rfl ?_ ?_)
 ·refine TieS.seq (.region (.run 1 rfl (.nil (TieX.nilP 6 70000 85 7 [] rfl rfl rfl rfl rfl ?_))))
  exact TieS.ret ⟨.inl rfl, ⟨[(70000, 900000)], _, _, rfl, rfl, rfl, rfl, rfl⟩⟩
 ·refine TieS.skip (.seq (.region (.run 3 rfl (.call _ rfl rfl rfl (q248 e2 f2.Cylinder) (fun _ => rfl) fun v => ?_))))
  refine TieO.run 1 rfl (.nil (.seq (.region (.run 1 rfl ?_))))
  refine TieO.nil (.seq (.seq (.region (.run 1 rfl ?_))))
  refine TieO.nil (.block (TieX.nilP 10 92 85 7 [] rfl rfl rfl rfl rfl (TieS.loop (fun t => ⟨[(4, .ptr 4 0), (7, .t (tS q14 r2.1)), (9, .t (tI v)), (10, .own 92), (11, .t (tI t.2))], [(4, .box (x50_0 f2)), (92, .rs 85 7 t.1 q13)]⟩) (fun b e σ' => match b with | .inl t => e = .exit 0 ∧ Sub ⟨[(4, .ptr 4 0), (10, .own 92)], [(4, .box (x50_0 f2)), (92, .rs 85 7 t.1 q13)]⟩ σ' | .inr t => False) (.of rfl rfl) ?_ ?_)))
  ·intro s
   refine TieS.seq (.seq (.region (.run 4 rfl (.nil ?_))))
   refine TieS.cond rfl ?_ ?_
   ·refine TieS.skip (.seq (.block (.seq (.bind (Q₁ := fun t e σ' => e = .normal ∧ Sub ⟨[(4, .ptr 4 0), (7, .t (tS q14 r2.1)), (9, .t (tI v)), (10, .own 92), (11, .t (tI s.2)), (12, .ptr 12 0)], [(4, .box (x50_0 f2)), (12, .box [.t (tI t.1.Angle), .t (tI t.1.Kind), .t (tI t.1.Cylinder), .t (tI t.1.Pulse), .t (tI t.2), .t (tB false), .t (tI 0)]), (92, .rs 85 7 s.1 q13)]⟩ σ') ?_ ?_))))
    ·refine TieX.pre fun x hx => TieX.pre fun v2 hv2 => TieS.draws 13 (bm 14 0) (bm 14 8191) ⟨[(4, .ptr 4 0), (7, .t (tS q14 r2.1)), (9, .t (tI v)), (10, .own 92), (11, .t (tI s.2)), (12, .ptr 12 0), (50, .agg [.t (tI x.Angle), .t (tI x.Kind), .t (tI x.Cylinder), .t (tI x.Pulse), .t (tI v2), .t (tB false), .t (tI 0)])], [(4, .box (x50_0 f2)), (12, .box x50_2), (92, .rs 85 7 s.1 q13)]⟩ mixed (fun _ _ _ h => by cases h.1) rfl rfl rfl rfl ?_ ?_
     ·refine TieA.have_ (fuel₁ := 2) (l₁ := (bm 14 6143)) (σ₁ := ⟨[(4, .ptr 4 0), (7, .t (tS q14 r2.1)), (9, .t (tI v)), (10, .own 92), (11, .t (tI s.2)), (12, .ptr 12 0), (42, .agg [.t (tI x.Angle), .t (tI x.Kind), .t (tI x.Cylinder), .t (tI x.Pulse)]), (49, .t (tI v2))], [(4, .box (x50_0 f2)), (12, .box x50_2), (92, .rs 85 7 s.1 q13)]⟩) ?_ fun A_2 => ?_
      ·refine TieA.all [11] (by kernel_rfl) rfl (AllA.run _ rfl rfl rfl ?_ ?_)
       ·exact TieA.done (.of rfl rfl)
       exact AllA.nil
      refine TieA.have_ (fuel₁ := 3) (l₁ := (bm 14 2047)) (σ₁ := ⟨[(4, .ptr 4 0), (7, .t (tS q14 r2.1)), (9, .t (tI v)), (10, .own 92), (11, .t (tI s.2)), (42, .agg [.t (tI x.Angle), .t (tI x.Kind), .t (tI x.Cylinder), .t (tI x.Pulse)]), (49, .t (tI v2))], [(4, .box (x50_0 f2)), (92, .rs 85 7 s.1 q13)]⟩) ?_ fun A_1 => ?_
      ·refine TieA.all [11, 12] (by kernel_rfl) rfl (AllA.run _ rfl rfl rfl ?_ ?_)
       ·refine TieA.all [12] (by kernel_rfl) rfl (AllA.run _ rfl rfl rfl ?_ ?_)
        ·exact TieA.done (.of rfl rfl)
        exact AllA.nil
       exact AllA.runTo _ rfl rfl rfl (.of rfl rfl) A_2 (AllA.nil)
      refine TieA.have_ (fuel₁ := 3) (l₁ := (bm 14 5119)) (σ₁ := ⟨[(4, .ptr 4 0), (7, .t (tS q14 r2.1)), (9, .t (tI v)), (10, .own 92), (11, .t (tI s.2)), (12, .ptr 12 0), (42, .agg [.t (tI x.Angle), .t (tI x.Kind), .t (tI x.Cylinder), .t (tI x.Pulse)]), (43, .t (tI v)), (48, .t (tI x.Angle))], [(4, .box (x50_0 f2)), (12, .box x50_2), (92, .rs 85 7 s.1 q13)]⟩) ?_ fun A_3 => ?_
      ·refine TieA.all [10] (by kernel_rfl) rfl (AllA.cons _ rfl rfl ?_ A_2 ?_)
       ·refine TieO.withH hv2 (TieO.call _ rfl rfl rfl (q28 v x.Angle) (fun _ => rfl) (TieO.ifH ?_))
        exact TieO.nil (TieS.leaf ⟨rfl, .of rfl rfl⟩)
       exact AllA.nil
      refine TieA.have_ (fuel₁ := 4) (l₁ := (bm 14 1023)) (σ₁ := ⟨[(4, .ptr 4 0), (7, .t (tS q14 r2.1)), (9, .t (tI v)), (10, .own 92), (11, .t (tI s.2)), (42, .agg [.t (tI x.Angle), .t (tI x.Kind), .t (tI x.Cylinder), .t (tI x.Pulse)]), (43, .t (tI v)), (48, .t (tI x.Angle))], [(4, .box (x50_0 f2)), (92, .rs 85 7 s.1 q13)]⟩) ?_ fun A_0 => ?_
      ·refine TieA.all [10, 12] (by kernel_rfl) rfl (AllA.cons _ rfl rfl ?_ A_1 ?_)
       ·refine TieO.withH hv2 (TieO.call _ rfl rfl rfl (q28 v x.Angle) (fun _ => rfl) (TieO.ifH ?_))
        exact TieO.nil (TieS.leaf ⟨rfl, .of rfl rfl⟩)
       exact AllA.runTo _ rfl rfl rfl (.of rfl rfl) A_3 (AllA.nil)
      refine TieA.have_ (fuel₁ := 4) (l₁ := (bm 14 4607)) (σ₁ := ⟨[(4, .ptr 4 0), (7, .t (tS q14 r2.1)), (9, .t (tI v)), (10, .own 92), (11, .t (tI s.2)), (12, .ptr 12 0), (42, .agg [.t (tI x.Angle), .t (tI x.Kind), .t (tI x.Cylinder), .t (tI x.Pulse)]), (43, .t (tI v)), (47, .el (List.drop 0 (q14 x)))], [(4, .box (x50_0 f2)), (12, .box x50_2), (92, .rs 85 7 s.1 q13)]⟩) ?_ fun A_4 => ?_
      ·exact TieA.all [9] (by kernel_rfl) rfl (AllA.runTo _ rfl rfl rfl (.of rfl rfl) A_3 (AllA.nil))
      refine TieA.have_ (fuel₁ := 6) (l₁ := (bm 14 4223)) (σ₁ := ⟨[(4, .ptr 4 0), (7, .t (tS q14 r2.1)), (9, .t (tI v)), (10, .own 92), (11, .t (tI s.2)), (12, .ptr 12 0), (42, .agg [.t (tI x.Angle), .t (tI x.Kind), .t (tI x.Cylinder), .t (tI x.Pulse)]), (43, .t (tI v)), (44, .t (tS q14 r2.1)), (45, .t (tI s.2))], [(4, .box (x50_0 f2)), (12, .box x50_2), (92, .rs 85 7 s.1 q13)]⟩) ?_ fun A_5 => ?_
      ·refine TieA.all [7] (by kernel_rfl) rfl (AllA.cons (σ₁ := ⟨[(4, .ptr 4 0), (7, .t (tS q14 r2.1)), (9, .t (tI v)), (10, .own 92), (11, .t (tI s.2)), (12, .ptr 12 0), (42, .agg [.t (tI x.Angle), .t (tI x.Kind), .t (tI x.Cylinder), .t (tI x.Pulse)]), (43, .t (tI v)), (46, .el (q14 x))], [(4, .box (x50_0 f2)), (12, .box x50_2), (92, .rs 85 7 s.1 q13)]⟩) _ rfl rfl ?_ ?_ ?_)
       ·exact TieO.indexH hx rfl rfl rfl rfl rfl rfl rfl rfl (fun _ => rfl) (.nil (TieS.leaf ⟨rfl, .of rfl rfl⟩))
       ·exact TieA.fE 8 rfl rfl rfl (by kernel_rfl) rfl rfl rfl (.all [9] (by kernel_rfl) rfl (AllA.runTo _ rfl rfl rfl (.of rfl rfl) A_3 (AllA.nil)))
       exact AllA.nil
      refine TieA.have_ (fuel₁ := 5) (l₁ := (bm 14 511)) (σ₁ := ⟨[(4, .ptr 4 0), (7, .t (tS q14 r2.1)), (9, .t (tI v)), (10, .own 92), (11, .t (tI s.2)), (42, .agg [.t (tI x.Angle), .t (tI x.Kind), .t (tI x.Cylinder), .t (tI x.Pulse)]), (43, .t (tI v)), (47, .el (List.drop 0 (q14 x)))], [(4, .box (x50_0 f2)), (92, .rs 85 7 s.1 q13)]⟩) ?_ fun A_6 => ?_
      ·exact TieA.all [9, 12] (by kernel_rfl) rfl (AllA.runTo _ rfl rfl rfl (.of rfl rfl) A_0 (AllA.runTo _ rfl rfl rfl (.of rfl rfl) A_4 (AllA.nil)))
      refine TieA.have_ (fuel₁ := 3) (l₁ := (bm 14 6135)) (σ₁ := ⟨[(4, .ptr 4 0), (7, .t (tS q14 r2.1)), (9, .t (tI v)), (10, .own 92), (11, .t (tI s.2)), (12, .ptr 12 0), (41, .el (q14 x)), (49, .t (tI v2))], [(4, .box (x50_0 f2)), (12, .box x50_2), (92, .rs 85 7 s.1 q13)]⟩) ?_ fun A_9 => ?_
      ·exact TieA.all [3] (by kernel_rfl) rfl (AllA.runTo _ rfl rfl rfl (.of rfl rfl) A_2 (AllA.nil))
      refine TieA.have_ (fuel₁ := 4) (l₁ := (bm 14 2039)) (σ₁ := ⟨[(4, .ptr 4 0), (7, .t (tS q14 r2.1)), (9, .t (tI v)), (10, .own 92), (11, .t (tI s.2)), (41, .el (q14 x)), (49, .t (tI v2))], [(4, .box (x50_0 f2)), (92, .rs 85 7 s.1 q13)]⟩) ?_ fun A_8 => ?_
      ·exact TieA.all [3, 12] (by kernel_rfl) rfl (AllA.runTo _ rfl rfl rfl (.of rfl rfl) A_1 (AllA.runTo _ rfl rfl rfl (.of rfl rfl) A_9 (AllA.nil)))
      refine TieA.have_ (fuel₁ := 4) (l₁ := (bm 14 5111)) (σ₁ := ⟨[(4, .ptr 4 0), (7, .t (tS q14 r2.1)), (9, .t (tI v)), (10, .own 92), (11, .t (tI s.2)), (12, .ptr 12 0), (41, .el (q14 x)), (43, .t (tI v)), (48, .t (tI x.Angle))], [(4, .box (x50_0 f2)), (12, .box x50_2), (92, .rs 85 7 s.1 q13)]⟩) ?_ fun A_10 => ?_
      ·refine TieA.all [3, 10] (by kernel_rfl) rfl (AllA.runTo _ rfl rfl rfl (.of rfl rfl) A_3 (AllA.cons _ rfl rfl ?_ A_9 ?_))
       ·refine TieO.withH hv2 (TieO.call _ rfl rfl rfl (q28 v x.Angle) (fun _ => rfl) (TieO.ifH ?_))
        exact TieO.nil (TieS.leaf ⟨rfl, .of rfl rfl⟩)
       exact AllA.nil
      refine TieA.have_ (fuel₁ := 5) (l₁ := (bm 14 1015)) (σ₁ := ⟨[(4, .ptr 4 0), (7, .t (tS q14 r2.1)), (9, .t (tI v)), (10, .own 92), (11, .t (tI s.2)), (41, .el (q14 x)), (43, .t (tI v)), (48, .t (tI x.Angle))], [(4, .box (x50_0 f2)), (92, .rs 85 7 s.1 q13)]⟩) ?_ fun A_7 => ?_
      ·refine TieA.all [3, 10, 12] (by kernel_rfl) rfl (AllA.runTo _ rfl rfl rfl (.of rfl rfl) A_0 (AllA.cons _ rfl rfl ?_ A_8 ?_))
       ·refine TieO.withH hv2 (TieO.call _ rfl rfl rfl (q28 v x.Angle) (fun _ => rfl) (TieO.ifH ?_))
        exact TieO.nil (TieS.leaf ⟨rfl, .of rfl rfl⟩)
       exact AllA.runTo _ rfl rfl rfl (.of rfl rfl) A_10 (AllA.nil)
      refine TieA.have_ (fuel₁ := 5) (l₁ := (bm 14 4599)) (σ₁ := ⟨[(4, .ptr 4 0), (7, .t (tS q14 r2.1)), (9, .t (tI v)), (10, .own 92), (11, .t (tI s.2)), (12, .ptr 12 0), (41, .el (q14 x)), (43, .t (tI v)), (47, .el (List.drop 0 (q14 x)))], [(4, .box (x50_0 f2)), (12, .box x50_2), (92, .rs 85 7 s.1 q13)]⟩) ?_ fun A_11 => ?_
      ·exact TieA.all [3, 9] (by kernel_rfl) rfl (AllA.runTo _ rfl rfl rfl (.of rfl rfl) A_4 (AllA.runTo _ rfl rfl rfl (.of rfl rfl) A_10 (AllA.nil)))
      refine TieA.have_ (fuel₁ := 7) (l₁ := (bm 14 4215)) (σ₁ := ⟨[(4, .ptr 4 0), (7, .t (tS q14 r2.1)), (9, .t (tI v)), (10, .own 92), (11, .t (tI s.2)), (12, .ptr 12 0), (41, .el (q14 x)), (43, .t (tI v)), (44, .t (tS q14 r2.1)), (45, .t (tI s.2))], [(4, .box (x50_0 f2)), (12, .box x50_2), (92, .rs 85 7 s.1 q13)]⟩) ?_ fun A_12 => ?_
      ·refine TieA.all [3, 7] (by kernel_rfl) rfl (AllA.runTo _ rfl rfl rfl (.of rfl rfl) A_5 (AllA.cons (σ₁ := ⟨[(4, .ptr 4 0), (7, .t (tS q14 r2.1)), (9, .t (tI v)), (10, .own 92), (11, .t (tI s.2)), (12, .ptr 12 0), (41, .el (q14 x)), (43, .t (tI v)), (46, .el (q14 x))], [(4, .box (x50_0 f2)), (12, .box x50_2), (92, .rs 85 7 s.1 q13)]⟩) _ rfl rfl ?_ ?_ ?_))
       ·exact TieO.indexH hx rfl rfl rfl rfl rfl rfl rfl rfl (fun _ => rfl) (.nil (TieS.leaf ⟨rfl, .of rfl rfl⟩))
       ·exact TieA.fE 8 rfl rfl rfl (by kernel_rfl) rfl rfl rfl (.all [3, 9] (by kernel_rfl) rfl (AllA.runTo _ rfl rfl rfl (.of rfl rfl) A_4 (AllA.runTo _ rfl rfl rfl (.of rfl rfl) A_10 (AllA.nil))))
       exact AllA.nil
      refine TieA.have_ (fuel₁ := 4) (l₁ := (bm 14 6131)) (σ₁ := ⟨[(4, .ptr 4 0), (7, .t (tS q14 r2.1)), (9, .t (tI v)), (10, .own 92), (11, .t (tI s.2)), (12, .ptr 12 0), (39, .t (tS q14 r2.1)), (40, .t (tI s.2)), (49, .t (tI v2))], [(4, .box (x50_0 f2)), (12, .box x50_2), (92, .rs 85 7 s.1 q13)]⟩) ?_ fun A_13 => ?_
      ·refine TieA.all [2] (by kernel_rfl) rfl (AllA.cons _ rfl rfl ?_ A_9 ?_)
       ·exact TieO.indexH hx rfl rfl rfl rfl rfl rfl rfl rfl (fun _ => rfl) (.nil (TieS.leaf ⟨rfl, .of rfl rfl⟩))
       exact AllA.nil
      refine TieA.have_ (fuel₁ := 5) (l₁ := (bm 14 5107)) (σ₁ := ⟨[(4, .ptr 4 0), (7, .t (tS q14 r2.1)), (9, .t (tI v)), (10, .own 92), (11, .t (tI s.2)), (12, .ptr 12 0), (39, .t (tS q14 r2.1)), (40, .t (tI s.2)), (43, .t (tI v)), (48, .t (tI x.Angle))], [(4, .box (x50_0 f2)), (12, .box x50_2), (92, .rs 85 7 s.1 q13)]⟩) ?_ fun A_14 => ?_
      ·refine TieA.all [2, 10] (by kernel_rfl) rfl (AllA.cons _ rfl rfl ?_ A_10 ?_)
       ·exact TieO.indexH hx rfl rfl rfl rfl rfl rfl rfl rfl (fun _ => rfl) (.nil (TieS.leaf ⟨rfl, .of rfl rfl⟩))
       refine AllA.cons _ rfl rfl ?_ A_13 ?_
       ·refine TieO.withH hv2 (TieO.call _ rfl rfl rfl (q28 v x.Angle) (fun _ => rfl) (TieO.ifH ?_))
        exact TieO.nil (TieS.leaf ⟨rfl, .of rfl rfl⟩)
       exact AllA.nil
      refine TieA.mv 0 rfl (.inl rfl) rfl (by kernel_rfl) rfl (.mv 1 rfl (.inl rfl) rfl (by kernel_rfl) rfl (.mv 4 rfl (.inl rfl) rfl (by kernel_rfl) rfl (.mv 5 rfl (.inl rfl) rfl (by kernel_rfl) rfl (.mv 6 rfl (.inl rfl) rfl (by kernel_rfl) rfl ?_))))
      refine TieA.all [2, 7, 12] (by kernel_rfl) rfl (AllA.cons (σ₁ := ⟨[(4, .ptr 4 0), (7, .t (tS q14 r2.1)), (9, .t (tI v)), (10, .own 92), (11, .t (tI s.2)), (41, .el (q14 x)), (43, .t (tI v)), (44, .t (tS q14 r2.1)), (45, .t (tI s.2))], [(4, .box (x50_0 f2)), (92, .rs 85 7 s.1 q13)]⟩) _ rfl rfl ?_ ?_ ?_)
      ·exact TieO.indexH hx rfl rfl rfl rfl rfl rfl rfl rfl (fun _ => rfl) (.nil (TieS.leaf ⟨rfl, .of rfl rfl⟩))
      ·refine TieA.all [3, 7, 12] (by kernel_rfl) rfl (AllA.run _ rfl rfl rfl ?_ ?_)
       ·refine TieA.all [7, 12] (by kernel_rfl) rfl (AllA.cons (σ₁ := ⟨[(4, .ptr 4 0), (7, .t (tS q14 r2.1)), (9, .t (tI v)), (10, .own 92), (11, .t (tI s.2)), (42, .agg [.t (tI x.Angle), .t (tI x.Kind), .t (tI x.Cylinder), .t (tI x.Pulse)]), (43, .t (tI v)), (46, .el (q14 x))], [(4, .box (x50_0 f2)), (92, .rs 85 7 s.1 q13)]⟩) _ rfl rfl ?_ ?_ ?_)
        ·exact TieO.indexH hx rfl rfl rfl rfl rfl rfl rfl rfl (fun _ => rfl) (.nil (TieS.leaf ⟨rfl, .of rfl rfl⟩))
        ·exact TieA.fE 8 rfl rfl rfl (by kernel_rfl) rfl rfl rfl (.all [9, 12] (by kernel_rfl) rfl (AllA.runTo _ rfl rfl rfl (.of rfl rfl) A_0 (AllA.runTo _ rfl rfl rfl (.of rfl rfl) A_4 (AllA.nil))))
        exact AllA.runTo _ rfl rfl rfl (.of rfl rfl) A_5 (AllA.nil)
       refine AllA.cons (σ₁ := ⟨[(4, .ptr 4 0), (7, .t (tS q14 r2.1)), (9, .t (tI v)), (10, .own 92), (11, .t (tI s.2)), (41, .el (q14 x)), (43, .t (tI v)), (46, .el (q14 x))], [(4, .box (x50_0 f2)), (92, .rs 85 7 s.1 q13)]⟩) _ rfl rfl ?_ ?_ ?_
       ·exact TieO.indexH hx rfl rfl rfl rfl rfl rfl rfl rfl (fun _ => rfl) (.nil (TieS.leaf ⟨rfl, .of rfl rfl⟩))
       ·refine TieA.fE 8 rfl rfl rfl (by kernel_rfl) rfl rfl rfl (.all [3, 9, 12] (by kernel_rfl) rfl (AllA.runTo _ rfl rfl rfl (.of rfl rfl) A_6 (AllA.runTo _ rfl rfl rfl (.of rfl rfl) A_7 (AllA.runTo _ rfl rfl rfl (.of rfl rfl) A_11 ?_))))
        exact AllA.nil
       exact AllA.runTo _ rfl rfl rfl (.of rfl rfl) A_12 (AllA.nil)
      refine AllA.cons (σ₁ := ⟨[(4, .ptr 4 0), (7, .t (tS q14 r2.1)), (9, .t (tI v)), (10, .own 92), (11, .t (tI s.2)), (39, .t (tS q14 r2.1)), (40, .t (tI s.2)), (43, .t (tI v)), (46, .el (q14 x))], [(4, .box (x50_0 f2)), (92, .rs 85 7 s.1 q13)]⟩) _ rfl rfl ?_ ?_ ?_
      ·exact TieO.indexH hx rfl rfl rfl rfl rfl rfl rfl rfl (fun _ => rfl) (.nil (TieS.leaf ⟨rfl, .of rfl rfl⟩))
      ·refine TieA.fE 8 rfl rfl rfl (by kernel_rfl) rfl rfl rfl (.all [2, 9, 12] (by kernel_rfl) rfl (AllA.cons (σ₁ := ⟨[(4, .ptr 4 0), (7, .t (tS q14 r2.1)), (9, .t (tI v)), (10, .own 92), (11, .t (tI s.2)), (41, .el (q14 x)), (43, .t (tI v)), (47, .el (List.drop 0 (q14 x)))], [(4, .box (x50_0 f2)), (92, .rs 85 7 s.1 q13)]⟩) _ rfl rfl ?_ ?_ ?_))
       ·exact TieO.indexH hx rfl rfl rfl rfl rfl rfl rfl rfl (fun _ => rfl) (.nil (TieS.leaf ⟨rfl, .of rfl rfl⟩))
       ·exact TieA.all [3, 9, 12] (by kernel_rfl) rfl (AllA.runTo _ rfl rfl rfl (.of rfl rfl) A_6 (AllA.runTo _ rfl rfl rfl (.of rfl rfl) A_7 (AllA.runTo _ rfl rfl rfl (.of rfl rfl) A_11 (AllA.nil))))
       refine AllA.run _ rfl rfl rfl ?_ ?_
       ·refine TieA.all [2, 10, 12] (by kernel_rfl) rfl (AllA.cons _ rfl rfl ?_ A_7 ?_)
        ·exact TieO.indexH hx rfl rfl rfl rfl rfl rfl rfl rfl (fun _ => rfl) (.nil (TieS.leaf ⟨rfl, .of rfl rfl⟩))
        refine AllA.cons (σ₁ := ⟨[(4, .ptr 4 0), (7, .t (tS q14 r2.1)), (9, .t (tI v)), (10, .own 92), (11, .t (tI s.2)), (39, .t (tS q14 r2.1)), (40, .t (tI s.2)), (49, .t (tI v2))], [(4, .box (x50_0 f2)), (92, .rs 85 7 s.1 q13)]⟩) _ rfl rfl ?_ ?_ ?_
        ·refine TieO.withH hv2 (TieO.call _ rfl rfl rfl (q28 v x.Angle) (fun _ => rfl) (TieO.ifH ?_))
         exact TieO.nil (TieS.leaf ⟨rfl, .of rfl rfl⟩)
        ·refine TieA.all [2, 12] (by kernel_rfl) rfl (AllA.cons _ rfl rfl ?_ A_8 ?_)
         ·exact TieO.indexH hx rfl rfl rfl rfl rfl rfl rfl rfl (fun _ => rfl) (.nil (TieS.leaf ⟨rfl, .of rfl rfl⟩))
         exact AllA.runTo _ rfl rfl rfl (.of rfl rfl) A_13 (AllA.nil)
        exact AllA.runTo _ rfl rfl rfl (.of rfl rfl) A_14 (AllA.nil)
       refine AllA.run _ rfl rfl rfl ?_ ?_
       ·refine TieA.all [2, 9] (by kernel_rfl) rfl (AllA.cons _ rfl rfl ?_ A_11 ?_)
        ·exact TieO.indexH hx rfl rfl rfl rfl rfl rfl rfl rfl (fun _ => rfl) (.nil (TieS.leaf ⟨rfl, .of rfl rfl⟩))
        exact AllA.runTo _ rfl rfl rfl (.of rfl rfl) A_14 (AllA.nil)
       exact AllA.nil
      refine AllA.run _ rfl rfl rfl ?_ ?_
      ·refine TieA.all [2, 7] (by kernel_rfl) rfl (AllA.cons _ rfl rfl ?_ A_12 ?_)
       ·exact TieO.indexH hx rfl rfl rfl rfl rfl rfl rfl rfl (fun _ => rfl) (.nil (TieS.leaf ⟨rfl, .of rfl rfl⟩))
       refine AllA.cons (σ₁ := ⟨[(4, .ptr 4 0), (7, .t (tS q14 r2.1)), (9, .t (tI v)), (10, .own 92), (11, .t (tI s.2)), (12, .ptr 12 0), (39, .t (tS q14 r2.1)), (40, .t (tI s.2)), (43, .t (tI v)), (46, .el (q14 x))], [(4, .box (x50_0 f2)), (12, .box x50_2), (92, .rs 85 7 s.1 q13)]⟩) _ rfl rfl ?_ ?_ ?_
       ·exact TieO.indexH hx rfl rfl rfl rfl rfl rfl rfl rfl (fun _ => rfl) (.nil (TieS.leaf ⟨rfl, .of rfl rfl⟩))
       ·refine TieA.fE 8 rfl rfl rfl (by kernel_rfl) rfl rfl rfl (.all [2, 9] (by kernel_rfl) rfl (AllA.cons _ rfl rfl ?_ A_11 ?_))
        ·exact TieO.indexH hx rfl rfl rfl rfl rfl rfl rfl rfl (fun _ => rfl) (.nil (TieS.leaf ⟨rfl, .of rfl rfl⟩))
        exact AllA.runTo _ rfl rfl rfl (.of rfl rfl) A_14 (AllA.nil)
       exact AllA.nil
      exact AllA.nil
     exact TieO.run 1 rfl (.nil (.leaf ⟨rfl, .of rfl rfl⟩))
    rintro s2 e σ' _ ⟨rfl, hs⟩
    refine TieX.sub hs (TieS.seq (.region (.run 3 rfl (.nil ?_))))
    refine TieS.seq (.block (.loop (fun t => ⟨[(4, .ptr 4 0), (7, .t (tS q14 r2.1)), (9, .t (tI v)), (10, .own 92), (11, .t (tI s.2)), (12, .ptr 12 0), (13, .t (tI t))], [(4, .box (x50_0 f2)), (12, .box (x50_1 s2)), (92, .rs 85 7 s.1 q13)]⟩) (fun b e σ' => match b with | .inl t => e = .exit 2 ∧ Sub ⟨[(4, .ptr 4 0), (7, .t (tS q14 r2.1)), (9, .t (tI v)), (10, .own 92), (11, .t (tI s.2)), (12, .ptr 12 0), (13, .t (tI t))], [(4, .box (x50_0 f2)), (12, .box (x50_1 s2)), (92, .rs 85 7 s.1 q13)]⟩ σ' | .inr t => False) (.of rfl rfl) ?_ ?_))
    ·intro k
     refine TieS.seq (.seq (.bind (Q₁ := fun t e σ' => e = .normal ∧ Sub ⟨[(4, .ptr 4 0), (7, .t (tS q14 r2.1)), (9, .t (tI v)), (10, .own 92), (11, .t (tI s.2)), (12, .ptr 12 0), (13, .t (tI k)), (89, .t (tB t))], [(4, .box (x50_0 f2)), (12, .box (x50_1 s2)), (92, .rs 85 7 s.1 q13)]⟩ σ') ?_ ?_))
     ·refine TieX.split (fun hg => ?_) (fun hg6 => ?_)
      ·refine TieX.pre fun x2 hx2 => TieX.split (fun hg2 => ?_) (fun hg3 => ?_)
       ·exact TieS.draw 37 [_, _, _, _, _, _, _, _, _, _, _, _, _, _, _, _, _, _, _, _, _, _, _, _, _, _, _, _, _, _, _, _, _, _, _, _, _] [(4, .ptr 4 0), (7, .t (tS q14 r2.1)), (9, .t (tI v)), (10, .own 92), (11, .t (tI s.2)), (12, .ptr 12 0), (13, .t (tI k))] [(4, .box (x50_0 f2)), (12, .box (x50_1 s2)), (92, .rs 85 7 s.1 q13)] mixed (.of rfl rfl) rfl rfl rfl rfl (.cons (.quiet rfl rfl rfl) (.cons (.quiet rfl rfl rfl) (.cons (.cast (congrArg T.B hg) (.quiet rfl rfl rfl)) (.cons (.quiet rfl rfl rfl) (.cons (.quiet rfl rfl rfl) (.cons (.quiet rfl rfl rfl) (.cons (.indexO (sz := 7) hx2 rfl rfl rfl rfl rfl rfl rfl rfl) (.cons (.quiet rfl rfl rfl) (.cons (.loadY hx2 rfl rfl rfl rfl rfl rfl) (.cons (.quiet rfl rfl rfl) (.cons (.quiet rfl rfl rfl) (.cons (.quiet rfl rfl rfl) (.cons (.cast (congrArg T.B hg2) (.quiet rfl rfl rfl)) (.cons (.skip rfl) (.cons (.skip rfl) (.cons (.skip rfl) (.cons (.skip rfl) (.cons (.skip rfl) (.cons (.skip rfl) (.cons (.skip rfl) (.cons (.skip rfl) (.cons (.skip rfl) (.cons (.skip rfl) (.cons (.skip rfl) (.cons (.skip rfl) (.cons (.skip rfl) (.cons (.skip rfl) (.cons (.skip rfl) (.cons (.skip rfl) (.cons (.skip rfl) (.cons (.skip rfl) (.cons (.skip rfl) (.cons (.skip rfl) (.cons (.skip rfl) (.cons (.skip rfl) (.cons (.quiet rfl rfl rfl) (.cons (.quiet rfl rfl rfl) (.nil)))))))))))))))))))))))))))))))))))))) (.nil (.leaf ⟨rfl, .of rfl rfl⟩))
       ·refine TieX.split (fun hg4 => ?_) (fun hg5 => ?_)
        ·exact TieX.pre fun v3 hv3 => TieX.pre fun v4 hv4 => TieS.draw 37 [_, _, _, _, _, _, _, _, _, _, _, _, _, _, _, _, _, _, _, _, _, _, _, _, _, _, _, _, _, _, _, _, _, _, _, _, _] [(4, .ptr 4 0), (7, .t (tS q14 r2.1)), (9, .t (tI v)), (10, .own 92), (11, .t (tI s.2)), (12, .ptr 12 0), (13, .t (tI k))] [(4, .box (x50_0 f2)), (12, .box (x50_1 s2)), (92, .rs 85 7 s.1 q13)] mixed (.of rfl rfl) rfl rfl rfl rfl (.cons (.quiet rfl rfl rfl) (.cons (.quiet rfl rfl rfl) (.cons (.cast (congrArg T.B hg) (.quiet rfl rfl rfl)) (.cons (.quiet rfl rfl rfl) (.cons (.quiet rfl rfl rfl) (.cons (.quiet rfl rfl rfl) (.cons (.indexO (sz := 7) hx2 rfl rfl rfl rfl rfl rfl rfl rfl) (.cons (.quiet rfl rfl rfl) (.cons (.loadY hx2 rfl rfl rfl rfl rfl rfl) (.cons (.quiet rfl rfl rfl) (.cons (.quiet rfl rfl rfl) (.cons (.quiet rfl rfl rfl) (.cons (.cast (congrArg T.B hg3) (.quiet rfl rfl rfl)) (.cons (.quiet rfl rfl rfl) (.cons (.quiet rfl rfl rfl) (.cons (.quiet rfl rfl rfl) (.cons (.indexO (sz := 7) hx2 rfl rfl rfl rfl rfl rfl rfl rfl) (.cons (.quiet rfl rfl rfl) (.cons (.loadY hx2 rfl rfl rfl rfl rfl rfl) (.cons (.quiet rfl rfl rfl) (.cons (.quiet rfl rfl rfl) (.cons (.quiet rfl rfl rfl) (.cons (.cast (congrArg T.B hg4) (.quiet rfl rfl rfl)) (.cons (.quiet rfl rfl rfl) (.cons (.quiet rfl rfl rfl) (.cons (.quiet rfl rfl rfl) (.cons (.indexO (sz := 7) hx2 rfl rfl rfl rfl rfl rfl rfl rfl) (.cons (.quiet rfl rfl rfl) (.cons (.loadY hx2 rfl rfl rfl rfl rfl rfl) (.cons (.callV (q58 x2.Event) hv3 rfl rfl rfl rfl) (.cons (.quiet rfl rfl rfl) (.cons (.quiet rfl rfl rfl) (.cons (.callV (q58 s2.1) hv4 rfl rfl rfl rfl) (.cons (.quiet rfl rfl rfl) (.cons (.quiet rfl rfl rfl) (.cons (.quiet rfl rfl rfl) (.cons (.quiet rfl rfl rfl) (.nil)))))))))))))))))))))))))))))))))))))) (.nil (.leaf ⟨rfl, .of rfl rfl⟩))
        ·exact TieS.draw 37 [_, _, _, _, _, _, _, _, _, _, _, _, _, _, _, _, _, _, _, _, _, _, _, _, _, _, _, _, _, _, _, _, _, _, _, _, _] [(4, .ptr 4 0), (7, .t (tS q14 r2.1)), (9, .t (tI v)), (10, .own 92), (11, .t (tI s.2)), (12, .ptr 12 0), (13, .t (tI k))] [(4, .box (x50_0 f2)), (12, .box (x50_1 s2)), (92, .rs 85 7 s.1 q13)] mixed (.of rfl rfl) rfl rfl rfl rfl (.cons (.quiet rfl rfl rfl) (.cons (.quiet rfl rfl rfl) (.cons (.cast (congrArg T.B hg) (.quiet rfl rfl rfl)) (.cons (.quiet rfl rfl rfl) (.cons (.quiet rfl rfl rfl) (.cons (.quiet rfl rfl rfl) (.cons (.indexO (sz := 7) hx2 rfl rfl rfl rfl rfl rfl rfl rfl) (.cons (.quiet rfl rfl rfl) (.cons (.loadY hx2 rfl rfl rfl rfl rfl rfl) (.cons (.quiet rfl rfl rfl) (.cons (.quiet rfl rfl rfl) (.cons (.quiet rfl rfl rfl) (.cons (.cast (congrArg T.B hg3) (.quiet rfl rfl rfl)) (.cons (.quiet rfl rfl rfl) (.cons (.quiet rfl rfl rfl) (.cons (.quiet rfl rfl rfl) (.cons (.indexO (sz := 7) hx2 rfl rfl rfl rfl rfl rfl rfl rfl) (.cons (.quiet rfl rfl rfl) (.cons (.loadY hx2 rfl rfl rfl rfl rfl rfl) (.cons (.quiet rfl rfl rfl) (.cons (.quiet rfl rfl rfl) (.cons (.quiet rfl rfl rfl) (.cons (.cast (congrArg T.B hg5) (.quiet rfl rfl rfl)) (.cons (.skip rfl) (.cons (.skip rfl) (.cons (.skip rfl) (.cons (.skip rfl) (.cons (.skip rfl) (.cons (.skip rfl) (.cons (.skip rfl) (.cons (.skip rfl) (.cons (.skip rfl) (.cons (.skip rfl) (.cons (.skip rfl) (.cons (.quiet rfl rfl rfl) (.cons (.quiet rfl rfl rfl) (.cons (.quiet rfl rfl rfl) (.nil)))))))))))))))))))))))))))))))))))))) (.nil (.leaf ⟨rfl, .of rfl rfl⟩))
      ·exact TieS.draw 37 [_, _, _, _, _, _, _, _, _, _, _, _, _, _, _, _, _, _, _, _, _, _, _, _, _, _, _, _, _, _, _, _, _, _, _, _, _] [(4, .ptr 4 0), (7, .t (tS q14 r2.1)), (9, .t (tI v)), (10, .own 92), (11, .t (tI s.2)), (12, .ptr 12 0), (13, .t (tI k))] [(4, .box (x50_0 f2)), (12, .box (x50_1 s2)), (92, .rs 85 7 s.1 q13)] mixed (.of rfl rfl) rfl rfl rfl rfl (.cons (.quiet rfl rfl rfl) (.cons (.quiet rfl rfl rfl) (.cons (.cast (congrArg T.B hg6) (.quiet rfl rfl rfl)) (.cons (.skip rfl) (.cons (.skip rfl) (.cons (.skip rfl) (.cons (.skip rfl) (.cons (.skip rfl) (.cons (.skip rfl) (.cons (.skip rfl) (.cons (.skip rfl) (.cons (.skip rfl) (.cons (.skip rfl) (.cons (.skip rfl) (.cons (.skip rfl) (.cons (.skip rfl) (.cons (.skip rfl) (.cons (.skip rfl) (.cons (.skip rfl) (.cons (.skip rfl) (.cons (.skip rfl) (.cons (.skip rfl) (.cons (.skip rfl) (.cons (.skip rfl) (.cons (.skip rfl) (.cons (.skip rfl) (.cons (.skip rfl) (.cons (.skip rfl) (.cons (.skip rfl) (.cons (.skip rfl) (.cons (.skip rfl) (.cons (.skip rfl) (.cons (.skip rfl) (.cons (.skip rfl) (.cons (.skip rfl) (.cons (.skip rfl) (.cons (.quiet rfl rfl rfl) (.nil)))))))))))))))))))))))))))))))))))))) (.nil (.leaf ⟨rfl, .of rfl rfl⟩))
     rintro v5 e σ' _ ⟨rfl, hs⟩
     refine TieX.sub hs (TieS.cond rfl ?_ ?_)
     ·refine TieS.skip (.block (.region (.run 3 rfl (.nil ?_))))
      exact TieS.endb (.leaf ⟨rfl, .of rfl rfl⟩)
     ·exact TieS.exitOut rfl ⟨(fun h => by cases h), rfl, .of rfl rfl⟩
    rintro (k2 | r) e σ' _ hq
    ·obtain ⟨rfl, hs⟩ := hq
     refine TieX.exit rfl (TieX.sub hs ?_)
     refine TieS.seq (TieX.sub (σ' := ⟨[(4, .ptr 4 0), (7, .t (tS q14 r2.1)), (9, .t (tI v)), (10, .own 92), (11, .t (tI s.2)), (12, .ptr 12 0), (13, .t (tI k2))], [(4, .box (x50_0 f2)), (12, .box (x50_1 s2)), (92, .rs 85 7 s.1 q13)]⟩) (.of rfl rfl) (TieX.ren [(4, 4), (12, 12), (92, 40000)] rfl rfl rfl (TieS.region (.run 3 rfl ?_))))
     refine TieO.frz 40000 rfl (.sliceF rfl rfl rfl rfl rfl rfl rfl (fun _ => rfl) rfl rfl fun l hl => .appendY (id := 92) (e' := 0) (l := ([] : List SJob)) (r := l) (tm' := [(4, .ptr 4 0), (7, .t (tS q14 r2.1)), (9, .t (tI v)), (10, .t (tS q13 s.1)), (11, .t (tI s.2)), (12, .ptr 12 0), (13, .t (tI k2)), (93, .t (tS q13 s.1)), (94, .t (tI k2)), (95, .t (tS q13 l))]) (hp' := [(4, .box (x50_0 f2)), (12, .box (x50_1 s2))]) rfl rfl rfl rfl rfl rfl rfl (fun _ => rfl) (fun _ => rfl) (.inl ⟨rfl, rfl⟩) (.inl rfl) (.of rfl rfl) rfl rfl rfl fun l2 => .run 1 rfl (.nil ?_))
     refine TieS.seq (.region (.run 3 rfl (.appendY (id := 92) (l := l2) (r := ([(⟨s2.1, s2.2, false, 0⟩ : SJob)] : List SJob)) (tm' := [(4, .ptr 4 0), (7, .t (tS q14 r2.1)), (9, .t (tI v)), (10, .t (tS q13 s.1)), (11, .t (tI s.2)), (12, .ptr 12 0), (13, .t (tI k2)), (93, .t (tS q13 s.1)), (94, .t (tI k2)), (95, .t (tS q13 l)), (98, .agg [.t (tI s2.1.Angle), .t (tI s2.1.Kind), .t (tI s2.1.Cylinder), .t (tI s2.1.Pulse), .t (tI s2.2), .t (tB false), .t (tI 0)]), (99, .own 99)]) (hp' := [(4, .box (x50_0 f2)), (12, .box (x50_1 s2)), (99, .rs 85 7 ([(⟨s2.1, s2.2, false, 0⟩ : SJob)] : List SJob) q13)]) rfl rfl rfl rfl rfl rfl rfl (fun _ => rfl) (fun _ => rfl) (.inl ⟨rfl, rfl⟩) (.inr ⟨_, rfl, rfl⟩) (.of rfl rfl) rfl rfl rfl fun l3 => .run 1 rfl ?_)))
     refine TieO.nil (.region (.run 3 rfl (.sliceF rfl rfl rfl rfl rfl rfl rfl (fun _ => rfl) rfl rfl fun l4 hl4 => .appendY (id := 92) (e' := 0) (l := l3) (r := l4) (tm' := [(4, .ptr 4 0), (7, .t (tS q14 r2.1)), (9, .t (tI v)), (10, .t (tS q13 s.1)), (11, .t (tI s.2)), (12, .ptr 12 0), (13, .t (tI k2)), (93, .t (tS q13 s.1)), (94, .t (tI k2)), (95, .t (tS q13 l)), (98, .agg [.t (tI s2.1.Angle), .t (tI s2.1.Kind), .t (tI s2.1.Cylinder), .t (tI s2.1.Pulse), .t (tI s2.2), .t (tB false), .t (tI 0)]), (99, .own 99), (102, .t (tS q13 s.1)), (103, .t (tI k2)), (104, .t (tS q13 l4))]) (hp' := [(4, .box (x50_0 f2)), (12, .box (x50_1 s2)), (99, .rs 85 7 ([(⟨s2.1, s2.2, false, 0⟩ : SJob)] : List SJob) q13)]) rfl rfl rfl rfl rfl rfl rfl (fun _ => rfl) (fun _ => rfl) (.inl ⟨rfl, rfl⟩) (.inl rfl) (.of rfl rfl) rfl rfl rfl fun l5 => ?_)))
     refine TieO.run 1 rfl (.nil (.endb (.region (.run 3 rfl ?_))))
     exact TieO.nil (.leaf ⟨rfl, .of rfl rfl⟩)
    ·exact hq.elim
   ·exact TieS.exitOut rfl ⟨(fun h => by cases h), rfl, .of rfl rfl⟩
  rintro (s3 | r) e σ' _ hq
  ·obtain ⟨rfl, hs⟩ := hq
   refine TieX.exit rfl (TieX.sub hs ?_)
   refine TieS.seq (.seq (.region (.run 1 rfl (.nil ?_))))
   refine TieS.block (.loop (fun t => ⟨[(4, .ptr 4 0), (10, .own 92), (15, .t (tI t))], [(4, .box (x50_0 f2)), (92, .rs 85 7 s3.1 q13)]⟩) (fun b e σ' => match b with | .inl t => e = .exit 4 ∧ Sub ⟨[(10, .own 92)], [(92, .rs 85 7 s3.1 q13)]⟩ σ' | .inr t => e = .ret ∧ EndG tab σ' [.tmp 6] (((fun _ => .own 900000) : (List SJob) → T) t) (((fun r => [(900000, .rs 85 7 r q13)]) : (List SJob) → List (Nat × Blk)) t)) (.of rfl rfl) ?_ ?_)
   ·intro c
    refine TieS.seq (.seq (.region (.run 2 rfl (.nil ?_))))
    refine TieS.cond rfl ?_ ?_
    ·refine TieS.skip (.seq (.block (.seq (.region ?_))))
     refine TieO.run 7 rfl (.callG [(1000000, 92)] [] (fun v6 => ⟨[(4, .ptr 4 0), (10, .own 92), (15, .t (tI c)), (106, .t (tI c)), (107, .t (tB (decide (c < 2)))), (110, .own 92), (111, .ptr 4 0), (112, .t (tI f2.Cylinder)), (113, .t (tI (w64 (f2.Cylinder - 1)))), (114, .t (tI (w64 (2 * (w64 (f2.Cylinder - 1)))))), (115, .t (tI c)), (116, .t (tI (w64 ((w64 (2 * (w64 (f2.Cylinder - 1)))) + c)))), (117, .t (tS q13 v6))], [(4, .box (x50_0 f2)), (92, .rs 85 7 s3.1 q13)]⟩) (q327 s3.1 (w64 ((w64 (2 * (w64 (f2.Cylinder - 1)))) + c))) rfl rfl rfl rfl rfl rfl rfl (fun _ => rfl) (fun _ => rfl) (fun _ => rfl) (fun _ => .of rfl rfl) fun v6 hv6 => .run 1 rfl (.nil (.seq ?_)))
     refine TieS.region (.run 1 rfl (.nil (.block (.loop (fun t => ⟨[(4, .ptr 4 0), (10, .own 92), (15, .t (tI c)), (16, .t (tS q13 v6)), (17, .t (tI t))], [(4, .box (x50_0 f2)), (92, .rs 85 7 s3.1 q13)]⟩) (fun b e σ' => match b with | .inl t => e = .exit 6 ∧ Sub ⟨[(4, .ptr 4 0), (10, .own 92), (15, .t (tI c))], [(4, .box (x50_0 f2)), (92, .rs 85 7 s3.1 q13)]⟩ σ' | .inr t => e = .ret ∧ EndG tab σ' [.tmp 6] (((fun _ => .own 900000) : (List SJob) → T) t) (((fun r => [(900000, .rs 85 7 r q13)]) : (List SJob) → List (Nat × Blk)) t)) (.of rfl rfl) ?_ ?_))))
     ·intro i
      refine TieS.seq (.seq (.region (.run 4 rfl (.nil ?_))))
      refine TieS.cond rfl ?_ ?_
      ·refine TieS.skip (.seq (.block (.seq (.region ?_))))
       refine TieO.run 4 rfl (.nil (.seq (.seq (.region ?_))))
       refine TieO.run 2 rfl (.nil (.bind (Q₁ := fun t e σ' => e = .normal ∧ Sub ⟨[(4, .ptr 4 0), (10, .own 92), (15, .t (tI c)), (16, .t (tS q13 v6)), (17, .t (tI i)), (18, .t (tI t))], [(4, .box (x50_0 f2)), (92, .rs 85 7 s3.1 q13)]⟩ σ') ?_ ?_))
       ·refine TieS.cond rfl ?_ ?_
        ·exact TieS.region (.run 1 rfl (.nil (.leaf ⟨rfl, .of rfl rfl⟩)))
        ·exact TieS.skip (.leaf ⟨rfl, .of rfl rfl⟩)
       rintro pulse e σ' _ ⟨rfl, hs⟩
       refine TieX.sub hs (TieS.seq (.bind (Q₁ := fun t e σ' => e = .normal ∧ Sub ⟨[(4, .ptr 4 0), (10, .own 92), (15, .t (tI c)), (16, .t (tS q13 v6)), (17, .t (tI i)), (167, .t (tB t))], [(4, .box (x50_0 f2)), (92, .rs 85 7 s3.1 q13)]⟩ σ') ?_ ?_))
       ·refine TieX.pre fun x3 hx3 => TieX.pre fun v7 hv7 => TieX.split (fun hg7 => ?_) (fun hg8 => ?_)
        ·exact TieS.draw 39 [_, _, _, _, _, _, _, _, _, _, _, _, _, _, _, _, _, _, _, _, _, _, _, _, _, _, _, _, _, _, _, _, _, _, _, _, _, _, _] [(4, .ptr 4 0), (10, .own 92), (15, .t (tI c)), (16, .t (tS q13 v6)), (17, .t (tI i)), (18, .t (tI pulse))] [(4, .box (x50_0 f2)), (92, .rs 85 7 s3.1 q13)] mixed (.of rfl rfl) rfl rfl rfl rfl (.cons (.quiet rfl rfl rfl) (.cons (.quiet rfl rfl rfl) (.cons (.index hx3 rfl rfl rfl rfl rfl rfl (fun _ => rfl)) (.cons (.quiet rfl rfl rfl) (.cons (.quiet rfl rfl rfl) (.cons (.quiet rfl rfl rfl) (.cons (.callV (q50 x3.Event.Kind) hv7 rfl rfl rfl rfl) (.cons (.quiet rfl rfl rfl) (.cons (.quiet rfl rfl rfl) (.cons (.quiet rfl rfl rfl) (.cons (.quiet rfl rfl rfl) (.cons (.cast (congrArg T.B hg7) (.quiet rfl rfl rfl)) (.cons (.skip rfl) (.cons (.skip rfl) (.cons (.skip rfl) (.cons (.skip rfl) (.cons (.skip rfl) (.cons (.skip rfl) (.cons (.skip rfl) (.cons (.skip rfl) (.cons (.quiet rfl rfl rfl) (.cons (.quiet rfl rfl rfl) (.cons (.skip rfl) (.cons (.skip rfl) (.cons (.skip rfl) (.cons (.skip rfl) (.cons (.skip rfl) (.cons (.skip rfl) (.cons (.skip rfl) (.cons (.skip rfl) (.cons (.skip rfl) (.cons (.skip rfl) (.cons (.skip rfl) (.cons (.skip rfl) (.cons (.skip rfl) (.cons (.skip rfl) (.cons (.skip rfl) (.cons (.skip rfl) (.cons (.quiet rfl rfl rfl) (.nil)))))))))))))))))))))))))))))))))))))))) (.nil (.leaf ⟨rfl, .of rfl rfl⟩))
        ·refine TieX.split (fun hg9 => ?_) (fun hg10 => ?_)
         ·exact TieS.draw 39 [_, _, _, _, _, _, _, _, _, _, _, _, _, _, _, _, _, _, _, _, _, _, _, _, _, _, _, _, _, _, _, _, _, _, _, _, _, _, _] [(4, .ptr 4 0), (10, .own 92), (15, .t (tI c)), (16, .t (tS q13 v6)), (17, .t (tI i)), (18, .t (tI pulse))] [(4, .box (x50_0 f2)), (92, .rs 85 7 s3.1 q13)] mixed (.of rfl rfl) rfl rfl rfl rfl (.cons (.quiet rfl rfl rfl) (.cons (.quiet rfl rfl rfl) (.cons (.index hx3 rfl rfl rfl rfl rfl rfl (fun _ => rfl)) (.cons (.quiet rfl rfl rfl) (.cons (.quiet rfl rfl rfl) (.cons (.quiet rfl rfl rfl) (.cons (.callV (q50 x3.Event.Kind) hv7 rfl rfl rfl rfl) (.cons (.quiet rfl rfl rfl) (.cons (.quiet rfl rfl rfl) (.cons (.quiet rfl rfl rfl) (.cons (.quiet rfl rfl rfl) (.cons (.cast (congrArg T.B hg8) (.quiet rfl rfl rfl)) (.cons (.quiet rfl rfl rfl) (.cons (.quiet rfl rfl rfl) (.cons (.index hx3 rfl rfl rfl rfl rfl rfl (fun _ => rfl)) (.cons (.quiet rfl rfl rfl) (.cons (.quiet rfl rfl rfl) (.cons (.quiet rfl rfl rfl) (.cons (.quiet rfl rfl rfl) (.cons (.quiet rfl rfl rfl) (.cons (.quiet rfl rfl rfl) (.cons (.cast (congrArg T.B hg9) (.quiet rfl rfl rfl)) (.cons (.skip rfl) (.cons (.skip rfl) (.cons (.skip rfl) (.cons (.skip rfl) (.cons (.skip rfl) (.cons (.skip rfl) (.cons (.skip rfl) (.cons (.skip rfl) (.cons (.skip rfl) (.cons (.skip rfl) (.cons (.skip rfl) (.cons (.skip rfl) (.cons (.skip rfl) (.cons (.skip rfl) (.cons (.skip rfl) (.cons (.skip rfl) (.cons (.quiet rfl rfl rfl) (.nil)))))))))))))))))))))))))))))))))))))))) (.nil (.leaf ⟨rfl, .of rfl rfl⟩))
         ·refine TieX.split (fun hg11 => ?_) (fun hg12 => ?_)
          ·exact TieX.pre fun x4 hx4 => TieS.draw 39 [_, _, _, _, _, _, _, _, _, _, _, _, _, _, _, _, _, _, _, _, _, _, _, _, _, _, _, _, _, _, _, _, _, _, _, _, _, _, _] [(4, .ptr 4 0), (10, .own 92), (15, .t (tI c)), (16, .t (tS q13 v6)), (17, .t (tI i)), (18, .t (tI pulse))] [(4, .box (x50_0 f2)), (92, .rs 85 7 s3.1 q13)] mixed (.of rfl rfl) rfl rfl rfl rfl (.cons (.quiet rfl rfl rfl) (.cons (.quiet rfl rfl rfl) (.cons (.index hx3 rfl rfl rfl rfl rfl rfl (fun _ => rfl)) (.cons (.quiet rfl rfl rfl) (.cons (.quiet rfl rfl rfl) (.cons (.quiet rfl rfl rfl) (.cons (.callV (q50 x3.Event.Kind) hv7 rfl rfl rfl rfl) (.cons (.quiet rfl rfl rfl) (.cons (.quiet rfl rfl rfl) (.cons (.quiet rfl rfl rfl) (.cons (.quiet rfl rfl rfl) (.cons (.cast (congrArg T.B hg8) (.quiet rfl rfl rfl)) (.cons (.quiet rfl rfl rfl) (.cons (.quiet rfl rfl rfl) (.cons (.index hx3 rfl rfl rfl rfl rfl rfl (fun _ => rfl)) (.cons (.quiet rfl rfl rfl) (.cons (.quiet rfl rfl rfl) (.cons (.quiet rfl rfl rfl) (.cons (.quiet rfl rfl rfl) (.cons (.quiet rfl rfl rfl) (.cons (.quiet rfl rfl rfl) (.cons (.cast (congrArg T.B hg10) (.quiet rfl rfl rfl)) (.cons (.quiet rfl rfl rfl) (.cons (.quiet rfl rfl rfl) (.cons (.cast (congrArg T.B hg11) (.quiet rfl rfl rfl)) (.cons (.quiet rfl rfl rfl) (.cons (.quiet rfl rfl rfl) (.cons (.index hx3 rfl rfl rfl rfl rfl rfl (fun _ => rfl)) (.cons (.quiet rfl rfl rfl) (.cons (.quiet rfl rfl rfl) (.cons (.quiet rfl rfl rfl) (.cons (.quiet rfl rfl rfl) (.cons (.quiet rfl rfl rfl) (.cons (.index hx4 rfl rfl rfl rfl rfl rfl (fun _ => rfl)) (.cons (.quiet rfl rfl rfl) (.cons (.quiet rfl rfl rfl) (.cons (.quiet rfl rfl rfl) (.cons (.quiet rfl rfl rfl) (.cons (.quiet rfl rfl rfl) (.nil)))))))))))))))))))))))))))))))))))))))) (.nil (.leaf ⟨rfl, .of rfl rfl⟩))
          ·exact TieS.draw 39 [_, _, _, _, _, _, _, _, _, _, _, _, _, _, _, _, _, _, _, _, _, _, _, _, _, _, _, _, _, _, _, _, _, _, _, _, _, _, _] [(4, .ptr 4 0), (10, .own 92), (15, .t (tI c)), (16, .t (tS q13 v6)), (17, .t (tI i)), (18, .t (tI pulse))] [(4, .box (x50_0 f2)), (92, .rs 85 7 s3.1 q13)] mixed (.of rfl rfl) rfl rfl rfl rfl (.cons (.quiet rfl rfl rfl) (.cons (.quiet rfl rfl rfl) (.cons (.index hx3 rfl rfl rfl rfl rfl rfl (fun _ => rfl)) (.cons (.quiet rfl rfl rfl) (.cons (.quiet rfl rfl rfl) (.cons (.quiet rfl rfl rfl) (.cons (.callV (q50 x3.Event.Kind) hv7 rfl rfl rfl rfl) (.cons (.quiet rfl rfl rfl) (.cons (.quiet rfl rfl rfl) (.cons (.quiet rfl rfl rfl) (.cons (.quiet rfl rfl rfl) (.cons (.cast (congrArg T.B hg8) (.quiet rfl rfl rfl)) (.cons (.quiet rfl rfl rfl) (.cons (.quiet rfl rfl rfl) (.cons (.index hx3 rfl rfl rfl rfl rfl rfl (fun _ => rfl)) (.cons (.quiet rfl rfl rfl) (.cons (.quiet rfl rfl rfl) (.cons (.quiet rfl rfl rfl) (.cons (.quiet rfl rfl rfl) (.cons (.quiet rfl rfl rfl) (.cons (.quiet rfl rfl rfl) (.cons (.cast (congrArg T.B hg10) (.quiet rfl rfl rfl)) (.cons (.quiet rfl rfl rfl) (.cons (.quiet rfl rfl rfl) (.cons (.cast (congrArg T.B hg12) (.quiet rfl rfl rfl)) (.cons (.skip rfl) (.cons (.skip rfl) (.cons (.skip rfl) (.cons (.skip rfl) (.cons (.skip rfl) (.cons (.skip rfl) (.cons (.skip rfl) (.cons (.skip rfl) (.cons (.skip rfl) (.cons (.skip rfl) (.cons (.skip rfl) (.cons (.skip rfl) (.cons (.quiet rfl rfl rfl) (.cons (.quiet rfl rfl rfl) (.nil)))))))))))))))))))))))))))))))))))))))) (.nil (.leaf ⟨rfl, .of rfl rfl⟩))
       rintro v8 e σ' _ ⟨rfl, hs⟩
       refine TieX.sub hs (TieS.cond rfl ?_ ?_)
       ·refine TieS.seq (.region (.run 1 rfl (.nil (TieX.nilP 6 70000 85 7 [] rfl rfl rfl rfl rfl ?_))))
        exact TieS.ret ⟨(fun h => by cases h), rfl, ⟨[(70000, 900000)], _, _, rfl, rfl, rfl, rfl, rfl⟩⟩
       ·refine TieS.skip (.endb (.region (.run 3 rfl (.nil ?_))))
        exact TieS.leaf ⟨rfl, .of rfl rfl⟩
      ·exact TieS.exitOut rfl ⟨(fun h => by cases h), rfl, .of rfl rfl⟩
     rintro (i2 | r3) e σ' _ hq
     ·obtain ⟨rfl, hs⟩ := hq
      refine TieX.exit rfl (TieX.sub hs ?_)
      exact TieS.endb (.region (.run 3 rfl (.nil (.leaf ⟨rfl, .of rfl rfl⟩))))
     ·obtain ⟨rfl, hs⟩ := hq
      exact TieX.ret ⟨(fun h => by cases h), rfl, hs⟩
    ·exact TieS.exitOut rfl ⟨(fun h => by cases h), rfl, .of rfl rfl⟩
   rintro (c2 | r4) e σ' _ hq
   ·obtain ⟨rfl, hs⟩ := hq
    refine TieX.exit rfl (TieX.sub hs ?_)
    exact TieS.seq (.region (.run 2 rfl (.nil (.ret ⟨.inl rfl, ⟨[(92, 900000)], _, _, rfl, rfl, rfl, rfl, rfl⟩⟩))))
   ·obtain ⟨rfl, hs⟩ := hq
    exact TieX.ret ⟨.inl rfl, hs⟩
  ·exact hq.elim
abbrev x11_0 : List T := [.t (.v (.slice none 0 0)), .t (tI 0), .t (tB false), .t (tI 0), .t (tI 0), .t (tI 0), .t (tI 0), .t (tI 0), .t (tI 0), .t (.v (.slice none 0 0)), .t (.v (.slice none 0 0)), .t (.v (.slice none 0 0)), .t (tB false)]
abbrev x11_1 (c : SClock) : List T := [.t (tB c.Valid), .t (tI c.At), .t (tI c.Angle), .t (tI c.Period), .t (tI c.Space), .t (tI c.Ahead)]
abbrev x11_2 (s : SScheduler) : List T := [.t (tB s.Clock.Valid), .t (tI s.Clock.At), .t (tI s.Clock.Angle), .t (tI s.Clock.Period), .t (tI s.Clock.Space), .t (tI s.Clock.Ahead)]
set_option maxRecDepth 100000 in
set_option maxHeartbeats 4000000 in
theorem q324 (s : SScheduler) (c : SClock) : TieF Tryz.prog 11 [q24 s, q208 c] (q168 s c) (fun r => .tup [q24 r.1, .t (tS q15 r.2.1), .t (tI r.2.2)]) := by
 refine TieF.intro htab 168 [.cell 4 33, .tmp 5, .tmp 6] Tryz.call11 Tryz.func11 rfl rfl rfl (Nat.le_of_ble_eq_true rfl) fun w0 L => ?_
 refine TieS.seq (.region (.run 5 rfl (.nil (.seq ?_))))
 refine TieS.seq (.region (.run 1 rfl (.call _ rfl rfl rfl (q331 s) (fun _ => rfl) fun v => .run 2 rfl ?_)))
 refine TieO.bind 4 (fun b2 => ⟨[(2, .ptr 2 0), (3, .ptr 3 0), (4, .ptr 4 0), (23, .t (tB b2))], [(2, .box (q10 s)), (3, .box (x11_1 c)), (4, .box x11_0)]⟩) (TieO.split 19 rfl ?_ ?_) fun b2 _ => ?_
 ·exact TieO.run 4 rfl (.nil (.leaf ⟨rfl, .of rfl rfl⟩))
 ·exact TieO.run 1 rfl (.call _ rfl rfl rfl (q250 c) (fun _ => rfl) fun v2 => .run 2 rfl (.nil (.leaf ⟨rfl, .of rfl rfl⟩)))
 refine TieO.nil (.cond rfl ?_ ?_)
 ·exact TieS.seq (.region (.run 4 rfl (.nil (.ret ⟨.inl rfl, rfl⟩))))
 ·refine TieS.skip (.seq (.seq (.region (.run 3 rfl ?_))))
  refine TieO.nil (.cond rfl ?_ ?_)
  ·exact TieS.seq (.region (.run 4 rfl (.nil (.ret ⟨.inl rfl, rfl⟩))))
  ·refine TieS.skip (.seq (.seq (.region (.run 6 rfl ?_))))
   refine TieO.nil (.cond rfl ?_ ?_)
   ·exact TieS.seq (.region (.run 4 rfl (.nil (.ret ⟨.inl rfl, rfl⟩))))
   ·refine TieS.skip (.seq (.region (.run 4 rfl (.nil ?_))))
    refine TieS.seq (.region (.run 3 rfl (.callG [] [(900000, 2337), (900001, 2336)] (fun r2 => ⟨[(2, .ptr 2 0), (3, .ptr 3 0), (4, .ptr 4 0), (7, .ptr 7 0), (23, .t (tB b2)), (25, .ptr 3 0), (26, .t (tB c.Valid)), (27, .t (tB (!c.Valid))), (29, .ptr 3 1), (30, .t (tI c.At)), (31, .ptr 2 8), (32, .ptr 2 8), (33, .t (tI s.Timer.Now)), (34, .t (tB (decide (c.At < s.Timer.Now)))), (36, .ptr 2 2), (37, .agg [.t (tB s.Clock.Valid), .t (tI s.Clock.At), .t (tI s.Clock.Angle), .t (tI s.Clock.Period), .t (tI s.Clock.Space), .t (tI s.Clock.Ahead)]), (39, .agg [.t (tS Pv.encI s.Engine.Order), .t (tI s.Engine.First), .t (tB s.Clock.Valid), .t (tI s.Clock.At), .t (tI s.Clock.Angle), .t (tI s.Clock.Period), .t (tI s.Clock.Space), .t (tI s.Clock.Ahead), .t (tI s.Timer.Now), .t (tS q11 s.Timer.Channels), .t (tS q16 s.Next), .t (tS q13 s.Jobs), .t (tB s.Cut)]), (40, .ptr 3 1), (41, .t (tI c.At)), (42, .tup [.agg [.t (tS Pv.encI r2.1.Engine.Order), .t (tI r2.1.Engine.First), .t (tB r2.1.Clock.Valid), .t (tI r2.1.Clock.At), .t (tI r2.1.Clock.Angle), .t (tI r2.1.Clock.Period), .t (tI r2.1.Clock.Space), .t (tI r2.1.Clock.Ahead), .t (tI r2.1.Timer.Now), .own 2336, .t (tS q16 r2.1.Next), .own 2337, .t (tB r2.1.Cut)], .t (tS q15 r2.2)])], [(2, .box (q10 s)), (3, .box (x11_1 c)), (4, .box x11_0), (7, .box (x11_2 s)), (2336, .rs 74 4 r2.1.Timer.Channels q11), (2337, .rs 85 7 r2.1.Jobs q13)]⟩) (q381 s c.At) rfl rfl rfl rfl rfl rfl rfl (fun _ => rfl) (fun _ => rfl) (fun _ => rfl) (fun _ => .of rfl rfl) fun r2 hr2 => .run 5 rfl ?_)))
    refine TieO.nil (.seq (.seq (.region (.run 2 rfl ?_))))
    refine TieO.nil (.bind (Q₁ := fun t e σ' => e = .normal ∧ Sub ⟨[(2, .ptr 2 0), (3, .ptr 3 0), (4, .ptr 4 0), (8, .t (tS q15 r2.2))], [(2, .box (lset (q10 r2.1) [(9, .own 2336), (11, .own 2337)])), (3, .box (x11_1 c)), (4, .box x11_0), (2336, .rs 74 4 r2.1.Timer.Channels q11), (2337, .rs 85 7 t q13)]⟩ σ') ?_ ?_)
    ·refine TieS.cond rfl ?_ ?_
     ·refine TieS.seq (.region (.run 1 rfl (.nil (.block ?_))))
      refine TieS.loop (fun t => ⟨[(2, .ptr 2 0), (3, .ptr 3 0), (4, .ptr 4 0), (7, .ptr 7 0), (8, .t (tS q15 r2.2)), (9, .t (tI t.1))], [(2, .box (lset (q10 r2.1) [(9, .own 2336), (11, .own 2337)])), (3, .box (x11_1 c)), (4, .box x11_0), (7, .box (x11_2 s)), (2336, .rs 74 4 r2.1.Timer.Channels q11), (2337, .rs 85 7 t.2 q13)]⟩) (fun b e σ' => match b with | .inl t => e = .exit 0 ∧ Sub ⟨[(2, .ptr 2 0), (3, .ptr 3 0), (4, .ptr 4 0), (8, .t (tS q15 r2.2))], [(2, .box (lset (q10 r2.1) [(9, .own 2336), (11, .own 2337)])), (3, .box (x11_1 c)), (4, .box x11_0), (2336, .rs 74 4 r2.1.Timer.Channels q11), (2337, .rs 85 7 t.2 q13)]⟩ σ' | .inr t => False) (.of rfl rfl) ?_ ?_
      ·intro s2
       refine TieS.seq (.seq (.region (.run 5 rfl (.nil ?_))))
       refine TieS.cond rfl ?_ ?_
       ·refine TieS.skip (.seq (.block (TieX.pre fun x hx => TieX.pre fun v3 hv3 => ?_)))
        refine TieS.draw 18 [_, _, _, _, _, _, _, _, _, _, _, _, _, _, _, _, _, _] [(2, .ptr 2 0), (3, .ptr 3 0), (4, .ptr 4 0), (7, .ptr 7 0), (8, .t (tS q15 r2.2)), (9, .t (tI s2.1))] [(2, .box (lset (q10 r2.1) [(9, .own 2336), (11, .own 2337)])), (3, .box (x11_1 c)), (4, .box x11_0), (7, .box (x11_2 s)), (2336, .rs 74 4 r2.1.Timer.Channels q11), (2337, .rs 85 7 s2.2 q13)] mixed (.of rfl rfl) rfl rfl rfl rfl (.cons (.quiet rfl rfl rfl) (.cons (.quiet rfl rfl rfl) (.cons (.quiet rfl rfl rfl) (.cons (.quiet rfl rfl rfl) (.cons (.quiet rfl rfl rfl) (.cons (.quiet rfl rfl rfl) (.cons (.indexO (sz := 7) hx rfl rfl rfl rfl rfl rfl rfl rfl) (.cons (.quiet rfl rfl rfl) (.cons (.loadY hx rfl rfl rfl rfl rfl rfl) (.cons (.quiet rfl rfl rfl) (.cons (.quiet rfl rfl rfl) (.cons (.quiet rfl rfl rfl) (.cons (.quiet rfl rfl rfl) (.cons (.callV (q28 s.Clock.Angle c.Angle) hv3 rfl rfl rfl rfl) (.cons (.quiet rfl rfl rfl) (.cons (.quiet rfl rfl rfl) (.cons (.indexO (sz := 7) hx rfl rfl rfl rfl rfl rfl rfl rfl) (.cons (.quiet rfl rfl rfl) (.nil))))))))))))))))))) (.storeY (u6_1 x (maxI (w64 (x.Left - v3)) (-1048576))) [tI (maxI (w64 (x.Left - v3)) (-1048576))] hx rfl rfl rfl rfl rfl rfl rfl rfl rfl rfl rfl rfl fun l hl => .nil (.endb (.region ?_)))
        exact TieO.run 3 rfl (.nil (.leaf ⟨rfl, .of rfl rfl⟩))
       ·exact TieS.exitOut rfl ⟨(fun h => by cases h), rfl, .of rfl rfl⟩
      rintro (s3 | r) e σ' _ hq
      ·obtain ⟨rfl, hs⟩ := hq
       refine TieX.exit rfl (TieX.sub hs ?_)
       exact TieS.leaf ⟨rfl, .of rfl rfl⟩
      ·exact hq.elim
     ·exact TieS.skip (.leaf ⟨rfl, .of rfl rfl⟩)
    rintro f2 e σ' _ ⟨rfl, hs⟩
    refine TieX.sub hs (TieS.seq (.region (.run 3 rfl (.nil ?_))))
    refine TieS.seq (.seq (.region (.run 3 rfl (.nil ?_))))
    refine TieS.cond rfl ?_ ?_
    ·refine TieS.seq (.region (.run 5 rfl (.call _ rfl rfl rfl (q279 (w64 (23040 * c.Period)) c.Space) (fun _ => rfl) fun v4 => .run 1 rfl ?_)))
     refine TieO.nil (.seq (.seq (.region (.run 1 rfl ?_))))
     refine TieO.nil (.block (.loop (fun t => ⟨[(2, .ptr 2 0), (3, .ptr 3 0), (4, .ptr 4 0), (8, .t (tS q15 r2.2)), (10, .t (tI v4)), (11, .t (tI t.1))], [(2, .box (lset (q10 (u7_2 (u7_1 (u7_0 r2.1 (⟨r2.1.Engine.Order, r2.1.Engine.First⟩ : SEngine)) c) (u3_1 r2.1.Timer []))) [(9, .own 2336), (11, .own 2337)])), (3, .box (x11_1 c)), (4, .box x11_0), (2336, .rs 74 4 r2.1.Timer.Channels q11), (2337, .rs 85 7 t.2 q13)]⟩) (fun b e σ' => match b with | .inl t => e = .exit 2 ∧ Sub ⟨[(2, .ptr 2 0), (4, .ptr 4 0), (8, .t (tS q15 r2.2))], [(2, .box (lset (q10 (u7_2 (u7_1 (u7_0 r2.1 (⟨r2.1.Engine.Order, r2.1.Engine.First⟩ : SEngine)) c) (u3_1 r2.1.Timer []))) [(9, .own 2336), (11, .own 2337)])), (4, .box x11_0), (2336, .rs 74 4 r2.1.Timer.Channels q11), (2337, .rs 85 7 t.2 q13)]⟩ σ' | .inr t => False) (.of rfl rfl) ?_ ?_))
     ·intro s4
      refine TieS.seq (.seq (.region (.run 6 rfl (.nil ?_))))
      refine TieS.cond rfl ?_ ?_
      ·refine TieS.skip (.seq (.block (.seq (TieX.pre fun x2 hx2 => ?_))))
       refine TieX.pre fun v5 hv5 => TieX.pre fun v6 hv6 => TieS.draw 13 [_, _, _, _, _, _, _, _, _, _, _, _, _] [(2, .ptr 2 0), (3, .ptr 3 0), (4, .ptr 4 0), (8, .t (tS q15 r2.2)), (10, .t (tI v4)), (11, .t (tI s4.1))] [(2, .box (lset (q10 (u7_2 (u7_1 (u7_0 r2.1 (⟨r2.1.Engine.Order, r2.1.Engine.First⟩ : SEngine)) c) (u3_1 r2.1.Timer []))) [(9, .own 2336), (11, .own 2337)])), (3, .box (x11_1 c)), (4, .box x11_0), (2336, .rs 74 4 r2.1.Timer.Channels q11), (2337, .rs 85 7 s4.2 q13)] mixed (.of rfl rfl) rfl rfl rfl rfl (.cons (.quiet rfl rfl rfl) (.cons (.quiet rfl rfl rfl) (.cons (.quiet rfl rfl rfl) (.cons (.quiet rfl rfl rfl) (.cons (.quiet rfl rfl rfl) (.cons (.quiet rfl rfl rfl) (.cons (.quiet rfl rfl rfl) (.cons (.quiet rfl rfl rfl) (.cons (.index hx2 rfl rfl rfl rfl rfl rfl (fun _ => rfl)) (.cons (.quiet rfl rfl rfl) (.cons (.callV (q248 (⟨r2.1.Engine.Order, r2.1.Engine.First⟩ : SEngine) x2) hv5 rfl rfl rfl rfl) (.cons (.callV (q28 c.Angle v5) hv6 rfl rfl rfl rfl) (.cons (.quiet rfl rfl rfl) (.nil)))))))))))))) (.nil (.seq ?_))
       refine TieS.region (.run 1 rfl (.nil (.block (.loop (fun t => ⟨[(2, .ptr 2 0), (3, .ptr 3 0), (4, .ptr 4 0), (8, .t (tS q15 r2.2)), (10, .t (tI v4)), (11, .t (tI s4.1)), (12, .t (tI v6)), (13, .t (tI t.1))], [(2, .box (lset (q10 (u7_2 (u7_1 (u7_0 r2.1 (⟨r2.1.Engine.Order, r2.1.Engine.First⟩ : SEngine)) c) (u3_1 r2.1.Timer []))) [(9, .own 2336), (11, .own 2337)])), (3, .box (x11_1 c)), (4, .box x11_0), (2336, .rs 74 4 r2.1.Timer.Channels q11), (2337, .rs 85 7 t.2 q13)]⟩) (fun b e σ' => match b with | .inl t => e = .exit 4 ∧ Sub ⟨[(2, .ptr 2 0), (3, .ptr 3 0), (4, .ptr 4 0), (8, .t (tS q15 r2.2)), (10, .t (tI v4)), (11, .t (tI s4.1))], [(2, .box (lset (q10 (u7_2 (u7_1 (u7_0 r2.1 (⟨r2.1.Engine.Order, r2.1.Engine.First⟩ : SEngine)) c) (u3_1 r2.1.Timer []))) [(9, .own 2336), (11, .own 2337)])), (3, .box (x11_1 c)), (4, .box x11_0), (2336, .rs 74 4 r2.1.Timer.Channels q11), (2337, .rs 85 7 t.2 q13)]⟩ σ' | .inr t => False) (.of rfl rfl) ?_ ?_))))
       ·intro s5
        refine TieS.seq (.seq (.region (.run 5 rfl (.nil ?_))))
        refine TieS.cond rfl ?_ ?_
        ·refine TieS.skip (.seq (.block (.seq (.seq ?_))))
         refine TieS.bind (Q₁ := fun t e σ' => e = .normal ∧ Sub ⟨[(2, .ptr 2 0), (3, .ptr 3 0), (4, .ptr 4 0), (8, .t (tS q15 r2.2)), (10, .t (tI v4)), (11, .t (tI s4.1)), (12, .t (tI v6)), (13, .t (tI s5.1)), (128, .t (tB t))], [(2, .box (lset (q10 (u7_2 (u7_1 (u7_0 r2.1 (⟨r2.1.Engine.Order, r2.1.Engine.First⟩ : SEngine)) c) (u3_1 r2.1.Timer []))) [(9, .own 2336), (11, .own 2337)])), (3, .box (x11_1 c)), (4, .box x11_0), (2336, .rs 74 4 r2.1.Timer.Channels q11), (2337, .rs 85 7 s5.2 q13)]⟩ σ') ?_ ?_
         ·refine TieX.pre fun x3 hx3 => TieX.split (fun hg => ?_) (fun hg2 => ?_)
          ·exact TieS.draw 19 [_, _, _, _, _, _, _, _, _, _, _, _, _, _, _, _, _, _, _] [(2, .ptr 2 0), (3, .ptr 3 0), (4, .ptr 4 0), (8, .t (tS q15 r2.2)), (10, .t (tI v4)), (11, .t (tI s4.1)), (12, .t (tI v6)), (13, .t (tI s5.1))] [(2, .box (lset (q10 (u7_2 (u7_1 (u7_0 r2.1 (⟨r2.1.Engine.Order, r2.1.Engine.First⟩ : SEngine)) c) (u3_1 r2.1.Timer []))) [(9, .own 2336), (11, .own 2337)])), (3, .box (x11_1 c)), (4, .box x11_0), (2336, .rs 74 4 r2.1.Timer.Channels q11), (2337, .rs 85 7 s5.2 q13)] mixed (.of rfl rfl) rfl rfl rfl rfl (.cons (.quiet rfl rfl rfl) (.cons (.quiet rfl rfl rfl) (.cons (.quiet rfl rfl rfl) (.cons (.index hx3 rfl rfl rfl rfl rfl rfl (fun _ => rfl)) (.cons (.quiet rfl rfl rfl) (.cons (.quiet rfl rfl rfl) (.cons (.quiet rfl rfl rfl) (.cons (.quiet rfl rfl rfl) (.cons (.quiet rfl rfl rfl) (.cons (.quiet rfl rfl rfl) (.cons (.index hx2 rfl rfl rfl rfl rfl rfl (fun _ => rfl)) (.cons (.quiet rfl rfl rfl) (.cons (.quiet rfl rfl rfl) (.cons (.cast (congrArg T.B hg) (.quiet rfl rfl rfl)) (.cons (.skip rfl) (.cons (.skip rfl) (.cons (.skip rfl) (.cons (.skip rfl) (.cons (.quiet rfl rfl rfl) (.nil)))))))))))))))))))) (.nil (.leaf ⟨rfl, .of rfl rfl⟩))
          ·exact TieS.draw 19 [_, _, _, _, _, _, _, _, _, _, _, _, _, _, _, _, _, _, _] [(2, .ptr 2 0), (3, .ptr 3 0), (4, .ptr 4 0), (8, .t (tS q15 r2.2)), (10, .t (tI v4)), (11, .t (tI s4.1)), (12, .t (tI v6)), (13, .t (tI s5.1))] [(2, .box (lset (q10 (u7_2 (u7_1 (u7_0 r2.1 (⟨r2.1.Engine.Order, r2.1.Engine.First⟩ : SEngine)) c) (u3_1 r2.1.Timer []))) [(9, .own 2336), (11, .own 2337)])), (3, .box (x11_1 c)), (4, .box x11_0), (2336, .rs 74 4 r2.1.Timer.Channels q11), (2337, .rs 85 7 s5.2 q13)] mixed (.of rfl rfl) rfl rfl rfl rfl (.cons (.quiet rfl rfl rfl) (.cons (.quiet rfl rfl rfl) (.cons (.quiet rfl rfl rfl) (.cons (.index hx3 rfl rfl rfl rfl rfl rfl (fun _ => rfl)) (.cons (.quiet rfl rfl rfl) (.cons (.quiet rfl rfl rfl) (.cons (.quiet rfl rfl rfl) (.cons (.quiet rfl rfl rfl) (.cons (.quiet rfl rfl rfl) (.cons (.quiet rfl rfl rfl) (.cons (.index hx2 rfl rfl rfl rfl rfl rfl (fun _ => rfl)) (.cons (.quiet rfl rfl rfl) (.cons (.quiet rfl rfl rfl) (.cons (.cast (congrArg T.B hg2) (.quiet rfl rfl rfl)) (.cons (.quiet rfl rfl rfl) (.cons (.quiet rfl rfl rfl) (.cons (.quiet rfl rfl rfl) (.cons (.quiet rfl rfl rfl) (.cons (.quiet rfl rfl rfl) (.nil)))))))))))))))))))) (.nil (.leaf ⟨rfl, .of rfl rfl⟩))
         rintro v7 e σ' _ ⟨rfl, hs⟩
         refine TieX.sub hs (TieS.cond rfl ?_ ?_)
         ·exact TieS.exit rfl (.region (.run 3 rfl (.nil (.leaf ⟨rfl, .of rfl rfl⟩))))
         ·refine TieS.skip (.seq (.bind (Q₁ := fun t e σ' => e = .normal ∧ Sub ⟨[(2, .ptr 2 0), (3, .ptr 3 0), (4, .ptr 4 0), (8, .t (tS q15 r2.2)), (10, .t (tI v4)), (11, .t (tI s4.1)), (12, .t (tI v6)), (13, .t (tI s5.1)), (14, .own 3096)], [(2, .box (lset (q10 (u7_2 (u7_1 (u7_0 r2.1 (⟨r2.1.Engine.Order, r2.1.Engine.First⟩ : SEngine)) c) (u3_1 r2.1.Timer []))) [(9, .own 2336), (11, .own 2337)])), (3, .box (x11_1 c)), (4, .box x11_0), (2336, .rs 74 4 r2.1.Timer.Channels q11), (2337, .rs 85 7 s5.2 q13), (3096, .rs 85 7 t q13)]⟩ σ') ?_ ?_))
          ·refine TieX.pre fun x4 hx4 => TieS.draws 8 (bm 10 0) (bm 10 255) ⟨[(2, .ptr 2 0), (3, .ptr 3 0), (4, .ptr 4 0), (8, .t (tS q15 r2.2)), (10, .t (tI v4)), (11, .t (tI s4.1)), (12, .t (tI v6)), (13, .t (tI s5.1)), (130, .agg [.t (tS Pv.encI r2.1.Engine.Order), .t (tI r2.1.Engine.First)]), (135, .agg [.t (tI x4.Cylinder), .t (tI x4.Spark), .t (tI x4.Dwell), .t (tI x4.End), .t (tI x4.Inject), .t (tI x4.Gap), .t (tI x4.Extra)]), (136, .t (tI v4))], [(2, .box (lset (q10 (u7_2 (u7_1 (u7_0 r2.1 (⟨r2.1.Engine.Order, r2.1.Engine.First⟩ : SEngine)) c) (u3_1 r2.1.Timer []))) [(9, .own 2336), (11, .own 2337)])), (3, .box (x11_1 c)), (4, .box x11_0), (2336, .rs 74 4 r2.1.Timer.Channels q11), (2337, .rs 85 7 s5.2 q13)]⟩ mixed (fun _ _ _ h => by cases h.1) rfl rfl rfl rfl ?_ ?_
           ·refine TieA.have_ (fuel₁ := 3) (l₁ := (bm 10 191)) (σ₁ := ⟨[(2, .ptr 2 0), (3, .ptr 3 0), (4, .ptr 4 0), (8, .t (tS q15 r2.2)), (10, .t (tI v4)), (11, .t (tI s4.1)), (12, .t (tI v6)), (13, .t (tI s5.1)), (130, .agg [.t (tS Pv.encI r2.1.Engine.Order), .t (tI r2.1.Engine.First)]), (134, .el (q16 x4)), (136, .t (tI v4))], [(2, .box (lset (q10 (u7_2 (u7_1 (u7_0 r2.1 (⟨r2.1.Engine.Order, r2.1.Engine.First⟩ : SEngine)) c) (u3_1 r2.1.Timer []))) [(9, .own 2336), (11, .own 2337)])), (3, .box (x11_1 c)), (4, .box x11_0), (2336, .rs 74 4 r2.1.Timer.Channels q11), (2337, .rs 85 7 s5.2 q13)]⟩) ?_ fun A_1 => ?_
            ·refine TieA.all [6] (by kernel_rfl) rfl (AllA.run _ rfl rfl rfl ?_ ?_)
             ·exact TieA.done (.of rfl rfl)
             exact AllA.nil
            refine TieA.have_ (fuel₁ := 4) (l₁ := (bm 10 159)) (σ₁ := ⟨[(2, .ptr 2 0), (3, .ptr 3 0), (4, .ptr 4 0), (8, .t (tS q15 r2.2)), (10, .t (tI v4)), (11, .t (tI s4.1)), (12, .t (tI v6)), (13, .t (tI s5.1)), (130, .agg [.t (tS Pv.encI r2.1.Engine.Order), .t (tI r2.1.Engine.First)]), (132, .t (tS q16 r2.1.Next)), (133, .t (tI s5.1)), (136, .t (tI v4))], [(2, .box (lset (q10 (u7_2 (u7_1 (u7_0 r2.1 (⟨r2.1.Engine.Order, r2.1.Engine.First⟩ : SEngine)) c) (u3_1 r2.1.Timer []))) [(9, .own 2336), (11, .own 2337)])), (3, .box (x11_1 c)), (4, .box x11_0), (2336, .rs 74 4 r2.1.Timer.Channels q11), (2337, .rs 85 7 s5.2 q13)]⟩) ?_ fun A_0 => ?_
            ·refine TieA.all [5] (by kernel_rfl) rfl (AllA.cons _ rfl rfl ?_ A_1 ?_)
             ·exact TieO.indexH hx4 rfl rfl rfl rfl rfl rfl rfl rfl (fun _ => rfl) (.nil (TieS.leaf ⟨rfl, .of rfl rfl⟩))
             exact AllA.nil
            refine TieA.fP 0 rfl rfl rfl (by kernel_rfl) rfl rfl rfl (.fP 2 rfl rfl rfl (by kernel_rfl) rfl rfl rfl (.mv 4 rfl (.inl rfl) rfl (by kernel_rfl) rfl (.mv 7 rfl (.inl rfl) rfl (by kernel_rfl) rfl (.all [1, 3] (by kernel_rfl) rfl ?_))))
            refine AllA.run _ rfl rfl rfl ?_ ?_
            ·exact TieA.all [3] (by kernel_rfl) rfl (AllA.runTo _ rfl rfl rfl (.of rfl rfl) A_0 (AllA.nil))
            refine AllA.run _ rfl rfl rfl ?_ ?_
            ·refine TieA.all [1, 5] (by kernel_rfl) rfl (AllA.runTo _ rfl rfl rfl (.of rfl rfl) A_0 (AllA.cons (σ₁ := ⟨[(2, .ptr 2 0), (3, .ptr 3 0), (4, .ptr 4 0), (8, .t (tS q15 r2.2)), (10, .t (tI v4)), (11, .t (tI s4.1)), (12, .t (tI v6)), (13, .t (tI s5.1)), (129, .ptr 2 0), (134, .el (q16 x4)), (136, .t (tI v4))], [(2, .box (lset (q10 (u7_2 (u7_1 (u7_0 r2.1 (⟨r2.1.Engine.Order, r2.1.Engine.First⟩ : SEngine)) c) (u3_1 r2.1.Timer []))) [(9, .own 2336), (11, .own 2337)])), (3, .box (x11_1 c)), (4, .box x11_0), (2336, .rs 74 4 r2.1.Timer.Channels q11), (2337, .rs 85 7 s5.2 q13)]⟩) _ rfl rfl ?_ ?_ ?_))
             ·exact TieO.indexH hx4 rfl rfl rfl rfl rfl rfl rfl rfl (fun _ => rfl) (.nil (TieS.leaf ⟨rfl, .of rfl rfl⟩))
             ·refine TieA.all [1, 6] (by kernel_rfl) rfl (AllA.runTo _ rfl rfl rfl (.of rfl rfl) A_1 (AllA.run _ rfl rfl rfl ?_ ?_))
              ·refine TieA.all [1] (by kernel_rfl) rfl (AllA.run _ rfl rfl rfl ?_ ?_)
               ·exact TieA.done (.of rfl rfl)
               exact AllA.nil
              exact AllA.nil
             exact AllA.nil
            exact AllA.nil
           exact TieO.callG [] [(900000, 3096)] (fun v8 => ⟨[(2, .ptr 2 0), (3, .ptr 3 0), (4, .ptr 4 0), (8, .t (tS q15 r2.2)), (10, .t (tI v4)), (11, .t (tI s4.1)), (12, .t (tI v6)), (13, .t (tI s5.1)), (130, .agg [.t (tS Pv.encI r2.1.Engine.Order), .t (tI r2.1.Engine.First)]), (135, .agg [.t (tI x4.Cylinder), .t (tI x4.Spark), .t (tI x4.Dwell), .t (tI x4.End), .t (tI x4.Inject), .t (tI x4.Gap), .t (tI x4.Extra)]), (136, .t (tI v4)), (137, .own 3096)], [(2, .box (lset (q10 (u7_2 (u7_1 (u7_0 r2.1 (⟨r2.1.Engine.Order, r2.1.Engine.First⟩ : SEngine)) c) (u3_1 r2.1.Timer []))) [(9, .own 2336), (11, .own 2337)])), (3, .box (x11_1 c)), (4, .box x11_0), (2336, .rs 74 4 r2.1.Timer.Channels q11), (2337, .rs 85 7 s5.2 q13), (3096, .rs 85 7 v8 q13)]⟩) (q312 (⟨r2.1.Engine.Order, r2.1.Engine.First⟩ : SEngine) x4 v4) rfl rfl rfl rfl rfl rfl rfl (fun _ => rfl) (fun _ => rfl) (fun _ => rfl) (fun _ => .of rfl rfl) fun v8 hv8 => .run 1 rfl (.nil (.leaf ⟨rfl, .of rfl rfl⟩))
          rintro l2 e σ' _ ⟨rfl, hs⟩
          refine TieX.sub hs (TieS.seq (.seq (.region (.run 1 rfl ?_))))
          refine TieO.nil (.block (.loop (fun t => ⟨[(2, .ptr 2 0), (3, .ptr 3 0), (4, .ptr 4 0), (8, .t (tS q15 r2.2)), (10, .t (tI v4)), (11, .t (tI s4.1)), (12, .t (tI v6)), (13, .t (tI s5.1)), (14, .own 3096), (15, .t (tI t.1))], [(2, .box (lset (q10 (u7_2 (u7_1 (u7_0 r2.1 (⟨r2.1.Engine.Order, r2.1.Engine.First⟩ : SEngine)) c) (u3_1 r2.1.Timer []))) [(9, .own 2336), (11, .own 2337)])), (3, .box (x11_1 c)), (4, .box x11_0), (2336, .rs 74 4 r2.1.Timer.Channels q11), (2337, .rs 85 7 s5.2 q13), (3096, .rs 85 7 t.2 q13)]⟩) (fun b e σ' => match b with | .inl t => e = .exit 6 ∧ Sub ⟨[(2, .ptr 2 0), (3, .ptr 3 0), (4, .ptr 4 0), (8, .t (tS q15 r2.2)), (10, .t (tI v4)), (11, .t (tI s4.1)), (12, .t (tI v6)), (13, .t (tI s5.1)), (14, .own 3096)], [(2, .box (lset (q10 (u7_2 (u7_1 (u7_0 r2.1 (⟨r2.1.Engine.Order, r2.1.Engine.First⟩ : SEngine)) c) (u3_1 r2.1.Timer []))) [(9, .own 2336), (11, .own 2337)])), (3, .box (x11_1 c)), (4, .box x11_0), (2336, .rs 74 4 r2.1.Timer.Channels q11), (2337, .rs 85 7 s5.2 q13), (3096, .rs 85 7 t.2 q13)]⟩ σ' | .inr t => False) (.of rfl rfl) ?_ ?_))
          ·intro s6
           refine TieS.seq (.seq (.region (.run 4 rfl (.nil ?_))))
           refine TieS.cond rfl ?_ ?_
           ·refine TieS.skip (.seq (.block (.region (.run 4 rfl ?_))))
            refine TieO.indexO rfl rfl rfl rfl rfl rfl rfl rfl rfl rfl fun x5 hx5 => .run 1 rfl (.loadY hx5 rfl rfl rfl rfl rfl rfl rfl rfl (.run 2 rfl (.indexOH hx5 rfl rfl rfl rfl rfl rfl rfl rfl rfl rfl ?_)))
            refine TieO.run 1 rfl (.storeY (u6_1 x5 (w64 (x5.Left + v6))) [tI (w64 (x5.Left + v6))] hx5 rfl rfl rfl rfl rfl rfl rfl rfl rfl rfl rfl rfl fun l3 hl3 => .nil (.endb (.region ?_)))
            exact TieO.run 3 rfl (.nil (.leaf ⟨rfl, .of rfl rfl⟩))
           ·exact TieS.exitOut rfl ⟨(fun h => by cases h), rfl, .of rfl rfl⟩
          rintro (s7 | r) e σ' _ hq
          ·obtain ⟨rfl, hs⟩ := hq
           refine TieX.exit rfl (TieX.sub hs ?_)
           refine TieS.region (.run 3 rfl (.appendY (id := 2337) (l := s5.2) (r := s7.2) (tm' := [(2, .ptr 2 0), (3, .ptr 3 0), (4, .ptr 4 0), (8, .t (tS q15 r2.2)), (10, .t (tI v4)), (11, .t (tI s4.1)), (12, .t (tI v6)), (13, .t (tI s5.1)), (14, .own 3096), (155, .ptr 2 11), (157, .own 3096)]) (hp' := [(2, .box (lset (q10 (u7_2 (u7_1 (u7_0 r2.1 (⟨r2.1.Engine.Order, r2.1.Engine.First⟩ : SEngine)) c) (u3_1 r2.1.Timer []))) [(9, .own 2336), (11, .any)])), (3, .box (x11_1 c)), (4, .box x11_0), (2336, .rs 74 4 r2.1.Timer.Channels q11), (3096, .rs 85 7 s7.2 q13)]) rfl rfl rfl rfl rfl rfl rfl (fun _ => rfl) (fun _ => rfl) (.inl ⟨rfl, rfl⟩) (.inr ⟨_, rfl, rfl⟩) (.of rfl rfl) rfl rfl rfl fun l4 => .run 2 rfl (.nil ?_)))
           exact TieS.endb (.region (.run 3 rfl (.nil (.leaf ⟨rfl, .of rfl rfl⟩))))
          ·exact hq.elim
        ·exact TieS.exitOut rfl ⟨(fun h => by cases h), rfl, .of rfl rfl⟩
       rintro (s8 | r) e σ' _ hq
       ·obtain ⟨rfl, hs⟩ := hq
        refine TieX.exit rfl (TieX.sub hs ?_)
        exact TieS.endb (.region (.run 3 rfl (.nil (.leaf ⟨rfl, .of rfl rfl⟩))))
       ·exact hq.elim
      ·exact TieS.exitOut rfl ⟨(fun h => by cases h), rfl, .of rfl rfl⟩
     rintro (s9 | r) e σ' _ hq
     ·obtain ⟨rfl, hs⟩ := hq
      refine TieX.exit rfl (TieX.sub hs ?_)
      refine TieS.seq (.region (.run 4 rfl (.nil (.cond rfl ?_ ?_))))
      ·exact TieS.seq (.region (.run 4 rfl (.nil (.ret ⟨.inl rfl, rfl⟩))))
      ·refine TieS.skip (.seq (.region (.run 1 rfl (.callG [(1000000, 2336), (1000001, 2337)] [(900000, 3328)] (fun v9 => ⟨[(2, .ptr 2 0), (4, .ptr 4 0), (8, .t (tS q15 r2.2)), (160, .ptr 2 11), (162, .t (tI (s9.2.length : Int))), (163, .t (tB (decide ((s9.2.length : Int) > 200)))), (166, .agg [.t (tS Pv.encI v9.Engine.Order), .t (tI v9.Engine.First), .t (tB v9.Clock.Valid), .t (tI v9.Clock.At), .t (tI v9.Clock.Angle), .t (tI v9.Clock.Period), .t (tI v9.Clock.Space), .t (tI v9.Clock.Ahead), .t (tI v9.Timer.Now), .t (tS q11 v9.Timer.Channels), .t (tS q16 v9.Next), .own 3328, .t (tB v9.Cut)])], [(2, .box (lset (q10 (u7_2 (u7_1 (u7_0 r2.1 (⟨r2.1.Engine.Order, r2.1.Engine.First⟩ : SEngine)) c) (u3_1 r2.1.Timer []))) [(9, .any), (11, .any)])), (4, .box x11_0), (3328, .rs 85 7 v9.Jobs q13)]⟩) (q207 (u7_4 (u7_2 (u7_1 (u7_0 r2.1 (⟨r2.1.Engine.Order, r2.1.Engine.First⟩ : SEngine)) c) (⟨r2.1.Timer.Now, r2.1.Timer.Channels⟩ : STimer)) s9.2)) rfl rfl rfl rfl rfl rfl rfl (fun _ => rfl) (fun _ => rfl) (fun _ => rfl) (fun _ => .of rfl rfl) fun v9 hv9 => ?_))))
       exact TieO.run 4 rfl (.nil (.ret ⟨.inl rfl, rfl⟩))
     ·exact hq.elim
    ·refine TieS.skip (.seq (.region (.run 1 rfl (.callG [(1000000, 2336), (1000001, 2337)] [(900000, 3328)] (fun v10 => ⟨[(2, .ptr 2 0), (3, .ptr 3 0), (4, .ptr 4 0), (8, .t (tS q15 r2.2)), (72, .agg [.t (tB c.Valid), .t (tI c.At), .t (tI c.Angle), .t (tI c.Period), .t (tI c.Space), .t (tI c.Ahead)]), (73, .ptr 2 2), (74, .ptr 2 12), (75, .t (tB r2.1.Cut)), (76, .t (tB (!r2.1.Cut))), (166, .agg [.t (tS Pv.encI v10.Engine.Order), .t (tI v10.Engine.First), .t (tB v10.Clock.Valid), .t (tI v10.Clock.At), .t (tI v10.Clock.Angle), .t (tI v10.Clock.Period), .t (tI v10.Clock.Space), .t (tI v10.Clock.Ahead), .t (tI v10.Timer.Now), .t (tS q11 v10.Timer.Channels), .t (tS q16 v10.Next), .own 3328, .t (tB v10.Cut)])], [(2, .box (lset (q10 (u7_2 (u7_1 (u7_0 r2.1 (⟨r2.1.Engine.Order, r2.1.Engine.First⟩ : SEngine)) c) (u3_1 r2.1.Timer []))) [(9, .any), (11, .any)])), (3, .box (x11_1 c)), (4, .box x11_0), (3328, .rs 85 7 v10.Jobs q13)]⟩) (q207 (u7_4 (u7_2 (u7_1 (u7_0 r2.1 (⟨r2.1.Engine.Order, r2.1.Engine.First⟩ : SEngine)) c) (⟨r2.1.Timer.Now, r2.1.Timer.Channels⟩ : STimer)) f2)) rfl rfl rfl rfl rfl rfl rfl (fun _ => rfl) (fun _ => rfl) (fun _ => rfl) (fun _ => .of rfl rfl) fun v10 hv10 => ?_))))
     exact TieO.run 4 rfl (.nil (.ret ⟨.inl rfl, rfl⟩))
set_option maxRecDepth 100000 in
theorem q347 (a : STimer) (b2 : STimer) : TieF Tryz.prog 52 [q87 a, q87 b2] (q192 a b2) (fun r => .t (tB r)) := by
 refine TieF.intro htab 38 [.tmp 4] Tryz.call52 Tryz.func52 rfl rfl rfl (Nat.le_of_ble_eq_true rfl) fun w0 L => ?_
 refine TieS.seq (.region (.run 3 rfl (.nil (.seq ?_))))
 refine TieS.seq (.region (.run 6 rfl (.selOr (v := ((a.Channels.length : Int) != (b2.Channels.length : Int))) 8 11 (fun b => ⟨[(2, .ptr 2 0), (3, .ptr 3 0), (19, .t (tB b))], [(2, .box [.t (tI a.Now), .t (tS q11 a.Channels)]), (3, .box [.t (tI b2.Now), .t (tS q11 b2.Channels)])]⟩) rfl ?_ ?_ ?_)))
 ·exact TieO.run 8 rfl (.nil (.leaf ⟨rfl, .of rfl rfl⟩))
 ·exact TieO.run 8 rfl (.nil (.leaf ⟨rfl, .of rfl rfl⟩))
 refine TieO.nil (.cond rfl ?_ ?_)
 ·exact TieS.seq (.region (.run 1 rfl (.nil (.ret ⟨.inl rfl, rfl⟩))))
 ·refine TieS.skip (.seq (.seq (.region (.run 1 rfl ?_))))
  refine TieO.nil (.block (.loop (fun t => ⟨[(2, .ptr 2 0), (3, .ptr 3 0), (5, .t (tI t))], [(2, .box [.t (tI a.Now), .t (tS q11 a.Channels)]), (3, .box [.t (tI b2.Now), .t (tS q11 b2.Channels)])]⟩) (fun b e σ' => match b with | .inl t => e = .exit 0 ∧ Sub ⟨[], []⟩ σ' | .inr t => e = .ret ∧ retT tab σ' [.tmp 4] = some (((fun r => .t (tB r)) : Bool → T) t)) (.of rfl rfl) ?_ ?_))
  ·intro i
   refine TieS.seq (.seq (.region (.run 5 rfl (.nil ?_))))
   refine TieS.cond rfl ?_ ?_
   ·refine TieS.skip (.seq (.block (.seq (TieX.pre fun x hx => ?_))))
    refine TieX.pre fun x2 hx2 => TieS.draw 11 [_, _, _, _, _, _, _, _, _, _, _] [(2, .ptr 2 0), (3, .ptr 3 0), (5, .t (tI i))] [(2, .box [.t (tI a.Now), .t (tS q11 a.Channels)]), (3, .box [.t (tI b2.Now), .t (tS q11 b2.Channels)])] mixed (.of rfl rfl) rfl rfl rfl rfl (.cons (.quiet rfl rfl rfl) (.cons (.quiet rfl rfl rfl) (.cons (.quiet rfl rfl rfl) (.cons (.index hx rfl rfl rfl rfl rfl rfl (fun _ => rfl)) (.cons (.quiet rfl rfl rfl) (.cons (.quiet rfl rfl rfl) (.cons (.quiet rfl rfl rfl) (.cons (.quiet rfl rfl rfl) (.cons (.index hx2 rfl rfl rfl rfl rfl rfl (fun _ => rfl)) (.cons (.quiet rfl rfl rfl) (.cons (.neS [.bool x.Armed, .int .i64 x.At, .bool x.Next, .bool x.Level] [.bool x2.Armed, .int .i64 x2.At, .bool x2.Next, .bool x2.Level] (eqv_74 x.Armed x.At x.Next x.Level x2.Armed x2.At x2.Next x2.Level) rfl rfl rfl rfl) (.nil)))))))))))) (.nil (.cond rfl ?_ ?_))
    ·exact TieS.seq (.region (.run 1 rfl (.nil (.ret ⟨(fun h => by cases h), rfl, rfl⟩))))
    ·refine TieS.skip (.endb (.region (.run 3 rfl (.nil ?_))))
     exact TieS.leaf ⟨rfl, .of rfl rfl⟩
   ·exact TieS.exitOut rfl ⟨(fun h => by cases h), rfl, .of rfl rfl⟩
  rintro (i2 | r2) e σ' _ hq
  ·obtain ⟨rfl, hs⟩ := hq
   refine TieX.exit rfl (TieX.sub hs ?_)
   exact TieS.seq (.region (.run 1 rfl (.nil (.ret ⟨.inl rfl, rfl⟩))))
  ·obtain ⟨rfl, hs⟩ := hq
   exact TieX.ret ⟨.inl rfl, hs⟩
set_option maxRecDepth 100000 in
set_option maxHeartbeats 4000000 in
theorem q342 (a : SScheduler) (b2 : SScheduler) : TieF Tryz.prog 12 [q24 a, q24 b2] (q135 a b2) (fun r => .t (tB r)) := by
 refine TieF.intro htab 123 [.tmp 4] Tryz.call12 Tryz.func12 rfl rfl rfl (Nat.le_of_ble_eq_true rfl) fun w0 L => ?_
 refine TieS.seq (.region (.run 3 rfl (.nil (.seq ?_))))
 refine TieS.seq (.region (.run 4 rfl (.neS [.bool a.Clock.Valid, .int .i64 a.Clock.At, .int .i64 a.Clock.Angle, .int .i64 a.Clock.Period, .int .i64 a.Clock.Space, .int .i64 a.Clock.Ahead] [.bool b2.Clock.Valid, .int .i64 b2.Clock.At, .int .i64 b2.Clock.Angle, .int .i64 b2.Clock.Period, .int .i64 b2.Clock.Space, .int .i64 b2.Clock.Ahead] (eqv_26 a.Clock.Valid a.Clock.At a.Clock.Angle a.Clock.Period a.Clock.Space a.Clock.Ahead b2.Clock.Valid b2.Clock.At b2.Clock.Angle b2.Clock.Period b2.Clock.Space b2.Clock.Ahead) rfl rfl rfl rfl rfl rfl (.run 1 rfl ?_))))
 refine TieO.selOr (v := (!(a.Cut == b2.Cut))) 6 13 (fun b => ⟨[(2, .ptr 2 0), (3, .ptr 3 0), (19, .t (tB b))], [(2, .box (q10 a)), (3, .box (q10 b2))]⟩) rfl ?_ ?_ ?_
 ·exact TieO.run 6 rfl (.nil (.leaf ⟨rfl, .of rfl rfl⟩))
 ·exact TieO.run 6 rfl (.nil (.leaf ⟨rfl, .of rfl rfl⟩))
 refine TieO.run 1 rfl (.bind 7 (fun b3 => ⟨[(2, .ptr 2 0), (3, .ptr 3 0), (27, .t (tB b3))], [(2, .box (q10 a)), (3, .box (q10 b2))]⟩) (TieO.split 20 rfl ?_ ?_) fun b3 _ => ?_)
 ·exact TieO.run 7 rfl (.nil (.leaf ⟨rfl, .of rfl rfl⟩))
 ·exact TieO.run 4 rfl (.call _ rfl rfl rfl (q347 a.Timer b2.Timer) (fun _ => rfl) fun v => .run 2 rfl (.nil (.leaf ⟨rfl, .of rfl rfl⟩)))
 refine TieO.run 1 rfl (.selOr (v := (a.Engine.First != b2.Engine.First)) 8 28 (fun b => ⟨[(2, .ptr 2 0), (3, .ptr 3 0), (36, .t (tB b))], [(2, .box (q10 a)), (3, .box (q10 b2))]⟩) rfl ?_ ?_ ?_)
 ·exact TieO.run 8 rfl (.nil (.leaf ⟨rfl, .of rfl rfl⟩))
 ·exact TieO.run 8 rfl (.nil (.leaf ⟨rfl, .of rfl rfl⟩))
 refine TieO.run 1 rfl (.selOr (v := ((a.Engine.Order.length : Int) != (b2.Engine.Order.length : Int))) 10 37 (fun b => ⟨[(2, .ptr 2 0), (3, .ptr 3 0), (47, .t (tB b))], [(2, .box (q10 a)), (3, .box (q10 b2))]⟩) rfl ?_ ?_ ?_)
 ·exact TieO.run 10 rfl (.nil (.leaf ⟨rfl, .of rfl rfl⟩))
 ·exact TieO.run 10 rfl (.nil (.leaf ⟨rfl, .of rfl rfl⟩))
 refine TieO.run 1 rfl (.selOr (v := ((a.Next.length : Int) != (b2.Next.length : Int))) 8 48 (fun b => ⟨[(2, .ptr 2 0), (3, .ptr 3 0), (56, .t (tB b))], [(2, .box (q10 a)), (3, .box (q10 b2))]⟩) rfl ?_ ?_ ?_)
 ·exact TieO.run 8 rfl (.nil (.leaf ⟨rfl, .of rfl rfl⟩))
 ·exact TieO.run 8 rfl (.nil (.leaf ⟨rfl, .of rfl rfl⟩))
 refine TieO.run 1 rfl (.selOr (v := ((a.Jobs.length : Int) != (b2.Jobs.length : Int))) 8 57 (fun b => ⟨[(2, .ptr 2 0), (3, .ptr 3 0), (65, .t (tB b))], [(2, .box (q10 a)), (3, .box (q10 b2))]⟩) rfl ?_ ?_ ?_)
 ·exact TieO.run 8 rfl (.nil (.leaf ⟨rfl, .of rfl rfl⟩))
 ·exact TieO.run 8 rfl (.nil (.leaf ⟨rfl, .of rfl rfl⟩))
 refine TieO.nil (.cond rfl ?_ ?_)
 ·exact TieS.seq (.region (.run 1 rfl (.nil (.ret ⟨.inl rfl, rfl⟩))))
 ·refine TieS.skip (.seq (.seq (.region (.run 1 rfl ?_))))
  refine TieO.nil (.block (.loop (fun t => ⟨[(2, .ptr 2 0), (3, .ptr 3 0), (5, .t (tI t))], [(2, .box (q10 a)), (3, .box (q10 b2))]⟩) (fun b e σ' => match b with | .inl t => e = .exit 0 ∧ Sub ⟨[(2, .ptr 2 0), (3, .ptr 3 0)], [(2, .box (q10 a)), (3, .box (q10 b2))]⟩ σ' | .inr t => e = .ret ∧ retT tab σ' [.tmp 4] = some (((fun r => .t (tB r)) : Bool → T) t)) (.of rfl rfl) ?_ ?_))
  ·intro i
   refine TieS.seq (.seq (.region (.run 6 rfl (.nil ?_))))
   refine TieS.cond rfl ?_ ?_
   ·refine TieS.skip (.seq (.block (.seq (TieX.pre fun x hx => ?_))))
    refine TieX.pre fun x2 hx2 => TieS.draw 13 [_, _, _, _, _, _, _, _, _, _, _, _, _] [(2, .ptr 2 0), (3, .ptr 3 0), (5, .t (tI i))] [(2, .box (q10 a)), (3, .box (q10 b2))] mixed (.of rfl rfl) rfl rfl rfl rfl (.cons (.quiet rfl rfl rfl) (.cons (.quiet rfl rfl rfl) (.cons (.quiet rfl rfl rfl) (.cons (.quiet rfl rfl rfl) (.cons (.index hx rfl rfl rfl rfl rfl rfl (fun _ => rfl)) (.cons (.quiet rfl rfl rfl) (.cons (.quiet rfl rfl rfl) (.cons (.quiet rfl rfl rfl) (.cons (.quiet rfl rfl rfl) (.cons (.quiet rfl rfl rfl) (.cons (.index hx2 rfl rfl rfl rfl rfl rfl (fun _ => rfl)) (.cons (.quiet rfl rfl rfl) (.cons (.quiet rfl rfl rfl) (.nil)))))))))))))) (.nil (.cond rfl ?_ ?_))
    ·exact TieS.seq (.region (.run 1 rfl (.nil (.ret ⟨(fun h => by cases h), rfl, rfl⟩))))
    ·refine TieS.skip (.endb (.region (.run 3 rfl (.nil ?_))))
     exact TieS.leaf ⟨rfl, .of rfl rfl⟩
   ·exact TieS.exitOut rfl ⟨(fun h => by cases h), rfl, .of rfl rfl⟩
  rintro (i2 | r4) e σ' _ hq
  ·obtain ⟨rfl, hs⟩ := hq
   refine TieX.exit rfl (TieX.sub hs ?_)
   refine TieS.seq (.seq (.region (.run 1 rfl (.nil ?_))))
   refine TieS.block (.loop (fun t => ⟨[(2, .ptr 2 0), (3, .ptr 3 0), (6, .t (tI t))], [(2, .box (q10 a)), (3, .box (q10 b2))]⟩) (fun b e σ' => match b with | .inl t => e = .exit 2 ∧ Sub ⟨[(2, .ptr 2 0), (3, .ptr 3 0)], [(2, .box (q10 a)), (3, .box (q10 b2))]⟩ σ' | .inr t => e = .ret ∧ retT tab σ' [.tmp 4] = some (((fun r => .t (tB r)) : Bool → T) t)) (.of rfl rfl) ?_ ?_)
   ·intro i3
    refine TieS.seq (.seq (.region (.run 5 rfl (.nil ?_))))
    refine TieS.cond rfl ?_ ?_
    ·refine TieS.skip (.seq (.block (.seq (TieX.pre fun x3 hx3 => ?_))))
     refine TieX.pre fun x4 hx4 => TieS.draw 11 [_, _, _, _, _, _, _, _, _, _, _] [(2, .ptr 2 0), (3, .ptr 3 0), (6, .t (tI i3))] [(2, .box (q10 a)), (3, .box (q10 b2))] mixed (.of rfl rfl) rfl rfl rfl rfl (.cons (.quiet rfl rfl rfl) (.cons (.quiet rfl rfl rfl) (.cons (.quiet rfl rfl rfl) (.cons (.index hx3 rfl rfl rfl rfl rfl rfl (fun _ => rfl)) (.cons (.quiet rfl rfl rfl) (.cons (.quiet rfl rfl rfl) (.cons (.quiet rfl rfl rfl) (.cons (.quiet rfl rfl rfl) (.cons (.index hx4 rfl rfl rfl rfl rfl rfl (fun _ => rfl)) (.cons (.quiet rfl rfl rfl) (.cons (.neS [.int .i64 x3.Cylinder, .int .i64 x3.Spark, .int .i64 x3.Dwell, .int .i64 x3.End, .int .i64 x3.Inject, .int .i64 x3.Gap, .int .i64 x3.Extra] [.int .i64 x4.Cylinder, .int .i64 x4.Spark, .int .i64 x4.Dwell, .int .i64 x4.End, .int .i64 x4.Inject, .int .i64 x4.Gap, .int .i64 x4.Extra] (eqv_55 x3.Cylinder x3.Spark x3.Dwell x3.End x3.Inject x3.Gap x3.Extra x4.Cylinder x4.Spark x4.Dwell x4.End x4.Inject x4.Gap x4.Extra) rfl rfl rfl rfl) (.nil)))))))))))) (.nil (.cond rfl ?_ ?_))
     ·exact TieS.seq (.region (.run 1 rfl (.nil (.ret ⟨(fun h => by cases h), rfl, rfl⟩))))
     ·refine TieS.skip (.endb (.region (.run 3 rfl (.nil ?_))))
      exact TieS.leaf ⟨rfl, .of rfl rfl⟩
    ·exact TieS.exitOut rfl ⟨(fun h => by cases h), rfl, .of rfl rfl⟩
   rintro (i4 | r3) e σ' _ hq
   ·obtain ⟨rfl, hs⟩ := hq
    refine TieX.exit rfl (TieX.sub hs ?_)
    refine TieS.seq (.seq (.region (.run 1 rfl (.nil ?_))))
    refine TieS.block (.loop (fun t => ⟨[(2, .ptr 2 0), (3, .ptr 3 0), (7, .t (tI t))], [(2, .box (q10 a)), (3, .box (q10 b2))]⟩) (fun b e σ' => match b with | .inl t => e = .exit 4 ∧ Sub ⟨[], []⟩ σ' | .inr t => e = .ret ∧ retT tab σ' [.tmp 4] = some (((fun r => .t (tB r)) : Bool → T) t)) (.of rfl rfl) ?_ ?_)
    ·intro i5
     refine TieS.seq (.seq (.region (.run 5 rfl (.nil ?_))))
     refine TieS.cond rfl ?_ ?_
     ·refine TieS.skip (.seq (.block (.seq (TieX.pre fun x5 hx5 => ?_))))
      refine TieX.pre fun x6 hx6 => TieS.draw 11 [_, _, _, _, _, _, _, _, _, _, _] [(2, .ptr 2 0), (3, .ptr 3 0), (7, .t (tI i5))] [(2, .box (q10 a)), (3, .box (q10 b2))] mixed (.of rfl rfl) rfl rfl rfl rfl (.cons (.quiet rfl rfl rfl) (.cons (.quiet rfl rfl rfl) (.cons (.quiet rfl rfl rfl) (.cons (.index hx5 rfl rfl rfl rfl rfl rfl (fun _ => rfl)) (.cons (.quiet rfl rfl rfl) (.cons (.quiet rfl rfl rfl) (.cons (.quiet rfl rfl rfl) (.cons (.quiet rfl rfl rfl) (.cons (.index hx6 rfl rfl rfl rfl rfl rfl (fun _ => rfl)) (.cons (.quiet rfl rfl rfl) (.cons (.neS [.int .i64 x5.Event.Angle, .int .i64 x5.Event.Kind, .int .i64 x5.Event.Cylinder, .int .i64 x5.Event.Pulse, .int .i64 x5.Left, .bool x5.Armed, .int .i64 x5.At] [.int .i64 x6.Event.Angle, .int .i64 x6.Event.Kind, .int .i64 x6.Event.Cylinder, .int .i64 x6.Event.Pulse, .int .i64 x6.Left, .bool x6.Armed, .int .i64 x6.At] (eqv_85 x5.Event.Angle x5.Event.Kind x5.Event.Cylinder x5.Event.Pulse x5.Left x5.Armed x5.At x6.Event.Angle x6.Event.Kind x6.Event.Cylinder x6.Event.Pulse x6.Left x6.Armed x6.At) rfl rfl rfl rfl) (.nil)))))))))))) (.nil (.cond rfl ?_ ?_))
      ·exact TieS.seq (.region (.run 1 rfl (.nil (.ret ⟨(fun h => by cases h), rfl, rfl⟩))))
      ·refine TieS.skip (.endb (.region (.run 3 rfl (.nil ?_))))
       exact TieS.leaf ⟨rfl, .of rfl rfl⟩
     ·exact TieS.exitOut rfl ⟨(fun h => by cases h), rfl, .of rfl rfl⟩
    rintro (i6 | r2) e σ' _ hq
    ·obtain ⟨rfl, hs⟩ := hq
     refine TieX.exit rfl (TieX.sub hs ?_)
     exact TieS.seq (.region (.run 1 rfl (.nil (.ret ⟨.inl rfl, rfl⟩))))
    ·obtain ⟨rfl, hs⟩ := hq
     exact TieX.ret ⟨.inl rfl, hs⟩
   ·obtain ⟨rfl, hs⟩ := hq
    exact TieX.ret ⟨.inl rfl, hs⟩
  ·obtain ⟨rfl, hs⟩ := hq
   exact TieX.ret ⟨.inl rfl, hs⟩
set_option maxRecDepth 100000 in
theorem q302 (a : List SSwitch) (b2 : List SSwitch) : TieF Tryz.prog 13 [.t (tS q15 a), .t (tS q15 b2)] (q128 a b2) (fun r => .t (tB r)) := by
 refine TieF.intro htab 26 [.tmp 4] Tryz.call13 Tryz.func13 rfl rfl rfl (Nat.le_of_ble_eq_true rfl) fun w0 L => ?_
 refine TieS.seq (.region (.run 1 rfl (.nil (.seq ?_))))
 refine TieS.seq (.region (.run 5 rfl (.nil (.cond rfl ?_ ?_))))
 ·exact TieS.seq (.region (.run 1 rfl (.nil (.ret ⟨.inl rfl, rfl⟩))))
 ·refine TieS.skip (.seq (.seq (.region (.run 1 rfl ?_))))
  refine TieO.nil (.block (.loop (fun t => ⟨[(0, .t (tS q15 a)), (1, .t (tS q15 b2)), (5, .t (tI t))], []⟩) (fun b e σ' => match b with | .inl t => e = .exit 0 ∧ Sub ⟨[], []⟩ σ' | .inr t => e = .ret ∧ retT tab σ' [.tmp 4] = some (((fun r => .t (tB r)) : Bool → T) t)) (.of rfl rfl) ?_ ?_))
  ·intro i
   refine TieS.seq (.seq (.region (.run 4 rfl (.nil ?_))))
   refine TieS.cond rfl ?_ ?_
   ·refine TieS.skip (.seq (.block (.seq (TieX.pre fun x hx => ?_))))
    refine TieX.pre fun x2 hx2 => TieS.draw 9 [_, _, _, _, _, _, _, _, _] [(0, .t (tS q15 a)), (1, .t (tS q15 b2)), (5, .t (tI i))] [] mixed (.of rfl rfl) rfl rfl rfl rfl (.cons (.quiet rfl rfl rfl) (.cons (.quiet rfl rfl rfl) (.cons (.index hx rfl rfl rfl rfl rfl rfl (fun _ => rfl)) (.cons (.quiet rfl rfl rfl) (.cons (.quiet rfl rfl rfl) (.cons (.quiet rfl rfl rfl) (.cons (.index hx2 rfl rfl rfl rfl rfl rfl (fun _ => rfl)) (.cons (.quiet rfl rfl rfl) (.cons (.neS [.int .i64 x.At, .int .i64 x.Channel, .bool x.Level] [.int .i64 x2.At, .int .i64 x2.Channel, .bool x2.Level] (eqv_52 x.At x.Channel x.Level x2.At x2.Channel x2.Level) rfl rfl rfl rfl) (.nil)))))))))) (.nil (.cond rfl ?_ ?_))
    ·exact TieS.seq (.region (.run 1 rfl (.nil (.ret ⟨(fun h => by cases h), rfl, rfl⟩))))
    ·refine TieS.skip (.endb (.region (.run 3 rfl (.nil ?_))))
     exact TieS.leaf ⟨rfl, .of rfl rfl⟩
   ·exact TieS.exitOut rfl ⟨(fun h => by cases h), rfl, .of rfl rfl⟩
  rintro (i2 | r2) e σ' _ hq
  ·obtain ⟨rfl, hs⟩ := hq
   refine TieX.exit rfl (TieX.sub hs ?_)
   exact TieS.seq (.region (.run 1 rfl (.nil (.ret ⟨.inl rfl, rfl⟩))))
  ·obtain ⟨rfl, hs⟩ := hq
   exact TieX.ret ⟨.inl rfl, hs⟩
set_option maxRecDepth 100000 in
theorem q267 (s : SScheduler) (c : SClock) : TieF Tryz.prog 3 [q24 s, q208 c] (q66 s c) (fun r => .t (tB r)) := by
 refine TieF.intro htab 50 [.tmp 4] Tryz.call3 Tryz.func3 rfl rfl rfl (Nat.le_of_ble_eq_true rfl) fun w0 L => ?_
 refine TieS.seq (.region (.run 3 rfl (.nil (.seq ?_))))
 refine TieS.seq (.region (.call _ rfl rfl rfl (q333) (fun _ => rfl) fun v => .run 1 rfl (.nil ?_)))
 refine TieS.cond rfl ?_ ?_
 ·exact TieS.seq (.region (.run 1 rfl (.nil (.ret ⟨.inl rfl, rfl⟩))))
 ·refine TieS.skip (.seq (.seq (.region (.run 1 rfl ?_))))
  refine TieO.call _ rfl rfl rfl (q326 s) (fun _ => rfl) fun v2 => .nil (.cond rfl ?_ ?_)
  ·exact TieS.seq (.region (.run 1 rfl (.nil (.ret ⟨.inl rfl, rfl⟩))))
  ·refine TieS.skip (.seq (.region (.run 2 rfl (.call _ rfl rfl rfl (q222 s c) (fun _ => rfl) fun r2 => ?_))))
   refine TieO.run 8 rfl (.nil (.seq (.region (.run 2 rfl ?_))))
   refine TieO.call _ rfl rfl rfl (q324 s c) (fun _ => rfl) fun r3 => .run 8 rfl (.nil (.seq (.region ?_)))
   refine TieO.run 2 rfl (.call _ rfl rfl rfl (q342 (u7_2 (u7_1 (u7_0 r2.1 (⟨r2.1.Engine.Order, r2.1.Engine.First⟩ : SEngine)) (⟨r2.1.Clock.Valid, r2.1.Clock.At, r2.1.Clock.Angle, r2.1.Clock.Period, r2.1.Clock.Space, r2.1.Clock.Ahead⟩ : SClock)) (⟨r2.1.Timer.Now, r2.1.Timer.Channels⟩ : STimer)) (u7_2 (u7_1 (u7_0 r3.1 (⟨r3.1.Engine.Order, r3.1.Engine.First⟩ : SEngine)) (⟨r3.1.Clock.Valid, r3.1.Clock.At, r3.1.Clock.Angle, r3.1.Clock.Period, r3.1.Clock.Space, r3.1.Clock.Ahead⟩ : SClock)) (⟨r3.1.Timer.Now, r3.1.Timer.Channels⟩ : STimer))) (fun _ => rfl) fun v3 => .run 1 rfl (.bind 4 (fun b2 => ⟨[(5, .ptr 5 0), (7, .t (tI r2.2.2)), (10, .t (tI r3.2.2)), (36, .t (tB b2))], [(5, .box (q10 r2.1))]⟩) (TieO.split 32 rfl ?_ ?_) fun b2 _ => ?_))
   ·exact TieO.run 2 rfl (.call _ rfl rfl rfl (q302 r2.2.1 r3.2.1) (fun _ => rfl) fun v4 => .run 1 rfl (.nil (.leaf ⟨rfl, .of rfl rfl⟩)))
   ·exact TieO.run 4 rfl (.nil (.leaf ⟨rfl, .of rfl rfl⟩))
   refine TieO.run 1 rfl (.selAnd (v := (r2.2.2 == r3.2.2)) 4 37 (fun b => ⟨[(5, .ptr 5 0), (7, .t (tI r2.2.2)), (41, .t (tB b))], [(5, .box (q10 r2.1))]⟩) rfl ?_ ?_ ?_)
   ·exact TieO.run 4 rfl (.nil (.leaf ⟨rfl, .of rfl rfl⟩))
   ·exact TieO.run 4 rfl (.nil (.leaf ⟨rfl, .of rfl rfl⟩))
   refine TieO.run 1 rfl (.bind 7 (fun b4 => ⟨[(49, .t (tB b4))], []⟩) (TieO.split 42 rfl ?_ ?_) fun b4 _ => ?_)
   ·refine TieO.run 3 rfl (.bind 3 (fun b3 => ⟨[(42, .t (tB true)), (48, .t (tB b3))], []⟩) (TieO.split 45 rfl ?_ ?_) fun b3 _ => ?_)
    ·exact TieO.run 3 rfl (.nil (.leaf ⟨rfl, .of rfl rfl⟩))
    ·exact TieO.run 1 rfl (.call _ rfl rfl rfl (q219 (u7_2 (u7_1 (u7_0 r2.1 (⟨r2.1.Engine.Order, r2.1.Engine.First⟩ : SEngine)) (⟨r2.1.Clock.Valid, r2.1.Clock.At, r2.1.Clock.Angle, r2.1.Clock.Period, r2.1.Clock.Space, r2.1.Clock.Ahead⟩ : SClock)) (⟨r2.1.Timer.Now, r2.1.Timer.Channels⟩ : STimer))) (fun _ => rfl) fun v5 => .run 1 rfl (.nil (.leaf ⟨rfl, .of rfl rfl⟩)))
    exact TieO.run 1 rfl (.nil (.leaf ⟨rfl, .of rfl rfl⟩))
   ·exact TieO.run 7 rfl (.nil (.leaf ⟨rfl, .of rfl rfl⟩))
   exact TieO.run 1 rfl (.nil (.ret ⟨.inl rfl, rfl⟩))
end Go.Proofs.YtldhbjpnlehpgaaGreat
namespace Go.Proofs.YtldhbjpnlehpgaaGreat
open Go Go.Pv Go.Proofs
end Go.Proofs.YtldhbjpnlehpgaaGreat
namespace Go.Pv
open Go
structure wf_SEngine (x : SEngine) : Prop where
  Order : (wfL (fun n => (Lit.int .i64 n).wf = true)) x.Order
  First : (fun n => (Lit.int .i64 n).wf = true) x.First
structure wf_SClock (x : SClock) : Prop where
  Valid : (fun _ => True) x.Valid
  At : (fun n => (Lit.int .i64 n).wf = true) x.At
  Angle : (fun n => (Lit.int .i64 n).wf = true) x.Angle
  Period : (fun n => (Lit.int .i64 n).wf = true) x.Period
  Space : (fun n => (Lit.int .i64 n).wf = true) x.Space
  Ahead : (fun n => (Lit.int .i64 n).wf = true) x.Ahead
structure wf_SChannel (x : SChannel) : Prop where
  Armed : (fun _ => True) x.Armed
  At : (fun n => (Lit.int .i64 n).wf = true) x.At
  Next : (fun _ => True) x.Next
  Level : (fun _ => True) x.Level
structure wf_STimer (x : STimer) : Prop where
  Now : (fun n => (Lit.int .i64 n).wf = true) x.Now
  Channels : (wfL wf_SChannel) x.Channels
structure wf_SFire (x : SFire) : Prop where
  Cylinder : (fun n => (Lit.int .i64 n).wf = true) x.Cylinder
  Spark : (fun n => (Lit.int .i64 n).wf = true) x.Spark
  Dwell : (fun n => (Lit.int .i64 n).wf = true) x.Dwell
  End : (fun n => (Lit.int .i64 n).wf = true) x.End
  Inject : (fun n => (Lit.int .i64 n).wf = true) x.Inject
  Gap : (fun n => (Lit.int .i64 n).wf = true) x.Gap
  Extra : (fun n => (Lit.int .i64 n).wf = true) x.Extra
structure wf_SEvent (x : SEvent) : Prop where
  Angle : (fun n => (Lit.int .i64 n).wf = true) x.Angle
  Kind : (fun n => (Lit.int .i64 n).wf = true) x.Kind
  Cylinder : (fun n => (Lit.int .i64 n).wf = true) x.Cylinder
  Pulse : (fun n => (Lit.int .i64 n).wf = true) x.Pulse
structure wf_SJob (x : SJob) : Prop where
  Event : wf_SEvent x.Event
  Left : (fun n => (Lit.int .i64 n).wf = true) x.Left
  Armed : (fun _ => True) x.Armed
  At : (fun n => (Lit.int .i64 n).wf = true) x.At
structure wf_SScheduler (x : SScheduler) : Prop where
  Engine : wf_SEngine x.Engine
  Clock : wf_SClock x.Clock
  Timer : wf_STimer x.Timer
  Next : (wfL wf_SFire) x.Next
  Jobs : (wfL wf_SJob) x.Jobs
  Cut : (fun _ => True) x.Cut
structure wf_SWheel (x : SWheel) : Prop where
  Teeth : (fun n => (Lit.int .i64 n).wf = true) x.Teeth
  Missing : (fun n => (Lit.int .i64 n).wf = true) x.Missing
end Go.Pv
namespace Go.Proofs.YtldhbjpnlehpgaaGreat
open Go Go.Pv Go.Proofs
theorem reads_3 : Reads Tryz.prog 3 Pv.encI (fun n => (Lit.int .i64 n).wf = true) := reads_int Tryz.underlying3 (fun _ => rfl)
theorem reads_22 : Reads Tryz.prog 22 (Pv.encS Pv.encI) (wfL (fun n => (Lit.int .i64 n).wf = true)) := reads_slice (sz := 1) Tryz.underlying22 reads_3 (by kernel_rfl) (by decide) (fun _ => rfl)
theorem reads_24 : Reads Tryz.prog 24 q17 wf_SEngine := by
  intro H e w fuel cs x h
  obtain ⟨xs, n, _, rfl, hl, hlen, hf⟩ := DataW.trod_struct Tryz.underlying24 h
  obtain ⟨y0, w0, r0⟩ := field_of hlen hf 0 rfl reads_22
  obtain ⟨y1, w1, r1⟩ := field_of hlen hf 1 rfl reads_3
  exact ⟨⟨y0, y1⟩, ⟨w0, w1⟩, rtl_cons (o := 0) (o' := 1) r0 (by kernel_rfl) (rtl_cons (o := 1) (o' := 2) r1 (by kernel_rfl) (rtl_nil (hl.trans (by kernel_rfl))))⟩
theorem reads_4 : Reads Tryz.prog 4 Pv.encB (fun _ => True) := reads_bool Tryz.underlying4 (fun _ => rfl)
theorem reads_26 : Reads Tryz.prog 26 q526 wf_SClock := by
  intro H e w fuel cs x h
  obtain ⟨xs, n, _, rfl, hl, hlen, hf⟩ := DataW.trod_struct Tryz.underlying26 h
  obtain ⟨y0, w0, r0⟩ := field_of hlen hf 0 rfl reads_4
  obtain ⟨y1, w1, r1⟩ := field_of hlen hf 1 rfl reads_3
  obtain ⟨y2, w2, r2⟩ := field_of hlen hf 2 rfl reads_3
  obtain ⟨y3, w3, r3⟩ := field_of hlen hf 3 rfl reads_3
  obtain ⟨y4, w4, r4⟩ := field_of hlen hf 4 rfl reads_3
  obtain ⟨y5, w5, r5⟩ := field_of hlen hf 5 rfl reads_3
  exact ⟨⟨y0, y1, y2, y3, y4, y5⟩, ⟨w0, w1, w2, w3, w4, w5⟩, rtl_cons (o := 0) (o' := 1) r0 (by kernel_rfl) (rtl_cons (o := 1) (o' := 2) r1 (by kernel_rfl) (rtl_cons (o := 2) (o' := 3) r2 (by kernel_rfl) (rtl_cons (o := 3) (o' := 4) r3 (by kernel_rfl) (rtl_cons (o := 4) (o' := 5) r4 (by kernel_rfl) (rtl_cons (o := 5) (o' := 6) r5 (by kernel_rfl) (rtl_nil (hl.trans (by kernel_rfl))))))))⟩
theorem reads_74 : Reads Tryz.prog 74 q11 wf_SChannel := by
  intro H e w fuel cs x h
  obtain ⟨xs, n, _, rfl, hl, hlen, hf⟩ := DataW.trod_struct Tryz.underlying74 h
  obtain ⟨y0, w0, r0⟩ := field_of hlen hf 0 rfl reads_4
  obtain ⟨y1, w1, r1⟩ := field_of hlen hf 1 rfl reads_3
  obtain ⟨y2, w2, r2⟩ := field_of hlen hf 2 rfl reads_4
  obtain ⟨y3, w3, r3⟩ := field_of hlen hf 3 rfl reads_4
  exact ⟨⟨y0, y1, y2, y3⟩, ⟨w0, w1, w2, w3⟩, rtl_cons (o := 0) (o' := 1) r0 (by kernel_rfl) (rtl_cons (o := 1) (o' := 2) r1 (by kernel_rfl) (rtl_cons (o := 2) (o' := 3) r2 (by kernel_rfl) (rtl_cons (o := 3) (o' := 4) r3 (by kernel_rfl) (rtl_nil (hl.trans (by kernel_rfl))))))⟩
theorem reads_27 : Reads Tryz.prog 27 (Pv.encS q11) (wfL wf_SChannel) := reads_slice (sz := 4) Tryz.underlying27 reads_74 (by kernel_rfl) (by decide) (fun _ => rfl)
theorem reads_29 : Reads Tryz.prog 29 q240 wf_STimer := by
  intro H e w fuel cs x h
  obtain ⟨xs, n, _, rfl, hl, hlen, hf⟩ := DataW.trod_struct Tryz.underlying29 h
  obtain ⟨y0, w0, r0⟩ := field_of hlen hf 0 rfl reads_3
  obtain ⟨y1, w1, r1⟩ := field_of hlen hf 1 rfl reads_27
  exact ⟨⟨y0, y1⟩, ⟨w0, w1⟩, rtl_cons (o := 0) (o' := 1) r0 (by kernel_rfl) (rtl_cons (o := 1) (o' := 2) r1 (by kernel_rfl) (rtl_nil (hl.trans (by kernel_rfl))))⟩
theorem reads_55 : Reads Tryz.prog 55 q16 wf_SFire := by
  intro H e w fuel cs x h
  obtain ⟨xs, n, _, rfl, hl, hlen, hf⟩ := DataW.trod_struct Tryz.underlying55 h
  obtain ⟨y0, w0, r0⟩ := field_of hlen hf 0 rfl reads_3
  obtain ⟨y1, w1, r1⟩ := field_of hlen hf 1 rfl reads_3
  obtain ⟨y2, w2, r2⟩ := field_of hlen hf 2 rfl reads_3
  obtain ⟨y3, w3, r3⟩ := field_of hlen hf 3 rfl reads_3
  obtain ⟨y4, w4, r4⟩ := field_of hlen hf 4 rfl reads_3
  obtain ⟨y5, w5, r5⟩ := field_of hlen hf 5 rfl reads_3
  obtain ⟨y6, w6, r6⟩ := field_of hlen hf 6 rfl reads_3
  exact ⟨⟨y0, y1, y2, y3, y4, y5, y6⟩, ⟨w0, w1, w2, w3, w4, w5, w6⟩, rtl_cons (o := 0) (o' := 1) r0 (by kernel_rfl) (rtl_cons (o := 1) (o' := 2) r1 (by kernel_rfl) (rtl_cons (o := 2) (o' := 3) r2 (by kernel_rfl) (rtl_cons (o := 3) (o' := 4) r3 (by kernel_rfl) (rtl_cons (o := 4) (o' := 5) r4 (by kernel_rfl) (rtl_cons (o := 5) (o' := 6) r5 (by kernel_rfl) (rtl_cons (o := 6) (o' := 7) r6 (by kernel_rfl) (rtl_nil (hl.trans (by kernel_rfl)))))))))⟩
theorem reads_30 : Reads Tryz.prog 30 (Pv.encS q16) (wfL wf_SFire) := reads_slice (sz := 7) Tryz.underlying30 reads_55 (by kernel_rfl) (by decide) (fun _ => rfl)
theorem reads_68 : Reads Tryz.prog 68 q14 wf_SEvent := by
  intro H e w fuel cs x h
  obtain ⟨xs, n, _, rfl, hl, hlen, hf⟩ := DataW.trod_struct Tryz.underlying68 h
  obtain ⟨y0, w0, r0⟩ := field_of hlen hf 0 rfl reads_3
  obtain ⟨y1, w1, r1⟩ := field_of hlen hf 1 rfl reads_3
  obtain ⟨y2, w2, r2⟩ := field_of hlen hf 2 rfl reads_3
  obtain ⟨y3, w3, r3⟩ := field_of hlen hf 3 rfl reads_3
  exact ⟨⟨y0, y1, y2, y3⟩, ⟨w0, w1, w2, w3⟩, rtl_cons (o := 0) (o' := 1) r0 (by kernel_rfl) (rtl_cons (o := 1) (o' := 2) r1 (by kernel_rfl) (rtl_cons (o := 2) (o' := 3) r2 (by kernel_rfl) (rtl_cons (o := 3) (o' := 4) r3 (by kernel_rfl) (rtl_nil (hl.trans (by kernel_rfl))))))⟩
theorem reads_85 : Reads Tryz.prog 85 q13 wf_SJob := by
  intro H e w fuel cs x h
  obtain ⟨xs, n, _, rfl, hl, hlen, hf⟩ := DataW.trod_struct Tryz.underlying85 h
  obtain ⟨y0, w0, r0⟩ := field_of hlen hf 0 rfl reads_68
  obtain ⟨y1, w1, r1⟩ := field_of hlen hf 1 rfl reads_3
  obtain ⟨y2, w2, r2⟩ := field_of hlen hf 2 rfl reads_4
  obtain ⟨y3, w3, r3⟩ := field_of hlen hf 3 rfl reads_3
  exact ⟨⟨y0, y1, y2, y3⟩, ⟨w0, w1, w2, w3⟩, rtl_cons (o := 0) (o' := 4) r0 (by kernel_rfl) (rtl_cons (o := 4) (o' := 5) r1 (by kernel_rfl) (rtl_cons (o := 5) (o' := 6) r2 (by kernel_rfl) (rtl_cons (o := 6) (o' := 7) r3 (by kernel_rfl) (rtl_nil (hl.trans (by kernel_rfl))))))⟩
theorem reads_31 : Reads Tryz.prog 31 (Pv.encS q13) (wfL wf_SJob) := reads_slice (sz := 7) Tryz.underlying31 reads_85 (by kernel_rfl) (by decide) (fun _ => rfl)
theorem reads_33 : Reads Tryz.prog 33 q47 wf_SScheduler := by
  intro H e w fuel cs x h
  obtain ⟨xs, n, _, rfl, hl, hlen, hf⟩ := DataW.trod_struct Tryz.underlying33 h
  obtain ⟨y0, w0, r0⟩ := field_of hlen hf 0 rfl reads_24
  obtain ⟨y1, w1, r1⟩ := field_of hlen hf 1 rfl reads_26
  obtain ⟨y2, w2, r2⟩ := field_of hlen hf 2 rfl reads_29
  obtain ⟨y3, w3, r3⟩ := field_of hlen hf 3 rfl reads_30
  obtain ⟨y4, w4, r4⟩ := field_of hlen hf 4 rfl reads_31
  obtain ⟨y5, w5, r5⟩ := field_of hlen hf 5 rfl reads_4
  exact ⟨⟨y0, y1, y2, y3, y4, y5⟩, ⟨w0, w1, w2, w3, w4, w5⟩, rtl_cons (o := 0) (o' := 2) r0 (by kernel_rfl) (rtl_cons (o := 2) (o' := 8) r1 (by kernel_rfl) (rtl_cons (o := 8) (o' := 10) r2 (by kernel_rfl) (rtl_cons (o := 10) (o' := 11) r3 (by kernel_rfl) (rtl_cons (o := 11) (o' := 12) r4 (by kernel_rfl) (rtl_cons (o := 12) (o' := 13) r5 (by kernel_rfl) (rtl_nil (hl.trans (by kernel_rfl))))))))⟩
theorem arg_33 : ArgOk Tryz.prog 33 (fun x => q24 x) wf_SScheduler := arg_struct Tryz.underlying33 reads_33 (fun _ => rfl)
theorem arg_26 : ArgOk Tryz.prog 26 (fun x => q208 x) wf_SClock := arg_struct Tryz.underlying26 reads_26 (fun _ => rfl)
theorem arg_24 : ArgOk Tryz.prog 24 (fun x => q38 x) wf_SEngine := arg_struct Tryz.underlying24 reads_24 (fun _ => rfl)
theorem reads_46 : Reads Tryz.prog 46 q524 wf_SWheel := by
  intro H e w fuel cs x h
  obtain ⟨xs, n, _, rfl, hl, hlen, hf⟩ := DataW.trod_struct Tryz.underlying46 h
  obtain ⟨y0, w0, r0⟩ := field_of hlen hf 0 rfl reads_3
  obtain ⟨y1, w1, r1⟩ := field_of hlen hf 1 rfl reads_3
  exact ⟨⟨y0, y1⟩, ⟨w0, w1⟩, rtl_cons (o := 0) (o' := 1) r0 (by kernel_rfl) (rtl_cons (o := 1) (o' := 2) r1 (by kernel_rfl) (rtl_nil (hl.trans (by kernel_rfl))))⟩
theorem arg_46 : ArgOk Tryz.prog 46 (fun x => q578 x) wf_SWheel := arg_struct Tryz.underlying46 reads_46 (fun _ => rfl)
theorem arg_3 : ArgOk Tryz.prog 3 (fun x => .t (tI x)) (fun n => (Lit.int .i64 n).wf = true) := arg_int Tryz.underlying3 reads_3 (fun _ => rfl) (fun _ => rfl)
theorem reads_5 : Reads Tryz.prog 5 enc_u8 (fun n => (Lit.int .u8 n).wf = true) := reads_int Tryz.underlying5 (fun _ => rfl)
theorem arg_5 : ArgOk Tryz.prog 5 (fun x => .t (tK .u8 x)) (fun n => (Lit.int .u8 n).wf = true) := arg_int Tryz.underlying5 reads_5 (fun _ => rfl) (fun _ => rfl)
theorem arg_30 : ArgOk Tryz.prog 30 (fun x => .t (tS q16 x)) (wfL wf_SFire) := arg_slice Tryz.underlying30 reads_30 (fun _ => rfl)
end Go.Proofs.YtldhbjpnlehpgaaGreat
namespace Go.Pv
open Go.RowKit
theorem stepsN_inv {S R : Type} (f : Int → S → Option (Fl S R)) (I : Nat → S → Prop) : ∀ (k i : Nat) (s : S), I i s → (∀ j, i ≤ j → j < i + k → ∀ s, I j s → ∃ s', f (j : Int) s = some (.next s') ∧ I (j + 1) s') → ∃ s', stepsN f k (i : Int) s = some (.inl s') ∧ I (i + k) s'
  | 0, i, s, h, _ => ⟨s, rfl, h⟩
  | k + 1, i, s, h, st => by
    obtain ⟨s1, h1, h2⟩ := st i (Nat.le_refl _) (by omega) s h
    obtain ⟨s2, h3, h4⟩ := stepsN_inv f I k (i + 1) s1 h2 (fun j a b => st j (by omega) (by omega))
    refine ⟨s2, ?_, by rw [show i + (k + 1) = i + 1 + k by omega]; exact h4⟩
    simp only [stepsN, h1, Option.bind_some]
    exact h3
theorem rangeN_inv {S R : Type} (n : Nat) (hn : n ≤ 9223372036854775807) (f : Int → S → Option (Fl S R)) (I : Nat → S → Prop) (s : S) (h : I 0 s) (st : ∀ j, j < n → ∀ s, I j s → ∃ s', f (j : Int) s = some (.next s') ∧ I (j + 1) s') : ∃ s', rangeN (n : Int) f s = some (.inl s') ∧ I n s' := by
  obtain ⟨s', h1, h2⟩ := stepsN_inv f I n 0 s h (fun j _ b => st j (by omega))
  refine ⟨s', ?_, by simpa using h2⟩
  rw [rangeN_steps _ hn]
  exact h1
theorem loopM_inv {S B : Type} {mb : S → Option (S ⊕ B)} (I : Nat → S → Prop) (J : B → Prop) : ∀ (n k : Nat) (s : S), I k s → (∀ j, k ≤ j → j < k + n → ∀ s, I j s → ∃ s', mb s = some (.inl s') ∧ I (j + 1) s') → (∀ s, I (k + n) s → ∃ b, mb s = some (.inr b) ∧ J b) → ∃ b, loopM mb s = some b ∧ J b
  | 0, k, s, h, _, e => by
    obtain ⟨b, h1, h2⟩ := e s h
    exact ⟨b, loopM_out h1, h2⟩
  | n + 1, k, s, h, st, e => by
    obtain ⟨s', h1, h2⟩ := st k (Nat.le_refl _) (by omega) s h
    rw [loopM_next h1]
    exact loopM_inv I J n (k + 1) s' h2 (fun j a b => st j (by omega) (by omega)) (by rw [show k + 1 + n = k + (n + 1) by omega]; exact e)
theorem setM_nat {α : Type} (l : List α) (i : Nat) (y : α) (h : i < l.length) : setM l (i : Int) y = some (l.set i y) := by
  unfold setM; rw [if_pos ⟨by omega, by omega⟩]; rfl
theorem getI_get {α : Type} (l : List α) (i : Nat) (h : i < l.length) : getI l (i : Int) = some l[i] := by rw [getI_nat, List.getElem?_eq_getElem h]
theorem makeM_nat {α : Type} (n : Nat) (h : n ≤ 1073741824) (z : α) : makeM (n : Int) z = some (List.replicate n z) := by
  unfold makeM; rw [if_pos ⟨by omega, by omega⟩]; rfl
theorem appendM_ok {α : Type} (l r : List α) (h : l.length + r.length ≤ 1073741824) : appendM l r = some (l ++ r) := by
  unfold appendM; rw [if_pos h]
theorem copyL_same {α : Type} (l r : List α) (h : l.length = r.length) : copyL l r = r := by
  unfold copyL; rw [h, List.take_length, ← h, List.drop_length, List.append_nil]
end Go.Pv
set_option linter.unusedSimpArgs false
namespace Go.Pv.Ev
open Go Go.Pv
theorem bsome {α : Type} (c : Bool) (x y : α) : (bif c then some x else some y) = some (bif c then x else y) := by cases c <;> rfl
theorem dec_of {p : Prop} [Decidable p] {b : Bool} (h : p ↔ b = true) : decide p = b := by
  cases b
  · exact decide_eq_false fun hp => Bool.noConfusion (h.1 hp)
  · exact decide_eq_true (h.2 rfl)
theorem q328 {α : Type} [DecidableEq α] : ∀ {l m : List α}, l.Nodup → (∀ x ∈ l, x ∈ m) → m.length ≤ l.length → l.Perm m
  | [], m, _, _, h => by
    have : m = [] := List.length_eq_zero_iff.1 (Nat.le_zero.1 h)
    rw [this]
  | x :: l, m, hn, hs, hl => by
    have hx : x ∈ m := hs x (List.mem_cons_self ..)
    have hp := List.perm_cons_erase hx
    rw [List.nodup_cons] at hn
    have hlen := hp.length_eq
    simp only [List.length_cons] at hlen hl
    refine (List.Perm.cons x (q328 hn.2 (fun y hy => ?_) (by omega))).trans hp.symm
    have hne : y ≠ x := fun h => hn.1 (h ▸ hy)
    exact (List.mem_erase_of_ne hne).2 (hs y (List.mem_cons_of_mem _ hy))
theorem q458 {l : List Int} : l.Nodup ↔ ∀ i (h : i < l.length), l[i] ∉ l.take i := by
  unfold List.Nodup
  rw [List.pairwise_iff_getElem]
  constructor
  · intro hp i hi hm
    obtain ⟨j, hj, e⟩ := List.mem_iff_getElem.1 hm
    rw [List.length_take] at hj
    rw [List.getElem_take] at e
    exact hp j i (by omega) hi (by omega) e
  · intro hp i j hi hj hij e
    exact hp j hj (List.mem_iff_getElem.2 ⟨i, by rw [List.length_take]; omega, by rw [List.getElem_take]; exact e⟩)
theorem q541 {l : List Int} : (∀ k, k < l.length → ((k : Int) + 1) ∈ l) ↔ (∀ x ∈ l, 1 ≤ x ∧ x ≤ l.length) ∧ l.Nodup := by
  have hN : ((List.range l.length).map (fun k : Nat => (k : Int) + 1)).Nodup := by
    unfold List.Nodup
    rw [List.pairwise_map]
    exact List.Pairwise.imp (fun {a b} h => by omega) List.pairwise_lt_range
  have hm : ∀ x : Int, x ∈ (List.range l.length).map (fun k : Nat => (k : Int) + 1) ↔ 1 ≤ x ∧ x ≤ l.length := by
    intro x
    rw [List.mem_map]
    constructor
    · rintro ⟨k, hk, rfl⟩
      rw [List.mem_range] at hk
      omega
    · intro h
      exact ⟨(x - 1).toNat, by rw [List.mem_range]; omega, by omega⟩
  constructor
  · intro h
    have hp : ((List.range l.length).map (fun k : Nat => (k : Int) + 1)).Perm l := q328 hN (fun x hx => by
      rw [List.mem_map] at hx
      obtain ⟨k, hk, rfl⟩ := hx
      exact h k (List.mem_range.1 hk)) (by simp)
    exact ⟨fun x hx => (hm x).1 (hp.mem_iff.2 hx), hp.nodup_iff.1 hN⟩
  · rintro ⟨h1, h2⟩ k hk
    have hp : l.Perm ((List.range l.length).map (fun k : Nat => (k : Int) + 1)) := q328 h2 (fun x hx => (hm x).2 (h1 x hx)) (by simp)
    exact hp.mem_iff.2 ((hm _).2 (by omega))
def idx (v : Int) : List Int → Nat → Int
  | [], _ => -1
  | x :: l, i => bif v == x then (i : Int) else idx v l (i + 1)
theorem q362 (v : Int) : ∀ (l : List Int) (i : Nat), (idx v l i = -1 ∧ v ∉ l) ∨ ∃ k : Nat, idx v l i = ((i + k : Nat) : Int) ∧ l[k]? = some v
  | [], i => .inl ⟨rfl, by simp⟩
  | x :: l, i => by
    unfold idx
    cases h : v == x
    · have hne : v ≠ x := by simpa using h
      rcases q362 v l (i + 1) with ⟨h1, h2⟩ | ⟨k, h1, h2⟩
      · exact .inl ⟨h1, by simp [hne, h2]⟩
      · exact .inr ⟨k + 1, by simp only [cond_false]; rw [h1]; omega, by simpa using h2⟩
    · have : v = x := by simpa using h
      exact .inr ⟨0, by simp, by simp [this]⟩
theorem idx_mem (v : Int) (l : List Int) : decide (idx v l 0 ≥ 0) = decide (v ∈ l) := by
  rcases q362 v l 0 with ⟨h1, h2⟩ | ⟨k, h1, h2⟩
  · rw [h1]; simp [h2]
  · rw [h1]; simp [List.mem_of_getElem? h2]
theorem idx_lt {v : Int} {l : List Int} (h : v ∈ l) : ∃ k : Nat, idx v l 0 = (k : Int) ∧ k < l.length ∧ l[k]? = some v := by
  rcases q362 v l 0 with ⟨h1, h2⟩ | ⟨k, h1, h2⟩
  · exact (h2 h).elim
  · exact ⟨k, by rw [h1, Nat.zero_add], (List.getElem?_eq_some_iff.1 h2).1, h2⟩
theorem q473 (v : Int) : ∀ (l : List Int) (i : Nat), (Option.bind (stepsL (fun (i : Int) x (_ : Unit) => bif (v == x) then (some (Fl.ret i)) else (some (Fl.next ()))) l (i : Int) ()) fun (t : Unit ⊕ Int) => match t with | .inl _ => (some (-1)) | .inr r2 => some r2) = some (idx v l i)
  | [], i => rfl
  | x :: l, i => by
    simp only [stepsL, idx]
    cases v == x
    · simpa using q473 v l (i + 1)
    · rfl
theorem q358 (s : List Int) (v : Int) (h : s.length ≤ 9223372036854775807) : q136 s v = some (idx v s 0) := by
  unfold q136
  have : rangeN (s.length : Int) (q269 s v) () = stepsL (fun (i : Int) x (_ : Unit) => bif (v == x) then (some (Fl.ret i)) else (some (Fl.next ()))) s 0 () := rangeN_list s h _ ()
  rw [this]
  exact q473 v s 0
theorem q420 (s : List Int) (v : Int) (h : s.length ≤ 9223372036854775807) : q92 s v = some (decide (v ∈ s)) := by
  unfold q92
  rw [q358 s v h, Option.bind_some, idx_mem]
def engP (e : SEngine) : Prop := 1 ≤ e.Order.length ∧ e.Order.length ≤ 8 ∧ 0 ≤ e.First ∧ e.First < 46080 ∧ (∀ x ∈ e.Order, 1 ≤ x ∧ x ≤ (e.Order.length : Int)) ∧ e.Order.Nodup
instance (e : SEngine) : Decidable (engP e) := by unfold engP; infer_instance
theorem q491 {e : SEngine} (h : (((decide ((e.Order.length : Int) < 1)) || (decide ((e.Order.length : Int) > 8))) || !((decide (e.First ≥ 0)) && (decide (e.First < 46080)))) = true) : ¬ engP e := by
  rintro ⟨h1, h2, h3, h4, _⟩
  simp only [Bool.or_eq_true, Bool.not_eq_true', Bool.and_eq_false_iff, decide_eq_true_eq, decide_eq_false_iff_not] at h
  omega
theorem q505 {e : SEngine} (h : (((decide ((e.Order.length : Int) < 1)) || (decide ((e.Order.length : Int) > 8))) || !((decide (e.First ≥ 0)) && (decide (e.First < 46080)))) = false) : 1 ≤ e.Order.length ∧ e.Order.length ≤ 8 ∧ 0 ≤ e.First ∧ e.First < 46080 := by
  simp only [Bool.or_eq_false_iff, Bool.not_eq_false', Bool.and_eq_true, decide_eq_true_eq, decide_eq_false_iff_not] at h
  omega
theorem all_range' {n : Nat} {p : Nat → Bool} : (List.range' 0 n).all p = true ↔ ∀ k, k < n → p k = true := by
  rw [List.all_eq_true]
  constructor
  · intro h k hk
    exact h k (by rw [List.mem_range'_1]; omega)
  · intro h k hk
    rw [List.mem_range'_1] at hk
    exact h k (by omega)
theorem q307 (e : SEngine) : q122 e = some (decide (engP e)) := by
  unfold q122 q200
  have hb : (Option.bind (bif ((decide ((e.Order.length : Int) < 1)) || (decide ((e.Order.length : Int) > 8))) then (some true) else (Option.bind (some ((decide (e.First ≥ 0)) && (decide (e.First < 46080)))) fun v => some (!v))) : (Bool → Option Bool) → Option Bool) = fun k => k (((decide ((e.Order.length : Int) < 1)) || (decide ((e.Order.length : Int) > 8))) || !((decide (e.First ≥ 0)) && (decide (e.First < 46080)))) := by
    funext k
    cases ((decide ((e.Order.length : Int) < 1)) || (decide ((e.Order.length : Int) > 8))) <;> rfl
  rw [hb]
  cases hh : (((decide ((e.Order.length : Int) < 1)) || (decide ((e.Order.length : Int) > 8))) || !((decide (e.First ≥ 0)) && (decide (e.First < 46080))))
  · obtain ⟨h1, h2, h3, h4⟩ := q505 hh
    have k := loopM_all (mb := q226 e) (fun i => (i : Int) + 1) (p := fun i => decide (((i : Int) + 1) ∈ e.Order)) (b0 := .inl ((e.Order.length : Int) + 1)) (b1 := .inr false) e.Order.length (by
      unfold q226
      rw [show decide ((e.Order.length : Int) + 1 ≤ (e.Order.length : Int)) = false by simp; omega]; rfl) (fun k hk => by
      unfold q226
      simp only [show decide ((k : Int) + 1 ≤ (e.Order.length : Int)) = true by simp; omega, cond_true, q420 e.Order _ (by omega), Option.bind_some, w64_of (n := (k : Int) + 1 + 1) (by omega) (by omega)]
      cases decide (((k : Int) + 1) ∈ e.Order) <;> rfl)
    simp only [show ((0 : Nat) : Int) + 1 = 1 from rfl] at k
    simp only [cond_false]
    rw [k]
    have hP : engP e ↔ (List.range' 0 e.Order.length).all (fun i => decide (((i : Int) + 1) ∈ e.Order)) = true := by
      rw [all_range']
      simp only [decide_eq_true_eq]
      rw [q541]
      unfold engP
      constructor
      · rintro ⟨_, _, _, _, h5, h6⟩; exact ⟨h5, h6⟩
      · rintro ⟨h5, h6⟩; exact ⟨h1, h2, h3, h4, h5, h6⟩
    rw [dec_of hP]
    cases (List.range' 0 e.Order.length).all (fun i => decide (((i : Int) + 1) ∈ e.Order)) <;> rfl
  · simp only [cond_true]
    rw [decide_eq_false (q491 hh)]
theorem q391 (e : SEngine) : q173 e = some (decide (engP e)) := by
  unfold q173 q115
  have hb : (Option.bind (bif ((decide ((e.Order.length : Int) < 1)) || (decide ((e.Order.length : Int) > 8))) then (some true) else (Option.bind (some ((decide (e.First ≥ 0)) && (decide (e.First < 46080)))) fun v => some (!v))) : (Bool → Option Bool) → Option Bool) = fun k => k (((decide ((e.Order.length : Int) < 1)) || (decide ((e.Order.length : Int) > 8))) || !((decide (e.First ≥ 0)) && (decide (e.First < 46080)))) := by
    funext k
    cases ((decide ((e.Order.length : Int) < 1)) || (decide ((e.Order.length : Int) > 8))) <;> rfl
  rw [hb]
  cases hh : (((decide ((e.Order.length : Int) < 1)) || (decide ((e.Order.length : Int) > 8))) || !((decide (e.First ≥ 0)) && (decide (e.First < 46080))))
  · obtain ⟨h1, h2, h3, h4⟩ := q505 hh
    have k := loopM_all (mb := q131 e) (fun i => (i : Int)) (p := fun i => decide (1 ≤ e.Order.getD i 0 ∧ e.Order.getD i 0 ≤ (e.Order.length : Int)) && (e.Order.take i).all fun y => !(y == e.Order.getD i 0)) (b0 := .inl (e.Order.length : Int)) (b1 := .inr false) e.Order.length (by
      unfold q131
      rw [show decide ((e.Order.length : Int) < (e.Order.length : Int)) = false by simp]; rfl) (fun k hk => by
      have hg : e.Order.getD k 0 = e.Order[k] := by simp [List.getD, List.getElem?_eq_getElem hk]
      have hlt : (e.Order.take k).length = k := by rw [List.length_take]; omega
      have k2 := loopM_allL (mb := q126 e (k : Int) e.Order[k]) (fun i => (i : Int)) (p := fun y => !(y == e.Order[k])) (b0 := .inl (k : Int)) (b1 := .inr false) (e.Order.take k) (by
        rw [hlt]
        unfold q126
        rw [show decide ((k : Int) < (k : Int)) = false by simp]; rfl) (fun j y hy => by
        have hj : j < k := by have := (List.getElem?_eq_some_iff.1 hy).1; omega
        have hy2 : e.Order[j]? = some y := by rw [← hy, List.getElem?_take, if_pos hj]
        unfold q126
        simp only [show decide ((j : Int) < (k : Int)) = true by simp; omega, cond_true, getI_nat, hy2, Option.bind_some, w64_of (n := (j : Int) + 1) (by omega) (by omega)]
        cases y == e.Order[k] <;> rfl)
      rw [show ((0 : Nat) : Int) = 0 from rfl] at k2
      unfold q131
      simp only [show decide ((k : Int) < (e.Order.length : Int)) = true by simp; omega, cond_true, getI_get _ _ hk, Option.bind_some, hg, w64_of (n := (k : Int) + 1) (by omega) (by omega), k2]
      have e1 : (Option.bind (bif (decide (e.Order[k] < 1)) then (some true) else (some (decide (e.Order[k] > (e.Order.length : Int))))) : (Bool → Option (Int ⊕ (Int ⊕ Bool))) → Option (Int ⊕ (Int ⊕ Bool))) = fun f => f (!decide (1 ≤ e.Order[k] ∧ e.Order[k] ≤ (e.Order.length : Int))) := by
        funext f
        have : (!decide (1 ≤ e.Order[k] ∧ e.Order[k] ≤ (e.Order.length : Int))) = (decide (e.Order[k] < 1) || decide (e.Order[k] > (e.Order.length : Int))) := by
          rw [Bool.eq_iff_iff]; simp only [Bool.not_eq_true', decide_eq_false_iff_not, Bool.or_eq_true, decide_eq_true_eq]; omega
        rw [this]
        cases decide (e.Order[k] < 1) <;> rfl
      rw [e1]
      cases decide (1 ≤ e.Order[k] ∧ e.Order[k] ≤ (e.Order.length : Int))
      · rfl
      · simp only [Bool.not_true, cond_false, Bool.true_and]
        cases (e.Order.take k).all fun y => !(y == e.Order[k]) <;> rfl)
    simp only [show ((0 : Nat) : Int) = 0 from rfl] at k
    simp only [cond_false]
    rw [k]
    have hP : engP e ↔ (List.range' 0 e.Order.length).all (fun i => decide (1 ≤ e.Order.getD i 0 ∧ e.Order.getD i 0 ≤ (e.Order.length : Int)) && (e.Order.take i).all fun y => !(y == e.Order.getD i 0)) = true := by
      rw [all_range']
      unfold engP
      rw [q458]
      have hg : ∀ k (hk : k < e.Order.length), e.Order.getD k 0 = e.Order[k] := fun k hk => by simp [List.getD, List.getElem?_eq_getElem hk]
      constructor
      · rintro ⟨_, _, _, _, h5, h6⟩ k hk
        rw [hg k hk, Bool.and_eq_true, decide_eq_true_eq, List.all_eq_true]
        refine ⟨h5 _ (List.getElem_mem hk), fun y hy => ?_⟩
        simp only [Bool.not_eq_true', beq_eq_false_iff_ne]
        exact fun h => h6 k hk (h ▸ hy)
      · intro h
        refine ⟨h1, h2, h3, h4, fun x hx => ?_, fun k hk hm => ?_⟩
        · obtain ⟨k, hk, rfl⟩ := List.mem_iff_getElem.1 hx
          have := h k hk
          rw [hg k hk, Bool.and_eq_true, decide_eq_true_eq] at this
          exact this.1
        · have := h k hk
          rw [hg k hk, Bool.and_eq_true, List.all_eq_true] at this
          have := this.2 _ hm
          simp at this
    rw [dec_of hP]
    cases (List.range' 0 e.Order.length).all (fun i => decide (1 ≤ e.Order.getD i 0 ∧ e.Order.getD i 0 ≤ (e.Order.length : Int)) && (e.Order.take i).all fun y => !(y == e.Order.getD i 0)) <;> rfl
  · simp only [cond_true]
    rw [decide_eq_false (q491 hh)]
end Go.Pv.Ev
set_option linter.unusedSimpArgs false
namespace Go.Pv.Ev
open Go Go.Pv
theorem q502 (e : SEngine) (c : Int) (h : e.Order.length ≤ 1000000) : q116 e c = some (idx c e.Order 0) := by
  unfold q116
  have key : ∀ (r : List Int) (i : Nat), e.Order.drop i = r → (Option.bind (loopM (q56 e c) (i : Int)) fun (t : Int ⊕ Int) => match t with | .inl _ => (some (-1)) | .inr r2 => some r2) = some (idx c r i) := by
    intro r
    induction r with
    | nil =>
      intro i hd
      have hi : e.Order.length ≤ i := by simpa using hd
      have : q56 e c (i : Int) = some (.inr (.inl (i : Int))) := by
        unfold q56
        rw [show decide ((i : Int) < (e.Order.length : Int)) = false by simp; omega]; rfl
      rw [loopM_out this]; rfl
    | cons y r ih =>
      intro i hd
      have hi : i < e.Order.length := by
        have := congrArg List.length hd; simp at this; omega
      have hy : e.Order[i]? = some y := by rw [← List.head?_drop, hd]; rfl
      have hb : q56 e c (i : Int) = some (bif c == y then .inr (.inr (i : Int)) else .inl ((i + 1 : Nat) : Int)) := by
        unfold q56
        rw [show decide ((i : Int) < (e.Order.length : Int)) = true by simp; omega, getI_nat, hy, w64_of (n := (i : Int) + 1) (by omega) (by omega)]
        simp only [cond_true, Option.bind_some]
        rw [show (y == c) = (c == y) from BEq.comm]
        cases c == y <;> rfl
      unfold idx
      cases hc : c == y
      · rw [hc] at hb
        rw [loopM_next hb, ih (i + 1) (by rw [← List.drop_drop, hd]; rfl)]
        rfl
      · rw [hc] at hb
        rw [loopM_out hb]; rfl
  exact key e.Order 0 rfl
def cen (e : SEngine) (c : Int) : Int := (e.First + maxI (idx c e.Order 0) 0 * 46080 / (e.Order.length : Int)) % 46080
theorem q394 (e : SEngine) (c : Int) : 0 ≤ cen e c ∧ cen e c < 46080 := by unfold cen; omega
theorem quo_eq {a b : Int} (ha : 0 ≤ a) (hb : 0 < b) (hm : a ≤ 9223372036854775807) : quoM .i64 a b = some (a / b) := by
  have h1 : a / b ≤ a := Int.ediv_le_self _ ha
  have h2 : 0 ≤ a / b := Int.ediv_nonneg ha (by omega)
  unfold quoM
  rw [if_neg (by omega), Int.tdiv_eq_ediv_of_nonneg ha]
  exact congrArg some (w64_of (by omega) (by omega))
theorem q477 (e : SEngine) (c : Int) (h : engP e) : q214 e c = some (cen e c, decide (c ∈ e.Order)) := by
  obtain ⟨h1, h2, h3, h4, h5, h6⟩ := h
  unfold q214
  rw [q358 _ _ (by omega)]
  simp only [Option.bind_some]
  have hm : 0 ≤ maxI (idx c e.Order 0) 0 ∧ maxI (idx c e.Order 0) 0 < 8 := by
    rcases q362 c e.Order 0 with ⟨e1, _⟩ | ⟨k, e1, e2⟩
    · rw [e1]; decide
    · have := (List.getElem?_eq_some_iff.1 e2).1
      rw [e1]; unfold maxI; split <;> omega
  rw [w64_of (by omega) (by omega), quo_eq (by omega) (by omega) (by omega)]
  simp only [Option.bind_some]
  have hq : 0 ≤ maxI (idx c e.Order 0) 0 * 46080 / (e.Order.length : Int) := Int.ediv_nonneg (by omega) (by omega)
  have hq2 : maxI (idx c e.Order 0) 0 * 46080 / (e.Order.length : Int) ≤ maxI (idx c e.Order 0) 0 * 46080 := Int.ediv_le_self _ (by omega)
  rw [w64_of (by omega) (by omega), Int.tmod_eq_emod_of_nonneg (by omega), idx_mem]
  rfl
theorem q540 (e : SEngine) (c : Int) : q253 e c = some (bif !decide (engP e) then (0, 1) else bif !decide (c ∈ e.Order) then (0, 7) else (cen e c, 0)) := by
  unfold q253
  rw [q307]
  cases hd : decide (engP e)
  · rfl
  · simp only [Option.bind_some, Bool.not_true, cond_false]
    rw [q477 e c (of_decide_eq_true hd)]
    simp only [Option.bind_some]
    cases decide (c ∈ e.Order) <;> rfl
theorem q452 (e : SEngine) (c : Int) (h : engP e) (hc : c ∈ e.Order) : q104 e c = some (cen e c) := by
  obtain ⟨h1, h2, h3, h4, h5, h6⟩ := h
  obtain ⟨k, e1, hk, _⟩ := idx_lt hc
  unfold q104
  rw [q502 e c (by omega)]
  simp only [Option.bind_some]
  unfold cen
  rw [e1, show maxI (k : Int) 0 = (k : Int) by unfold maxI; split <;> omega, w64_of (by omega) (by omega), quo_eq (by omega) (by omega) (by omega)]
  simp only [Option.bind_some]
  have hq : 0 ≤ (k : Int) * 46080 / (e.Order.length : Int) := Int.ediv_nonneg (by omega) (by omega)
  have hq2 : (k : Int) * 46080 / (e.Order.length : Int) ≤ (k : Int) * 46080 := Int.ediv_le_self _ (by omega)
  rw [w64_of (by omega) (by omega), Int.tmod_eq_emod_of_nonneg (by omega)]
def fireP (e : SEngine) (f : SFire) : Prop := f.Cylinder ∈ e.Order ∧ (-1280 ≤ f.Spark ∧ f.Spark ≤ 3840) ∧ (500 ≤ f.Dwell ∧ f.Dwell ≤ 10000) ∧ (0 ≤ f.End ∧ f.End ≤ 23040) ∧ (f.Inject = 0 ∨ (200 ≤ f.Inject ∧ f.Inject ≤ 20000)) ∧
  ((f.Gap = 0 ∧ f.Extra = 0) ∨ (f.Inject ≠ 0 ∧ (200 ≤ f.Gap ∧ f.Gap ≤ 20000) ∧ (200 ≤ f.Extra ∧ f.Extra ≤ 20000)))
instance (e : SEngine) (f : SFire) : Decidable (fireP e f) := by unfold fireP; infer_instance
theorem fire_eq (e : SEngine) (f : SFire) : q154 e f = some (decide (engP e) && decide (fireP e f)) := by
  unfold q154 q59
  rw [q307]
  cases hd : decide (engP e)
  · rfl
  · obtain ⟨h1, h2, _⟩ := of_decide_eq_true hd
    simp only [Option.bind_some, Bool.not_true, cond_false, q420 e.Order f.Cylinder (by omega), bsome, Bool.true_and]
    rw [Option.some.injEq, Bool.eq_iff_iff, decide_eq_true_eq]
    unfold fireP
    simp only [Bool.cond_true_left, Bool.cond_false_left, Bool.cond_true_right, Bool.cond_false_right, Bool.or_eq_true, Bool.and_eq_true, Bool.not_eq_true', Bool.or_eq_false_iff, Bool.and_eq_false_iff, Bool.not_eq_false', decide_eq_true_eq, decide_eq_false_iff_not, bne_iff_ne, bne_eq_false_iff_eq, beq_iff_eq, beq_eq_false_iff_ne, ne_eq, ge_iff_le]
    by_cases hm : f.Cylinder ∈ e.Order
    · simp only [hm, true_and, not_true_eq_false, false_or]
      omega
    · simp only [hm, false_and, not_false_eq_true, true_or, iff_false, not_and]
theorem q507 (e : SEngine) (f : SFire) (h : engP e) : q139 e f = some (decide (fireP e f)) := by
  obtain ⟨h1, h2, _⟩ := h
  unfold q139 q117
  rw [q502 e _ (by omega)]
  have hm := idx_mem f.Cylinder e.Order
  have hm2 : (idx f.Cylinder e.Order 0 ≥ 0) ↔ f.Cylinder ∈ e.Order := decide_eq_decide.1 hm
  simp only [Option.bind_some, bsome]
  rw [Option.some.injEq, Bool.eq_iff_iff, decide_eq_true_eq]
  unfold fireP
  rw [← hm2]
  simp only [Bool.cond_true_left, Bool.cond_false_left, Bool.cond_true_right, Bool.cond_false_right, Bool.or_eq_true, Bool.and_eq_true, Bool.not_eq_true', Bool.or_eq_false_iff, Bool.and_eq_false_iff, Bool.not_eq_false', decide_eq_true_eq, decide_eq_false_iff_not, bne_iff_ne, bne_eq_false_iff_eq, beq_iff_eq, beq_eq_false_iff_ne, ne_eq, ge_iff_le]
  omega
def pul (f : SFire) : Int := bif f.Inject == 0 then 0 else bif f.Extra == 0 then 1 else 2
theorem q534 (f : SFire) : q209 f = some (pul f) := by
  unfold q209 pul
  cases f.Inject == 0 <;> cases f.Extra == 0 <;> rfl
theorem q516 (f : SFire) : q106 f = some (pul f) := by
  unfold q106 pul
  cases f.Inject == 0 <;> cases f.Extra == 0 <;> rfl
end Go.Pv.Ev
set_option linter.unusedSimpArgs false
namespace Go.Pv.Ev
open Go Go.Pv
theorem q455 {R : Type} (f : Int → Unit → Option (Fl Unit R)) (p : Nat → Bool) (r : R) : ∀ (k i : Nat), (∀ j, i ≤ j → j < i + k → f (j : Int) () = some (bif p j then .ret r else .next ())) → stepsN f k (i : Int) () = some (bif (List.range' i k).any p then .inr r else .inl ())
  | 0, i, _ => rfl
  | k + 1, i, h => by
    rw [List.range'_succ, List.any_cons]
    simp only [stepsN, h i (Nat.le_refl _) (by omega), Option.bind_some]
    cases hp : p i
    · exact q455 f p r k (i + 1) fun j a b => h j (by omega) (by omega)
    · rfl
theorem q511 {R : Type} (n : Nat) (hn : n ≤ 9223372036854775807) (f : Int → Unit → Option (Fl Unit R)) (p : Nat → Bool) (r : R) (h : ∀ j, j < n → f (j : Int) () = some (bif p j then .ret r else .next ())) : rangeN (n : Int) f () = some (bif (List.range' 0 n).any p then .inr r else .inl ()) := by
  rw [rangeN_steps _ hn]
  exact q455 f p r n 0 fun j _ b => h j (by omega)
theorem all_not {α : Type} (l : List α) (p : α → Bool) : (l.all fun x => !p x) = !l.any p := by
  induction l with
  | nil => rfl
  | cons x l ih => rw [List.all_cons, List.any_cons, ih]; cases p x <;> rfl
theorem q448 {S B : Type} {mb : S → Option (S ⊕ B)} (I : Nat → S → Prop) (J : B → Prop) {bad : Nat → Bool} {b1 : B} : ∀ (n k : Nat) (s : S), I k s →
    (∀ j, k ≤ j → j < k + n → ∀ s, I j s → (bad j = true ∧ mb s = some (.inr b1)) ∨ (bad j = false ∧ ∃ s', mb s = some (.inl s') ∧ I (j + 1) s')) →
    (∀ s, I (k + n) s → ∃ b, mb s = some (.inr b) ∧ J b) →
    ((List.range' k n).any bad = true ∧ loopM mb s = some b1) ∨ ((List.range' k n).any bad = false ∧ ∃ b, loopM mb s = some b ∧ J b)
  | 0, k, s, h, _, e => by
    obtain ⟨b, h1, h2⟩ := e s h
    exact .inr ⟨rfl, b, loopM_out h1, h2⟩
  | n + 1, k, s, h, st, e => by
    rw [List.range'_succ, List.any_cons]
    rcases st k (Nat.le_refl _) (by omega) s h with ⟨hb, h1⟩ | ⟨hb, s', h1, h2⟩
    · exact .inl ⟨by rw [hb]; rfl, loopM_out h1⟩
    · rw [hb, loopM_next h1, Bool.false_or]
      exact q448 I J n (k + 1) s' h2 (fun j a b => st j (by omega) (by omega)) (by rw [show k + 1 + n = k + (n + 1) by omega]; exact e)
theorem q447 (a : Int) : (0 ≤ a ∧ a.tmod 46080 = a % 46080) ∨ (a < 0 ∧ a.tmod 46080 = -((-a) % 46080)) := by
  rcases Int.lt_or_le a 0 with h | h
  · refine .inr ⟨h, ?_⟩
    have : a.tmod 46080 = (- -a).tmod 46080 := by rw [Int.neg_neg]
    rw [this, Int.neg_tmod, Int.tmod_eq_emod_of_nonneg (by omega)]
  · exact .inl ⟨h, Int.tmod_eq_emod_of_nonneg h⟩
theorem mod_eq (a : Int) (h1 : -1000000000000000 ≤ a) (h2 : a ≤ 1000000000000000) : q290 a 46080 = some (a % 46080) := by
  unfold q290 remM
  simp only [show ((46080 : Int) == 0) = false from rfl, show ((46080 : Int) == -1) = false from rfl, Bool.or_self, cond_false, show ¬ (46080 : Int) = 0 from by decide, if_false, Option.bind_some, show decide ((46080 : Int) < 0) = false from rfl]
  rcases q447 a with ⟨h, e⟩ | ⟨h, e⟩
  · rw [e]
    have : decide (a % 46080 < 0) = false := by simp; omega
    rw [this]
    simp
  · rw [e]
    rcases Int.lt_or_eq_of_le (show 0 ≤ (-a) % 46080 by omega) with hq | hq
    · have h3 : decide (-(-a % 46080) < 0) = true := by simp; omega
      have h4 : (-(-a % 46080) != 0) = true := by simp; omega
      rw [h3, h4]
      simp only [show (true == false) = false from rfl, Bool.not_false, Bool.and_self, cond_true]
      rw [w64_of (by omega) (by omega)]
      congr 1; omega
    · rw [← hq]
      simp only [show ((-0 : Int) != 0) = false from rfl, Bool.false_and, cond_false]
      congr 1; omega
theorem q466 (a : Int) : q32 a = some (a % 46080) := by
  unfold q32
  rcases q447 a with ⟨h, e⟩ | ⟨h, e⟩
  · rw [e, w64_of (by omega) (by omega), Int.tmod_eq_emod_of_nonneg (by omega)]
    congr 1; omega
  · rw [e, w64_of (by omega) (by omega), Int.tmod_eq_emod_of_nonneg (by omega)]
    congr 1; omega
def trn (d ticks : Int) : Int := d * 23040 / ticks
theorem q205 {d ticks : Int} (h0 : 0 ≤ d) (h1 : d ≤ 20000) (ht : 4000 ≤ ticks) : 0 ≤ trn d ticks ∧ trn d ticks ≤ 460800000 := by
  have h2 : d * 23040 / ticks ≤ d * 23040 := Int.ediv_le_self _ (by omega)
  exact ⟨Int.ediv_nonneg (by omega) (by omega), by unfold trn; omega⟩
theorem turn_eq {d ticks : Int} (h0 : 0 ≤ d) (h1 : d ≤ 20000) (ht : 4000 ≤ ticks) : q46 d ticks = some (trn d ticks) := by
  unfold q46
  rw [w64_of (by omega) (by omega), quo_eq (by omega) (by omega) (by omega)]
  rfl
theorem q260 {d ticks : Int} (h0 : 0 ≤ d) (h1 : d ≤ 20000) (ht : 4000 ≤ ticks) : q27 d ticks = some (trn d ticks) := by
  unfold q27
  rw [w64_of (by omega) (by omega), quo_eq (by omega) (by omega) (by omega)]
  rfl
def mn (x : Int) : Int := minI x 23040
theorem q494 {x : Int} (h : 0 ≤ x) : 0 ≤ mn x ∧ mn x ≤ 23040 := by
  unfold mn minI; split <;> omega
def offs (f : SFire) (t : Int) : List (Int × Int × Int) :=
  [(-f.Spark, 2, 0), (-f.Spark - mn (trn f.Dwell t), 1, 0)] ++ (bif decide (pul f > 0) then [(-f.End, 4, 1), (-f.End - trn f.Inject t, 3, 1)] else []) ++ (bif decide (pul f > 1) then [(-f.End + trn f.Gap t, 3, 2), (-f.End + trn f.Gap t + trn f.Extra t, 4, 2)] else [])
def evF (e : SEngine) (f : SFire) (o : Int × Int × Int) : SEvent := ⟨(cen e f.Cylinder + o.1) % 46080, o.2.1, f.Cylinder, o.2.2⟩
def evs (e : SEngine) (t : Int) (f : SFire) : List SEvent := (offs f t).map (evF e f)
def long (t : Int) (f : SFire) : Bool := decide (trn f.Inject t > 23040) || decide (trn f.Gap t > 23040) || decide (trn f.Extra t > 23040)
theorem q174 (f : SFire) : pul f = 0 ∨ pul f = 1 ∨ pul f = 2 := by
  unfold pul; cases f.Inject == 0 <;> cases f.Extra == 0 <;> simp
theorem q589 (f : SFire) (t : Int) : (offs f t).length ≤ 6 := by
  rcases q174 f with h | h | h <;> simp [offs, h]
theorem evs_len (e : SEngine) (t : Int) (f : SFire) : (evs e t f).length ≤ 6 := by
  unfold evs; rw [List.length_map]; exact q589 f t
theorem plan3 (a k p : Int) (c : List SEvent) (x : SFire) (h1 : -1000000000000000 ≤ a) (h2 : a ≤ 1000000000000000) (hc : c.length ≤ 100000) : q73 a k p c x = some (c ++ [⟨a % 46080, k, x.Cylinder, p⟩]) := by
  unfold q73
  rw [mod_eq a h1 h2]
  simp only [Option.bind_some]
  rw [appendM_ok _ _ (by simp only [List.length_singleton]; omega)]
  rfl
theorem q332 {e : SEngine} {f : SFire} (h : fireP e f) : (0 ≤ f.Dwell ∧ f.Dwell ≤ 20000) ∧ (0 ≤ f.Inject ∧ f.Inject ≤ 20000) ∧ (0 ≤ f.Gap ∧ f.Gap ≤ 20000) ∧ (0 ≤ f.Extra ∧ f.Extra ≤ 20000) ∧ (-1280 ≤ f.Spark ∧ f.Spark ≤ 3840) ∧ (0 ≤ f.End ∧ f.End ≤ 23040) := by
  unfold fireP at h
  obtain ⟨_, h⟩ := h
  omega
theorem step_eq (e : SEngine) (t i : Int) (x : SFire) (c : List SEvent) (he : engP e) (hx : fireP e x) (ht : 4000 ≤ t) (hc : c.length ≤ 1000) :
    q235 e t i x c = some (bif long t x then .ret ([], 2) else .next (c ++ evs e t x)) := by
  obtain ⟨⟨d0, d1⟩, ⟨i0, i1⟩, ⟨g0, g1⟩, ⟨x0, x1⟩, ⟨s0, s1⟩, n0, n1⟩ := q332 hx
  obtain ⟨c0, c1⟩ := q394 e x.Cylinder
  have td := q494 (q205 d0 d1 ht).1
  have ti := q205 i0 i1 ht
  have tg := q205 g0 g1 ht
  have tx := q205 x0 x1 ht
  unfold q235
  rw [q477 e _ he, turn_eq d0 d1 ht, turn_eq i0 i1 ht, turn_eq g0 g1 ht, turn_eq x0 x1 ht, q534]
  simp only [Option.bind_some]
  rw [show minI (trn x.Dwell t) 23040 = mn (trn x.Dwell t) from rfl]
  have hl : decide (maxI (maxI (trn x.Inject t) (trn x.Gap t)) (trn x.Extra t) > 23040) = long t x := by
    rw [Bool.eq_iff_iff]
    unfold long
    simp only [Bool.or_eq_true, decide_eq_true_eq]
    unfold maxI
    split <;> split <;> omega
  rw [hl]
  unfold evs offs
  simp only [List.map_append, List.map_cons, List.map_nil, evF]
  generalize hC : cen e x.Cylinder = C at *
  generalize hD : mn (trn x.Dwell t) = D at *
  generalize hI : trn x.Inject t = A at *
  generalize hG : trn x.Gap t = G at *
  generalize hX : trn x.Extra t = B at *
  rw [w64_of (n := C - x.Spark) (by omega) (by omega), w64_of (n := C - x.Spark - D) (by omega) (by omega), w64_of (n := C - x.End) (by omega) (by omega), w64_of (n := C - x.End - A) (by omega) (by omega), w64_of (n := C - x.End + G) (by omega) (by omega), w64_of (n := C - x.End + G + B) (by omega) (by omega)]
  rw [plan3 _ _ _ c _ (by omega) (by omega) (by omega)]
  simp only [Option.bind_some]
  rw [plan3 _ _ _ _ _ (by omega) (by omega) (by simp only [List.length_append, List.length_singleton]; omega)]
  simp only [Option.bind_some]
  cases long t x
  · simp only [cond_false]
    rcases q174 x with hp | hp | hp
    · rw [hp]
      simp only [show decide ((0 : Int) > 0) = false from rfl, show decide ((0 : Int) > 1) = false from rfl, cond_false, Option.bind_some, List.map_nil, List.append_nil, List.append_assoc, List.cons_append, List.nil_append]
      rw [show C - x.Spark - D = C + (-x.Spark - D) by omega, show C - x.Spark = C + -x.Spark by omega]
    · rw [hp]
      simp only [show decide ((1 : Int) > 0) = true from rfl, show decide ((1 : Int) > 1) = false from rfl, cond_false, cond_true, Option.bind_some]
      rw [plan3 _ _ _ _ _ (by omega) (by omega) (by simp only [List.length_append, List.length_singleton]; omega)]
      simp only [Option.bind_some]
      rw [plan3 _ _ _ _ _ (by omega) (by omega) (by simp only [List.length_append, List.length_singleton]; omega)]
      simp only [evF, hC, Option.bind_some, List.map_cons, List.map_nil, List.append_nil, List.append_assoc, List.cons_append, List.nil_append]
      rw [show C - x.Spark - D = C + (-x.Spark - D) by omega, show C - x.Spark = C + -x.Spark by omega, show C - x.End - A = C + (-x.End - A) by omega, show C - x.End = C + -x.End by omega]
    · rw [hp]
      simp only [show decide ((2 : Int) > 0) = true from rfl, show decide ((2 : Int) > 1) = true from rfl, cond_false, cond_true, Option.bind_some]
      rw [plan3 _ _ _ _ _ (by omega) (by omega) (by simp only [List.length_append, List.length_singleton]; omega)]
      simp only [Option.bind_some]
      rw [plan3 _ _ _ _ _ (by omega) (by omega) (by simp only [List.length_append, List.length_singleton]; omega)]
      simp only [Option.bind_some]
      rw [plan3 _ _ _ _ _ (by omega) (by omega) (by simp only [List.length_append, List.length_singleton]; omega)]
      simp only [Option.bind_some]
      rw [plan3 _ _ _ _ _ (by omega) (by omega) (by simp only [List.length_append, List.length_singleton]; omega)]
      simp only [evF, hC, Option.bind_some, List.map_cons, List.map_nil, List.append_nil, List.append_assoc, List.cons_append, List.nil_append]
      rw [show C - x.Spark - D = C + (-x.Spark - D) by omega, show C - x.Spark = C + -x.Spark by omega, show C - x.End - A = C + (-x.End - A) by omega, show C - x.End + G + B = C + (-x.End + G + B) by omega, show C - x.End + G = C + (-x.End + G) by omega, show C - x.End = C + -x.End by omega]
  · rfl
theorem q482 (e : SEngine) (t : Int) (he : engP e) (ht : 4000 ≤ t) : ∀ (l : List SFire) (i : Int) (c : List SEvent), (∀ x ∈ l, fireP e x) → c.length + 6 * l.length ≤ 1000 →
    stepsL (q235 e t) l i c = some (bif l.any (long t) then .inr ([], 2) else .inl (c ++ l.flatMap (evs e t)))
  | [], i, c, _, _ => by simp [stepsL]
  | x :: l, i, c, hx, hc => by
    rw [List.length_cons] at hc
    simp only [stepsL, step_eq e t i x c he (hx x (List.mem_cons_self ..)) ht (by omega), Option.bind_some, List.any_cons]
    cases long t x
    · simp only [cond_false, Bool.false_or, List.flatMap_cons]
      have := evs_len e t x
      rw [← List.append_assoc]
      exact q482 e t he ht l (i + 1) _ (fun y hy => hx y (List.mem_cons_of_mem _ hy)) (by rw [List.length_append]; omega)
    · rfl
def ltE (a b : SEvent) : Bool := decide (a.Angle < b.Angle ∨ (a.Angle = b.Angle ∧ (a.Cylinder < b.Cylinder ∨ (a.Cylinder = b.Cylinder ∧ (a.Kind < b.Kind ∨ (a.Kind = b.Kind ∧ a.Pulse < b.Pulse))))))
def cmp3 (x y : Int) : Int := if x < y then -1 else if x > y then 1 else 0
theorem q441 (x y : Int) : q30 x y = some (cmp3 x y) := by
  unfold q30 q210 cmp3
  have h : ∀ z : Int, (z != z) = false := fun z => by simp
  rw [h, h]
  simp only [Option.bind_some, cond_false]
  by_cases h1 : x < y
  · rw [decide_eq_true h1, if_pos h1]; rfl
  · rw [decide_eq_false h1, if_neg h1]
    by_cases h2 : x > y
    · rw [decide_eq_true h2, if_pos h2]; rfl
    · rw [decide_eq_false h2, if_neg h2]; rfl
def first4 (a b c d : Int) : Int := bif a != 0 then a else bif b != 0 then b else bif c != 0 then c else d
theorem or_eq (a b c d : Int) : q110 [a, b, c, d] = some (first4 a b c d) := by
  unfold q110 first4
  rw [rangeM_steps _ (by simp)]
  simp only [stepsL, q165]
  cases ha : a != 0
  · cases hb : b != 0
    · cases hc : c != 0
      · cases hd : d != 0
        · have : d = 0 := by simpa using hd
          rw [this]; rfl
        · rfl
      · rfl
    · rfl
  · rfl
theorem q487 (a b : SEvent) : q118 a b = some (first4 (cmp3 a.Angle b.Angle) (cmp3 a.Cylinder b.Cylinder) (cmp3 a.Kind b.Kind) (cmp3 a.Pulse b.Pulse)) := by
  unfold q118
  simp only [q441, Option.bind_some, or_eq]
theorem q237 (x y : Int) : (x < y ∧ cmp3 x y = -1) ∨ (x = y ∧ cmp3 x y = 0) ∨ (y < x ∧ cmp3 x y = 1) := by
  unfold cmp3
  split
  · exact .inl ⟨by assumption, rfl⟩
  · split
    · exact .inr (.inr ⟨by omega, rfl⟩)
    · exact .inr (.inl ⟨by omega, rfl⟩)
theorem q152 (a b : SEvent) : ltM q118 a b = ltE a b := by
  unfold ltM ltE
  rw [q487, Option.getD_some, decide_eq_decide]
  unfold first4
  rcases q237 a.Angle b.Angle with ⟨h1, e1⟩ | ⟨h1, e1⟩ | ⟨h1, e1⟩ <;> rw [e1]
  · simp; omega
  · rcases q237 a.Cylinder b.Cylinder with ⟨h2, e2⟩ | ⟨h2, e2⟩ | ⟨h2, e2⟩ <;> rw [e2]
    · simp; omega
    · rcases q237 a.Kind b.Kind with ⟨h3, e3⟩ | ⟨h3, e3⟩ | ⟨h3, e3⟩ <;> rw [e3]
      · simp; omega
      · rcases q237 a.Pulse b.Pulse with ⟨h4, e4⟩ | ⟨h4, e4⟩ | ⟨h4, e4⟩ <;> rw [e4] <;> simp <;> omega
      · simp; omega
    · simp; omega
  · simp; omega
theorem ltE_irr (x : SEvent) : ltE x x = false := by unfold ltE; simp
theorem q549 {x y z : SEvent} (h1 : ltE x y = true) (h2 : ltE y z = true) : ltE x z = true := by
  unfold ltE at *; simp only [decide_eq_true_eq] at *; omega
theorem q317 {x y z : SEvent} (h1 : ltE x y = false) (h2 : ltE y z = false) : ltE x z = false := by
  unfold ltE at *; simp only [decide_eq_false_iff_not] at *; omega
theorem q500 {x y : SEvent} (h1 : ltE x y = false) (h2 : ltE y x = false) : x = y := by
  unfold ltE at *; simp only [decide_eq_false_iff_not] at *
  refine SEvent.ext ?_ ?_ ?_ ?_ <;> omega
theorem q499 {x y : SEvent} (h : ltE x y = true) : ltE y x = false := by
  unfold ltE at *; simp only [decide_eq_false_iff_not, decide_eq_true_eq] at *; omega
abbrev Asc (l : List SEvent) : Prop := l.Pairwise fun a b => ltE b a = false
theorem uniqE : ∀ {l m : List SEvent}, Asc l → Asc m → l.Perm m → l = m
  | [], m, _, _, hp => hp.nil_eq
  | x :: l, [], _, _, hp => by have := hp.length_eq; simp at this
  | x :: l, y :: m, hl, hm, hp => by
    have hxy : x = y := by
      have h1 : x ∈ y :: m := hp.mem_iff.1 (List.mem_cons_self ..)
      have h2 : y ∈ x :: l := hp.mem_iff.2 (List.mem_cons_self ..)
      rcases List.mem_cons.1 h1 with h1 | h1
      · exact h1
      · rcases List.mem_cons.1 h2 with h2 | h2
        · exact h2.symm
        · exact q500 ((List.pairwise_cons.1 hm).1 x h1) ((List.pairwise_cons.1 hl).1 y h2)
    subst hxy
    rw [uniqE (List.pairwise_cons.1 hl).2 (List.pairwise_cons.1 hm).2 (List.Perm.cons_inv hp)]
def srt (l : List SEvent) : List SEvent := l.mergeSort fun x y => !ltE y x
theorem q432 (l : List SEvent) : (srt l).Perm l := List.mergeSort_perm _ _
theorem srt_asc (l : List SEvent) : Asc (srt l) := by
  have := List.pairwise_mergeSort (le := fun x y => !ltE y x) (fun a b c h1 h2 => by
    simp only [Bool.not_eq_true'] at *
    exact q317 h2 h1) (fun a b => by
    cases h : ltE b a
    · rfl
    · simp [q499 h]) l
  exact this.imp fun h => by simpa using h
theorem sort_eq (l : List SEvent) (h : l.length ≤ 1000000) : q112 l q118 = some (srt l) := by
  unfold q112 srt
  have e : (fun x y => !ltM q118 y x) = fun x y => !ltE y x := by funext x y; rw [q152]
  rw [sortM_ok ⟨by omega, fun x _ y _ => ⟨_, q487 x y⟩, fun x _ => by rw [q152, ltE_irr], fun x _ y _ z _ => by rw [q152, q152, q152]; exact q549,
    fun x _ y _ z _ => by rw [q152, q152, q152]; exact q317, fun x _ y _ => by rw [q152, q152]; exact q500⟩, e]
def dupAt (l : List SFire) (i : Nat) : Bool := match l[i]? with | some x => (l.take i).any fun g => g.Cylinder == x.Cylinder | none => false
def dupB (l : List SFire) : Bool := (List.range' 0 l.length).any (dupAt l)
def tickB (t : Int) : Bool := decide (t ≥ 4000) && decide (t ≤ 1000000)
def badF (e : SEngine) (l : List SFire) : Bool := l.any fun f => !decide (fireP e f)
def planV (e : SEngine) (l : List SFire) (t : Int) : List SEvent × Int :=
  bif !decide (engP e) then ([], 1) else bif badF e l then ([], 1) else bif !tickB t then ([], 2) else bif dupB l then ([], 8) else bif l.any (long t) then ([], 2) else (srt (l.flatMap (evs e t)), 0)
theorem q490 (e : SEngine) (t : Int) (l : List SFire) : (l.flatMap (evs e t)).length ≤ 6 * l.length := by
  induction l with
  | nil => simp
  | cons x l ih =>
    have := evs_len e t x
    rw [List.flatMap_cons, List.length_append, List.length_cons]; omega
theorem q525 {e : SEngine} {l : List SFire} (h : badF e l = false) : ∀ x ∈ l, fireP e x := by
  intro x hx
  unfold badF at h
  rw [List.any_eq_false] at h
  simpa using h x hx
theorem plan_eq (e : SEngine) (l : List SFire) (t : Int) (hl : l.length ≤ 100) : q286 e l t = some (planV e l t) := by
  unfold q286 planV
  rw [q307]
  cases hd : decide (engP e)
  · rfl
  · have he := of_decide_eq_true hd
    simp only [Option.bind_some, Bool.not_true, cond_false]
    have k := index_any l (by omega) (fun x0 => q167 x0 e) (fun f => !decide (fireP e f)) (fun y _ => by unfold q167; rw [fire_eq, hd]; rfl)
    have k' : q29 l (fun x0 => q167 x0 e) = some (badF e l) := k
    rw [k']
    simp only [Option.bind_some]
    cases hb : badF e l
    · have hf := q525 hb
      simp only [cond_false]
      unfold q59 tickB
      simp only [Option.bind_some]
      cases ht : (decide (t ≥ 4000) && decide (t ≤ 1000000))
      · rfl
      · simp only [Bool.not_true, cond_false]
        have ht1 : 4000 ≤ t := by simp at ht; omega
        rw [q511 l.length (by omega) (q282 l) (dupAt l) ([], 8) (fun j hj => by
          unfold q282 dupAt
          have hs : sliceM l 0 (j : Int) = some (l.take j) := by
            unfold sliceM
            rw [if_pos ⟨by omega, by omega, by omega⟩]
            simp
          rw [getI_get _ _ hj, List.getElem?_eq_getElem hj, hs]
          simp only [Option.bind_some]
          have k2 := index_any (l.take j) (by rw [List.length_take]; omega) (fun x0 => q213 x0 l[j]) (fun g => g.Cylinder == l[j].Cylinder) (fun y _ => rfl)
          have k3 : q29 (l.take j) (fun x0 => q213 x0 l[j]) = some ((l.take j).any fun g => g.Cylinder == l[j].Cylinder) := k2
          rw [k3]
          simp only [Option.bind_some]
          cases (l.take j).any fun g => g.Cylinder == l[j].Cylinder <;> rfl)]
        rw [show (List.range' 0 l.length).any (dupAt l) = dupB l from rfl]
        cases dupB l
        · simp only [cond_false, Option.bind_some]
          rw [rangeM_steps _ (by omega), q482 e t he ht1 l 0 [] hf (by simp; omega)]
          cases l.any (long t)
          · simp only [cond_false, Option.bind_some, List.nil_append]
            have := q490 e t l
            rw [sort_eq _ (by omega)]
            rfl
          · rfl
        · rfl
    · rfl
end Go.Pv.Ev
set_option linter.unusedSimpArgs false
namespace Go.Pv.Ev
open Go Go.Pv
theorem q518 (e : SEngine) (f : SFire) (t : Int) (he : engP e) (hf : fireP e f) (ht : 4000 ≤ t) : ∃ r, q162 e f t = some r ∧ r.Perm (evs e t f) := by
  obtain ⟨⟨d0, d1⟩, ⟨i0, i1⟩, ⟨g0, g1⟩, ⟨x0, x1⟩, ⟨s0, s1⟩, n0, n1⟩ := q332 hf
  obtain ⟨c0, c1⟩ := q394 e f.Cylinder
  have td := q494 (q205 d0 d1 ht).1
  have ti := q205 i0 i1 ht
  have tg := q205 g0 g1 ht
  have tx := q205 x0 x1 ht
  unfold q162
  rw [q452 e _ he hf.1, q260 d0 d1 ht, q260 i0 i1 ht, q260 g0 g1 ht, q260 x0 x1 ht, q516]
  simp only [Option.bind_some]
  have hmn : (bif decide (trn f.Dwell t > 23040) then some 23040 else some (trn f.Dwell t)) = some (mn (trn f.Dwell t)) := by
    unfold mn minI
    by_cases h : trn f.Dwell t > 23040
    · rw [decide_eq_true h, if_pos (by omega)]; rfl
    · rw [decide_eq_false h, if_neg (by omega)]; rfl
  rw [hmn]
  simp only [Option.bind_some]
  unfold evs offs
  simp only [List.map_append, List.map_cons, List.map_nil, evF]
  generalize hC : cen e f.Cylinder = C at *
  generalize hD : mn (trn f.Dwell t) = D at *
  generalize hI : trn f.Inject t = A at *
  generalize hG : trn f.Gap t = G at *
  generalize hX : trn f.Extra t = B at *
  rw [w64_of (n := C - f.Spark) (by omega) (by omega), w64_of (n := C - f.Spark - D) (by omega) (by omega), w64_of (n := C - f.End) (by omega) (by omega), w64_of (n := C - f.End - A) (by omega) (by omega), w64_of (n := C - f.End + G) (by omega) (by omega), w64_of (n := C - f.End + G + B) (by omega) (by omega)]
  simp only [q466, Option.bind_some]
  have q1 : C + (-f.Spark - D) = C - f.Spark - D := by omega
  have q2 : C + -f.Spark = C - f.Spark := by omega
  have q3 : C + (-f.End - A) = C - f.End - A := by omega
  have q4 : C + (-f.End + G + B) = C - f.End + G + B := by omega
  have q5 : C + (-f.End + G) = C - f.End + G := by omega
  have q6 : C + -f.End = C - f.End := by omega
  rw [q1, q2]
  rcases q174 f with hp | hp | hp
  · rw [hp]
    simp only [show ((0 : Int) == 0) = true from rfl, show decide ((0 : Int) > 0) = false from rfl, show decide ((0 : Int) > 1) = false from rfl, cond_true, cond_false, List.map_nil, List.append_nil]
    exact ⟨_, rfl, List.Perm.swap _ _ _⟩
  · rw [hp]
    simp only [show ((1 : Int) == 0) = false from rfl, show ((1 : Int) == 1) = true from rfl, show decide ((1 : Int) > 0) = true from rfl, show decide ((1 : Int) > 1) = false from rfl, cond_true, cond_false, List.map_nil, List.append_nil, List.map_cons, evF, hC]
    rw [appendM_ok _ _ (by simp)]
    simp only [Option.bind_some]
    rw [appendM_ok _ _ (by simp)]
    simp only [Option.bind_some, List.cons_append, List.nil_append, q3, q4, q5, q6]
    exact ⟨_, rfl, (List.Perm.swap _ _ _).trans (List.Perm.cons _ (List.Perm.cons _ (List.Perm.swap _ _ _)))⟩
  · rw [hp]
    simp only [show ((2 : Int) == 0) = false from rfl, show ((2 : Int) == 1) = false from rfl, show decide ((2 : Int) > 0) = true from rfl, show decide ((2 : Int) > 1) = true from rfl, cond_true, cond_false, List.map_nil, List.append_nil, List.map_cons, evF, hC]
    rw [appendM_ok _ _ (by simp)]
    simp only [Option.bind_some]
    rw [appendM_ok _ _ (by simp)]
    simp only [Option.bind_some]
    rw [appendM_ok _ _ (by simp)]
    simp only [Option.bind_some]
    rw [appendM_ok _ _ (by simp)]
    simp only [Option.bind_some, List.cons_append, List.nil_append, q3, q4, q5, q6]
    exact ⟨_, rfl, (List.Perm.swap _ _ _).trans (List.Perm.cons _ (List.Perm.cons _ (List.Perm.swap _ _ _)))⟩
theorem q530 (a b : SEvent) : q161 a b = some (ltE a b) := by
  unfold q161
  rw [bsome, bsome, bsome, Option.some.injEq, Bool.eq_iff_iff]
  unfold ltE
  by_cases h1 : a.Angle = b.Angle
  · by_cases h2 : a.Cylinder = b.Cylinder
    · by_cases h3 : a.Kind = b.Kind
      · simp [h1, h2, h3]
      · simp [h1, h2, h3]
    · simp [h1, h2]
  · simp [h1]
theorem q501 (l : List SEvent) (x : SEvent) (hl : l.length ≤ 1000000) : ∀ i, i ≤ l.length → (∀ j (h : j < l.length), i ≤ j → ltE x l[j] = true) →
    ∃ k, k ≤ i ∧ loopM (q113 l x) (i : Int) = some (.inl (k : Int)) ∧ (∀ j (h : j < l.length), k ≤ j → ltE x l[j] = true) ∧ (∀ (h : k - 1 < l.length), 0 < k → ltE x l[k - 1] = false)
  | 0, _, hj => ⟨0, Nat.le_refl _, loopM_out rfl, hj, fun _ h => by omega⟩
  | i + 1, hi, hj => by
    have hb : q113 l x ((i + 1 : Nat) : Int) = some (bif ltE x (l[i]'(by omega)) then .inl (i : Int) else .inr (.inl ((i + 1 : Nat) : Int))) := by
      unfold q113
      rw [show decide (((i + 1 : Nat) : Int) > 0) = true from decide_eq_true (by omega), w64_of (n := ((i + 1 : Nat) : Int) - 1) (by omega) (by omega), show ((i + 1 : Nat) : Int) - 1 = (i : Int) by omega, getI_get _ _ (by omega)]
      simp only [cond_true, Option.bind_some, q530]
      cases ltE x (l[i]'(by omega)) <;> rfl
    cases hc : ltE x (l[i]'(by omega))
    · rw [hc] at hb
      exact ⟨i + 1, Nat.le_refl _, loopM_out hb, hj, fun _ _ => hc⟩
    · rw [hc] at hb
      rw [loopM_next hb]
      obtain ⟨k, h1, h2, h3, h4⟩ := q501 l x hl i (by omega) (fun j h hij => by
        by_cases e : j = i
        · subst e; exact hc
        · exact hj j h (by omega))
      exact ⟨k, by omega, h2, h3, h4⟩
theorem q545 (l : List SEvent) (x : SEvent) (hl : l.length ≤ 1000000) (ha : Asc l) : ∃ r, q159 l x = some r ∧ Asc r ∧ r.Perm (x :: l) := by
  obtain ⟨k, h1, h2, h3, h4⟩ := q501 l x hl l.length (Nat.le_refl _) (fun j h hij => by omega)
  unfold q159
  rw [h2]
  have s1 : sliceM l 0 (k : Int) = some (l.take k) := by
    unfold sliceM
    rw [if_pos ⟨by omega, by omega, by omega⟩]; simp
  have s2 : sliceM l (k : Int) (l.length : Int) = some (l.drop k) := by
    unfold sliceM
    rw [if_pos ⟨by omega, by omega, by omega⟩]
    simp only [Int.toNat_natCast]
    rw [List.take_of_length_le (by rw [List.length_drop]; omega)]
  simp only [Option.bind_some]
  rw [s1]
  simp only [Option.bind_some]
  rw [appendM_ok _ _ (by simp only [List.length_nil, List.length_take]; omega)]
  simp only [Option.bind_some]
  rw [appendM_ok _ _ (by simp only [List.nil_append, List.length_take, List.length_singleton]; omega)]
  simp only [Option.bind_some]
  rw [s2]
  simp only [Option.bind_some]
  rw [appendM_ok _ _ (by simp only [List.nil_append, List.length_append, List.length_drop, List.length_take, List.length_singleton]; omega)]
  simp only [Option.bind_some, List.nil_append]
  refine ⟨_, rfl, ?_, ?_⟩
  · show (l.take k ++ [x] ++ l.drop k).Pairwise _
    rw [List.append_assoc, List.pairwise_append]
    have hx : ∀ b ∈ l.drop k, ltE b x = false := fun b hb => by
      obtain ⟨j, hj, rfl⟩ := List.mem_iff_getElem.1 hb
      rw [List.getElem_drop]
      rw [List.length_drop] at hj
      exact q499 (h3 _ (by omega) (by omega))
    have ha' := ha
    unfold Asc at ha'
    rw [List.pairwise_iff_getElem] at ha'
    have hy : ∀ a ∈ l.take k, ltE x a = false := fun a hm => by
      obtain ⟨j, hj, rfl⟩ := List.mem_iff_getElem.1 hm
      rw [List.getElem_take]
      rw [List.length_take] at hj
      have h5 := h4 (by omega) (by omega)
      by_cases e : j = k - 1
      · subst e; exact h5
      · exact q317 h5 (ha' j (k - 1) (by omega) (by omega) (by omega))
    refine ⟨List.Pairwise.sublist (List.take_sublist _ _) ha, ?_, fun a hm b hb => ?_⟩
    · rw [List.singleton_append, List.pairwise_cons]
      exact ⟨hx, List.Pairwise.sublist (List.drop_sublist _ _) ha⟩
    · rw [List.singleton_append, List.mem_cons] at hb
      rcases hb with rfl | hb
      · exact hy a hm
      · exact q317 (hx b hb) (hy a hm)
  · rw [List.append_assoc]
    refine List.perm_append_comm.trans ?_
    rw [List.append_assoc, List.singleton_append]
    refine List.Perm.cons x (List.perm_append_comm.trans ?_)
    rw [List.take_append_drop]
theorem q579 (v5 : List SEvent) (out : List SEvent) (hl : out.length + v5.length ≤ 10000) (ha : Asc out) : ∃ r, loopM (q86 v5) (out, 0) = some (.inl (r, (v5.length : Int))) ∧ Asc r ∧ r.Perm (out ++ v5) := by
  obtain ⟨b, h1, r, h2, h3, h4⟩ := loopM_inv (mb := q86 v5) (fun k s => s.2 = (k : Int) ∧ Asc s.1 ∧ s.1.Perm (out ++ v5.take k)) (fun b => ∃ r, b = .inl (r, (v5.length : Int)) ∧ Asc r ∧ r.Perm (out ++ v5)) v5.length 0 (out, 0) ⟨rfl, ha, by simp⟩ (fun j _ hj s hs => by
    obtain ⟨s1, s2⟩ := s
    obtain ⟨e1, e2, e3⟩ := hs
    simp only at e1 e2 e3
    subst e1
    have hj : j < v5.length := by omega
    have hlen := e3.length_eq
    rw [List.length_append, List.length_take] at hlen
    obtain ⟨r, h1, h2, h3⟩ := q545 s1 v5[j] (by omega) e2
    unfold q86
    simp only [show decide ((j : Int) < (v5.length : Int)) = true by simp; omega, cond_true, getI_get _ _ hj, Option.bind_some, h1, w64_of (n := (j : Int) + 1) (by omega) (by omega)]
    refine ⟨_, rfl, rfl, h2, ?_⟩
    simp only
    rw [List.take_succ_eq_append_getElem hj, ← List.append_assoc]
    exact h3.trans ((List.Perm.cons _ e3).trans (List.perm_append_singleton _ _).symm)) (fun s hs => by
    obtain ⟨s1, s2⟩ := s
    obtain ⟨e1, e2, e3⟩ := hs
    simp only [Nat.zero_add] at e1 e2 e3
    subst e1
    unfold q86
    simp only [show decide ((v5.length : Int) < (v5.length : Int)) = false by simp, cond_false]
    exact ⟨_, rfl, _, rfl, e2, by rwa [List.take_length] at e3⟩)
  exact ⟨r, by rw [h1, h2], h3, h4⟩
theorem tooB (t : Int) (f : SFire) (e : SEngine) (hf : fireP e f) (ht : 4000 ≤ t) (k : Bool → Option ((List SEvent × Int) ⊕ ((List SEvent × Int) ⊕ (List SEvent × Int)))) :
    (Option.bind (q27 f.Inject t) fun v2 => Option.bind (bif (decide (v2 > 23040)) then (some true) else (Option.bind (q27 f.Gap t) fun v3 => some (decide (v3 > 23040)))) fun b2 => Option.bind (bif b2 then (some true) else (Option.bind (q27 f.Extra t) fun v4 => some (decide (v4 > 23040)))) k) = k (long t f) := by
  obtain ⟨_, ⟨i0, i1⟩, ⟨g0, g1⟩, ⟨x0, x1⟩, _⟩ := q332 hf
  rw [q260 i0 i1 ht, q260 g0 g1 ht, q260 x0 x1 ht]
  unfold long
  simp only [Option.bind_some]
  cases decide (trn f.Inject t > 23040) <;> cases decide (trn f.Gap t > 23040) <;> rfl
theorem any_range' {α : Type} (l : List α) (p : α → Bool) : (List.range' 0 l.length).any (fun i => (l[i]?).any p) = l.any p := by
  rw [Bool.eq_iff_iff, List.any_eq_true, List.any_eq_true]
  constructor
  · rintro ⟨i, hi, h⟩
    rw [List.mem_range'_1] at hi
    rw [List.getElem?_eq_getElem (by omega)] at h
    exact ⟨_, List.getElem_mem (by omega), h⟩
  · rintro ⟨x, hx, h⟩
    obtain ⟨i, hi, rfl⟩ := List.mem_iff_getElem.1 hx
    exact ⟨i, by rw [List.mem_range'_1]; omega, by rw [List.getElem?_eq_getElem hi]; exact h⟩
theorem q572 (e : SEngine) (l : List SFire) (t : Int) (hl : l.length ≤ 100) (he : engP e) : q195 e l t = some (planV e l t) := by
  unfold q195 planV
  rw [decide_eq_true he]
  simp only [Bool.not_true, cond_false]
  have k1 := loopM_allL (mb := q148 e l) (fun i => (i : Int)) (p := fun f => decide (fireP e f)) (b0 := .inl (l.length : Int)) (b1 := .inr ([], 1)) l (by
    unfold q148
    rw [show decide ((l.length : Int) < (l.length : Int)) = false by simp]; rfl) (fun j y hy => by
    have hj := (List.getElem?_eq_some_iff.1 hy).1
    unfold q148
    simp only [show decide ((j : Int) < (l.length : Int)) = true by simp; omega, cond_true, getI_nat, hy, Option.bind_some, q507 e y he, w64_of (n := (j : Int) + 1) (by omega) (by omega)]
    cases decide (fireP e y) <;> rfl)
  simp only [show ((0 : Nat) : Int) = 0 from rfl] at k1
  rw [k1]
  have hb : badF e l = !l.all fun f => decide (fireP e f) := by
    unfold badF; rw [List.any_eq_not_all_not]; simp
  rw [hb]
  cases hall : l.all fun f => decide (fireP e f)
  · rfl
  · have hf : ∀ x ∈ l, fireP e x := fun x hx => by
      rw [List.all_eq_true] at hall
      simpa using hall x hx
    simp only [cond_true, Bool.not_true, cond_false, Option.bind_some]
    have htb : (decide (t < 4000) || decide (t > 1000000)) = !tickB t := by
      unfold tickB; rw [Bool.eq_iff_iff]; simp only [Bool.or_eq_true, Bool.not_eq_true', Bool.and_eq_false_iff, decide_eq_true_eq, decide_eq_false_iff_not]; omega
    rw [htb]
    cases ht : tickB t
    · rfl
    · have ht1 : 4000 ≤ t := by unfold tickB at ht; simp at ht; omega
      simp only [Bool.not_true, cond_false]
      have k2 := loopM_all (mb := q150 l) (fun i => (i : Int)) (p := fun i => !dupAt l i) (b0 := .inl (l.length : Int)) (b1 := .inr ([], 8)) l.length (by
        unfold q150
        rw [show decide ((l.length : Int) < (l.length : Int)) = false by simp]; rfl) (fun j hj => by
        have hlt : (l.take j).length = j := by rw [List.length_take]; omega
        have k3 := loopM_allL (mb := q141 l (j : Int)) (fun i => (i : Int)) (p := fun y => !(y.Cylinder == l[j].Cylinder)) (b0 := .inl (j : Int)) (b1 := .inr ([], 8)) (l.take j) (by
          rw [hlt]
          unfold q141
          rw [show decide ((j : Int) < (j : Int)) = false by simp]; rfl) (fun i y hy => by
          have hi : i < j := by have := (List.getElem?_eq_some_iff.1 hy).1; omega
          have hy2 : l[i]? = some y := by rw [← hy, List.getElem?_take, if_pos hi]
          unfold q141
          simp only [show decide ((i : Int) < (j : Int)) = true by simp; omega, cond_true, getI_nat, hy2, List.getElem?_eq_getElem hj, Option.bind_some, w64_of (n := (i : Int) + 1) (by omega) (by omega), show (l[j].Cylinder == y.Cylinder) = (y.Cylinder == l[j].Cylinder) from BEq.comm]
          cases y.Cylinder == l[j].Cylinder <;> rfl)
        simp only [show ((0 : Nat) : Int) = 0 from rfl] at k3
        rw [all_not] at k3
        unfold q150 dupAt
        simp only [show decide ((j : Int) < (l.length : Int)) = true by simp; omega, cond_true, k3, List.getElem?_eq_getElem hj, Option.bind_some, w64_of (n := (j : Int) + 1) (by omega) (by omega)]
        cases (l.take j).any fun y => y.Cylinder == l[j].Cylinder <;> rfl)
      simp only [show ((0 : Nat) : Int) = 0 from rfl] at k2
      rw [all_not, show (List.range' 0 l.length).any (dupAt l) = dupB l from rfl] at k2
      rw [k2]
      cases dupB l
      · simp only [Bool.not_false, cond_true, cond_false, Option.bind_some]
        have k4 := q448 (mb := q144 e l t) (fun k s => s.2 = (k : Int) ∧ Asc s.1 ∧ s.1.Perm ((l.take k).flatMap (evs e t))) (fun b => b = .inl (srt (l.flatMap (evs e t)), (l.length : Int))) (bad := fun i => (l[i]?).any (long t)) (b1 := .inr ([], 2)) l.length 0 ([], 0) ⟨rfl, .nil, by simp⟩ (fun j _ hj s hs => by
          obtain ⟨s1, s2⟩ := s
          obtain ⟨e1, e2, e3⟩ := hs
          simp only at e1 e2 e3
          subst e1
          have hj : j < l.length := by omega
          have hfj := hf _ (List.getElem_mem hj)
          have hlen := e3.length_eq
          have hfl := q490 e t (l.take j)
          rw [List.length_take] at hfl
          rw [List.getElem?_eq_getElem hj]
          unfold q144
          simp only [show decide ((j : Int) < (l.length : Int)) = true by simp; omega, cond_true, getI_get _ _ hj, Option.bind_some]
          rw [tooB t l[j] e hfj ht1]
          cases hlong : long t l[j]
          · obtain ⟨r, h1, h2⟩ := q518 e l[j] t he hfj ht1
            have hrl := h2.length_eq
            have := evs_len e t l[j]
            obtain ⟨r2, h3, h4, h5⟩ := q579 r s1 (by omega) e2
            refine .inr ⟨hlong, ?_⟩
            simp only [cond_false, h1, h3, Option.bind_some, w64_of (n := (j : Int) + 1) (by omega) (by omega)]
            refine ⟨_, rfl, rfl, h4, ?_⟩
            simp only
            rw [List.take_succ_eq_append_getElem hj, List.flatMap_append, List.flatMap_singleton]
            exact h5.trans (List.Perm.append e3 h2)
          · exact .inl ⟨hlong, rfl⟩) (fun s hs => by
          obtain ⟨s1, s2⟩ := s
          obtain ⟨e1, e2, e3⟩ := hs
          simp only [Nat.zero_add] at e1 e2 e3
          subst e1
          rw [List.take_length] at e3
          unfold q144
          simp only [show decide ((l.length : Int) < (l.length : Int)) = false by simp, cond_false]
          refine ⟨_, rfl, ?_⟩
          rw [uniqE e2 (srt_asc _) (e3.trans (q432 _).symm)])
        rw [any_range'] at k4
        rcases k4 with ⟨h1, h2⟩ | ⟨h1, b, h2, rfl⟩
        · rw [h1, h2]; rfl
        · rw [h1, h2]; rfl
      · rfl
end Go.Pv.Ev
set_option linter.unusedSimpArgs false
namespace Go.Pv
open Go
namespace Ev
def evP (x : SEvent) : Prop := (0 ≤ x.Angle ∧ x.Angle < 46080) ∧ (1 ≤ x.Kind ∧ x.Kind ≤ 4) ∧ (1 ≤ x.Cylinder ∧ x.Cylinder ≤ 8) ∧ (0 ≤ x.Pulse ∧ x.Pulse ≤ 2)
instance (x : SEvent) : Decidable (evP x) := by unfold evP; infer_instance
def badE (l : List SEvent) : Bool := decide ((l.length : Int) > 1000) || l.any fun x => !decide (evP x)
theorem list_eq (l : List SEvent) : q137 l = some (!badE l) := by
  unfold q137 badE
  cases hl : decide ((l.length : Int) > 1000)
  · have hl := of_decide_eq_false hl
    simp only [cond_false, Bool.false_or]
    have k := loopM_allL (mb := q149 l) (fun i => (i : Int)) (p := fun x => decide (evP x)) (b0 := .inl (l.length : Int)) (b1 := .inr false) l (by
      unfold q149
      rw [show decide ((l.length : Int) < (l.length : Int)) = false by simp]; rfl) (fun j y hy => by
      have hj := (List.getElem?_eq_some_iff.1 hy).1
      unfold q149 q115
      rw [show decide ((j : Int) < (l.length : Int)) = true from decide_eq_true (by omega), getI_nat, hy, w64_of (n := (j : Int) + 1) (by omega) (by omega)]
      simp only [cond_true, Option.bind_some]
      have : (((((((!((decide (y.Angle ≥ 0)) && (decide (y.Angle < 46080)))) || (decide (y.Kind < 1))) || (decide (y.Kind > 4))) || (decide (y.Cylinder < 1))) || (decide (y.Cylinder > 8))) || (decide (y.Pulse < 0))) || (decide (y.Pulse > 2))) = !decide (evP y) := by
        rw [Bool.eq_iff_iff, Bool.not_eq_true', decide_eq_false_iff_not]
        unfold evP
        simp only [Bool.or_eq_true, Bool.and_eq_true, Bool.not_eq_true', Bool.and_eq_false_iff, decide_eq_true_eq, decide_eq_false_iff_not, ge_iff_le]
        omega
      rw [this]
      cases decide (evP y) <;> rfl)
    rw [show ((0 : Nat) : Int) = 0 from rfl] at k
    rw [k]
    have hb : (l.any fun x => !decide (evP x)) = !l.all fun x => decide (evP x) := by rw [List.any_eq_not_all_not]; simp
    rw [hb]
    cases l.all fun x => decide (evP x) <;> rfl
  · rfl
def angB (a : Int) : Bool := decide (a ≥ 0) && decide (a < 46080)
theorem q133 {a : Int} : angB a = true ↔ 0 ≤ a ∧ a < 46080 := by unfold angB; simp
def dst (a b : Int) : Int := (b - a) % 46080
theorem q570 (a b : Int) : q63 a b = some (bif angB a && angB b then dst a b else -1) := by
  unfold q63 q200
  simp only [Option.bind_some]
  have e : ∀ a : Int, (decide (a ≥ 0) && decide (a < 46080)) = angB a := fun _ => rfl
  rw [e, e]
  cases ha : angB a
  · rfl
  · cases hb : angB b
    · rfl
    · have ha := q133.1 ha
      have hb := q133.1 hb
      simp only [Bool.not_true, cond_false, Option.bind_some, Bool.and_self, cond_true]
      rw [w64_of (n := b - a) (by omega) (by omega), mod_eq _ (by omega) (by omega)]
      rfl
theorem dist_in {a b : Int} (ha : angB a = true) (hb : angB b = true) : q63 a b = some (dst a b) := by rw [q570, ha, hb]; rfl
theorem q427 {a b : Int} (ha : angB a = true) (hb : angB b = true) : q53 a b = some (dst a b) := by
  have ha := q133.1 ha
  have hb := q133.1 hb
  unfold q53
  rw [w64_of (n := b - a) (by omega) (by omega), q466]
  rfl
end Ev
end Go.Pv
