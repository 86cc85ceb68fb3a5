/- This file joins: Ties, printed by gen.py: each function of the loaded program computes its model. Ties, printed by gen.py: each function of the loaded program computes its model. -/
import Derived.Test.YtldhbjpnlehpgaaGreatSchedulerSafeG
import Derived.Test.YtldhbjpnlehpgaaGreatProg
import Derived.KernelRfl
set_option linter.unusedSimpArgs false
set_option linter.unusedVariables false
namespace Go.Proofs.YtldhbjpnlehpgaaGreat
open Go Go.Pv Go.Proofs
set_option maxRecDepth 100000 in
set_option maxHeartbeats 4000000 in
theorem q398 (e2 : SEngine) (l : List SFire) (ticks : Int) : TieF Tryz.prog 121 [q52 e2, .t (tS q14 l), .t (tI ticks)] (q261 e2 l ticks) (fun r => .tup [.t (tS q16 r.1), .t (tI r.2)]) := by
 refine TieF.intro htab 134 [.tmp 6, .tmp 7] Tryz.call121 Tryz.func121 rfl rfl rfl (Nat.le_of_ble_eq_true rfl) fun w0 L => ?_
 refine TieS.seq (.region (.run 4 rfl (.nil (.seq ?_))))
 refine TieS.seq (.region (.run 1 rfl (.call _ rfl rfl rfl (q74 e2) (fun _ => rfl) fun v => .run 2 rfl ?_)))
 refine TieO.frzBox 3 rfl rfl (.bind 4 (fun b2 => ⟨[(1, .t (tS q14 l)), (3, .el (q17 e2)), (5, .ptr 5 0), (26, .t (tB b2))], [(5, .box [.t (tI ticks)])]⟩) (TieO.split 22 rfl ?_ ?_) fun b2 _ => ?_)
 ·exact TieO.run 4 rfl (.nil (.leaf ⟨rfl, .of rfl rfl⟩))
 ·refine TieO.run 1 rfl (.run 1 rfl (.sub (σ' := ⟨[(0, .agg [.t (tS Pv.encI e2.Order), .t (tI e2.First)]), (1, .t (tS q14 l)), (2, .t (tI ticks)), (3, .el (q17 e2)), (5, .ptr 5 0), (6, .t (.v (.slice none 0 0))), (7, .t (tI 0)), (19, .agg [.t (tS Pv.encI e2.Order), .t (tI e2.First)]), (20, .t (tB v)), (21, .t (tB (!v))), (22, .t (tB false)), (23, .t (tS q14 l)), (24, .fz 133 [q17 e2])], [(5, .box [.t (tI ticks)])]⟩) (.of rfl rfl) (.call _ rfl rfl rfl (q95 l 133 [q17 e2] (fun x0 => q140 x0 e2) (fun x0 => q367 x0 e2)) (fun _ => rfl) fun v2 => .run 1 rfl ?_)))
  exact TieO.nil (.leaf ⟨rfl, .of rfl rfl⟩)
 refine TieO.nil (.cond rfl ?_ ?_)
 ·exact TieS.seq (.region (.run 2 rfl (.nil (.ret ⟨.inl rfl, rfl⟩))))
 ·refine TieS.skip (.seq (.seq (.region (.run 1 rfl ?_))))
  refine TieO.call _ rfl rfl rfl (q62 ticks 4000 1000000) (fun _ => rfl) fun v3 => .run 1 rfl (.nil (.cond rfl ?_ ?_))
  ·exact TieS.seq (.region (.run 2 rfl (.nil (.ret ⟨.inl rfl, rfl⟩))))
  ·refine TieS.skip (.seq (.seq (.region (.run 3 rfl ?_))))
   refine TieO.nil (.block (.loop (fun p => ⟨[(1, .t (tS q14 l)), (3, .el (q17 e2)), (5, .ptr 5 0), (30, .t (tS q14 l)), (31, .t (tI (l.length : Int))), (32, .t (tI p.1))], [(5, .box [.t (tI ticks)])]⟩) (fun b e σ' => match b with | .inl t => e = .exit 0 ∧ Sub ⟨[(1, .t (tS q14 l)), (3, .el (q17 e2)), (5, .ptr 5 0)], [(5, .box [.t (tI ticks)])]⟩ σ' | .inr t => e = .ret ∧ retT tab σ' [.tmp 6, .tmp 7] = some (((fun r => .tup [.t (tS q16 r.1), .t (tI r.2)]) : (List SEvent × Int) → T) t)) (.of rfl rfl) ?_ ?_))
   ·rintro ⟨i, s⟩
    refine TieS.seq (.region (.run 1 rfl (.nil (.seq ?_))))
    refine TieS.cond rfl ?_ ?_
    ·refine TieS.skip (.seq (TieX.sub (σ' := ⟨[(1, .t (tS q14 l)), (3, .el (q17 e2)), (5, .ptr 5 0), (30, .t (tS q14 l)), (31, .t (tI (l.length : Int))), (32, .t (tI i))], [(5, .box [.t (tI ticks)])]⟩) (.of rfl rfl) (TieS.bind (Q₁ := fun f e σ' => match f with | .next t => e = .normal ∧ Sub ⟨[(1, .t (tS q14 l)), (3, .el (q17 e2)), (5, .ptr 5 0), (30, .t (tS q14 l)), (31, .t (tI (l.length : Int))), (32, .t (tI i))], [(5, .box [.t (tI ticks)])]⟩ σ' | .brk t => e = .exit 0 ∧ Sub ⟨[(1, .t (tS q14 l)), (3, .el (q17 e2)), (5, .ptr 5 0)], [(5, .box [.t (tI ticks)])]⟩ σ' | .ret t => e = .ret ∧ retT tab σ' [.tmp 6, .tmp 7] = some (((fun r => .tup [.t (tS q16 r.1), .t (tI r.2)]) : (List SEvent × Int) → T) t)) ?_ ?_)))
     ·refine TieS.block (.seq (.region (.run 1 rfl (.index rfl rfl rfl rfl rfl rfl rfl rfl (fun _ => rfl) fun x hx => ?_))))
      refine TieO.run 4 rfl (.nil (.seq (.region (.run 2 rfl ?_))))
      refine TieO.sliceF rfl rfl rfl rfl rfl rfl rfl (fun _ => rfl) rfl rfl fun l2 hl2 => .frzBox 9 rfl rfl (.run 1 rfl (.sub (σ' := ⟨[(1, .t (tS q14 l)), (3, .el (q17 e2)), (5, .ptr 5 0), (8, .t (tI i)), (9, .el (q14 x)), (30, .t (tS q14 l)), (31, .t (tI (l.length : Int))), (32, .t (tI i)), (34, .t (tI i)), (35, .el (q14 x)), (36, .agg [.t (tI x.Cylinder), .t (tI x.Spark), .t (tI x.Dwell), .t (tI x.End), .t (tI x.Inject), .t (tI x.Gap), .t (tI x.Extra)]), (37, .t (tS q14 l)), (38, .t (tI i)), (39, .t (tS q14 l2)), (40, .fz 134 [q14 x])], [(5, .box [.t (tI ticks)])]⟩) (.of rfl rfl) (.call _ rfl rfl rfl (q95 l2 134 [q14 x] (fun x0 => q182 x0 x) (fun x0 => q373 x0 x)) (fun _ => rfl) fun v4 => ?_)))
      refine TieO.nil (.cond rfl ?_ ?_)
      ·exact TieS.seq (.region (.run 2 rfl (.nil (.ret ⟨rfl, rfl⟩))))
      ·exact TieS.skip (.endb (.leaf ⟨rfl, .of rfl rfl⟩))
     rintro (t | t | t) e σ' _ hq
     ·obtain ⟨rfl, hs⟩ := hq
      exact TieX.sub hs (TieS.region (.run 2 rfl (.nil (.leaf ⟨rfl, .of rfl rfl⟩))))
     ·obtain ⟨rfl, hs⟩ := hq
      exact TieX.exitOut rfl ⟨(fun h => by cases h), rfl, hs⟩
     ·obtain ⟨rfl, hs⟩ := hq
      exact TieX.ret ⟨(fun h => by cases h), rfl, hs⟩
    ·exact TieS.exitOut rfl ⟨(fun h => by cases h), rfl, .of rfl rfl⟩
   rintro (s2 | r4) e σ' _ hq
   ·obtain ⟨rfl, hs⟩ := hq
    refine TieX.exit rfl (TieX.sub hs ?_)
    refine TieS.seq (.region (.run 1 rfl (.nil (.seq ?_))))
    refine TieS.seq (.region (.run 3 rfl (.nil (.block ?_))))
    refine TieX.frzBox 5 rfl rfl (TieX.nilB 10 3032 68 4 [0] rfl rfl rfl rfl rfl (TieS.loop (fun p => ⟨[(3, .el (q17 e2)), (5, .el (Pv.encI ticks)), (10, .ptr 10 0), (43, .t (tS q14 l)), (44, .t (tI (l.length : Int))), (45, .t (tI p.1))], [(10, .box [.own 3032]), (3032, .rs 68 4 p.2 q16)]⟩) (fun b e σ' => match b with | .inl t => e = .exit 2 ∧ Sub ⟨[(10, .ptr 10 0)], [(10, .box [.own 3032]), (3032, .rs 68 4 t q16)]⟩ σ' | .inr t => e = .ret ∧ retT tab σ' [.tmp 6, .tmp 7] = some (((fun r => .tup [.t (tS q16 r.1), .t (tI r.2)]) : (List SEvent × Int) → T) t)) (.of rfl rfl) ?_ ?_))
    ·rintro ⟨i2, f2⟩
     refine TieS.seq (.region (.run 1 rfl (.nil (.seq ?_))))
     refine TieS.cond rfl ?_ ?_
     ·refine TieS.skip (.seq (TieX.pre fun x2 hx2 => TieX.sub (σ' := ⟨[(3, .el (q17 e2)), (5, .el (Pv.encI ticks)), (10, .ptr 10 0), (43, .t (tS q14 l)), (44, .t (tI (l.length : Int))), (45, .t (tI i2))], [(10, .box [.own 3032]), (3032, .rs 68 4 f2 q16)]⟩) (.of rfl rfl) (TieS.bind (Q₁ := fun f e σ' => match f with | .next t => e = .normal ∧ Sub ⟨[(3, .el (q17 e2)), (5, .el (Pv.encI ticks)), (10, .ptr 10 0), (43, .t (tS q14 l)), (44, .t (tI (l.length : Int))), (45, .t (tI i2))], [(10, .box [.own 3032]), (3032, .rs 68 4 t q16)]⟩ σ' | .brk t => e = .exit 2 ∧ Sub ⟨[(10, .ptr 10 0)], [(10, .box [.own 3032]), (3032, .rs 68 4 t q16)]⟩ σ' | .ret t => e = .ret ∧ retT tab σ' [.tmp 6, .tmp 7] = some (((fun r => .tup [.t (tS q16 r.1), .t (tI r.2)]) : (List SEvent × Int) → T) t)) ?_ ?_)))
      ·refine TieS.block (.seq (.region (.indexH hx2 rfl rfl rfl rfl rfl rfl rfl rfl (fun _ => rfl) (.run 3 rfl ?_))))
       refine TieO.nil (.seq (.region (.run 3 rfl (.call _ rfl rfl rfl (q277 e2 x2.Cylinder) (fun _ => rfl) fun r2 => ?_))))
       refine TieO.run 5 rfl (.nil (.seq (.region (.frzBox 12 rfl rfl ?_))))
       refine TieO.run 1 rfl (.run 1 rfl (.nil (.seq (.region ?_))))
       refine TieO.run 1 rfl (.sub (σ' := ⟨[(3, .el (q17 e2)), (5, .el (Pv.encI ticks)), (10, .ptr 10 0), (12, .el (q14 x2)), (13, .t (tI r2.1)), (14, .t (tB r2.2)), (15, .clo 135 [.ptr 10 0, .el (q14 x2)]), (43, .t (tS q14 l)), (44, .t (tI (l.length : Int))), (45, .t (tI i2)), (47, .el (q14 x2)), (48, .agg [.t (tI x2.Cylinder), .t (tI x2.Spark), .t (tI x2.Dwell), .t (tI x2.End), .t (tI x2.Inject), .t (tI x2.Gap), .t (tI x2.Extra)]), (49, .tup [.t (tI r2.1), .t (tB r2.2)]), (50, .agg [.t (tS Pv.encI e2.Order), .t (tI e2.First)]), (51, .el (q14 x2)), (52, .t (tI x2.Cylinder)), (53, .tup [.t (tI r2.1), .t (tB r2.2)]), (54, .t (tI r2.1)), (55, .t (tB r2.2)), (56, .clo 135 [.ptr 10 0, .el (q14 x2)]), (57, .fz 136 [Pv.encI ticks])], [(10, .box [.own 3032]), (3032, .rs 68 4 f2 q16)]⟩) (.of rfl rfl) (.run 1 rfl (.nil (.seq ?_))))
       refine TieS.region (.run 5 rfl (.nil (.seq (.region ?_))))
       refine TieO.run 2 rfl (.callG [(1000000, 10), (1000001, 3032)] [(900000, 2512)] (fun v5 => ⟨[(3, .el (q17 e2)), (5, .el (Pv.encI ticks)), (10, .ptr 10 0), (12, .el (q14 x2)), (13, .t (tI r2.1)), (14, .t (tB r2.2)), (15, .clo 135 [.ptr 10 0, .el (q14 x2)]), (16, .fz 136 [Pv.encI ticks]), (17, .t (tI (w64 (r2.1 - x2.Spark)))), (43, .t (tS q14 l)), (44, .t (tI (l.length : Int))), (45, .t (tI i2)), (47, .el (q14 x2)), (48, .agg [.t (tI x2.Cylinder), .t (tI x2.Spark), .t (tI x2.Dwell), .t (tI x2.End), .t (tI x2.Inject), .t (tI x2.Gap), .t (tI x2.Extra)]), (49, .tup [.t (tI r2.1), .t (tB r2.2)]), (50, .agg [.t (tS Pv.encI e2.Order), .t (tI e2.First)]), (51, .el (q14 x2)), (52, .t (tI x2.Cylinder)), (53, .tup [.t (tI r2.1), .t (tB r2.2)]), (54, .t (tI r2.1)), (55, .t (tB r2.2)), (56, .clo 135 [.ptr 10 0, .el (q14 x2)]), (57, .fz 136 [Pv.encI ticks]), (58, .t (tI r2.1)), (59, .el (List.drop 1 (q14 x2))), (60, .t (tI x2.Spark)), (61, .t (tI (w64 (r2.1 - x2.Spark)))), (62, .clo 135 [.ptr 10 0, .el (q14 x2)]), (63, .t (tI (w64 (r2.1 - x2.Spark)))), (64, .tup [])], [(10, .box [.own 2512]), (2512, .rs 68 4 v5 q16)]⟩) (q90 (w64 (r2.1 - x2.Spark)) 2 0 f2 x2) rfl rfl rfl rfl rfl rfl rfl (fun _ => rfl) (fun _ => rfl) (fun _ => rfl) (fun _ => .of rfl rfl) fun v5 hv5 => .nil (.seq (.region ?_)))
       refine TieO.run 5 rfl (.call _ rfl rfl rfl (q34 x2.Dwell ticks) (fun _ => rfl) fun v6 => .run 2 rfl (.callG [(1000000, 10), (1000001, 2512)] [(900000, 2584)] (fun v7 => ⟨[(3, .el (q17 e2)), (5, .el (Pv.encI ticks)), (10, .ptr 10 0), (12, .el (q14 x2)), (13, .t (tI r2.1)), (14, .t (tB r2.2)), (15, .clo 135 [.ptr 10 0, .el (q14 x2)]), (16, .fz 136 [Pv.encI ticks]), (17, .t (tI (w64 (r2.1 - x2.Spark)))), (43, .t (tS q14 l)), (44, .t (tI (l.length : Int))), (45, .t (tI i2)), (47, .el (q14 x2)), (48, .agg [.t (tI x2.Cylinder), .t (tI x2.Spark), .t (tI x2.Dwell), .t (tI x2.End), .t (tI x2.Inject), .t (tI x2.Gap), .t (tI x2.Extra)]), (49, .tup [.t (tI r2.1), .t (tB r2.2)]), (50, .agg [.t (tS Pv.encI e2.Order), .t (tI e2.First)]), (51, .el (q14 x2)), (52, .t (tI x2.Cylinder)), (53, .tup [.t (tI r2.1), .t (tB r2.2)]), (54, .t (tI r2.1)), (55, .t (tB r2.2)), (56, .clo 135 [.ptr 10 0, .el (q14 x2)]), (57, .fz 136 [Pv.encI ticks]), (58, .t (tI r2.1)), (59, .el (List.drop 1 (q14 x2))), (60, .t (tI x2.Spark)), (61, .t (tI (w64 (r2.1 - x2.Spark)))), (62, .clo 135 [.ptr 10 0, .el (q14 x2)]), (63, .t (tI (w64 (r2.1 - x2.Spark)))), (64, .tup []), (65, .clo 135 [.ptr 10 0, .el (q14 x2)]), (66, .t (tI (w64 (r2.1 - x2.Spark)))), (67, .fz 136 [Pv.encI ticks]), (68, .el (List.drop 2 (q14 x2))), (69, .t (tI x2.Dwell)), (70, .t (tI v6)), (71, .t (tI (minI v6 23040))), (72, .t (tI (w64 ((w64 (r2.1 - x2.Spark)) - (minI v6 23040))))), (73, .tup [])], [(10, .box [.own 2584]), (2584, .rs 68 4 v7 q16)]⟩) (q90 (w64 ((w64 (r2.1 - x2.Spark)) - (minI v6 23040))) 1 0 v5 x2) rfl rfl rfl rfl rfl rfl rfl (fun _ => rfl) (fun _ => rfl) (fun _ => rfl) (fun _ => .of rfl rfl) fun v7 hv7 => .nil ?_))
       refine TieS.seq (.seq (TieX.pre fun v8 hv8 => TieX.pre fun v9 hv9 => TieX.pre fun v10 hv10 => ?_))
       refine TieS.draw 14 [_, _, _, _, _, _, _, _, _, _, _, _, _, _] [(3, .el (q17 e2)), (5, .el (Pv.encI ticks)), (10, .ptr 10 0), (12, .el (q14 x2)), (13, .t (tI r2.1)), (15, .clo 135 [.ptr 10 0, .el (q14 x2)]), (16, .fz 136 [Pv.encI ticks]), (43, .t (tS q14 l)), (44, .t (tI (l.length : Int))), (45, .t (tI i2))] [(10, .box [.own 2584]), (2584, .rs 68 4 v7 q16)] mixed (.of rfl rfl) rfl rfl rfl rfl (.cons (.quiet rfl rfl rfl) (.cons (.quiet rfl rfl rfl) (.cons (.quiet rfl rfl rfl) (.cons (.callV (q34 x2.Inject ticks) hv8 rfl rfl rfl rfl) (.cons (.quiet rfl rfl rfl) (.cons (.quiet rfl rfl rfl) (.cons (.quiet rfl rfl rfl) (.cons (.callV (q34 x2.Gap ticks) hv9 rfl rfl rfl rfl) (.cons (.quiet rfl rfl rfl) (.cons (.quiet rfl rfl rfl) (.cons (.quiet rfl rfl rfl) (.cons (.callV (q34 x2.Extra ticks) hv10 rfl rfl rfl rfl) (.cons (.quiet rfl rfl rfl) (.cons (.quiet rfl rfl rfl) (.nil))))))))))))))) (.nil (.cond rfl ?_ ?_))
       ·exact TieS.seq (.region (.run 2 rfl (.nil (.ret ⟨rfl, rfl⟩))))
       ·refine TieS.skip (.seq (.region (.run 5 rfl (.nil ?_))))
        refine TieS.seq (.seq (.region (.run 1 rfl (.call _ rfl rfl rfl (q278 x2) (fun _ => rfl) fun v11 => ?_))))
        refine TieO.run 1 rfl (.nil (.bind (Q₁ := fun t e σ' => e = .normal ∧ Sub ⟨[(3, .el (q17 e2)), (5, .el (Pv.encI ticks)), (10, .ptr 10 0), (12, .el (q14 x2)), (15, .clo 135 [.ptr 10 0, .el (q14 x2)]), (16, .fz 136 [Pv.encI ticks]), (18, .t (tI (w64 (r2.1 - x2.End)))), (43, .t (tS q14 l)), (44, .t (tI (l.length : Int))), (45, .t (tI i2))], [(10, .box [.own 2840]), (2840, .rs 68 4 t q16)]⟩ σ') ?_ ?_))
        ·refine TieS.cond rfl ?_ ?_
         ·refine TieS.seq (.region (.run 2 rfl (.callG [(1000000, 10), (1000001, 2584)] [(900000, 2776)] (fun v12 => ⟨[(3, .el (q17 e2)), (5, .el (Pv.encI ticks)), (10, .ptr 10 0), (12, .el (q14 x2)), (13, .t (tI r2.1)), (15, .clo 135 [.ptr 10 0, .el (q14 x2)]), (16, .fz 136 [Pv.encI ticks]), (18, .t (tI (w64 (r2.1 - x2.End)))), (43, .t (tS q14 l)), (44, .t (tI (l.length : Int))), (45, .t (tI i2)), (74, .fz 136 [Pv.encI ticks]), (75, .el (List.drop 4 (q14 x2))), (76, .t (tI x2.Inject)), (77, .t (tI v8)), (78, .fz 136 [Pv.encI ticks]), (79, .el (List.drop 5 (q14 x2))), (80, .t (tI x2.Gap)), (81, .t (tI v9)), (82, .fz 136 [Pv.encI ticks]), (83, .el (List.drop 6 (q14 x2))), (84, .t (tI x2.Extra)), (85, .t (tI v10)), (86, .t (tI (maxI (maxI v8 v9) v10))), (87, .t (tB (decide ((maxI (maxI v8 v9) v10) > 23040)))), (88, .t (tI r2.1)), (89, .el (List.drop 3 (q14 x2))), (90, .t (tI x2.End)), (91, .t (tI (w64 (r2.1 - x2.End)))), (92, .agg [.t (tI x2.Cylinder), .t (tI x2.Spark), .t (tI x2.Dwell), .t (tI x2.End), .t (tI x2.Inject), .t (tI x2.Gap), .t (tI x2.Extra)]), (93, .t (tI v11)), (94, .t (tB (decide (v11 > 0)))), (95, .clo 135 [.ptr 10 0, .el (q14 x2)]), (96, .t (tI (w64 (r2.1 - x2.End)))), (97, .tup [])], [(10, .box [.own 2776]), (2776, .rs 68 4 v12 q16)]⟩) (q90 (w64 (r2.1 - x2.End)) 4 1 v7 x2) rfl rfl rfl rfl rfl rfl rfl (fun _ => rfl) (fun _ => rfl) (fun _ => rfl) (fun _ => .of rfl rfl) fun v12 hv12 => .nil ?_)))
          refine TieS.region (.run 5 rfl (.call _ rfl rfl rfl (q34 x2.Inject ticks) (fun _ => rfl) fun v13 => .run 1 rfl (.callG [(1000000, 10), (1000001, 2776)] [(900000, 2840)] (fun v14 => ⟨[(3, .el (q17 e2)), (5, .el (Pv.encI ticks)), (10, .ptr 10 0), (12, .el (q14 x2)), (13, .t (tI r2.1)), (15, .clo 135 [.ptr 10 0, .el (q14 x2)]), (16, .fz 136 [Pv.encI ticks]), (18, .t (tI (w64 (r2.1 - x2.End)))), (43, .t (tS q14 l)), (44, .t (tI (l.length : Int))), (45, .t (tI i2)), (74, .fz 136 [Pv.encI ticks]), (75, .el (List.drop 4 (q14 x2))), (76, .t (tI x2.Inject)), (77, .t (tI v8)), (78, .fz 136 [Pv.encI ticks]), (79, .el (List.drop 5 (q14 x2))), (80, .t (tI x2.Gap)), (81, .t (tI v9)), (82, .fz 136 [Pv.encI ticks]), (83, .el (List.drop 6 (q14 x2))), (84, .t (tI x2.Extra)), (85, .t (tI v10)), (86, .t (tI (maxI (maxI v8 v9) v10))), (87, .t (tB (decide ((maxI (maxI v8 v9) v10) > 23040)))), (88, .t (tI r2.1)), (89, .el (List.drop 3 (q14 x2))), (90, .t (tI x2.End)), (91, .t (tI (w64 (r2.1 - x2.End)))), (92, .agg [.t (tI x2.Cylinder), .t (tI x2.Spark), .t (tI x2.Dwell), .t (tI x2.End), .t (tI x2.Inject), .t (tI x2.Gap), .t (tI x2.Extra)]), (93, .t (tI v11)), (94, .t (tB (decide (v11 > 0)))), (95, .clo 135 [.ptr 10 0, .el (q14 x2)]), (96, .t (tI (w64 (r2.1 - x2.End)))), (97, .tup []), (98, .clo 135 [.ptr 10 0, .el (q14 x2)]), (99, .t (tI (w64 (r2.1 - x2.End)))), (100, .fz 136 [Pv.encI ticks]), (101, .el (List.drop 4 (q14 x2))), (102, .t (tI x2.Inject)), (103, .t (tI v13)), (104, .t (tI (w64 ((w64 (r2.1 - x2.End)) - v13)))), (105, .tup [])], [(10, .box [.own 2840]), (2840, .rs 68 4 v14 q16)]⟩) (q90 (w64 ((w64 (r2.1 - x2.End)) - v13)) 3 1 v12 x2) rfl rfl rfl rfl rfl rfl rfl (fun _ => rfl) (fun _ => rfl) (fun _ => rfl) (fun _ => .of rfl rfl) fun v14 hv14 => ?_)))
          exact TieO.nil (.leaf ⟨rfl, .of rfl rfl⟩)
         ·exact TieS.skip (TieX.sub (σ' := ⟨[(3, .el (q17 e2)), (5, .el (Pv.encI ticks)), (10, .ptr 10 0), (12, .el (q14 x2)), (15, .clo 135 [.ptr 10 0, .el (q14 x2)]), (16, .fz 136 [Pv.encI ticks]), (18, .t (tI (w64 (r2.1 - x2.End)))), (43, .t (tS q14 l)), (44, .t (tI (l.length : Int))), (45, .t (tI i2))], [(10, .box [.own 2584]), (2584, .rs 68 4 v7 q16)]⟩) (.of rfl rfl) (TieX.ren [(10, 10), (2584, 2840)] rfl rfl rfl (TieS.leaf ⟨rfl, .of rfl rfl⟩)))
        rintro f3 e σ' _ ⟨rfl, hs⟩
        refine TieX.sub hs (TieS.seq (.region (.run 1 rfl (.call _ rfl rfl rfl (q278 x2) (fun _ => rfl) fun v15 => ?_))))
        refine TieO.run 1 rfl (.nil (.cond rfl ?_ ?_))
        ·refine TieS.seq (.region (.run 5 rfl (.call _ rfl rfl rfl (q34 x2.Gap ticks) (fun _ => rfl) fun v16 => .run 1 rfl ?_)))
         refine TieO.callG [(1000000, 10), (1000001, 2840)] [(900000, 2928)] (fun v17 => ⟨[(3, .el (q17 e2)), (5, .el (Pv.encI ticks)), (10, .ptr 10 0), (12, .el (q14 x2)), (15, .clo 135 [.ptr 10 0, .el (q14 x2)]), (16, .fz 136 [Pv.encI ticks]), (18, .t (tI (w64 (r2.1 - x2.End)))), (43, .t (tS q14 l)), (44, .t (tI (l.length : Int))), (45, .t (tI i2)), (106, .agg [.t (tI x2.Cylinder), .t (tI x2.Spark), .t (tI x2.Dwell), .t (tI x2.End), .t (tI x2.Inject), .t (tI x2.Gap), .t (tI x2.Extra)]), (107, .t (tI v15)), (108, .t (tB (decide (v15 > 1)))), (109, .clo 135 [.ptr 10 0, .el (q14 x2)]), (110, .t (tI (w64 (r2.1 - x2.End)))), (111, .fz 136 [Pv.encI ticks]), (112, .el (List.drop 5 (q14 x2))), (113, .t (tI x2.Gap)), (114, .t (tI v16)), (115, .t (tI (w64 ((w64 (r2.1 - x2.End)) + v16)))), (116, .tup [])], [(10, .box [.own 2928]), (2928, .rs 68 4 v17 q16)]⟩) (q90 (w64 ((w64 (r2.1 - x2.End)) + v16)) 3 2 f3 x2) rfl rfl rfl rfl rfl rfl rfl (fun _ => rfl) (fun _ => rfl) (fun _ => rfl) (fun _ => .of rfl rfl) fun v17 hv17 => .nil (.bind (Q₁ := fun t e σ' => e = .normal ∧ Sub ⟨[(3, .el (q17 e2)), (5, .el (Pv.encI ticks)), (10, .ptr 10 0), (43, .t (tS q14 l)), (44, .t (tI (l.length : Int))), (45, .t (tI i2))], [(10, .box [.own 3032]), (3032, .rs 68 4 t q16)]⟩ σ') ?_ ?_)
         ·refine TieX.pre fun v18 hv18 => TieX.pre fun v19 hv19 => TieS.draws 12 (bm 13 0) (bm 13 4095) ⟨[(3, .el (q17 e2)), (5, .el (Pv.encI ticks)), (10, .ptr 10 0), (43, .t (tS q14 l)), (44, .t (tI (l.length : Int))), (45, .t (tI i2)), (117, .clo 135 [.ptr 10 0, .el (q14 x2)]), (128, .t (tI (w64 ((w64 ((w64 (r2.1 - x2.End)) + v18)) + v19))))], [(10, .box [.own 2928]), (2928, .rs 68 4 v17 q16)]⟩ mixed (fun _ _ _ h => by cases h.1) rfl rfl rfl rfl ?_ ?_
          ·refine TieA.have_ (fuel₁ := 2) (l₁ := (bm 13 2047)) (σ₁ := ⟨[(3, .el (q17 e2)), (5, .el (Pv.encI ticks)), (10, .ptr 10 0), (43, .t (tS q14 l)), (44, .t (tI (l.length : Int))), (45, .t (tI i2)), (117, .clo 135 [.ptr 10 0, .el (q14 x2)]), (123, .t (tI (w64 ((w64 (r2.1 - x2.End)) + v18)))), (127, .t (tI v19))], [(10, .box [.own 2928]), (2928, .rs 68 4 v17 q16)]⟩) ?_ fun A_0 => ?_
           ·exact TieA.bin (V := .t (tI (w64 ((w64 ((w64 (r2.1 - x2.End)) + v18)) + v19)))) 11 _ rfl rfl rfl rfl rfl rfl (by kernel_rfl) (by kernel_rfl) (by kernel_rfl) rfl rfl rfl rfl (.done (.of rfl rfl))
           refine TieA.have_ (fuel₁ := 5) (l₁ := (bm 13 927)) (σ₁ := ⟨[(3, .el (q17 e2)), (5, .el (Pv.encI ticks)), (10, .ptr 10 0), (43, .t (tS q14 l)), (44, .t (tI (l.length : Int))), (45, .t (tI i2)), (117, .clo 135 [.ptr 10 0, .el (q14 x2)]), (118, .t (tI (w64 (r2.1 - x2.End)))), (119, .fz 136 [Pv.encI ticks]), (121, .t (tI x2.Gap)), (124, .fz 136 [Pv.encI ticks]), (126, .t (tI x2.Extra))], [(10, .box [.own 2928]), (2928, .rs 68 4 v17 q16)]⟩) ?_ fun A_1 => ?_
           ·refine TieA.all [5] (by kernel_rfl) rfl (AllA.cons (σ₁ := ⟨[(3, .el (q17 e2)), (5, .el (Pv.encI ticks)), (10, .ptr 10 0), (43, .t (tS q14 l)), (44, .t (tI (l.length : Int))), (45, .t (tI i2)), (117, .clo 135 [.ptr 10 0, .el (q14 x2)]), (118, .t (tI (w64 (r2.1 - x2.End)))), (122, .t (tI v18)), (124, .fz 136 [Pv.encI ticks]), (126, .t (tI x2.Extra))], [(10, .box [.own 2928]), (2928, .rs 68 4 v17 q16)]⟩) _ rfl rfl ?_ ?_ ?_)
            ·refine TieO.withH hv18 (TieO.call _ rfl rfl rfl (q34 x2.Gap ticks) (fun _ => rfl) (TieO.ifH ?_))
             exact TieO.nil (TieS.leaf ⟨rfl, .of rfl rfl⟩)
            ·refine TieA.bin (V := .t (tI (w64 ((w64 (r2.1 - x2.End)) + v18)))) 6 _ rfl rfl rfl rfl rfl rfl (by kernel_rfl) (by kernel_rfl) (by kernel_rfl) rfl rfl rfl rfl (.all [10] (by kernel_rfl) rfl (AllA.cons _ rfl rfl ?_ A_0 ?_))
             ·refine TieO.withH hv19 (TieO.call _ rfl rfl rfl (q34 x2.Extra ticks) (fun _ => rfl) (TieO.ifH ?_))
              exact TieO.nil (TieS.leaf ⟨rfl, .of rfl rfl⟩)
             exact AllA.nil
            exact AllA.nil
           refine TieA.mv 0 rfl (.inl rfl) rfl (by kernel_rfl) rfl (.mv 1 rfl (.inl rfl) rfl (by kernel_rfl) rfl (.mv 2 rfl (.inl rfl) rfl (by kernel_rfl) rfl (.fE 3 rfl rfl rfl (by kernel_rfl) rfl rfl rfl (.mv 7 rfl (.inl rfl) rfl (by kernel_rfl) rfl ?_))))
           refine TieA.fE 8 rfl rfl rfl (by kernel_rfl) rfl rfl rfl (.all [4, 9] (by kernel_rfl) rfl (AllA.run _ rfl rfl rfl ?_ ?_))
           ·refine TieA.all [5, 9] (by kernel_rfl) rfl (AllA.cons (σ₁ := ⟨[(3, .el (q17 e2)), (5, .el (Pv.encI ticks)), (10, .ptr 10 0), (43, .t (tS q14 l)), (44, .t (tI (l.length : Int))), (45, .t (tI i2)), (117, .clo 135 [.ptr 10 0, .el (q14 x2)]), (118, .t (tI (w64 (r2.1 - x2.End)))), (122, .t (tI v18)), (124, .fz 136 [Pv.encI ticks]), (125, .el (List.drop 6 (q14 x2)))], [(10, .box [.own 2928]), (2928, .rs 68 4 v17 q16)]⟩) _ rfl rfl ?_ ?_ ?_)
            ·refine TieO.withH hv18 (TieO.call _ rfl rfl rfl (q34 x2.Gap ticks) (fun _ => rfl) (TieO.ifH ?_))
             exact TieO.nil (TieS.leaf ⟨rfl, .of rfl rfl⟩)
            ·refine TieA.bin (V := .t (tI (w64 ((w64 (r2.1 - x2.End)) + v18)))) 6 _ rfl rfl rfl rfl rfl rfl (by kernel_rfl) (by kernel_rfl) (by kernel_rfl) rfl rfl rfl rfl (.all [9] (by kernel_rfl) rfl (AllA.run _ rfl rfl rfl ?_ ?_))
             ·refine TieA.all [10] (by kernel_rfl) rfl (AllA.cons _ rfl rfl ?_ A_0 ?_)
              ·refine TieO.withH hv19 (TieO.call _ rfl rfl rfl (q34 x2.Extra ticks) (fun _ => rfl) (TieO.ifH ?_))
               exact TieO.nil (TieS.leaf ⟨rfl, .of rfl rfl⟩)
              exact AllA.nil
             exact AllA.nil
            exact AllA.runTo _ rfl rfl rfl (.of rfl rfl) A_1 (AllA.nil)
           refine AllA.run _ rfl rfl rfl ?_ ?_
           ·exact TieA.all [4] (by kernel_rfl) rfl (AllA.runTo _ rfl rfl rfl (.of rfl rfl) A_1 (AllA.nil))
           exact AllA.nil
          exact TieO.callG [(1000000, 10), (1000001, 2928)] [(900000, 3032)] (fun v20 => ⟨[(3, .el (q17 e2)), (5, .el (Pv.encI ticks)), (10, .ptr 10 0), (43, .t (tS q14 l)), (44, .t (tI (l.length : Int))), (45, .t (tI i2)), (117, .clo 135 [.ptr 10 0, .el (q14 x2)]), (128, .t (tI (w64 ((w64 ((w64 (r2.1 - x2.End)) + v18)) + v19)))), (129, .tup [])], [(10, .box [.own 3032]), (3032, .rs 68 4 v20 q16)]⟩) (q90 (w64 ((w64 ((w64 (r2.1 - x2.End)) + v18)) + v19)) 4 2 v17 x2) rfl rfl rfl rfl rfl rfl rfl (fun _ => rfl) (fun _ => rfl) (fun _ => rfl) (fun _ => .of rfl rfl) fun v20 hv20 => .nil (.leaf ⟨rfl, .of rfl rfl⟩)
         rintro f4 e σ' _ ⟨rfl, hs⟩
         exact TieX.sub hs (TieS.endb (.leaf ⟨rfl, .of rfl rfl⟩))
        ·exact TieS.skip (.endb (TieX.sub (σ' := ⟨[(3, .el (q17 e2)), (5, .el (Pv.encI ticks)), (10, .ptr 10 0), (43, .t (tS q14 l)), (44, .t (tI (l.length : Int))), (45, .t (tI i2))], [(10, .box [.own 2840]), (2840, .rs 68 4 f3 q16)]⟩) (.of rfl rfl) (TieX.ren [(10, 10), (2840, 3032)] rfl rfl rfl (TieS.leaf ⟨rfl, .of rfl rfl⟩))))
      rintro (t | t | t) e σ' _ hq
      ·obtain ⟨rfl, hs⟩ := hq
       exact TieX.sub hs (TieS.region (.run 2 rfl (.nil (.leaf ⟨rfl, .of rfl rfl⟩))))
      ·obtain ⟨rfl, hs⟩ := hq
       exact TieX.exitOut rfl ⟨(fun h => by cases h), rfl, hs⟩
      ·obtain ⟨rfl, hs⟩ := hq
       exact TieX.ret ⟨(fun h => by cases h), rfl, hs⟩
     ·exact TieS.exitOut rfl ⟨(fun h => by cases h), rfl, .of rfl rfl⟩
    rintro (f5 | r3) e σ' _ hq
    ·obtain ⟨rfl, hs⟩ := hq
     refine TieX.exit rfl (TieX.sub hs ?_)
     refine TieS.seq (.region (.run 1 rfl (.callG [(1000000, 3032)] [] (fun v21 => ⟨[(10, .ptr 10 0), (131, .own 3032), (132, .tup [])], [(10, .box [.own 3032]), (3032, .rs 68 4 v21 q16)]⟩) (q273 f5 138 [] q113 q394) rfl rfl rfl rfl rfl rfl rfl (fun _ => rfl) (fun _ => rfl) (fun _ => rfl) (fun _ => .of rfl rfl) fun v21 hv21 => .nil ?_)))
     exact TieS.seq (.region (.run 3 rfl (.nil (.ret ⟨.inl rfl, rfl⟩))))
    ·obtain ⟨rfl, hs⟩ := hq
     exact TieX.ret ⟨.inl rfl, hs⟩
   ·obtain ⟨rfl, hs⟩ := hq
    exact TieX.ret ⟨.inl rfl, hs⟩
set_option maxRecDepth 100000 in
set_option maxHeartbeats 4000000 in
theorem q56 (data : List Sscheduler_planned) (a : Int) (b2 : Int) (n2 : Nat) (cs : List (List Tree)) (cmp : Sscheduler_planned → Sscheduler_planned → Option Int) (h2 : ∀ x0 x1, TieF Tryz.prog n2 ([q20 x0, q20 x1] ++ cs.map T.el) (cmp x0 x1) (fun r => .t (tI r))) : TieG Tryz.prog 155 [.own 1000000, .t (tI a), .t (tI b2), .fz n2 cs] [(1000000, .rs 134 5 data q12)] (q25 data a b2 cmp) (fun _ => .tup []) (fun r => [(1000000, .rs 134 5 r q12)]) := by
 refine TieG.intro htab 53 [] Tryz.call155 Tryz.func155 rfl rfl rfl (Nat.le_of_ble_eq_true rfl) fun w0 L => ?_
 refine TieS.seq (.region (.run 3 rfl (.nil (.block ?_))))
 refine TieS.loop (fun t => ⟨[(0, .own 1000000), (1, .t (tI a)), (2, .t (tI b2)), (3, .fz n2 cs), (8, .t (tI t.1))], [(1000000, .rs 134 5 t.2 q12)]⟩) (fun b e σ' => match b with | .inl t => e = .exit 0 ∧ Sub ⟨[], [(1000000, .rs 134 5 t.2 q12)]⟩ σ' | .inr t => False) (.of rfl rfl) ?_ ?_
 ·intro s
  refine TieS.seq (.seq (.region (.run 3 rfl (.nil ?_))))
  refine TieS.cond rfl ?_ ?_
  ·refine TieS.skip (.seq (.block (.seq (.region ?_))))
   refine TieO.run 2 rfl (.nil (.block (.loop (fun t => ⟨[(0, .own 1000000), (1, .t (tI a)), (2, .t (tI b2)), (3, .fz n2 cs), (8, .t (tI s.1)), (9, .t (tI t.1))], [(1000000, .rs 134 5 t.2 q12)]⟩) (fun b e σ' => match b with | .inl t => e = .exit 2 ∧ Sub ⟨[(0, .own 1000000), (1, .t (tI a)), (2, .t (tI b2)), (3, .fz n2 cs), (8, .t (tI s.1))], [(1000000, .rs 134 5 t.2 q12)]⟩ σ' | .inr t => False) (.of rfl rfl) ?_ ?_)))
   ·intro s2
    refine TieS.seq (.seq (.bind (Q₁ := fun t e σ' => e = .normal ∧ Sub ⟨[(0, .own 1000000), (1, .t (tI a)), (2, .t (tI b2)), (3, .fz n2 cs), (8, .t (tI s.1)), (9, .t (tI s2.1)), (34, .t (tB t))], [(1000000, .rs 134 5 s2.2 q12)]⟩ σ') ?_ ?_))
    ·refine TieX.split (fun hg => ?_) (fun hg2 => ?_)
     ·refine TieX.pre fun x hx => TieX.pre fun x2 hx2 => TieX.pre fun v hv => TieS.draw 17 [_, _, _, _, _, _, _, _, _, _, _, _, _, _, _, _, _] [(0, .own 1000000), (1, .t (tI a)), (2, .t (tI b2)), (3, .fz n2 cs), (8, .t (tI s.1)), (9, .t (tI s2.1))] [(1000000, .rs 134 5 s2.2 q12)] mixed (.of rfl rfl) rfl rfl rfl rfl (.cons (.quiet rfl rfl rfl) (.cons (.quiet rfl rfl rfl) (.cons (.quiet rfl rfl rfl) (.cons (.cast (congrArg T.B hg) (.quiet rfl rfl rfl)) (.cons (.quiet rfl rfl rfl) (.cons (.quiet rfl rfl rfl) (.cons (.quiet rfl rfl rfl) (.cons (.indexO (sz := 5) hx rfl rfl rfl rfl rfl rfl rfl rfl) (.cons (.loadY hx rfl rfl rfl rfl rfl rfl) (.cons (.quiet rfl rfl rfl) (.cons (.quiet rfl rfl rfl) (.cons (.quiet rfl rfl rfl) (.cons (.indexO (sz := 5) hx2 rfl rfl rfl rfl rfl rfl rfl rfl) (.cons (.loadY hx2 rfl rfl rfl rfl rfl rfl) (.cons (.callV (h2 x x2) hv rfl rfl rfl rfl) (.cons (.quiet rfl rfl rfl) (.cons (.quiet rfl rfl rfl) (.nil)))))))))))))))))) (.nil ?_)
      exact TieS.leaf ⟨rfl, .of rfl rfl⟩
     ·exact TieS.draw 17 [_, _, _, _, _, _, _, _, _, _, _, _, _, _, _, _, _] [(0, .own 1000000), (1, .t (tI a)), (2, .t (tI b2)), (3, .fz n2 cs), (8, .t (tI s.1)), (9, .t (tI s2.1))] [(1000000, .rs 134 5 s2.2 q12)] mixed (.of rfl rfl) rfl rfl rfl rfl (.cons (.quiet rfl rfl rfl) (.cons (.quiet rfl rfl rfl) (.cons (.quiet rfl rfl rfl) (.cons (.cast (congrArg T.B hg2) (.quiet rfl rfl rfl)) (.cons (.skip rfl) (.cons (.skip rfl) (.cons (.skip rfl) (.cons (.skip rfl) (.cons (.skip rfl) (.cons (.skip rfl) (.cons (.skip rfl) (.cons (.skip rfl) (.cons (.skip rfl) (.cons (.skip rfl) (.cons (.skip rfl) (.cons (.skip rfl) (.cons (.quiet rfl rfl rfl) (.nil)))))))))))))))))) (.nil (.leaf ⟨rfl, .of rfl rfl⟩))
    rintro v2 e σ' _ ⟨rfl, hs⟩
    refine TieX.sub hs (TieS.cond rfl ?_ ?_)
    ·refine TieS.skip (.seq (.block (.bind (Q₁ := fun t e σ' => e = .normal ∧ Sub ⟨[(0, .own 1000000), (1, .t (tI a)), (2, .t (tI b2)), (3, .fz n2 cs), (8, .t (tI s.1)), (9, .t (tI s2.1))], [(1000000, .rs 134 5 t q12)]⟩ σ') ?_ ?_)))
     ·refine TieX.pre fun x3 hx3 => TieX.pre fun x4 hx4 => TieX.pre fun l hl => TieS.draws 16 (bm 18 0) (bm 18 65535) ⟨[(0, .own 1000000), (1, .t (tI a)), (2, .t (tI b2)), (3, .fz n2 cs), (8, .t (tI s.1)), (9, .t (tI s2.1)), (39, .own 1000000), (41, .t (tI (w64 (s2.1 - 1)))), (50, .agg [.t (tI x4.x.Angle), .t (tI x4.x.Kind), .t (tI x4.x.Cylinder), .t (tI x4.x.Pulse), .t (tI x4.f_at)])], [(1000000, .rs 134 5 l q12)]⟩ mixed (fun _ _ _ h => by cases h.1) rfl rfl rfl rfl ?_ ?_
      ·refine TieA.have_ (fuel₁ := 4) (l₁ := (bm 18 16383)) (σ₁ := ⟨[(0, .own 1000000), (1, .t (tI a)), (2, .t (tI b2)), (3, .fz n2 cs), (8, .t (tI s.1)), (9, .t (tI s2.1)), (37, .own 1000000), (38, .t (tI s2.1)), (39, .own 1000000), (41, .t (tI (w64 (s2.1 - 1)))), (46, .agg [.t (tI x3.x.Angle), .t (tI x3.x.Kind), .t (tI x3.x.Cylinder), .t (tI x3.x.Pulse), .t (tI x3.f_at)]), (50, .agg [.t (tI x4.x.Angle), .t (tI x4.x.Kind), .t (tI x4.x.Cylinder), .t (tI x4.x.Pulse), .t (tI x4.f_at)])], [(1000000, .rs 134 5 s2.2 q12)]⟩) ?_ fun A_0 => ?_
       ·refine TieA.idx 14 _ hx4 rfl rfl rfl rfl rfl rfl (by kernel_rfl) (by kernel_rfl) (by kernel_rfl) rfl rfl rfl rfl rfl rfl (.all [15] (by kernel_rfl) rfl (AllA.cons (σ₁ := ⟨[(0, .own 1000000), (1, .t (tI a)), (2, .t (tI b2)), (3, .fz n2 cs), (8, .t (tI s.1)), (9, .t (tI s2.1)), (39, .own 1000000), (41, .t (tI (w64 (s2.1 - 1)))), (50, .agg [.t (tI x4.x.Angle), .t (tI x4.x.Kind), .t (tI x4.x.Cylinder), .t (tI x4.x.Pulse), .t (tI x4.f_at)])], [(1000000, .rs 134 5 l q12)]⟩) _ rfl rfl ?_ ?_ ?_))
        ·refine TieO.withH hl (TieO.storeY x3 [tI x3.x.Angle, tI x3.x.Kind, tI x3.x.Cylinder, tI x3.x.Pulse, tI x3.f_at] hx4 rfl rfl rfl rfl rfl rfl rfl rfl rfl rfl rfl rfl (TieO.ifG ?_))
         exact TieO.nil (TieS.leaf ⟨rfl, .of rfl rfl⟩)
        ·exact TieA.done (.of rfl rfl)
        exact AllA.nil
       refine TieA.mv 0 rfl (.inl rfl) rfl (by kernel_rfl) rfl (.mv 1 rfl (.inl rfl) rfl (by kernel_rfl) rfl (.mv 2 rfl (.inl rfl) rfl (by kernel_rfl) rfl (.mv 3 rfl (.inl rfl) rfl (by kernel_rfl) rfl (.bin (V := .t (tI (w64 (s2.1 - 1)))) 4 _ rfl rfl rfl rfl rfl rfl (by kernel_rfl) (by kernel_rfl) (by kernel_rfl) rfl rfl rfl rfl ?_))))
       refine TieA.mv 5 rfl (.inl rfl) rfl (by kernel_rfl) rfl (.mv 6 rfl (.inl rfl) rfl (by kernel_rfl) rfl (.bin (V := .t (tI (w64 (s2.1 - 1)))) 7 _ rfl rfl rfl rfl rfl rfl (by kernel_rfl) (by kernel_rfl) (by kernel_rfl) rfl rfl rfl rfl (.idx 8 _ hx3 rfl rfl rfl rfl rfl rfl (by kernel_rfl) (by kernel_rfl) (by kernel_rfl) rfl rfl rfl rfl rfl rfl (.mv 10 rfl (.inl rfl) rfl (by kernel_rfl) rfl ?_))))
       refine TieA.mv 11 rfl (.inl rfl) rfl (by kernel_rfl) rfl (.idx 12 _ hx4 rfl rfl rfl rfl rfl rfl (by kernel_rfl) (by kernel_rfl) (by kernel_rfl) rfl rfl rfl rfl rfl rfl (.all [9, 13] (by kernel_rfl) rfl (AllA.cons (σ₁ := ⟨[(0, .own 1000000), (1, .t (tI a)), (2, .t (tI b2)), (3, .fz n2 cs), (8, .t (tI s.1)), (9, .t (tI s2.1)), (37, .own 1000000), (38, .t (tI s2.1)), (39, .own 1000000), (41, .t (tI (w64 (s2.1 - 1)))), (46, .agg [.t (tI x3.x.Angle), .t (tI x3.x.Kind), .t (tI x3.x.Cylinder), .t (tI x3.x.Pulse), .t (tI x3.f_at)]), (49, .pe 1000000 (Int.toNat s2.1) 5 0)], [(1000000, .rs 134 5 s2.2 q12)]⟩) _ rfl rfl ?_ ?_ ?_)))
       ·exact TieO.loadY hx3 rfl rfl rfl rfl rfl rfl rfl rfl (.nil (TieS.leaf ⟨rfl, .of rfl rfl⟩))
       ·refine TieA.all [13] (by kernel_rfl) rfl (AllA.cons _ rfl rfl ?_ A_0 ?_)
        ·exact TieO.loadY hx4 rfl rfl rfl rfl rfl rfl rfl rfl (.nil (TieS.leaf ⟨rfl, .of rfl rfl⟩))
        exact AllA.nil
       refine AllA.cons (σ₁ := ⟨[(0, .own 1000000), (1, .t (tI a)), (2, .t (tI b2)), (3, .fz n2 cs), (8, .t (tI s.1)), (9, .t (tI s2.1)), (37, .own 1000000), (38, .t (tI s2.1)), (39, .own 1000000), (41, .t (tI (w64 (s2.1 - 1)))), (45, .pe 1000000 (Int.toNat (w64 (s2.1 - 1))) 5 0), (50, .agg [.t (tI x4.x.Angle), .t (tI x4.x.Kind), .t (tI x4.x.Cylinder), .t (tI x4.x.Pulse), .t (tI x4.f_at)])], [(1000000, .rs 134 5 s2.2 q12)]⟩) _ rfl rfl ?_ ?_ ?_
       ·exact TieO.loadY hx4 rfl rfl rfl rfl rfl rfl rfl rfl (.nil (TieS.leaf ⟨rfl, .of rfl rfl⟩))
       ·refine TieA.all [9] (by kernel_rfl) rfl (AllA.cons _ rfl rfl ?_ A_0 ?_)
        ·exact TieO.loadY hx3 rfl rfl rfl rfl rfl rfl rfl rfl (.nil (TieS.leaf ⟨rfl, .of rfl rfl⟩))
        exact AllA.nil
       exact AllA.nil
      exact TieO.indexO rfl rfl rfl rfl rfl rfl rfl rfl rfl rfl fun x5 hx5 => .storeY x4 [tI x4.x.Angle, tI x4.x.Kind, tI x4.x.Cylinder, tI x4.x.Pulse, tI x4.f_at] hx5 rfl rfl rfl rfl rfl rfl rfl rfl rfl rfl rfl rfl fun l2 hl2 => .nil (.leaf ⟨rfl, .of rfl rfl⟩)
     rintro f2 e σ' _ ⟨rfl, hs⟩
     refine TieX.sub hs (TieS.endb (.region (.run 3 rfl (.nil ?_))))
     exact TieS.leaf ⟨rfl, .of rfl rfl⟩
    ·exact TieS.exitOut rfl ⟨(fun h => by cases h), rfl, .of rfl rfl⟩
   rintro (s3 | r) e σ' _ hq
   ·obtain ⟨rfl, hs⟩ := hq
    refine TieX.exit rfl (TieX.sub hs ?_)
    exact TieS.endb (.region (.run 3 rfl (.nil (.leaf ⟨rfl, .of rfl rfl⟩))))
   ·exact hq.elim
  ·exact TieS.exitOut rfl ⟨(fun h => by cases h), rfl, .of rfl rfl⟩
 rintro (s4 | r) e σ' _ hq
 ·obtain ⟨rfl, hs⟩ := hq
  refine TieX.exit rfl (TieX.sub hs ?_)
  exact TieS.leaf ⟨.inr rfl, ⟨[(1000000, 1000000)], _, _, rfl, rfl, rfl, rfl, rfl⟩⟩
 ·exact hq.elim
set_option maxRecDepth 100000 in
set_option maxHeartbeats 4000000 in
theorem q36 (data : List Sscheduler_planned) (a : Int) (b2 : Int) (n2 : Int) (n3 : Nat) (cs : List (List Tree)) (cmp : Sscheduler_planned → Sscheduler_planned → Option Int) (h2 : ∀ x0 x1, TieF Tryz.prog n3 ([q20 x0, q20 x1] ++ cs.map T.el) (cmp x0 x1) (fun r => .t (tI r))) : TieG Tryz.prog 183 [.own 1000000, .t (tI a), .t (tI b2), .t (tI n2), .fz n3 cs] [(1000000, .rs 134 5 data q12)] (q31 data a b2 n2 cmp) (fun _ => .tup []) (fun r => [(1000000, .rs 134 5 r q12)]) := by
 refine TieG.intro htab 38 [] Tryz.call183 Tryz.func183 rfl rfl rfl (Nat.le_of_ble_eq_true rfl) fun w0 L => ?_
 refine TieS.seq (.region (.run 1 rfl (.nil (.block ?_))))
 refine TieS.loop (fun t => ⟨[(0, .own 1000000), (1, .t (tI a)), (2, .t (tI b2)), (3, .t (tI n2)), (10, .t (tI t.1))], [(1000000, .rs 134 5 t.2 q12)]⟩) (fun b e σ' => match b with | .inl t => e = .exit 0 ∧ Sub ⟨[], [(1000000, .rs 134 5 t.2 q12)]⟩ σ' | .inr t => False) (.of rfl rfl) ?_ ?_
 ·intro s
  refine TieS.seq (.seq (.region (.run 3 rfl (.nil ?_))))
  refine TieS.cond rfl ?_ ?_
  ·refine TieS.skip (.seq (.block (.bind (Q₁ := fun t e σ' => e = .normal ∧ Sub ⟨[(0, .own 1000000), (1, .t (tI a)), (2, .t (tI b2)), (3, .t (tI n2)), (10, .t (tI s.1))], [(1000000, .rs 134 5 t q12)]⟩ σ') ?_ ?_)))
   ·refine TieX.pre fun x hx => TieX.pre fun x2 hx2 => TieX.pre fun l hl => TieS.draws 22 (bm 24 0) (bm 24 4194303) ⟨[(0, .own 1000000), (1, .t (tI a)), (2, .t (tI b2)), (3, .t (tI n2)), (10, .t (tI s.1)), (20, .own 1000000), (23, .t (tI (w64 (b2 + s.1)))), (35, .agg [.t (tI x2.x.Angle), .t (tI x2.x.Kind), .t (tI x2.x.Cylinder), .t (tI x2.x.Pulse), .t (tI x2.f_at)])], [(1000000, .rs 134 5 l q12)]⟩ mixed (fun _ _ _ h => by cases h.1) rfl rfl rfl rfl ?_ ?_
    ·refine TieA.have_ (fuel₁ := 4) (l₁ := (bm 24 1048575)) (σ₁ := ⟨[(0, .own 1000000), (1, .t (tI a)), (2, .t (tI b2)), (3, .t (tI n2)), (10, .t (tI s.1)), (16, .own 1000000), (19, .t (tI (w64 (a + s.1)))), (20, .own 1000000), (23, .t (tI (w64 (b2 + s.1)))), (29, .agg [.t (tI x.x.Angle), .t (tI x.x.Kind), .t (tI x.x.Cylinder), .t (tI x.x.Pulse), .t (tI x.f_at)]), (35, .agg [.t (tI x2.x.Angle), .t (tI x2.x.Kind), .t (tI x2.x.Cylinder), .t (tI x2.x.Pulse), .t (tI x2.f_at)])], [(1000000, .rs 134 5 s.2 q12)]⟩) ?_ fun A_0 => ?_
     ·refine TieA.idx 20 _ hx2 rfl rfl rfl rfl rfl rfl (by kernel_rfl) (by kernel_rfl) (by kernel_rfl) rfl rfl rfl rfl rfl rfl (.all [21] (by kernel_rfl) rfl (AllA.cons (σ₁ := ⟨[(0, .own 1000000), (1, .t (tI a)), (2, .t (tI b2)), (3, .t (tI n2)), (10, .t (tI s.1)), (20, .own 1000000), (23, .t (tI (w64 (b2 + s.1)))), (35, .agg [.t (tI x2.x.Angle), .t (tI x2.x.Kind), .t (tI x2.x.Cylinder), .t (tI x2.x.Pulse), .t (tI x2.f_at)])], [(1000000, .rs 134 5 l q12)]⟩) _ rfl rfl ?_ ?_ ?_))
      ·refine TieO.withH hl (TieO.storeY x [tI x.x.Angle, tI x.x.Kind, tI x.x.Cylinder, tI x.x.Pulse, tI x.f_at] hx2 rfl rfl rfl rfl rfl rfl rfl rfl rfl rfl rfl rfl (TieO.ifG ?_))
       exact TieO.nil (TieS.leaf ⟨rfl, .of rfl rfl⟩)
      ·exact TieA.done (.of rfl rfl)
      exact AllA.nil
     refine TieA.mv 0 rfl (.inl rfl) rfl (by kernel_rfl) rfl (.mv 1 rfl (.inl rfl) rfl (by kernel_rfl) rfl (.mv 2 rfl (.inl rfl) rfl (by kernel_rfl) rfl (.bin (V := .t (tI (w64 (a + s.1)))) 3 _ rfl rfl rfl rfl rfl rfl (by kernel_rfl) (by kernel_rfl) (by kernel_rfl) rfl rfl rfl rfl (.mv 4 rfl (.inl rfl) rfl (by kernel_rfl) rfl ?_))))
     refine TieA.mv 5 rfl (.inl rfl) rfl (by kernel_rfl) rfl (.mv 6 rfl (.inl rfl) rfl (by kernel_rfl) rfl (.bin (V := .t (tI (w64 (b2 + s.1)))) 7 _ rfl rfl rfl rfl rfl rfl (by kernel_rfl) (by kernel_rfl) (by kernel_rfl) rfl rfl rfl rfl (.mv 8 rfl (.inl rfl) rfl (by kernel_rfl) rfl (.mv 9 rfl (.inl rfl) rfl (by kernel_rfl) rfl ?_))))
     refine TieA.mv 10 rfl (.inl rfl) rfl (by kernel_rfl) rfl (.bin (V := .t (tI (w64 (b2 + s.1)))) 11 _ rfl rfl rfl rfl rfl rfl (by kernel_rfl) (by kernel_rfl) (by kernel_rfl) rfl rfl rfl rfl (.idx 12 _ hx rfl rfl rfl rfl rfl rfl (by kernel_rfl) (by kernel_rfl) (by kernel_rfl) rfl rfl rfl rfl rfl rfl (.mv 14 rfl (.inl rfl) rfl (by kernel_rfl) rfl (.mv 15 rfl (.inl rfl) rfl (by kernel_rfl) rfl ?_))))
     refine TieA.mv 16 rfl (.inl rfl) rfl (by kernel_rfl) rfl (.bin (V := .t (tI (w64 (a + s.1)))) 17 _ rfl rfl rfl rfl rfl rfl (by kernel_rfl) (by kernel_rfl) (by kernel_rfl) rfl rfl rfl rfl (.idx 18 _ hx2 rfl rfl rfl rfl rfl rfl (by kernel_rfl) (by kernel_rfl) (by kernel_rfl) rfl rfl rfl rfl rfl rfl (.all [13, 19] (by kernel_rfl) rfl (AllA.cons (σ₁ := ⟨[(0, .own 1000000), (1, .t (tI a)), (2, .t (tI b2)), (3, .t (tI n2)), (10, .t (tI s.1)), (16, .own 1000000), (19, .t (tI (w64 (a + s.1)))), (20, .own 1000000), (23, .t (tI (w64 (b2 + s.1)))), (29, .agg [.t (tI x.x.Angle), .t (tI x.x.Kind), .t (tI x.x.Cylinder), .t (tI x.x.Pulse), .t (tI x.f_at)]), (34, .pe 1000000 (Int.toNat (w64 (a + s.1))) 5 0)], [(1000000, .rs 134 5 s.2 q12)]⟩) _ rfl rfl ?_ ?_ ?_))))
     ·exact TieO.loadY hx rfl rfl rfl rfl rfl rfl rfl rfl (.nil (TieS.leaf ⟨rfl, .of rfl rfl⟩))
     ·refine TieA.all [19] (by kernel_rfl) rfl (AllA.cons _ rfl rfl ?_ A_0 ?_)
      ·exact TieO.loadY hx2 rfl rfl rfl rfl rfl rfl rfl rfl (.nil (TieS.leaf ⟨rfl, .of rfl rfl⟩))
      exact AllA.nil
     refine AllA.cons (σ₁ := ⟨[(0, .own 1000000), (1, .t (tI a)), (2, .t (tI b2)), (3, .t (tI n2)), (10, .t (tI s.1)), (16, .own 1000000), (19, .t (tI (w64 (a + s.1)))), (20, .own 1000000), (23, .t (tI (w64 (b2 + s.1)))), (28, .pe 1000000 (Int.toNat (w64 (b2 + s.1))) 5 0), (35, .agg [.t (tI x2.x.Angle), .t (tI x2.x.Kind), .t (tI x2.x.Cylinder), .t (tI x2.x.Pulse), .t (tI x2.f_at)])], [(1000000, .rs 134 5 s.2 q12)]⟩) _ rfl rfl ?_ ?_ ?_
     ·exact TieO.loadY hx2 rfl rfl rfl rfl rfl rfl rfl rfl (.nil (TieS.leaf ⟨rfl, .of rfl rfl⟩))
     ·refine TieA.all [13] (by kernel_rfl) rfl (AllA.cons _ rfl rfl ?_ A_0 ?_)
      ·exact TieO.loadY hx rfl rfl rfl rfl rfl rfl rfl rfl (.nil (TieS.leaf ⟨rfl, .of rfl rfl⟩))
      exact AllA.nil
     exact AllA.nil
    exact TieO.indexO rfl rfl rfl rfl rfl rfl rfl rfl rfl rfl fun x3 hx3 => .storeY x2 [tI x2.x.Angle, tI x2.x.Kind, tI x2.x.Cylinder, tI x2.x.Pulse, tI x2.f_at] hx3 rfl rfl rfl rfl rfl rfl rfl rfl rfl rfl rfl rfl fun l2 hl2 => .nil (.leaf ⟨rfl, .of rfl rfl⟩)
   rintro f2 e σ' _ ⟨rfl, hs⟩
   refine TieX.sub hs (TieS.endb (.region (.run 3 rfl (.nil ?_))))
   exact TieS.leaf ⟨rfl, .of rfl rfl⟩
  ·exact TieS.exitOut rfl ⟨(fun h => by cases h), rfl, .of rfl rfl⟩
 rintro (s2 | r) e σ' _ hq
 ·obtain ⟨rfl, hs⟩ := hq
  refine TieX.exit rfl (TieX.sub hs ?_)
  exact TieS.leaf ⟨.inr rfl, ⟨[(1000000, 1000000)], _, _, rfl, rfl, rfl, rfl, rfl⟩⟩
 ·exact hq.elim
set_option maxRecDepth 100000 in
theorem q167 (data : List Sscheduler_planned) (a : Int) (m2 : Int) (b2 : Int) (n2 : Nat) (cs : List (List Tree)) (cmp : Sscheduler_planned → Sscheduler_planned → Option Int) (h2 : ∀ x0 x1, TieF Tryz.prog n2 ([q20 x0, q20 x1] ++ cs.map T.el) (cmp x0 x1) (fun r => .t (tI r))) : TieG Tryz.prog 177 [.own 1000000, .t (tI a), .t (tI m2), .t (tI b2), .fz n2 cs] [(1000000, .rs 134 5 data q12)] (q98 data a m2 b2 cmp) (fun _ => .tup []) (fun r => [(1000000, .rs 134 5 r q12)]) := by
 refine TieG.intro htab 58 [] Tryz.call177 Tryz.func177 rfl rfl rfl (Nat.le_of_ble_eq_true rfl) fun w0 L => ?_
 refine TieS.seq (.region (.run 4 rfl (.nil (.seq ?_))))
 refine TieS.region (.run 4 rfl (.nil (.seq (.block ?_))))
 refine TieS.loop (fun t => ⟨[(0, .own 1000000), (2, .t (tI m2)), (4, .fz n2 cs), (10, .t (tI t.1)), (11, .t (tI t.2.1))], [(1000000, .rs 134 5 t.2.2 q12)]⟩) (fun b e σ' => match b with | .inl t => e = .exit 0 ∧ Sub ⟨[(0, .own 1000000), (2, .t (tI m2)), (4, .fz n2 cs), (10, .t (tI t.1))], [(1000000, .rs 134 5 t.2.2 q12)]⟩ σ' | .inr t => False) (.of rfl rfl) ?_ ?_
 ·intro s
  refine TieS.seq (.seq (.region (.run 3 rfl (.nil ?_))))
  refine TieS.cond rfl ?_ ?_
  ·refine TieS.skip (.block (.seq (.region (.run 3 rfl ?_))))
   refine TieO.nil (.cond rfl ?_ ?_)
   ·refine TieS.seq (.region (.run 7 rfl (.callG [(1000000, 1000000)] [] (fun v => ⟨[(0, .own 1000000), (2, .t (tI m2)), (4, .fz n2 cs), (10, .t (tI s.1)), (11, .t (tI s.2.1)), (18, .t (tI s.1)), (19, .t (tI s.2.1)), (20, .t (tB (s.1 != s.2.1))), (21, .t (tI s.1)), (22, .t (tI s.2.1)), (23, .t (tB (decide (s.1 > s.2.1)))), (24, .own 1000000), (25, .t (tI m2)), (26, .t (tI s.1)), (27, .t (tI (w64 (m2 - s.1)))), (28, .t (tI m2)), (29, .t (tI s.2.1)), (30, .fz n2 cs), (31, .tup [])], [(1000000, .rs 134 5 v q12)]⟩) (q36 s.2.2 (w64 (m2 - s.1)) m2 s.2.1 n2 cs cmp h2) rfl rfl rfl rfl rfl rfl rfl (fun _ => rfl) (fun _ => rfl) (fun _ => rfl) (fun _ => .of rfl rfl) fun v hv => .nil ?_)))
    exact TieS.region (.run 4 rfl (.nil (.endb (.leaf ⟨rfl, .of rfl rfl⟩))))
   ·refine TieS.seq (.region (.run 11 rfl (.callG [(1000000, 1000000)] [] (fun v2 => ⟨[(0, .own 1000000), (2, .t (tI m2)), (4, .fz n2 cs), (10, .t (tI s.1)), (11, .t (tI s.2.1)), (18, .t (tI s.1)), (19, .t (tI s.2.1)), (20, .t (tB (s.1 != s.2.1))), (21, .t (tI s.1)), (22, .t (tI s.2.1)), (23, .t (tB (decide (s.1 > s.2.1)))), (35, .own 1000000), (36, .t (tI m2)), (37, .t (tI s.1)), (38, .t (tI (w64 (m2 - s.1)))), (39, .t (tI m2)), (40, .t (tI s.2.1)), (41, .t (tI (w64 (m2 + s.2.1)))), (42, .t (tI s.1)), (43, .t (tI (w64 ((w64 (m2 + s.2.1)) - s.1)))), (44, .t (tI s.1)), (45, .fz n2 cs), (46, .tup [])], [(1000000, .rs 134 5 v2 q12)]⟩) (q36 s.2.2 (w64 (m2 - s.1)) (w64 ((w64 (m2 + s.2.1)) - s.1)) s.1 n2 cs cmp h2) rfl rfl rfl rfl rfl rfl rfl (fun _ => rfl) (fun _ => rfl) (fun _ => rfl) (fun _ => .of rfl rfl) fun v2 hv2 => .nil ?_)))
    exact TieS.region (.run 4 rfl (.nil (.endb (.leaf ⟨rfl, .of rfl rfl⟩))))
  ·exact TieS.exitOut rfl ⟨(fun h => by cases h), rfl, .of rfl rfl⟩
 rintro (s2 | r) e σ' _ hq
 ·obtain ⟨rfl, hs⟩ := hq
  refine TieX.exit rfl (TieX.sub hs ?_)
  exact TieS.region (.run 7 rfl (.callG [(1000000, 1000000)] [] (fun v3 => ⟨[(0, .own 1000000), (2, .t (tI m2)), (4, .fz n2 cs), (10, .t (tI s2.1)), (50, .own 1000000), (51, .t (tI m2)), (52, .t (tI s2.1)), (53, .t (tI (w64 (m2 - s2.1)))), (54, .t (tI m2)), (55, .t (tI s2.1)), (56, .fz n2 cs), (57, .tup [])], [(1000000, .rs 134 5 v3 q12)]⟩) (q36 s2.2.2 (w64 (m2 - s2.1)) m2 s2.1 n2 cs cmp h2) rfl rfl rfl rfl rfl rfl rfl (fun _ => rfl) (fun _ => rfl) (fun _ => rfl) (fun _ => .of rfl rfl) fun v3 hv3 => .nil (.leaf ⟨.inr rfl, ⟨[(1000000, 1000000)], _, _, rfl, rfl, rfl, rfl, rfl⟩⟩)))
 ·exact hq.elim
set_option maxRecDepth 100000 in
set_option maxHeartbeats 4000000 in
theorem q71 (fu : Nat) : ∀ (data : List Sscheduler_planned) (a : Int) (m2 : Int) (b2 : Int) (n2 : Nat) (cs : List (List Tree)) (cmp : Sscheduler_planned → Sscheduler_planned → Option Int) (h2 : ∀ x0 x1, TieF Tryz.prog n2 ([q20 x0, q20 x1] ++ cs.map T.el) (cmp x0 x1) (fun r => .t (tI r))), TieG Tryz.prog 156 [.own 1000000, .t (tI a), .t (tI m2), .t (tI b2), .fz n2 cs] [(1000000, .rs 134 5 data q12)] (q19 fu data a m2 b2 cmp) (fun _ => .tup []) (fun r => [(1000000, .rs 134 5 r q12)]) := by
 induction fu with
 | zero => exact fun _ _ _ _ _ _ _ _ => ⟨Tryz.call156, fun _ hr => by have hr2 : (none : Option (List Sscheduler_planned)) = some _ := hr; cases hr2⟩
 | succ fu ih =>
  rw [show q19 (fu + 1) = q78 (q19 fu) from rfl]
  generalize q19 fu = rc at ih ⊢
  intro data a m2 b2 n2 cs cmp h2
  refine TieG.intro htab 220 [] Tryz.call156 Tryz.func156 rfl rfl rfl (Nat.le_of_ble_eq_true rfl) fun w0 L => ?_
  refine TieS.seq (.seq (.region (.run 4 rfl (.nil ?_))))
  refine TieS.cond rfl ?_ ?_
  ·refine TieS.seq (.region (.run 2 rfl (.nil (.seq ?_))))
   refine TieS.region (.run 2 rfl (.nil (.seq (.block ?_))))
   refine TieS.loop (fun t => ⟨[(0, .own 1000000), (1, .t (tI a)), (4, .fz n2 cs), (10, .t (tI t.1)), (11, .t (tI t.2))], [(1000000, .rs 134 5 data q12)]⟩) (fun b e σ' => match b with | .inl t => e = .exit 0 ∧ Sub ⟨[(0, .own 1000000), (1, .t (tI a)), (10, .t (tI t.1))], [(1000000, .rs 134 5 data q12)]⟩ σ' | .inr t => False) (.of rfl rfl) ?_ ?_
   ·intro s
    refine TieS.seq (.seq (.region (.run 3 rfl (.nil ?_))))
    refine TieS.cond rfl ?_ ?_
    ·refine TieS.skip (.block (.seq (.region (.run 7 rfl ?_))))
     refine TieO.nil (.seq (TieX.pre fun x hx => TieX.pre fun x2 hx2 => TieX.pre fun v hv => ?_))
     refine TieS.draw 11 [_, _, _, _, _, _, _, _, _, _, _] [(0, .own 1000000), (1, .t (tI a)), (4, .fz n2 cs), (10, .t (tI s.1)), (11, .t (tI s.2)), (12, .t (tI (w64 (bitShr .u64 (IntKind.u64.wrap (w64 (s.1 + s.2))) 1))))] [(1000000, .rs 134 5 data q12)] mixed (.of rfl rfl) rfl rfl rfl rfl (.cons (.quiet rfl rfl rfl) (.cons (.quiet rfl rfl rfl) (.cons (.quiet rfl rfl rfl) (.cons (.indexO (sz := 5) hx rfl rfl rfl rfl rfl rfl rfl rfl) (.cons (.loadY hx rfl rfl rfl rfl rfl rfl) (.cons (.quiet rfl rfl rfl) (.cons (.quiet rfl rfl rfl) (.cons (.indexO (sz := 5) hx2 rfl rfl rfl rfl rfl rfl rfl rfl) (.cons (.loadY hx2 rfl rfl rfl rfl rfl rfl) (.cons (.callV (h2 x x2) hv rfl rfl rfl rfl) (.cons (.quiet rfl rfl rfl) (.nil)))))))))))) (.nil (.cond rfl ?_ ?_))
     ·exact TieS.region (.run 3 rfl (.nil (.endb (.leaf ⟨rfl, .of rfl rfl⟩))))
     ·exact TieS.region (.run 2 rfl (.nil (.endb (.leaf ⟨rfl, .of rfl rfl⟩))))
    ·exact TieS.exitOut rfl ⟨(fun h => by cases h), rfl, .of rfl rfl⟩
   rintro (s2 | r) e σ' _ hq
   ·obtain ⟨rfl, hs⟩ := hq
    refine TieX.exit rfl (TieX.sub hs ?_)
    refine TieS.seq (.seq (.region (.run 2 rfl (.nil ?_))))
    refine TieS.block (.loop (fun t => ⟨[(0, .own 1000000), (10, .t (tI s2.1)), (13, .t (tI t.1))], [(1000000, .rs 134 5 t.2 q12)]⟩) (fun b e σ' => match b with | .inl t => e = .exit 2 ∧ Sub ⟨[], [(1000000, .rs 134 5 t.2 q12)]⟩ σ' | .inr t => False) (.of rfl rfl) ?_ ?_)
    ·intro s3
     refine TieS.seq (.seq (.region (.run 4 rfl (.nil ?_))))
     refine TieS.cond rfl ?_ ?_
     ·refine TieS.skip (.seq (.block (.bind (Q₁ := fun t e σ' => e = .normal ∧ Sub ⟨[(0, .own 1000000), (10, .t (tI s2.1)), (13, .t (tI s3.1))], [(1000000, .rs 134 5 t q12)]⟩ σ') ?_ ?_)))
      ·refine TieX.pre fun x3 hx3 => TieX.pre fun x4 hx4 => TieX.pre fun l hl => TieS.draws 16 (bm 18 0) (bm 18 65535) ⟨[(0, .own 1000000), (10, .t (tI s2.1)), (13, .t (tI s3.1)), (63, .own 1000000), (65, .t (tI (w64 (s3.1 + 1)))), (74, .agg [.t (tI x4.x.Angle), .t (tI x4.x.Kind), .t (tI x4.x.Cylinder), .t (tI x4.x.Pulse), .t (tI x4.f_at)])], [(1000000, .rs 134 5 l q12)]⟩ mixed (fun _ _ _ h => by cases h.1) rfl rfl rfl rfl ?_ ?_
       ·refine TieA.have_ (fuel₁ := 4) (l₁ := (bm 18 16383)) (σ₁ := ⟨[(0, .own 1000000), (10, .t (tI s2.1)), (13, .t (tI s3.1)), (61, .own 1000000), (62, .t (tI s3.1)), (63, .own 1000000), (65, .t (tI (w64 (s3.1 + 1)))), (70, .agg [.t (tI x3.x.Angle), .t (tI x3.x.Kind), .t (tI x3.x.Cylinder), .t (tI x3.x.Pulse), .t (tI x3.f_at)]), (74, .agg [.t (tI x4.x.Angle), .t (tI x4.x.Kind), .t (tI x4.x.Cylinder), .t (tI x4.x.Pulse), .t (tI x4.f_at)])], [(1000000, .rs 134 5 s3.2 q12)]⟩) ?_ fun A_0 => ?_
        ·refine TieA.idx 14 _ hx4 rfl rfl rfl rfl rfl rfl (by kernel_rfl) (by kernel_rfl) (by kernel_rfl) rfl rfl rfl rfl rfl rfl (.all [15] (by kernel_rfl) rfl (AllA.cons (σ₁ := ⟨[(0, .own 1000000), (10, .t (tI s2.1)), (13, .t (tI s3.1)), (63, .own 1000000), (65, .t (tI (w64 (s3.1 + 1)))), (74, .agg [.t (tI x4.x.Angle), .t (tI x4.x.Kind), .t (tI x4.x.Cylinder), .t (tI x4.x.Pulse), .t (tI x4.f_at)])], [(1000000, .rs 134 5 l q12)]⟩) _ rfl rfl ?_ ?_ ?_))
         ·refine TieO.withH hl (TieO.storeY x3 [tI x3.x.Angle, tI x3.x.Kind, tI x3.x.Cylinder, tI x3.x.Pulse, tI x3.f_at] hx4 rfl rfl rfl rfl rfl rfl rfl rfl rfl rfl rfl rfl (TieO.ifG ?_))
          exact TieO.nil (TieS.leaf ⟨rfl, .of rfl rfl⟩)
         ·exact TieA.done (.of rfl rfl)
         exact AllA.nil
        refine TieA.mv 0 rfl (.inl rfl) rfl (by kernel_rfl) rfl (.mv 1 rfl (.inl rfl) rfl (by kernel_rfl) rfl (.mv 2 rfl (.inl rfl) rfl (by kernel_rfl) rfl (.mv 3 rfl (.inl rfl) rfl (by kernel_rfl) rfl (.bin (V := .t (tI (w64 (s3.1 + 1)))) 4 _ rfl rfl rfl rfl rfl rfl (by kernel_rfl) (by kernel_rfl) (by kernel_rfl) rfl rfl rfl rfl ?_))))
        refine TieA.mv 5 rfl (.inl rfl) rfl (by kernel_rfl) rfl (.mv 6 rfl (.inl rfl) rfl (by kernel_rfl) rfl (.bin (V := .t (tI (w64 (s3.1 + 1)))) 7 _ rfl rfl rfl rfl rfl rfl (by kernel_rfl) (by kernel_rfl) (by kernel_rfl) rfl rfl rfl rfl (.idx 8 _ hx3 rfl rfl rfl rfl rfl rfl (by kernel_rfl) (by kernel_rfl) (by kernel_rfl) rfl rfl rfl rfl rfl rfl (.mv 10 rfl (.inl rfl) rfl (by kernel_rfl) rfl ?_))))
        refine TieA.mv 11 rfl (.inl rfl) rfl (by kernel_rfl) rfl (.idx 12 _ hx4 rfl rfl rfl rfl rfl rfl (by kernel_rfl) (by kernel_rfl) (by kernel_rfl) rfl rfl rfl rfl rfl rfl (.all [9, 13] (by kernel_rfl) rfl (AllA.cons (σ₁ := ⟨[(0, .own 1000000), (10, .t (tI s2.1)), (13, .t (tI s3.1)), (61, .own 1000000), (62, .t (tI s3.1)), (63, .own 1000000), (65, .t (tI (w64 (s3.1 + 1)))), (70, .agg [.t (tI x3.x.Angle), .t (tI x3.x.Kind), .t (tI x3.x.Cylinder), .t (tI x3.x.Pulse), .t (tI x3.f_at)]), (73, .pe 1000000 (Int.toNat s3.1) 5 0)], [(1000000, .rs 134 5 s3.2 q12)]⟩) _ rfl rfl ?_ ?_ ?_)))
        ·exact TieO.loadY hx3 rfl rfl rfl rfl rfl rfl rfl rfl (.nil (TieS.leaf ⟨rfl, .of rfl rfl⟩))
        ·refine TieA.all [13] (by kernel_rfl) rfl (AllA.cons _ rfl rfl ?_ A_0 ?_)
         ·exact TieO.loadY hx4 rfl rfl rfl rfl rfl rfl rfl rfl (.nil (TieS.leaf ⟨rfl, .of rfl rfl⟩))
         exact AllA.nil
        refine AllA.cons (σ₁ := ⟨[(0, .own 1000000), (10, .t (tI s2.1)), (13, .t (tI s3.1)), (61, .own 1000000), (62, .t (tI s3.1)), (63, .own 1000000), (65, .t (tI (w64 (s3.1 + 1)))), (69, .pe 1000000 (Int.toNat (w64 (s3.1 + 1))) 5 0), (74, .agg [.t (tI x4.x.Angle), .t (tI x4.x.Kind), .t (tI x4.x.Cylinder), .t (tI x4.x.Pulse), .t (tI x4.f_at)])], [(1000000, .rs 134 5 s3.2 q12)]⟩) _ rfl rfl ?_ ?_ ?_
        ·exact TieO.loadY hx4 rfl rfl rfl rfl rfl rfl rfl rfl (.nil (TieS.leaf ⟨rfl, .of rfl rfl⟩))
        ·refine TieA.all [9] (by kernel_rfl) rfl (AllA.cons _ rfl rfl ?_ A_0 ?_)
         ·exact TieO.loadY hx3 rfl rfl rfl rfl rfl rfl rfl rfl (.nil (TieS.leaf ⟨rfl, .of rfl rfl⟩))
         exact AllA.nil
        exact AllA.nil
       exact TieO.indexO rfl rfl rfl rfl rfl rfl rfl rfl rfl rfl fun x5 hx5 => .storeY x4 [tI x4.x.Angle, tI x4.x.Kind, tI x4.x.Cylinder, tI x4.x.Pulse, tI x4.f_at] hx5 rfl rfl rfl rfl rfl rfl rfl rfl rfl rfl rfl rfl fun l2 hl2 => .nil (.leaf ⟨rfl, .of rfl rfl⟩)
      rintro f2 e σ' _ ⟨rfl, hs⟩
      refine TieX.sub hs (TieS.endb (.region (.run 3 rfl (.nil ?_))))
      exact TieS.leaf ⟨rfl, .of rfl rfl⟩
     ·exact TieS.exitOut rfl ⟨(fun h => by cases h), rfl, .of rfl rfl⟩
    rintro (s4 | r) e σ' _ hq
    ·obtain ⟨rfl, hs⟩ := hq
     refine TieX.exit rfl (TieX.sub hs ?_)
     exact TieS.ret ⟨.inl rfl, ⟨[(1000000, 1000000)], _, _, rfl, rfl, rfl, rfl, rfl⟩⟩
    ·exact hq.elim
   ·exact hq.elim
  ·refine TieS.skip (.seq (.seq (.region (.run 4 rfl ?_))))
   refine TieO.nil (.cond rfl ?_ ?_)
   ·refine TieS.seq (.region (.run 2 rfl (.nil (.seq ?_))))
    refine TieS.region (.run 2 rfl (.nil (.seq (.block ?_))))
    refine TieS.loop (fun t => ⟨[(0, .own 1000000), (2, .t (tI m2)), (4, .fz n2 cs), (14, .t (tI t.1)), (15, .t (tI t.2))], [(1000000, .rs 134 5 data q12)]⟩) (fun b e σ' => match b with | .inl t => e = .exit 4 ∧ Sub ⟨[(0, .own 1000000), (2, .t (tI m2)), (14, .t (tI t.1))], [(1000000, .rs 134 5 data q12)]⟩ σ' | .inr t => False) (.of rfl rfl) ?_ ?_
    ·intro s5
     refine TieS.seq (.seq (.region (.run 3 rfl (.nil ?_))))
     refine TieS.cond rfl ?_ ?_
     ·refine TieS.skip (.block (.seq (.region (.run 7 rfl ?_))))
      refine TieO.nil (.seq (TieX.pre fun x6 hx6 => TieX.pre fun x7 hx7 => TieX.pre fun v2 hv2 => ?_))
      refine TieS.draw 12 [_, _, _, _, _, _, _, _, _, _, _, _] [(0, .own 1000000), (2, .t (tI m2)), (4, .fz n2 cs), (14, .t (tI s5.1)), (15, .t (tI s5.2)), (16, .t (tI (w64 (bitShr .u64 (IntKind.u64.wrap (w64 (s5.1 + s5.2))) 1))))] [(1000000, .rs 134 5 data q12)] mixed (.of rfl rfl) rfl rfl rfl rfl (.cons (.quiet rfl rfl rfl) (.cons (.quiet rfl rfl rfl) (.cons (.quiet rfl rfl rfl) (.cons (.indexO (sz := 5) hx6 rfl rfl rfl rfl rfl rfl rfl rfl) (.cons (.loadY hx6 rfl rfl rfl rfl rfl rfl) (.cons (.quiet rfl rfl rfl) (.cons (.quiet rfl rfl rfl) (.cons (.indexO (sz := 5) hx7 rfl rfl rfl rfl rfl rfl rfl rfl) (.cons (.loadY hx7 rfl rfl rfl rfl rfl rfl) (.cons (.callV (h2 x6 x7) hv2 rfl rfl rfl rfl) (.cons (.quiet rfl rfl rfl) (.cons (.quiet rfl rfl rfl) (.nil))))))))))))) (.nil (.cond rfl ?_ ?_))
      ·exact TieS.region (.run 3 rfl (.nil (.endb (.leaf ⟨rfl, .of rfl rfl⟩))))
      ·exact TieS.region (.run 2 rfl (.nil (.endb (.leaf ⟨rfl, .of rfl rfl⟩))))
     ·exact TieS.exitOut rfl ⟨(fun h => by cases h), rfl, .of rfl rfl⟩
    rintro (s6 | r) e σ' _ hq
    ·obtain ⟨rfl, hs⟩ := hq
     refine TieX.exit rfl (TieX.sub hs ?_)
     refine TieS.seq (.seq (.region (.run 2 rfl (.nil ?_))))
     refine TieS.block (.loop (fun t => ⟨[(0, .own 1000000), (14, .t (tI s6.1)), (17, .t (tI t.1))], [(1000000, .rs 134 5 t.2 q12)]⟩) (fun b e σ' => match b with | .inl t => e = .exit 6 ∧ Sub ⟨[], [(1000000, .rs 134 5 t.2 q12)]⟩ σ' | .inr t => False) (.of rfl rfl) ?_ ?_)
     ·intro s7
      refine TieS.seq (.seq (.region (.run 3 rfl (.nil ?_))))
      refine TieS.cond rfl ?_ ?_
      ·refine TieS.skip (.seq (.block (.bind (Q₁ := fun t e σ' => e = .normal ∧ Sub ⟨[(0, .own 1000000), (14, .t (tI s6.1)), (17, .t (tI s7.1))], [(1000000, .rs 134 5 t q12)]⟩ σ') ?_ ?_)))
       ·refine TieX.pre fun x8 hx8 => TieX.pre fun x9 hx9 => TieX.pre fun l3 hl3 => TieS.draws 16 (bm 18 0) (bm 18 65535) ⟨[(0, .own 1000000), (14, .t (tI s6.1)), (17, .t (tI s7.1)), (115, .own 1000000), (117, .t (tI (w64 (s7.1 - 1)))), (126, .agg [.t (tI x9.x.Angle), .t (tI x9.x.Kind), .t (tI x9.x.Cylinder), .t (tI x9.x.Pulse), .t (tI x9.f_at)])], [(1000000, .rs 134 5 l3 q12)]⟩ mixed (fun _ _ _ h => by cases h.1) rfl rfl rfl rfl ?_ ?_
        ·refine TieA.have_ (fuel₁ := 4) (l₁ := (bm 18 16383)) (σ₁ := ⟨[(0, .own 1000000), (14, .t (tI s6.1)), (17, .t (tI s7.1)), (113, .own 1000000), (114, .t (tI s7.1)), (115, .own 1000000), (117, .t (tI (w64 (s7.1 - 1)))), (122, .agg [.t (tI x8.x.Angle), .t (tI x8.x.Kind), .t (tI x8.x.Cylinder), .t (tI x8.x.Pulse), .t (tI x8.f_at)]), (126, .agg [.t (tI x9.x.Angle), .t (tI x9.x.Kind), .t (tI x9.x.Cylinder), .t (tI x9.x.Pulse), .t (tI x9.f_at)])], [(1000000, .rs 134 5 s7.2 q12)]⟩) ?_ fun A_0 => ?_
         ·refine TieA.idx 14 _ hx9 rfl rfl rfl rfl rfl rfl (by kernel_rfl) (by kernel_rfl) (by kernel_rfl) rfl rfl rfl rfl rfl rfl (.all [15] (by kernel_rfl) rfl (AllA.cons (σ₁ := ⟨[(0, .own 1000000), (14, .t (tI s6.1)), (17, .t (tI s7.1)), (115, .own 1000000), (117, .t (tI (w64 (s7.1 - 1)))), (126, .agg [.t (tI x9.x.Angle), .t (tI x9.x.Kind), .t (tI x9.x.Cylinder), .t (tI x9.x.Pulse), .t (tI x9.f_at)])], [(1000000, .rs 134 5 l3 q12)]⟩) _ rfl rfl ?_ ?_ ?_))
          ·refine TieO.withH hl3 (TieO.storeY x8 [tI x8.x.Angle, tI x8.x.Kind, tI x8.x.Cylinder, tI x8.x.Pulse, tI x8.f_at] hx9 rfl rfl rfl rfl rfl rfl rfl rfl rfl rfl rfl rfl (TieO.ifG ?_))
           exact TieO.nil (TieS.leaf ⟨rfl, .of rfl rfl⟩)
          ·exact TieA.done (.of rfl rfl)
          exact AllA.nil
         refine TieA.mv 0 rfl (.inl rfl) rfl (by kernel_rfl) rfl (.mv 1 rfl (.inl rfl) rfl (by kernel_rfl) rfl (.mv 2 rfl (.inl rfl) rfl (by kernel_rfl) rfl (.mv 3 rfl (.inl rfl) rfl (by kernel_rfl) rfl (.bin (V := .t (tI (w64 (s7.1 - 1)))) 4 _ rfl rfl rfl rfl rfl rfl (by kernel_rfl) (by kernel_rfl) (by kernel_rfl) rfl rfl rfl rfl ?_))))
         refine TieA.mv 5 rfl (.inl rfl) rfl (by kernel_rfl) rfl (.mv 6 rfl (.inl rfl) rfl (by kernel_rfl) rfl (.bin (V := .t (tI (w64 (s7.1 - 1)))) 7 _ rfl rfl rfl rfl rfl rfl (by kernel_rfl) (by kernel_rfl) (by kernel_rfl) rfl rfl rfl rfl (.idx 8 _ hx8 rfl rfl rfl rfl rfl rfl (by kernel_rfl) (by kernel_rfl) (by kernel_rfl) rfl rfl rfl rfl rfl rfl (.mv 10 rfl (.inl rfl) rfl (by kernel_rfl) rfl ?_))))
         refine TieA.mv 11 rfl (.inl rfl) rfl (by kernel_rfl) rfl (.idx 12 _ hx9 rfl rfl rfl rfl rfl rfl (by kernel_rfl) (by kernel_rfl) (by kernel_rfl) rfl rfl rfl rfl rfl rfl (.all [9, 13] (by kernel_rfl) rfl (AllA.cons (σ₁ := ⟨[(0, .own 1000000), (14, .t (tI s6.1)), (17, .t (tI s7.1)), (113, .own 1000000), (114, .t (tI s7.1)), (115, .own 1000000), (117, .t (tI (w64 (s7.1 - 1)))), (122, .agg [.t (tI x8.x.Angle), .t (tI x8.x.Kind), .t (tI x8.x.Cylinder), .t (tI x8.x.Pulse), .t (tI x8.f_at)]), (125, .pe 1000000 (Int.toNat s7.1) 5 0)], [(1000000, .rs 134 5 s7.2 q12)]⟩) _ rfl rfl ?_ ?_ ?_)))
         ·exact TieO.loadY hx8 rfl rfl rfl rfl rfl rfl rfl rfl (.nil (TieS.leaf ⟨rfl, .of rfl rfl⟩))
         ·refine TieA.all [13] (by kernel_rfl) rfl (AllA.cons _ rfl rfl ?_ A_0 ?_)
          ·exact TieO.loadY hx9 rfl rfl rfl rfl rfl rfl rfl rfl (.nil (TieS.leaf ⟨rfl, .of rfl rfl⟩))
          exact AllA.nil
         refine AllA.cons (σ₁ := ⟨[(0, .own 1000000), (14, .t (tI s6.1)), (17, .t (tI s7.1)), (113, .own 1000000), (114, .t (tI s7.1)), (115, .own 1000000), (117, .t (tI (w64 (s7.1 - 1)))), (121, .pe 1000000 (Int.toNat (w64 (s7.1 - 1))) 5 0), (126, .agg [.t (tI x9.x.Angle), .t (tI x9.x.Kind), .t (tI x9.x.Cylinder), .t (tI x9.x.Pulse), .t (tI x9.f_at)])], [(1000000, .rs 134 5 s7.2 q12)]⟩) _ rfl rfl ?_ ?_ ?_
         ·exact TieO.loadY hx9 rfl rfl rfl rfl rfl rfl rfl rfl (.nil (TieS.leaf ⟨rfl, .of rfl rfl⟩))
         ·refine TieA.all [9] (by kernel_rfl) rfl (AllA.cons _ rfl rfl ?_ A_0 ?_)
          ·exact TieO.loadY hx8 rfl rfl rfl rfl rfl rfl rfl rfl (.nil (TieS.leaf ⟨rfl, .of rfl rfl⟩))
          exact AllA.nil
         exact AllA.nil
        exact TieO.indexO rfl rfl rfl rfl rfl rfl rfl rfl rfl rfl fun x10 hx10 => .storeY x9 [tI x9.x.Angle, tI x9.x.Kind, tI x9.x.Cylinder, tI x9.x.Pulse, tI x9.f_at] hx10 rfl rfl rfl rfl rfl rfl rfl rfl rfl rfl rfl rfl fun l4 hl4 => .nil (.leaf ⟨rfl, .of rfl rfl⟩)
       rintro f3 e σ' _ ⟨rfl, hs⟩
       refine TieX.sub hs (TieS.endb (.region (.run 3 rfl (.nil ?_))))
       exact TieS.leaf ⟨rfl, .of rfl rfl⟩
      ·exact TieS.exitOut rfl ⟨(fun h => by cases h), rfl, .of rfl rfl⟩
     rintro (s8 | r) e σ' _ hq
     ·obtain ⟨rfl, hs⟩ := hq
      refine TieX.exit rfl (TieX.sub hs ?_)
      exact TieS.ret ⟨.inl rfl, ⟨[(1000000, 1000000)], _, _, rfl, rfl, rfl, rfl, rfl⟩⟩
     ·exact hq.elim
    ·exact hq.elim
   ·refine TieS.skip (.seq (.region (.run 7 rfl (.nil ?_))))
    refine TieS.seq (.region (.run 4 rfl (.nil (.seq ?_))))
    refine TieS.region (.run 2 rfl (.nil (.seq (.seq ?_))))
    refine TieS.region (.run 3 rfl (.nil (.bind (Q₁ := fun t e σ' => e = .normal ∧ Sub ⟨[(0, .own 1000000), (1, .t (tI a)), (2, .t (tI m2)), (3, .t (tI b2)), (4, .fz n2 cs), (18, .t (tI (w64 (bitShr .u64 (IntKind.u64.wrap (w64 (a + b2))) 1)))), (19, .t (tI (w64 ((w64 (bitShr .u64 (IntKind.u64.wrap (w64 (a + b2))) 1)) + m2)))), (20, .t (tI t.1)), (21, .t (tI t.2))], [(1000000, .rs 134 5 data q12)]⟩ σ') ?_ ?_)))
    ·refine TieS.cond rfl ?_ ?_
     ·refine TieS.seq (.region (.run 4 rfl (.nil (.region ?_))))
      exact TieO.run 2 rfl (.nil (.leaf ⟨rfl, .of rfl rfl⟩))
     ·refine TieS.seq (.region (.run 2 rfl (.nil (.region ?_))))
      exact TieO.run 2 rfl (.nil (.leaf ⟨rfl, .of rfl rfl⟩))
    rintro s9 e σ' _ ⟨rfl, hs⟩
    refine TieX.sub hs (TieS.seq (.region (.run 3 rfl (.nil ?_))))
    refine TieS.seq (.block (.loop (fun t => ⟨[(0, .own 1000000), (1, .t (tI a)), (2, .t (tI m2)), (3, .t (tI b2)), (4, .fz n2 cs), (18, .t (tI (w64 (bitShr .u64 (IntKind.u64.wrap (w64 (a + b2))) 1)))), (19, .t (tI (w64 ((w64 (bitShr .u64 (IntKind.u64.wrap (w64 (a + b2))) 1)) + m2)))), (20, .t (tI t.1)), (21, .t (tI t.2)), (22, .t (tI (w64 ((w64 ((w64 (bitShr .u64 (IntKind.u64.wrap (w64 (a + b2))) 1)) + m2)) - 1))))], [(1000000, .rs 134 5 data q12)]⟩) (fun b e σ' => match b with | .inl t => e = .exit 8 ∧ Sub ⟨[(0, .own 1000000), (1, .t (tI a)), (2, .t (tI m2)), (3, .t (tI b2)), (4, .fz n2 cs), (18, .t (tI (w64 (bitShr .u64 (IntKind.u64.wrap (w64 (a + b2))) 1)))), (19, .t (tI (w64 ((w64 (bitShr .u64 (IntKind.u64.wrap (w64 (a + b2))) 1)) + m2)))), (20, .t (tI t.1))], [(1000000, .rs 134 5 data q12)]⟩ σ' | .inr t => False) (.of rfl rfl) ?_ ?_))
    ·intro s10
     refine TieS.seq (.seq (.region (.run 3 rfl (.nil ?_))))
     refine TieS.cond rfl ?_ ?_
     ·refine TieS.skip (.block (.seq (.region (.run 7 rfl ?_))))
      refine TieO.nil (.seq (TieX.pre fun x11 hx11 => TieX.pre fun x12 hx12 => TieX.pre fun v3 hv3 => ?_))
      refine TieS.draw 14 [_, _, _, _, _, _, _, _, _, _, _, _, _, _] [(0, .own 1000000), (1, .t (tI a)), (2, .t (tI m2)), (3, .t (tI b2)), (4, .fz n2 cs), (18, .t (tI (w64 (bitShr .u64 (IntKind.u64.wrap (w64 (a + b2))) 1)))), (19, .t (tI (w64 ((w64 (bitShr .u64 (IntKind.u64.wrap (w64 (a + b2))) 1)) + m2)))), (20, .t (tI s10.1)), (21, .t (tI s10.2)), (22, .t (tI (w64 ((w64 ((w64 (bitShr .u64 (IntKind.u64.wrap (w64 (a + b2))) 1)) + m2)) - 1)))), (23, .t (tI (w64 (bitShr .u64 (IntKind.u64.wrap (w64 (s10.1 + s10.2))) 1))))] [(1000000, .rs 134 5 data q12)] mixed (.of rfl rfl) rfl rfl rfl rfl (.cons (.quiet rfl rfl rfl) (.cons (.quiet rfl rfl rfl) (.cons (.quiet rfl rfl rfl) (.cons (.quiet rfl rfl rfl) (.cons (.quiet rfl rfl rfl) (.cons (.indexO (sz := 5) hx11 rfl rfl rfl rfl rfl rfl rfl rfl) (.cons (.loadY hx11 rfl rfl rfl rfl rfl rfl) (.cons (.quiet rfl rfl rfl) (.cons (.quiet rfl rfl rfl) (.cons (.indexO (sz := 5) hx12 rfl rfl rfl rfl rfl rfl rfl rfl) (.cons (.loadY hx12 rfl rfl rfl rfl rfl rfl) (.cons (.callV (h2 x11 x12) hv3 rfl rfl rfl rfl) (.cons (.quiet rfl rfl rfl) (.cons (.quiet rfl rfl rfl) (.nil))))))))))))))) (.nil (.cond rfl ?_ ?_))
      ·exact TieS.region (.run 3 rfl (.nil (.endb (.leaf ⟨rfl, .of rfl rfl⟩))))
      ·exact TieS.region (.run 2 rfl (.nil (.endb (.leaf ⟨rfl, .of rfl rfl⟩))))
     ·exact TieS.exitOut rfl ⟨(fun h => by cases h), rfl, .of rfl rfl⟩
    rintro (s11 | r) e σ' _ hq
    ·obtain ⟨rfl, hs⟩ := hq
     refine TieX.exit rfl (TieX.sub hs ?_)
     refine TieS.seq (.region (.run 4 rfl (.nil (.seq ?_))))
     refine TieS.seq (.region (.run 4 rfl (.selAnd (v := decide (m2 < (w64 ((w64 ((w64 (bitShr .u64 (IntKind.u64.wrap (w64 (a + b2))) 1)) + m2)) - s11.1)))) 4 181 (fun b => ⟨[(0, .own 1000000), (1, .t (tI a)), (2, .t (tI m2)), (3, .t (tI b2)), (4, .fz n2 cs), (18, .t (tI (w64 (bitShr .u64 (IntKind.u64.wrap (w64 (a + b2))) 1)))), (20, .t (tI s11.1)), (24, .t (tI (w64 ((w64 ((w64 (bitShr .u64 (IntKind.u64.wrap (w64 (a + b2))) 1)) + m2)) - s11.1)))), (185, .t (tB b))], [(1000000, .rs 134 5 data q12)]⟩) rfl ?_ ?_ ?_)))
     ·exact TieO.run 4 rfl (.nil (.leaf ⟨rfl, .of rfl rfl⟩))
     ·exact TieO.run 4 rfl (.nil (.leaf ⟨rfl, .of rfl rfl⟩))
     refine TieO.nil (.bind (Q₁ := fun t e σ' => e = .normal ∧ Sub ⟨[(0, .own 1000000), (1, .t (tI a)), (3, .t (tI b2)), (4, .fz n2 cs), (18, .t (tI (w64 (bitShr .u64 (IntKind.u64.wrap (w64 (a + b2))) 1)))), (20, .t (tI s11.1)), (24, .t (tI (w64 ((w64 ((w64 (bitShr .u64 (IntKind.u64.wrap (w64 (a + b2))) 1)) + m2)) - s11.1))))], [(1000000, .rs 134 5 t q12)]⟩ σ') ?_ ?_)
     ·refine TieS.cond rfl ?_ ?_
      ·exact TieS.region (.run 5 rfl (.callG [(1000000, 1000000)] [] (fun v4 => ⟨[(0, .own 1000000), (1, .t (tI a)), (2, .t (tI m2)), (3, .t (tI b2)), (4, .fz n2 cs), (18, .t (tI (w64 (bitShr .u64 (IntKind.u64.wrap (w64 (a + b2))) 1)))), (20, .t (tI s11.1)), (24, .t (tI (w64 ((w64 ((w64 (bitShr .u64 (IntKind.u64.wrap (w64 (a + b2))) 1)) + m2)) - s11.1)))), (185, .t (tB ((decide (s11.1 < m2)) && (decide (m2 < (w64 ((w64 ((w64 (bitShr .u64 (IntKind.u64.wrap (w64 (a + b2))) 1)) + m2)) - s11.1))))))), (186, .own 1000000), (187, .t (tI s11.1)), (188, .t (tI m2)), (189, .t (tI (w64 ((w64 ((w64 (bitShr .u64 (IntKind.u64.wrap (w64 (a + b2))) 1)) + m2)) - s11.1)))), (190, .fz n2 cs), (191, .tup [])], [(1000000, .rs 134 5 v4 q12)]⟩) (q167 data s11.1 m2 (w64 ((w64 ((w64 (bitShr .u64 (IntKind.u64.wrap (w64 (a + b2))) 1)) + m2)) - s11.1)) n2 cs cmp h2) rfl rfl rfl rfl rfl rfl rfl (fun _ => rfl) (fun _ => rfl) (fun _ => rfl) (fun _ => .of rfl rfl) fun v4 hv4 => .nil (.leaf ⟨rfl, .of rfl rfl⟩)))
      ·exact TieS.skip (.leaf ⟨rfl, .of rfl rfl⟩)
     rintro f4 e σ' _ ⟨rfl, hs⟩
     refine TieX.sub hs (TieS.seq (.seq (.region (.run 4 rfl ?_))))
     refine TieO.selAnd (v := decide (s11.1 < (w64 (bitShr .u64 (IntKind.u64.wrap (w64 (a + b2))) 1)))) 4 195 (fun b => ⟨[(0, .own 1000000), (1, .t (tI a)), (3, .t (tI b2)), (4, .fz n2 cs), (18, .t (tI (w64 (bitShr .u64 (IntKind.u64.wrap (w64 (a + b2))) 1)))), (20, .t (tI s11.1)), (24, .t (tI (w64 ((w64 ((w64 (bitShr .u64 (IntKind.u64.wrap (w64 (a + b2))) 1)) + m2)) - s11.1)))), (199, .t (tB b))], [(1000000, .rs 134 5 f4 q12)]⟩) rfl ?_ ?_ ?_
     ·exact TieO.run 4 rfl (.nil (.leaf ⟨rfl, .of rfl rfl⟩))
     ·exact TieO.run 4 rfl (.nil (.leaf ⟨rfl, .of rfl rfl⟩))
     refine TieO.nil (.bind (Q₁ := fun t e σ' => e = .normal ∧ Sub ⟨[(0, .own 1000000), (3, .t (tI b2)), (4, .fz n2 cs), (18, .t (tI (w64 (bitShr .u64 (IntKind.u64.wrap (w64 (a + b2))) 1)))), (24, .t (tI (w64 ((w64 ((w64 (bitShr .u64 (IntKind.u64.wrap (w64 (a + b2))) 1)) + m2)) - s11.1))))], [(1000000, .rs 134 5 t q12)]⟩ σ') ?_ ?_)
     ·refine TieS.cond rfl ?_ ?_
      ·exact TieS.region (.run 5 rfl (.callG [(1000000, 1000000)] [] (fun v5 => ⟨[(0, .own 1000000), (1, .t (tI a)), (3, .t (tI b2)), (4, .fz n2 cs), (18, .t (tI (w64 (bitShr .u64 (IntKind.u64.wrap (w64 (a + b2))) 1)))), (20, .t (tI s11.1)), (24, .t (tI (w64 ((w64 ((w64 (bitShr .u64 (IntKind.u64.wrap (w64 (a + b2))) 1)) + m2)) - s11.1)))), (199, .t (tB ((decide (a < s11.1)) && (decide (s11.1 < (w64 (bitShr .u64 (IntKind.u64.wrap (w64 (a + b2))) 1))))))), (200, .own 1000000), (201, .t (tI a)), (202, .t (tI s11.1)), (203, .t (tI (w64 (bitShr .u64 (IntKind.u64.wrap (w64 (a + b2))) 1)))), (204, .fz n2 cs), (205, .tup [])], [(1000000, .rs 134 5 v5 q12)]⟩) (ih f4 a s11.1 (w64 (bitShr .u64 (IntKind.u64.wrap (w64 (a + b2))) 1)) n2 cs cmp h2) rfl rfl rfl rfl rfl rfl rfl (fun _ => rfl) (fun _ => rfl) (fun _ => rfl) (fun _ => .of rfl rfl) fun v5 hv5 => .nil (.leaf ⟨rfl, .of rfl rfl⟩)))
      ·exact TieS.skip (.leaf ⟨rfl, .of rfl rfl⟩)
     rintro f5 e σ' _ ⟨rfl, hs⟩
     refine TieX.sub hs (TieS.seq (.region (.run 4 rfl (.selAnd (v := decide ((w64 ((w64 ((w64 (bitShr .u64 (IntKind.u64.wrap (w64 (a + b2))) 1)) + m2)) - s11.1)) < b2)) 4 209 (fun b => ⟨[(0, .own 1000000), (3, .t (tI b2)), (4, .fz n2 cs), (18, .t (tI (w64 (bitShr .u64 (IntKind.u64.wrap (w64 (a + b2))) 1)))), (24, .t (tI (w64 ((w64 ((w64 (bitShr .u64 (IntKind.u64.wrap (w64 (a + b2))) 1)) + m2)) - s11.1)))), (213, .t (tB b))], [(1000000, .rs 134 5 f5 q12)]⟩) rfl ?_ ?_ ?_))))
     ·exact TieO.run 4 rfl (.nil (.leaf ⟨rfl, .of rfl rfl⟩))
     ·exact TieO.run 4 rfl (.nil (.leaf ⟨rfl, .of rfl rfl⟩))
     refine TieO.nil (.cond rfl ?_ ?_)
     ·exact TieS.region (.run 5 rfl (.callG [(1000000, 1000000)] [] (fun v6 => ⟨[(0, .own 1000000), (3, .t (tI b2)), (4, .fz n2 cs), (18, .t (tI (w64 (bitShr .u64 (IntKind.u64.wrap (w64 (a + b2))) 1)))), (24, .t (tI (w64 ((w64 ((w64 (bitShr .u64 (IntKind.u64.wrap (w64 (a + b2))) 1)) + m2)) - s11.1)))), (213, .t (tB ((decide ((w64 (bitShr .u64 (IntKind.u64.wrap (w64 (a + b2))) 1)) < (w64 ((w64 ((w64 (bitShr .u64 (IntKind.u64.wrap (w64 (a + b2))) 1)) + m2)) - s11.1)))) && (decide ((w64 ((w64 ((w64 (bitShr .u64 (IntKind.u64.wrap (w64 (a + b2))) 1)) + m2)) - s11.1)) < b2))))), (214, .own 1000000), (215, .t (tI (w64 (bitShr .u64 (IntKind.u64.wrap (w64 (a + b2))) 1)))), (216, .t (tI (w64 ((w64 ((w64 (bitShr .u64 (IntKind.u64.wrap (w64 (a + b2))) 1)) + m2)) - s11.1)))), (217, .t (tI b2)), (218, .fz n2 cs), (219, .tup [])], [(1000000, .rs 134 5 v6 q12)]⟩) (ih f5 (w64 (bitShr .u64 (IntKind.u64.wrap (w64 (a + b2))) 1)) (w64 ((w64 ((w64 (bitShr .u64 (IntKind.u64.wrap (w64 (a + b2))) 1)) + m2)) - s11.1)) b2 n2 cs cmp h2) rfl rfl rfl rfl rfl rfl rfl (fun _ => rfl) (fun _ => rfl) (fun _ => rfl) (fun _ => .of rfl rfl) fun v6 hv6 => .nil (.leaf ⟨.inr rfl, ⟨[(1000000, 1000000)], _, _, rfl, rfl, rfl, rfl, rfl⟩⟩)))
     ·exact TieS.skip (.leaf ⟨.inr rfl, ⟨[(1000000, 1000000)], _, _, rfl, rfl, rfl, rfl, rfl⟩⟩)
    ·exact hq.elim
set_option maxRecDepth 100000 in
set_option maxHeartbeats 4000000 in
theorem q166 (data : List Sscheduler_planned) (n2 : Int) (n3 : Nat) (cs : List (List Tree)) (cmp : Sscheduler_planned → Sscheduler_planned → Option Int) (h2 : ∀ x0 x1, TieF Tryz.prog n3 ([q20 x0, q20 x1] ++ cs.map T.el) (cmp x0 x1) (fun r => .t (tI r))) : TieG Tryz.prog 139 [.own 1000000, .t (tI n2), .fz n3 cs] [(1000000, .rs 134 5 data q12)] (q53 data n2 cmp) (fun _ => .tup []) (fun r => [(1000000, .rs 134 5 r q12)]) := by
 refine TieG.intro htab 63 [] Tryz.call139 Tryz.func139 rfl rfl rfl (Nat.le_of_ble_eq_true rfl) fun w0 L => ?_
 refine TieS.seq (.region (.run 1 rfl (.nil (.seq ?_))))
 refine TieS.region (.run 3 rfl (.nil (.seq (.block ?_))))
 refine TieS.loop (fun t => ⟨[(0, .own 1000000), (1, .t (tI n2)), (2, .fz n3 cs), (6, .t (tI 20)), (7, .t (tI t.1)), (8, .t (tI t.2.1))], [(1000000, .rs 134 5 t.2.2 q12)]⟩) (fun b e σ' => match b with | .inl t => e = .exit 0 ∧ Sub ⟨[(0, .own 1000000), (1, .t (tI n2)), (2, .fz n3 cs), (6, .t (tI 20)), (7, .t (tI t.1))], [(1000000, .rs 134 5 t.2.2 q12)]⟩ σ' | .inr t => False) (.of rfl rfl) ?_ ?_
 ·intro s
  refine TieS.seq (.seq (.region (.run 3 rfl (.nil ?_))))
  refine TieS.cond rfl ?_ ?_
  ·refine TieS.skip (.block (.seq (.region (.run 4 rfl ?_))))
   refine TieO.callG [(1000000, 1000000)] [] (fun v => ⟨[(0, .own 1000000), (1, .t (tI n2)), (2, .fz n3 cs), (6, .t (tI 20)), (7, .t (tI s.1)), (8, .t (tI s.2.1)), (11, .t (tI s.2.1)), (12, .t (tI n2)), (13, .t (tB (decide (s.2.1 ≤ n2)))), (14, .own 1000000), (15, .t (tI s.1)), (16, .t (tI s.2.1)), (17, .fz n3 cs), (18, .tup [])], [(1000000, .rs 134 5 v q12)]⟩) (q56 s.2.2 s.1 s.2.1 n3 cs cmp h2) rfl rfl rfl rfl rfl rfl rfl (fun _ => rfl) (fun _ => rfl) (fun _ => rfl) (fun _ => .of rfl rfl) fun v hv => .nil (.seq (.region (.run 2 rfl ?_)))
   refine TieO.nil (.region (.run 4 rfl (.nil (.endb ?_))))
   exact TieS.leaf ⟨rfl, .of rfl rfl⟩
  ·exact TieS.exitOut rfl ⟨(fun h => by cases h), rfl, .of rfl rfl⟩
 rintro (s2 | r) e σ' _ hq
 ·obtain ⟨rfl, hs⟩ := hq
  refine TieX.exit rfl (TieX.sub hs ?_)
  refine TieS.seq (.region (.run 4 rfl (.callG [(1000000, 1000000)] [] (fun v2 => ⟨[(0, .own 1000000), (1, .t (tI n2)), (2, .fz n3 cs), (6, .t (tI 20)), (7, .t (tI s2.1)), (23, .own 1000000), (24, .t (tI s2.1)), (25, .t (tI n2)), (26, .fz n3 cs), (27, .tup [])], [(1000000, .rs 134 5 v2 q12)]⟩) (q56 s2.2.2 s2.1 n2 n3 cs cmp h2) rfl rfl rfl rfl rfl rfl rfl (fun _ => rfl) (fun _ => rfl) (fun _ => rfl) (fun _ => .of rfl rfl) fun v2 hv2 => .nil ?_)))
  refine TieS.block (.loop (fun t => ⟨[(0, .own 1000000), (1, .t (tI n2)), (2, .fz n3 cs), (6, .t (tI t.1))], [(1000000, .rs 134 5 t.2 q12)]⟩) (fun b e σ' => match b with | .inl t => e = .exit 2 ∧ Sub ⟨[], [(1000000, .rs 134 5 t.2 q12)]⟩ σ' | .inr t => False) (.of rfl rfl) ?_ ?_)
  ·intro s3
   refine TieS.seq (.seq (.region (.run 3 rfl (.nil ?_))))
   refine TieS.cond rfl ?_ ?_
   ·refine TieS.skip (.block (.seq (.region (.run 4 rfl ?_))))
    refine TieO.nil (.seq (.block (.loop (fun t => ⟨[(0, .own 1000000), (1, .t (tI n2)), (2, .fz n3 cs), (6, .t (tI s3.1)), (7, .t (tI t.1)), (8, .t (tI t.2.1))], [(1000000, .rs 134 5 t.2.2 q12)]⟩) (fun b e σ' => match b with | .inl t => e = .exit 4 ∧ Sub ⟨[(0, .own 1000000), (1, .t (tI n2)), (2, .fz n3 cs), (6, .t (tI s3.1)), (7, .t (tI t.1))], [(1000000, .rs 134 5 t.2.2 q12)]⟩ σ' | .inr t => False) (.of rfl rfl) ?_ ?_)))
    ·intro s4
     refine TieS.seq (.seq (.region (.run 3 rfl (.nil ?_))))
     refine TieS.cond rfl ?_ ?_
     ·refine TieS.skip (.block (.seq (.region (.run 7 rfl ?_))))
      refine TieO.callG [(1000000, 1000000)] [] (fun v3 => ⟨[(0, .own 1000000), (1, .t (tI n2)), (2, .fz n3 cs), (6, .t (tI s3.1)), (7, .t (tI s4.1)), (8, .t (tI s4.2.1)), (33, .t (tI s4.2.1)), (34, .t (tI n2)), (35, .t (tB (decide (s4.2.1 ≤ n2)))), (36, .own 1000000), (37, .t (tI s4.1)), (38, .t (tI s4.1)), (39, .t (tI s3.1)), (40, .t (tI (w64 (s4.1 + s3.1)))), (41, .t (tI s4.2.1)), (42, .fz n3 cs), (43, .tup [])], [(1000000, .rs 134 5 v3 q12)]⟩) (q71 64 s4.2.2 s4.1 (w64 (s4.1 + s3.1)) s4.2.1 n3 cs cmp h2) rfl rfl rfl rfl rfl rfl rfl (fun _ => rfl) (fun _ => rfl) (fun _ => rfl) (fun _ => .of rfl rfl) fun v3 hv3 => .nil (.seq (.region (.run 2 rfl ?_)))
      refine TieO.nil (.region (.run 5 rfl (.nil (.endb ?_))))
      exact TieS.leaf ⟨rfl, .of rfl rfl⟩
     ·exact TieS.exitOut rfl ⟨(fun h => by cases h), rfl, .of rfl rfl⟩
    rintro (s5 | r) e σ' _ hq
    ·obtain ⟨rfl, hs⟩ := hq
     refine TieX.exit rfl (TieX.sub hs ?_)
     refine TieS.seq (.seq (.region (.run 4 rfl (.nil ?_))))
     refine TieS.seq (.region (.run 3 rfl (.nil (.cond rfl ?_ ?_))))
     ·refine TieS.region (.run 5 rfl (.callG [(1000000, 1000000)] [] (fun v4 => ⟨[(0, .own 1000000), (1, .t (tI n2)), (2, .fz n3 cs), (6, .t (tI s3.1)), (7, .t (tI s5.1)), (9, .t (tI (w64 (s5.1 + s3.1)))), (49, .t (tI s5.1)), (50, .t (tI s3.1)), (51, .t (tI (w64 (s5.1 + s3.1)))), (52, .t (tI (w64 (s5.1 + s3.1)))), (53, .t (tI n2)), (54, .t (tB (decide ((w64 (s5.1 + s3.1)) < n2)))), (55, .own 1000000), (56, .t (tI s5.1)), (57, .t (tI (w64 (s5.1 + s3.1)))), (58, .t (tI n2)), (59, .fz n3 cs), (60, .tup [])], [(1000000, .rs 134 5 v4 q12)]⟩) (q71 64 s5.2.2 s5.1 (w64 (s5.1 + s3.1)) n2 n3 cs cmp h2) rfl rfl rfl rfl rfl rfl rfl (fun _ => rfl) (fun _ => rfl) (fun _ => rfl) (fun _ => .of rfl rfl) fun v4 hv4 => .nil (.region ?_)))
      exact TieO.run 3 rfl (.nil (.endb (.leaf ⟨rfl, .of rfl rfl⟩)))
     ·refine TieS.skip (.region (.run 3 rfl (.nil (.endb ?_))))
      exact TieS.leaf ⟨rfl, .of rfl rfl⟩
    ·exact hq.elim
   ·exact TieS.exitOut rfl ⟨(fun h => by cases h), rfl, .of rfl rfl⟩
  rintro (s6 | r) e σ' _ hq
  ·obtain ⟨rfl, hs⟩ := hq
   refine TieX.exit rfl (TieX.sub hs ?_)
   exact TieS.leaf ⟨.inr rfl, ⟨[(1000000, 1000000)], _, _, rfl, rfl, rfl, rfl, rfl⟩⟩
  ·exact hq.elim
 ·exact hq.elim
set_option maxRecDepth 100000 in
theorem q153 (x : List Sscheduler_planned) (n2 : Nat) (cs : List (List Tree)) (cmp : Sscheduler_planned → Sscheduler_planned → Option Int) (h2 : ∀ x0 x1, TieF Tryz.prog n2 ([q20 x0, q20 x1] ++ cs.map T.el) (cmp x0 x1) (fun r => .t (tI r))) : TieG Tryz.prog 122 [.own 1000000, .fz n2 cs] [(1000000, .rs 134 5 x q12)] (q26 x cmp) (fun _ => .tup []) (fun r => [(1000000, .rs 134 5 r q12)]) := by
 refine TieG.intro htab 9 [] Tryz.call122 Tryz.func122 rfl rfl rfl (Nat.le_of_ble_eq_true rfl) fun w0 L => ?_
 exact TieS.region (.run 4 rfl (.callG [(1000000, 1000000)] [] (fun v => ⟨[(0, .own 1000000), (1, .fz n2 cs), (4, .own 1000000), (5, .own 1000000), (6, .t (tI (x.length : Int))), (7, .fz n2 cs), (8, .tup [])], [(1000000, .rs 134 5 v q12)]⟩) (q166 x (x.length : Int) n2 cs cmp h2) rfl rfl rfl rfl rfl rfl rfl (fun _ => rfl) (fun _ => rfl) (fun _ => rfl) (fun _ => .of rfl rfl) fun v hv => .nil (.leaf ⟨.inr rfl, ⟨[(1000000, 1000000)], _, _, rfl, rfl, rfl, rfl, rfl⟩⟩)))
set_option maxRecDepth 100000 in
theorem q320 (a : Sscheduler_planned) (b2 : Sscheduler_planned) : TieF Tryz.prog 123 [q20 a, q20 b2] (q101 a b2) (fun r => .t (tI r)) := by
 refine TieF.intro htab 19 [.tmp 4] Tryz.call123 Tryz.func123 rfl rfl rfl (Nat.le_of_ble_eq_true rfl) fun w0 L => ?_
 refine TieS.seq (.region (.run 3 rfl (.nil (.seq ?_))))
 refine TieX.pre fun v hv => TieX.pre fun v2 hv2 => TieX.pre fun v3 hv3 => TieX.pre fun v4 hv4 => TieS.draw 12 [_, _, _, _, _, _, _, _, _, _, _, _] [(2, .ptr 2 0), (3, .ptr 3 0), (4, .t (tI 0))] [(2, .box [.t (tI a.x.Angle), .t (tI a.x.Kind), .t (tI a.x.Cylinder), .t (tI a.x.Pulse), .t (tI a.f_at)]), (3, .box [.t (tI b2.x.Angle), .t (tI b2.x.Kind), .t (tI b2.x.Cylinder), .t (tI b2.x.Pulse), .t (tI b2.f_at)])] mixed (.of rfl rfl) rfl rfl rfl rfl (.cons (.quiet rfl rfl rfl) (.cons (.quiet rfl rfl rfl) (.cons (.quiet rfl rfl rfl) (.cons (.quiet rfl rfl rfl) (.cons (.callV (q38 a.f_at b2.f_at) hv rfl rfl rfl rfl) (.cons (.quiet rfl rfl rfl) (.cons (.quiet rfl rfl rfl) (.cons (.callV (q44 a.x) hv2 rfl rfl rfl rfl) (.cons (.quiet rfl rfl rfl) (.cons (.quiet rfl rfl rfl) (.cons (.callV (q44 b2.x) hv3 rfl rfl rfl rfl) (.cons (.callV (q38 v2 v3) hv4 rfl rfl rfl rfl) (.nil))))))))))))) ?_
 exact TieO.run 1 rfl (.callS _ rfl rfl rfl (q259 ([v, v4] : List Int)) (fun _ => rfl) (fun _ => rfl) fun v5 => .run 1 rfl (.nil (.ret ⟨.inl rfl, rfl⟩)))
abbrev x93_0 (x3 : Sscheduler_planned) : List T := [.t (tI x3.x.Angle), .t (tI x3.x.Kind), .t (tI x3.x.Cylinder), .t (tI x3.x.Pulse), .t (tI x3.f_at)]
abbrev x93_1 (x : SEvent) : List T := [.t (tI x.Angle), .t (tI x.Kind), .t (tI x.Cylinder), .t (tI x.Pulse)]
set_option maxRecDepth 100000 in
set_option maxHeartbeats 4000000 in
theorem q358 (e2 : SEngine) (f2 : SFire) (begin : Int) (ticks : Int) : TieF Tryz.prog 93 [q52 e2, A_SFire f2, .t (tI begin), .t (tI ticks)] (q207 e2 f2 begin ticks) (fun r => .tup [.t (tS q12 r.1), .t (tB r.2)]) := by
 refine TieF.intro htab 111 [.tmp 8, .tmp 9] Tryz.call93 Tryz.func93 rfl rfl rfl (Nat.le_of_ble_eq_true rfl) fun w0 L => ?_
 refine TieS.seq (.region (.run 4 rfl (.nil (.seq ?_))))
 refine TieS.region (.run 4 rfl (.frz 25 rfl (.call _ rfl rfl rfl (q398 e2 ([f2] : List SFire) ticks) (fun _ => rfl) fun r2 => .run 5 rfl ?_)))
 refine TieO.nil (.seq (.seq (.region (.run 2 rfl ?_))))
 refine TieO.nil (.cond rfl ?_ ?_)
 ·exact TieS.seq (.region (.run 2 rfl (.nil (.ret ⟨.inl rfl, rfl⟩))))
 ·refine TieS.skip (.seq (.region (.run 1 rfl (.nil ?_))))
  refine TieS.seq (.seq (.region (.run 3 rfl (.nil ?_))))
  refine TieS.block (TieX.nilP 12 2368 134 5 [] rfl rfl rfl rfl rfl (TieS.loop (fun p => ⟨[(2, .t (tI begin)), (12, .own 2368), (32, .t (tS q16 r2.1)), (33, .t (tI (r2.1.length : Int))), (34, .t (tI p.1))], [(2368, .rs 134 5 p.2 q12)]⟩) (fun b e σ' => match b with | .inl t => e = .exit 0 ∧ Sub ⟨[(12, .own 2368)], [(2368, .rs 134 5 t q12)]⟩ σ' | .inr t => False) (.of rfl rfl) ?_ ?_))
  ·rintro ⟨i, out⟩
   refine TieS.seq (.region (.run 1 rfl (.nil (.seq ?_))))
   refine TieS.cond rfl ?_ ?_
   ·refine TieS.skip (.seq (TieX.pre fun x hx => TieX.sub (σ' := ⟨[(2, .t (tI begin)), (12, .own 2368), (32, .t (tS q16 r2.1)), (33, .t (tI (r2.1.length : Int))), (34, .t (tI i))], [(2368, .rs 134 5 out q12)]⟩) (.of rfl rfl) (TieS.bind (Q₁ := fun f e σ' => match f with | .next t => e = .normal ∧ Sub ⟨[(2, .t (tI begin)), (12, .own 2368), (32, .t (tS q16 r2.1)), (33, .t (tI (r2.1.length : Int))), (34, .t (tI i))], [(2368, .rs 134 5 t q12)]⟩ σ' | .brk t => e = .exit 0 ∧ Sub ⟨[(12, .own 2368)], [(2368, .rs 134 5 t q12)]⟩ σ' | .ret r => False) ?_ ?_)))
    ·refine TieS.block (.seq (.region (.indexH hx rfl rfl rfl rfl rfl rfl rfl rfl (fun _ => rfl) (.run 3 rfl ?_))))
     refine TieO.nil (.bind (Q₁ := fun t e σ' => e = .normal ∧ Sub ⟨[(2, .t (tI begin)), (12, .own 2368), (32, .t (tS q16 r2.1)), (33, .t (tI (r2.1.length : Int))), (34, .t (tI i))], [(2368, .rs 134 5 t q12)]⟩ σ') ?_ ?_)
     ·refine TieX.pre fun v hv => TieS.draws 8 (bm 10 0) (bm 10 255) ⟨[(2, .t (tI begin)), (12, .own 2368), (32, .t (tS q16 r2.1)), (33, .t (tI (r2.1.length : Int))), (34, .t (tI i)), (38, .own 2368), (45, .own 45)], [(14, .box (x93_1 x)), (45, .rs 134 5 ([(⟨x, v⟩ : Sscheduler_planned)] : List Sscheduler_planned) q12), (2368, .rs 134 5 out q12)]⟩ mixed (fun _ _ _ h => by cases h.1) rfl rfl rfl rfl ?_ ?_
      ·refine TieA.have_ (fuel₁ := 4) (l₁ := (bm 10 63)) (σ₁ := ⟨[(2, .t (tI begin)), (12, .own 2368), (32, .t (tS q16 r2.1)), (33, .t (tI (r2.1.length : Int))), (34, .t (tI i)), (38, .own 2368), (39, .agg [.t (tI x.Angle), .t (tI x.Kind), .t (tI x.Cylinder), .t (tI x.Pulse)]), (43, .t (tI v))], [(14, .box (x93_1 x)), (2368, .rs 134 5 out q12)]⟩) ?_ fun A_1 => ?_
       ·refine TieA.all [6] (by kernel_rfl) rfl (AllA.run _ rfl rfl rfl ?_ ?_)
        ·refine TieA.all [7] (by kernel_rfl) rfl (AllA.run _ rfl rfl rfl ?_ ?_)
         ·exact TieA.done (.of rfl rfl)
         exact AllA.nil
        exact AllA.nil
       refine TieA.have_ (fuel₁ := 5) (l₁ := (bm 10 31)) (σ₁ := ⟨[(2, .t (tI begin)), (12, .own 2368), (32, .t (tS q16 r2.1)), (33, .t (tI (r2.1.length : Int))), (34, .t (tI i)), (38, .own 2368), (39, .agg [.t (tI x.Angle), .t (tI x.Kind), .t (tI x.Cylinder), .t (tI x.Pulse)]), (40, .t (tI begin)), (42, .t (tI x.Angle))], [(14, .box (x93_1 x)), (2368, .rs 134 5 out q12)]⟩) ?_ fun A_0 => ?_
       ·refine TieA.all [5] (by kernel_rfl) rfl (AllA.cons _ rfl rfl ?_ A_1 ?_)
        ·refine TieO.withH hv (TieO.call _ rfl rfl rfl (q137 begin x.Angle) (fun _ => rfl) (TieO.ifH ?_))
         exact TieO.nil (TieS.leaf ⟨rfl, .of rfl rfl⟩)
        exact AllA.nil
       refine TieA.mv 0 rfl (.inl rfl) rfl (by kernel_rfl) rfl (.mv 2 rfl (.inl rfl) rfl (by kernel_rfl) rfl (.fP 3 rfl rfl rfl (by kernel_rfl) rfl rfl rfl (.all [1, 4] (by kernel_rfl) rfl (AllA.run _ rfl rfl rfl ?_ ?_))))
       ·exact TieA.all [4] (by kernel_rfl) rfl (AllA.runTo _ rfl rfl rfl (.of rfl rfl) A_0 (AllA.nil))
       refine AllA.run _ rfl rfl rfl ?_ ?_
       ·refine TieA.all [1, 5] (by kernel_rfl) rfl (AllA.runTo _ rfl rfl rfl (.of rfl rfl) A_0 (AllA.cons (σ₁ := ⟨[(2, .t (tI begin)), (12, .own 2368), (14, .ptr 14 0), (32, .t (tS q16 r2.1)), (33, .t (tI (r2.1.length : Int))), (34, .t (tI i)), (38, .own 2368), (43, .t (tI v))], [(14, .box (x93_1 x)), (2368, .rs 134 5 out q12)]⟩) _ rfl rfl ?_ ?_ ?_))
        ·refine TieO.withH hv (TieO.call _ rfl rfl rfl (q137 begin x.Angle) (fun _ => rfl) (TieO.ifH ?_))
         exact TieO.nil (TieS.leaf ⟨rfl, .of rfl rfl⟩)
        ·exact TieA.all [1] (by kernel_rfl) rfl (AllA.runTo _ rfl rfl rfl (.of rfl rfl) A_1 (AllA.nil))
        exact AllA.nil
       exact AllA.nil
      exact TieO.appendY (id := 2368) (l := out) (r := ([(⟨x, v⟩ : Sscheduler_planned)] : List Sscheduler_planned)) (tm' := [(2, .t (tI begin)), (32, .t (tS q16 r2.1)), (33, .t (tI (r2.1.length : Int))), (34, .t (tI i)), (45, .own 45)]) (hp' := [(14, .box (x93_1 x)), (45, .rs 134 5 ([(⟨x, v⟩ : Sscheduler_planned)] : List Sscheduler_planned) q12)]) rfl rfl rfl rfl rfl rfl rfl (fun _ => rfl) (fun _ => rfl) (.inl ⟨rfl, rfl⟩) (.inr ⟨_, rfl, rfl⟩) (.of rfl rfl) rfl rfl rfl fun l => .run 1 rfl (.nil (.leaf ⟨rfl, .of rfl rfl⟩))
     rintro f3 e σ' _ ⟨rfl, hs⟩
     exact TieX.sub hs (TieS.endb (.leaf ⟨rfl, .of rfl rfl⟩))
    rintro (t | t | r) e σ' _ hq
    ·obtain ⟨rfl, hs⟩ := hq
     exact TieX.sub hs (TieS.region (.run 2 rfl (.nil (.leaf ⟨rfl, .of rfl rfl⟩))))
    ·obtain ⟨rfl, hs⟩ := hq
     exact TieX.exitOut rfl ⟨(fun h => by cases h), rfl, hs⟩
    ·exact hq.elim
   ·exact TieS.exitOut rfl ⟨(fun h => by cases h), rfl, .of rfl rfl⟩
  rintro (out2 | r) e σ' _ hq
  ·obtain ⟨rfl, hs⟩ := hq
   refine TieX.exit rfl (TieX.sub hs ?_)
   refine TieS.seq (.region (.run 1 rfl (.callG [(1000000, 2368)] [] (fun v2 => ⟨[(12, .own 2368), (48, .own 2368), (49, .tup [])], [(2368, .rs 134 5 v2 q12)]⟩) (q153 out2 123 [] q101 q320) rfl rfl rfl rfl rfl rfl rfl (fun _ => rfl) (fun _ => rfl) (fun _ => rfl) (fun _ => .of rfl rfl) fun v2 hv2 => .nil ?_)))
   refine TieS.seq (.seq (.region (.run 4 rfl (.nil ?_))))
   refine TieS.block (.loop (fun t => ⟨[(12, .own 2368), (52, .agg [.t (tI 1), .t (tI 2), .t (tI 3), .t (tI 4)]), (53, .t (tI t))], [(2368, .rs 134 5 v2 q12)]⟩) (fun b e σ' => match b with | .inl t => e = .exit 2 ∧ Sub ⟨[(12, .own 2368)], [(2368, .rs 134 5 v2 q12)]⟩ σ' | .inr t => e = .ret ∧ retT tab σ' [.tmp 8, .tmp 9] = some (((fun r => .tup [.t (tS q12 r.1), .t (tB r.2)]) : (List Sscheduler_planned × Bool) → T) t)) (.of rfl rfl) ?_ ?_)
   ·intro v3
    refine TieS.seq (.region (.run 1 rfl (.nil (.seq ?_))))
    refine TieS.cond rfl ?_ ?_
    ·refine TieS.skip (.seq (.block (.seq (.region ?_))))
     refine TieO.indexA ([(1, 2), (3, 4)] : List (Int × Int)) (fun y => .agg [.t (tI y.1), .t (tI y.2)]) (by intro j y h; match j, h with | 0, h => (cases h; rfl) | 1, h => (cases h; rfl) | _ + 2, h => (cases h)) rfl rfl rfl rfl rfl rfl rfl rfl rfl fun x2 hx2 => .run 2 rfl (.nil (.seq (.draw 5 [_, _, _, _, _] [(12, .own 2368), (16, .ptr 16 0), (52, .agg [.t (tI 1), .t (tI 2), .t (tI 3), .t (tI 4)]), (53, .t (tI v3))] [(16, .box [.t (tI x2.1), .t (tI x2.2)]), (2368, .rs 134 5 v2 q12)] mixed (.of rfl rfl) rfl rfl rfl rfl (.cons (.quiet rfl rfl rfl) (.cons (.quiet rfl rfl rfl) (.cons (.quiet rfl rfl rfl) (.cons (.quiet rfl rfl rfl) (.cons (.quiet rfl rfl rfl) (.nil)))))) ?_)))
     refine TieO.nil (.seq (.region (.run 3 rfl (.nil ?_))))
     refine TieS.block (.loop (fun p => ⟨[(12, .own 2368), (16, .ptr 16 0), (17, .t (tI p.2.1)), (18, .t (tI p.2.2.1)), (19, .t (tI p.2.2.2)), (52, .agg [.t (tI 1), .t (tI 2), .t (tI 3), .t (tI 4)]), (53, .t (tI v3)), (58, .own 2368), (59, .t (tI (v2.length : Int))), (60, .t (tI p.1))], [(16, .box [.t (tI x2.1), .t (tI x2.2)]), (2368, .rs 134 5 v2 q12)]⟩) (fun b e σ' => match b with | .inl t => e = .exit 4 ∧ Sub ⟨[(12, .own 2368), (52, .agg [.t (tI 1), .t (tI 2), .t (tI 3), .t (tI 4)]), (53, .t (tI v3))], [(2368, .rs 134 5 v2 q12)]⟩ σ' | .inr t => e = .ret ∧ retT tab σ' [.tmp 8, .tmp 9] = some (((fun r => .tup [.t (tS q12 r.1), .t (tB r.2)]) : (List Sscheduler_planned × Bool) → T) t)) (.of rfl rfl) ?_ ?_)
     ·rintro ⟨i2, s⟩
      refine TieS.seq (.region (.run 1 rfl (.nil (.seq ?_))))
      refine TieS.cond rfl ?_ ?_
      ·refine TieS.skip (.seq (TieX.pre fun x3 hx3 => TieX.sub (σ' := ⟨[(12, .own 2368), (16, .ptr 16 0), (17, .t (tI s.1)), (18, .t (tI s.2.1)), (19, .t (tI s.2.2)), (52, .agg [.t (tI 1), .t (tI 2), .t (tI 3), .t (tI 4)]), (53, .t (tI v3)), (58, .own 2368), (59, .t (tI (v2.length : Int))), (60, .t (tI i2))], [(16, .box [.t (tI x2.1), .t (tI x2.2)]), (2368, .rs 134 5 v2 q12)]⟩) (.of rfl rfl) (TieS.bind (Q₁ := fun f e σ' => match f with | .next t => e = .normal ∧ Sub ⟨[(12, .own 2368), (16, .ptr 16 0), (17, .t (tI t.1)), (18, .t (tI t.2.1)), (19, .t (tI t.2.2)), (52, .agg [.t (tI 1), .t (tI 2), .t (tI 3), .t (tI 4)]), (53, .t (tI v3)), (58, .own 2368), (59, .t (tI (v2.length : Int))), (60, .t (tI i2))], [(16, .box [.t (tI x2.1), .t (tI x2.2)]), (2368, .rs 134 5 v2 q12)]⟩ σ' | .brk t => e = .exit 4 ∧ Sub ⟨[(12, .own 2368), (52, .agg [.t (tI 1), .t (tI 2), .t (tI 3), .t (tI 4)]), (53, .t (tI v3))], [(2368, .rs 134 5 v2 q12)]⟩ σ' | .ret t => e = .ret ∧ retT tab σ' [.tmp 8, .tmp 9] = some (((fun r => .tup [.t (tS q12 r.1), .t (tB r.2)]) : (List Sscheduler_planned × Bool) → T) t)) ?_ ?_)))
       ·refine TieS.block (.seq (.region (.indexOH hx3 rfl rfl rfl rfl rfl rfl rfl rfl rfl rfl (.loadY hx3 rfl rfl rfl rfl rfl rfl rfl rfl ?_))))
        refine TieO.run 2 rfl (.nil (.seq (.seq (.region ?_))))
        refine TieO.run 7 rfl (.selAnd (v := (x3.x.Kind != x2.2)) 7 70 (fun b => ⟨[(12, .own 2368), (16, .ptr 16 0), (17, .t (tI s.1)), (18, .t (tI s.2.1)), (19, .t (tI s.2.2)), (21, .ptr 21 0), (52, .agg [.t (tI 1), .t (tI 2), .t (tI 3), .t (tI 4)]), (53, .t (tI v3)), (58, .own 2368), (59, .t (tI (v2.length : Int))), (60, .t (tI i2)), (77, .t (tB b))], [(16, .box [.t (tI x2.1), .t (tI x2.2)]), (21, .box (x93_0 x3)), (2368, .rs 134 5 v2 q12)]⟩) rfl ?_ ?_ ?_)
        ·exact TieO.run 7 rfl (.nil (.leaf ⟨rfl, .of rfl rfl⟩))
        ·exact TieO.run 7 rfl (.nil (.leaf ⟨rfl, .of rfl rfl⟩))
        refine TieO.nil (.cond rfl ?_ ?_)
        ·exact TieS.exit rfl (.leaf ⟨rfl, .of rfl rfl⟩)
        ·refine TieS.skip (.seq (.seq (.region (.run 6 rfl ?_))))
         refine TieO.selOr (v := decide (x3.f_at ≤ s.1)) 5 83 (fun b => ⟨[(12, .own 2368), (16, .ptr 16 0), (18, .t (tI s.2.1)), (19, .t (tI s.2.2)), (21, .ptr 21 0), (52, .agg [.t (tI 1), .t (tI 2), .t (tI 3), .t (tI 4)]), (53, .t (tI v3)), (58, .own 2368), (59, .t (tI (v2.length : Int))), (60, .t (tI i2)), (88, .t (tB b))], [(16, .box [.t (tI x2.1), .t (tI x2.2)]), (21, .box (x93_0 x3)), (2368, .rs 134 5 v2 q12)]⟩) rfl ?_ ?_ ?_
         ·exact TieO.run 5 rfl (.nil (.leaf ⟨rfl, .of rfl rfl⟩))
         ·exact TieO.run 5 rfl (.nil (.leaf ⟨rfl, .of rfl rfl⟩))
         refine TieO.run 1 rfl (.selOr (v := decide (x3.x.Pulse < s.2.1)) 6 89 (fun b => ⟨[(12, .own 2368), (16, .ptr 16 0), (19, .t (tI s.2.2)), (21, .ptr 21 0), (52, .agg [.t (tI 1), .t (tI 2), .t (tI 3), .t (tI 4)]), (53, .t (tI v3)), (58, .own 2368), (59, .t (tI (v2.length : Int))), (60, .t (tI i2)), (95, .t (tB b))], [(16, .box [.t (tI x2.1), .t (tI x2.2)]), (21, .box (x93_0 x3)), (2368, .rs 134 5 v2 q12)]⟩) rfl ?_ ?_ ?_)
         ·exact TieO.run 6 rfl (.nil (.leaf ⟨rfl, .of rfl rfl⟩))
         ·exact TieO.run 6 rfl (.nil (.leaf ⟨rfl, .of rfl rfl⟩))
         refine TieO.nil (.cond rfl ?_ ?_)
         ·exact TieS.seq (.region (.run 2 rfl (.nil (.ret ⟨rfl, rfl⟩))))
         ·refine TieS.skip (.seq (.draw 7 [_, _, _, _, _, _, _] [(12, .own 2368), (16, .ptr 16 0), (19, .t (tI s.2.2)), (21, .ptr 21 0), (52, .agg [.t (tI 1), .t (tI 2), .t (tI 3), .t (tI 4)]), (53, .t (tI v3)), (58, .own 2368), (59, .t (tI (v2.length : Int))), (60, .t (tI i2))] [(16, .box [.t (tI x2.1), .t (tI x2.2)]), (21, .box (x93_0 x3)), (2368, .rs 134 5 v2 q12)] mixed (.of rfl rfl) rfl rfl rfl rfl (.cons (.quiet rfl rfl rfl) (.cons (.quiet rfl rfl rfl) (.cons (.quiet rfl rfl rfl) (.cons (.quiet rfl rfl rfl) (.cons (.quiet rfl rfl rfl) (.cons (.quiet rfl rfl rfl) (.cons (.quiet rfl rfl rfl) (.nil)))))))) (.nil (.region ?_))))
          exact TieO.run 8 rfl (.nil (.endb (.leaf ⟨rfl, .of rfl rfl⟩)))
       rintro (t | t | t) e σ' _ hq
       ·obtain ⟨rfl, hs⟩ := hq
        exact TieX.sub hs (TieS.region (.run 2 rfl (.nil (.leaf ⟨rfl, .of rfl rfl⟩))))
       ·obtain ⟨rfl, hs⟩ := hq
        exact TieX.exitOut rfl ⟨(fun h => by cases h), rfl, hs⟩
       ·obtain ⟨rfl, hs⟩ := hq
        exact TieX.ret ⟨(fun h => by cases h), rfl, hs⟩
      ·exact TieS.exitOut rfl ⟨(fun h => by cases h), rfl, .of rfl rfl⟩
     rintro (s2 | r3) e σ' _ hq
     ·obtain ⟨rfl, hs⟩ := hq
      refine TieX.exit rfl (TieX.sub hs ?_)
      exact TieS.endb (.region (.run 2 rfl (.nil (.leaf ⟨rfl, .of rfl rfl⟩))))
     ·obtain ⟨rfl, hs⟩ := hq
      exact TieX.ret ⟨(fun h => by cases h), rfl, hs⟩
    ·exact TieS.exitOut rfl ⟨(fun h => by cases h), rfl, .of rfl rfl⟩
   rintro (v4 | r4) e σ' _ hq
   ·obtain ⟨rfl, hs⟩ := hq
    refine TieX.exit rfl (TieX.sub hs ?_)
    exact TieS.seq (.region (.run 3 rfl (.nil (.ret ⟨.inl rfl, rfl⟩))))
   ·obtain ⟨rfl, hs⟩ := hq
    exact TieX.ret ⟨.inl rfl, hs⟩
  ·exact hq.elim
abbrev x43_0 (x3 : Sscheduler_planned) : List T := [.t (tI x3.x.Angle), .t (tI x3.x.Kind), .t (tI x3.x.Cylinder), .t (tI x3.x.Pulse), .t (tI x3.f_at)]
set_option maxRecDepth 100000 in
set_option maxHeartbeats 4000000 in
theorem q346 (s : SScheduler) : TieG Tryz.prog 43 [.ptr 1000000 0] [(1000000, .box (lset (q10 s) [(11, .own 1000001)])), (1000001, .rs 85 7 s.Jobs q13)] (q147 s) (fun _ => .tup []) (fun r => [(900000, .rs 85 7 r.Jobs q13), (1000000, .box (lset (q10 r) [(11, .own 900000)]))]) := by
 refine TieG.intro htab 112 [] Tryz.call43 Tryz.func43 rfl rfl rfl (Nat.le_of_ble_eq_true rfl) fun w0 L => ?_
 refine TieS.seq (.region (.run 4 rfl (.call _ rfl rfl rfl (q412 s.Clock 23040) (fun _ => rfl) fun r2 => .run 5 rfl ?_)))
 refine TieO.nil (.seq (.region (.run 7 rfl (.nil ?_))))
 refine TieS.block (TieX.sub (σ' := ⟨[(0, .ptr 1000000 0), (2, .t (tI r2.1)), (27, .t (tS Pv.encI s.Engine.Order)), (28, .t (tI (s.Engine.Order.length : Int))), (29, .t (tI 0))], [(1000000, .box (lset (q10 s) [(11, .own 1000001)])), (1000001, .rs 85 7 s.Jobs q13)]⟩) (.of rfl rfl) (TieX.ren [(1000000, 1000000), (1000001, 2856)] rfl rfl rfl (TieS.loop (fun p => ⟨[(0, .ptr 1000000 0), (2, .t (tI r2.1)), (27, .t (tS Pv.encI s.Engine.Order)), (28, .t (tI (s.Engine.Order.length : Int))), (29, .t (tI p.1))], [(2856, .rs 85 7 p.2 q13), (1000000, .box (lset (q10 s) [(11, .own 2856)]))]⟩) (fun b e σ' => match b with | .inl t => e = .exit 0 ∧ Sub ⟨[], [(2856, .rs 85 7 t q13), (1000000, .box (lset (q10 s) [(11, .own 2856)]))]⟩ σ' | .inr t => False) (.of rfl rfl) ?_ ?_)))
 ·rintro ⟨i, f2⟩
  refine TieS.seq (.region (.run 1 rfl (.nil (.seq ?_))))
  refine TieS.cond rfl ?_ ?_
  ·refine TieS.skip (.seq (TieX.pre fun x hx => TieX.sub (σ' := ⟨[(0, .ptr 1000000 0), (2, .t (tI r2.1)), (27, .t (tS Pv.encI s.Engine.Order)), (28, .t (tI (s.Engine.Order.length : Int))), (29, .t (tI i))], [(2856, .rs 85 7 f2 q13), (1000000, .box (lset (q10 s) [(11, .own 2856)]))]⟩) (.of rfl rfl) (TieS.bind (Q₁ := fun f e σ' => match f with | .next t => e = .normal ∧ Sub ⟨[(0, .ptr 1000000 0), (2, .t (tI r2.1)), (27, .t (tS Pv.encI s.Engine.Order)), (28, .t (tI (s.Engine.Order.length : Int))), (29, .t (tI i))], [(2856, .rs 85 7 t q13), (1000000, .box (lset (q10 s) [(11, .own 2856)]))]⟩ σ' | .brk t => e = .exit 0 ∧ Sub ⟨[], [(2856, .rs 85 7 t q13), (1000000, .box (lset (q10 s) [(11, .own 2856)]))]⟩ σ' | .ret r => False) ?_ ?_)))
   ·refine TieS.block (.seq (.region (.indexH hx rfl rfl rfl rfl rfl rfl rfl rfl (fun _ => rfl) (.run 3 rfl ?_))))
    refine TieO.nil (.seq (TieX.pre fun r3 hr3 => TieS.draw 11 [_, _, _, _, _, _, _, _, _, _, _] [(0, .ptr 1000000 0), (2, .t (tI r2.1)), (5, .ptr 5 0), (27, .t (tS Pv.encI s.Engine.Order)), (28, .t (tI (s.Engine.Order.length : Int))), (29, .t (tI i))] [(5, .box [.t (tI x)]), (2856, .rs 85 7 f2 q13), (1000000, .box (lset (q10 s) [(11, .own 2856)]))] mixed (.of rfl rfl) rfl rfl rfl rfl (.cons (.quiet rfl rfl rfl) (.cons (.quiet rfl rfl rfl) (.cons (.quiet rfl rfl rfl) (.cons (.quiet rfl rfl rfl) (.cons (.quiet rfl rfl rfl) (.cons (.callV (q372 s.Engine x) hr3 rfl rfl rfl rfl) (.cons (.quiet rfl rfl rfl) (.cons (.quiet rfl rfl rfl) (.cons (.quiet rfl rfl rfl) (.cons (.quiet rfl rfl rfl) (.cons (.quiet rfl rfl rfl) (.nil)))))))))))) (.nil ?_)))
    refine TieS.seq (.region (.run 4 rfl (.nil (.seq ?_))))
    refine TieS.region (.run 6 rfl (.call _ rfl rfl rfl (q137 s.Clock.Angle (Int.tmod (w64 (r3.1 + 5760)) 46080)) (fun _ => rfl) fun v => .run 1 rfl (.nil ?_)))
    refine TieS.seq (.region (.run 4 rfl (.frzBox 5 rfl rfl (.run 1 rfl ?_))))
    refine TieO.sub (σ' := ⟨[(0, .ptr 1000000 0), (2, .t (tI r2.1)), (5, .el (Pv.encI x)), (6, .t (tI r3.1)), (7, .t (tI r3.2)), (8, .t (tI (Int.tmod (w64 (r3.1 + 5760)) 46080))), (9, .t (tI v)), (27, .t (tS Pv.encI s.Engine.Order)), (28, .t (tI (s.Engine.Order.length : Int))), (29, .t (tI i)), (33, .tup [.t (tI r3.1), .t (tI r3.2)]), (34, .ptr 1000000 0), (35, .ptr 1000000 0), (36, .ptr 1000000 0), (37, .agg [.t (tS Pv.encI s.Engine.Order), .t (tI s.Engine.First)]), (38, .t (tI x)), (39, .tup [.t (tI r3.1), .t (tI r3.2)]), (40, .t (tI r3.1)), (41, .t (tI r3.2)), (42, .t (tI r3.1)), (43, .t (tI (w64 (r3.1 + 5760)))), (44, .t (tI (Int.tmod (w64 (r3.1 + 5760)) 46080))), (45, .ptr 1000000 0), (46, .ptr 1000000 0), (47, .ptr 1000000 2), (48, .ptr 1000000 4), (49, .t (tI s.Clock.Angle)), (50, .t (tI (Int.tmod (w64 (r3.1 + 5760)) 46080))), (51, .t (tI v)), (52, .ptr 1000000 0), (53, .ptr 1000000 0), (54, .ptr 1000000 10), (55, .t (tS q14 s.Next)), (56, .fz 92 [Pv.encI x])], [(2856, .rs 85 7 f2 q13), (1000000, .box (lset (q10 s) [(11, .own 2856)]))]⟩) (.of rfl rfl) (.call _ rfl rfl rfl (q183 s.Next 92 [Pv.encI x] (fun x0 => q93 x0 x) (fun x0 => q309 x0 x)) (fun _ => rfl) fun v2 => .run 1 rfl (.nil (.seq ?_)))
    refine TieS.seq (.region (.run 8 rfl (.selOr (v := decide (v2 < 0)) 3 65 (fun b => ⟨[(0, .ptr 1000000 0), (2, .t (tI r2.1)), (8, .t (tI (Int.tmod (w64 (r3.1 + 5760)) 46080))), (9, .t (tI v)), (10, .t (tI v2)), (27, .t (tS Pv.encI s.Engine.Order)), (28, .t (tI (s.Engine.Order.length : Int))), (29, .t (tI i)), (68, .t (tB b))], [(2856, .rs 85 7 f2 q13), (1000000, .box (lset (q10 s) [(11, .own 2856)]))]⟩) rfl ?_ ?_ ?_)))
    ·exact TieO.run 3 rfl (.nil (.leaf ⟨rfl, .of rfl rfl⟩))
    ·exact TieO.run 3 rfl (.nil (.leaf ⟨rfl, .of rfl rfl⟩))
    refine TieO.nil (.cond rfl ?_ ?_)
    ·exact TieS.exit rfl (.leaf ⟨rfl, .of rfl rfl⟩)
    ·refine TieS.skip (.seq (TieX.pre fun x2 hx2 => TieX.pre fun r4 hr4 => TieS.draw 19 [_, _, _, _, _, _, _, _, _, _, _, _, _, _, _, _, _, _, _] [(0, .ptr 1000000 0), (2, .t (tI r2.1)), (8, .t (tI (Int.tmod (w64 (r3.1 + 5760)) 46080))), (9, .t (tI v)), (10, .t (tI v2)), (27, .t (tS Pv.encI s.Engine.Order)), (28, .t (tI (s.Engine.Order.length : Int))), (29, .t (tI i))] [(2856, .rs 85 7 f2 q13), (1000000, .box (lset (q10 s) [(11, .own 2856)]))] mixed (.of rfl rfl) rfl rfl rfl rfl (.cons (.quiet rfl rfl rfl) (.cons (.quiet rfl rfl rfl) (.cons (.quiet rfl rfl rfl) (.cons (.quiet rfl rfl rfl) (.cons (.quiet rfl rfl rfl) (.cons (.quiet rfl rfl rfl) (.cons (.quiet rfl rfl rfl) (.cons (.quiet rfl rfl rfl) (.cons (.quiet rfl rfl rfl) (.cons (.index hx2 rfl rfl rfl rfl rfl rfl (fun _ => rfl)) (.cons (.quiet rfl rfl rfl) (.cons (.quiet rfl rfl rfl) (.cons (.quiet rfl rfl rfl) (.cons (.callV (q358 s.Engine x2 (Int.tmod (w64 (r3.1 + 5760)) 46080) r2.1) hr4 rfl rfl rfl rfl) (.cons (.quiet rfl rfl rfl) (.cons (.quiet rfl rfl rfl) (.cons (.quiet rfl rfl rfl) (.cons (.quiet rfl rfl rfl) (.cons (.quiet rfl rfl rfl) (.nil)))))))))))))))))))) ?_))
     refine TieO.nil (.seq (.seq (.region (.run 2 rfl ?_))))
     refine TieO.nil (.cond rfl ?_ ?_)
     ·exact TieS.exit rfl (.leaf ⟨rfl, .of rfl rfl⟩)
     ·refine TieS.skip (.seq (.region (.run 3 rfl (.nil ?_))))
      refine TieS.block (.loop (fun p => ⟨[(0, .ptr 1000000 0), (2, .t (tI r2.1)), (9, .t (tI v)), (27, .t (tS Pv.encI s.Engine.Order)), (28, .t (tI (s.Engine.Order.length : Int))), (29, .t (tI i)), (88, .t (tS q12 r4.1)), (89, .t (tI (r4.1.length : Int))), (90, .t (tI p.1))], [(2856, .rs 85 7 p.2 q13), (1000000, .box (lset (q10 s) [(11, .own 2856)]))]⟩) (fun b e σ' => match b with | .inl t => e = .exit 2 ∧ Sub ⟨[(0, .ptr 1000000 0), (2, .t (tI r2.1)), (27, .t (tS Pv.encI s.Engine.Order)), (28, .t (tI (s.Engine.Order.length : Int))), (29, .t (tI i))], [(2856, .rs 85 7 t q13), (1000000, .box (lset (q10 s) [(11, .own 2856)]))]⟩ σ' | .inr t => False) (.of rfl rfl) ?_ ?_)
      ·rintro ⟨i2, f3⟩
       refine TieS.seq (.region (.run 1 rfl (.nil (.seq ?_))))
       refine TieS.cond rfl ?_ ?_
       ·refine TieS.skip (.seq (TieX.pre fun x3 hx3 => TieX.sub (σ' := ⟨[(0, .ptr 1000000 0), (2, .t (tI r2.1)), (9, .t (tI v)), (27, .t (tS Pv.encI s.Engine.Order)), (28, .t (tI (s.Engine.Order.length : Int))), (29, .t (tI i)), (88, .t (tS q12 r4.1)), (89, .t (tI (r4.1.length : Int))), (90, .t (tI i2))], [(2856, .rs 85 7 f3 q13), (1000000, .box (lset (q10 s) [(11, .own 2856)]))]⟩) (.of rfl rfl) (TieS.bind (Q₁ := fun f e σ' => match f with | .next t => e = .normal ∧ Sub ⟨[(0, .ptr 1000000 0), (2, .t (tI r2.1)), (9, .t (tI v)), (27, .t (tS Pv.encI s.Engine.Order)), (28, .t (tI (s.Engine.Order.length : Int))), (29, .t (tI i)), (88, .t (tS q12 r4.1)), (89, .t (tI (r4.1.length : Int))), (90, .t (tI i2))], [(2856, .rs 85 7 t q13), (1000000, .box (lset (q10 s) [(11, .own 2856)]))]⟩ σ' | .brk t => e = .exit 2 ∧ Sub ⟨[(0, .ptr 1000000 0), (2, .t (tI r2.1)), (27, .t (tS Pv.encI s.Engine.Order)), (28, .t (tI (s.Engine.Order.length : Int))), (29, .t (tI i))], [(2856, .rs 85 7 t q13), (1000000, .box (lset (q10 s) [(11, .own 2856)]))]⟩ σ' | .ret r => False) ?_ ?_)))
        ·refine TieS.block (.seq (.region (.indexH hx3 rfl rfl rfl rfl rfl rfl rfl rfl (fun _ => rfl) (.run 3 rfl ?_))))
         refine TieO.nil (.bind (Q₁ := fun t e σ' => e = .normal ∧ Sub ⟨[(0, .ptr 1000000 0), (2, .t (tI r2.1)), (9, .t (tI v)), (27, .t (tS Pv.encI s.Engine.Order)), (28, .t (tI (s.Engine.Order.length : Int))), (29, .t (tI i)), (88, .t (tS q12 r4.1)), (89, .t (tI (r4.1.length : Int))), (90, .t (tI i2))], [(2856, .rs 85 7 t q13), (1000000, .box (lset (q10 s) [(11, .own 2856)]))]⟩ σ') ?_ ?_)
         ·refine TieX.pre fun l hl => TieS.draws 14 (bm 17 0) (bm 17 16383) ⟨[(0, .ptr 1000000 0), (2, .t (tI r2.1)), (9, .t (tI v)), (27, .t (tS Pv.encI s.Engine.Order)), (28, .t (tI (s.Engine.Order.length : Int))), (29, .t (tI i)), (88, .t (tS q12 r4.1)), (89, .t (tI (r4.1.length : Int))), (90, .t (tI i2)), (94, .ptr 1000000 0), (107, .own 2856)], [(14, .box (x43_0 x3)), (106, .rs 85 7 ([(⟨x3.x, w64 (v + x3.f_at), false, 0⟩ : SJob)] : List SJob) q13), (2856, .rs 85 7 l q13), (1000000, .box (lset (q10 s) [(11, .any)]))]⟩ mixed (fun _ _ _ h => by cases h.1) rfl rfl rfl rfl ?_ ?_
          ·refine TieA.have_ (fuel₁ := 4) (l₁ := (bm 17 8191)) (σ₁ := ⟨[(0, .ptr 1000000 0), (2, .t (tI r2.1)), (9, .t (tI v)), (27, .t (tS Pv.encI s.Engine.Order)), (28, .t (tI (s.Engine.Order.length : Int))), (29, .t (tI i)), (88, .t (tS q12 r4.1)), (89, .t (tI (r4.1.length : Int))), (90, .t (tI i2)), (94, .ptr 1000000 0), (98, .own 2856), (106, .own 106)], [(14, .box (x43_0 x3)), (106, .rs 85 7 ([(⟨x3.x, w64 (v + x3.f_at), false, 0⟩ : SJob)] : List SJob) q13), (2856, .rs 85 7 f3 q13), (1000000, .box (lset (q10 s) [(11, .own 2856)]))]⟩) ?_ fun A_2 => ?_
           ·refine TieA.all [13] (by kernel_rfl) rfl (AllA.cons (σ₁ := ⟨[(0, .ptr 1000000 0), (2, .t (tI r2.1)), (9, .t (tI v)), (27, .t (tS Pv.encI s.Engine.Order)), (28, .t (tI (s.Engine.Order.length : Int))), (29, .t (tI i)), (88, .t (tS q12 r4.1)), (89, .t (tI (r4.1.length : Int))), (90, .t (tI i2)), (94, .ptr 1000000 0), (107, .own 2856)], [(14, .box (x43_0 x3)), (106, .rs 85 7 ([(⟨x3.x, w64 (v + x3.f_at), false, 0⟩ : SJob)] : List SJob) q13), (2856, .rs 85 7 l q13), (1000000, .box (lset (q10 s) [(11, .any)]))]⟩) _ rfl rfl ?_ ?_ ?_)
            ·refine TieO.withH hl (TieO.appendY (id := 2856) (l := f3) (r := ([(⟨x3.x, w64 (v + x3.f_at), false, 0⟩ : SJob)] : List SJob)) (tm' := [(0, .ptr 1000000 0), (2, .t (tI r2.1)), (9, .t (tI v)), (27, .t (tS Pv.encI s.Engine.Order)), (28, .t (tI (s.Engine.Order.length : Int))), (29, .t (tI i)), (88, .t (tS q12 r4.1)), (89, .t (tI (r4.1.length : Int))), (90, .t (tI i2)), (94, .ptr 1000000 0), (106, .own 106)]) (hp' := [(14, .box (x43_0 x3)), (106, .rs 85 7 ([(⟨x3.x, w64 (v + x3.f_at), false, 0⟩ : SJob)] : List SJob) q13), (1000000, .box (lset (q10 s) [(11, .any)]))]) rfl rfl rfl rfl rfl rfl rfl (fun _ => rfl) (fun _ => rfl) (.inl ⟨rfl, rfl⟩) (.inr ⟨_, rfl, rfl⟩) (.of rfl rfl) rfl rfl rfl (TieO.ifH ?_))
             exact TieO.nil (TieS.leaf ⟨rfl, .of rfl rfl⟩)
            ·exact TieA.done (.of rfl rfl)
            exact AllA.nil
           refine TieA.have_ (fuel₁ := 5) (l₁ := (bm 17 4095)) (σ₁ := ⟨[(0, .ptr 1000000 0), (2, .t (tI r2.1)), (9, .t (tI v)), (27, .t (tS Pv.encI s.Engine.Order)), (28, .t (tI (s.Engine.Order.length : Int))), (29, .t (tI i)), (88, .t (tS q12 r4.1)), (89, .t (tI (r4.1.length : Int))), (90, .t (tI i2)), (94, .ptr 1000000 0), (98, .own 2856), (105, .agg [.t (tI x3.x.Angle), .t (tI x3.x.Kind), .t (tI x3.x.Cylinder), .t (tI x3.x.Pulse), .t (tI (w64 (v + x3.f_at))), .t (tB false), .t (tI 0)])], [(14, .box (x43_0 x3)), (2856, .rs 85 7 f3 q13), (1000000, .box (lset (q10 s) [(11, .own 2856)]))]⟩) ?_ fun A_1 => ?_
           ·exact TieA.all [12] (by kernel_rfl) rfl (AllA.runTo _ rfl rfl rfl (.of rfl rfl) A_2 (AllA.nil))
           refine TieA.have_ (fuel₁ := 8) (l₁ := (bm 17 511)) (σ₁ := ⟨[(0, .ptr 1000000 0), (2, .t (tI r2.1)), (9, .t (tI v)), (27, .t (tS Pv.encI s.Engine.Order)), (28, .t (tI (s.Engine.Order.length : Int))), (29, .t (tI i)), (88, .t (tS q12 r4.1)), (89, .t (tI (r4.1.length : Int))), (90, .t (tI i2)), (94, .ptr 1000000 0), (98, .own 2856), (100, .agg [.t (tI x3.x.Angle), .t (tI x3.x.Kind), .t (tI x3.x.Cylinder), .t (tI x3.x.Pulse)]), (101, .t (tI v)), (102, .ptr 14 4)], [(14, .box (x43_0 x3)), (2856, .rs 85 7 f3 q13), (1000000, .box (lset (q10 s) [(11, .own 2856)]))]⟩) ?_ fun A_0 => ?_
           ·refine TieA.all [9] (by kernel_rfl) rfl (AllA.run _ rfl rfl rfl ?_ ?_)
            ·exact TieA.bin (V := .t (tI (w64 (v + x3.f_at)))) 10 _ rfl rfl rfl rfl rfl rfl (by kernel_rfl) (by kernel_rfl) (by kernel_rfl) rfl rfl rfl rfl (.all [11] (by kernel_rfl) rfl (AllA.runTo _ rfl rfl rfl (.of rfl rfl) A_1 (AllA.nil)))
            exact AllA.nil
           refine TieA.have_ (fuel₁ := 6) (l₁ := (bm 17 2047)) (σ₁ := ⟨[(0, .ptr 1000000 0), (2, .t (tI r2.1)), (9, .t (tI v)), (27, .t (tS Pv.encI s.Engine.Order)), (28, .t (tI (s.Engine.Order.length : Int))), (29, .t (tI i)), (88, .t (tS q12 r4.1)), (89, .t (tI (r4.1.length : Int))), (90, .t (tI i2)), (94, .ptr 1000000 0), (98, .own 2856), (100, .agg [.t (tI x3.x.Angle), .t (tI x3.x.Kind), .t (tI x3.x.Cylinder), .t (tI x3.x.Pulse)]), (104, .t (tI (w64 (v + x3.f_at))))], [(14, .box (x43_0 x3)), (2856, .rs 85 7 f3 q13), (1000000, .box (lset (q10 s) [(11, .own 2856)]))]⟩) ?_ fun A_3 => ?_
           ·exact TieA.all [11] (by kernel_rfl) rfl (AllA.runTo _ rfl rfl rfl (.of rfl rfl) A_1 (AllA.nil))
           refine TieA.have_ (fuel₁ := 6) (l₁ := (bm 17 4079)) (σ₁ := ⟨[(0, .ptr 1000000 0), (2, .t (tI r2.1)), (9, .t (tI v)), (27, .t (tS Pv.encI s.Engine.Order)), (28, .t (tI (s.Engine.Order.length : Int))), (29, .t (tI i)), (88, .t (tS q12 r4.1)), (89, .t (tI (r4.1.length : Int))), (90, .t (tI i2)), (94, .ptr 1000000 0), (97, .ptr 1000000 11), (105, .agg [.t (tI x3.x.Angle), .t (tI x3.x.Kind), .t (tI x3.x.Cylinder), .t (tI x3.x.Pulse), .t (tI (w64 (v + x3.f_at))), .t (tB false), .t (tI 0)])], [(14, .box (x43_0 x3)), (2856, .rs 85 7 f3 q13), (1000000, .box (lset (q10 s) [(11, .own 2856)]))]⟩) ?_ fun A_4 => ?_
           ·refine TieA.all [4, 12] (by kernel_rfl) rfl (AllA.runTo _ rfl rfl rfl (.of rfl rfl) A_1 (AllA.run _ rfl rfl rfl ?_ ?_))
            ·exact TieA.all [4] (by kernel_rfl) rfl (AllA.runTo _ rfl rfl rfl (.of rfl rfl) A_2 (AllA.nil))
            exact AllA.nil
           refine TieA.mv 0 rfl (.inl rfl) rfl (by kernel_rfl) rfl (.mv 1 rfl (.inl rfl) rfl (by kernel_rfl) rfl (.nP 2 rfl rfl rfl (by kernel_rfl) rfl (.fP 3 rfl rfl rfl (by kernel_rfl) rfl rfl rfl (.fP 5 rfl rfl rfl (by kernel_rfl) rfl rfl rfl ?_))))
           refine TieA.mv 7 rfl (.inl rfl) rfl (by kernel_rfl) rfl (.fP 8 rfl rfl rfl (by kernel_rfl) rfl rfl rfl (.all [4, 6, 9] (by kernel_rfl) rfl (AllA.run _ rfl rfl rfl ?_ ?_)))
           ·refine TieA.all [6, 9] (by kernel_rfl) rfl (AllA.runTo _ rfl rfl rfl (.of rfl rfl) A_0 (AllA.run _ rfl rfl rfl ?_ ?_))
            ·exact TieA.bin (V := .t (tI (w64 (v + x3.f_at)))) 10 _ rfl rfl rfl rfl rfl rfl (by kernel_rfl) (by kernel_rfl) (by kernel_rfl) rfl rfl rfl rfl (.all [6] (by kernel_rfl) rfl (AllA.runTo _ rfl rfl rfl (.of rfl rfl) A_3 (AllA.nil)))
            exact AllA.nil
           refine AllA.run _ rfl rfl rfl ?_ ?_
           ·refine TieA.all [4, 9] (by kernel_rfl) rfl (AllA.runTo _ rfl rfl rfl (.of rfl rfl) A_0 (AllA.run _ rfl rfl rfl ?_ ?_))
            ·exact TieA.bin (V := .t (tI (w64 (v + x3.f_at)))) 10 _ rfl rfl rfl rfl rfl rfl (by kernel_rfl) (by kernel_rfl) (by kernel_rfl) rfl rfl rfl rfl (.all [4, 11] (by kernel_rfl) rfl (AllA.runTo _ rfl rfl rfl (.of rfl rfl) A_3 (AllA.runTo _ rfl rfl rfl (.of rfl rfl) A_4 (AllA.nil))))
            exact AllA.nil
           refine AllA.run _ rfl rfl rfl ?_ ?_
           ·refine TieA.bin (V := .t (tI (w64 (v + x3.f_at)))) 10 _ rfl rfl rfl rfl rfl rfl (by kernel_rfl) (by kernel_rfl) (by kernel_rfl) rfl rfl rfl rfl (.all [4, 6] (by kernel_rfl) rfl (AllA.run _ rfl rfl rfl ?_ ?_))
            ·exact TieA.all [6] (by kernel_rfl) rfl (AllA.runTo _ rfl rfl rfl (.of rfl rfl) A_3 (AllA.nil))
            refine AllA.run _ rfl rfl rfl ?_ ?_
            ·exact TieA.all [4, 11] (by kernel_rfl) rfl (AllA.runTo _ rfl rfl rfl (.of rfl rfl) A_3 (AllA.runTo _ rfl rfl rfl (.of rfl rfl) A_4 (AllA.nil)))
            exact AllA.nil
           exact AllA.nil
          exact TieO.run 3 rfl (.nil (.leaf ⟨rfl, .of rfl rfl⟩))
         rintro f4 e σ' _ ⟨rfl, hs⟩
         exact TieX.sub hs (TieS.endb (.leaf ⟨rfl, .of rfl rfl⟩))
        rintro (t | t | r) e σ' _ hq
        ·obtain ⟨rfl, hs⟩ := hq
         exact TieX.sub hs (TieS.region (.run 2 rfl (.nil (.leaf ⟨rfl, .of rfl rfl⟩))))
        ·obtain ⟨rfl, hs⟩ := hq
         exact TieX.exitOut rfl ⟨(fun h => by cases h), rfl, hs⟩
        ·exact hq.elim
       ·exact TieS.exitOut rfl ⟨(fun h => by cases h), rfl, .of rfl rfl⟩
      rintro (f5 | r) e σ' _ hq
      ·obtain ⟨rfl, hs⟩ := hq
       refine TieX.exit rfl (TieX.sub hs ?_)
       exact TieS.endb (.leaf ⟨rfl, .of rfl rfl⟩)
      ·exact hq.elim
   rintro (t | t | r) e σ' _ hq
   ·obtain ⟨rfl, hs⟩ := hq
    exact TieX.sub hs (TieS.region (.run 2 rfl (.nil (.leaf ⟨rfl, .of rfl rfl⟩))))
   ·obtain ⟨rfl, hs⟩ := hq
    exact TieX.exitOut rfl ⟨(fun h => by cases h), rfl, hs⟩
   ·exact hq.elim
  ·exact TieS.exitOut rfl ⟨(fun h => by cases h), rfl, .of rfl rfl⟩
 rintro (f6 | r) e σ' _ hq
 ·obtain ⟨rfl, hs⟩ := hq
  refine TieX.exit rfl (TieX.sub hs ?_)
  exact TieS.leaf ⟨.inr rfl, ⟨[(2856, 900000), (1000000, 1000000)], _, _, rfl, rfl, rfl, rfl, rfl⟩⟩
 ·exact hq.elim
abbrev x10_0 : List T := [.t (.v (.slice none 0 0)), .t (tI 0), .t (tB false), .t (tI 0), .t (tI 0), .t (tI 0), .t (tI 0), .t (tI 0), .t (tI 0), .t (.v (.slice none 0 0)), .t (.v (.slice none 0 0)), .t (.v (.slice none 0 0)), .t (tB false)]
abbrev x10_1 (c : SClock) : List T := [.t (tB c.Valid), .t (tI c.At), .t (tI c.Angle), .t (tI c.Period), .t (tI c.Space), .t (tI c.Ahead)]
set_option maxRecDepth 100000 in
set_option maxHeartbeats 4000000 in
theorem q186 (s : SScheduler) (c : SClock) : TieF Tryz.prog 10 [q22 s, q194 c] (q37 s c) (fun r => .tup [q22 r.1, .t (tS q15 r.2.1), .t (tI r.2.2)]) := by
 refine TieF.intro htab 83 [.cell 4 33, .tmp 5, .tmp 6] Tryz.call10 Tryz.func10 rfl rfl rfl (Nat.le_of_ble_eq_true rfl) fun w0 L => ?_
 refine TieS.seq (.region (.run 5 rfl (.nil (.seq ?_))))
 refine TieS.block (.seq (.region (.run 1 rfl (.call _ rfl rfl rfl (q39 s) (fun _ => rfl) fun v => ?_))))
 refine TieO.run 2 rfl (.bind 4 (fun b2 => ⟨[(2, .ptr 2 0), (3, .ptr 3 0), (4, .ptr 4 0), (19, .t (tB b2))], [(2, .box (q10 s)), (3, .box (x10_1 c)), (4, .box x10_0)]⟩) (TieO.split 15 rfl ?_ ?_) fun b2 _ => ?_)
 ·exact TieO.run 4 rfl (.nil (.leaf ⟨rfl, .of rfl rfl⟩))
 ·exact TieO.run 1 rfl (.call _ rfl rfl rfl (q188 c) (fun _ => rfl) fun v2 => .run 2 rfl (.nil (.leaf ⟨rfl, .of rfl rfl⟩)))
 refine TieO.run 1 rfl (.nil (.cond rfl ?_ ?_))
 ·exact TieS.seq (.region (.run 4 rfl (.nil (.ret ⟨.inl rfl, rfl⟩))))
 ·refine TieS.seq (.region (.run 4 rfl (.nil (.cond rfl ?_ ?_))))
  ·exact TieS.seq (.region (.run 4 rfl (.nil (.ret ⟨.inl rfl, rfl⟩))))
  ·refine TieS.seq (.region (.run 7 rfl (.nil (.cond rfl ?_ ?_))))
   ·exact TieS.seq (.region (.run 4 rfl (.nil (.ret ⟨.inl rfl, rfl⟩))))
   ·refine TieS.skip (.endb (.seq (.region (.run 1 rfl ?_))))
    refine TieO.callG [] [(900000, 2280)] (fun v3 => ⟨[(2, .ptr 2 0), (3, .ptr 3 0), (4, .ptr 4 0), (11, .t (tB b2)), (19, .t (tB b2)), (21, .t (tB (!c.Valid))), (22, .ptr 3 0), (23, .t (tB c.Valid)), (24, .t (tB (!c.Valid))), (26, .t (tB (decide (c.At < s.Timer.Now)))), (27, .ptr 3 1), (28, .t (tI c.At)), (29, .ptr 2 8), (30, .ptr 2 8), (31, .t (tI s.Timer.Now)), (32, .t (tB (decide (c.At < s.Timer.Now)))), (34, .agg [.t (tS Pv.encI s.Engine.Order), .t (tI s.Engine.First), .t (tB s.Clock.Valid), .t (tI s.Clock.At), .t (tI s.Clock.Angle), .t (tI s.Clock.Period), .t (tI s.Clock.Space), .t (tI s.Clock.Ahead), .t (tI s.Timer.Now), .t (tS q11 s.Timer.Channels), .t (tS q14 s.Next), .t (tS q13 s.Jobs), .t (tB s.Cut)]), (35, .agg [.t (tS Pv.encI v3.Engine.Order), .t (tI v3.Engine.First), .t (tB v3.Clock.Valid), .t (tI v3.Clock.At), .t (tI v3.Clock.Angle), .t (tI v3.Clock.Period), .t (tI v3.Clock.Space), .t (tI v3.Clock.Ahead), .t (tI v3.Timer.Now), .t (tS q11 v3.Timer.Channels), .t (tS q14 v3.Next), .own 2280, .t (tB v3.Cut)])], [(2, .box (q10 s)), (3, .box (x10_1 c)), (4, .box x10_0), (2280, .rs 85 7 v3.Jobs q13)]⟩) (q86 s) rfl rfl rfl rfl rfl rfl rfl (fun _ => rfl) (fun _ => rfl) (fun _ => rfl) (fun _ => .of rfl rfl) fun v3 hv3 => .run 2 rfl (.nil (.seq (.region ?_)))
    refine TieO.run 2 rfl (.callG [(1000000, 7), (1000001, 2280)] [(900000, 2304)] (fun r2 => ⟨[(2, .ptr 2 0), (3, .ptr 3 0), (4, .ptr 4 0), (7, .ptr 7 0), (11, .t (tB b2)), (19, .t (tB b2)), (21, .t (tB (!c.Valid))), (22, .ptr 3 0), (23, .t (tB c.Valid)), (24, .t (tB (!c.Valid))), (26, .t (tB (decide (c.At < s.Timer.Now)))), (27, .ptr 3 1), (28, .t (tI c.At)), (29, .ptr 2 8), (30, .ptr 2 8), (31, .t (tI s.Timer.Now)), (32, .t (tB (decide (c.At < s.Timer.Now)))), (34, .agg [.t (tS Pv.encI s.Engine.Order), .t (tI s.Engine.First), .t (tB s.Clock.Valid), .t (tI s.Clock.At), .t (tI s.Clock.Angle), .t (tI s.Clock.Period), .t (tI s.Clock.Space), .t (tI s.Clock.Ahead), .t (tI s.Timer.Now), .t (tS q11 s.Timer.Channels), .t (tS q14 s.Next), .t (tS q13 s.Jobs), .t (tB s.Cut)]), (36, .ptr 3 1), (37, .t (tI c.At)), (38, .t (tS q15 r2.1))], [(2, .box (q10 s)), (3, .box (x10_1 c)), (4, .box x10_0), (7, .box (lset (q10 r2.2) [(11, .own 2304)])), (2304, .rs 85 7 r2.2.Jobs q13)]⟩) (q263 v3 c.At) rfl rfl rfl rfl rfl rfl rfl (fun _ => rfl) (fun _ => rfl) (fun _ => rfl) (fun _ => .of rfl rfl) fun r2 hr2 => .run 1 rfl (.nil (.seq ?_)))
    refine TieS.seq (.region (.run 3 rfl (.nil (.bind (Q₁ := fun t e σ' => e = .normal ∧ Sub ⟨[(3, .ptr 3 0), (4, .ptr 4 0), (7, .ptr 7 0), (8, .t (tS q15 r2.1))], [(3, .box (x10_1 c)), (4, .box x10_0), (7, .box (lset (q10 r2.2) [(11, .own 2304)])), (2304, .rs 85 7 t q13)]⟩ σ') ?_ ?_))))
    ·refine TieS.cond rfl ?_ ?_
     ·refine TieS.seq (.region (.run 5 rfl (.call _ rfl rfl rfl (q137 s.Clock.Angle c.Angle) (fun _ => rfl) fun v4 => .run 1 rfl ?_)))
      refine TieO.nil (.seq (.region (.run 4 rfl (.nil ?_))))
      refine TieS.block (.loop (fun p => ⟨[(3, .ptr 3 0), (4, .ptr 4 0), (7, .ptr 7 0), (8, .t (tS q15 r2.1)), (9, .t (tI v4)), (50, .t (tI (r2.2.Jobs.length : Int))), (51, .t (tI p.1))], [(3, .box (x10_1 c)), (4, .box x10_0), (7, .box (lset (q10 r2.2) [(11, .own 2304)])), (2304, .rs 85 7 p.2 q13)]⟩) (fun b e σ' => match b with | .inl t => e = .exit 1 ∧ Sub ⟨[(3, .ptr 3 0), (4, .ptr 4 0), (7, .ptr 7 0), (8, .t (tS q15 r2.1))], [(3, .box (x10_1 c)), (4, .box x10_0), (7, .box (lset (q10 r2.2) [(11, .own 2304)])), (2304, .rs 85 7 t q13)]⟩ σ' | .inr t => False) (.of rfl rfl) ?_ ?_)
      ·rintro ⟨i, f2⟩
       refine TieS.seq (.region (.run 1 rfl (.nil (.seq ?_))))
       refine TieS.cond rfl ?_ ?_
       ·refine TieS.skip (.seq (TieX.sub (σ' := ⟨[(3, .ptr 3 0), (4, .ptr 4 0), (7, .ptr 7 0), (8, .t (tS q15 r2.1)), (9, .t (tI v4)), (50, .t (tI (r2.2.Jobs.length : Int))), (51, .t (tI i))], [(3, .box (x10_1 c)), (4, .box x10_0), (7, .box (lset (q10 r2.2) [(11, .own 2304)])), (2304, .rs 85 7 f2 q13)]⟩) (.of rfl rfl) (TieS.bind (Q₁ := fun f e σ' => match f with | .next t => e = .normal ∧ Sub ⟨[(3, .ptr 3 0), (4, .ptr 4 0), (7, .ptr 7 0), (8, .t (tS q15 r2.1)), (9, .t (tI v4)), (50, .t (tI (r2.2.Jobs.length : Int))), (51, .t (tI i))], [(3, .box (x10_1 c)), (4, .box x10_0), (7, .box (lset (q10 r2.2) [(11, .own 2304)])), (2304, .rs 85 7 t q13)]⟩ σ' | .brk t => e = .exit 1 ∧ Sub ⟨[(3, .ptr 3 0), (4, .ptr 4 0), (7, .ptr 7 0), (8, .t (tS q15 r2.1))], [(3, .box (x10_1 c)), (4, .box x10_0), (7, .box (lset (q10 r2.2) [(11, .own 2304)])), (2304, .rs 85 7 t q13)]⟩ σ' | .ret r => False) ?_ ?_)))
        ·refine TieS.block (.seq (.region (.run 2 rfl (.nil ?_))))
         refine TieX.pre fun x hx => TieS.draw 14 [_, _, _, _, _, _, _, _, _, _, _, _, _, _] [(3, .ptr 3 0), (4, .ptr 4 0), (7, .ptr 7 0), (8, .t (tS q15 r2.1)), (9, .t (tI v4)), (10, .t (tI i)), (50, .t (tI (r2.2.Jobs.length : Int))), (51, .t (tI i))] [(3, .box (x10_1 c)), (4, .box x10_0), (7, .box (lset (q10 r2.2) [(11, .own 2304)])), (2304, .rs 85 7 f2 q13)] mixed (.of rfl rfl) rfl rfl rfl rfl (.cons (.quiet rfl rfl rfl) (.cons (.quiet rfl rfl rfl) (.cons (.quiet rfl rfl rfl) (.cons (.quiet rfl rfl rfl) (.cons (.quiet rfl rfl rfl) (.cons (.quiet rfl rfl rfl) (.cons (.indexO (sz := 7) hx rfl rfl rfl rfl rfl rfl rfl rfl) (.cons (.quiet rfl rfl rfl) (.cons (.loadY hx rfl rfl rfl rfl rfl rfl) (.cons (.quiet rfl rfl rfl) (.cons (.quiet rfl rfl rfl) (.cons (.quiet rfl rfl rfl) (.cons (.indexO (sz := 7) hx rfl rfl rfl rfl rfl rfl rfl rfl) (.cons (.quiet rfl rfl rfl) (.nil))))))))))))))) (.storeY (u6_1 x (maxI (-1048576) (w64 (x.Left - v4)))) [tI (maxI (-1048576) (w64 (x.Left - v4)))] hx rfl rfl rfl rfl rfl rfl rfl rfl rfl rfl rfl rfl fun l hl => .nil (.endb ?_))
         exact TieS.leaf ⟨rfl, .of rfl rfl⟩
        rintro (t | t | r) e σ' _ hq
        ·obtain ⟨rfl, hs⟩ := hq
         exact TieX.sub hs (TieS.region (.run 2 rfl (.nil (.leaf ⟨rfl, .of rfl rfl⟩))))
        ·obtain ⟨rfl, hs⟩ := hq
         exact TieX.exitOut rfl ⟨(fun h => by cases h), rfl, hs⟩
        ·exact hq.elim
       ·exact TieS.exitOut rfl ⟨(fun h => by cases h), rfl, .of rfl rfl⟩
      rintro (f3 | r) e σ' _ hq
      ·obtain ⟨rfl, hs⟩ := hq
       refine TieX.exit rfl (TieX.sub hs ?_)
       exact TieS.leaf ⟨rfl, .of rfl rfl⟩
      ·exact hq.elim
     ·exact TieS.skip (.leaf ⟨rfl, .of rfl rfl⟩)
    rintro f4 e σ' _ ⟨rfl, hs⟩
    refine TieX.sub hs (TieS.seq (.region (.run 3 rfl (.nil ?_))))
    refine TieS.seq (.seq (.region (.run 3 rfl (.nil ?_))))
    refine TieS.cond rfl ?_ ?_
    ·refine TieS.seq (.region (.callG [(1000000, 7), (1000001, 2304)] [(900000, 2592)] (fun v5 => ⟨[(3, .ptr 3 0), (4, .ptr 4 0), (7, .ptr 7 0), (8, .t (tS q15 r2.1)), (69, .agg [.t (tB c.Valid), .t (tI c.At), .t (tI c.Angle), .t (tI c.Period), .t (tI c.Space), .t (tI c.Ahead)]), (70, .ptr 7 2), (71, .ptr 7 12), (72, .t (tB r2.2.Cut)), (73, .t (tB (!r2.2.Cut))), (74, .tup [])], [(3, .box (x10_1 c)), (4, .box x10_0), (7, .box (lset (q10 v5) [(11, .own 2592)])), (2592, .rs 85 7 v5.Jobs q13)]⟩) (q346 (u7_4 (u7_2 (u7_1 (u7_0 r2.2 (⟨r2.2.Engine.Order, r2.2.Engine.First⟩ : SEngine)) c) (⟨r2.2.Timer.Now, r2.2.Timer.Channels⟩ : STimer)) f4)) rfl rfl rfl rfl rfl rfl rfl (fun _ => rfl) (fun _ => rfl) (fun _ => rfl) (fun _ => .of rfl rfl) fun v5 hv5 => .nil (.seq ?_)))
     refine TieS.seq (.region (.run 4 rfl (.nil (.cond rfl ?_ ?_))))
     ·exact TieS.seq (.region (.run 4 rfl (.nil (.ret ⟨.inl rfl, rfl⟩))))
     ·refine TieS.skip (.region (.callG [(1000000, 7), (1000001, 2592)] [] (fun v6 => ⟨[(3, .ptr 3 0), (4, .ptr 4 0), (7, .ptr 7 0), (8, .t (tS q15 r2.1)), (69, .agg [.t (tB c.Valid), .t (tI c.At), .t (tI c.Angle), .t (tI c.Period), .t (tI c.Space), .t (tI c.Ahead)]), (70, .ptr 7 2), (71, .ptr 7 12), (72, .t (tB r2.2.Cut)), (73, .t (tB (!r2.2.Cut))), (74, .tup []), (75, .ptr 7 11), (76, .own 2592), (77, .t (tI (v5.Jobs.length : Int))), (78, .t (tB (decide ((v5.Jobs.length : Int) > 200)))), (80, .tup [])], [(3, .box (x10_1 c)), (4, .box x10_0), (7, .box (lset (q10 v6) [(11, .own 2592)])), (2592, .rs 85 7 v6.Jobs q13)]⟩) (q282 v5) rfl rfl rfl rfl rfl rfl rfl (fun _ => rfl) (fun _ => rfl) (fun _ => rfl) (fun _ => .of rfl rfl) fun v6 hv6 => .nil (.seq ?_)))
      exact TieS.region (.run 5 rfl (.nil (.ret ⟨.inl rfl, rfl⟩)))
    ·refine TieS.skip (.seq (.region (.run 5 rfl (.nil ?_))))
     exact TieS.ret ⟨.inl rfl, rfl⟩
set_option maxRecDepth 100000 in
theorem q437 (n2 : Int) : TieF Tryz.prog 62 [.t (tI n2)] (q293 n2) (fun r => .tup [q64 r.1, .t (tI r.2)]) := by
 refine TieF.intro htab 14 [.cell 2 29, .tmp 3] Tryz.call62 Tryz.func62 rfl rfl rfl (Nat.le_of_ble_eq_true rfl) fun w0 L => ?_
 refine TieS.seq (.region (.run 2 rfl (.nil (.seq ?_))))
 refine TieS.seq (.region (.run 3 rfl (.selOr (v := decide (n2 > 16)) 3 6 (fun b => ⟨[(0, .t (tI n2)), (2, .ptr 2 0), (9, .t (tB b))], [(2, .box [.t (tI 0), .t (.v (.slice none 0 0))])]⟩) rfl ?_ ?_ ?_)))
 ·exact TieO.run 3 rfl (.nil (.leaf ⟨rfl, .of rfl rfl⟩))
 ·exact TieO.run 3 rfl (.nil (.leaf ⟨rfl, .of rfl rfl⟩))
 refine TieO.nil (.cond rfl ?_ ?_)
 ·exact TieS.seq (.region (.run 3 rfl (.nil (.ret ⟨.inl rfl, rfl⟩))))
 ·refine TieS.skip (.seq (.region (.run 1 rfl (.makeO (enc := q11) 2096 (⟨false, 0, false, false⟩ : SChannel) rfl rfl rfl rfl rfl rfl rfl rfl rfl rfl rfl rfl rfl fun l hl => ?_))))
  exact TieO.run 3 rfl (.nil (.ret ⟨.inl rfl, rfl⟩))
set_option maxRecDepth 100000 in
theorem q308 (s : List Int) : TieF Tryz.prog 63 [.t (tS Pv.encI s)] (q214 s) (fun r => .t (tS Pv.encI r)) := by
 refine TieF.intro htab 8 [.tmp 2] Tryz.call63 Tryz.func63 rfl rfl rfl (Nat.le_of_ble_eq_true rfl) fun w0 L => ?_
 refine TieS.seq (.region (.run 1 rfl (.nil (.seq ?_))))
 refine TieS.seq (.region (.run 1 rfl (.isNil rfl rfl rfl rfl rfl rfl fun b2 hb2 => .nil ?_)))
 refine TieS.condB rfl (fun hb1 => ?_) (fun _ => ?_)
 ·refine TieX.model (m' := some ([] : List Int)) (by rw [hb2 hb1]; rfl) (TieS.seq (.region (.run 1 rfl (.nil ?_))))
  exact TieS.ret ⟨.inl rfl, rfl⟩
 ·refine TieS.skip (.seq (.region (.run 2 rfl (.appendY (id := 5) (e' := 0) (l := ([] : List Int)) (r := s) (tm' := [(0, .t (tS Pv.encI s)), (2, .t (.v (.slice none 0 0))), (3, .t (tS Pv.encI s)), (4, .t (tB b2)), (6, .t (tS Pv.encI s))]) (hp' := []) rfl rfl rfl rfl rfl rfl rfl (fun _ => rfl) (fun _ => rfl) (.inl ⟨rfl, rfl⟩) (.inl rfl) (.of rfl rfl) rfl rfl rfl fun l => ?_))))
  exact TieO.run 1 rfl (.nil (.ret ⟨.inl rfl, rfl⟩))
set_option maxRecDepth 100000 in
theorem q438 : TieF Tryz.prog 64 [] (q352) (fun r => q194 r) := by
 refine TieF.intro htab 2 [.cell 0 26] Tryz.call64 Tryz.func64 rfl rfl rfl (Nat.le_of_ble_eq_true rfl) fun w0 L => ?_
 refine TieS.seq (.region (.run 1 rfl (.nil (.seq ?_))))
 exact TieS.region (.run 2 rfl (.nil (.ret ⟨.inl rfl, rfl⟩)))
set_option maxRecDepth 100000 in
theorem q280 (e2 : SEngine) : TieF Tryz.prog 22 [q52 e2] (q120 e2) (fun r => .tup [q22 r.1, .t (tI r.2)]) := by
 refine TieF.intro htab 30 [.cell 2 33, .tmp 3] Tryz.call22 Tryz.func22 rfl rfl rfl (Nat.le_of_ble_eq_true rfl) fun w0 L => ?_
 refine TieS.seq (.region (.run 3 rfl (.nil (.seq ?_))))
 refine TieS.seq (.region (.run 1 rfl (.call _ rfl rfl rfl (q74 e2) (fun _ => rfl) fun v => .run 1 rfl ?_)))
 refine TieO.nil (.cond rfl ?_ ?_)
 ·exact TieS.seq (.region (.run 3 rfl (.nil (.ret ⟨.inl rfl, rfl⟩))))
 ·refine TieS.skip (.seq (.region (.run 4 rfl (.call _ rfl rfl rfl (q437 (w64 (2 * (e2.Order.length : Int)))) (fun _ => rfl) fun r2 => ?_))))
  refine TieO.run 6 rfl (.nil (.seq (.seq (.region ?_))))
  refine TieO.run 2 rfl (.nil (.cond rfl ?_ ?_))
  ·exact TieS.seq (.region (.run 3 rfl (.nil (.ret ⟨.inl rfl, rfl⟩))))
  ·refine TieS.skip (.seq (TieX.pre fun v2 hv2 => TieX.pre fun v3 hv3 => TieS.draw 9 [_, _, _, _, _, _, _, _, _] [(1, .ptr 1 0), (2, .ptr 2 0), (3, .t (tI 0)), (4, .ptr 4 0)] [(1, .box [.t (tS Pv.encI e2.Order), .t (tI e2.First)]), (2, .box [.t (.v (.slice none 0 0)), .t (tI 0), .t (tB false), .t (tI 0), .t (tI 0), .t (tI 0), .t (tI 0), .t (tI 0), .t (tI 0), .t (.v (.slice none 0 0)), .t (.v (.slice none 0 0)), .t (.v (.slice none 0 0)), .t (tB false)]), (4, .box [.t (tI r2.1.Now), .t (tS q11 r2.1.Channels)])] mixed (.of rfl rfl) rfl rfl rfl rfl (.cons (.quiet rfl rfl rfl) (.cons (.quiet rfl rfl rfl) (.cons (.callV (q308 e2.Order) hv2 rfl rfl rfl rfl) (.cons (.quiet rfl rfl rfl) (.cons (.quiet rfl rfl rfl) (.cons (.quiet rfl rfl rfl) (.cons (.callV (q438) hv3 rfl rfl rfl rfl) (.cons (.quiet rfl rfl rfl) (.cons (.quiet rfl rfl rfl) (.nil)))))))))) ?_))
   exact TieO.run 2 rfl (.nil (.ret ⟨.inl rfl, rfl⟩))
set_option maxRecDepth 100000 in
theorem q269 (s : SScheduler) (l : List SFire) : TieF Tryz.prog 28 [q22 s, .t (tS q14 l)] (q99 s l) (fun r => .tup [q22 r.1, .t (tI r.2)]) := by
 refine TieF.intro htab 24 [.cell 4 33, .tmp 5] Tryz.call28 Tryz.func28 rfl rfl rfl (Nat.le_of_ble_eq_true rfl) fun w0 L => ?_
 refine TieS.seq (.region (.run 3 rfl (.nil (.seq ?_))))
 refine TieS.seq (.region (.run 1 rfl (.call _ rfl rfl rfl (q39 s) (fun _ => rfl) fun v => .run 2 rfl ?_)))
 refine TieO.bind 6 (fun b2 => ⟨[(1, .t (tS q14 l)), (2, .ptr 2 0), (4, .ptr 4 0), (16, .t (tB b2))], [(2, .box (q10 s)), (4, .box [.t (.v (.slice none 0 0)), .t (tI 0), .t (tB false), .t (tI 0), .t (tI 0), .t (tI 0), .t (tI 0), .t (tI 0), .t (tI 0), .t (.v (.slice none 0 0)), .t (.v (.slice none 0 0)), .t (.v (.slice none 0 0)), .t (tB false)])]⟩) (TieO.split 10 rfl ?_ ?_) fun b2 _ => ?_
 ·exact TieO.run 6 rfl (.nil (.leaf ⟨rfl, .of rfl rfl⟩))
 ·exact TieO.run 3 rfl (.call _ rfl rfl rfl (q251 s.Engine l) (fun _ => rfl) fun v2 => .run 2 rfl (.nil (.leaf ⟨rfl, .of rfl rfl⟩)))
 refine TieO.nil (.cond rfl ?_ ?_)
 ·exact TieS.seq (.region (.run 3 rfl (.nil (.ret ⟨.inl rfl, rfl⟩))))
 ·refine TieS.skip (.seq (.region (.run 1 rfl (.call _ rfl rfl rfl (TieG.toF (q86 s) (fun _ => rfl)) (fun _ => rfl) fun v3 => ?_))))
  refine TieO.run 2 rfl (.nil (.seq (.region (.run 1 rfl ?_))))
  refine TieO.call _ rfl rfl rfl (q223 l) (fun _ => rfl) fun v4 => .run 2 rfl (.nil (.seq (.region ?_)))
  exact TieO.run 3 rfl (.nil (.ret ⟨.inl rfl, rfl⟩))
set_option maxRecDepth 100000 in
theorem q327 : TieF Tryz.prog 39 [] (q229) (fun r => q52 r) := by
 refine TieF.intro htab 3 [.cell 0 24] Tryz.call39 Tryz.func39 rfl rfl rfl (Nat.le_of_ble_eq_true rfl) fun w0 L => ?_
 refine TieS.seq (.region (.run 1 rfl (.nil (.seq ?_))))
 exact TieS.region (.run 3 rfl (.nil (.ret ⟨.inl rfl, rfl⟩)))
set_option maxRecDepth 100000 in
set_option maxHeartbeats 4000000 in
theorem q222 : TieF Tryz.prog 8 [] (q111) (fun r => .t (tB r)) := by
 refine TieF.intro htab 80 [.tmp 0] Tryz.call8 Tryz.func8 rfl rfl rfl (Nat.le_of_ble_eq_true rfl) fun w0 L => ?_
 refine TieS.seq (.region (.run 1 rfl (.nil (.seq ?_))))
 refine TieS.region (.call _ rfl rfl rfl (q327) (fun _ => rfl) fun v => .call _ rfl rfl rfl (q280 v) (fun _ => rfl) fun r2 => .run 6 rfl (.nil ?_))
 refine TieS.seq (.region (.run 3 rfl (.frz 14 rfl (.call _ rfl rfl rfl (q269 (u7_2 (u7_1 (u7_0 r2.1 (⟨r2.1.Engine.Order, r2.1.Engine.First⟩ : SEngine)) (⟨r2.1.Clock.Valid, r2.1.Clock.At, r2.1.Clock.Angle, r2.1.Clock.Period, r2.1.Clock.Space, r2.1.Clock.Ahead⟩ : SClock)) (⟨r2.1.Timer.Now, r2.1.Timer.Channels⟩ : STimer)) ([(⟨1, 640, 2000, 0, 0, 0, 0⟩ : SFire)] : List SFire)) (fun _ => rfl) fun r3 => ?_))))
 refine TieO.run 5 rfl (.nil (.seq (.region (.run 2 rfl ?_))))
 refine TieO.call _ rfl rfl rfl (q186 (u7_2 (u7_1 (u7_0 r3.1 (⟨r3.1.Engine.Order, r3.1.Engine.First⟩ : SEngine)) (⟨r3.1.Clock.Valid, r3.1.Clock.At, r3.1.Clock.Angle, r3.1.Clock.Period, r3.1.Clock.Space, r3.1.Clock.Ahead⟩ : SClock)) (⟨r3.1.Timer.Now, r3.1.Timer.Channels⟩ : STimer)) (⟨true, 1000, 5760, 1000, 384, 384⟩ : SClock)) (fun _ => rfl) fun r4 => .run 7 rfl (.nil (.seq (.seq ?_)))
 refine TieS.region (.run 3 rfl (.selOr (v := (r3.2 != 0)) 3 27 (fun b => ⟨[(1, .ptr 1 0), (5, .t (tI r4.2.2)), (30, .t (tB b))], [(1, .box (q10 r4.1))]⟩) rfl ?_ ?_ ?_))
 ·exact TieO.run 3 rfl (.nil (.leaf ⟨rfl, .of rfl rfl⟩))
 ·exact TieO.run 3 rfl (.nil (.leaf ⟨rfl, .of rfl rfl⟩))
 refine TieO.run 1 rfl (.selOr (v := (r4.2.2 != 0)) 3 31 (fun b => ⟨[(1, .ptr 1 0), (34, .t (tB b))], [(1, .box (q10 r4.1))]⟩) rfl ?_ ?_ ?_)
 ·exact TieO.run 3 rfl (.nil (.leaf ⟨rfl, .of rfl rfl⟩))
 ·exact TieO.run 3 rfl (.nil (.leaf ⟨rfl, .of rfl rfl⟩))
 refine TieO.run 1 rfl (.selOr (v := ((r4.1.Jobs.length : Int) != 2)) 5 35 (fun b => ⟨[(1, .ptr 1 0), (40, .t (tB b))], [(1, .box (q10 r4.1))]⟩) rfl ?_ ?_ ?_)
 ·exact TieO.run 5 rfl (.nil (.leaf ⟨rfl, .of rfl rfl⟩))
 ·exact TieO.run 5 rfl (.nil (.leaf ⟨rfl, .of rfl rfl⟩))
 refine TieO.nil (.cond rfl ?_ ?_)
 ·exact TieS.seq (.region (.run 1 rfl (.nil (.ret ⟨.inl rfl, rfl⟩))))
 ·refine TieS.skip (.seq (.region (.run 2 rfl (.call _ rfl rfl rfl (q186 (u7_2 (u7_1 (u7_0 r4.1 (⟨r4.1.Engine.Order, r4.1.Engine.First⟩ : SEngine)) (⟨r4.1.Clock.Valid, r4.1.Clock.At, r4.1.Clock.Angle, r4.1.Clock.Period, r4.1.Clock.Space, r4.1.Clock.Ahead⟩ : SClock)) (⟨r4.1.Timer.Now, r4.1.Timer.Channels⟩ : STimer)) (⟨true, 2000, 44544, 1000, 384, 384⟩ : SClock)) (fun _ => rfl) fun r5 => ?_))))
  refine TieO.run 6 rfl (.nil (.seq (.region (.run 3 rfl ?_))))
  refine TieO.selAnd (v := ((r5.1.Jobs.length : Int) == 2)) 5 50 (fun b => ⟨[(1, .ptr 1 0), (55, .t (tB b))], [(1, .box (q10 r5.1))]⟩) rfl ?_ ?_ ?_
  ·exact TieO.run 5 rfl (.nil (.leaf ⟨rfl, .of rfl rfl⟩))
  ·exact TieO.run 5 rfl (.nil (.leaf ⟨rfl, .of rfl rfl⟩))
  refine TieO.run 1 rfl (.bind 6 (fun b2 => ⟨[(1, .ptr 1 0), (62, .t (tB b2))], [(1, .box (q10 r5.1))]⟩) (TieO.split 56 rfl ?_ ?_) fun b2 _ => ?_)
  ·exact TieO.run 2 rfl (.index rfl rfl rfl rfl rfl rfl rfl rfl (fun _ => rfl) fun x hx => .run 3 rfl (.nil (.leaf ⟨rfl, .of rfl rfl⟩)))
  ·exact TieO.run 6 rfl (.nil (.leaf ⟨rfl, .of rfl rfl⟩))
  refine TieO.run 1 rfl (.bind 7 (fun b3 => ⟨[(1, .ptr 1 0), (70, .t (tB b3))], [(1, .box (q10 r5.1))]⟩) (TieO.split 63 rfl ?_ ?_) fun b3 _ => ?_)
  ·exact TieO.run 2 rfl (.index rfl rfl rfl rfl rfl rfl rfl rfl (fun _ => rfl) fun x2 hx2 => .run 4 rfl (.nil (.leaf ⟨rfl, .of rfl rfl⟩)))
  ·exact TieO.run 7 rfl (.nil (.leaf ⟨rfl, .of rfl rfl⟩))
  refine TieO.run 1 rfl (.bind 8 (fun b4 => ⟨[(79, .t (tB b4))], []⟩) (TieO.split 71 rfl ?_ ?_) fun b4 _ => ?_)
  ·exact TieO.run 2 rfl (.index rfl rfl rfl rfl rfl rfl rfl rfl (fun _ => rfl) fun x3 hx3 => .run 5 rfl (.nil (.leaf ⟨rfl, .of rfl rfl⟩)))
  ·exact TieO.run 8 rfl (.nil (.leaf ⟨rfl, .of rfl rfl⟩))
  exact TieO.run 1 rfl (.nil (.ret ⟨.inl rfl, rfl⟩))
set_option maxRecDepth 100000 in
theorem q220 (s : SScheduler) : TieF Tryz.prog 9 [q22 s] (q150 s) (fun r => .t (tB r)) := by
 refine TieF.intro htab 27 [.tmp 2] Tryz.call9 Tryz.func9 rfl rfl rfl (Nat.le_of_ble_eq_true rfl) fun w0 L => ?_
 refine TieS.seq (.region (.run 2 rfl (.nil (.seq ?_))))
 refine TieS.region (.run 5 rfl (.selOr (v := decide ((s.Next.length : Int) > 20)) 5 7 (fun b => ⟨[(1, .ptr 1 0), (12, .t (tB b))], [(1, .box (q10 s))]⟩) rfl ?_ ?_ ?_))
 ·exact TieO.run 5 rfl (.nil (.leaf ⟨rfl, .of rfl rfl⟩))
 ·exact TieO.run 5 rfl (.nil (.leaf ⟨rfl, .of rfl rfl⟩))
 refine TieO.run 1 rfl (.selOr (v := decide ((s.Timer.Channels.length : Int) > 40)) 6 13 (fun b => ⟨[(1, .ptr 1 0), (19, .t (tB b))], [(1, .box (q10 s))]⟩) rfl ?_ ?_ ?_)
 ·exact TieO.run 6 rfl (.nil (.leaf ⟨rfl, .of rfl rfl⟩))
 ·exact TieO.run 6 rfl (.nil (.leaf ⟨rfl, .of rfl rfl⟩))
 refine TieO.run 1 rfl (.selOr (v := decide ((s.Engine.Order.length : Int) > 20)) 6 20 (fun b => ⟨[(26, .t (tB b))], []⟩) rfl ?_ ?_ ?_)
 ·exact TieO.run 6 rfl (.nil (.leaf ⟨rfl, .of rfl rfl⟩))
 ·exact TieO.run 6 rfl (.nil (.leaf ⟨rfl, .of rfl rfl⟩))
 exact TieO.run 1 rfl (.nil (.ret ⟨.inl rfl, rfl⟩))
set_option maxRecDepth 100000 in
theorem q302 (e2 : SEngine) (cylinder : Int) : TieF Tryz.prog 112 [q52 e2, .t (tI cylinder)] (q143 e2 cylinder) (fun r => .t (tI r)) := by
 refine TieF.intro htab 21 [.tmp 4] Tryz.call112 Tryz.func112 rfl rfl rfl (Nat.le_of_ble_eq_true rfl) fun w0 L => ?_
 refine TieS.seq (.region (.run 2 rfl (.nil (.seq ?_))))
 refine TieS.seq (.region (.run 1 rfl (.nil (.block ?_))))
 refine TieS.loop (fun t => ⟨[(1, .t (tI cylinder)), (2, .ptr 2 0), (5, .t (tI t))], [(2, .box [.t (tS Pv.encI e2.Order), .t (tI e2.First)])]⟩) (fun b e σ' => match b with | .inl t => e = .exit 0 ∧ Sub ⟨[], []⟩ σ' | .inr t => e = .ret ∧ retT tab σ' [.tmp 4] = some (((fun r => .t (tI r)) : Int → T) t)) (.of rfl rfl) ?_ ?_
 ·intro i
  refine TieS.seq (.seq (.region (.run 5 rfl (.nil ?_))))
  refine TieS.cond rfl ?_ ?_
  ·refine TieS.skip (.seq (.block (.seq (.region ?_))))
   refine TieO.run 3 rfl (.index rfl rfl rfl rfl rfl rfl rfl rfl (fun _ => rfl) fun x hx => .run 3 rfl (.nil (.cond rfl ?_ ?_)))
   ·exact TieS.seq (.region (.run 2 rfl (.nil (.ret ⟨(fun h => by cases h), rfl, rfl⟩))))
   ·refine TieS.skip (.endb (.region (.run 3 rfl (.nil ?_))))
    exact TieS.leaf ⟨rfl, .of rfl rfl⟩
  ·exact TieS.exitOut rfl ⟨(fun h => by cases h), rfl, .of rfl rfl⟩
 rintro (i2 | r2) e σ' _ hq
 ·obtain ⟨rfl, hs⟩ := hq
  refine TieX.exit rfl (TieX.sub hs ?_)
  exact TieS.seq (.region (.run 1 rfl (.nil (.ret ⟨.inl rfl, rfl⟩))))
 ·obtain ⟨rfl, hs⟩ := hq
  exact TieX.ret ⟨.inl rfl, hs⟩
set_option maxRecDepth 100000 in
theorem q155 (n2 : Int) : TieF Tryz.prog 113 [.t (tI n2)] (q107 n2) (fun r => .t (tB r)) := by
 refine TieF.intro htab 9 [.tmp 2] Tryz.call113 Tryz.func113 rfl rfl rfl (Nat.le_of_ble_eq_true rfl) fun w0 L => ?_
 refine TieS.seq (.region (.run 1 rfl (.nil (.seq ?_))))
 refine TieS.region (.run 3 rfl (.selAnd (v := decide (n2 ≤ 20000)) 3 5 (fun b => ⟨[(8, .t (tB b))], []⟩) rfl ?_ ?_ ?_))
 ·exact TieO.run 3 rfl (.nil (.leaf ⟨rfl, .of rfl rfl⟩))
 ·exact TieO.run 3 rfl (.nil (.leaf ⟨rfl, .of rfl rfl⟩))
 exact TieO.run 1 rfl (.nil (.ret ⟨.inl rfl, rfl⟩))
abbrev x76_0 (f2 : SFire) : List T := [.t (tI f2.Cylinder), .t (tI f2.Spark), .t (tI f2.Dwell), .t (tI f2.End), .t (tI f2.Inject), .t (tI f2.Gap), .t (tI f2.Extra)]
set_option maxRecDepth 100000 in
set_option maxHeartbeats 4000000 in
theorem q312 (e2 : SEngine) (f2 : SFire) : TieF Tryz.prog 76 [q52 e2, A_SFire f2] (q163 e2 f2) (fun r => .t (tB r)) := by
 refine TieF.intro htab 70 [.tmp 4] Tryz.call76 Tryz.func76 rfl rfl rfl (Nat.le_of_ble_eq_true rfl) fun w0 L => ?_
 refine TieS.seq (.region (.run 3 rfl (.nil (.seq ?_))))
 refine TieS.seq (.region (.run 3 rfl (.call _ rfl rfl rfl (q302 e2 f2.Cylinder) (fun _ => rfl) fun v => .run 2 rfl ?_)))
 refine TieO.selOr (v := decide (f2.Spark < (-1280))) 4 10 (fun b => ⟨[(3, .ptr 3 0), (14, .t (tB b))], [(3, .box (x76_0 f2))]⟩) rfl ?_ ?_ ?_
 ·exact TieO.run 4 rfl (.nil (.leaf ⟨rfl, .of rfl rfl⟩))
 ·exact TieO.run 4 rfl (.nil (.leaf ⟨rfl, .of rfl rfl⟩))
 refine TieO.run 1 rfl (.selOr (v := decide (f2.Spark > 3840)) 4 15 (fun b => ⟨[(3, .ptr 3 0), (19, .t (tB b))], [(3, .box (x76_0 f2))]⟩) rfl ?_ ?_ ?_)
 ·exact TieO.run 4 rfl (.nil (.leaf ⟨rfl, .of rfl rfl⟩))
 ·exact TieO.run 4 rfl (.nil (.leaf ⟨rfl, .of rfl rfl⟩))
 refine TieO.run 1 rfl (.selOr (v := decide (f2.Dwell < 500)) 4 20 (fun b => ⟨[(3, .ptr 3 0), (24, .t (tB b))], [(3, .box (x76_0 f2))]⟩) rfl ?_ ?_ ?_)
 ·exact TieO.run 4 rfl (.nil (.leaf ⟨rfl, .of rfl rfl⟩))
 ·exact TieO.run 4 rfl (.nil (.leaf ⟨rfl, .of rfl rfl⟩))
 refine TieO.run 1 rfl (.selOr (v := decide (f2.Dwell > 10000)) 4 25 (fun b => ⟨[(3, .ptr 3 0), (29, .t (tB b))], [(3, .box (x76_0 f2))]⟩) rfl ?_ ?_ ?_)
 ·exact TieO.run 4 rfl (.nil (.leaf ⟨rfl, .of rfl rfl⟩))
 ·exact TieO.run 4 rfl (.nil (.leaf ⟨rfl, .of rfl rfl⟩))
 refine TieO.run 1 rfl (.selOr (v := decide (f2.End < 0)) 4 30 (fun b => ⟨[(3, .ptr 3 0), (34, .t (tB b))], [(3, .box (x76_0 f2))]⟩) rfl ?_ ?_ ?_)
 ·exact TieO.run 4 rfl (.nil (.leaf ⟨rfl, .of rfl rfl⟩))
 ·exact TieO.run 4 rfl (.nil (.leaf ⟨rfl, .of rfl rfl⟩))
 refine TieO.run 1 rfl (.selOr (v := decide (f2.End > 23040)) 4 35 (fun b => ⟨[(3, .ptr 3 0), (39, .t (tB b))], [(3, .box (x76_0 f2))]⟩) rfl ?_ ?_ ?_)
 ·exact TieO.run 4 rfl (.nil (.leaf ⟨rfl, .of rfl rfl⟩))
 ·exact TieO.run 4 rfl (.nil (.leaf ⟨rfl, .of rfl rfl⟩))
 refine TieO.nil (.cond rfl ?_ ?_)
 ·exact TieS.seq (.region (.run 1 rfl (.nil (.ret ⟨.inl rfl, rfl⟩))))
 ·refine TieS.skip (.seq (.seq (.region (.run 4 rfl ?_))))
  refine TieO.bind 5 (fun b2 => ⟨[(3, .ptr 3 0), (48, .t (tB b2))], [(3, .box (x76_0 f2))]⟩) (TieO.split 43 rfl ?_ ?_) fun b2 _ => ?_
  ·exact TieO.run 2 rfl (.call _ rfl rfl rfl (q155 f2.Inject) (fun _ => rfl) fun v2 => .run 2 rfl (.nil (.leaf ⟨rfl, .of rfl rfl⟩)))
  ·exact TieO.run 5 rfl (.nil (.leaf ⟨rfl, .of rfl rfl⟩))
  refine TieO.nil (.cond rfl ?_ ?_)
  ·exact TieS.seq (.region (.run 1 rfl (.nil (.ret ⟨.inl rfl, rfl⟩))))
  ·refine TieS.skip (.seq (.seq (.region (.run 4 rfl ?_))))
   refine TieO.selAnd (v := (f2.Extra == 0)) 4 52 (fun b => ⟨[(3, .ptr 3 0), (56, .t (tB b))], [(3, .box (x76_0 f2))]⟩) rfl ?_ ?_ ?_
   ·exact TieO.run 4 rfl (.nil (.leaf ⟨rfl, .of rfl rfl⟩))
   ·exact TieO.run 4 rfl (.nil (.leaf ⟨rfl, .of rfl rfl⟩))
   refine TieO.nil (.cond rfl ?_ ?_)
   ·exact TieS.seq (.region (.run 1 rfl (.nil (.ret ⟨.inl rfl, rfl⟩))))
   ·refine TieS.skip (.seq (.region (.run 4 rfl (.bind 4 (fun b3 => ⟨[(3, .ptr 3 0), (64, .t (tB b3))], [(3, .box (x76_0 f2))]⟩) (TieO.split 60 rfl ?_ ?_) fun b3 _ => ?_))))
    ·exact TieO.run 2 rfl (.call _ rfl rfl rfl (q155 f2.Gap) (fun _ => rfl) fun v3 => .run 1 rfl (.nil (.leaf ⟨rfl, .of rfl rfl⟩)))
    ·exact TieO.run 4 rfl (.nil (.leaf ⟨rfl, .of rfl rfl⟩))
    refine TieO.run 1 rfl (.bind 4 (fun b4 => ⟨[(69, .t (tB b4))], []⟩) (TieO.split 65 rfl ?_ ?_) fun b4 _ => ?_)
    ·exact TieO.run 2 rfl (.call _ rfl rfl rfl (q155 f2.Extra) (fun _ => rfl) fun v4 => .run 1 rfl (.nil (.leaf ⟨rfl, .of rfl rfl⟩)))
    ·exact TieO.run 4 rfl (.nil (.leaf ⟨rfl, .of rfl rfl⟩))
    exact TieO.run 1 rfl (.nil (.ret ⟨.inl rfl, rfl⟩))
set_option maxRecDepth 100000 in
theorem q212 (e2 : SEngine) (l : List SFire) : TieF Tryz.prog 30 [q52 e2, .t (tS q14 l)] (q97 e2 l) (fun r => .t (tB r)) := by
 refine TieF.intro htab 36 [.tmp 4] Tryz.call30 Tryz.func30 rfl rfl rfl (Nat.le_of_ble_eq_true rfl) fun w0 L => ?_
 refine TieS.seq (.region (.run 2 rfl (.nil (.seq ?_))))
 refine TieS.seq (.region (.run 1 rfl (.nil (.block ?_))))
 refine TieS.loop (fun t => ⟨[(1, .t (tS q14 l)), (2, .ptr 2 0), (5, .t (tI t))], [(2, .box [.t (tS Pv.encI e2.Order), .t (tI e2.First)])]⟩) (fun b e σ' => match b with | .inl t => e = .exit 0 ∧ Sub ⟨[], []⟩ σ' | .inr t => e = .ret ∧ retT tab σ' [.tmp 4] = some (((fun r => .t (tB r)) : Bool → T) t)) (.of rfl rfl) ?_ ?_
 ·intro i
  refine TieS.seq (.seq (.region (.run 4 rfl (.nil ?_))))
  refine TieS.cond rfl ?_ ?_
  ·refine TieS.skip (.seq (.block (.seq (.seq ?_))))
   refine TieX.pre fun x hx => TieX.pre fun v hv => TieS.draw 7 [_, _, _, _, _, _, _] [(1, .t (tS q14 l)), (2, .ptr 2 0), (5, .t (tI i))] [(2, .box [.t (tS Pv.encI e2.Order), .t (tI e2.First)])] mixed (.of rfl rfl) rfl rfl rfl rfl (.cons (.quiet rfl rfl rfl) (.cons (.quiet rfl rfl rfl) (.cons (.quiet rfl rfl rfl) (.cons (.index hx rfl rfl rfl rfl rfl rfl (fun _ => rfl)) (.cons (.quiet rfl rfl rfl) (.cons (.callV (q312 e2 x) hv rfl rfl rfl rfl) (.cons (.quiet rfl rfl rfl) (.nil)))))))) (.nil (.cond rfl ?_ ?_))
   ·exact TieS.seq (.region (.run 1 rfl (.nil (.ret ⟨(fun h => by cases h), rfl, rfl⟩))))
   ·refine TieS.skip (.seq (.region (.run 1 rfl (.nil ?_))))
    refine TieS.block (.loop (fun t => ⟨[(1, .t (tS q14 l)), (2, .ptr 2 0), (5, .t (tI i)), (6, .t (tI t))], [(2, .box [.t (tS Pv.encI e2.Order), .t (tI e2.First)])]⟩) (fun b e σ' => match b with | .inl t => e = .exit 2 ∧ Sub ⟨[(1, .t (tS q14 l)), (2, .ptr 2 0), (5, .t (tI i))], [(2, .box [.t (tS Pv.encI e2.Order), .t (tI e2.First)])]⟩ σ' | .inr t => e = .ret ∧ retT tab σ' [.tmp 4] = some (((fun r => .t (tB r)) : Bool → T) t)) (.of rfl rfl) ?_ ?_)
    ·intro k
     refine TieS.seq (.seq (.region (.run 3 rfl (.nil ?_))))
     refine TieS.cond rfl ?_ ?_
     ·refine TieS.skip (.seq (.block (.seq (TieX.pre fun x2 hx2 => ?_))))
      refine TieS.draw 11 [_, _, _, _, _, _, _, _, _, _, _] [(1, .t (tS q14 l)), (2, .ptr 2 0), (5, .t (tI i)), (6, .t (tI k))] [(2, .box [.t (tS Pv.encI e2.Order), .t (tI e2.First)])] mixed (.of rfl rfl) rfl rfl rfl rfl (.cons (.quiet rfl rfl rfl) (.cons (.quiet rfl rfl rfl) (.cons (.index hx2 rfl rfl rfl rfl rfl rfl (fun _ => rfl)) (.cons (.quiet rfl rfl rfl) (.cons (.quiet rfl rfl rfl) (.cons (.quiet rfl rfl rfl) (.cons (.quiet rfl rfl rfl) (.cons (.index hx rfl rfl rfl rfl rfl rfl (fun _ => rfl)) (.cons (.quiet rfl rfl rfl) (.cons (.quiet rfl rfl rfl) (.cons (.quiet rfl rfl rfl) (.nil)))))))))))) (.nil (.cond rfl ?_ ?_))
      ·exact TieS.seq (.region (.run 1 rfl (.nil (.ret ⟨(fun h => by cases h), rfl, rfl⟩))))
      ·refine TieS.skip (.endb (.region (.run 3 rfl (.nil ?_))))
       exact TieS.leaf ⟨rfl, .of rfl rfl⟩
     ·exact TieS.exitOut rfl ⟨(fun h => by cases h), rfl, .of rfl rfl⟩
    rintro (k2 | r2) e σ' _ hq
    ·obtain ⟨rfl, hs⟩ := hq
     refine TieX.exit rfl (TieX.sub hs ?_)
     exact TieS.endb (.region (.run 3 rfl (.nil (.leaf ⟨rfl, .of rfl rfl⟩))))
    ·obtain ⟨rfl, hs⟩ := hq
     exact TieX.ret ⟨(fun h => by cases h), rfl, hs⟩
  ·exact TieS.exitOut rfl ⟨(fun h => by cases h), rfl, .of rfl rfl⟩
 rintro (i2 | r3) e σ' _ hq
 ·obtain ⟨rfl, hs⟩ := hq
  refine TieX.exit rfl (TieX.sub hs ?_)
  exact TieS.seq (.region (.run 1 rfl (.nil (.ret ⟨.inl rfl, rfl⟩))))
 ·obtain ⟨rfl, hs⟩ := hq
  exact TieX.ret ⟨.inl rfl, hs⟩
set_option maxRecDepth 100000 in
theorem q307 (t2 : Int) : TieF Tryz.prog 97 [.t (tI t2)] (q217 t2) (fun r => .t (tB r)) := by
 refine TieF.intro htab 9 [.tmp 2] Tryz.call97 Tryz.func97 rfl rfl rfl (Nat.le_of_ble_eq_true rfl) fun w0 L => ?_
 refine TieS.seq (.region (.run 1 rfl (.nil (.seq ?_))))
 refine TieS.region (.run 3 rfl (.selAnd (v := decide (t2 ≤ 1099511627776)) 3 5 (fun b => ⟨[(8, .t (tB b))], []⟩) rfl ?_ ?_ ?_))
 ·exact TieO.run 3 rfl (.nil (.leaf ⟨rfl, .of rfl rfl⟩))
 ·exact TieO.run 3 rfl (.nil (.leaf ⟨rfl, .of rfl rfl⟩))
 exact TieO.run 1 rfl (.nil (.ret ⟨.inl rfl, rfl⟩))
abbrev x45_0 (c : SClock) : List T := [.t (tB c.Valid), .t (tI c.At), .t (tI c.Angle), .t (tI c.Period), .t (tI c.Space), .t (tI c.Ahead)]
set_option maxRecDepth 100000 in
set_option maxHeartbeats 4000000 in
theorem q298 (c : SClock) : TieF Tryz.prog 45 [q194 c] (q149 c) (fun r => .t (tB r)) := by
 refine TieF.intro htab 65 [.tmp 2] Tryz.call45 Tryz.func45 rfl rfl rfl (Nat.le_of_ble_eq_true rfl) fun w0 L => ?_
 refine TieS.seq (.region (.run 2 rfl (.nil (.seq ?_))))
 refine TieS.seq (.region (.run 3 rfl (.nil (.cond rfl ?_ ?_))))
 ·refine TieS.seq (.region (.run 2 rfl (.eqS [.bool c.Valid, .int .i64 c.At, .int .i64 c.Angle, .int .i64 c.Period, .int .i64 c.Space, .int .i64 c.Ahead] [.bool false, .int .i64 0, .int .i64 0, .int .i64 0, .int .i64 0, .int .i64 0] (eqv_26 c.Valid c.At c.Angle c.Period c.Space c.Ahead false 0 0 0 0 0) rfl rfl rfl rfl rfl rfl (.run 1 rfl ?_))))
  exact TieO.nil (.ret ⟨.inl rfl, rfl⟩)
 ·refine TieS.skip (.seq (.region (.run 2 rfl (.call _ rfl rfl rfl (q307 c.At) (fun _ => rfl) fun v => ?_))))
  refine TieO.run 1 rfl (.selAnd (v := decide (c.Angle ≥ 0)) 4 12 (fun b => ⟨[(1, .ptr 1 0), (16, .t (tB b))], [(1, .box (x45_0 c))]⟩) rfl ?_ ?_ ?_)
  ·exact TieO.run 4 rfl (.nil (.leaf ⟨rfl, .of rfl rfl⟩))
  ·exact TieO.run 4 rfl (.nil (.leaf ⟨rfl, .of rfl rfl⟩))
  refine TieO.run 1 rfl (.selAnd (v := decide (c.Angle < 46080)) 4 17 (fun b => ⟨[(1, .ptr 1 0), (21, .t (tB b))], [(1, .box (x45_0 c))]⟩) rfl ?_ ?_ ?_)
  ·exact TieO.run 4 rfl (.nil (.leaf ⟨rfl, .of rfl rfl⟩))
  ·exact TieO.run 4 rfl (.nil (.leaf ⟨rfl, .of rfl rfl⟩))
  refine TieO.run 1 rfl (.selAnd (v := decide (c.Period ≥ 1)) 4 22 (fun b => ⟨[(1, .ptr 1 0), (26, .t (tB b))], [(1, .box (x45_0 c))]⟩) rfl ?_ ?_ ?_)
  ·exact TieO.run 4 rfl (.nil (.leaf ⟨rfl, .of rfl rfl⟩))
  ·exact TieO.run 4 rfl (.nil (.leaf ⟨rfl, .of rfl rfl⟩))
  refine TieO.run 1 rfl (.selAnd (v := decide (c.Period ≤ 1073741824)) 4 27 (fun b => ⟨[(1, .ptr 1 0), (31, .t (tB b))], [(1, .box (x45_0 c))]⟩) rfl ?_ ?_ ?_)
  ·exact TieO.run 4 rfl (.nil (.leaf ⟨rfl, .of rfl rfl⟩))
  ·exact TieO.run 4 rfl (.nil (.leaf ⟨rfl, .of rfl rfl⟩))
  refine TieO.run 1 rfl (.selAnd (v := decide (c.Space ≥ 192)) 4 32 (fun b => ⟨[(1, .ptr 1 0), (36, .t (tB b))], [(1, .box (x45_0 c))]⟩) rfl ?_ ?_ ?_)
  ·exact TieO.run 4 rfl (.nil (.leaf ⟨rfl, .of rfl rfl⟩))
  ·exact TieO.run 4 rfl (.nil (.leaf ⟨rfl, .of rfl rfl⟩))
  refine TieO.run 1 rfl (.selAnd (v := decide (c.Space ≤ 1920)) 4 37 (fun b => ⟨[(1, .ptr 1 0), (41, .t (tB b))], [(1, .box (x45_0 c))]⟩) rfl ?_ ?_ ?_)
  ·exact TieO.run 4 rfl (.nil (.leaf ⟨rfl, .of rfl rfl⟩))
  ·exact TieO.run 4 rfl (.nil (.leaf ⟨rfl, .of rfl rfl⟩))
  refine TieO.run 1 rfl (.bind 22 (fun b2 => ⟨[(64, .t (tB b2))], []⟩) (TieO.split 42 rfl ?_ ?_) fun b2 _ => ?_)
  ·refine TieO.run 6 rfl (.selOr (v := (c.Ahead == (w64 (2 * c.Space)))) 7 48 (fun b => ⟨[(1, .ptr 1 0), (42, .t (tB true)), (55, .t (tB b))], [(1, .box (x45_0 c))]⟩) rfl ?_ ?_ ?_)
   ·exact TieO.run 7 rfl (.nil (.leaf ⟨rfl, .of rfl rfl⟩))
   ·exact TieO.run 7 rfl (.nil (.leaf ⟨rfl, .of rfl rfl⟩))
   refine TieO.run 1 rfl (.selOr (v := (c.Ahead == (w64 (3 * c.Space)))) 7 56 (fun b => ⟨[(42, .t (tB true)), (63, .t (tB b))], []⟩) rfl ?_ ?_ ?_)
   ·exact TieO.run 7 rfl (.nil (.leaf ⟨rfl, .of rfl rfl⟩))
   ·exact TieO.run 7 rfl (.nil (.leaf ⟨rfl, .of rfl rfl⟩))
   exact TieO.run 1 rfl (.nil (.leaf ⟨rfl, .of rfl rfl⟩))
  ·exact TieO.run 22 rfl (.nil (.leaf ⟨rfl, .of rfl rfl⟩))
  exact TieO.run 1 rfl (.nil (.ret ⟨.inl rfl, rfl⟩))
set_option maxRecDepth 100000 in
theorem q219 (a : Int) : TieF Tryz.prog 111 [.t (tI a)] (q110 a) (fun r => .t (tB r)) := by
 refine TieF.intro htab 9 [.tmp 2] Tryz.call111 Tryz.func111 rfl rfl rfl (Nat.le_of_ble_eq_true rfl) fun w0 L => ?_
 refine TieS.seq (.region (.run 1 rfl (.nil (.seq ?_))))
 refine TieS.region (.run 3 rfl (.selAnd (v := decide (a < 46080)) 3 5 (fun b => ⟨[(8, .t (tB b))], []⟩) rfl ?_ ?_ ?_))
 ·exact TieO.run 3 rfl (.nil (.leaf ⟨rfl, .of rfl rfl⟩))
 ·exact TieO.run 3 rfl (.nil (.leaf ⟨rfl, .of rfl rfl⟩))
 exact TieO.run 1 rfl (.nil (.ret ⟨.inl rfl, rfl⟩))
set_option maxRecDepth 100000 in
set_option maxHeartbeats 4000000 in
theorem q305 (e2 : SEngine) : TieF Tryz.prog 69 [q52 e2] (q145 e2) (fun r => .t (tB r)) := by
 refine TieF.intro htab 57 [.tmp 2] Tryz.call69 Tryz.func69 rfl rfl rfl (Nat.le_of_ble_eq_true rfl) fun w0 L => ?_
 refine TieS.seq (.region (.run 2 rfl (.nil (.seq ?_))))
 refine TieS.region (.run 4 rfl (.nil (.seq (.seq ?_))))
 refine TieS.region (.run 3 rfl (.selOr (v := decide ((e2.Order.length : Int) > 8)) 3 11 (fun b => ⟨[(1, .ptr 1 0), (3, .t (tI (e2.Order.length : Int))), (14, .t (tB b))], [(1, .box [.t (tS Pv.encI e2.Order), .t (tI e2.First)])]⟩) rfl ?_ ?_ ?_))
 ·exact TieO.run 3 rfl (.nil (.leaf ⟨rfl, .of rfl rfl⟩))
 ·exact TieO.run 3 rfl (.nil (.leaf ⟨rfl, .of rfl rfl⟩))
 refine TieO.run 1 rfl (.bind 5 (fun b2 => ⟨[(1, .ptr 1 0), (3, .t (tI (e2.Order.length : Int))), (20, .t (tB b2))], [(1, .box [.t (tS Pv.encI e2.Order), .t (tI e2.First)])]⟩) (TieO.split 15 rfl ?_ ?_) fun b2 _ => ?_)
 ·exact TieO.run 5 rfl (.nil (.leaf ⟨rfl, .of rfl rfl⟩))
 ·exact TieO.run 2 rfl (.call _ rfl rfl rfl (q219 e2.First) (fun _ => rfl) fun v => .run 2 rfl (.nil (.leaf ⟨rfl, .of rfl rfl⟩)))
 refine TieO.nil (.cond rfl ?_ ?_)
 ·exact TieS.seq (.region (.run 1 rfl (.nil (.ret ⟨.inl rfl, rfl⟩))))
 ·refine TieS.skip (.seq (.seq (.region (.run 1 rfl ?_))))
  refine TieO.nil (.block (.loop (fun t => ⟨[(1, .ptr 1 0), (3, .t (tI (e2.Order.length : Int))), (4, .t (tI t))], [(1, .box [.t (tS Pv.encI e2.Order), .t (tI e2.First)])]⟩) (fun b e σ' => match b with | .inl t => e = .exit 0 ∧ Sub ⟨[], []⟩ σ' | .inr t => e = .ret ∧ retT tab σ' [.tmp 2] = some (((fun r => .t (tB r)) : Bool → T) t)) (.of rfl rfl) ?_ ?_))
  ·intro i
   refine TieS.seq (.seq (.region (.run 3 rfl (.nil ?_))))
   refine TieS.cond rfl ?_ ?_
   ·refine TieS.skip (.seq (.block (.seq (.seq ?_))))
    refine TieS.region (.run 3 rfl (.index rfl rfl rfl rfl rfl rfl rfl rfl (fun _ => rfl) fun x hx => .run 3 rfl (.bind 8 (fun b3 => ⟨[(1, .ptr 1 0), (3, .t (tI (e2.Order.length : Int))), (4, .t (tI i)), (40, .t (tB b3))], [(1, .box [.t (tS Pv.encI e2.Order), .t (tI e2.First)])]⟩) (TieO.split 32 rfl ?_ ?_) fun b3 _ => ?_)))
    ·exact TieO.run 8 rfl (.nil (.leaf ⟨rfl, .of rfl rfl⟩))
    ·exact TieO.run 3 rfl (.indexH hx rfl rfl rfl rfl rfl rfl rfl rfl (fun _ => rfl) (.run 4 rfl (.nil (.leaf ⟨rfl, .of rfl rfl⟩))))
    refine TieO.nil (.cond rfl ?_ ?_)
    ·exact TieS.seq (.region (.run 1 rfl (.nil (.ret ⟨(fun h => by cases h), rfl, rfl⟩))))
    ·refine TieS.skip (.seq (.region (.run 1 rfl (.nil ?_))))
     refine TieS.block (.loop (fun t => ⟨[(1, .ptr 1 0), (3, .t (tI (e2.Order.length : Int))), (4, .t (tI i)), (5, .t (tI t))], [(1, .box [.t (tS Pv.encI e2.Order), .t (tI e2.First)])]⟩) (fun b e σ' => match b with | .inl t => e = .exit 2 ∧ Sub ⟨[(1, .ptr 1 0), (3, .t (tI (e2.Order.length : Int))), (4, .t (tI i))], [(1, .box [.t (tS Pv.encI e2.Order), .t (tI e2.First)])]⟩ σ' | .inr t => e = .ret ∧ retT tab σ' [.tmp 2] = some (((fun r => .t (tB r)) : Bool → T) t)) (.of rfl rfl) ?_ ?_)
     ·intro k
      refine TieS.seq (.seq (.region (.run 3 rfl (.nil ?_))))
      refine TieS.cond rfl ?_ ?_
      ·refine TieS.skip (.seq (.block (.seq (TieX.pre fun x2 hx2 => ?_))))
       refine TieS.draw 11 [_, _, _, _, _, _, _, _, _, _, _] [(1, .ptr 1 0), (3, .t (tI (e2.Order.length : Int))), (4, .t (tI i)), (5, .t (tI k))] [(1, .box [.t (tS Pv.encI e2.Order), .t (tI e2.First)])] mixed (.of rfl rfl) rfl rfl rfl rfl (.cons (.quiet rfl rfl rfl) (.cons (.quiet rfl rfl rfl) (.cons (.quiet rfl rfl rfl) (.cons (.index hx2 rfl rfl rfl rfl rfl rfl (fun _ => rfl)) (.cons (.quiet rfl rfl rfl) (.cons (.quiet rfl rfl rfl) (.cons (.quiet rfl rfl rfl) (.cons (.quiet rfl rfl rfl) (.cons (.index hx rfl rfl rfl rfl rfl rfl (fun _ => rfl)) (.cons (.quiet rfl rfl rfl) (.cons (.quiet rfl rfl rfl) (.nil)))))))))))) (.nil (.cond rfl ?_ ?_))
       ·exact TieS.seq (.region (.run 1 rfl (.nil (.ret ⟨(fun h => by cases h), rfl, rfl⟩))))
       ·refine TieS.skip (.endb (.region (.run 3 rfl (.nil ?_))))
        exact TieS.leaf ⟨rfl, .of rfl rfl⟩
      ·exact TieS.exitOut rfl ⟨(fun h => by cases h), rfl, .of rfl rfl⟩
     rintro (k2 | r2) e σ' _ hq
     ·obtain ⟨rfl, hs⟩ := hq
      refine TieX.exit rfl (TieX.sub hs ?_)
      exact TieS.endb (.region (.run 3 rfl (.nil (.leaf ⟨rfl, .of rfl rfl⟩))))
     ·obtain ⟨rfl, hs⟩ := hq
      exact TieX.ret ⟨(fun h => by cases h), rfl, hs⟩
   ·exact TieS.exitOut rfl ⟨(fun h => by cases h), rfl, .of rfl rfl⟩
  rintro (i2 | r3) e σ' _ hq
  ·obtain ⟨rfl, hs⟩ := hq
   refine TieX.exit rfl (TieX.sub hs ?_)
   exact TieS.seq (.region (.run 1 rfl (.nil (.ret ⟨.inl rfl, rfl⟩))))
  ·obtain ⟨rfl, hs⟩ := hq
   exact TieX.ret ⟨.inl rfl, hs⟩
set_option maxRecDepth 100000 in
set_option maxHeartbeats 4000000 in
theorem q300 (t2 : STimer) : TieF Tryz.prog 70 [q64 t2] (q142 t2) (fun r => .t (tB r)) := by
 refine TieF.intro htab 65 [.tmp 2] Tryz.call70 Tryz.func70 rfl rfl rfl (Nat.le_of_ble_eq_true rfl) fun w0 L => ?_
 refine TieS.seq (.region (.run 2 rfl (.nil (.seq ?_))))
 refine TieS.seq (.region (.run 4 rfl (.selOr (v := decide (t2.Now > 1099511627776)) 4 8 (fun b => ⟨[(1, .ptr 1 0), (12, .t (tB b))], [(1, .box [.t (tI t2.Now), .t (tS q11 t2.Channels)])]⟩) rfl ?_ ?_ ?_)))
 ·exact TieO.run 4 rfl (.nil (.leaf ⟨rfl, .of rfl rfl⟩))
 ·exact TieO.run 4 rfl (.nil (.leaf ⟨rfl, .of rfl rfl⟩))
 refine TieO.run 1 rfl (.selOr (v := decide ((t2.Channels.length : Int) < 1)) 5 13 (fun b => ⟨[(1, .ptr 1 0), (18, .t (tB b))], [(1, .box [.t (tI t2.Now), .t (tS q11 t2.Channels)])]⟩) rfl ?_ ?_ ?_)
 ·exact TieO.run 5 rfl (.nil (.leaf ⟨rfl, .of rfl rfl⟩))
 ·exact TieO.run 5 rfl (.nil (.leaf ⟨rfl, .of rfl rfl⟩))
 refine TieO.run 1 rfl (.selOr (v := decide ((t2.Channels.length : Int) > 16)) 5 19 (fun b => ⟨[(1, .ptr 1 0), (24, .t (tB b))], [(1, .box [.t (tI t2.Now), .t (tS q11 t2.Channels)])]⟩) rfl ?_ ?_ ?_)
 ·exact TieO.run 5 rfl (.nil (.leaf ⟨rfl, .of rfl rfl⟩))
 ·exact TieO.run 5 rfl (.nil (.leaf ⟨rfl, .of rfl rfl⟩))
 refine TieO.nil (.cond rfl ?_ ?_)
 ·exact TieS.seq (.region (.run 1 rfl (.nil (.ret ⟨.inl rfl, rfl⟩))))
 ·refine TieS.skip (.seq (.seq (.region (.run 1 rfl ?_))))
  refine TieO.nil (.block (.loop (fun t => ⟨[(1, .ptr 1 0), (3, .t (tI t))], [(1, .box [.t (tI t2.Now), .t (tS q11 t2.Channels)])]⟩) (fun b e σ' => match b with | .inl t => e = .exit 0 ∧ Sub ⟨[], []⟩ σ' | .inr t => e = .ret ∧ retT tab σ' [.tmp 2] = some (((fun r => .t (tB r)) : Bool → T) t)) (.of rfl rfl) ?_ ?_))
  ·intro i
   refine TieS.seq (.seq (.region (.run 5 rfl (.nil ?_))))
   refine TieS.cond rfl ?_ ?_
   ·refine TieS.skip (.seq (.block (.seq (.region ?_))))
    refine TieO.run 3 rfl (.index rfl rfl rfl rfl rfl rfl rfl rfl (fun _ => rfl) fun x hx => .run 3 rfl (.nil (.seq ?_)))
    refine TieS.region (.run 3 rfl (.bind 11 (fun b2 => ⟨[(1, .ptr 1 0), (3, .t (tI i)), (4, .ptr 4 0), (50, .t (tB b2))], [(1, .box [.t (tI t2.Now), .t (tS q11 t2.Channels)]), (4, .box [.t (tB x.Armed), .t (tI x.At), .t (tB x.Next), .t (tB x.Level)])]⟩) (TieO.split 39 rfl ?_ ?_) fun b2 _ => ?_))
    ·refine TieO.run 6 rfl (.selOr (v := decide (x.At > 1099511627776)) 4 45 (fun b => ⟨[(1, .ptr 1 0), (3, .t (tI i)), (4, .ptr 4 0), (39, .t (tB true)), (49, .t (tB b))], [(1, .box [.t (tI t2.Now), .t (tS q11 t2.Channels)]), (4, .box [.t (tB x.Armed), .t (tI x.At), .t (tB x.Next), .t (tB x.Level)])]⟩) rfl ?_ ?_ ?_)
     ·exact TieO.run 4 rfl (.nil (.leaf ⟨rfl, .of rfl rfl⟩))
     ·exact TieO.run 4 rfl (.nil (.leaf ⟨rfl, .of rfl rfl⟩))
     exact TieO.run 1 rfl (.nil (.leaf ⟨rfl, .of rfl rfl⟩))
    ·exact TieO.run 11 rfl (.nil (.leaf ⟨rfl, .of rfl rfl⟩))
    refine TieO.run 1 rfl (.bind 13 (fun b4 => ⟨[(1, .ptr 1 0), (3, .t (tI i)), (64, .t (tB b4))], [(1, .box [.t (tI t2.Now), .t (tS q11 t2.Channels)])]⟩) (TieO.split 51 rfl ?_ ?_) fun b4 _ => ?_)
    ·exact TieO.run 13 rfl (.nil (.leaf ⟨rfl, .of rfl rfl⟩))
    ·refine TieO.run 4 rfl (.bind 8 (fun b3 => ⟨[(1, .ptr 1 0), (3, .t (tI i)), (51, .t (tB false)), (63, .t (tB b3))], [(1, .box [.t (tI t2.Now), .t (tS q11 t2.Channels)])]⟩) (TieO.split 55 rfl ?_ ?_) fun b3 _ => ?_)
     ·refine TieO.run 4 rfl (.selOr (v := x.Next) 3 59 (fun b => ⟨[(1, .ptr 1 0), (3, .t (tI i)), (51, .t (tB false)), (55, .t (tB true)), (62, .t (tB b))], [(1, .box [.t (tI t2.Now), .t (tS q11 t2.Channels)])]⟩) rfl ?_ ?_ ?_)
      ·exact TieO.run 3 rfl (.nil (.leaf ⟨rfl, .of rfl rfl⟩))
      ·exact TieO.run 3 rfl (.nil (.leaf ⟨rfl, .of rfl rfl⟩))
      exact TieO.run 1 rfl (.nil (.leaf ⟨rfl, .of rfl rfl⟩))
     ·exact TieO.run 8 rfl (.nil (.leaf ⟨rfl, .of rfl rfl⟩))
     exact TieO.run 1 rfl (.nil (.leaf ⟨rfl, .of rfl rfl⟩))
    refine TieO.nil (.cond rfl ?_ ?_)
    ·exact TieS.seq (.region (.run 1 rfl (.nil (.ret ⟨(fun h => by cases h), rfl, rfl⟩))))
    ·refine TieS.skip (.endb (.region (.run 3 rfl (.nil ?_))))
     exact TieS.leaf ⟨rfl, .of rfl rfl⟩
   ·exact TieS.exitOut rfl ⟨(fun h => by cases h), rfl, .of rfl rfl⟩
  rintro (i2 | r2) e σ' _ hq
  ·obtain ⟨rfl, hs⟩ := hq
   refine TieX.exit rfl (TieX.sub hs ?_)
   exact TieS.seq (.region (.run 1 rfl (.nil (.ret ⟨.inl rfl, rfl⟩))))
  ·obtain ⟨rfl, hs⟩ := hq
   exact TieX.ret ⟨.inl rfl, hs⟩
abbrev x71_0 (x : SEvent) : List T := [.t (tI x.Angle), .t (tI x.Kind), .t (tI x.Cylinder), .t (tI x.Pulse)]
set_option maxRecDepth 100000 in
set_option maxHeartbeats 4000000 in
theorem q306 (l : List SEvent) : TieF Tryz.prog 71 [.t (tS q16 l)] (q123 l) (fun r => .t (tB r)) := by
 refine TieF.intro htab 52 [.tmp 2] Tryz.call71 Tryz.func71 rfl rfl rfl (Nat.le_of_ble_eq_true rfl) fun w0 L => ?_
 refine TieS.seq (.region (.run 1 rfl (.nil (.seq ?_))))
 refine TieS.seq (.region (.run 3 rfl (.nil (.cond rfl ?_ ?_))))
 ·exact TieS.seq (.region (.run 1 rfl (.nil (.ret ⟨.inl rfl, rfl⟩))))
 ·refine TieS.skip (.seq (.seq (.region (.run 1 rfl ?_))))
  refine TieO.nil (.block (.loop (fun t => ⟨[(0, .t (tS q16 l)), (3, .t (tI t))], []⟩) (fun b e σ' => match b with | .inl t => e = .exit 0 ∧ Sub ⟨[], []⟩ σ' | .inr t => e = .ret ∧ retT tab σ' [.tmp 2] = some (((fun r => .t (tB r)) : Bool → T) t)) (.of rfl rfl) ?_ ?_))
  ·intro i
   refine TieS.seq (.seq (.region (.run 4 rfl (.nil ?_))))
   refine TieS.cond rfl ?_ ?_
   ·refine TieS.skip (.seq (.block (.seq (.region ?_))))
    refine TieO.run 2 rfl (.index rfl rfl rfl rfl rfl rfl rfl rfl (fun _ => rfl) fun x hx => .run 3 rfl (.nil (.seq ?_)))
    refine TieS.region (.run 2 rfl (.call _ rfl rfl rfl (q219 x.Angle) (fun _ => rfl) fun v => .run 2 rfl (.selOr (v := decide (x.Kind < 1)) 4 22 (fun b => ⟨[(0, .t (tS q16 l)), (3, .t (tI i)), (4, .ptr 4 0), (26, .t (tB b))], [(4, .box (x71_0 x))]⟩) rfl ?_ ?_ ?_)))
    ·exact TieO.run 4 rfl (.nil (.leaf ⟨rfl, .of rfl rfl⟩))
    ·exact TieO.run 4 rfl (.nil (.leaf ⟨rfl, .of rfl rfl⟩))
    refine TieO.run 1 rfl (.selOr (v := decide (x.Kind > 4)) 4 27 (fun b => ⟨[(0, .t (tS q16 l)), (3, .t (tI i)), (4, .ptr 4 0), (31, .t (tB b))], [(4, .box (x71_0 x))]⟩) rfl ?_ ?_ ?_)
    ·exact TieO.run 4 rfl (.nil (.leaf ⟨rfl, .of rfl rfl⟩))
    ·exact TieO.run 4 rfl (.nil (.leaf ⟨rfl, .of rfl rfl⟩))
    refine TieO.run 1 rfl (.selOr (v := decide (x.Cylinder < 1)) 4 32 (fun b => ⟨[(0, .t (tS q16 l)), (3, .t (tI i)), (4, .ptr 4 0), (36, .t (tB b))], [(4, .box (x71_0 x))]⟩) rfl ?_ ?_ ?_)
    ·exact TieO.run 4 rfl (.nil (.leaf ⟨rfl, .of rfl rfl⟩))
    ·exact TieO.run 4 rfl (.nil (.leaf ⟨rfl, .of rfl rfl⟩))
    refine TieO.run 1 rfl (.selOr (v := decide (x.Cylinder > 8)) 4 37 (fun b => ⟨[(0, .t (tS q16 l)), (3, .t (tI i)), (4, .ptr 4 0), (41, .t (tB b))], [(4, .box (x71_0 x))]⟩) rfl ?_ ?_ ?_)
    ·exact TieO.run 4 rfl (.nil (.leaf ⟨rfl, .of rfl rfl⟩))
    ·exact TieO.run 4 rfl (.nil (.leaf ⟨rfl, .of rfl rfl⟩))
    refine TieO.run 1 rfl (.selOr (v := decide (x.Pulse < 0)) 4 42 (fun b => ⟨[(0, .t (tS q16 l)), (3, .t (tI i)), (4, .ptr 4 0), (46, .t (tB b))], [(4, .box (x71_0 x))]⟩) rfl ?_ ?_ ?_)
    ·exact TieO.run 4 rfl (.nil (.leaf ⟨rfl, .of rfl rfl⟩))
    ·exact TieO.run 4 rfl (.nil (.leaf ⟨rfl, .of rfl rfl⟩))
    refine TieO.run 1 rfl (.selOr (v := decide (x.Pulse > 2)) 4 47 (fun b => ⟨[(0, .t (tS q16 l)), (3, .t (tI i)), (51, .t (tB b))], []⟩) rfl ?_ ?_ ?_)
    ·exact TieO.run 4 rfl (.nil (.leaf ⟨rfl, .of rfl rfl⟩))
    ·exact TieO.run 4 rfl (.nil (.leaf ⟨rfl, .of rfl rfl⟩))
    refine TieO.nil (.cond rfl ?_ ?_)
    ·exact TieS.seq (.region (.run 1 rfl (.nil (.ret ⟨(fun h => by cases h), rfl, rfl⟩))))
    ·refine TieS.skip (.endb (.region (.run 3 rfl (.nil ?_))))
     exact TieS.leaf ⟨rfl, .of rfl rfl⟩
   ·exact TieS.exitOut rfl ⟨(fun h => by cases h), rfl, .of rfl rfl⟩
  rintro (i2 | r2) e σ' _ hq
  ·obtain ⟨rfl, hs⟩ := hq
   refine TieX.exit rfl (TieX.sub hs ?_)
   exact TieS.seq (.region (.run 1 rfl (.nil (.ret ⟨.inl rfl, rfl⟩))))
  ·obtain ⟨rfl, hs⟩ := hq
   exact TieX.ret ⟨.inl rfl, hs⟩
set_option maxRecDepth 100000 in
theorem q202 (x : SEvent) : TieF Tryz.prog 26 [q233 x] (q45 x) (fun r => .t (tI r)) := by
 refine TieF.intro htab 20 [.tmp 2] Tryz.call26 Tryz.func26 rfl rfl rfl (Nat.le_of_ble_eq_true rfl) fun w0 L => ?_
 refine TieS.seq (.region (.run 2 rfl (.nil (.seq ?_))))
 refine TieS.seq (.region (.run 4 rfl (.selOr (v := (x.Kind == 2)) 4 6 (fun b => ⟨[(1, .ptr 1 0), (10, .t (tB b))], [(1, .box [.t (tI x.Angle), .t (tI x.Kind), .t (tI x.Cylinder), .t (tI x.Pulse)])]⟩) rfl ?_ ?_ ?_)))
 ·exact TieO.run 4 rfl (.nil (.leaf ⟨rfl, .of rfl rfl⟩))
 ·exact TieO.run 4 rfl (.nil (.leaf ⟨rfl, .of rfl rfl⟩))
 refine TieO.nil (.cond rfl ?_ ?_)
 ·exact TieS.seq (.region (.run 5 rfl (.nil (.ret ⟨.inl rfl, rfl⟩))))
 ·refine TieS.skip (.seq (.region (.run 6 rfl (.nil ?_))))
  exact TieS.ret ⟨.inl rfl, rfl⟩
set_option maxRecDepth 100000 in
theorem q344 (l : List SJob) (channel : Int) : TieF Tryz.prog 72 [.t (tS q13 l), .t (tI channel)] (q190 l channel) (fun r => .t (tS q13 r)) := by
 refine TieF.intro htab 29 [.tmp 4] Tryz.call72 Tryz.func72 rfl rfl rfl (Nat.le_of_ble_eq_true rfl) fun w0 L => ?_
 refine TieS.seq (.region (.run 1 rfl (.nil (.seq ?_))))
 refine TieS.region (.run 1 rfl (.nil (.seq (.seq ?_))))
 refine TieS.region (.run 1 rfl (.nil (.block (TieX.nilP 5 2216 85 7 [] rfl rfl rfl rfl rfl ?_))))
 refine TieS.loop (fun t => ⟨[(0, .t (tS q13 l)), (1, .t (tI channel)), (5, .own 2216), (6, .t (tI t.2))], [(2216, .rs 85 7 t.1 q13)]⟩) (fun b e σ' => match b with | .inl t => e = .exit 0 ∧ Sub ⟨[(5, .own 2216)], [(2216, .rs 85 7 t.1 q13)]⟩ σ' | .inr t => False) (.of rfl rfl) ?_ ?_
 ·intro s
  refine TieS.seq (.seq (.region (.run 4 rfl (.nil ?_))))
  refine TieS.cond rfl ?_ ?_
  ·refine TieS.skip (.seq (.block (.seq (.region ?_))))
   refine TieO.run 2 rfl (.index rfl rfl rfl rfl rfl rfl rfl rfl (fun _ => rfl) fun x hx => .run 2 rfl (.call _ rfl rfl rfl (q202 x.Event) (fun _ => rfl) fun v => .run 2 rfl ?_))
   refine TieO.nil (.cond rfl ?_ ?_)
   ·refine TieS.region (.run 3 rfl (.indexH hx rfl rfl rfl rfl rfl rfl rfl rfl (fun _ => rfl) (.run 2 rfl (.appendY (id := 2216) (l := s.1) (r := ([x] : List SJob)) (tm' := [(0, .t (tS q13 l)), (1, .t (tI channel)), (6, .t (tI s.2)), (7, .t (tI s.2)), (8, .t (tS q13 l)), (9, .t (tI (l.length : Int))), (10, .t (tB (decide (s.2 < (l.length : Int))))), (13, .t (tS q13 l)), (14, .t (tI s.2)), (15, .el (q13 x)), (16, .el (List.drop 0 (q13 x))), (17, .agg [.t (tI x.Event.Angle), .t (tI x.Event.Kind), .t (tI x.Event.Cylinder), .t (tI x.Event.Pulse)]), (18, .t (tI v)), (19, .t (tI channel)), (20, .t (tB (v == channel))), (22, .t (tS q13 l)), (23, .t (tI s.2)), (24, .el (q13 x)), (25, .agg [.t (tI x.Event.Angle), .t (tI x.Event.Kind), .t (tI x.Event.Cylinder), .t (tI x.Event.Pulse), .t (tI x.Left), .t (tB x.Armed), .t (tI x.At)]), (26, .own 26)]) (hp' := [(26, .rs 85 7 ([x] : List SJob) q13)]) rfl rfl rfl rfl rfl rfl rfl (fun _ => rfl) (fun _ => rfl) (.inl ⟨rfl, rfl⟩) (.inr ⟨_, rfl, rfl⟩) (.of rfl rfl) rfl rfl rfl fun l2 => ?_))))
    refine TieO.run 1 rfl (.nil (.endb (.region (.run 3 rfl ?_))))
    exact TieO.nil (.leaf ⟨rfl, .of rfl rfl⟩)
   ·refine TieS.skip (.endb (.region (.run 3 rfl (.nil ?_))))
    exact TieS.leaf ⟨rfl, .of rfl rfl⟩
  ·exact TieS.exitOut rfl ⟨(fun h => by cases h), rfl, .of rfl rfl⟩
 rintro (s2 | r) e σ' _ hq
 ·obtain ⟨rfl, hs⟩ := hq
  refine TieX.exit rfl (TieX.sub hs ?_)
  exact TieS.seq (.region (.run 2 rfl (.nil (.ret ⟨.inl rfl, rfl⟩))))
 ·exact hq.elim
set_option maxRecDepth 100000 in
theorem q252 (kind : Int) : TieF Tryz.prog 104 [.t (tI kind)] (q67 kind) (fun r => .t (tB r)) := by
 refine TieF.intro htab 9 [.tmp 2] Tryz.call104 Tryz.func104 rfl rfl rfl (Nat.le_of_ble_eq_true rfl) fun w0 L => ?_
 refine TieS.seq (.region (.run 1 rfl (.nil (.seq ?_))))
 refine TieS.region (.run 3 rfl (.selOr (v := (kind == 3)) 3 5 (fun b => ⟨[(8, .t (tB b))], []⟩) rfl ?_ ?_ ?_))
 ·exact TieO.run 3 rfl (.nil (.leaf ⟨rfl, .of rfl rfl⟩))
 ·exact TieO.run 3 rfl (.nil (.leaf ⟨rfl, .of rfl rfl⟩))
 exact TieO.run 1 rfl (.nil (.ret ⟨.inl rfl, rfl⟩))
abbrev x73_0 (c : SChannel) : List T := [.t (tB c.Armed), .t (tI c.At), .t (tB c.Next), .t (tB c.Level)]
set_option maxRecDepth 100000 in
set_option maxHeartbeats 4000000 in
theorem q304 (l : List SJob) (c : SChannel) : TieF Tryz.prog 73 [.t (tS q13 l), q174 c] (q146 l c) (fun r => .t (tB r)) := by
 refine TieF.intro htab 83 [.tmp 4] Tryz.call73 Tryz.func73 rfl rfl rfl (Nat.le_of_ble_eq_true rfl) fun w0 L => ?_
 refine TieS.seq (.region (.run 2 rfl (.nil (.seq ?_))))
 refine TieS.seq (.region (.run 3 rfl (.nil (.cond rfl ?_ ?_))))
 ·refine TieS.seq (.region (.run 4 rfl (.selAnd (v := (!c.Armed)) 4 14 (fun b => ⟨[(18, .t (tB b))], []⟩) rfl ?_ ?_ ?_)))
  ·exact TieO.run 4 rfl (.nil (.leaf ⟨rfl, .of rfl rfl⟩))
  ·exact TieO.run 4 rfl (.nil (.leaf ⟨rfl, .of rfl rfl⟩))
  exact TieO.run 1 rfl (.nil (.ret ⟨.inl rfl, rfl⟩))
 ·refine TieS.skip (.seq (.region (.run 3 rfl (.nil ?_))))
  refine TieS.seq (.seq (.region (.run 1 rfl (.nil ?_))))
  refine TieS.block (.loop (fun t => ⟨[(0, .t (tS q13 l)), (3, .ptr 3 0), (5, .t (tB t.1)), (6, .t (tI t.2))], [(3, .box (x73_0 c))]⟩) (fun b e σ' => match b with | .inl t => e = .exit 0 ∧ Sub ⟨[(0, .t (tS q13 l)), (3, .ptr 3 0), (5, .t (tB t.1))], [(3, .box (x73_0 c))]⟩ σ' | .inr t => e = .ret ∧ retT tab σ' [.tmp 4] = some (((fun r => .t (tB r)) : Bool → T) t)) (.of rfl rfl) ?_ ?_)
  ·intro s
   refine TieS.seq (.seq (.region (.run 4 rfl (.nil ?_))))
   refine TieS.cond rfl ?_ ?_
   ·refine TieS.skip (.seq (.block (.seq (.region ?_))))
    refine TieO.run 2 rfl (.index rfl rfl rfl rfl rfl rfl rfl rfl (fun _ => rfl) fun x hx => .run 3 rfl (.call _ rfl rfl rfl (q252 x.Event.Kind) (fun _ => rfl) fun v => .run 1 rfl ?_))
    refine TieO.nil (.seq (.seq (.region (.run 4 rfl ?_))))
    refine TieO.bind 10 (fun b2 => ⟨[(0, .t (tS q13 l)), (3, .ptr 3 0), (6, .t (tI s.2)), (7, .t (tB v)), (47, .t (tB b2))], [(3, .box (x73_0 c))]⟩) (TieO.split 37 rfl ?_ ?_) fun b2 _ => ?_
    ·exact TieO.run 10 rfl (.nil (.leaf ⟨rfl, .of rfl rfl⟩))
    ·refine TieO.run 2 rfl (.indexH hx rfl rfl rfl rfl rfl rfl rfl rfl (fun _ => rfl) (.run 3 rfl (.selAnd (v := decide (s.2 > 0)) 3 43 (fun b => ⟨[(0, .t (tS q13 l)), (3, .ptr 3 0), (6, .t (tI s.2)), (7, .t (tB v)), (37, .t (tB false)), (46, .t (tB b))], [(3, .box (x73_0 c))]⟩) rfl ?_ ?_ ?_)))
     ·exact TieO.run 3 rfl (.nil (.leaf ⟨rfl, .of rfl rfl⟩))
     ·exact TieO.run 3 rfl (.nil (.leaf ⟨rfl, .of rfl rfl⟩))
     exact TieO.run 1 rfl (.nil (.leaf ⟨rfl, .of rfl rfl⟩))
    refine TieO.nil (.cond rfl ?_ ?_)
    ·exact TieS.seq (.region (.run 1 rfl (.nil (.ret ⟨(fun h => by cases h), rfl, rfl⟩))))
    ·refine TieS.skip (.region (.run 2 rfl (.nil (.endb ?_))))
     exact TieS.region (.run 3 rfl (.nil (.leaf ⟨rfl, .of rfl rfl⟩)))
   ·exact TieS.exitOut rfl ⟨(fun h => by cases h), rfl, .of rfl rfl⟩
  rintro (s2 | r2) e σ' _ hq
  ·obtain ⟨rfl, hs⟩ := hq
   refine TieX.exit rfl (TieX.sub hs ?_)
   refine TieS.seq (.seq (.bind (Q₁ := fun t e σ' => e = .normal ∧ Sub ⟨[(82, .t (tB t))], []⟩ σ') ?_ ?_))
   ·refine TieX.split (fun hg => ?_) (fun hg2 => ?_)
    ·exact TieS.draw 34 [_, _, _, _, _, _, _, _, _, _, _, _, _, _, _, _, _, _, _, _, _, _, _, _, _, _, _, _, _, _, _, _, _, _] [(0, .t (tS q13 l)), (3, .ptr 3 0), (5, .t (tB s2.1))] [(3, .box (x73_0 c))] mixed (.of rfl rfl) rfl rfl rfl rfl (.cons (.quiet rfl rfl rfl) (.cons (.cast (congrArg T.B hg) (.quiet rfl rfl rfl)) (.cons (.skip rfl) (.cons (.skip rfl) (.cons (.skip rfl) (.cons (.skip rfl) (.cons (.skip rfl) (.cons (.skip rfl) (.cons (.skip rfl) (.cons (.quiet rfl rfl rfl) (.cons (.quiet rfl rfl rfl) (.cons (.skip rfl) (.cons (.skip rfl) (.cons (.skip rfl) (.cons (.skip rfl) (.cons (.skip rfl) (.cons (.skip rfl) (.cons (.skip rfl) (.cons (.skip rfl) (.cons (.skip rfl) (.cons (.skip rfl) (.cons (.skip rfl) (.cons (.skip rfl) (.cons (.skip rfl) (.cons (.skip rfl) (.cons (.skip rfl) (.cons (.skip rfl) (.cons (.skip rfl) (.cons (.skip rfl) (.cons (.skip rfl) (.cons (.skip rfl) (.cons (.skip rfl) (.cons (.skip rfl) (.cons (.quiet rfl rfl rfl) (.nil))))))))))))))))))))))))))))))))))) (.nil (.leaf ⟨rfl, .of rfl rfl⟩))
    ·refine TieX.pre fun x2 hx2 => TieX.split (fun hg3 => ?_) (fun hg4 => ?_)
     ·exact TieS.draw 34 [_, _, _, _, _, _, _, _, _, _, _, _, _, _, _, _, _, _, _, _, _, _, _, _, _, _, _, _, _, _, _, _, _, _] [(0, .t (tS q13 l)), (3, .ptr 3 0), (5, .t (tB s2.1))] [(3, .box (x73_0 c))] mixed (.of rfl rfl) rfl rfl rfl rfl (.cons (.quiet rfl rfl rfl) (.cons (.cast (congrArg T.B hg2) (.quiet rfl rfl rfl)) (.cons (.quiet rfl rfl rfl) (.cons (.quiet rfl rfl rfl) (.cons (.quiet rfl rfl rfl) (.cons (.index hx2 rfl rfl rfl rfl rfl rfl (fun _ => rfl)) (.cons (.quiet rfl rfl rfl) (.cons (.quiet rfl rfl rfl) (.cons (.quiet rfl rfl rfl) (.cons (.quiet rfl rfl rfl) (.cons (.cast (congrArg T.B hg3) (.quiet rfl rfl rfl)) (.cons (.skip rfl) (.cons (.skip rfl) (.cons (.skip rfl) (.cons (.skip rfl) (.cons (.skip rfl) (.cons (.skip rfl) (.cons (.skip rfl) (.cons (.skip rfl) (.cons (.skip rfl) (.cons (.skip rfl) (.cons (.skip rfl) (.cons (.skip rfl) (.cons (.skip rfl) (.cons (.skip rfl) (.cons (.skip rfl) (.cons (.skip rfl) (.cons (.skip rfl) (.cons (.skip rfl) (.cons (.skip rfl) (.cons (.skip rfl) (.cons (.skip rfl) (.cons (.skip rfl) (.cons (.quiet rfl rfl rfl) (.nil))))))))))))))))))))))))))))))))))) (.nil (.leaf ⟨rfl, .of rfl rfl⟩))
     ·refine TieX.split (fun hg5 => ?_) (fun hg8 => ?_)
      ·refine TieX.split (fun hg6 => ?_) (fun hg7 => ?_)
       ·exact TieS.draw 34 [_, _, _, _, _, _, _, _, _, _, _, _, _, _, _, _, _, _, _, _, _, _, _, _, _, _, _, _, _, _, _, _, _, _] [(0, .t (tS q13 l)), (3, .ptr 3 0), (5, .t (tB s2.1))] [(3, .box (x73_0 c))] mixed (.of rfl rfl) rfl rfl rfl rfl (.cons (.quiet rfl rfl rfl) (.cons (.cast (congrArg T.B hg2) (.quiet rfl rfl rfl)) (.cons (.quiet rfl rfl rfl) (.cons (.quiet rfl rfl rfl) (.cons (.quiet rfl rfl rfl) (.cons (.index hx2 rfl rfl rfl rfl rfl rfl (fun _ => rfl)) (.cons (.quiet rfl rfl rfl) (.cons (.quiet rfl rfl rfl) (.cons (.quiet rfl rfl rfl) (.cons (.quiet rfl rfl rfl) (.cons (.cast (congrArg T.B hg4) (.quiet rfl rfl rfl)) (.cons (.quiet rfl rfl rfl) (.cons (.quiet rfl rfl rfl) (.cons (.cast (congrArg T.B hg5) (.quiet rfl rfl rfl)) (.cons (.quiet rfl rfl rfl) (.cons (.quiet rfl rfl rfl) (.cons (.quiet rfl rfl rfl) (.cons (.index hx2 rfl rfl rfl rfl rfl rfl (fun _ => rfl)) (.cons (.quiet rfl rfl rfl) (.cons (.quiet rfl rfl rfl) (.cons (.quiet rfl rfl rfl) (.cons (.cast (congrArg T.B hg6) (.quiet rfl rfl rfl)) (.cons (.skip rfl) (.cons (.skip rfl) (.cons (.skip rfl) (.cons (.skip rfl) (.cons (.skip rfl) (.cons (.skip rfl) (.cons (.skip rfl) (.cons (.skip rfl) (.cons (.skip rfl) (.cons (.quiet rfl rfl rfl) (.cons (.quiet rfl rfl rfl) (.cons (.quiet rfl rfl rfl) (.nil))))))))))))))))))))))))))))))))))) (.nil (.leaf ⟨rfl, .of rfl rfl⟩))
       ·exact TieX.pre fun v2 hv2 => TieS.draw 34 [_, _, _, _, _, _, _, _, _, _, _, _, _, _, _, _, _, _, _, _, _, _, _, _, _, _, _, _, _, _, _, _, _, _] [(0, .t (tS q13 l)), (3, .ptr 3 0), (5, .t (tB s2.1))] [(3, .box (x73_0 c))] mixed (.of rfl rfl) rfl rfl rfl rfl (.cons (.quiet rfl rfl rfl) (.cons (.cast (congrArg T.B hg2) (.quiet rfl rfl rfl)) (.cons (.quiet rfl rfl rfl) (.cons (.quiet rfl rfl rfl) (.cons (.quiet rfl rfl rfl) (.cons (.index hx2 rfl rfl rfl rfl rfl rfl (fun _ => rfl)) (.cons (.quiet rfl rfl rfl) (.cons (.quiet rfl rfl rfl) (.cons (.quiet rfl rfl rfl) (.cons (.quiet rfl rfl rfl) (.cons (.cast (congrArg T.B hg4) (.quiet rfl rfl rfl)) (.cons (.quiet rfl rfl rfl) (.cons (.quiet rfl rfl rfl) (.cons (.cast (congrArg T.B hg5) (.quiet rfl rfl rfl)) (.cons (.quiet rfl rfl rfl) (.cons (.quiet rfl rfl rfl) (.cons (.quiet rfl rfl rfl) (.cons (.index hx2 rfl rfl rfl rfl rfl rfl (fun _ => rfl)) (.cons (.quiet rfl rfl rfl) (.cons (.quiet rfl rfl rfl) (.cons (.quiet rfl rfl rfl) (.cons (.cast (congrArg T.B hg7) (.quiet rfl rfl rfl)) (.cons (.quiet rfl rfl rfl) (.cons (.quiet rfl rfl rfl) (.cons (.quiet rfl rfl rfl) (.cons (.index hx2 rfl rfl rfl rfl rfl rfl (fun _ => rfl)) (.cons (.quiet rfl rfl rfl) (.cons (.quiet rfl rfl rfl) (.cons (.quiet rfl rfl rfl) (.cons (.callV (q252 x2.Event.Kind) hv2 rfl rfl rfl rfl) (.cons (.quiet rfl rfl rfl) (.cons (.quiet rfl rfl rfl) (.cons (.quiet rfl rfl rfl) (.cons (.quiet rfl rfl rfl) (.nil))))))))))))))))))))))))))))))))))) (.nil (.leaf ⟨rfl, .of rfl rfl⟩))
      ·exact TieS.draw 34 [_, _, _, _, _, _, _, _, _, _, _, _, _, _, _, _, _, _, _, _, _, _, _, _, _, _, _, _, _, _, _, _, _, _] [(0, .t (tS q13 l)), (3, .ptr 3 0), (5, .t (tB s2.1))] [(3, .box (x73_0 c))] mixed (.of rfl rfl) rfl rfl rfl rfl (.cons (.quiet rfl rfl rfl) (.cons (.cast (congrArg T.B hg2) (.quiet rfl rfl rfl)) (.cons (.quiet rfl rfl rfl) (.cons (.quiet rfl rfl rfl) (.cons (.quiet rfl rfl rfl) (.cons (.index hx2 rfl rfl rfl rfl rfl rfl (fun _ => rfl)) (.cons (.quiet rfl rfl rfl) (.cons (.quiet rfl rfl rfl) (.cons (.quiet rfl rfl rfl) (.cons (.quiet rfl rfl rfl) (.cons (.cast (congrArg T.B hg4) (.quiet rfl rfl rfl)) (.cons (.quiet rfl rfl rfl) (.cons (.quiet rfl rfl rfl) (.cons (.cast (congrArg T.B hg8) (.quiet rfl rfl rfl)) (.cons (.skip rfl) (.cons (.skip rfl) (.cons (.skip rfl) (.cons (.skip rfl) (.cons (.skip rfl) (.cons (.skip rfl) (.cons (.skip rfl) (.cons (.skip rfl) (.cons (.skip rfl) (.cons (.skip rfl) (.cons (.skip rfl) (.cons (.skip rfl) (.cons (.skip rfl) (.cons (.skip rfl) (.cons (.skip rfl) (.cons (.skip rfl) (.cons (.skip rfl) (.cons (.skip rfl) (.cons (.quiet rfl rfl rfl) (.cons (.quiet rfl rfl rfl) (.nil))))))))))))))))))))))))))))))))))) (.nil (.leaf ⟨rfl, .of rfl rfl⟩))
   rintro v3 e σ' _ ⟨rfl, hs⟩
   refine TieX.sub hs (TieS.cond rfl ?_ ?_)
   ·exact TieS.seq (.region (.run 1 rfl (.nil (.ret ⟨.inl rfl, rfl⟩))))
   ·refine TieS.skip (.seq (.region (.run 1 rfl (.nil ?_))))
    exact TieS.ret ⟨.inl rfl, rfl⟩
  ·obtain ⟨rfl, hs⟩ := hq
   exact TieX.ret ⟨.inl rfl, hs⟩
abbrev x27_0 (x : SJob) : List T := [.t (tI x.Event.Angle), .t (tI x.Event.Kind), .t (tI x.Event.Cylinder), .t (tI x.Event.Pulse), .t (tI x.Left), .t (tB x.Armed), .t (tI x.At)]
set_option maxRecDepth 100000 in
set_option maxHeartbeats 4000000 in
theorem q221 (s : SScheduler) : TieF Tryz.prog 27 [q22 s] (q112 s) (fun r => .t (tB r)) := by
 refine TieF.intro htab 159 [.tmp 2] Tryz.call27 Tryz.func27 rfl rfl rfl (Nat.le_of_ble_eq_true rfl) fun w0 L => ?_
 refine TieS.seq (.region (.run 2 rfl (.nil (.seq ?_))))
 refine TieS.region (.run 5 rfl (.nil (.seq (.seq ?_))))
 refine TieS.region (.run 2 rfl (.call _ rfl rfl rfl (q305 s.Engine) (fun _ => rfl) fun v => .run 2 rfl (.bind 5 (fun b2 => ⟨[(1, .ptr 1 0), (3, .t (tI (s.Engine.Order.length : Int))), (21, .t (tB b2))], [(1, .box (q10 s))]⟩) (TieO.split 16 rfl ?_ ?_) fun b2 _ => ?_)))
 ·exact TieO.run 5 rfl (.nil (.leaf ⟨rfl, .of rfl rfl⟩))
 ·exact TieO.run 2 rfl (.call _ rfl rfl rfl (q298 s.Clock) (fun _ => rfl) fun v2 => .run 2 rfl (.nil (.leaf ⟨rfl, .of rfl rfl⟩)))
 refine TieO.run 1 rfl (.bind 5 (fun b3 => ⟨[(1, .ptr 1 0), (3, .t (tI (s.Engine.Order.length : Int))), (27, .t (tB b3))], [(1, .box (q10 s))]⟩) (TieO.split 22 rfl ?_ ?_) fun b3 _ => ?_)
 ·exact TieO.run 5 rfl (.nil (.leaf ⟨rfl, .of rfl rfl⟩))
 ·exact TieO.run 2 rfl (.call _ rfl rfl rfl (q300 s.Timer) (fun _ => rfl) fun v3 => .run 2 rfl (.nil (.leaf ⟨rfl, .of rfl rfl⟩)))
 refine TieO.run 1 rfl (.selOr (v := ((s.Timer.Channels.length : Int) != (w64 (2 * (s.Engine.Order.length : Int))))) 8 28 (fun b => ⟨[(1, .ptr 1 0), (3, .t (tI (s.Engine.Order.length : Int))), (36, .t (tB b))], [(1, .box (q10 s))]⟩) rfl ?_ ?_ ?_)
 ·exact TieO.run 8 rfl (.nil (.leaf ⟨rfl, .of rfl rfl⟩))
 ·exact TieO.run 8 rfl (.nil (.leaf ⟨rfl, .of rfl rfl⟩))
 refine TieO.run 1 rfl (.bind 7 (fun b4 => ⟨[(1, .ptr 1 0), (3, .t (tI (s.Engine.Order.length : Int))), (44, .t (tB b4))], [(1, .box (q10 s))]⟩) (TieO.split 37 rfl ?_ ?_) fun b4 _ => ?_)
 ·exact TieO.run 7 rfl (.nil (.leaf ⟨rfl, .of rfl rfl⟩))
 ·exact TieO.run 4 rfl (.call _ rfl rfl rfl (q212 s.Engine s.Next) (fun _ => rfl) fun v4 => .run 2 rfl (.nil (.leaf ⟨rfl, .of rfl rfl⟩)))
 refine TieO.run 1 rfl (.selOr (v := decide ((s.Jobs.length : Int) > 200)) 5 45 (fun b => ⟨[(1, .ptr 1 0), (3, .t (tI (s.Engine.Order.length : Int))), (50, .t (tB b))], [(1, .box (q10 s))]⟩) rfl ?_ ?_ ?_)
 ·exact TieO.run 5 rfl (.nil (.leaf ⟨rfl, .of rfl rfl⟩))
 ·exact TieO.run 5 rfl (.nil (.leaf ⟨rfl, .of rfl rfl⟩))
 refine TieO.nil (.cond rfl ?_ ?_)
 ·exact TieS.seq (.region (.run 1 rfl (.nil (.ret ⟨.inl rfl, rfl⟩))))
 ·refine TieS.skip (.seq (.seq (.region (.run 5 rfl ?_))))
  refine TieO.selAnd (v := decide ((s.Jobs.length : Int) > 0)) 5 55 (fun b => ⟨[(1, .ptr 1 0), (3, .t (tI (s.Engine.Order.length : Int))), (60, .t (tB b))], [(1, .box (q10 s))]⟩) rfl ?_ ?_ ?_
  ·exact TieO.run 5 rfl (.nil (.leaf ⟨rfl, .of rfl rfl⟩))
  ·exact TieO.run 5 rfl (.nil (.leaf ⟨rfl, .of rfl rfl⟩))
  refine TieO.nil (.cond rfl ?_ ?_)
  ·exact TieS.seq (.region (.run 1 rfl (.nil (.ret ⟨.inl rfl, rfl⟩))))
  ·refine TieS.skip (.seq (.seq (.region (.run 1 rfl ?_))))
   refine TieO.nil (.block (.loop (fun t => ⟨[(1, .ptr 1 0), (3, .t (tI (s.Engine.Order.length : Int))), (4, .t (tI t))], [(1, .box (q10 s))]⟩) (fun b e σ' => match b with | .inl t => e = .exit 0 ∧ Sub ⟨[(1, .ptr 1 0), (3, .t (tI (s.Engine.Order.length : Int)))], [(1, .box (q10 s))]⟩ σ' | .inr t => e = .ret ∧ retT tab σ' [.tmp 2] = some (((fun r => .t (tB r)) : Bool → T) t)) (.of rfl rfl) ?_ ?_))
   ·intro i
    refine TieS.seq (.seq (.region (.run 5 rfl (.nil ?_))))
    refine TieS.cond rfl ?_ ?_
    ·refine TieS.skip (.seq (.block (.seq (.region ?_))))
     refine TieO.run 3 rfl (.index rfl rfl rfl rfl rfl rfl rfl rfl (fun _ => rfl) fun x hx => .run 3 rfl (.nil (.seq ?_)))
     refine TieS.region (.run 3 rfl (.callS _ rfl rfl rfl (q306 ([x.Event] : List SEvent)) (fun _ => rfl) (fun _ => rfl) fun v5 => .run 2 rfl (.selOr (v := decide (x.Event.Cylinder > (s.Engine.Order.length : Int))) 6 78 (fun b => ⟨[(1, .ptr 1 0), (3, .t (tI (s.Engine.Order.length : Int))), (4, .t (tI i)), (5, .ptr 5 0), (84, .t (tB b))], [(1, .box (q10 s)), (5, .box (x27_0 x))]⟩) rfl ?_ ?_ ?_)))
     ·exact TieO.run 6 rfl (.nil (.leaf ⟨rfl, .of rfl rfl⟩))
     ·exact TieO.run 6 rfl (.nil (.leaf ⟨rfl, .of rfl rfl⟩))
     refine TieO.run 1 rfl (.selOr (v := decide (x.Left < (-1048576))) 4 85 (fun b => ⟨[(1, .ptr 1 0), (3, .t (tI (s.Engine.Order.length : Int))), (4, .t (tI i)), (5, .ptr 5 0), (89, .t (tB b))], [(1, .box (q10 s)), (5, .box (x27_0 x))]⟩) rfl ?_ ?_ ?_)
     ·exact TieO.run 4 rfl (.nil (.leaf ⟨rfl, .of rfl rfl⟩))
     ·exact TieO.run 4 rfl (.nil (.leaf ⟨rfl, .of rfl rfl⟩))
     refine TieO.run 1 rfl (.selOr (v := decide (x.Left > 1048576)) 4 90 (fun b => ⟨[(1, .ptr 1 0), (3, .t (tI (s.Engine.Order.length : Int))), (4, .t (tI i)), (5, .ptr 5 0), (94, .t (tB b))], [(1, .box (q10 s)), (5, .box (x27_0 x))]⟩) rfl ?_ ?_ ?_)
     ·exact TieO.run 4 rfl (.nil (.leaf ⟨rfl, .of rfl rfl⟩))
     ·exact TieO.run 4 rfl (.nil (.leaf ⟨rfl, .of rfl rfl⟩))
     refine TieO.run 1 rfl (.bind 9 (fun b5 => ⟨[(1, .ptr 1 0), (3, .t (tI (s.Engine.Order.length : Int))), (4, .t (tI i)), (104, .t (tB b5))], [(1, .box (q10 s))]⟩) (TieO.split 95 rfl ?_ ?_) fun b5 _ => ?_)
     ·exact TieO.run 9 rfl (.nil (.leaf ⟨rfl, .of rfl rfl⟩))
     ·refine TieO.run 4 rfl (.selAnd (v := (x.At != 0)) 4 99 (fun b => ⟨[(1, .ptr 1 0), (3, .t (tI (s.Engine.Order.length : Int))), (4, .t (tI i)), (95, .t (tB false)), (103, .t (tB b))], [(1, .box (q10 s))]⟩) rfl ?_ ?_ ?_)
      ·exact TieO.run 4 rfl (.nil (.leaf ⟨rfl, .of rfl rfl⟩))
      ·exact TieO.run 4 rfl (.nil (.leaf ⟨rfl, .of rfl rfl⟩))
      exact TieO.run 1 rfl (.nil (.leaf ⟨rfl, .of rfl rfl⟩))
     refine TieO.nil (.cond rfl ?_ ?_)
     ·exact TieS.seq (.region (.run 1 rfl (.nil (.ret ⟨(fun h => by cases h), rfl, rfl⟩))))
     ·refine TieS.skip (.endb (.region (.run 3 rfl (.nil ?_))))
      exact TieS.leaf ⟨rfl, .of rfl rfl⟩
    ·exact TieS.exitOut rfl ⟨(fun h => by cases h), rfl, .of rfl rfl⟩
   rintro (i2 | r3) e σ' _ hq
   ·obtain ⟨rfl, hs⟩ := hq
    refine TieX.exit rfl (TieX.sub hs ?_)
    refine TieS.seq (.seq (.region (.run 1 rfl (.nil ?_))))
    refine TieS.block (.loop (fun t => ⟨[(1, .ptr 1 0), (3, .t (tI (s.Engine.Order.length : Int))), (6, .t (tI t))], [(1, .box (q10 s))]⟩) (fun b e σ' => match b with | .inl t => e = .exit 2 ∧ Sub ⟨[], []⟩ σ' | .inr t => e = .ret ∧ retT tab σ' [.tmp 2] = some (((fun r => .t (tB r)) : Bool → T) t)) (.of rfl rfl) ?_ ?_)
    ·intro c
     refine TieS.seq (.seq (.region (.run 4 rfl (.nil ?_))))
     refine TieS.cond rfl ?_ ?_
     ·refine TieS.skip (.seq (.block (.seq (.region ?_))))
      refine TieO.run 3 rfl (.call _ rfl rfl rfl (q344 s.Jobs c) (fun _ => rfl) fun v6 => .run 1 rfl (.nil (.seq ?_)))
      refine TieS.seq (.region (.run 5 rfl (.index rfl rfl rfl rfl rfl rfl rfl rfl (fun _ => rfl) fun x2 hx2 => .run 1 rfl ?_)))
      refine TieO.call _ rfl rfl rfl (q304 v6 x2) (fun _ => rfl) fun v7 => .run 1 rfl (.nil (.cond rfl ?_ ?_))
      ·exact TieS.seq (.region (.run 1 rfl (.nil (.ret ⟨(fun h => by cases h), rfl, rfl⟩))))
      ·refine TieS.skip (.seq (.bind (Q₁ := fun t e σ' => e = .normal ∧ Sub ⟨[(1, .ptr 1 0), (3, .t (tI (s.Engine.Order.length : Int))), (6, .t (tI c)), (158, .t (tB t))], [(1, .box (q10 s))]⟩ σ') ?_ ?_))
       ·refine TieX.split (fun hg => ?_) (fun hg10 => ?_)
        ·refine TieX.split (fun hg2 => ?_) (fun hg9 => ?_)
         ·refine TieX.split (fun hg3 => ?_) (fun hg4 => ?_)
          ·exact TieS.draw 35 [_, _, _, _, _, _, _, _, _, _, _, _, _, _, _, _, _, _, _, _, _, _, _, _, _, _, _, _, _, _, _, _, _, _, _] [(1, .ptr 1 0), (3, .t (tI (s.Engine.Order.length : Int))), (6, .t (tI c)), (7, .t (tS q13 v6))] [(1, .box (q10 s))] mixed (.of rfl rfl) rfl rfl rfl rfl (.cons (.quiet rfl rfl rfl) (.cons (.quiet rfl rfl rfl) (.cons (.cast (congrArg T.B hg) (.quiet rfl rfl rfl)) (.cons (.quiet rfl rfl rfl) (.cons (.quiet rfl rfl rfl) (.cons (.quiet rfl rfl rfl) (.cons (.quiet rfl rfl rfl) (.cons (.cast (congrArg T.B hg2) (.quiet rfl rfl rfl)) (.cons (.quiet rfl rfl rfl) (.cons (.quiet rfl rfl rfl) (.cons (.quiet rfl rfl rfl) (.cons (.cast (congrArg T.B hg3) (.quiet rfl rfl rfl)) (.cons (.skip rfl) (.cons (.skip rfl) (.cons (.skip rfl) (.cons (.quiet rfl rfl rfl) (.cons (.quiet rfl rfl rfl) (.cons (.skip rfl) (.cons (.skip rfl) (.cons (.skip rfl) (.cons (.skip rfl) (.cons (.skip rfl) (.cons (.quiet rfl rfl rfl) (.cons (.quiet rfl rfl rfl) (.cons (.skip rfl) (.cons (.skip rfl) (.cons (.skip rfl) (.cons (.skip rfl) (.cons (.skip rfl) (.cons (.skip rfl) (.cons (.skip rfl) (.cons (.skip rfl) (.cons (.skip rfl) (.cons (.quiet rfl rfl rfl) (.cons (.quiet rfl rfl rfl) (.nil)))))))))))))))))))))))))))))))))))) (.nil (.leaf ⟨rfl, .of rfl rfl⟩))
          ·refine TieX.split (fun hg5 => ?_) (fun hg6 => ?_)
           ·exact TieS.draw 35 [_, _, _, _, _, _, _, _, _, _, _, _, _, _, _, _, _, _, _, _, _, _, _, _, _, _, _, _, _, _, _, _, _, _, _] [(1, .ptr 1 0), (3, .t (tI (s.Engine.Order.length : Int))), (6, .t (tI c)), (7, .t (tS q13 v6))] [(1, .box (q10 s))] mixed (.of rfl rfl) rfl rfl rfl rfl (.cons (.quiet rfl rfl rfl) (.cons (.quiet rfl rfl rfl) (.cons (.cast (congrArg T.B hg) (.quiet rfl rfl rfl)) (.cons (.quiet rfl rfl rfl) (.cons (.quiet rfl rfl rfl) (.cons (.quiet rfl rfl rfl) (.cons (.quiet rfl rfl rfl) (.cons (.cast (congrArg T.B hg2) (.quiet rfl rfl rfl)) (.cons (.quiet rfl rfl rfl) (.cons (.quiet rfl rfl rfl) (.cons (.quiet rfl rfl rfl) (.cons (.cast (congrArg T.B hg4) (.quiet rfl rfl rfl)) (.cons (.quiet rfl rfl rfl) (.cons (.quiet rfl rfl rfl) (.cons (.quiet rfl rfl rfl) (.cons (.quiet rfl rfl rfl) (.cons (.cast (congrArg T.B hg5) (.quiet rfl rfl rfl)) (.cons (.skip rfl) (.cons (.skip rfl) (.cons (.skip rfl) (.cons (.skip rfl) (.cons (.skip rfl) (.cons (.quiet rfl rfl rfl) (.cons (.quiet rfl rfl rfl) (.cons (.skip rfl) (.cons (.skip rfl) (.cons (.skip rfl) (.cons (.skip rfl) (.cons (.skip rfl) (.cons (.skip rfl) (.cons (.skip rfl) (.cons (.skip rfl) (.cons (.skip rfl) (.cons (.quiet rfl rfl rfl) (.cons (.quiet rfl rfl rfl) (.nil)))))))))))))))))))))))))))))))))))) (.nil (.leaf ⟨rfl, .of rfl rfl⟩))
           ·refine TieX.pre fun x3 hx3 => TieX.split (fun hg7 => ?_) (fun hg8 => ?_)
            ·exact TieS.draw 35 [_, _, _, _, _, _, _, _, _, _, _, _, _, _, _, _, _, _, _, _, _, _, _, _, _, _, _, _, _, _, _, _, _, _, _] [(1, .ptr 1 0), (3, .t (tI (s.Engine.Order.length : Int))), (6, .t (tI c)), (7, .t (tS q13 v6))] [(1, .box (q10 s))] mixed (.of rfl rfl) rfl rfl rfl rfl (.cons (.quiet rfl rfl rfl) (.cons (.quiet rfl rfl rfl) (.cons (.cast (congrArg T.B hg) (.quiet rfl rfl rfl)) (.cons (.quiet rfl rfl rfl) (.cons (.quiet rfl rfl rfl) (.cons (.quiet rfl rfl rfl) (.cons (.quiet rfl rfl rfl) (.cons (.cast (congrArg T.B hg2) (.quiet rfl rfl rfl)) (.cons (.quiet rfl rfl rfl) (.cons (.quiet rfl rfl rfl) (.cons (.quiet rfl rfl rfl) (.cons (.cast (congrArg T.B hg4) (.quiet rfl rfl rfl)) (.cons (.quiet rfl rfl rfl) (.cons (.quiet rfl rfl rfl) (.cons (.quiet rfl rfl rfl) (.cons (.quiet rfl rfl rfl) (.cons (.cast (congrArg T.B hg6) (.quiet rfl rfl rfl)) (.cons (.quiet rfl rfl rfl) (.cons (.index hx3 rfl rfl rfl rfl rfl rfl (fun _ => rfl)) (.cons (.quiet rfl rfl rfl) (.cons (.quiet rfl rfl rfl) (.cons (.quiet rfl rfl rfl) (.cons (.quiet rfl rfl rfl) (.cons (.cast (congrArg T.B hg7) (.quiet rfl rfl rfl)) (.cons (.skip rfl) (.cons (.skip rfl) (.cons (.skip rfl) (.cons (.skip rfl) (.cons (.skip rfl) (.cons (.skip rfl) (.cons (.skip rfl) (.cons (.skip rfl) (.cons (.skip rfl) (.cons (.quiet rfl rfl rfl) (.cons (.quiet rfl rfl rfl) (.nil)))))))))))))))))))))))))))))))))))) (.nil (.leaf ⟨rfl, .of rfl rfl⟩))
            ·exact TieS.draw 35 [_, _, _, _, _, _, _, _, _, _, _, _, _, _, _, _, _, _, _, _, _, _, _, _, _, _, _, _, _, _, _, _, _, _, _] [(1, .ptr 1 0), (3, .t (tI (s.Engine.Order.length : Int))), (6, .t (tI c)), (7, .t (tS q13 v6))] [(1, .box (q10 s))] mixed (.of rfl rfl) rfl rfl rfl rfl (.cons (.quiet rfl rfl rfl) (.cons (.quiet rfl rfl rfl) (.cons (.cast (congrArg T.B hg) (.quiet rfl rfl rfl)) (.cons (.quiet rfl rfl rfl) (.cons (.quiet rfl rfl rfl) (.cons (.quiet rfl rfl rfl) (.cons (.quiet rfl rfl rfl) (.cons (.cast (congrArg T.B hg2) (.quiet rfl rfl rfl)) (.cons (.quiet rfl rfl rfl) (.cons (.quiet rfl rfl rfl) (.cons (.quiet rfl rfl rfl) (.cons (.cast (congrArg T.B hg4) (.quiet rfl rfl rfl)) (.cons (.quiet rfl rfl rfl) (.cons (.quiet rfl rfl rfl) (.cons (.quiet rfl rfl rfl) (.cons (.quiet rfl rfl rfl) (.cons (.cast (congrArg T.B hg6) (.quiet rfl rfl rfl)) (.cons (.quiet rfl rfl rfl) (.cons (.index hx3 rfl rfl rfl rfl rfl rfl (fun _ => rfl)) (.cons (.quiet rfl rfl rfl) (.cons (.quiet rfl rfl rfl) (.cons (.quiet rfl rfl rfl) (.cons (.quiet rfl rfl rfl) (.cons (.cast (congrArg T.B hg8) (.quiet rfl rfl rfl)) (.cons (.quiet rfl rfl rfl) (.cons (.index hx3 rfl rfl rfl rfl rfl rfl (fun _ => rfl)) (.cons (.quiet rfl rfl rfl) (.cons (.quiet rfl rfl rfl) (.cons (.quiet rfl rfl rfl) (.cons (.quiet rfl rfl rfl) (.cons (.quiet rfl rfl rfl) (.cons (.quiet rfl rfl rfl) (.cons (.quiet rfl rfl rfl) (.cons (.quiet rfl rfl rfl) (.cons (.quiet rfl rfl rfl) (.nil)))))))))))))))))))))))))))))))))))) (.nil (.leaf ⟨rfl, .of rfl rfl⟩))
         ·exact TieS.draw 35 [_, _, _, _, _, _, _, _, _, _, _, _, _, _, _, _, _, _, _, _, _, _, _, _, _, _, _, _, _, _, _, _, _, _, _] [(1, .ptr 1 0), (3, .t (tI (s.Engine.Order.length : Int))), (6, .t (tI c)), (7, .t (tS q13 v6))] [(1, .box (q10 s))] mixed (.of rfl rfl) rfl rfl rfl rfl (.cons (.quiet rfl rfl rfl) (.cons (.quiet rfl rfl rfl) (.cons (.cast (congrArg T.B hg) (.quiet rfl rfl rfl)) (.cons (.quiet rfl rfl rfl) (.cons (.quiet rfl rfl rfl) (.cons (.quiet rfl rfl rfl) (.cons (.quiet rfl rfl rfl) (.cons (.cast (congrArg T.B hg9) (.quiet rfl rfl rfl)) (.cons (.skip rfl) (.cons (.skip rfl) (.cons (.skip rfl) (.cons (.skip rfl) (.cons (.skip rfl) (.cons (.skip rfl) (.cons (.skip rfl) (.cons (.skip rfl) (.cons (.skip rfl) (.cons (.skip rfl) (.cons (.skip rfl) (.cons (.skip rfl) (.cons (.skip rfl) (.cons (.skip rfl) (.cons (.skip rfl) (.cons (.skip rfl) (.cons (.skip rfl) (.cons (.skip rfl) (.cons (.skip rfl) (.cons (.skip rfl) (.cons (.skip rfl) (.cons (.skip rfl) (.cons (.skip rfl) (.cons (.skip rfl) (.cons (.skip rfl) (.cons (.skip rfl) (.cons (.quiet rfl rfl rfl) (.nil)))))))))))))))))))))))))))))))))))) (.nil (.leaf ⟨rfl, .of rfl rfl⟩))
        ·exact TieS.draw 35 [_, _, _, _, _, _, _, _, _, _, _, _, _, _, _, _, _, _, _, _, _, _, _, _, _, _, _, _, _, _, _, _, _, _, _] [(1, .ptr 1 0), (3, .t (tI (s.Engine.Order.length : Int))), (6, .t (tI c)), (7, .t (tS q13 v6))] [(1, .box (q10 s))] mixed (.of rfl rfl) rfl rfl rfl rfl (.cons (.quiet rfl rfl rfl) (.cons (.quiet rfl rfl rfl) (.cons (.cast (congrArg T.B hg10) (.quiet rfl rfl rfl)) (.cons (.skip rfl) (.cons (.skip rfl) (.cons (.skip rfl) (.cons (.quiet rfl rfl rfl) (.cons (.quiet rfl rfl rfl) (.cons (.skip rfl) (.cons (.skip rfl) (.cons (.skip rfl) (.cons (.skip rfl) (.cons (.skip rfl) (.cons (.skip rfl) (.cons (.skip rfl) (.cons (.skip rfl) (.cons (.skip rfl) (.cons (.skip rfl) (.cons (.skip rfl) (.cons (.skip rfl) (.cons (.skip rfl) (.cons (.skip rfl) (.cons (.skip rfl) (.cons (.skip rfl) (.cons (.skip rfl) (.cons (.skip rfl) (.cons (.skip rfl) (.cons (.skip rfl) (.cons (.skip rfl) (.cons (.skip rfl) (.cons (.skip rfl) (.cons (.skip rfl) (.cons (.skip rfl) (.cons (.skip rfl) (.cons (.quiet rfl rfl rfl) (.nil)))))))))))))))))))))))))))))))))))) (.nil (.leaf ⟨rfl, .of rfl rfl⟩))
       rintro v8 e σ' _ ⟨rfl, hs⟩
       refine TieX.sub hs (TieS.cond rfl ?_ ?_)
       ·exact TieS.seq (.region (.run 1 rfl (.nil (.ret ⟨(fun h => by cases h), rfl, rfl⟩))))
       ·refine TieS.skip (.endb (.region (.run 3 rfl (.nil ?_))))
        exact TieS.leaf ⟨rfl, .of rfl rfl⟩
     ·exact TieS.exitOut rfl ⟨(fun h => by cases h), rfl, .of rfl rfl⟩
    rintro (c2 | r2) e σ' _ hq
    ·obtain ⟨rfl, hs⟩ := hq
     refine TieX.exit rfl (TieX.sub hs ?_)
     exact TieS.seq (.region (.run 1 rfl (.nil (.ret ⟨.inl rfl, rfl⟩))))
    ·obtain ⟨rfl, hs⟩ := hq
     exact TieX.ret ⟨.inl rfl, hs⟩
   ·obtain ⟨rfl, hs⟩ := hq
    exact TieX.ret ⟨.inl rfl, hs⟩
set_option maxRecDepth 100000 in
set_option maxHeartbeats 4000000 in
theorem q316 (t2 : STimer) : TieG Tryz.prog 68 [q64 t2] [] (q127 t2) (fun r => .agg [.t (tI r.Now), .own 900000]) (fun r => [(900000, .rs 74 4 r.Channels q11)]) := by
 refine TieG.intro htab 10 [.cell 2 29] Tryz.call68 Tryz.func68 rfl rfl rfl (Nat.le_of_ble_eq_true rfl) fun w0 L => ?_
 refine TieS.seq (.region (.run 2 rfl (.nil (.seq ?_))))
 refine TieS.bind (Q₁ := fun t e σ' => e = .normal ∧ Sub ⟨[(2, .ptr 2 0)], [(2, .box [.t (tI t.Now), .own 5]), (5, .rs 74 4 t.Channels q11)]⟩ σ') ?_ ?_
 ·refine TieX.pre fun l hl => TieS.draws 6 (bm 8 0) (bm 8 63) ⟨[(2, .ptr 2 0), (4, .t (tI t2.Now)), (8, .own 5)], [(1, .box [.t (tI t2.Now), .t (tS q11 t2.Channels)]), (2, .box [.t (tI 0), .t (.v (.slice none 0 0))]), (5, .rs 74 4 l q11)]⟩ mixed (fun _ _ _ h => by cases h.1) rfl rfl rfl rfl ?_ ?_
  ·refine TieA.have_ (fuel₁ := 3) (l₁ := (bm 8 31)) (σ₁ := ⟨[(2, .ptr 2 0), (4, .t (tI t2.Now)), (5, .own 5), (7, .t (tS q11 t2.Channels))], [(1, .box [.t (tI t2.Now), .t (tS q11 t2.Channels)]), (2, .box [.t (tI 0), .t (.v (.slice none 0 0))]), (5, .rs 74 4 ([] : List SChannel) q11)]⟩) ?_ fun A_1 => ?_
   ·refine TieA.all [5] (by kernel_rfl) rfl (AllA.cons (σ₁ := ⟨[(2, .ptr 2 0), (4, .t (tI t2.Now)), (8, .own 5)], [(1, .box [.t (tI t2.Now), .t (tS q11 t2.Channels)]), (2, .box [.t (tI 0), .t (.v (.slice none 0 0))]), (5, .rs 74 4 l q11)]⟩) _ rfl rfl ?_ ?_ ?_)
    ·refine TieO.withH hl (TieO.appendY (id := 5) (e' := 0) (l := ([] : List SChannel)) (r := t2.Channels) (tm' := [(2, .ptr 2 0), (4, .t (tI t2.Now)), (7, .t (tS q11 t2.Channels))]) (hp' := [(1, .box [.t (tI t2.Now), .t (tS q11 t2.Channels)]), (2, .box [.t (tI 0), .t (.v (.slice none 0 0))])]) rfl rfl rfl rfl rfl rfl rfl (fun _ => rfl) (fun _ => rfl) (.inl ⟨rfl, rfl⟩) (.inl rfl) (.of rfl rfl) rfl rfl rfl (TieO.ifH ?_))
     exact TieO.nil (TieS.leaf ⟨rfl, .of rfl rfl⟩)
    ·exact TieA.done (.of rfl rfl)
    exact AllA.nil
   refine TieA.have_ (fuel₁ := 4) (l₁ := (bm 8 15)) (σ₁ := ⟨[(2, .ptr 2 0), (4, .t (tI t2.Now)), (5, .own 5), (6, .ptr 1 1)], [(1, .box [.t (tI t2.Now), .t (tS q11 t2.Channels)]), (2, .box [.t (tI 0), .t (.v (.slice none 0 0))]), (5, .rs 74 4 ([] : List SChannel) q11)]⟩) ?_ fun A_0 => ?_
   ·exact TieA.all [4] (by kernel_rfl) rfl (AllA.runTo _ rfl rfl rfl (.of rfl rfl) A_1 (AllA.nil))
   refine TieA.have_ (fuel₁ := 4) (l₁ := (bm 8 27)) (σ₁ := ⟨[(2, .ptr 2 0), (4, .t (tI t2.Now)), (7, .t (tS q11 t2.Channels))], [(1, .box [.t (tI t2.Now), .t (tS q11 t2.Channels)]), (2, .box [.t (tI 0), .t (.v (.slice none 0 0))])]⟩) ?_ fun A_2 => ?_
   ·exact TieA.all [2] (by kernel_rfl) rfl (AllA.runTo _ rfl rfl rfl (.of rfl rfl) A_1 (AllA.nil))
   refine TieA.have_ (fuel₁ := 4) (l₁ := (bm 8 29)) (σ₁ := ⟨[(2, .ptr 2 0), (3, .ptr 1 0), (5, .own 5), (7, .t (tS q11 t2.Channels))], [(1, .box [.t (tI t2.Now), .t (tS q11 t2.Channels)]), (2, .box [.t (tI 0), .t (.v (.slice none 0 0))]), (5, .rs 74 4 ([] : List SChannel) q11)]⟩) ?_ fun A_3 => ?_
   ·refine TieA.all [1, 5] (by kernel_rfl) rfl (AllA.runTo _ rfl rfl rfl (.of rfl rfl) A_1 (AllA.cons (σ₁ := ⟨[(2, .ptr 2 0), (3, .ptr 1 0), (8, .own 5)], [(1, .box [.t (tI t2.Now), .t (tS q11 t2.Channels)]), (2, .box [.t (tI 0), .t (.v (.slice none 0 0))]), (5, .rs 74 4 l q11)]⟩) _ rfl rfl ?_ ?_ ?_))
    ·refine TieO.withH hl (TieO.appendY (id := 5) (e' := 0) (l := ([] : List SChannel)) (r := t2.Channels) (tm' := [(2, .ptr 2 0), (3, .ptr 1 0), (7, .t (tS q11 t2.Channels))]) (hp' := [(1, .box [.t (tI t2.Now), .t (tS q11 t2.Channels)]), (2, .box [.t (tI 0), .t (.v (.slice none 0 0))])]) rfl rfl rfl rfl rfl rfl rfl (fun _ => rfl) (fun _ => rfl) (.inl ⟨rfl, rfl⟩) (.inl rfl) (.of rfl rfl) rfl rfl rfl (TieO.ifH ?_))
     exact TieO.nil (TieS.leaf ⟨rfl, .of rfl rfl⟩)
    ·refine TieA.all [1] (by kernel_rfl) rfl (AllA.run _ rfl rfl rfl ?_ ?_)
     ·exact TieA.done (.of rfl rfl)
     exact AllA.nil
    exact AllA.nil
   refine TieA.fP 0 rfl rfl rfl (by kernel_rfl) rfl rfl rfl (.fP 3 rfl rfl rfl (by kernel_rfl) rfl rfl rfl (.all [1, 2, 4] (by kernel_rfl) rfl (AllA.run _ rfl rfl rfl ?_ ?_)))
   ·exact TieA.all [2, 4] (by kernel_rfl) rfl (AllA.runTo _ rfl rfl rfl (.of rfl rfl) A_0 (AllA.runTo _ rfl rfl rfl (.of rfl rfl) A_2 (AllA.nil)))
   refine AllA.run _ rfl rfl rfl ?_ ?_
   ·exact TieA.all [1, 4] (by kernel_rfl) rfl (AllA.runTo _ rfl rfl rfl (.of rfl rfl) A_0 (AllA.runTo _ rfl rfl rfl (.of rfl rfl) A_3 (AllA.nil)))
   refine AllA.run _ rfl rfl rfl ?_ ?_
   ·exact TieA.all [1, 2] (by kernel_rfl) rfl (AllA.runTo _ rfl rfl rfl (.of rfl rfl) A_2 (AllA.runTo _ rfl rfl rfl (.of rfl rfl) A_3 (AllA.nil)))
   exact AllA.nil
  exact TieO.run 2 rfl (.nil (.leaf ⟨rfl, .of rfl rfl⟩))
 rintro f2 e σ' _ ⟨rfl, hs⟩
 exact TieX.sub hs (TieS.ret ⟨.inl rfl, ⟨[(5, 900000)], _, _, rfl, rfl, rfl, rfl, rfl⟩⟩)
abbrev x25_0 : List T := [.t (.v (.slice none 0 0)), .t (tI 0), .t (tB false), .t (tI 0), .t (tI 0), .t (tI 0), .t (tI 0), .t (tI 0), .t (tI 0), .t (.v (.slice none 0 0)), .t (.v (.slice none 0 0)), .t (.v (.slice none 0 0)), .t (tB false)]
set_option maxRecDepth 100000 in
set_option maxHeartbeats 4000000 in
theorem q164 (s : SScheduler) : TieG Tryz.prog 25 [q22 s] [] (q92 s) (fun r => .agg [.t (tS Pv.encI r.Engine.Order), .t (tI r.Engine.First), .t (tB r.Clock.Valid), .t (tI r.Clock.At), .t (tI r.Clock.Angle), .t (tI r.Clock.Period), .t (tI r.Clock.Space), .t (tI r.Clock.Ahead), .t (tI r.Timer.Now), .t (tS q11 r.Timer.Channels), .t (tS q14 r.Next), .own 900000, .t (tB r.Cut)]) (fun r => [(900000, .rs 85 7 r.Jobs q13)]) := by
 refine TieG.intro htab 25 [.cell 2 33] Tryz.call25 Tryz.func25 rfl rfl rfl (Nat.le_of_ble_eq_true rfl) fun w0 L => ?_
 refine TieS.seq (.region (.run 2 rfl (.nil (.seq ?_))))
 refine TieS.region (.run 4 rfl (.appendY (id := 3) (e' := 0) (l := ([] : List Int)) (r := s.Engine.Order) (tm' := [(0, .agg [.t (tS Pv.encI s.Engine.Order), .t (tI s.Engine.First), .t (tB s.Clock.Valid), .t (tI s.Clock.At), .t (tI s.Clock.Angle), .t (tI s.Clock.Period), .t (tI s.Clock.Space), .t (tI s.Clock.Ahead), .t (tI s.Timer.Now), .t (tS q11 s.Timer.Channels), .t (tS q14 s.Next), .t (tS q13 s.Jobs), .t (tB s.Cut)]), (1, .ptr 1 0), (2, .ptr 2 0), (4, .ptr 1 0), (5, .ptr 1 0), (6, .t (tS Pv.encI s.Engine.Order))]) (hp' := [(1, .box (q10 s)), (2, .box x25_0)]) rfl rfl rfl rfl rfl rfl rfl (fun _ => rfl) (fun _ => rfl) (.inl ⟨rfl, rfl⟩) (.inl rfl) (.of rfl rfl) rfl rfl rfl fun l => .run 3 rfl (.nil ?_)))
 refine TieS.seq (.region (.run 2 rfl (.call _ rfl rfl rfl (TieG.toF (q316 s.Timer) (fun _ => rfl)) (fun _ => rfl) fun v => .run 2 rfl ?_)))
 refine TieO.nil (.seq (.region (.run 3 rfl (.appendY (id := 14) (e' := 0) (l := ([] : List SFire)) (r := s.Next) (tm' := [(0, .agg [.t (tS Pv.encI s.Engine.Order), .t (tI s.Engine.First), .t (tB s.Clock.Valid), .t (tI s.Clock.At), .t (tI s.Clock.Angle), .t (tI s.Clock.Period), .t (tI s.Clock.Space), .t (tI s.Clock.Ahead), .t (tI s.Timer.Now), .t (tS q11 s.Timer.Channels), .t (tS q14 s.Next), .t (tS q13 s.Jobs), .t (tB s.Cut)]), (1, .ptr 1 0), (2, .ptr 2 0), (4, .ptr 1 0), (5, .ptr 1 0), (6, .t (tS Pv.encI s.Engine.Order)), (7, .own 3), (8, .ptr 1 0), (9, .ptr 1 0), (10, .ptr 1 8), (11, .agg [.t (tI s.Timer.Now), .t (tS q11 s.Timer.Channels)]), (12, .agg [.t (tI v.Now), .t (tS q11 v.Channels)]), (13, .ptr 1 8), (15, .ptr 1 10), (16, .t (tS q14 s.Next))]) (hp' := [(1, .box (lset (q10 (u7_2 s v)) [(0, .own 3)])), (2, .box x25_0), (3, .rs 3 1 l Pv.encI)]) rfl rfl rfl rfl rfl rfl rfl (fun _ => rfl) (fun _ => rfl) (.inl ⟨rfl, rfl⟩) (.inl rfl) (.of rfl rfl) rfl rfl rfl fun l2 => ?_))))
 refine TieO.run 2 rfl (.nil (.seq (.region (.run 3 rfl ?_))))
 refine TieO.appendY (id := 19) (e' := 0) (l := ([] : List SJob)) (r := s.Jobs) (tm' := [(0, .agg [.t (tS Pv.encI s.Engine.Order), .t (tI s.Engine.First), .t (tB s.Clock.Valid), .t (tI s.Clock.At), .t (tI s.Clock.Angle), .t (tI s.Clock.Period), .t (tI s.Clock.Space), .t (tI s.Clock.Ahead), .t (tI s.Timer.Now), .t (tS q11 s.Timer.Channels), .t (tS q14 s.Next), .t (tS q13 s.Jobs), .t (tB s.Cut)]), (1, .ptr 1 0), (2, .ptr 2 0), (4, .ptr 1 0), (5, .ptr 1 0), (6, .t (tS Pv.encI s.Engine.Order)), (7, .own 3), (8, .ptr 1 0), (9, .ptr 1 0), (10, .ptr 1 8), (11, .agg [.t (tI s.Timer.Now), .t (tS q11 s.Timer.Channels)]), (12, .agg [.t (tI v.Now), .t (tS q11 v.Channels)]), (13, .ptr 1 8), (15, .ptr 1 10), (16, .t (tS q14 s.Next)), (17, .own 14), (18, .ptr 1 10), (20, .ptr 1 11), (21, .t (tS q13 s.Jobs))]) (hp' := [(1, .box (lset (q10 (u7_2 s v)) [(0, .own 3), (10, .own 14)])), (2, .box x25_0), (3, .rs 3 1 l Pv.encI), (14, .rs 55 7 l2 q14)]) rfl rfl rfl rfl rfl rfl rfl (fun _ => rfl) (fun _ => rfl) (.inl ⟨rfl, rfl⟩) (.inl rfl) (.of rfl rfl) rfl rfl rfl fun l3 => .run 2 rfl (.nil (.seq (.region ?_)))
 exact TieO.run 2 rfl (.nil (TieX.frz 3 rfl (TieX.frz 14 rfl (TieS.ret ⟨.inl rfl, ⟨[(19, 900000)], _, _, rfl, rfl, rfl, rfl, rfl⟩⟩))))
end Go.Proofs.YtldhbjpnlehpgaaGreat
namespace Go.Proofs.YtldhbjpnlehpgaaGreat
open Go Go.Pv Go.Proofs
set_option maxRecDepth 100000 in
theorem q310 (a : STimer) (b2 : STimer) : TieF Tryz.prog 52 [q64 a, q64 b2] (q276 a b2) (fun r => .t (tB r)) := by
 refine TieF.intro htab 38 [.tmp 4] Tryz.call52 Tryz.func52 rfl rfl rfl (Nat.le_of_ble_eq_true rfl) fun w0 L => ?_
 refine TieS.seq (.region (.run 3 rfl (.nil (.seq ?_))))
 refine TieS.seq (.region (.run 6 rfl (.selOr (v := ((a.Channels.length : Int) != (b2.Channels.length : Int))) 8 11 (fun b => ⟨[(2, .ptr 2 0), (3, .ptr 3 0), (19, .t (tB b))], [(2, .box [.t (tI a.Now), .t (tS q11 a.Channels)]), (3, .box [.t (tI b2.Now), .t (tS q11 b2.Channels)])]⟩) rfl ?_ ?_ ?_)))
 ·exact TieO.run 8 rfl (.nil (.leaf ⟨rfl, .of rfl rfl⟩))
 ·exact TieO.run 8 rfl (.nil (.leaf ⟨rfl, .of rfl rfl⟩))
 refine TieO.nil (.cond rfl ?_ ?_)
 ·exact TieS.seq (.region (.run 1 rfl (.nil (.ret ⟨.inl rfl, rfl⟩))))
 ·refine TieS.skip (.seq (.seq (.region (.run 1 rfl ?_))))
  refine TieO.nil (.block (.loop (fun t => ⟨[(2, .ptr 2 0), (3, .ptr 3 0), (5, .t (tI t))], [(2, .box [.t (tI a.Now), .t (tS q11 a.Channels)]), (3, .box [.t (tI b2.Now), .t (tS q11 b2.Channels)])]⟩) (fun b e σ' => match b with | .inl t => e = .exit 0 ∧ Sub ⟨[], []⟩ σ' | .inr t => e = .ret ∧ retT tab σ' [.tmp 4] = some (((fun r => .t (tB r)) : Bool → T) t)) (.of rfl rfl) ?_ ?_))
  ·intro i
   refine TieS.seq (.seq (.region (.run 5 rfl (.nil ?_))))
   refine TieS.cond rfl ?_ ?_
   ·refine TieS.skip (.seq (.block (.seq (TieX.pre fun x hx => ?_))))
    refine TieX.pre fun x2 hx2 => TieS.draw 11 [_, _, _, _, _, _, _, _, _, _, _] [(2, .ptr 2 0), (3, .ptr 3 0), (5, .t (tI i))] [(2, .box [.t (tI a.Now), .t (tS q11 a.Channels)]), (3, .box [.t (tI b2.Now), .t (tS q11 b2.Channels)])] mixed (.of rfl rfl) rfl rfl rfl rfl (.cons (.quiet rfl rfl rfl) (.cons (.quiet rfl rfl rfl) (.cons (.quiet rfl rfl rfl) (.cons (.index hx rfl rfl rfl rfl rfl rfl (fun _ => rfl)) (.cons (.quiet rfl rfl rfl) (.cons (.quiet rfl rfl rfl) (.cons (.quiet rfl rfl rfl) (.cons (.quiet rfl rfl rfl) (.cons (.index hx2 rfl rfl rfl rfl rfl rfl (fun _ => rfl)) (.cons (.quiet rfl rfl rfl) (.cons (.neS [.bool x.Armed, .int .i64 x.At, .bool x.Next, .bool x.Level] [.bool x2.Armed, .int .i64 x2.At, .bool x2.Next, .bool x2.Level] (eqv_74 x.Armed x.At x.Next x.Level x2.Armed x2.At x2.Next x2.Level) rfl rfl rfl rfl) (.nil)))))))))))) (.nil (.cond rfl ?_ ?_))
    ·exact TieS.seq (.region (.run 1 rfl (.nil (.ret ⟨(fun h => by cases h), rfl, rfl⟩))))
    ·refine TieS.skip (.endb (.region (.run 3 rfl (.nil ?_))))
     exact TieS.leaf ⟨rfl, .of rfl rfl⟩
   ·exact TieS.exitOut rfl ⟨(fun h => by cases h), rfl, .of rfl rfl⟩
  rintro (i2 | r2) e σ' _ hq
  ·obtain ⟨rfl, hs⟩ := hq
   refine TieX.exit rfl (TieX.sub hs ?_)
   exact TieS.seq (.region (.run 1 rfl (.nil (.ret ⟨.inl rfl, rfl⟩))))
  ·obtain ⟨rfl, hs⟩ := hq
   exact TieX.ret ⟨.inl rfl, hs⟩
set_option maxRecDepth 100000 in
set_option maxHeartbeats 4000000 in
theorem q32 (a : SScheduler) (b2 : SScheduler) : TieF Tryz.prog 12 [q22 a, q22 b2] (q40 a b2) (fun r => .t (tB r)) := by
 refine TieF.intro htab 123 [.tmp 4] Tryz.call12 Tryz.func12 rfl rfl rfl (Nat.le_of_ble_eq_true rfl) fun w0 L => ?_
 refine TieS.seq (.region (.run 3 rfl (.nil (.seq ?_))))
 refine TieS.seq (.region (.run 4 rfl (.neS [.bool a.Clock.Valid, .int .i64 a.Clock.At, .int .i64 a.Clock.Angle, .int .i64 a.Clock.Period, .int .i64 a.Clock.Space, .int .i64 a.Clock.Ahead] [.bool b2.Clock.Valid, .int .i64 b2.Clock.At, .int .i64 b2.Clock.Angle, .int .i64 b2.Clock.Period, .int .i64 b2.Clock.Space, .int .i64 b2.Clock.Ahead] (eqv_26 a.Clock.Valid a.Clock.At a.Clock.Angle a.Clock.Period a.Clock.Space a.Clock.Ahead b2.Clock.Valid b2.Clock.At b2.Clock.Angle b2.Clock.Period b2.Clock.Space b2.Clock.Ahead) rfl rfl rfl rfl rfl rfl (.run 1 rfl ?_))))
 refine TieO.selOr (v := (!(a.Cut == b2.Cut))) 6 13 (fun b => ⟨[(2, .ptr 2 0), (3, .ptr 3 0), (19, .t (tB b))], [(2, .box (q10 a)), (3, .box (q10 b2))]⟩) rfl ?_ ?_ ?_
 ·exact TieO.run 6 rfl (.nil (.leaf ⟨rfl, .of rfl rfl⟩))
 ·exact TieO.run 6 rfl (.nil (.leaf ⟨rfl, .of rfl rfl⟩))
 refine TieO.run 1 rfl (.bind 7 (fun b3 => ⟨[(2, .ptr 2 0), (3, .ptr 3 0), (27, .t (tB b3))], [(2, .box (q10 a)), (3, .box (q10 b2))]⟩) (TieO.split 20 rfl ?_ ?_) fun b3 _ => ?_)
 ·exact TieO.run 7 rfl (.nil (.leaf ⟨rfl, .of rfl rfl⟩))
 ·exact TieO.run 4 rfl (.call _ rfl rfl rfl (q310 a.Timer b2.Timer) (fun _ => rfl) fun v => .run 2 rfl (.nil (.leaf ⟨rfl, .of rfl rfl⟩)))
 refine TieO.run 1 rfl (.selOr (v := (a.Engine.First != b2.Engine.First)) 8 28 (fun b => ⟨[(2, .ptr 2 0), (3, .ptr 3 0), (36, .t (tB b))], [(2, .box (q10 a)), (3, .box (q10 b2))]⟩) rfl ?_ ?_ ?_)
 ·exact TieO.run 8 rfl (.nil (.leaf ⟨rfl, .of rfl rfl⟩))
 ·exact TieO.run 8 rfl (.nil (.leaf ⟨rfl, .of rfl rfl⟩))
 refine TieO.run 1 rfl (.selOr (v := ((a.Engine.Order.length : Int) != (b2.Engine.Order.length : Int))) 10 37 (fun b => ⟨[(2, .ptr 2 0), (3, .ptr 3 0), (47, .t (tB b))], [(2, .box (q10 a)), (3, .box (q10 b2))]⟩) rfl ?_ ?_ ?_)
 ·exact TieO.run 10 rfl (.nil (.leaf ⟨rfl, .of rfl rfl⟩))
 ·exact TieO.run 10 rfl (.nil (.leaf ⟨rfl, .of rfl rfl⟩))
 refine TieO.run 1 rfl (.selOr (v := ((a.Next.length : Int) != (b2.Next.length : Int))) 8 48 (fun b => ⟨[(2, .ptr 2 0), (3, .ptr 3 0), (56, .t (tB b))], [(2, .box (q10 a)), (3, .box (q10 b2))]⟩) rfl ?_ ?_ ?_)
 ·exact TieO.run 8 rfl (.nil (.leaf ⟨rfl, .of rfl rfl⟩))
 ·exact TieO.run 8 rfl (.nil (.leaf ⟨rfl, .of rfl rfl⟩))
 refine TieO.run 1 rfl (.selOr (v := ((a.Jobs.length : Int) != (b2.Jobs.length : Int))) 8 57 (fun b => ⟨[(2, .ptr 2 0), (3, .ptr 3 0), (65, .t (tB b))], [(2, .box (q10 a)), (3, .box (q10 b2))]⟩) rfl ?_ ?_ ?_)
 ·exact TieO.run 8 rfl (.nil (.leaf ⟨rfl, .of rfl rfl⟩))
 ·exact TieO.run 8 rfl (.nil (.leaf ⟨rfl, .of rfl rfl⟩))
 refine TieO.nil (.cond rfl ?_ ?_)
 ·exact TieS.seq (.region (.run 1 rfl (.nil (.ret ⟨.inl rfl, rfl⟩))))
 ·refine TieS.skip (.seq (.seq (.region (.run 1 rfl ?_))))
  refine TieO.nil (.block (.loop (fun t => ⟨[(2, .ptr 2 0), (3, .ptr 3 0), (5, .t (tI t))], [(2, .box (q10 a)), (3, .box (q10 b2))]⟩) (fun b e σ' => match b with | .inl t => e = .exit 0 ∧ Sub ⟨[(2, .ptr 2 0), (3, .ptr 3 0)], [(2, .box (q10 a)), (3, .box (q10 b2))]⟩ σ' | .inr t => e = .ret ∧ retT tab σ' [.tmp 4] = some (((fun r => .t (tB r)) : Bool → T) t)) (.of rfl rfl) ?_ ?_))
  ·intro i
   refine TieS.seq (.seq (.region (.run 6 rfl (.nil ?_))))
   refine TieS.cond rfl ?_ ?_
   ·refine TieS.skip (.seq (.block (.seq (TieX.pre fun x hx => ?_))))
    refine TieX.pre fun x2 hx2 => TieS.draw 13 [_, _, _, _, _, _, _, _, _, _, _, _, _] [(2, .ptr 2 0), (3, .ptr 3 0), (5, .t (tI i))] [(2, .box (q10 a)), (3, .box (q10 b2))] mixed (.of rfl rfl) rfl rfl rfl rfl (.cons (.quiet rfl rfl rfl) (.cons (.quiet rfl rfl rfl) (.cons (.quiet rfl rfl rfl) (.cons (.quiet rfl rfl rfl) (.cons (.index hx rfl rfl rfl rfl rfl rfl (fun _ => rfl)) (.cons (.quiet rfl rfl rfl) (.cons (.quiet rfl rfl rfl) (.cons (.quiet rfl rfl rfl) (.cons (.quiet rfl rfl rfl) (.cons (.quiet rfl rfl rfl) (.cons (.index hx2 rfl rfl rfl rfl rfl rfl (fun _ => rfl)) (.cons (.quiet rfl rfl rfl) (.cons (.quiet rfl rfl rfl) (.nil)))))))))))))) (.nil (.cond rfl ?_ ?_))
    ·exact TieS.seq (.region (.run 1 rfl (.nil (.ret ⟨(fun h => by cases h), rfl, rfl⟩))))
    ·refine TieS.skip (.endb (.region (.run 3 rfl (.nil ?_))))
     exact TieS.leaf ⟨rfl, .of rfl rfl⟩
   ·exact TieS.exitOut rfl ⟨(fun h => by cases h), rfl, .of rfl rfl⟩
  rintro (i2 | r4) e σ' _ hq
  ·obtain ⟨rfl, hs⟩ := hq
   refine TieX.exit rfl (TieX.sub hs ?_)
   refine TieS.seq (.seq (.region (.run 1 rfl (.nil ?_))))
   refine TieS.block (.loop (fun t => ⟨[(2, .ptr 2 0), (3, .ptr 3 0), (6, .t (tI t))], [(2, .box (q10 a)), (3, .box (q10 b2))]⟩) (fun b e σ' => match b with | .inl t => e = .exit 2 ∧ Sub ⟨[(2, .ptr 2 0), (3, .ptr 3 0)], [(2, .box (q10 a)), (3, .box (q10 b2))]⟩ σ' | .inr t => e = .ret ∧ retT tab σ' [.tmp 4] = some (((fun r => .t (tB r)) : Bool → T) t)) (.of rfl rfl) ?_ ?_)
   ·intro i3
    refine TieS.seq (.seq (.region (.run 5 rfl (.nil ?_))))
    refine TieS.cond rfl ?_ ?_
    ·refine TieS.skip (.seq (.block (.seq (TieX.pre fun x3 hx3 => ?_))))
     refine TieX.pre fun x4 hx4 => TieS.draw 11 [_, _, _, _, _, _, _, _, _, _, _] [(2, .ptr 2 0), (3, .ptr 3 0), (6, .t (tI i3))] [(2, .box (q10 a)), (3, .box (q10 b2))] mixed (.of rfl rfl) rfl rfl rfl rfl (.cons (.quiet rfl rfl rfl) (.cons (.quiet rfl rfl rfl) (.cons (.quiet rfl rfl rfl) (.cons (.index hx3 rfl rfl rfl rfl rfl rfl (fun _ => rfl)) (.cons (.quiet rfl rfl rfl) (.cons (.quiet rfl rfl rfl) (.cons (.quiet rfl rfl rfl) (.cons (.quiet rfl rfl rfl) (.cons (.index hx4 rfl rfl rfl rfl rfl rfl (fun _ => rfl)) (.cons (.quiet rfl rfl rfl) (.cons (.neS [.int .i64 x3.Cylinder, .int .i64 x3.Spark, .int .i64 x3.Dwell, .int .i64 x3.End, .int .i64 x3.Inject, .int .i64 x3.Gap, .int .i64 x3.Extra] [.int .i64 x4.Cylinder, .int .i64 x4.Spark, .int .i64 x4.Dwell, .int .i64 x4.End, .int .i64 x4.Inject, .int .i64 x4.Gap, .int .i64 x4.Extra] (eqv_55 x3.Cylinder x3.Spark x3.Dwell x3.End x3.Inject x3.Gap x3.Extra x4.Cylinder x4.Spark x4.Dwell x4.End x4.Inject x4.Gap x4.Extra) rfl rfl rfl rfl) (.nil)))))))))))) (.nil (.cond rfl ?_ ?_))
     ·exact TieS.seq (.region (.run 1 rfl (.nil (.ret ⟨(fun h => by cases h), rfl, rfl⟩))))
     ·refine TieS.skip (.endb (.region (.run 3 rfl (.nil ?_))))
      exact TieS.leaf ⟨rfl, .of rfl rfl⟩
    ·exact TieS.exitOut rfl ⟨(fun h => by cases h), rfl, .of rfl rfl⟩
   rintro (i4 | r3) e σ' _ hq
   ·obtain ⟨rfl, hs⟩ := hq
    refine TieX.exit rfl (TieX.sub hs ?_)
    refine TieS.seq (.seq (.region (.run 1 rfl (.nil ?_))))
    refine TieS.block (.loop (fun t => ⟨[(2, .ptr 2 0), (3, .ptr 3 0), (7, .t (tI t))], [(2, .box (q10 a)), (3, .box (q10 b2))]⟩) (fun b e σ' => match b with | .inl t => e = .exit 4 ∧ Sub ⟨[], []⟩ σ' | .inr t => e = .ret ∧ retT tab σ' [.tmp 4] = some (((fun r => .t (tB r)) : Bool → T) t)) (.of rfl rfl) ?_ ?_)
    ·intro i5
     refine TieS.seq (.seq (.region (.run 5 rfl (.nil ?_))))
     refine TieS.cond rfl ?_ ?_
     ·refine TieS.skip (.seq (.block (.seq (TieX.pre fun x5 hx5 => ?_))))
      refine TieX.pre fun x6 hx6 => TieS.draw 11 [_, _, _, _, _, _, _, _, _, _, _] [(2, .ptr 2 0), (3, .ptr 3 0), (7, .t (tI i5))] [(2, .box (q10 a)), (3, .box (q10 b2))] mixed (.of rfl rfl) rfl rfl rfl rfl (.cons (.quiet rfl rfl rfl) (.cons (.quiet rfl rfl rfl) (.cons (.quiet rfl rfl rfl) (.cons (.index hx5 rfl rfl rfl rfl rfl rfl (fun _ => rfl)) (.cons (.quiet rfl rfl rfl) (.cons (.quiet rfl rfl rfl) (.cons (.quiet rfl rfl rfl) (.cons (.quiet rfl rfl rfl) (.cons (.index hx6 rfl rfl rfl rfl rfl rfl (fun _ => rfl)) (.cons (.quiet rfl rfl rfl) (.cons (.neS [.int .i64 x5.Event.Angle, .int .i64 x5.Event.Kind, .int .i64 x5.Event.Cylinder, .int .i64 x5.Event.Pulse, .int .i64 x5.Left, .bool x5.Armed, .int .i64 x5.At] [.int .i64 x6.Event.Angle, .int .i64 x6.Event.Kind, .int .i64 x6.Event.Cylinder, .int .i64 x6.Event.Pulse, .int .i64 x6.Left, .bool x6.Armed, .int .i64 x6.At] (eqv_85 x5.Event.Angle x5.Event.Kind x5.Event.Cylinder x5.Event.Pulse x5.Left x5.Armed x5.At x6.Event.Angle x6.Event.Kind x6.Event.Cylinder x6.Event.Pulse x6.Left x6.Armed x6.At) rfl rfl rfl rfl) (.nil)))))))))))) (.nil (.cond rfl ?_ ?_))
      ·exact TieS.seq (.region (.run 1 rfl (.nil (.ret ⟨(fun h => by cases h), rfl, rfl⟩))))
      ·refine TieS.skip (.endb (.region (.run 3 rfl (.nil ?_))))
       exact TieS.leaf ⟨rfl, .of rfl rfl⟩
     ·exact TieS.exitOut rfl ⟨(fun h => by cases h), rfl, .of rfl rfl⟩
    rintro (i6 | r2) e σ' _ hq
    ·obtain ⟨rfl, hs⟩ := hq
     refine TieX.exit rfl (TieX.sub hs ?_)
     exact TieS.seq (.region (.run 1 rfl (.nil (.ret ⟨.inl rfl, rfl⟩))))
    ·obtain ⟨rfl, hs⟩ := hq
     exact TieX.ret ⟨.inl rfl, hs⟩
   ·obtain ⟨rfl, hs⟩ := hq
    exact TieX.ret ⟨.inl rfl, hs⟩
  ·obtain ⟨rfl, hs⟩ := hq
   exact TieX.ret ⟨.inl rfl, hs⟩
set_option maxRecDepth 100000 in
theorem q313 (e2 : SEngine) (cylinder : Int) (kind : Int) : TieF Tryz.prog 23 [q52 e2, .t (tI cylinder), .t (tI kind)] (q279 e2 cylinder kind) (fun r => .tup [.t (tI r.1), .t (tI r.2)]) := by
 refine TieF.intro htab 33 [.tmp 6, .tmp 7] Tryz.call23 Tryz.func23 rfl rfl rfl (Nat.le_of_ble_eq_true rfl) fun w0 L => ?_
 refine TieS.seq (.region (.run 3 rfl (.nil (.seq ?_))))
 refine TieS.block (.seq (.region (.run 1 rfl (.call _ rfl rfl rfl (q74 e2) (fun _ => rfl) fun v => ?_))))
 refine TieO.run 2 rfl (.nil (.cond rfl ?_ ?_))
 ·exact TieS.seq (.region (.run 2 rfl (.nil (.ret ⟨.inl rfl, rfl⟩))))
 ·refine TieS.seq (.region (.run 3 rfl (.selOr (v := decide (cylinder > (e2.Order.length : Int))) 6 15 (fun b => ⟨[(1, .t (tI cylinder)), (2, .t (tI kind)), (21, .t (tB b))], []⟩) rfl ?_ ?_ ?_)))
  ·exact TieO.run 6 rfl (.nil (.leaf ⟨rfl, .of rfl rfl⟩))
  ·exact TieO.run 6 rfl (.nil (.leaf ⟨rfl, .of rfl rfl⟩))
  refine TieO.run 1 rfl (.nil (.cond rfl ?_ ?_))
  ·exact TieS.seq (.region (.run 2 rfl (.nil (.ret ⟨.inl rfl, rfl⟩))))
  ·refine TieS.seq (.region (.run 3 rfl (.selOr (v := decide (kind > 4)) 3 25 (fun b => ⟨[(1, .t (tI cylinder)), (2, .t (tI kind)), (28, .t (tB b))], []⟩) rfl ?_ ?_ ?_)))
   ·exact TieO.run 3 rfl (.nil (.leaf ⟨rfl, .of rfl rfl⟩))
   ·exact TieO.run 3 rfl (.nil (.leaf ⟨rfl, .of rfl rfl⟩))
   refine TieO.run 1 rfl (.nil (.cond rfl ?_ ?_))
   ·exact TieS.seq (.region (.run 2 rfl (.nil (.ret ⟨.inl rfl, rfl⟩))))
   ·refine TieS.skip (.endb (.seq (.region (.run 3 rfl ?_))))
    exact TieO.call _ rfl rfl rfl (q44 (⟨0, kind, cylinder, 0⟩ : SEvent)) (fun _ => rfl) fun v2 => .run 2 rfl (.nil (.ret ⟨.inl rfl, rfl⟩))
set_option maxRecDepth 100000 in
theorem q299 (x : SChannel) : TieF Tryz.prog 75 [q174 x] (q199 x) (fun r => .t (tB r)) := by
 refine TieF.intro htab 5 [.tmp 2] Tryz.call75 Tryz.func75 rfl rfl rfl (Nat.le_of_ble_eq_true rfl) fun w0 L => ?_
 refine TieS.seq (.region (.run 2 rfl (.nil (.seq ?_))))
 exact TieS.region (.run 3 rfl (.nil (.ret ⟨.inl rfl, rfl⟩)))
set_option maxRecDepth 100000 in
theorem q329 (s : SScheduler) : TieF Tryz.prog 29 [q22 s] (q290 s) (fun r => .tup [q22 r.1, .t (tI r.2)]) := by
 refine TieF.intro htab 25 [.cell 2 33, .tmp 3] Tryz.call29 Tryz.func29 rfl rfl rfl (Nat.le_of_ble_eq_true rfl) fun w0 L => ?_
 refine TieS.seq (.region (.run 3 rfl (.nil (.seq ?_))))
 refine TieS.block (.seq (.region (.run 1 rfl (.call _ rfl rfl rfl (q39 s) (fun _ => rfl) fun v => ?_))))
 refine TieO.run 2 rfl (.nil (.cond rfl ?_ ?_))
 ·exact TieS.seq (.region (.run 3 rfl (.nil (.ret ⟨.inl rfl, rfl⟩))))
 ·refine TieS.seq (.region (.run 4 rfl (.bind 5 (fun b2 => ⟨[(1, .ptr 1 0), (2, .ptr 2 0), (19, .t (tB b2))], [(1, .box (q10 s)), (2, .box [.t (.v (.slice none 0 0)), .t (tI 0), .t (tB false), .t (tI 0), .t (tI 0), .t (tI 0), .t (tI 0), .t (tI 0), .t (tI 0), .t (.v (.slice none 0 0)), .t (.v (.slice none 0 0)), .t (.v (.slice none 0 0)), .t (tB false)])]⟩) (TieO.split 14 rfl ?_ ?_) fun b2 _ => ?_)))
  ·exact TieO.run 5 rfl (.nil (.leaf ⟨rfl, .of rfl rfl⟩))
  ·exact TieO.run 3 rfl (.call _ rfl rfl rfl (q46 s.Timer.Channels 75 [] q199 q299) (fun _ => rfl) fun v2 => .run 1 rfl (.nil (.leaf ⟨rfl, .of rfl rfl⟩)))
  refine TieO.run 1 rfl (.nil (.cond rfl ?_ ?_))
  ·exact TieS.seq (.region (.run 3 rfl (.nil (.ret ⟨.inl rfl, rfl⟩))))
  ·refine TieS.skip (.endb (.seq (.region (.run 1 rfl ?_))))
   refine TieO.call _ rfl rfl rfl (TieG.toF (q86 s) (fun _ => rfl)) (fun _ => rfl) fun v3 => .run 2 rfl (.nil (.seq (.region ?_)))
   refine TieO.run 2 rfl (.nil (.seq (.region (.run 3 rfl ?_))))
   exact TieO.nil (.ret ⟨.inl rfl, rfl⟩)
set_option maxRecDepth 100000 in
theorem q215 (c : SChannel) : TieF Tryz.prog 32 [q174 c] (q83 c) (fun r => .t (tB r)) := by
 refine TieF.intro htab 5 [.tmp 2] Tryz.call32 Tryz.func32 rfl rfl rfl (Nat.le_of_ble_eq_true rfl) fun w0 L => ?_
 refine TieS.seq (.region (.run 2 rfl (.nil (.seq ?_))))
 exact TieS.region (.run 3 rfl (.nil (.ret ⟨.inl rfl, rfl⟩)))
end Go.Proofs.YtldhbjpnlehpgaaGreat
