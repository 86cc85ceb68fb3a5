/- This file joins: Ties, printed by gen.py: each function of the loaded program computes its model. Ties, printed by gen.py: each function of the loaded program computes its model. Ties, printed by gen.py: each function of the loaded program computes its model. What the arguments are known to be. Printed by law.py. What the arguments of the rows hold. Printed by law.py. Part Xg: loops by invariants, lists. Plain Lean. The events' functions, as they compute. Plain Lean. -/
import Derived.Test.YtldhbjpnlehpgaaGreatSchedulerExactG
import Derived.Test.YtldhbjpnlehpgaaGreatProg
import Derived.KernelRfl
set_option linter.unusedSimpArgs false
set_option linter.unusedVariables false
namespace Go.Proofs.YtldhbjpnlehpgaaGreat
open Go Go.Pv Go.Proofs
set_option maxRecDepth 100000 in
set_option maxHeartbeats 4000000 in
theorem q378 (e2 : SEngine) (l : List SFire) (ticks : Int) : TieF Tryz.prog 121 [q37 e2, .t (tS q12 l), .t (tI ticks)] (q246 e2 l ticks) (fun r => .tup [.t (tS q16 r.1), .t (tI r.2)]) := by
 refine TieF.intro htab 134 [.tmp 6, .tmp 7] Tryz.call121 Tryz.func121 rfl rfl rfl (Nat.le_of_ble_eq_true rfl) fun w0 L => ?_
 refine TieS.seq (.region (.run 4 rfl (.nil (.seq ?_))))
 refine TieS.seq (.region (.run 1 rfl (.call _ rfl rfl rfl (q91 e2) (fun _ => rfl) fun v => .run 2 rfl ?_)))
 refine TieO.frzBox 3 rfl rfl (.bind 4 (fun b2 => ⟨[(1, .t (tS q12 l)), (3, .el (q17 e2)), (5, .ptr 5 0), (26, .t (tB b2))], [(5, .box [.t (tI ticks)])]⟩) (TieO.split 22 rfl ?_ ?_) fun b2 _ => ?_)
 ·exact TieO.run 4 rfl (.nil (.leaf ⟨rfl, .of rfl rfl⟩))
 ·refine TieO.run 1 rfl (.run 1 rfl (.sub (σ' := ⟨[(0, .agg [.t (tS Pv.encI e2.Order), .t (tI e2.First)]), (1, .t (tS q12 l)), (2, .t (tI ticks)), (3, .el (q17 e2)), (5, .ptr 5 0), (6, .t (.v (.slice none 0 0))), (7, .t (tI 0)), (19, .agg [.t (tS Pv.encI e2.Order), .t (tI e2.First)]), (20, .t (tB v)), (21, .t (tB (!v))), (22, .t (tB false)), (23, .t (tS q12 l)), (24, .fz 133 [q17 e2])], [(5, .box [.t (tI ticks)])]⟩) (.of rfl rfl) (.call _ rfl rfl rfl (q86 l 133 [q17 e2] (fun x0 => q127 x0 e2) (fun x0 => q349 x0 e2)) (fun _ => rfl) fun v2 => .run 1 rfl ?_)))
  exact TieO.nil (.leaf ⟨rfl, .of rfl rfl⟩)
 refine TieO.nil (.cond rfl ?_ ?_)
 ·exact TieS.seq (.region (.run 2 rfl (.nil (.ret ⟨.inl rfl, rfl⟩))))
 ·refine TieS.skip (.seq (.seq (.region (.run 1 rfl ?_))))
  refine TieO.call _ rfl rfl rfl (q55 ticks 4000 1000000) (fun _ => rfl) fun v3 => .run 1 rfl (.nil (.cond rfl ?_ ?_))
  ·exact TieS.seq (.region (.run 2 rfl (.nil (.ret ⟨.inl rfl, rfl⟩))))
  ·refine TieS.skip (.seq (.seq (.region (.run 3 rfl ?_))))
   refine TieO.nil (.block (.loop (fun p => ⟨[(1, .t (tS q12 l)), (3, .el (q17 e2)), (5, .ptr 5 0), (30, .t (tS q12 l)), (31, .t (tI (l.length : Int))), (32, .t (tI p.1))], [(5, .box [.t (tI ticks)])]⟩) (fun b e σ' => match b with | .inl t => e = .exit 0 ∧ Sub ⟨[(1, .t (tS q12 l)), (3, .el (q17 e2)), (5, .ptr 5 0)], [(5, .box [.t (tI ticks)])]⟩ σ' | .inr t => e = .ret ∧ retT tab σ' [.tmp 6, .tmp 7] = some (((fun r => .tup [.t (tS q16 r.1), .t (tI r.2)]) : (List SEvent × Int) → T) t)) (.of rfl rfl) ?_ ?_))
   ·rintro ⟨i, s⟩
    refine TieS.seq (.region (.run 1 rfl (.nil (.seq ?_))))
    refine TieS.cond rfl ?_ ?_
    ·refine TieS.skip (.seq (TieX.sub (σ' := ⟨[(1, .t (tS q12 l)), (3, .el (q17 e2)), (5, .ptr 5 0), (30, .t (tS q12 l)), (31, .t (tI (l.length : Int))), (32, .t (tI i))], [(5, .box [.t (tI ticks)])]⟩) (.of rfl rfl) (TieS.bind (Q₁ := fun f e σ' => match f with | .next t => e = .normal ∧ Sub ⟨[(1, .t (tS q12 l)), (3, .el (q17 e2)), (5, .ptr 5 0), (30, .t (tS q12 l)), (31, .t (tI (l.length : Int))), (32, .t (tI i))], [(5, .box [.t (tI ticks)])]⟩ σ' | .brk t => e = .exit 0 ∧ Sub ⟨[(1, .t (tS q12 l)), (3, .el (q17 e2)), (5, .ptr 5 0)], [(5, .box [.t (tI ticks)])]⟩ σ' | .ret t => e = .ret ∧ retT tab σ' [.tmp 6, .tmp 7] = some (((fun r => .tup [.t (tS q16 r.1), .t (tI r.2)]) : (List SEvent × Int) → T) t)) ?_ ?_)))
     ·refine TieS.block (.seq (.region (.run 1 rfl (.index rfl rfl rfl rfl rfl rfl rfl rfl (fun _ => rfl) fun x hx => ?_))))
      refine TieO.run 4 rfl (.nil (.seq (.region (.run 2 rfl ?_))))
      refine TieO.sliceF rfl rfl rfl rfl rfl rfl rfl (fun _ => rfl) rfl rfl fun l2 hl2 => .frzBox 9 rfl rfl (.run 1 rfl (.sub (σ' := ⟨[(1, .t (tS q12 l)), (3, .el (q17 e2)), (5, .ptr 5 0), (8, .t (tI i)), (9, .el (q12 x)), (30, .t (tS q12 l)), (31, .t (tI (l.length : Int))), (32, .t (tI i)), (34, .t (tI i)), (35, .el (q12 x)), (36, .agg [.t (tI x.Cylinder), .t (tI x.Spark), .t (tI x.Dwell), .t (tI x.End), .t (tI x.Inject), .t (tI x.Gap), .t (tI x.Extra)]), (37, .t (tS q12 l)), (38, .t (tI i)), (39, .t (tS q12 l2)), (40, .fz 134 [q12 x])], [(5, .box [.t (tI ticks)])]⟩) (.of rfl rfl) (.call _ rfl rfl rfl (q86 l2 134 [q12 x] (fun x0 => q158 x0 x) (fun x0 => q348 x0 x)) (fun _ => rfl) fun v4 => ?_)))
      refine TieO.nil (.cond rfl ?_ ?_)
      ·exact TieS.seq (.region (.run 2 rfl (.nil (.ret ⟨rfl, rfl⟩))))
      ·exact TieS.skip (.endb (.leaf ⟨rfl, .of rfl rfl⟩))
     rintro (t | t | t) e σ' _ hq
     ·obtain ⟨rfl, hs⟩ := hq
      exact TieX.sub hs (TieS.region (.run 2 rfl (.nil (.leaf ⟨rfl, .of rfl rfl⟩))))
     ·obtain ⟨rfl, hs⟩ := hq
      exact TieX.exitOut rfl ⟨(fun h => by cases h), rfl, hs⟩
     ·obtain ⟨rfl, hs⟩ := hq
      exact TieX.ret ⟨(fun h => by cases h), rfl, hs⟩
    ·exact TieS.exitOut rfl ⟨(fun h => by cases h), rfl, .of rfl rfl⟩
   rintro (s2 | r4) e σ' _ hq
   ·obtain ⟨rfl, hs⟩ := hq
    refine TieX.exit rfl (TieX.sub hs ?_)
    refine TieS.seq (.region (.run 1 rfl (.nil (.seq ?_))))
    refine TieS.seq (.region (.run 3 rfl (.nil (.block ?_))))
    refine TieX.frzBox 5 rfl rfl (TieX.nilB 10 3032 68 4 [0] rfl rfl rfl rfl rfl (TieS.loop (fun p => ⟨[(3, .el (q17 e2)), (5, .el (Pv.encI ticks)), (10, .ptr 10 0), (43, .t (tS q12 l)), (44, .t (tI (l.length : Int))), (45, .t (tI p.1))], [(10, .box [.own 3032]), (3032, .rs 68 4 p.2 q16)]⟩) (fun b e σ' => match b with | .inl t => e = .exit 2 ∧ Sub ⟨[(10, .ptr 10 0)], [(10, .box [.own 3032]), (3032, .rs 68 4 t q16)]⟩ σ' | .inr t => e = .ret ∧ retT tab σ' [.tmp 6, .tmp 7] = some (((fun r => .tup [.t (tS q16 r.1), .t (tI r.2)]) : (List SEvent × Int) → T) t)) (.of rfl rfl) ?_ ?_))
    ·rintro ⟨i2, f2⟩
     refine TieS.seq (.region (.run 1 rfl (.nil (.seq ?_))))
     refine TieS.cond rfl ?_ ?_
     ·refine TieS.skip (.seq (TieX.pre fun x2 hx2 => TieX.sub (σ' := ⟨[(3, .el (q17 e2)), (5, .el (Pv.encI ticks)), (10, .ptr 10 0), (43, .t (tS q12 l)), (44, .t (tI (l.length : Int))), (45, .t (tI i2))], [(10, .box [.own 3032]), (3032, .rs 68 4 f2 q16)]⟩) (.of rfl rfl) (TieS.bind (Q₁ := fun f e σ' => match f with | .next t => e = .normal ∧ Sub ⟨[(3, .el (q17 e2)), (5, .el (Pv.encI ticks)), (10, .ptr 10 0), (43, .t (tS q12 l)), (44, .t (tI (l.length : Int))), (45, .t (tI i2))], [(10, .box [.own 3032]), (3032, .rs 68 4 t q16)]⟩ σ' | .brk t => e = .exit 2 ∧ Sub ⟨[(10, .ptr 10 0)], [(10, .box [.own 3032]), (3032, .rs 68 4 t q16)]⟩ σ' | .ret t => e = .ret ∧ retT tab σ' [.tmp 6, .tmp 7] = some (((fun r => .tup [.t (tS q16 r.1), .t (tI r.2)]) : (List SEvent × Int) → T) t)) ?_ ?_)))
      ·refine TieS.block (.seq (.region (.indexH hx2 rfl rfl rfl rfl rfl rfl rfl rfl (fun _ => rfl) (.run 3 rfl ?_))))
       refine TieO.nil (.seq (.region (.run 3 rfl (.call _ rfl rfl rfl (q264 e2 x2.Cylinder) (fun _ => rfl) fun r2 => ?_))))
       refine TieO.run 5 rfl (.nil (.seq (.region (.frzBox 12 rfl rfl ?_))))
       refine TieO.run 1 rfl (.run 1 rfl (.nil (.seq (.region ?_))))
       refine TieO.run 1 rfl (.sub (σ' := ⟨[(3, .el (q17 e2)), (5, .el (Pv.encI ticks)), (10, .ptr 10 0), (12, .el (q12 x2)), (13, .t (tI r2.1)), (14, .t (tB r2.2)), (15, .clo 135 [.ptr 10 0, .el (q12 x2)]), (43, .t (tS q12 l)), (44, .t (tI (l.length : Int))), (45, .t (tI i2)), (47, .el (q12 x2)), (48, .agg [.t (tI x2.Cylinder), .t (tI x2.Spark), .t (tI x2.Dwell), .t (tI x2.End), .t (tI x2.Inject), .t (tI x2.Gap), .t (tI x2.Extra)]), (49, .tup [.t (tI r2.1), .t (tB r2.2)]), (50, .agg [.t (tS Pv.encI e2.Order), .t (tI e2.First)]), (51, .el (q12 x2)), (52, .t (tI x2.Cylinder)), (53, .tup [.t (tI r2.1), .t (tB r2.2)]), (54, .t (tI r2.1)), (55, .t (tB r2.2)), (56, .clo 135 [.ptr 10 0, .el (q12 x2)]), (57, .fz 136 [Pv.encI ticks])], [(10, .box [.own 3032]), (3032, .rs 68 4 f2 q16)]⟩) (.of rfl rfl) (.run 1 rfl (.nil (.seq ?_))))
       refine TieS.region (.run 5 rfl (.nil (.seq (.region ?_))))
       refine TieO.run 2 rfl (.callG [(1000000, 10), (1000001, 3032)] [(900000, 2512)] (fun v5 => ⟨[(3, .el (q17 e2)), (5, .el (Pv.encI ticks)), (10, .ptr 10 0), (12, .el (q12 x2)), (13, .t (tI r2.1)), (14, .t (tB r2.2)), (15, .clo 135 [.ptr 10 0, .el (q12 x2)]), (16, .fz 136 [Pv.encI ticks]), (17, .t (tI (w64 (r2.1 - x2.Spark)))), (43, .t (tS q12 l)), (44, .t (tI (l.length : Int))), (45, .t (tI i2)), (47, .el (q12 x2)), (48, .agg [.t (tI x2.Cylinder), .t (tI x2.Spark), .t (tI x2.Dwell), .t (tI x2.End), .t (tI x2.Inject), .t (tI x2.Gap), .t (tI x2.Extra)]), (49, .tup [.t (tI r2.1), .t (tB r2.2)]), (50, .agg [.t (tS Pv.encI e2.Order), .t (tI e2.First)]), (51, .el (q12 x2)), (52, .t (tI x2.Cylinder)), (53, .tup [.t (tI r2.1), .t (tB r2.2)]), (54, .t (tI r2.1)), (55, .t (tB r2.2)), (56, .clo 135 [.ptr 10 0, .el (q12 x2)]), (57, .fz 136 [Pv.encI ticks]), (58, .t (tI r2.1)), (59, .el (List.drop 1 (q12 x2))), (60, .t (tI x2.Spark)), (61, .t (tI (w64 (r2.1 - x2.Spark)))), (62, .clo 135 [.ptr 10 0, .el (q12 x2)]), (63, .t (tI (w64 (r2.1 - x2.Spark)))), (64, .tup [])], [(10, .box [.own 2512]), (2512, .rs 68 4 v5 q16)]⟩) (q82 (w64 (r2.1 - x2.Spark)) 2 0 f2 x2) rfl rfl rfl rfl rfl rfl rfl (fun _ => rfl) (fun _ => rfl) (fun _ => rfl) (fun _ => .of rfl rfl) fun v5 hv5 => .nil (.seq (.region ?_)))
       refine TieO.run 5 rfl (.call _ rfl rfl rfl (q31 x2.Dwell ticks) (fun _ => rfl) fun v6 => .run 2 rfl (.callG [(1000000, 10), (1000001, 2512)] [(900000, 2584)] (fun v7 => ⟨[(3, .el (q17 e2)), (5, .el (Pv.encI ticks)), (10, .ptr 10 0), (12, .el (q12 x2)), (13, .t (tI r2.1)), (14, .t (tB r2.2)), (15, .clo 135 [.ptr 10 0, .el (q12 x2)]), (16, .fz 136 [Pv.encI ticks]), (17, .t (tI (w64 (r2.1 - x2.Spark)))), (43, .t (tS q12 l)), (44, .t (tI (l.length : Int))), (45, .t (tI i2)), (47, .el (q12 x2)), (48, .agg [.t (tI x2.Cylinder), .t (tI x2.Spark), .t (tI x2.Dwell), .t (tI x2.End), .t (tI x2.Inject), .t (tI x2.Gap), .t (tI x2.Extra)]), (49, .tup [.t (tI r2.1), .t (tB r2.2)]), (50, .agg [.t (tS Pv.encI e2.Order), .t (tI e2.First)]), (51, .el (q12 x2)), (52, .t (tI x2.Cylinder)), (53, .tup [.t (tI r2.1), .t (tB r2.2)]), (54, .t (tI r2.1)), (55, .t (tB r2.2)), (56, .clo 135 [.ptr 10 0, .el (q12 x2)]), (57, .fz 136 [Pv.encI ticks]), (58, .t (tI r2.1)), (59, .el (List.drop 1 (q12 x2))), (60, .t (tI x2.Spark)), (61, .t (tI (w64 (r2.1 - x2.Spark)))), (62, .clo 135 [.ptr 10 0, .el (q12 x2)]), (63, .t (tI (w64 (r2.1 - x2.Spark)))), (64, .tup []), (65, .clo 135 [.ptr 10 0, .el (q12 x2)]), (66, .t (tI (w64 (r2.1 - x2.Spark)))), (67, .fz 136 [Pv.encI ticks]), (68, .el (List.drop 2 (q12 x2))), (69, .t (tI x2.Dwell)), (70, .t (tI v6)), (71, .t (tI (minI v6 23040))), (72, .t (tI (w64 ((w64 (r2.1 - x2.Spark)) - (minI v6 23040))))), (73, .tup [])], [(10, .box [.own 2584]), (2584, .rs 68 4 v7 q16)]⟩) (q82 (w64 ((w64 (r2.1 - x2.Spark)) - (minI v6 23040))) 1 0 v5 x2) rfl rfl rfl rfl rfl rfl rfl (fun _ => rfl) (fun _ => rfl) (fun _ => rfl) (fun _ => .of rfl rfl) fun v7 hv7 => .nil ?_))
       refine TieS.seq (.seq (TieX.pre fun v8 hv8 => TieX.pre fun v9 hv9 => TieX.pre fun v10 hv10 => ?_))
       refine TieS.draw 14 [_, _, _, _, _, _, _, _, _, _, _, _, _, _] [(3, .el (q17 e2)), (5, .el (Pv.encI ticks)), (10, .ptr 10 0), (12, .el (q12 x2)), (13, .t (tI r2.1)), (15, .clo 135 [.ptr 10 0, .el (q12 x2)]), (16, .fz 136 [Pv.encI ticks]), (43, .t (tS q12 l)), (44, .t (tI (l.length : Int))), (45, .t (tI i2))] [(10, .box [.own 2584]), (2584, .rs 68 4 v7 q16)] mixed (.of rfl rfl) rfl rfl rfl rfl (.cons (.quiet rfl rfl rfl) (.cons (.quiet rfl rfl rfl) (.cons (.quiet rfl rfl rfl) (.cons (.callV (q31 x2.Inject ticks) hv8 rfl rfl rfl rfl) (.cons (.quiet rfl rfl rfl) (.cons (.quiet rfl rfl rfl) (.cons (.quiet rfl rfl rfl) (.cons (.callV (q31 x2.Gap ticks) hv9 rfl rfl rfl rfl) (.cons (.quiet rfl rfl rfl) (.cons (.quiet rfl rfl rfl) (.cons (.quiet rfl rfl rfl) (.cons (.callV (q31 x2.Extra ticks) hv10 rfl rfl rfl rfl) (.cons (.quiet rfl rfl rfl) (.cons (.quiet rfl rfl rfl) (.nil))))))))))))))) (.nil (.cond rfl ?_ ?_))
       ·exact TieS.seq (.region (.run 2 rfl (.nil (.ret ⟨rfl, rfl⟩))))
       ·refine TieS.skip (.seq (.region (.run 5 rfl (.nil ?_))))
        refine TieS.seq (.seq (.region (.run 1 rfl (.call _ rfl rfl rfl (q189 x2) (fun _ => rfl) fun v11 => ?_))))
        refine TieO.run 1 rfl (.nil (.bind (Q₁ := fun t e σ' => e = .normal ∧ Sub ⟨[(3, .el (q17 e2)), (5, .el (Pv.encI ticks)), (10, .ptr 10 0), (12, .el (q12 x2)), (15, .clo 135 [.ptr 10 0, .el (q12 x2)]), (16, .fz 136 [Pv.encI ticks]), (18, .t (tI (w64 (r2.1 - x2.End)))), (43, .t (tS q12 l)), (44, .t (tI (l.length : Int))), (45, .t (tI i2))], [(10, .box [.own 2840]), (2840, .rs 68 4 t q16)]⟩ σ') ?_ ?_))
        ·refine TieS.cond rfl ?_ ?_
         ·refine TieS.seq (.region (.run 2 rfl (.callG [(1000000, 10), (1000001, 2584)] [(900000, 2776)] (fun v12 => ⟨[(3, .el (q17 e2)), (5, .el (Pv.encI ticks)), (10, .ptr 10 0), (12, .el (q12 x2)), (13, .t (tI r2.1)), (15, .clo 135 [.ptr 10 0, .el (q12 x2)]), (16, .fz 136 [Pv.encI ticks]), (18, .t (tI (w64 (r2.1 - x2.End)))), (43, .t (tS q12 l)), (44, .t (tI (l.length : Int))), (45, .t (tI i2)), (74, .fz 136 [Pv.encI ticks]), (75, .el (List.drop 4 (q12 x2))), (76, .t (tI x2.Inject)), (77, .t (tI v8)), (78, .fz 136 [Pv.encI ticks]), (79, .el (List.drop 5 (q12 x2))), (80, .t (tI x2.Gap)), (81, .t (tI v9)), (82, .fz 136 [Pv.encI ticks]), (83, .el (List.drop 6 (q12 x2))), (84, .t (tI x2.Extra)), (85, .t (tI v10)), (86, .t (tI (maxI (maxI v8 v9) v10))), (87, .t (tB (decide ((maxI (maxI v8 v9) v10) > 23040)))), (88, .t (tI r2.1)), (89, .el (List.drop 3 (q12 x2))), (90, .t (tI x2.End)), (91, .t (tI (w64 (r2.1 - x2.End)))), (92, .agg [.t (tI x2.Cylinder), .t (tI x2.Spark), .t (tI x2.Dwell), .t (tI x2.End), .t (tI x2.Inject), .t (tI x2.Gap), .t (tI x2.Extra)]), (93, .t (tI v11)), (94, .t (tB (decide (v11 > 0)))), (95, .clo 135 [.ptr 10 0, .el (q12 x2)]), (96, .t (tI (w64 (r2.1 - x2.End)))), (97, .tup [])], [(10, .box [.own 2776]), (2776, .rs 68 4 v12 q16)]⟩) (q82 (w64 (r2.1 - x2.End)) 4 1 v7 x2) rfl rfl rfl rfl rfl rfl rfl (fun _ => rfl) (fun _ => rfl) (fun _ => rfl) (fun _ => .of rfl rfl) fun v12 hv12 => .nil ?_)))
          refine TieS.region (.run 5 rfl (.call _ rfl rfl rfl (q31 x2.Inject ticks) (fun _ => rfl) fun v13 => .run 1 rfl (.callG [(1000000, 10), (1000001, 2776)] [(900000, 2840)] (fun v14 => ⟨[(3, .el (q17 e2)), (5, .el (Pv.encI ticks)), (10, .ptr 10 0), (12, .el (q12 x2)), (13, .t (tI r2.1)), (15, .clo 135 [.ptr 10 0, .el (q12 x2)]), (16, .fz 136 [Pv.encI ticks]), (18, .t (tI (w64 (r2.1 - x2.End)))), (43, .t (tS q12 l)), (44, .t (tI (l.length : Int))), (45, .t (tI i2)), (74, .fz 136 [Pv.encI ticks]), (75, .el (List.drop 4 (q12 x2))), (76, .t (tI x2.Inject)), (77, .t (tI v8)), (78, .fz 136 [Pv.encI ticks]), (79, .el (List.drop 5 (q12 x2))), (80, .t (tI x2.Gap)), (81, .t (tI v9)), (82, .fz 136 [Pv.encI ticks]), (83, .el (List.drop 6 (q12 x2))), (84, .t (tI x2.Extra)), (85, .t (tI v10)), (86, .t (tI (maxI (maxI v8 v9) v10))), (87, .t (tB (decide ((maxI (maxI v8 v9) v10) > 23040)))), (88, .t (tI r2.1)), (89, .el (List.drop 3 (q12 x2))), (90, .t (tI x2.End)), (91, .t (tI (w64 (r2.1 - x2.End)))), (92, .agg [.t (tI x2.Cylinder), .t (tI x2.Spark), .t (tI x2.Dwell), .t (tI x2.End), .t (tI x2.Inject), .t (tI x2.Gap), .t (tI x2.Extra)]), (93, .t (tI v11)), (94, .t (tB (decide (v11 > 0)))), (95, .clo 135 [.ptr 10 0, .el (q12 x2)]), (96, .t (tI (w64 (r2.1 - x2.End)))), (97, .tup []), (98, .clo 135 [.ptr 10 0, .el (q12 x2)]), (99, .t (tI (w64 (r2.1 - x2.End)))), (100, .fz 136 [Pv.encI ticks]), (101, .el (List.drop 4 (q12 x2))), (102, .t (tI x2.Inject)), (103, .t (tI v13)), (104, .t (tI (w64 ((w64 (r2.1 - x2.End)) - v13)))), (105, .tup [])], [(10, .box [.own 2840]), (2840, .rs 68 4 v14 q16)]⟩) (q82 (w64 ((w64 (r2.1 - x2.End)) - v13)) 3 1 v12 x2) rfl rfl rfl rfl rfl rfl rfl (fun _ => rfl) (fun _ => rfl) (fun _ => rfl) (fun _ => .of rfl rfl) fun v14 hv14 => ?_)))
          exact TieO.nil (.leaf ⟨rfl, .of rfl rfl⟩)
         ·exact TieS.skip (TieX.sub (σ' := ⟨[(3, .el (q17 e2)), (5, .el (Pv.encI ticks)), (10, .ptr 10 0), (12, .el (q12 x2)), (15, .clo 135 [.ptr 10 0, .el (q12 x2)]), (16, .fz 136 [Pv.encI ticks]), (18, .t (tI (w64 (r2.1 - x2.End)))), (43, .t (tS q12 l)), (44, .t (tI (l.length : Int))), (45, .t (tI i2))], [(10, .box [.own 2584]), (2584, .rs 68 4 v7 q16)]⟩) (.of rfl rfl) (TieX.ren [(10, 10), (2584, 2840)] rfl rfl rfl (TieS.leaf ⟨rfl, .of rfl rfl⟩)))
        rintro f3 e σ' _ ⟨rfl, hs⟩
        refine TieX.sub hs (TieS.seq (.region (.run 1 rfl (.call _ rfl rfl rfl (q189 x2) (fun _ => rfl) fun v15 => ?_))))
        refine TieO.run 1 rfl (.nil (.cond rfl ?_ ?_))
        ·refine TieS.seq (.region (.run 5 rfl (.call _ rfl rfl rfl (q31 x2.Gap ticks) (fun _ => rfl) fun v16 => .run 1 rfl ?_)))
         refine TieO.callG [(1000000, 10), (1000001, 2840)] [(900000, 2928)] (fun v17 => ⟨[(3, .el (q17 e2)), (5, .el (Pv.encI ticks)), (10, .ptr 10 0), (12, .el (q12 x2)), (15, .clo 135 [.ptr 10 0, .el (q12 x2)]), (16, .fz 136 [Pv.encI ticks]), (18, .t (tI (w64 (r2.1 - x2.End)))), (43, .t (tS q12 l)), (44, .t (tI (l.length : Int))), (45, .t (tI i2)), (106, .agg [.t (tI x2.Cylinder), .t (tI x2.Spark), .t (tI x2.Dwell), .t (tI x2.End), .t (tI x2.Inject), .t (tI x2.Gap), .t (tI x2.Extra)]), (107, .t (tI v15)), (108, .t (tB (decide (v15 > 1)))), (109, .clo 135 [.ptr 10 0, .el (q12 x2)]), (110, .t (tI (w64 (r2.1 - x2.End)))), (111, .fz 136 [Pv.encI ticks]), (112, .el (List.drop 5 (q12 x2))), (113, .t (tI x2.Gap)), (114, .t (tI v16)), (115, .t (tI (w64 ((w64 (r2.1 - x2.End)) + v16)))), (116, .tup [])], [(10, .box [.own 2928]), (2928, .rs 68 4 v17 q16)]⟩) (q82 (w64 ((w64 (r2.1 - x2.End)) + v16)) 3 2 f3 x2) rfl rfl rfl rfl rfl rfl rfl (fun _ => rfl) (fun _ => rfl) (fun _ => rfl) (fun _ => .of rfl rfl) fun v17 hv17 => .nil (.bind (Q₁ := fun t e σ' => e = .normal ∧ Sub ⟨[(3, .el (q17 e2)), (5, .el (Pv.encI ticks)), (10, .ptr 10 0), (43, .t (tS q12 l)), (44, .t (tI (l.length : Int))), (45, .t (tI i2))], [(10, .box [.own 3032]), (3032, .rs 68 4 t q16)]⟩ σ') ?_ ?_)
         ·refine TieX.pre fun v18 hv18 => TieX.pre fun v19 hv19 => TieS.draws 12 (bm 13 0) (bm 13 4095) ⟨[(3, .el (q17 e2)), (5, .el (Pv.encI ticks)), (10, .ptr 10 0), (43, .t (tS q12 l)), (44, .t (tI (l.length : Int))), (45, .t (tI i2)), (117, .clo 135 [.ptr 10 0, .el (q12 x2)]), (128, .t (tI (w64 ((w64 ((w64 (r2.1 - x2.End)) + v18)) + v19))))], [(10, .box [.own 2928]), (2928, .rs 68 4 v17 q16)]⟩ mixed (fun _ _ _ h => by cases h.1) rfl rfl rfl rfl ?_ ?_
          ·refine TieA.have_ (fuel₁ := 2) (l₁ := (bm 13 2047)) (σ₁ := ⟨[(3, .el (q17 e2)), (5, .el (Pv.encI ticks)), (10, .ptr 10 0), (43, .t (tS q12 l)), (44, .t (tI (l.length : Int))), (45, .t (tI i2)), (117, .clo 135 [.ptr 10 0, .el (q12 x2)]), (123, .t (tI (w64 ((w64 (r2.1 - x2.End)) + v18)))), (127, .t (tI v19))], [(10, .box [.own 2928]), (2928, .rs 68 4 v17 q16)]⟩) ?_ fun A_0 => ?_
           ·exact TieA.bin (V := .t (tI (w64 ((w64 ((w64 (r2.1 - x2.End)) + v18)) + v19)))) 11 _ rfl rfl rfl rfl rfl rfl (by kernel_rfl) (by kernel_rfl) (by kernel_rfl) rfl rfl rfl rfl (.done (.of rfl rfl))
           refine TieA.have_ (fuel₁ := 5) (l₁ := (bm 13 927)) (σ₁ := ⟨[(3, .el (q17 e2)), (5, .el (Pv.encI ticks)), (10, .ptr 10 0), (43, .t (tS q12 l)), (44, .t (tI (l.length : Int))), (45, .t (tI i2)), (117, .clo 135 [.ptr 10 0, .el (q12 x2)]), (118, .t (tI (w64 (r2.1 - x2.End)))), (119, .fz 136 [Pv.encI ticks]), (121, .t (tI x2.Gap)), (124, .fz 136 [Pv.encI ticks]), (126, .t (tI x2.Extra))], [(10, .box [.own 2928]), (2928, .rs 68 4 v17 q16)]⟩) ?_ fun A_1 => ?_
           ·refine TieA.all [5] (by kernel_rfl) rfl (AllA.cons (σ₁ := ⟨[(3, .el (q17 e2)), (5, .el (Pv.encI ticks)), (10, .ptr 10 0), (43, .t (tS q12 l)), (44, .t (tI (l.length : Int))), (45, .t (tI i2)), (117, .clo 135 [.ptr 10 0, .el (q12 x2)]), (118, .t (tI (w64 (r2.1 - x2.End)))), (122, .t (tI v18)), (124, .fz 136 [Pv.encI ticks]), (126, .t (tI x2.Extra))], [(10, .box [.own 2928]), (2928, .rs 68 4 v17 q16)]⟩) _ rfl rfl ?_ ?_ ?_)
            ·refine TieO.withH hv18 (TieO.call _ rfl rfl rfl (q31 x2.Gap ticks) (fun _ => rfl) (TieO.ifH ?_))
             exact TieO.nil (TieS.leaf ⟨rfl, .of rfl rfl⟩)
            ·refine TieA.bin (V := .t (tI (w64 ((w64 (r2.1 - x2.End)) + v18)))) 6 _ rfl rfl rfl rfl rfl rfl (by kernel_rfl) (by kernel_rfl) (by kernel_rfl) rfl rfl rfl rfl (.all [10] (by kernel_rfl) rfl (AllA.cons _ rfl rfl ?_ A_0 ?_))
             ·refine TieO.withH hv19 (TieO.call _ rfl rfl rfl (q31 x2.Extra ticks) (fun _ => rfl) (TieO.ifH ?_))
              exact TieO.nil (TieS.leaf ⟨rfl, .of rfl rfl⟩)
             exact AllA.nil
            exact AllA.nil
           refine TieA.mv 0 rfl (.inl rfl) rfl (by kernel_rfl) rfl (.mv 1 rfl (.inl rfl) rfl (by kernel_rfl) rfl (.mv 2 rfl (.inl rfl) rfl (by kernel_rfl) rfl (.fE 3 rfl rfl rfl (by kernel_rfl) rfl rfl rfl (.mv 7 rfl (.inl rfl) rfl (by kernel_rfl) rfl ?_))))
           refine TieA.fE 8 rfl rfl rfl (by kernel_rfl) rfl rfl rfl (.all [4, 9] (by kernel_rfl) rfl (AllA.run _ rfl rfl rfl ?_ ?_))
           ·refine TieA.all [5, 9] (by kernel_rfl) rfl (AllA.cons (σ₁ := ⟨[(3, .el (q17 e2)), (5, .el (Pv.encI ticks)), (10, .ptr 10 0), (43, .t (tS q12 l)), (44, .t (tI (l.length : Int))), (45, .t (tI i2)), (117, .clo 135 [.ptr 10 0, .el (q12 x2)]), (118, .t (tI (w64 (r2.1 - x2.End)))), (122, .t (tI v18)), (124, .fz 136 [Pv.encI ticks]), (125, .el (List.drop 6 (q12 x2)))], [(10, .box [.own 2928]), (2928, .rs 68 4 v17 q16)]⟩) _ rfl rfl ?_ ?_ ?_)
            ·refine TieO.withH hv18 (TieO.call _ rfl rfl rfl (q31 x2.Gap ticks) (fun _ => rfl) (TieO.ifH ?_))
             exact TieO.nil (TieS.leaf ⟨rfl, .of rfl rfl⟩)
            ·refine TieA.bin (V := .t (tI (w64 ((w64 (r2.1 - x2.End)) + v18)))) 6 _ rfl rfl rfl rfl rfl rfl (by kernel_rfl) (by kernel_rfl) (by kernel_rfl) rfl rfl rfl rfl (.all [9] (by kernel_rfl) rfl (AllA.run _ rfl rfl rfl ?_ ?_))
             ·refine TieA.all [10] (by kernel_rfl) rfl (AllA.cons _ rfl rfl ?_ A_0 ?_)
              ·refine TieO.withH hv19 (TieO.call _ rfl rfl rfl (q31 x2.Extra ticks) (fun _ => rfl) (TieO.ifH ?_))
               exact TieO.nil (TieS.leaf ⟨rfl, .of rfl rfl⟩)
              exact AllA.nil
             exact AllA.nil
            exact AllA.runTo _ rfl rfl rfl (.of rfl rfl) A_1 (AllA.nil)
           refine AllA.run _ rfl rfl rfl ?_ ?_
           ·exact TieA.all [4] (by kernel_rfl) rfl (AllA.runTo _ rfl rfl rfl (.of rfl rfl) A_1 (AllA.nil))
           exact AllA.nil
          exact TieO.callG [(1000000, 10), (1000001, 2928)] [(900000, 3032)] (fun v20 => ⟨[(3, .el (q17 e2)), (5, .el (Pv.encI ticks)), (10, .ptr 10 0), (43, .t (tS q12 l)), (44, .t (tI (l.length : Int))), (45, .t (tI i2)), (117, .clo 135 [.ptr 10 0, .el (q12 x2)]), (128, .t (tI (w64 ((w64 ((w64 (r2.1 - x2.End)) + v18)) + v19)))), (129, .tup [])], [(10, .box [.own 3032]), (3032, .rs 68 4 v20 q16)]⟩) (q82 (w64 ((w64 ((w64 (r2.1 - x2.End)) + v18)) + v19)) 4 2 v17 x2) rfl rfl rfl rfl rfl rfl rfl (fun _ => rfl) (fun _ => rfl) (fun _ => rfl) (fun _ => .of rfl rfl) fun v20 hv20 => .nil (.leaf ⟨rfl, .of rfl rfl⟩)
         rintro f4 e σ' _ ⟨rfl, hs⟩
         exact TieX.sub hs (TieS.endb (.leaf ⟨rfl, .of rfl rfl⟩))
        ·exact TieS.skip (.endb (TieX.sub (σ' := ⟨[(3, .el (q17 e2)), (5, .el (Pv.encI ticks)), (10, .ptr 10 0), (43, .t (tS q12 l)), (44, .t (tI (l.length : Int))), (45, .t (tI i2))], [(10, .box [.own 2840]), (2840, .rs 68 4 f3 q16)]⟩) (.of rfl rfl) (TieX.ren [(10, 10), (2840, 3032)] rfl rfl rfl (TieS.leaf ⟨rfl, .of rfl rfl⟩))))
      rintro (t | t | t) e σ' _ hq
      ·obtain ⟨rfl, hs⟩ := hq
       exact TieX.sub hs (TieS.region (.run 2 rfl (.nil (.leaf ⟨rfl, .of rfl rfl⟩))))
      ·obtain ⟨rfl, hs⟩ := hq
       exact TieX.exitOut rfl ⟨(fun h => by cases h), rfl, hs⟩
      ·obtain ⟨rfl, hs⟩ := hq
       exact TieX.ret ⟨(fun h => by cases h), rfl, hs⟩
     ·exact TieS.exitOut rfl ⟨(fun h => by cases h), rfl, .of rfl rfl⟩
    rintro (f5 | r3) e σ' _ hq
    ·obtain ⟨rfl, hs⟩ := hq
     refine TieX.exit rfl (TieX.sub hs ?_)
     refine TieS.seq (.region (.run 1 rfl (.callG [(1000000, 3032)] [] (fun v21 => ⟨[(10, .ptr 10 0), (131, .own 3032), (132, .tup [])], [(10, .box [.own 3032]), (3032, .rs 68 4 v21 q16)]⟩) (q255 f5 138 [] q100 q367) rfl rfl rfl rfl rfl rfl rfl (fun _ => rfl) (fun _ => rfl) (fun _ => rfl) (fun _ => .of rfl rfl) fun v21 hv21 => .nil ?_)))
     exact TieS.seq (.region (.run 3 rfl (.nil (.ret ⟨.inl rfl, rfl⟩))))
    ·obtain ⟨rfl, hs⟩ := hq
     exact TieX.ret ⟨.inl rfl, hs⟩
   ·obtain ⟨rfl, hs⟩ := hq
    exact TieX.ret ⟨.inl rfl, hs⟩
set_option maxRecDepth 100000 in
set_option maxHeartbeats 4000000 in
theorem q47 (data : List Sscheduler_planned) (a : Int) (b2 : Int) (n2 : Nat) (cs : List (List Tree)) (cmp : Sscheduler_planned → Sscheduler_planned → Option Int) (h2 : ∀ x0 x1, TieF Tryz.prog n2 ([q20 x0, q20 x1] ++ cs.map T.el) (cmp x0 x1) (fun r => .t (tI r))) : TieG Tryz.prog 155 [.own 1000000, .t (tI a), .t (tI b2), .fz n2 cs] [(1000000, .rs 134 5 data q10)] (q22 data a b2 cmp) (fun _ => .tup []) (fun r => [(1000000, .rs 134 5 r q10)]) := by
 refine TieG.intro htab 53 [] Tryz.call155 Tryz.func155 rfl rfl rfl (Nat.le_of_ble_eq_true rfl) fun w0 L => ?_
 refine TieS.seq (.region (.run 3 rfl (.nil (.block ?_))))
 refine TieS.loop (fun t => ⟨[(0, .own 1000000), (1, .t (tI a)), (2, .t (tI b2)), (3, .fz n2 cs), (8, .t (tI t.1))], [(1000000, .rs 134 5 t.2 q10)]⟩) (fun b e σ' => match b with | .inl t => e = .exit 0 ∧ Sub ⟨[], [(1000000, .rs 134 5 t.2 q10)]⟩ σ' | .inr t => False) (.of rfl rfl) ?_ ?_
 ·intro s
  refine TieS.seq (.seq (.region (.run 3 rfl (.nil ?_))))
  refine TieS.cond rfl ?_ ?_
  ·refine TieS.skip (.seq (.block (.seq (.region ?_))))
   refine TieO.run 2 rfl (.nil (.block (.loop (fun t => ⟨[(0, .own 1000000), (1, .t (tI a)), (2, .t (tI b2)), (3, .fz n2 cs), (8, .t (tI s.1)), (9, .t (tI t.1))], [(1000000, .rs 134 5 t.2 q10)]⟩) (fun b e σ' => match b with | .inl t => e = .exit 2 ∧ Sub ⟨[(0, .own 1000000), (1, .t (tI a)), (2, .t (tI b2)), (3, .fz n2 cs), (8, .t (tI s.1))], [(1000000, .rs 134 5 t.2 q10)]⟩ σ' | .inr t => False) (.of rfl rfl) ?_ ?_)))
   ·intro s2
    refine TieS.seq (.seq (.bind (Q₁ := fun t e σ' => e = .normal ∧ Sub ⟨[(0, .own 1000000), (1, .t (tI a)), (2, .t (tI b2)), (3, .fz n2 cs), (8, .t (tI s.1)), (9, .t (tI s2.1)), (34, .t (tB t))], [(1000000, .rs 134 5 s2.2 q10)]⟩ σ') ?_ ?_))
    ·refine TieX.split (fun hg => ?_) (fun hg2 => ?_)
     ·refine TieX.pre fun x hx => TieX.pre fun x2 hx2 => TieX.pre fun v hv => TieS.draw 17 [_, _, _, _, _, _, _, _, _, _, _, _, _, _, _, _, _] [(0, .own 1000000), (1, .t (tI a)), (2, .t (tI b2)), (3, .fz n2 cs), (8, .t (tI s.1)), (9, .t (tI s2.1))] [(1000000, .rs 134 5 s2.2 q10)] mixed (.of rfl rfl) rfl rfl rfl rfl (.cons (.quiet rfl rfl rfl) (.cons (.quiet rfl rfl rfl) (.cons (.quiet rfl rfl rfl) (.cons (.cast (congrArg T.B hg) (.quiet rfl rfl rfl)) (.cons (.quiet rfl rfl rfl) (.cons (.quiet rfl rfl rfl) (.cons (.quiet rfl rfl rfl) (.cons (.indexO (sz := 5) hx rfl rfl rfl rfl rfl rfl rfl rfl) (.cons (.loadY hx rfl rfl rfl rfl rfl rfl) (.cons (.quiet rfl rfl rfl) (.cons (.quiet rfl rfl rfl) (.cons (.quiet rfl rfl rfl) (.cons (.indexO (sz := 5) hx2 rfl rfl rfl rfl rfl rfl rfl rfl) (.cons (.loadY hx2 rfl rfl rfl rfl rfl rfl) (.cons (.callV (h2 x x2) hv rfl rfl rfl rfl) (.cons (.quiet rfl rfl rfl) (.cons (.quiet rfl rfl rfl) (.nil)))))))))))))))))) (.nil ?_)
      exact TieS.leaf ⟨rfl, .of rfl rfl⟩
     ·exact TieS.draw 17 [_, _, _, _, _, _, _, _, _, _, _, _, _, _, _, _, _] [(0, .own 1000000), (1, .t (tI a)), (2, .t (tI b2)), (3, .fz n2 cs), (8, .t (tI s.1)), (9, .t (tI s2.1))] [(1000000, .rs 134 5 s2.2 q10)] mixed (.of rfl rfl) rfl rfl rfl rfl (.cons (.quiet rfl rfl rfl) (.cons (.quiet rfl rfl rfl) (.cons (.quiet rfl rfl rfl) (.cons (.cast (congrArg T.B hg2) (.quiet rfl rfl rfl)) (.cons (.skip rfl) (.cons (.skip rfl) (.cons (.skip rfl) (.cons (.skip rfl) (.cons (.skip rfl) (.cons (.skip rfl) (.cons (.skip rfl) (.cons (.skip rfl) (.cons (.skip rfl) (.cons (.skip rfl) (.cons (.skip rfl) (.cons (.skip rfl) (.cons (.quiet rfl rfl rfl) (.nil)))))))))))))))))) (.nil (.leaf ⟨rfl, .of rfl rfl⟩))
    rintro v2 e σ' _ ⟨rfl, hs⟩
    refine TieX.sub hs (TieS.cond rfl ?_ ?_)
    ·refine TieS.skip (.seq (.block (.bind (Q₁ := fun t e σ' => e = .normal ∧ Sub ⟨[(0, .own 1000000), (1, .t (tI a)), (2, .t (tI b2)), (3, .fz n2 cs), (8, .t (tI s.1)), (9, .t (tI s2.1))], [(1000000, .rs 134 5 t q10)]⟩ σ') ?_ ?_)))
     ·refine TieX.pre fun x3 hx3 => TieX.pre fun x4 hx4 => TieX.pre fun l hl => TieS.draws 16 (bm 18 0) (bm 18 65535) ⟨[(0, .own 1000000), (1, .t (tI a)), (2, .t (tI b2)), (3, .fz n2 cs), (8, .t (tI s.1)), (9, .t (tI s2.1)), (39, .own 1000000), (41, .t (tI (w64 (s2.1 - 1)))), (50, .agg [.t (tI x4.x.Angle), .t (tI x4.x.Kind), .t (tI x4.x.Cylinder), .t (tI x4.x.Pulse), .t (tI x4.f_at)])], [(1000000, .rs 134 5 l q10)]⟩ mixed (fun _ _ _ h => by cases h.1) rfl rfl rfl rfl ?_ ?_
      ·refine TieA.have_ (fuel₁ := 4) (l₁ := (bm 18 16383)) (σ₁ := ⟨[(0, .own 1000000), (1, .t (tI a)), (2, .t (tI b2)), (3, .fz n2 cs), (8, .t (tI s.1)), (9, .t (tI s2.1)), (37, .own 1000000), (38, .t (tI s2.1)), (39, .own 1000000), (41, .t (tI (w64 (s2.1 - 1)))), (46, .agg [.t (tI x3.x.Angle), .t (tI x3.x.Kind), .t (tI x3.x.Cylinder), .t (tI x3.x.Pulse), .t (tI x3.f_at)]), (50, .agg [.t (tI x4.x.Angle), .t (tI x4.x.Kind), .t (tI x4.x.Cylinder), .t (tI x4.x.Pulse), .t (tI x4.f_at)])], [(1000000, .rs 134 5 s2.2 q10)]⟩) ?_ fun A_0 => ?_
       ·refine TieA.idx 14 _ hx4 rfl rfl rfl rfl rfl rfl (by kernel_rfl) (by kernel_rfl) (by kernel_rfl) rfl rfl rfl rfl rfl rfl (.all [15] (by kernel_rfl) rfl (AllA.cons (σ₁ := ⟨[(0, .own 1000000), (1, .t (tI a)), (2, .t (tI b2)), (3, .fz n2 cs), (8, .t (tI s.1)), (9, .t (tI s2.1)), (39, .own 1000000), (41, .t (tI (w64 (s2.1 - 1)))), (50, .agg [.t (tI x4.x.Angle), .t (tI x4.x.Kind), .t (tI x4.x.Cylinder), .t (tI x4.x.Pulse), .t (tI x4.f_at)])], [(1000000, .rs 134 5 l q10)]⟩) _ rfl rfl ?_ ?_ ?_))
        ·refine TieO.withH hl (TieO.storeY x3 [tI x3.x.Angle, tI x3.x.Kind, tI x3.x.Cylinder, tI x3.x.Pulse, tI x3.f_at] hx4 rfl rfl rfl rfl rfl rfl rfl rfl rfl rfl rfl rfl (TieO.ifG ?_))
         exact TieO.nil (TieS.leaf ⟨rfl, .of rfl rfl⟩)
        ·exact TieA.done (.of rfl rfl)
        exact AllA.nil
       refine TieA.mv 0 rfl (.inl rfl) rfl (by kernel_rfl) rfl (.mv 1 rfl (.inl rfl) rfl (by kernel_rfl) rfl (.mv 2 rfl (.inl rfl) rfl (by kernel_rfl) rfl (.mv 3 rfl (.inl rfl) rfl (by kernel_rfl) rfl (.bin (V := .t (tI (w64 (s2.1 - 1)))) 4 _ rfl rfl rfl rfl rfl rfl (by kernel_rfl) (by kernel_rfl) (by kernel_rfl) rfl rfl rfl rfl ?_))))
       refine TieA.mv 5 rfl (.inl rfl) rfl (by kernel_rfl) rfl (.mv 6 rfl (.inl rfl) rfl (by kernel_rfl) rfl (.bin (V := .t (tI (w64 (s2.1 - 1)))) 7 _ rfl rfl rfl rfl rfl rfl (by kernel_rfl) (by kernel_rfl) (by kernel_rfl) rfl rfl rfl rfl (.idx 8 _ hx3 rfl rfl rfl rfl rfl rfl (by kernel_rfl) (by kernel_rfl) (by kernel_rfl) rfl rfl rfl rfl rfl rfl (.mv 10 rfl (.inl rfl) rfl (by kernel_rfl) rfl ?_))))
       refine TieA.mv 11 rfl (.inl rfl) rfl (by kernel_rfl) rfl (.idx 12 _ hx4 rfl rfl rfl rfl rfl rfl (by kernel_rfl) (by kernel_rfl) (by kernel_rfl) rfl rfl rfl rfl rfl rfl (.all [9, 13] (by kernel_rfl) rfl (AllA.cons (σ₁ := ⟨[(0, .own 1000000), (1, .t (tI a)), (2, .t (tI b2)), (3, .fz n2 cs), (8, .t (tI s.1)), (9, .t (tI s2.1)), (37, .own 1000000), (38, .t (tI s2.1)), (39, .own 1000000), (41, .t (tI (w64 (s2.1 - 1)))), (46, .agg [.t (tI x3.x.Angle), .t (tI x3.x.Kind), .t (tI x3.x.Cylinder), .t (tI x3.x.Pulse), .t (tI x3.f_at)]), (49, .pe 1000000 (Int.toNat s2.1) 5 0)], [(1000000, .rs 134 5 s2.2 q10)]⟩) _ rfl rfl ?_ ?_ ?_)))
       ·exact TieO.loadY hx3 rfl rfl rfl rfl rfl rfl rfl rfl (.nil (TieS.leaf ⟨rfl, .of rfl rfl⟩))
       ·refine TieA.all [13] (by kernel_rfl) rfl (AllA.cons _ rfl rfl ?_ A_0 ?_)
        ·exact TieO.loadY hx4 rfl rfl rfl rfl rfl rfl rfl rfl (.nil (TieS.leaf ⟨rfl, .of rfl rfl⟩))
        exact AllA.nil
       refine AllA.cons (σ₁ := ⟨[(0, .own 1000000), (1, .t (tI a)), (2, .t (tI b2)), (3, .fz n2 cs), (8, .t (tI s.1)), (9, .t (tI s2.1)), (37, .own 1000000), (38, .t (tI s2.1)), (39, .own 1000000), (41, .t (tI (w64 (s2.1 - 1)))), (45, .pe 1000000 (Int.toNat (w64 (s2.1 - 1))) 5 0), (50, .agg [.t (tI x4.x.Angle), .t (tI x4.x.Kind), .t (tI x4.x.Cylinder), .t (tI x4.x.Pulse), .t (tI x4.f_at)])], [(1000000, .rs 134 5 s2.2 q10)]⟩) _ rfl rfl ?_ ?_ ?_
       ·exact TieO.loadY hx4 rfl rfl rfl rfl rfl rfl rfl rfl (.nil (TieS.leaf ⟨rfl, .of rfl rfl⟩))
       ·refine TieA.all [9] (by kernel_rfl) rfl (AllA.cons _ rfl rfl ?_ A_0 ?_)
        ·exact TieO.loadY hx3 rfl rfl rfl rfl rfl rfl rfl rfl (.nil (TieS.leaf ⟨rfl, .of rfl rfl⟩))
        exact AllA.nil
       exact AllA.nil
      exact TieO.indexO rfl rfl rfl rfl rfl rfl rfl rfl rfl rfl fun x5 hx5 => .storeY x4 [tI x4.x.Angle, tI x4.x.Kind, tI x4.x.Cylinder, tI x4.x.Pulse, tI x4.f_at] hx5 rfl rfl rfl rfl rfl rfl rfl rfl rfl rfl rfl rfl fun l2 hl2 => .nil (.leaf ⟨rfl, .of rfl rfl⟩)
     rintro f2 e σ' _ ⟨rfl, hs⟩
     refine TieX.sub hs (TieS.endb (.region (.run 3 rfl (.nil ?_))))
     exact TieS.leaf ⟨rfl, .of rfl rfl⟩
    ·exact TieS.exitOut rfl ⟨(fun h => by cases h), rfl, .of rfl rfl⟩
   rintro (s3 | r) e σ' _ hq
   ·obtain ⟨rfl, hs⟩ := hq
    refine TieX.exit rfl (TieX.sub hs ?_)
    exact TieS.endb (.region (.run 3 rfl (.nil (.leaf ⟨rfl, .of rfl rfl⟩))))
   ·exact hq.elim
  ·exact TieS.exitOut rfl ⟨(fun h => by cases h), rfl, .of rfl rfl⟩
 rintro (s4 | r) e σ' _ hq
 ·obtain ⟨rfl, hs⟩ := hq
  refine TieX.exit rfl (TieX.sub hs ?_)
  exact TieS.leaf ⟨.inr rfl, ⟨[(1000000, 1000000)], _, _, rfl, rfl, rfl, rfl, rfl⟩⟩
 ·exact hq.elim
set_option maxRecDepth 100000 in
set_option maxHeartbeats 4000000 in
theorem q33 (data : List Sscheduler_planned) (a : Int) (b2 : Int) (n2 : Int) (n3 : Nat) (cs : List (List Tree)) (cmp : Sscheduler_planned → Sscheduler_planned → Option Int) (h2 : ∀ x0 x1, TieF Tryz.prog n3 ([q20 x0, q20 x1] ++ cs.map T.el) (cmp x0 x1) (fun r => .t (tI r))) : TieG Tryz.prog 183 [.own 1000000, .t (tI a), .t (tI b2), .t (tI n2), .fz n3 cs] [(1000000, .rs 134 5 data q10)] (q29 data a b2 n2 cmp) (fun _ => .tup []) (fun r => [(1000000, .rs 134 5 r q10)]) := by
 refine TieG.intro htab 38 [] Tryz.call183 Tryz.func183 rfl rfl rfl (Nat.le_of_ble_eq_true rfl) fun w0 L => ?_
 refine TieS.seq (.region (.run 1 rfl (.nil (.block ?_))))
 refine TieS.loop (fun t => ⟨[(0, .own 1000000), (1, .t (tI a)), (2, .t (tI b2)), (3, .t (tI n2)), (10, .t (tI t.1))], [(1000000, .rs 134 5 t.2 q10)]⟩) (fun b e σ' => match b with | .inl t => e = .exit 0 ∧ Sub ⟨[], [(1000000, .rs 134 5 t.2 q10)]⟩ σ' | .inr t => False) (.of rfl rfl) ?_ ?_
 ·intro s
  refine TieS.seq (.seq (.region (.run 3 rfl (.nil ?_))))
  refine TieS.cond rfl ?_ ?_
  ·refine TieS.skip (.seq (.block (.bind (Q₁ := fun t e σ' => e = .normal ∧ Sub ⟨[(0, .own 1000000), (1, .t (tI a)), (2, .t (tI b2)), (3, .t (tI n2)), (10, .t (tI s.1))], [(1000000, .rs 134 5 t q10)]⟩ σ') ?_ ?_)))
   ·refine TieX.pre fun x hx => TieX.pre fun x2 hx2 => TieX.pre fun l hl => TieS.draws 22 (bm 24 0) (bm 24 4194303) ⟨[(0, .own 1000000), (1, .t (tI a)), (2, .t (tI b2)), (3, .t (tI n2)), (10, .t (tI s.1)), (20, .own 1000000), (23, .t (tI (w64 (b2 + s.1)))), (35, .agg [.t (tI x2.x.Angle), .t (tI x2.x.Kind), .t (tI x2.x.Cylinder), .t (tI x2.x.Pulse), .t (tI x2.f_at)])], [(1000000, .rs 134 5 l q10)]⟩ mixed (fun _ _ _ h => by cases h.1) rfl rfl rfl rfl ?_ ?_
    ·refine TieA.have_ (fuel₁ := 4) (l₁ := (bm 24 1048575)) (σ₁ := ⟨[(0, .own 1000000), (1, .t (tI a)), (2, .t (tI b2)), (3, .t (tI n2)), (10, .t (tI s.1)), (16, .own 1000000), (19, .t (tI (w64 (a + s.1)))), (20, .own 1000000), (23, .t (tI (w64 (b2 + s.1)))), (29, .agg [.t (tI x.x.Angle), .t (tI x.x.Kind), .t (tI x.x.Cylinder), .t (tI x.x.Pulse), .t (tI x.f_at)]), (35, .agg [.t (tI x2.x.Angle), .t (tI x2.x.Kind), .t (tI x2.x.Cylinder), .t (tI x2.x.Pulse), .t (tI x2.f_at)])], [(1000000, .rs 134 5 s.2 q10)]⟩) ?_ fun A_0 => ?_
     ·refine TieA.idx 20 _ hx2 rfl rfl rfl rfl rfl rfl (by kernel_rfl) (by kernel_rfl) (by kernel_rfl) rfl rfl rfl rfl rfl rfl (.all [21] (by kernel_rfl) rfl (AllA.cons (σ₁ := ⟨[(0, .own 1000000), (1, .t (tI a)), (2, .t (tI b2)), (3, .t (tI n2)), (10, .t (tI s.1)), (20, .own 1000000), (23, .t (tI (w64 (b2 + s.1)))), (35, .agg [.t (tI x2.x.Angle), .t (tI x2.x.Kind), .t (tI x2.x.Cylinder), .t (tI x2.x.Pulse), .t (tI x2.f_at)])], [(1000000, .rs 134 5 l q10)]⟩) _ rfl rfl ?_ ?_ ?_))
      ·refine TieO.withH hl (TieO.storeY x [tI x.x.Angle, tI x.x.Kind, tI x.x.Cylinder, tI x.x.Pulse, tI x.f_at] hx2 rfl rfl rfl rfl rfl rfl rfl rfl rfl rfl rfl rfl (TieO.ifG ?_))
       exact TieO.nil (TieS.leaf ⟨rfl, .of rfl rfl⟩)
      ·exact TieA.done (.of rfl rfl)
      exact AllA.nil
     refine TieA.mv 0 rfl (.inl rfl) rfl (by kernel_rfl) rfl (.mv 1 rfl (.inl rfl) rfl (by kernel_rfl) rfl (.mv 2 rfl (.inl rfl) rfl (by kernel_rfl) rfl (.bin (V := .t (tI (w64 (a + s.1)))) 3 _ rfl rfl rfl rfl rfl rfl (by kernel_rfl) (by kernel_rfl) (by kernel_rfl) rfl rfl rfl rfl (.mv 4 rfl (.inl rfl) rfl (by kernel_rfl) rfl ?_))))
     refine TieA.mv 5 rfl (.inl rfl) rfl (by kernel_rfl) rfl (.mv 6 rfl (.inl rfl) rfl (by kernel_rfl) rfl (.bin (V := .t (tI (w64 (b2 + s.1)))) 7 _ rfl rfl rfl rfl rfl rfl (by kernel_rfl) (by kernel_rfl) (by kernel_rfl) rfl rfl rfl rfl (.mv 8 rfl (.inl rfl) rfl (by kernel_rfl) rfl (.mv 9 rfl (.inl rfl) rfl (by kernel_rfl) rfl ?_))))
     refine TieA.mv 10 rfl (.inl rfl) rfl (by kernel_rfl) rfl (.bin (V := .t (tI (w64 (b2 + s.1)))) 11 _ rfl rfl rfl rfl rfl rfl (by kernel_rfl) (by kernel_rfl) (by kernel_rfl) rfl rfl rfl rfl (.idx 12 _ hx rfl rfl rfl rfl rfl rfl (by kernel_rfl) (by kernel_rfl) (by kernel_rfl) rfl rfl rfl rfl rfl rfl (.mv 14 rfl (.inl rfl) rfl (by kernel_rfl) rfl (.mv 15 rfl (.inl rfl) rfl (by kernel_rfl) rfl ?_))))
     refine TieA.mv 16 rfl (.inl rfl) rfl (by kernel_rfl) rfl (.bin (V := .t (tI (w64 (a + s.1)))) 17 _ rfl rfl rfl rfl rfl rfl (by kernel_rfl) (by kernel_rfl) (by kernel_rfl) rfl rfl rfl rfl (.idx 18 _ hx2 rfl rfl rfl rfl rfl rfl (by kernel_rfl) (by kernel_rfl) (by kernel_rfl) rfl rfl rfl rfl rfl rfl (.all [13, 19] (by kernel_rfl) rfl (AllA.cons (σ₁ := ⟨[(0, .own 1000000), (1, .t (tI a)), (2, .t (tI b2)), (3, .t (tI n2)), (10, .t (tI s.1)), (16, .own 1000000), (19, .t (tI (w64 (a + s.1)))), (20, .own 1000000), (23, .t (tI (w64 (b2 + s.1)))), (29, .agg [.t (tI x.x.Angle), .t (tI x.x.Kind), .t (tI x.x.Cylinder), .t (tI x.x.Pulse), .t (tI x.f_at)]), (34, .pe 1000000 (Int.toNat (w64 (a + s.1))) 5 0)], [(1000000, .rs 134 5 s.2 q10)]⟩) _ rfl rfl ?_ ?_ ?_))))
     ·exact TieO.loadY hx rfl rfl rfl rfl rfl rfl rfl rfl (.nil (TieS.leaf ⟨rfl, .of rfl rfl⟩))
     ·refine TieA.all [19] (by kernel_rfl) rfl (AllA.cons _ rfl rfl ?_ A_0 ?_)
      ·exact TieO.loadY hx2 rfl rfl rfl rfl rfl rfl rfl rfl (.nil (TieS.leaf ⟨rfl, .of rfl rfl⟩))
      exact AllA.nil
     refine AllA.cons (σ₁ := ⟨[(0, .own 1000000), (1, .t (tI a)), (2, .t (tI b2)), (3, .t (tI n2)), (10, .t (tI s.1)), (16, .own 1000000), (19, .t (tI (w64 (a + s.1)))), (20, .own 1000000), (23, .t (tI (w64 (b2 + s.1)))), (28, .pe 1000000 (Int.toNat (w64 (b2 + s.1))) 5 0), (35, .agg [.t (tI x2.x.Angle), .t (tI x2.x.Kind), .t (tI x2.x.Cylinder), .t (tI x2.x.Pulse), .t (tI x2.f_at)])], [(1000000, .rs 134 5 s.2 q10)]⟩) _ rfl rfl ?_ ?_ ?_
     ·exact TieO.loadY hx2 rfl rfl rfl rfl rfl rfl rfl rfl (.nil (TieS.leaf ⟨rfl, .of rfl rfl⟩))
     ·refine TieA.all [13] (by kernel_rfl) rfl (AllA.cons _ rfl rfl ?_ A_0 ?_)
      ·exact TieO.loadY hx rfl rfl rfl rfl rfl rfl rfl rfl (.nil (TieS.leaf ⟨rfl, .of rfl rfl⟩))
      exact AllA.nil
     exact AllA.nil
    exact TieO.indexO rfl rfl rfl rfl rfl rfl rfl rfl rfl rfl fun x3 hx3 => .storeY x2 [tI x2.x.Angle, tI x2.x.Kind, tI x2.x.Cylinder, tI x2.x.Pulse, tI x2.f_at] hx3 rfl rfl rfl rfl rfl rfl rfl rfl rfl rfl rfl rfl fun l2 hl2 => .nil (.leaf ⟨rfl, .of rfl rfl⟩)
   rintro f2 e σ' _ ⟨rfl, hs⟩
   refine TieX.sub hs (TieS.endb (.region (.run 3 rfl (.nil ?_))))
   exact TieS.leaf ⟨rfl, .of rfl rfl⟩
  ·exact TieS.exitOut rfl ⟨(fun h => by cases h), rfl, .of rfl rfl⟩
 rintro (s2 | r) e σ' _ hq
 ·obtain ⟨rfl, hs⟩ := hq
  refine TieX.exit rfl (TieX.sub hs ?_)
  exact TieS.leaf ⟨.inr rfl, ⟨[(1000000, 1000000)], _, _, rfl, rfl, rfl, rfl, rfl⟩⟩
 ·exact hq.elim
set_option maxRecDepth 100000 in
theorem q150 (data : List Sscheduler_planned) (a : Int) (m2 : Int) (b2 : Int) (n2 : Nat) (cs : List (List Tree)) (cmp : Sscheduler_planned → Sscheduler_planned → Option Int) (h2 : ∀ x0 x1, TieF Tryz.prog n2 ([q20 x0, q20 x1] ++ cs.map T.el) (cmp x0 x1) (fun r => .t (tI r))) : TieG Tryz.prog 177 [.own 1000000, .t (tI a), .t (tI m2), .t (tI b2), .fz n2 cs] [(1000000, .rs 134 5 data q10)] (q89 data a m2 b2 cmp) (fun _ => .tup []) (fun r => [(1000000, .rs 134 5 r q10)]) := by
 refine TieG.intro htab 58 [] Tryz.call177 Tryz.func177 rfl rfl rfl (Nat.le_of_ble_eq_true rfl) fun w0 L => ?_
 refine TieS.seq (.region (.run 4 rfl (.nil (.seq ?_))))
 refine TieS.region (.run 4 rfl (.nil (.seq (.block ?_))))
 refine TieS.loop (fun t => ⟨[(0, .own 1000000), (2, .t (tI m2)), (4, .fz n2 cs), (10, .t (tI t.1)), (11, .t (tI t.2.1))], [(1000000, .rs 134 5 t.2.2 q10)]⟩) (fun b e σ' => match b with | .inl t => e = .exit 0 ∧ Sub ⟨[(0, .own 1000000), (2, .t (tI m2)), (4, .fz n2 cs), (10, .t (tI t.1))], [(1000000, .rs 134 5 t.2.2 q10)]⟩ σ' | .inr t => False) (.of rfl rfl) ?_ ?_
 ·intro s
  refine TieS.seq (.seq (.region (.run 3 rfl (.nil ?_))))
  refine TieS.cond rfl ?_ ?_
  ·refine TieS.skip (.block (.seq (.region (.run 3 rfl ?_))))
   refine TieO.nil (.cond rfl ?_ ?_)
   ·refine TieS.seq (.region (.run 7 rfl (.callG [(1000000, 1000000)] [] (fun v => ⟨[(0, .own 1000000), (2, .t (tI m2)), (4, .fz n2 cs), (10, .t (tI s.1)), (11, .t (tI s.2.1)), (18, .t (tI s.1)), (19, .t (tI s.2.1)), (20, .t (tB (s.1 != s.2.1))), (21, .t (tI s.1)), (22, .t (tI s.2.1)), (23, .t (tB (decide (s.1 > s.2.1)))), (24, .own 1000000), (25, .t (tI m2)), (26, .t (tI s.1)), (27, .t (tI (w64 (m2 - s.1)))), (28, .t (tI m2)), (29, .t (tI s.2.1)), (30, .fz n2 cs), (31, .tup [])], [(1000000, .rs 134 5 v q10)]⟩) (q33 s.2.2 (w64 (m2 - s.1)) m2 s.2.1 n2 cs cmp h2) rfl rfl rfl rfl rfl rfl rfl (fun _ => rfl) (fun _ => rfl) (fun _ => rfl) (fun _ => .of rfl rfl) fun v hv => .nil ?_)))
    exact TieS.region (.run 4 rfl (.nil (.endb (.leaf ⟨rfl, .of rfl rfl⟩))))
   ·refine TieS.seq (.region (.run 11 rfl (.callG [(1000000, 1000000)] [] (fun v2 => ⟨[(0, .own 1000000), (2, .t (tI m2)), (4, .fz n2 cs), (10, .t (tI s.1)), (11, .t (tI s.2.1)), (18, .t (tI s.1)), (19, .t (tI s.2.1)), (20, .t (tB (s.1 != s.2.1))), (21, .t (tI s.1)), (22, .t (tI s.2.1)), (23, .t (tB (decide (s.1 > s.2.1)))), (35, .own 1000000), (36, .t (tI m2)), (37, .t (tI s.1)), (38, .t (tI (w64 (m2 - s.1)))), (39, .t (tI m2)), (40, .t (tI s.2.1)), (41, .t (tI (w64 (m2 + s.2.1)))), (42, .t (tI s.1)), (43, .t (tI (w64 ((w64 (m2 + s.2.1)) - s.1)))), (44, .t (tI s.1)), (45, .fz n2 cs), (46, .tup [])], [(1000000, .rs 134 5 v2 q10)]⟩) (q33 s.2.2 (w64 (m2 - s.1)) (w64 ((w64 (m2 + s.2.1)) - s.1)) s.1 n2 cs cmp h2) rfl rfl rfl rfl rfl rfl rfl (fun _ => rfl) (fun _ => rfl) (fun _ => rfl) (fun _ => .of rfl rfl) fun v2 hv2 => .nil ?_)))
    exact TieS.region (.run 4 rfl (.nil (.endb (.leaf ⟨rfl, .of rfl rfl⟩))))
  ·exact TieS.exitOut rfl ⟨(fun h => by cases h), rfl, .of rfl rfl⟩
 rintro (s2 | r) e σ' _ hq
 ·obtain ⟨rfl, hs⟩ := hq
  refine TieX.exit rfl (TieX.sub hs ?_)
  exact TieS.region (.run 7 rfl (.callG [(1000000, 1000000)] [] (fun v3 => ⟨[(0, .own 1000000), (2, .t (tI m2)), (4, .fz n2 cs), (10, .t (tI s2.1)), (50, .own 1000000), (51, .t (tI m2)), (52, .t (tI s2.1)), (53, .t (tI (w64 (m2 - s2.1)))), (54, .t (tI m2)), (55, .t (tI s2.1)), (56, .fz n2 cs), (57, .tup [])], [(1000000, .rs 134 5 v3 q10)]⟩) (q33 s2.2.2 (w64 (m2 - s2.1)) m2 s2.1 n2 cs cmp h2) rfl rfl rfl rfl rfl rfl rfl (fun _ => rfl) (fun _ => rfl) (fun _ => rfl) (fun _ => .of rfl rfl) fun v3 hv3 => .nil (.leaf ⟨.inr rfl, ⟨[(1000000, 1000000)], _, _, rfl, rfl, rfl, rfl, rfl⟩⟩)))
 ·exact hq.elim
set_option maxRecDepth 100000 in
set_option maxHeartbeats 4000000 in
theorem q62 (fu : Nat) : ∀ (data : List Sscheduler_planned) (a : Int) (m2 : Int) (b2 : Int) (n2 : Nat) (cs : List (List Tree)) (cmp : Sscheduler_planned → Sscheduler_planned → Option Int) (h2 : ∀ x0 x1, TieF Tryz.prog n2 ([q20 x0, q20 x1] ++ cs.map T.el) (cmp x0 x1) (fun r => .t (tI r))), TieG Tryz.prog 156 [.own 1000000, .t (tI a), .t (tI m2), .t (tI b2), .fz n2 cs] [(1000000, .rs 134 5 data q10)] (q19 fu data a m2 b2 cmp) (fun _ => .tup []) (fun r => [(1000000, .rs 134 5 r q10)]) := by
 induction fu with
 | zero => exact fun _ _ _ _ _ _ _ _ => ⟨Tryz.call156, fun _ hr => by have hr2 : (none : Option (List Sscheduler_planned)) = some _ := hr; cases hr2⟩
 | succ fu ih =>
  rw [show q19 (fu + 1) = q66 (q19 fu) from rfl]
  generalize q19 fu = rc at ih ⊢
  intro data a m2 b2 n2 cs cmp h2
  refine TieG.intro htab 220 [] Tryz.call156 Tryz.func156 rfl rfl rfl (Nat.le_of_ble_eq_true rfl) fun w0 L => ?_
  refine TieS.seq (.seq (.region (.run 4 rfl (.nil ?_))))
  refine TieS.cond rfl ?_ ?_
  ·refine TieS.seq (.region (.run 2 rfl (.nil (.seq ?_))))
   refine TieS.region (.run 2 rfl (.nil (.seq (.block ?_))))
   refine TieS.loop (fun t => ⟨[(0, .own 1000000), (1, .t (tI a)), (4, .fz n2 cs), (10, .t (tI t.1)), (11, .t (tI t.2))], [(1000000, .rs 134 5 data q10)]⟩) (fun b e σ' => match b with | .inl t => e = .exit 0 ∧ Sub ⟨[(0, .own 1000000), (1, .t (tI a)), (10, .t (tI t.1))], [(1000000, .rs 134 5 data q10)]⟩ σ' | .inr t => False) (.of rfl rfl) ?_ ?_
   ·intro s
    refine TieS.seq (.seq (.region (.run 3 rfl (.nil ?_))))
    refine TieS.cond rfl ?_ ?_
    ·refine TieS.skip (.block (.seq (.region (.run 7 rfl ?_))))
     refine TieO.nil (.seq (TieX.pre fun x hx => TieX.pre fun x2 hx2 => TieX.pre fun v hv => ?_))
     refine TieS.draw 11 [_, _, _, _, _, _, _, _, _, _, _] [(0, .own 1000000), (1, .t (tI a)), (4, .fz n2 cs), (10, .t (tI s.1)), (11, .t (tI s.2)), (12, .t (tI (w64 (bitShr .u64 (IntKind.u64.wrap (w64 (s.1 + s.2))) 1))))] [(1000000, .rs 134 5 data q10)] mixed (.of rfl rfl) rfl rfl rfl rfl (.cons (.quiet rfl rfl rfl) (.cons (.quiet rfl rfl rfl) (.cons (.quiet rfl rfl rfl) (.cons (.indexO (sz := 5) hx rfl rfl rfl rfl rfl rfl rfl rfl) (.cons (.loadY hx rfl rfl rfl rfl rfl rfl) (.cons (.quiet rfl rfl rfl) (.cons (.quiet rfl rfl rfl) (.cons (.indexO (sz := 5) hx2 rfl rfl rfl rfl rfl rfl rfl rfl) (.cons (.loadY hx2 rfl rfl rfl rfl rfl rfl) (.cons (.callV (h2 x x2) hv rfl rfl rfl rfl) (.cons (.quiet rfl rfl rfl) (.nil)))))))))))) (.nil (.cond rfl ?_ ?_))
     ·exact TieS.region (.run 3 rfl (.nil (.endb (.leaf ⟨rfl, .of rfl rfl⟩))))
     ·exact TieS.region (.run 2 rfl (.nil (.endb (.leaf ⟨rfl, .of rfl rfl⟩))))
    ·exact TieS.exitOut rfl ⟨(fun h => by cases h), rfl, .of rfl rfl⟩
   rintro (s2 | r) e σ' _ hq
   ·obtain ⟨rfl, hs⟩ := hq
    refine TieX.exit rfl (TieX.sub hs ?_)
    refine TieS.seq (.seq (.region (.run 2 rfl (.nil ?_))))
    refine TieS.block (.loop (fun t => ⟨[(0, .own 1000000), (10, .t (tI s2.1)), (13, .t (tI t.1))], [(1000000, .rs 134 5 t.2 q10)]⟩) (fun b e σ' => match b with | .inl t => e = .exit 2 ∧ Sub ⟨[], [(1000000, .rs 134 5 t.2 q10)]⟩ σ' | .inr t => False) (.of rfl rfl) ?_ ?_)
    ·intro s3
     refine TieS.seq (.seq (.region (.run 4 rfl (.nil ?_))))
     refine TieS.cond rfl ?_ ?_
     ·refine TieS.skip (.seq (.block (.bind (Q₁ := fun t e σ' => e = .normal ∧ Sub ⟨[(0, .own 1000000), (10, .t (tI s2.1)), (13, .t (tI s3.1))], [(1000000, .rs 134 5 t q10)]⟩ σ') ?_ ?_)))
      ·refine TieX.pre fun x3 hx3 => TieX.pre fun x4 hx4 => TieX.pre fun l hl => TieS.draws 16 (bm 18 0) (bm 18 65535) ⟨[(0, .own 1000000), (10, .t (tI s2.1)), (13, .t (tI s3.1)), (63, .own 1000000), (65, .t (tI (w64 (s3.1 + 1)))), (74, .agg [.t (tI x4.x.Angle), .t (tI x4.x.Kind), .t (tI x4.x.Cylinder), .t (tI x4.x.Pulse), .t (tI x4.f_at)])], [(1000000, .rs 134 5 l q10)]⟩ mixed (fun _ _ _ h => by cases h.1) rfl rfl rfl rfl ?_ ?_
       ·refine TieA.have_ (fuel₁ := 4) (l₁ := (bm 18 16383)) (σ₁ := ⟨[(0, .own 1000000), (10, .t (tI s2.1)), (13, .t (tI s3.1)), (61, .own 1000000), (62, .t (tI s3.1)), (63, .own 1000000), (65, .t (tI (w64 (s3.1 + 1)))), (70, .agg [.t (tI x3.x.Angle), .t (tI x3.x.Kind), .t (tI x3.x.Cylinder), .t (tI x3.x.Pulse), .t (tI x3.f_at)]), (74, .agg [.t (tI x4.x.Angle), .t (tI x4.x.Kind), .t (tI x4.x.Cylinder), .t (tI x4.x.Pulse), .t (tI x4.f_at)])], [(1000000, .rs 134 5 s3.2 q10)]⟩) ?_ fun A_0 => ?_
        ·refine TieA.idx 14 _ hx4 rfl rfl rfl rfl rfl rfl (by kernel_rfl) (by kernel_rfl) (by kernel_rfl) rfl rfl rfl rfl rfl rfl (.all [15] (by kernel_rfl) rfl (AllA.cons (σ₁ := ⟨[(0, .own 1000000), (10, .t (tI s2.1)), (13, .t (tI s3.1)), (63, .own 1000000), (65, .t (tI (w64 (s3.1 + 1)))), (74, .agg [.t (tI x4.x.Angle), .t (tI x4.x.Kind), .t (tI x4.x.Cylinder), .t (tI x4.x.Pulse), .t (tI x4.f_at)])], [(1000000, .rs 134 5 l q10)]⟩) _ rfl rfl ?_ ?_ ?_))
         ·refine TieO.withH hl (TieO.storeY x3 [tI x3.x.Angle, tI x3.x.Kind, tI x3.x.Cylinder, tI x3.x.Pulse, tI x3.f_at] hx4 rfl rfl rfl rfl rfl rfl rfl rfl rfl rfl rfl rfl (TieO.ifG ?_))
          exact TieO.nil (TieS.leaf ⟨rfl, .of rfl rfl⟩)
         ·exact TieA.done (.of rfl rfl)
         exact AllA.nil
        refine TieA.mv 0 rfl (.inl rfl) rfl (by kernel_rfl) rfl (.mv 1 rfl (.inl rfl) rfl (by kernel_rfl) rfl (.mv 2 rfl (.inl rfl) rfl (by kernel_rfl) rfl (.mv 3 rfl (.inl rfl) rfl (by kernel_rfl) rfl (.bin (V := .t (tI (w64 (s3.1 + 1)))) 4 _ rfl rfl rfl rfl rfl rfl (by kernel_rfl) (by kernel_rfl) (by kernel_rfl) rfl rfl rfl rfl ?_))))
        refine TieA.mv 5 rfl (.inl rfl) rfl (by kernel_rfl) rfl (.mv 6 rfl (.inl rfl) rfl (by kernel_rfl) rfl (.bin (V := .t (tI (w64 (s3.1 + 1)))) 7 _ rfl rfl rfl rfl rfl rfl (by kernel_rfl) (by kernel_rfl) (by kernel_rfl) rfl rfl rfl rfl (.idx 8 _ hx3 rfl rfl rfl rfl rfl rfl (by kernel_rfl) (by kernel_rfl) (by kernel_rfl) rfl rfl rfl rfl rfl rfl (.mv 10 rfl (.inl rfl) rfl (by kernel_rfl) rfl ?_))))
        refine TieA.mv 11 rfl (.inl rfl) rfl (by kernel_rfl) rfl (.idx 12 _ hx4 rfl rfl rfl rfl rfl rfl (by kernel_rfl) (by kernel_rfl) (by kernel_rfl) rfl rfl rfl rfl rfl rfl (.all [9, 13] (by kernel_rfl) rfl (AllA.cons (σ₁ := ⟨[(0, .own 1000000), (10, .t (tI s2.1)), (13, .t (tI s3.1)), (61, .own 1000000), (62, .t (tI s3.1)), (63, .own 1000000), (65, .t (tI (w64 (s3.1 + 1)))), (70, .agg [.t (tI x3.x.Angle), .t (tI x3.x.Kind), .t (tI x3.x.Cylinder), .t (tI x3.x.Pulse), .t (tI x3.f_at)]), (73, .pe 1000000 (Int.toNat s3.1) 5 0)], [(1000000, .rs 134 5 s3.2 q10)]⟩) _ rfl rfl ?_ ?_ ?_)))
        ·exact TieO.loadY hx3 rfl rfl rfl rfl rfl rfl rfl rfl (.nil (TieS.leaf ⟨rfl, .of rfl rfl⟩))
        ·refine TieA.all [13] (by kernel_rfl) rfl (AllA.cons _ rfl rfl ?_ A_0 ?_)
         ·exact TieO.loadY hx4 rfl rfl rfl rfl rfl rfl rfl rfl (.nil (TieS.leaf ⟨rfl, .of rfl rfl⟩))
         exact AllA.nil
        refine AllA.cons (σ₁ := ⟨[(0, .own 1000000), (10, .t (tI s2.1)), (13, .t (tI s3.1)), (61, .own 1000000), (62, .t (tI s3.1)), (63, .own 1000000), (65, .t (tI (w64 (s3.1 + 1)))), (69, .pe 1000000 (Int.toNat (w64 (s3.1 + 1))) 5 0), (74, .agg [.t (tI x4.x.Angle), .t (tI x4.x.Kind), .t (tI x4.x.Cylinder), .t (tI x4.x.Pulse), .t (tI x4.f_at)])], [(1000000, .rs 134 5 s3.2 q10)]⟩) _ rfl rfl ?_ ?_ ?_
        ·exact TieO.loadY hx4 rfl rfl rfl rfl rfl rfl rfl rfl (.nil (TieS.leaf ⟨rfl, .of rfl rfl⟩))
        ·refine TieA.all [9] (by kernel_rfl) rfl (AllA.cons _ rfl rfl ?_ A_0 ?_)
         ·exact TieO.loadY hx3 rfl rfl rfl rfl rfl rfl rfl rfl (.nil (TieS.leaf ⟨rfl, .of rfl rfl⟩))
         exact AllA.nil
        exact AllA.nil
       exact TieO.indexO rfl rfl rfl rfl rfl rfl rfl rfl rfl rfl fun x5 hx5 => .storeY x4 [tI x4.x.Angle, tI x4.x.Kind, tI x4.x.Cylinder, tI x4.x.Pulse, tI x4.f_at] hx5 rfl rfl rfl rfl rfl rfl rfl rfl rfl rfl rfl rfl fun l2 hl2 => .nil (.leaf ⟨rfl, .of rfl rfl⟩)
      rintro f2 e σ' _ ⟨rfl, hs⟩
      refine TieX.sub hs (TieS.endb (.region (.run 3 rfl (.nil ?_))))
      exact TieS.leaf ⟨rfl, .of rfl rfl⟩
     ·exact TieS.exitOut rfl ⟨(fun h => by cases h), rfl, .of rfl rfl⟩
    rintro (s4 | r) e σ' _ hq
    ·obtain ⟨rfl, hs⟩ := hq
     refine TieX.exit rfl (TieX.sub hs ?_)
     exact TieS.ret ⟨.inl rfl, ⟨[(1000000, 1000000)], _, _, rfl, rfl, rfl, rfl, rfl⟩⟩
    ·exact hq.elim
   ·exact hq.elim
  ·refine TieS.skip (.seq (.seq (.region (.run 4 rfl ?_))))
   refine TieO.nil (.cond rfl ?_ ?_)
   ·refine TieS.seq (.region (.run 2 rfl (.nil (.seq ?_))))
    refine TieS.region (.run 2 rfl (.nil (.seq (.block ?_))))
    refine TieS.loop (fun t => ⟨[(0, .own 1000000), (2, .t (tI m2)), (4, .fz n2 cs), (14, .t (tI t.1)), (15, .t (tI t.2))], [(1000000, .rs 134 5 data q10)]⟩) (fun b e σ' => match b with | .inl t => e = .exit 4 ∧ Sub ⟨[(0, .own 1000000), (2, .t (tI m2)), (14, .t (tI t.1))], [(1000000, .rs 134 5 data q10)]⟩ σ' | .inr t => False) (.of rfl rfl) ?_ ?_
    ·intro s5
     refine TieS.seq (.seq (.region (.run 3 rfl (.nil ?_))))
     refine TieS.cond rfl ?_ ?_
     ·refine TieS.skip (.block (.seq (.region (.run 7 rfl ?_))))
      refine TieO.nil (.seq (TieX.pre fun x6 hx6 => TieX.pre fun x7 hx7 => TieX.pre fun v2 hv2 => ?_))
      refine TieS.draw 12 [_, _, _, _, _, _, _, _, _, _, _, _] [(0, .own 1000000), (2, .t (tI m2)), (4, .fz n2 cs), (14, .t (tI s5.1)), (15, .t (tI s5.2)), (16, .t (tI (w64 (bitShr .u64 (IntKind.u64.wrap (w64 (s5.1 + s5.2))) 1))))] [(1000000, .rs 134 5 data q10)] mixed (.of rfl rfl) rfl rfl rfl rfl (.cons (.quiet rfl rfl rfl) (.cons (.quiet rfl rfl rfl) (.cons (.quiet rfl rfl rfl) (.cons (.indexO (sz := 5) hx6 rfl rfl rfl rfl rfl rfl rfl rfl) (.cons (.loadY hx6 rfl rfl rfl rfl rfl rfl) (.cons (.quiet rfl rfl rfl) (.cons (.quiet rfl rfl rfl) (.cons (.indexO (sz := 5) hx7 rfl rfl rfl rfl rfl rfl rfl rfl) (.cons (.loadY hx7 rfl rfl rfl rfl rfl rfl) (.cons (.callV (h2 x6 x7) hv2 rfl rfl rfl rfl) (.cons (.quiet rfl rfl rfl) (.cons (.quiet rfl rfl rfl) (.nil))))))))))))) (.nil (.cond rfl ?_ ?_))
      ·exact TieS.region (.run 3 rfl (.nil (.endb (.leaf ⟨rfl, .of rfl rfl⟩))))
      ·exact TieS.region (.run 2 rfl (.nil (.endb (.leaf ⟨rfl, .of rfl rfl⟩))))
     ·exact TieS.exitOut rfl ⟨(fun h => by cases h), rfl, .of rfl rfl⟩
    rintro (s6 | r) e σ' _ hq
    ·obtain ⟨rfl, hs⟩ := hq
     refine TieX.exit rfl (TieX.sub hs ?_)
     refine TieS.seq (.seq (.region (.run 2 rfl (.nil ?_))))
     refine TieS.block (.loop (fun t => ⟨[(0, .own 1000000), (14, .t (tI s6.1)), (17, .t (tI t.1))], [(1000000, .rs 134 5 t.2 q10)]⟩) (fun b e σ' => match b with | .inl t => e = .exit 6 ∧ Sub ⟨[], [(1000000, .rs 134 5 t.2 q10)]⟩ σ' | .inr t => False) (.of rfl rfl) ?_ ?_)
     ·intro s7
      refine TieS.seq (.seq (.region (.run 3 rfl (.nil ?_))))
      refine TieS.cond rfl ?_ ?_
      ·refine TieS.skip (.seq (.block (.bind (Q₁ := fun t e σ' => e = .normal ∧ Sub ⟨[(0, .own 1000000), (14, .t (tI s6.1)), (17, .t (tI s7.1))], [(1000000, .rs 134 5 t q10)]⟩ σ') ?_ ?_)))
       ·refine TieX.pre fun x8 hx8 => TieX.pre fun x9 hx9 => TieX.pre fun l3 hl3 => TieS.draws 16 (bm 18 0) (bm 18 65535) ⟨[(0, .own 1000000), (14, .t (tI s6.1)), (17, .t (tI s7.1)), (115, .own 1000000), (117, .t (tI (w64 (s7.1 - 1)))), (126, .agg [.t (tI x9.x.Angle), .t (tI x9.x.Kind), .t (tI x9.x.Cylinder), .t (tI x9.x.Pulse), .t (tI x9.f_at)])], [(1000000, .rs 134 5 l3 q10)]⟩ mixed (fun _ _ _ h => by cases h.1) rfl rfl rfl rfl ?_ ?_
        ·refine TieA.have_ (fuel₁ := 4) (l₁ := (bm 18 16383)) (σ₁ := ⟨[(0, .own 1000000), (14, .t (tI s6.1)), (17, .t (tI s7.1)), (113, .own 1000000), (114, .t (tI s7.1)), (115, .own 1000000), (117, .t (tI (w64 (s7.1 - 1)))), (122, .agg [.t (tI x8.x.Angle), .t (tI x8.x.Kind), .t (tI x8.x.Cylinder), .t (tI x8.x.Pulse), .t (tI x8.f_at)]), (126, .agg [.t (tI x9.x.Angle), .t (tI x9.x.Kind), .t (tI x9.x.Cylinder), .t (tI x9.x.Pulse), .t (tI x9.f_at)])], [(1000000, .rs 134 5 s7.2 q10)]⟩) ?_ fun A_0 => ?_
         ·refine TieA.idx 14 _ hx9 rfl rfl rfl rfl rfl rfl (by kernel_rfl) (by kernel_rfl) (by kernel_rfl) rfl rfl rfl rfl rfl rfl (.all [15] (by kernel_rfl) rfl (AllA.cons (σ₁ := ⟨[(0, .own 1000000), (14, .t (tI s6.1)), (17, .t (tI s7.1)), (115, .own 1000000), (117, .t (tI (w64 (s7.1 - 1)))), (126, .agg [.t (tI x9.x.Angle), .t (tI x9.x.Kind), .t (tI x9.x.Cylinder), .t (tI x9.x.Pulse), .t (tI x9.f_at)])], [(1000000, .rs 134 5 l3 q10)]⟩) _ rfl rfl ?_ ?_ ?_))
          ·refine TieO.withH hl3 (TieO.storeY x8 [tI x8.x.Angle, tI x8.x.Kind, tI x8.x.Cylinder, tI x8.x.Pulse, tI x8.f_at] hx9 rfl rfl rfl rfl rfl rfl rfl rfl rfl rfl rfl rfl (TieO.ifG ?_))
           exact TieO.nil (TieS.leaf ⟨rfl, .of rfl rfl⟩)
          ·exact TieA.done (.of rfl rfl)
          exact AllA.nil
         refine TieA.mv 0 rfl (.inl rfl) rfl (by kernel_rfl) rfl (.mv 1 rfl (.inl rfl) rfl (by kernel_rfl) rfl (.mv 2 rfl (.inl rfl) rfl (by kernel_rfl) rfl (.mv 3 rfl (.inl rfl) rfl (by kernel_rfl) rfl (.bin (V := .t (tI (w64 (s7.1 - 1)))) 4 _ rfl rfl rfl rfl rfl rfl (by kernel_rfl) (by kernel_rfl) (by kernel_rfl) rfl rfl rfl rfl ?_))))
         refine TieA.mv 5 rfl (.inl rfl) rfl (by kernel_rfl) rfl (.mv 6 rfl (.inl rfl) rfl (by kernel_rfl) rfl (.bin (V := .t (tI (w64 (s7.1 - 1)))) 7 _ rfl rfl rfl rfl rfl rfl (by kernel_rfl) (by kernel_rfl) (by kernel_rfl) rfl rfl rfl rfl (.idx 8 _ hx8 rfl rfl rfl rfl rfl rfl (by kernel_rfl) (by kernel_rfl) (by kernel_rfl) rfl rfl rfl rfl rfl rfl (.mv 10 rfl (.inl rfl) rfl (by kernel_rfl) rfl ?_))))
         refine TieA.mv 11 rfl (.inl rfl) rfl (by kernel_rfl) rfl (.idx 12 _ hx9 rfl rfl rfl rfl rfl rfl (by kernel_rfl) (by kernel_rfl) (by kernel_rfl) rfl rfl rfl rfl rfl rfl (.all [9, 13] (by kernel_rfl) rfl (AllA.cons (σ₁ := ⟨[(0, .own 1000000), (14, .t (tI s6.1)), (17, .t (tI s7.1)), (113, .own 1000000), (114, .t (tI s7.1)), (115, .own 1000000), (117, .t (tI (w64 (s7.1 - 1)))), (122, .agg [.t (tI x8.x.Angle), .t (tI x8.x.Kind), .t (tI x8.x.Cylinder), .t (tI x8.x.Pulse), .t (tI x8.f_at)]), (125, .pe 1000000 (Int.toNat s7.1) 5 0)], [(1000000, .rs 134 5 s7.2 q10)]⟩) _ rfl rfl ?_ ?_ ?_)))
         ·exact TieO.loadY hx8 rfl rfl rfl rfl rfl rfl rfl rfl (.nil (TieS.leaf ⟨rfl, .of rfl rfl⟩))
         ·refine TieA.all [13] (by kernel_rfl) rfl (AllA.cons _ rfl rfl ?_ A_0 ?_)
          ·exact TieO.loadY hx9 rfl rfl rfl rfl rfl rfl rfl rfl (.nil (TieS.leaf ⟨rfl, .of rfl rfl⟩))
          exact AllA.nil
         refine AllA.cons (σ₁ := ⟨[(0, .own 1000000), (14, .t (tI s6.1)), (17, .t (tI s7.1)), (113, .own 1000000), (114, .t (tI s7.1)), (115, .own 1000000), (117, .t (tI (w64 (s7.1 - 1)))), (121, .pe 1000000 (Int.toNat (w64 (s7.1 - 1))) 5 0), (126, .agg [.t (tI x9.x.Angle), .t (tI x9.x.Kind), .t (tI x9.x.Cylinder), .t (tI x9.x.Pulse), .t (tI x9.f_at)])], [(1000000, .rs 134 5 s7.2 q10)]⟩) _ rfl rfl ?_ ?_ ?_
         ·exact TieO.loadY hx9 rfl rfl rfl rfl rfl rfl rfl rfl (.nil (TieS.leaf ⟨rfl, .of rfl rfl⟩))
         ·refine TieA.all [9] (by kernel_rfl) rfl (AllA.cons _ rfl rfl ?_ A_0 ?_)
          ·exact TieO.loadY hx8 rfl rfl rfl rfl rfl rfl rfl rfl (.nil (TieS.leaf ⟨rfl, .of rfl rfl⟩))
          exact AllA.nil
         exact AllA.nil
        exact TieO.indexO rfl rfl rfl rfl rfl rfl rfl rfl rfl rfl fun x10 hx10 => .storeY x9 [tI x9.x.Angle, tI x9.x.Kind, tI x9.x.Cylinder, tI x9.x.Pulse, tI x9.f_at] hx10 rfl rfl rfl rfl rfl rfl rfl rfl rfl rfl rfl rfl fun l4 hl4 => .nil (.leaf ⟨rfl, .of rfl rfl⟩)
       rintro f3 e σ' _ ⟨rfl, hs⟩
       refine TieX.sub hs (TieS.endb (.region (.run 3 rfl (.nil ?_))))
       exact TieS.leaf ⟨rfl, .of rfl rfl⟩
      ·exact TieS.exitOut rfl ⟨(fun h => by cases h), rfl, .of rfl rfl⟩
     rintro (s8 | r) e σ' _ hq
     ·obtain ⟨rfl, hs⟩ := hq
      refine TieX.exit rfl (TieX.sub hs ?_)
      exact TieS.ret ⟨.inl rfl, ⟨[(1000000, 1000000)], _, _, rfl, rfl, rfl, rfl, rfl⟩⟩
     ·exact hq.elim
    ·exact hq.elim
   ·refine TieS.skip (.seq (.region (.run 7 rfl (.nil ?_))))
    refine TieS.seq (.region (.run 4 rfl (.nil (.seq ?_))))
    refine TieS.region (.run 2 rfl (.nil (.seq (.seq ?_))))
    refine TieS.region (.run 3 rfl (.nil (.bind (Q₁ := fun t e σ' => e = .normal ∧ Sub ⟨[(0, .own 1000000), (1, .t (tI a)), (2, .t (tI m2)), (3, .t (tI b2)), (4, .fz n2 cs), (18, .t (tI (w64 (bitShr .u64 (IntKind.u64.wrap (w64 (a + b2))) 1)))), (19, .t (tI (w64 ((w64 (bitShr .u64 (IntKind.u64.wrap (w64 (a + b2))) 1)) + m2)))), (20, .t (tI t.1)), (21, .t (tI t.2))], [(1000000, .rs 134 5 data q10)]⟩ σ') ?_ ?_)))
    ·refine TieS.cond rfl ?_ ?_
     ·refine TieS.seq (.region (.run 4 rfl (.nil (.region ?_))))
      exact TieO.run 2 rfl (.nil (.leaf ⟨rfl, .of rfl rfl⟩))
     ·refine TieS.seq (.region (.run 2 rfl (.nil (.region ?_))))
      exact TieO.run 2 rfl (.nil (.leaf ⟨rfl, .of rfl rfl⟩))
    rintro s9 e σ' _ ⟨rfl, hs⟩
    refine TieX.sub hs (TieS.seq (.region (.run 3 rfl (.nil ?_))))
    refine TieS.seq (.block (.loop (fun t => ⟨[(0, .own 1000000), (1, .t (tI a)), (2, .t (tI m2)), (3, .t (tI b2)), (4, .fz n2 cs), (18, .t (tI (w64 (bitShr .u64 (IntKind.u64.wrap (w64 (a + b2))) 1)))), (19, .t (tI (w64 ((w64 (bitShr .u64 (IntKind.u64.wrap (w64 (a + b2))) 1)) + m2)))), (20, .t (tI t.1)), (21, .t (tI t.2)), (22, .t (tI (w64 ((w64 ((w64 (bitShr .u64 (IntKind.u64.wrap (w64 (a + b2))) 1)) + m2)) - 1))))], [(1000000, .rs 134 5 data q10)]⟩) (fun b e σ' => match b with | .inl t => e = .exit 8 ∧ Sub ⟨[(0, .own 1000000), (1, .t (tI a)), (2, .t (tI m2)), (3, .t (tI b2)), (4, .fz n2 cs), (18, .t (tI (w64 (bitShr .u64 (IntKind.u64.wrap (w64 (a + b2))) 1)))), (19, .t (tI (w64 ((w64 (bitShr .u64 (IntKind.u64.wrap (w64 (a + b2))) 1)) + m2)))), (20, .t (tI t.1))], [(1000000, .rs 134 5 data q10)]⟩ σ' | .inr t => False) (.of rfl rfl) ?_ ?_))
    ·intro s10
     refine TieS.seq (.seq (.region (.run 3 rfl (.nil ?_))))
     refine TieS.cond rfl ?_ ?_
     ·refine TieS.skip (.block (.seq (.region (.run 7 rfl ?_))))
      refine TieO.nil (.seq (TieX.pre fun x11 hx11 => TieX.pre fun x12 hx12 => TieX.pre fun v3 hv3 => ?_))
      refine TieS.draw 14 [_, _, _, _, _, _, _, _, _, _, _, _, _, _] [(0, .own 1000000), (1, .t (tI a)), (2, .t (tI m2)), (3, .t (tI b2)), (4, .fz n2 cs), (18, .t (tI (w64 (bitShr .u64 (IntKind.u64.wrap (w64 (a + b2))) 1)))), (19, .t (tI (w64 ((w64 (bitShr .u64 (IntKind.u64.wrap (w64 (a + b2))) 1)) + m2)))), (20, .t (tI s10.1)), (21, .t (tI s10.2)), (22, .t (tI (w64 ((w64 ((w64 (bitShr .u64 (IntKind.u64.wrap (w64 (a + b2))) 1)) + m2)) - 1)))), (23, .t (tI (w64 (bitShr .u64 (IntKind.u64.wrap (w64 (s10.1 + s10.2))) 1))))] [(1000000, .rs 134 5 data q10)] mixed (.of rfl rfl) rfl rfl rfl rfl (.cons (.quiet rfl rfl rfl) (.cons (.quiet rfl rfl rfl) (.cons (.quiet rfl rfl rfl) (.cons (.quiet rfl rfl rfl) (.cons (.quiet rfl rfl rfl) (.cons (.indexO (sz := 5) hx11 rfl rfl rfl rfl rfl rfl rfl rfl) (.cons (.loadY hx11 rfl rfl rfl rfl rfl rfl) (.cons (.quiet rfl rfl rfl) (.cons (.quiet rfl rfl rfl) (.cons (.indexO (sz := 5) hx12 rfl rfl rfl rfl rfl rfl rfl rfl) (.cons (.loadY hx12 rfl rfl rfl rfl rfl rfl) (.cons (.callV (h2 x11 x12) hv3 rfl rfl rfl rfl) (.cons (.quiet rfl rfl rfl) (.cons (.quiet rfl rfl rfl) (.nil))))))))))))))) (.nil (.cond rfl ?_ ?_))
      ·exact TieS.region (.run 3 rfl (.nil (.endb (.leaf ⟨rfl, .of rfl rfl⟩))))
      ·exact TieS.region (.run 2 rfl (.nil (.endb (.leaf ⟨rfl, .of rfl rfl⟩))))
     ·exact TieS.exitOut rfl ⟨(fun h => by cases h), rfl, .of rfl rfl⟩
    rintro (s11 | r) e σ' _ hq
    ·obtain ⟨rfl, hs⟩ := hq
     refine TieX.exit rfl (TieX.sub hs ?_)
     refine TieS.seq (.region (.run 4 rfl (.nil (.seq ?_))))
     refine TieS.seq (.region (.run 4 rfl (.selAnd (v := decide (m2 < (w64 ((w64 ((w64 (bitShr .u64 (IntKind.u64.wrap (w64 (a + b2))) 1)) + m2)) - s11.1)))) 4 181 (fun b => ⟨[(0, .own 1000000), (1, .t (tI a)), (2, .t (tI m2)), (3, .t (tI b2)), (4, .fz n2 cs), (18, .t (tI (w64 (bitShr .u64 (IntKind.u64.wrap (w64 (a + b2))) 1)))), (20, .t (tI s11.1)), (24, .t (tI (w64 ((w64 ((w64 (bitShr .u64 (IntKind.u64.wrap (w64 (a + b2))) 1)) + m2)) - s11.1)))), (185, .t (tB b))], [(1000000, .rs 134 5 data q10)]⟩) rfl ?_ ?_ ?_)))
     ·exact TieO.run 4 rfl (.nil (.leaf ⟨rfl, .of rfl rfl⟩))
     ·exact TieO.run 4 rfl (.nil (.leaf ⟨rfl, .of rfl rfl⟩))
     refine TieO.nil (.bind (Q₁ := fun t e σ' => e = .normal ∧ Sub ⟨[(0, .own 1000000), (1, .t (tI a)), (3, .t (tI b2)), (4, .fz n2 cs), (18, .t (tI (w64 (bitShr .u64 (IntKind.u64.wrap (w64 (a + b2))) 1)))), (20, .t (tI s11.1)), (24, .t (tI (w64 ((w64 ((w64 (bitShr .u64 (IntKind.u64.wrap (w64 (a + b2))) 1)) + m2)) - s11.1))))], [(1000000, .rs 134 5 t q10)]⟩ σ') ?_ ?_)
     ·refine TieS.cond rfl ?_ ?_
      ·exact TieS.region (.run 5 rfl (.callG [(1000000, 1000000)] [] (fun v4 => ⟨[(0, .own 1000000), (1, .t (tI a)), (2, .t (tI m2)), (3, .t (tI b2)), (4, .fz n2 cs), (18, .t (tI (w64 (bitShr .u64 (IntKind.u64.wrap (w64 (a + b2))) 1)))), (20, .t (tI s11.1)), (24, .t (tI (w64 ((w64 ((w64 (bitShr .u64 (IntKind.u64.wrap (w64 (a + b2))) 1)) + m2)) - s11.1)))), (185, .t (tB ((decide (s11.1 < m2)) && (decide (m2 < (w64 ((w64 ((w64 (bitShr .u64 (IntKind.u64.wrap (w64 (a + b2))) 1)) + m2)) - s11.1))))))), (186, .own 1000000), (187, .t (tI s11.1)), (188, .t (tI m2)), (189, .t (tI (w64 ((w64 ((w64 (bitShr .u64 (IntKind.u64.wrap (w64 (a + b2))) 1)) + m2)) - s11.1)))), (190, .fz n2 cs), (191, .tup [])], [(1000000, .rs 134 5 v4 q10)]⟩) (q150 data s11.1 m2 (w64 ((w64 ((w64 (bitShr .u64 (IntKind.u64.wrap (w64 (a + b2))) 1)) + m2)) - s11.1)) n2 cs cmp h2) rfl rfl rfl rfl rfl rfl rfl (fun _ => rfl) (fun _ => rfl) (fun _ => rfl) (fun _ => .of rfl rfl) fun v4 hv4 => .nil (.leaf ⟨rfl, .of rfl rfl⟩)))
      ·exact TieS.skip (.leaf ⟨rfl, .of rfl rfl⟩)
     rintro f4 e σ' _ ⟨rfl, hs⟩
     refine TieX.sub hs (TieS.seq (.seq (.region (.run 4 rfl ?_))))
     refine TieO.selAnd (v := decide (s11.1 < (w64 (bitShr .u64 (IntKind.u64.wrap (w64 (a + b2))) 1)))) 4 195 (fun b => ⟨[(0, .own 1000000), (1, .t (tI a)), (3, .t (tI b2)), (4, .fz n2 cs), (18, .t (tI (w64 (bitShr .u64 (IntKind.u64.wrap (w64 (a + b2))) 1)))), (20, .t (tI s11.1)), (24, .t (tI (w64 ((w64 ((w64 (bitShr .u64 (IntKind.u64.wrap (w64 (a + b2))) 1)) + m2)) - s11.1)))), (199, .t (tB b))], [(1000000, .rs 134 5 f4 q10)]⟩) rfl ?_ ?_ ?_
     ·exact TieO.run 4 rfl (.nil (.leaf ⟨rfl, .of rfl rfl⟩))
     ·exact TieO.run 4 rfl (.nil (.leaf ⟨rfl, .of rfl rfl⟩))
     refine TieO.nil (.bind (Q₁ := fun t e σ' => e = .normal ∧ Sub ⟨[(0, .own 1000000), (3, .t (tI b2)), (4, .fz n2 cs), (18, .t (tI (w64 (bitShr .u64 (IntKind.u64.wrap (w64 (a + b2))) 1)))), (24, .t (tI (w64 ((w64 ((w64 (bitShr .u64 (IntKind.u64.wrap (w64 (a + b2))) 1)) + m2)) - s11.1))))], [(1000000, .rs 134 5 t q10)]⟩ σ') ?_ ?_)
     ·refine TieS.cond rfl ?_ ?_
      ·exact TieS.region (.run 5 rfl (.callG [(1000000, 1000000)] [] (fun v5 => ⟨[(0, .own 1000000), (1, .t (tI a)), (3, .t (tI b2)), (4, .fz n2 cs), (18, .t (tI (w64 (bitShr .u64 (IntKind.u64.wrap (w64 (a + b2))) 1)))), (20, .t (tI s11.1)), (24, .t (tI (w64 ((w64 ((w64 (bitShr .u64 (IntKind.u64.wrap (w64 (a + b2))) 1)) + m2)) - s11.1)))), (199, .t (tB ((decide (a < s11.1)) && (decide (s11.1 < (w64 (bitShr .u64 (IntKind.u64.wrap (w64 (a + b2))) 1))))))), (200, .own 1000000), (201, .t (tI a)), (202, .t (tI s11.1)), (203, .t (tI (w64 (bitShr .u64 (IntKind.u64.wrap (w64 (a + b2))) 1)))), (204, .fz n2 cs), (205, .tup [])], [(1000000, .rs 134 5 v5 q10)]⟩) (ih f4 a s11.1 (w64 (bitShr .u64 (IntKind.u64.wrap (w64 (a + b2))) 1)) n2 cs cmp h2) rfl rfl rfl rfl rfl rfl rfl (fun _ => rfl) (fun _ => rfl) (fun _ => rfl) (fun _ => .of rfl rfl) fun v5 hv5 => .nil (.leaf ⟨rfl, .of rfl rfl⟩)))
      ·exact TieS.skip (.leaf ⟨rfl, .of rfl rfl⟩)
     rintro f5 e σ' _ ⟨rfl, hs⟩
     refine TieX.sub hs (TieS.seq (.region (.run 4 rfl (.selAnd (v := decide ((w64 ((w64 ((w64 (bitShr .u64 (IntKind.u64.wrap (w64 (a + b2))) 1)) + m2)) - s11.1)) < b2)) 4 209 (fun b => ⟨[(0, .own 1000000), (3, .t (tI b2)), (4, .fz n2 cs), (18, .t (tI (w64 (bitShr .u64 (IntKind.u64.wrap (w64 (a + b2))) 1)))), (24, .t (tI (w64 ((w64 ((w64 (bitShr .u64 (IntKind.u64.wrap (w64 (a + b2))) 1)) + m2)) - s11.1)))), (213, .t (tB b))], [(1000000, .rs 134 5 f5 q10)]⟩) rfl ?_ ?_ ?_))))
     ·exact TieO.run 4 rfl (.nil (.leaf ⟨rfl, .of rfl rfl⟩))
     ·exact TieO.run 4 rfl (.nil (.leaf ⟨rfl, .of rfl rfl⟩))
     refine TieO.nil (.cond rfl ?_ ?_)
     ·exact TieS.region (.run 5 rfl (.callG [(1000000, 1000000)] [] (fun v6 => ⟨[(0, .own 1000000), (3, .t (tI b2)), (4, .fz n2 cs), (18, .t (tI (w64 (bitShr .u64 (IntKind.u64.wrap (w64 (a + b2))) 1)))), (24, .t (tI (w64 ((w64 ((w64 (bitShr .u64 (IntKind.u64.wrap (w64 (a + b2))) 1)) + m2)) - s11.1)))), (213, .t (tB ((decide ((w64 (bitShr .u64 (IntKind.u64.wrap (w64 (a + b2))) 1)) < (w64 ((w64 ((w64 (bitShr .u64 (IntKind.u64.wrap (w64 (a + b2))) 1)) + m2)) - s11.1)))) && (decide ((w64 ((w64 ((w64 (bitShr .u64 (IntKind.u64.wrap (w64 (a + b2))) 1)) + m2)) - s11.1)) < b2))))), (214, .own 1000000), (215, .t (tI (w64 (bitShr .u64 (IntKind.u64.wrap (w64 (a + b2))) 1)))), (216, .t (tI (w64 ((w64 ((w64 (bitShr .u64 (IntKind.u64.wrap (w64 (a + b2))) 1)) + m2)) - s11.1)))), (217, .t (tI b2)), (218, .fz n2 cs), (219, .tup [])], [(1000000, .rs 134 5 v6 q10)]⟩) (ih f5 (w64 (bitShr .u64 (IntKind.u64.wrap (w64 (a + b2))) 1)) (w64 ((w64 ((w64 (bitShr .u64 (IntKind.u64.wrap (w64 (a + b2))) 1)) + m2)) - s11.1)) b2 n2 cs cmp h2) rfl rfl rfl rfl rfl rfl rfl (fun _ => rfl) (fun _ => rfl) (fun _ => rfl) (fun _ => .of rfl rfl) fun v6 hv6 => .nil (.leaf ⟨.inr rfl, ⟨[(1000000, 1000000)], _, _, rfl, rfl, rfl, rfl, rfl⟩⟩)))
     ·exact TieS.skip (.leaf ⟨.inr rfl, ⟨[(1000000, 1000000)], _, _, rfl, rfl, rfl, rfl, rfl⟩⟩)
    ·exact hq.elim
set_option maxRecDepth 100000 in
set_option maxHeartbeats 4000000 in
theorem q149 (data : List Sscheduler_planned) (n2 : Int) (n3 : Nat) (cs : List (List Tree)) (cmp : Sscheduler_planned → Sscheduler_planned → Option Int) (h2 : ∀ x0 x1, TieF Tryz.prog n3 ([q20 x0, q20 x1] ++ cs.map T.el) (cmp x0 x1) (fun r => .t (tI r))) : TieG Tryz.prog 139 [.own 1000000, .t (tI n2), .fz n3 cs] [(1000000, .rs 134 5 data q10)] (q45 data n2 cmp) (fun _ => .tup []) (fun r => [(1000000, .rs 134 5 r q10)]) := by
 refine TieG.intro htab 63 [] Tryz.call139 Tryz.func139 rfl rfl rfl (Nat.le_of_ble_eq_true rfl) fun w0 L => ?_
 refine TieS.seq (.region (.run 1 rfl (.nil (.seq ?_))))
 refine TieS.region (.run 3 rfl (.nil (.seq (.block ?_))))
 refine TieS.loop (fun t => ⟨[(0, .own 1000000), (1, .t (tI n2)), (2, .fz n3 cs), (6, .t (tI 20)), (7, .t (tI t.1)), (8, .t (tI t.2.1))], [(1000000, .rs 134 5 t.2.2 q10)]⟩) (fun b e σ' => match b with | .inl t => e = .exit 0 ∧ Sub ⟨[(0, .own 1000000), (1, .t (tI n2)), (2, .fz n3 cs), (6, .t (tI 20)), (7, .t (tI t.1))], [(1000000, .rs 134 5 t.2.2 q10)]⟩ σ' | .inr t => False) (.of rfl rfl) ?_ ?_
 ·intro s
  refine TieS.seq (.seq (.region (.run 3 rfl (.nil ?_))))
  refine TieS.cond rfl ?_ ?_
  ·refine TieS.skip (.block (.seq (.region (.run 4 rfl ?_))))
   refine TieO.callG [(1000000, 1000000)] [] (fun v => ⟨[(0, .own 1000000), (1, .t (tI n2)), (2, .fz n3 cs), (6, .t (tI 20)), (7, .t (tI s.1)), (8, .t (tI s.2.1)), (11, .t (tI s.2.1)), (12, .t (tI n2)), (13, .t (tB (decide (s.2.1 ≤ n2)))), (14, .own 1000000), (15, .t (tI s.1)), (16, .t (tI s.2.1)), (17, .fz n3 cs), (18, .tup [])], [(1000000, .rs 134 5 v q10)]⟩) (q47 s.2.2 s.1 s.2.1 n3 cs cmp h2) rfl rfl rfl rfl rfl rfl rfl (fun _ => rfl) (fun _ => rfl) (fun _ => rfl) (fun _ => .of rfl rfl) fun v hv => .nil (.seq (.region (.run 2 rfl ?_)))
   refine TieO.nil (.region (.run 4 rfl (.nil (.endb ?_))))
   exact TieS.leaf ⟨rfl, .of rfl rfl⟩
  ·exact TieS.exitOut rfl ⟨(fun h => by cases h), rfl, .of rfl rfl⟩
 rintro (s2 | r) e σ' _ hq
 ·obtain ⟨rfl, hs⟩ := hq
  refine TieX.exit rfl (TieX.sub hs ?_)
  refine TieS.seq (.region (.run 4 rfl (.callG [(1000000, 1000000)] [] (fun v2 => ⟨[(0, .own 1000000), (1, .t (tI n2)), (2, .fz n3 cs), (6, .t (tI 20)), (7, .t (tI s2.1)), (23, .own 1000000), (24, .t (tI s2.1)), (25, .t (tI n2)), (26, .fz n3 cs), (27, .tup [])], [(1000000, .rs 134 5 v2 q10)]⟩) (q47 s2.2.2 s2.1 n2 n3 cs cmp h2) rfl rfl rfl rfl rfl rfl rfl (fun _ => rfl) (fun _ => rfl) (fun _ => rfl) (fun _ => .of rfl rfl) fun v2 hv2 => .nil ?_)))
  refine TieS.block (.loop (fun t => ⟨[(0, .own 1000000), (1, .t (tI n2)), (2, .fz n3 cs), (6, .t (tI t.1))], [(1000000, .rs 134 5 t.2 q10)]⟩) (fun b e σ' => match b with | .inl t => e = .exit 2 ∧ Sub ⟨[], [(1000000, .rs 134 5 t.2 q10)]⟩ σ' | .inr t => False) (.of rfl rfl) ?_ ?_)
  ·intro s3
   refine TieS.seq (.seq (.region (.run 3 rfl (.nil ?_))))
   refine TieS.cond rfl ?_ ?_
   ·refine TieS.skip (.block (.seq (.region (.run 4 rfl ?_))))
    refine TieO.nil (.seq (.block (.loop (fun t => ⟨[(0, .own 1000000), (1, .t (tI n2)), (2, .fz n3 cs), (6, .t (tI s3.1)), (7, .t (tI t.1)), (8, .t (tI t.2.1))], [(1000000, .rs 134 5 t.2.2 q10)]⟩) (fun b e σ' => match b with | .inl t => e = .exit 4 ∧ Sub ⟨[(0, .own 1000000), (1, .t (tI n2)), (2, .fz n3 cs), (6, .t (tI s3.1)), (7, .t (tI t.1))], [(1000000, .rs 134 5 t.2.2 q10)]⟩ σ' | .inr t => False) (.of rfl rfl) ?_ ?_)))
    ·intro s4
     refine TieS.seq (.seq (.region (.run 3 rfl (.nil ?_))))
     refine TieS.cond rfl ?_ ?_
     ·refine TieS.skip (.block (.seq (.region (.run 7 rfl ?_))))
      refine TieO.callG [(1000000, 1000000)] [] (fun v3 => ⟨[(0, .own 1000000), (1, .t (tI n2)), (2, .fz n3 cs), (6, .t (tI s3.1)), (7, .t (tI s4.1)), (8, .t (tI s4.2.1)), (33, .t (tI s4.2.1)), (34, .t (tI n2)), (35, .t (tB (decide (s4.2.1 ≤ n2)))), (36, .own 1000000), (37, .t (tI s4.1)), (38, .t (tI s4.1)), (39, .t (tI s3.1)), (40, .t (tI (w64 (s4.1 + s3.1)))), (41, .t (tI s4.2.1)), (42, .fz n3 cs), (43, .tup [])], [(1000000, .rs 134 5 v3 q10)]⟩) (q62 64 s4.2.2 s4.1 (w64 (s4.1 + s3.1)) s4.2.1 n3 cs cmp h2) rfl rfl rfl rfl rfl rfl rfl (fun _ => rfl) (fun _ => rfl) (fun _ => rfl) (fun _ => .of rfl rfl) fun v3 hv3 => .nil (.seq (.region (.run 2 rfl ?_)))
      refine TieO.nil (.region (.run 5 rfl (.nil (.endb ?_))))
      exact TieS.leaf ⟨rfl, .of rfl rfl⟩
     ·exact TieS.exitOut rfl ⟨(fun h => by cases h), rfl, .of rfl rfl⟩
    rintro (s5 | r) e σ' _ hq
    ·obtain ⟨rfl, hs⟩ := hq
     refine TieX.exit rfl (TieX.sub hs ?_)
     refine TieS.seq (.seq (.region (.run 4 rfl (.nil ?_))))
     refine TieS.seq (.region (.run 3 rfl (.nil (.cond rfl ?_ ?_))))
     ·refine TieS.region (.run 5 rfl (.callG [(1000000, 1000000)] [] (fun v4 => ⟨[(0, .own 1000000), (1, .t (tI n2)), (2, .fz n3 cs), (6, .t (tI s3.1)), (7, .t (tI s5.1)), (9, .t (tI (w64 (s5.1 + s3.1)))), (49, .t (tI s5.1)), (50, .t (tI s3.1)), (51, .t (tI (w64 (s5.1 + s3.1)))), (52, .t (tI (w64 (s5.1 + s3.1)))), (53, .t (tI n2)), (54, .t (tB (decide ((w64 (s5.1 + s3.1)) < n2)))), (55, .own 1000000), (56, .t (tI s5.1)), (57, .t (tI (w64 (s5.1 + s3.1)))), (58, .t (tI n2)), (59, .fz n3 cs), (60, .tup [])], [(1000000, .rs 134 5 v4 q10)]⟩) (q62 64 s5.2.2 s5.1 (w64 (s5.1 + s3.1)) n2 n3 cs cmp h2) rfl rfl rfl rfl rfl rfl rfl (fun _ => rfl) (fun _ => rfl) (fun _ => rfl) (fun _ => .of rfl rfl) fun v4 hv4 => .nil (.region ?_)))
      exact TieO.run 3 rfl (.nil (.endb (.leaf ⟨rfl, .of rfl rfl⟩)))
     ·refine TieS.skip (.region (.run 3 rfl (.nil (.endb ?_))))
      exact TieS.leaf ⟨rfl, .of rfl rfl⟩
    ·exact hq.elim
   ·exact TieS.exitOut rfl ⟨(fun h => by cases h), rfl, .of rfl rfl⟩
  rintro (s6 | r) e σ' _ hq
  ·obtain ⟨rfl, hs⟩ := hq
   refine TieX.exit rfl (TieX.sub hs ?_)
   exact TieS.leaf ⟨.inr rfl, ⟨[(1000000, 1000000)], _, _, rfl, rfl, rfl, rfl, rfl⟩⟩
  ·exact hq.elim
 ·exact hq.elim
set_option maxRecDepth 100000 in
theorem q138 (x : List Sscheduler_planned) (n2 : Nat) (cs : List (List Tree)) (cmp : Sscheduler_planned → Sscheduler_planned → Option Int) (h2 : ∀ x0 x1, TieF Tryz.prog n2 ([q20 x0, q20 x1] ++ cs.map T.el) (cmp x0 x1) (fun r => .t (tI r))) : TieG Tryz.prog 122 [.own 1000000, .fz n2 cs] [(1000000, .rs 134 5 x q10)] (q25 x cmp) (fun _ => .tup []) (fun r => [(1000000, .rs 134 5 r q10)]) := by
 refine TieG.intro htab 9 [] Tryz.call122 Tryz.func122 rfl rfl rfl (Nat.le_of_ble_eq_true rfl) fun w0 L => ?_
 exact TieS.region (.run 4 rfl (.callG [(1000000, 1000000)] [] (fun v => ⟨[(0, .own 1000000), (1, .fz n2 cs), (4, .own 1000000), (5, .own 1000000), (6, .t (tI (x.length : Int))), (7, .fz n2 cs), (8, .tup [])], [(1000000, .rs 134 5 v q10)]⟩) (q149 x (x.length : Int) n2 cs cmp h2) rfl rfl rfl rfl rfl rfl rfl (fun _ => rfl) (fun _ => rfl) (fun _ => rfl) (fun _ => .of rfl rfl) fun v hv => .nil (.leaf ⟨.inr rfl, ⟨[(1000000, 1000000)], _, _, rfl, rfl, rfl, rfl, rfl⟩⟩)))
set_option maxRecDepth 100000 in
theorem q304 (a : Sscheduler_planned) (b2 : Sscheduler_planned) : TieF Tryz.prog 123 [q20 a, q20 b2] (q93 a b2) (fun r => .t (tI r)) := by
 refine TieF.intro htab 19 [.tmp 4] Tryz.call123 Tryz.func123 rfl rfl rfl (Nat.le_of_ble_eq_true rfl) fun w0 L => ?_
 refine TieS.seq (.region (.run 3 rfl (.nil (.seq ?_))))
 refine TieX.pre fun v hv => TieX.pre fun v2 hv2 => TieX.pre fun v3 hv3 => TieX.pre fun v4 hv4 => TieS.draw 12 [_, _, _, _, _, _, _, _, _, _, _, _] [(2, .ptr 2 0), (3, .ptr 3 0), (4, .t (tI 0))] [(2, .box [.t (tI a.x.Angle), .t (tI a.x.Kind), .t (tI a.x.Cylinder), .t (tI a.x.Pulse), .t (tI a.f_at)]), (3, .box [.t (tI b2.x.Angle), .t (tI b2.x.Kind), .t (tI b2.x.Cylinder), .t (tI b2.x.Pulse), .t (tI b2.f_at)])] mixed (.of rfl rfl) rfl rfl rfl rfl (.cons (.quiet rfl rfl rfl) (.cons (.quiet rfl rfl rfl) (.cons (.quiet rfl rfl rfl) (.cons (.quiet rfl rfl rfl) (.cons (.callV (q35 a.f_at b2.f_at) hv rfl rfl rfl rfl) (.cons (.quiet rfl rfl rfl) (.cons (.quiet rfl rfl rfl) (.cons (.callV (q87 a.x) hv2 rfl rfl rfl rfl) (.cons (.quiet rfl rfl rfl) (.cons (.quiet rfl rfl rfl) (.cons (.callV (q87 b2.x) hv3 rfl rfl rfl rfl) (.cons (.callV (q35 v2 v3) hv4 rfl rfl rfl rfl) (.nil))))))))))))) ?_
 exact TieO.run 1 rfl (.callS _ rfl rfl rfl (q243 ([v, v4] : List Int)) (fun _ => rfl) (fun _ => rfl) fun v5 => .run 1 rfl (.nil (.ret ⟨.inl rfl, rfl⟩)))
abbrev x93_0 (x3 : Sscheduler_planned) : List T := [.t (tI x3.x.Angle), .t (tI x3.x.Kind), .t (tI x3.x.Cylinder), .t (tI x3.x.Pulse), .t (tI x3.f_at)]
abbrev x93_1 (x : SEvent) : List T := [.t (tI x.Angle), .t (tI x.Kind), .t (tI x.Cylinder), .t (tI x.Pulse)]
set_option maxRecDepth 100000 in
set_option maxHeartbeats 4000000 in
theorem q337 (e2 : SEngine) (f2 : SFire) (begin : Int) (ticks : Int) : TieF Tryz.prog 93 [q37 e2, A_SFire f2, .t (tI begin), .t (tI ticks)] (q184 e2 f2 begin ticks) (fun r => .tup [.t (tS q10 r.1), .t (tB r.2)]) := by
 refine TieF.intro htab 111 [.tmp 8, .tmp 9] Tryz.call93 Tryz.func93 rfl rfl rfl (Nat.le_of_ble_eq_true rfl) fun w0 L => ?_
 refine TieS.seq (.region (.run 4 rfl (.nil (.seq ?_))))
 refine TieS.region (.run 4 rfl (.frz 25 rfl (.call _ rfl rfl rfl (q378 e2 ([f2] : List SFire) ticks) (fun _ => rfl) fun r2 => .run 5 rfl ?_)))
 refine TieO.nil (.seq (.seq (.region (.run 2 rfl ?_))))
 refine TieO.nil (.cond rfl ?_ ?_)
 ·exact TieS.seq (.region (.run 2 rfl (.nil (.ret ⟨.inl rfl, rfl⟩))))
 ·refine TieS.skip (.seq (.region (.run 1 rfl (.nil ?_))))
  refine TieS.seq (.seq (.region (.run 3 rfl (.nil ?_))))
  refine TieS.block (TieX.nilP 12 2368 134 5 [] rfl rfl rfl rfl rfl (TieS.loop (fun p => ⟨[(2, .t (tI begin)), (12, .own 2368), (32, .t (tS q16 r2.1)), (33, .t (tI (r2.1.length : Int))), (34, .t (tI p.1))], [(2368, .rs 134 5 p.2 q10)]⟩) (fun b e σ' => match b with | .inl t => e = .exit 0 ∧ Sub ⟨[(12, .own 2368)], [(2368, .rs 134 5 t q10)]⟩ σ' | .inr t => False) (.of rfl rfl) ?_ ?_))
  ·rintro ⟨i, out⟩
   refine TieS.seq (.region (.run 1 rfl (.nil (.seq ?_))))
   refine TieS.cond rfl ?_ ?_
   ·refine TieS.skip (.seq (TieX.pre fun x hx => TieX.sub (σ' := ⟨[(2, .t (tI begin)), (12, .own 2368), (32, .t (tS q16 r2.1)), (33, .t (tI (r2.1.length : Int))), (34, .t (tI i))], [(2368, .rs 134 5 out q10)]⟩) (.of rfl rfl) (TieS.bind (Q₁ := fun f e σ' => match f with | .next t => e = .normal ∧ Sub ⟨[(2, .t (tI begin)), (12, .own 2368), (32, .t (tS q16 r2.1)), (33, .t (tI (r2.1.length : Int))), (34, .t (tI i))], [(2368, .rs 134 5 t q10)]⟩ σ' | .brk t => e = .exit 0 ∧ Sub ⟨[(12, .own 2368)], [(2368, .rs 134 5 t q10)]⟩ σ' | .ret r => False) ?_ ?_)))
    ·refine TieS.block (.seq (.region (.indexH hx rfl rfl rfl rfl rfl rfl rfl rfl (fun _ => rfl) (.run 3 rfl ?_))))
     refine TieO.nil (.bind (Q₁ := fun t e σ' => e = .normal ∧ Sub ⟨[(2, .t (tI begin)), (12, .own 2368), (32, .t (tS q16 r2.1)), (33, .t (tI (r2.1.length : Int))), (34, .t (tI i))], [(2368, .rs 134 5 t q10)]⟩ σ') ?_ ?_)
     ·refine TieX.pre fun v hv => TieS.draws 8 (bm 10 0) (bm 10 255) ⟨[(2, .t (tI begin)), (12, .own 2368), (32, .t (tS q16 r2.1)), (33, .t (tI (r2.1.length : Int))), (34, .t (tI i)), (38, .own 2368), (45, .own 45)], [(14, .box (x93_1 x)), (45, .rs 134 5 ([(⟨x, v⟩ : Sscheduler_planned)] : List Sscheduler_planned) q10), (2368, .rs 134 5 out q10)]⟩ mixed (fun _ _ _ h => by cases h.1) rfl rfl rfl rfl ?_ ?_
      ·refine TieA.have_ (fuel₁ := 4) (l₁ := (bm 10 63)) (σ₁ := ⟨[(2, .t (tI begin)), (12, .own 2368), (32, .t (tS q16 r2.1)), (33, .t (tI (r2.1.length : Int))), (34, .t (tI i)), (38, .own 2368), (39, .agg [.t (tI x.Angle), .t (tI x.Kind), .t (tI x.Cylinder), .t (tI x.Pulse)]), (43, .t (tI v))], [(14, .box (x93_1 x)), (2368, .rs 134 5 out q10)]⟩) ?_ fun A_1 => ?_
       ·refine TieA.all [6] (by kernel_rfl) rfl (AllA.run _ rfl rfl rfl ?_ ?_)
        ·refine TieA.all [7] (by kernel_rfl) rfl (AllA.run _ rfl rfl rfl ?_ ?_)
         ·exact TieA.done (.of rfl rfl)
         exact AllA.nil
        exact AllA.nil
       refine TieA.have_ (fuel₁ := 5) (l₁ := (bm 10 31)) (σ₁ := ⟨[(2, .t (tI begin)), (12, .own 2368), (32, .t (tS q16 r2.1)), (33, .t (tI (r2.1.length : Int))), (34, .t (tI i)), (38, .own 2368), (39, .agg [.t (tI x.Angle), .t (tI x.Kind), .t (tI x.Cylinder), .t (tI x.Pulse)]), (40, .t (tI begin)), (42, .t (tI x.Angle))], [(14, .box (x93_1 x)), (2368, .rs 134 5 out q10)]⟩) ?_ fun A_0 => ?_
       ·refine TieA.all [5] (by kernel_rfl) rfl (AllA.cons _ rfl rfl ?_ A_1 ?_)
        ·refine TieO.withH hv (TieO.call _ rfl rfl rfl (q120 begin x.Angle) (fun _ => rfl) (TieO.ifH ?_))
         exact TieO.nil (TieS.leaf ⟨rfl, .of rfl rfl⟩)
        exact AllA.nil
       refine TieA.mv 0 rfl (.inl rfl) rfl (by kernel_rfl) rfl (.mv 2 rfl (.inl rfl) rfl (by kernel_rfl) rfl (.fP 3 rfl rfl rfl (by kernel_rfl) rfl rfl rfl (.all [1, 4] (by kernel_rfl) rfl (AllA.run _ rfl rfl rfl ?_ ?_))))
       ·exact TieA.all [4] (by kernel_rfl) rfl (AllA.runTo _ rfl rfl rfl (.of rfl rfl) A_0 (AllA.nil))
       refine AllA.run _ rfl rfl rfl ?_ ?_
       ·refine TieA.all [1, 5] (by kernel_rfl) rfl (AllA.runTo _ rfl rfl rfl (.of rfl rfl) A_0 (AllA.cons (σ₁ := ⟨[(2, .t (tI begin)), (12, .own 2368), (14, .ptr 14 0), (32, .t (tS q16 r2.1)), (33, .t (tI (r2.1.length : Int))), (34, .t (tI i)), (38, .own 2368), (43, .t (tI v))], [(14, .box (x93_1 x)), (2368, .rs 134 5 out q10)]⟩) _ rfl rfl ?_ ?_ ?_))
        ·refine TieO.withH hv (TieO.call _ rfl rfl rfl (q120 begin x.Angle) (fun _ => rfl) (TieO.ifH ?_))
         exact TieO.nil (TieS.leaf ⟨rfl, .of rfl rfl⟩)
        ·exact TieA.all [1] (by kernel_rfl) rfl (AllA.runTo _ rfl rfl rfl (.of rfl rfl) A_1 (AllA.nil))
        exact AllA.nil
       exact AllA.nil
      exact TieO.appendY (id := 2368) (l := out) (r := ([(⟨x, v⟩ : Sscheduler_planned)] : List Sscheduler_planned)) (tm' := [(2, .t (tI begin)), (32, .t (tS q16 r2.1)), (33, .t (tI (r2.1.length : Int))), (34, .t (tI i)), (45, .own 45)]) (hp' := [(14, .box (x93_1 x)), (45, .rs 134 5 ([(⟨x, v⟩ : Sscheduler_planned)] : List Sscheduler_planned) q10)]) rfl rfl rfl rfl rfl rfl rfl (fun _ => rfl) (fun _ => rfl) (.inl ⟨rfl, rfl⟩) (.inr ⟨_, rfl, rfl⟩) (.of rfl rfl) rfl rfl rfl fun l => .run 1 rfl (.nil (.leaf ⟨rfl, .of rfl rfl⟩))
     rintro f3 e σ' _ ⟨rfl, hs⟩
     exact TieX.sub hs (TieS.endb (.leaf ⟨rfl, .of rfl rfl⟩))
    rintro (t | t | r) e σ' _ hq
    ·obtain ⟨rfl, hs⟩ := hq
     exact TieX.sub hs (TieS.region (.run 2 rfl (.nil (.leaf ⟨rfl, .of rfl rfl⟩))))
    ·obtain ⟨rfl, hs⟩ := hq
     exact TieX.exitOut rfl ⟨(fun h => by cases h), rfl, hs⟩
    ·exact hq.elim
   ·exact TieS.exitOut rfl ⟨(fun h => by cases h), rfl, .of rfl rfl⟩
  rintro (out2 | r) e σ' _ hq
  ·obtain ⟨rfl, hs⟩ := hq
   refine TieX.exit rfl (TieX.sub hs ?_)
   refine TieS.seq (.region (.run 1 rfl (.callG [(1000000, 2368)] [] (fun v2 => ⟨[(12, .own 2368), (48, .own 2368), (49, .tup [])], [(2368, .rs 134 5 v2 q10)]⟩) (q138 out2 123 [] q93 q304) rfl rfl rfl rfl rfl rfl rfl (fun _ => rfl) (fun _ => rfl) (fun _ => rfl) (fun _ => .of rfl rfl) fun v2 hv2 => .nil ?_)))
   refine TieS.seq (.seq (.region (.run 4 rfl (.nil ?_))))
   refine TieS.block (.loop (fun t => ⟨[(12, .own 2368), (52, .agg [.t (tI 1), .t (tI 2), .t (tI 3), .t (tI 4)]), (53, .t (tI t))], [(2368, .rs 134 5 v2 q10)]⟩) (fun b e σ' => match b with | .inl t => e = .exit 2 ∧ Sub ⟨[(12, .own 2368)], [(2368, .rs 134 5 v2 q10)]⟩ σ' | .inr t => e = .ret ∧ retT tab σ' [.tmp 8, .tmp 9] = some (((fun r => .tup [.t (tS q10 r.1), .t (tB r.2)]) : (List Sscheduler_planned × Bool) → T) t)) (.of rfl rfl) ?_ ?_)
   ·intro v3
    refine TieS.seq (.region (.run 1 rfl (.nil (.seq ?_))))
    refine TieS.cond rfl ?_ ?_
    ·refine TieS.skip (.seq (.block (.seq (.region ?_))))
     refine TieO.indexA ([(1, 2), (3, 4)] : List (Int × Int)) (fun y => .agg [.t (tI y.1), .t (tI y.2)]) (by intro j y h; match j, h with | 0, h => (cases h; rfl) | 1, h => (cases h; rfl) | _ + 2, h => (cases h)) rfl rfl rfl rfl rfl rfl rfl rfl rfl fun x2 hx2 => .run 2 rfl (.nil (.seq (.draw 5 [_, _, _, _, _] [(12, .own 2368), (16, .ptr 16 0), (52, .agg [.t (tI 1), .t (tI 2), .t (tI 3), .t (tI 4)]), (53, .t (tI v3))] [(16, .box [.t (tI x2.1), .t (tI x2.2)]), (2368, .rs 134 5 v2 q10)] mixed (.of rfl rfl) rfl rfl rfl rfl (.cons (.quiet rfl rfl rfl) (.cons (.quiet rfl rfl rfl) (.cons (.quiet rfl rfl rfl) (.cons (.quiet rfl rfl rfl) (.cons (.quiet rfl rfl rfl) (.nil)))))) ?_)))
     refine TieO.nil (.seq (.region (.run 3 rfl (.nil ?_))))
     refine TieS.block (.loop (fun p => ⟨[(12, .own 2368), (16, .ptr 16 0), (17, .t (tI p.2.1)), (18, .t (tI p.2.2.1)), (19, .t (tI p.2.2.2)), (52, .agg [.t (tI 1), .t (tI 2), .t (tI 3), .t (tI 4)]), (53, .t (tI v3)), (58, .own 2368), (59, .t (tI (v2.length : Int))), (60, .t (tI p.1))], [(16, .box [.t (tI x2.1), .t (tI x2.2)]), (2368, .rs 134 5 v2 q10)]⟩) (fun b e σ' => match b with | .inl t => e = .exit 4 ∧ Sub ⟨[(12, .own 2368), (52, .agg [.t (tI 1), .t (tI 2), .t (tI 3), .t (tI 4)]), (53, .t (tI v3))], [(2368, .rs 134 5 v2 q10)]⟩ σ' | .inr t => e = .ret ∧ retT tab σ' [.tmp 8, .tmp 9] = some (((fun r => .tup [.t (tS q10 r.1), .t (tB r.2)]) : (List Sscheduler_planned × Bool) → T) t)) (.of rfl rfl) ?_ ?_)
     ·rintro ⟨i2, s⟩
      refine TieS.seq (.region (.run 1 rfl (.nil (.seq ?_))))
      refine TieS.cond rfl ?_ ?_
      ·refine TieS.skip (.seq (TieX.pre fun x3 hx3 => TieX.sub (σ' := ⟨[(12, .own 2368), (16, .ptr 16 0), (17, .t (tI s.1)), (18, .t (tI s.2.1)), (19, .t (tI s.2.2)), (52, .agg [.t (tI 1), .t (tI 2), .t (tI 3), .t (tI 4)]), (53, .t (tI v3)), (58, .own 2368), (59, .t (tI (v2.length : Int))), (60, .t (tI i2))], [(16, .box [.t (tI x2.1), .t (tI x2.2)]), (2368, .rs 134 5 v2 q10)]⟩) (.of rfl rfl) (TieS.bind (Q₁ := fun f e σ' => match f with | .next t => e = .normal ∧ Sub ⟨[(12, .own 2368), (16, .ptr 16 0), (17, .t (tI t.1)), (18, .t (tI t.2.1)), (19, .t (tI t.2.2)), (52, .agg [.t (tI 1), .t (tI 2), .t (tI 3), .t (tI 4)]), (53, .t (tI v3)), (58, .own 2368), (59, .t (tI (v2.length : Int))), (60, .t (tI i2))], [(16, .box [.t (tI x2.1), .t (tI x2.2)]), (2368, .rs 134 5 v2 q10)]⟩ σ' | .brk t => e = .exit 4 ∧ Sub ⟨[(12, .own 2368), (52, .agg [.t (tI 1), .t (tI 2), .t (tI 3), .t (tI 4)]), (53, .t (tI v3))], [(2368, .rs 134 5 v2 q10)]⟩ σ' | .ret t => e = .ret ∧ retT tab σ' [.tmp 8, .tmp 9] = some (((fun r => .tup [.t (tS q10 r.1), .t (tB r.2)]) : (List Sscheduler_planned × Bool) → T) t)) ?_ ?_)))
       ·refine TieS.block (.seq (.region (.indexOH hx3 rfl rfl rfl rfl rfl rfl rfl rfl rfl rfl (.loadY hx3 rfl rfl rfl rfl rfl rfl rfl rfl ?_))))
        refine TieO.run 2 rfl (.nil (.seq (.seq (.region ?_))))
        refine TieO.run 7 rfl (.selAnd (v := (x3.x.Kind != x2.2)) 7 70 (fun b => ⟨[(12, .own 2368), (16, .ptr 16 0), (17, .t (tI s.1)), (18, .t (tI s.2.1)), (19, .t (tI s.2.2)), (21, .ptr 21 0), (52, .agg [.t (tI 1), .t (tI 2), .t (tI 3), .t (tI 4)]), (53, .t (tI v3)), (58, .own 2368), (59, .t (tI (v2.length : Int))), (60, .t (tI i2)), (77, .t (tB b))], [(16, .box [.t (tI x2.1), .t (tI x2.2)]), (21, .box (x93_0 x3)), (2368, .rs 134 5 v2 q10)]⟩) rfl ?_ ?_ ?_)
        ·exact TieO.run 7 rfl (.nil (.leaf ⟨rfl, .of rfl rfl⟩))
        ·exact TieO.run 7 rfl (.nil (.leaf ⟨rfl, .of rfl rfl⟩))
        refine TieO.nil (.cond rfl ?_ ?_)
        ·exact TieS.exit rfl (.leaf ⟨rfl, .of rfl rfl⟩)
        ·refine TieS.skip (.seq (.seq (.region (.run 6 rfl ?_))))
         refine TieO.selOr (v := decide (x3.f_at ≤ s.1)) 5 83 (fun b => ⟨[(12, .own 2368), (16, .ptr 16 0), (18, .t (tI s.2.1)), (19, .t (tI s.2.2)), (21, .ptr 21 0), (52, .agg [.t (tI 1), .t (tI 2), .t (tI 3), .t (tI 4)]), (53, .t (tI v3)), (58, .own 2368), (59, .t (tI (v2.length : Int))), (60, .t (tI i2)), (88, .t (tB b))], [(16, .box [.t (tI x2.1), .t (tI x2.2)]), (21, .box (x93_0 x3)), (2368, .rs 134 5 v2 q10)]⟩) rfl ?_ ?_ ?_
         ·exact TieO.run 5 rfl (.nil (.leaf ⟨rfl, .of rfl rfl⟩))
         ·exact TieO.run 5 rfl (.nil (.leaf ⟨rfl, .of rfl rfl⟩))
         refine TieO.run 1 rfl (.selOr (v := decide (x3.x.Pulse < s.2.1)) 6 89 (fun b => ⟨[(12, .own 2368), (16, .ptr 16 0), (19, .t (tI s.2.2)), (21, .ptr 21 0), (52, .agg [.t (tI 1), .t (tI 2), .t (tI 3), .t (tI 4)]), (53, .t (tI v3)), (58, .own 2368), (59, .t (tI (v2.length : Int))), (60, .t (tI i2)), (95, .t (tB b))], [(16, .box [.t (tI x2.1), .t (tI x2.2)]), (21, .box (x93_0 x3)), (2368, .rs 134 5 v2 q10)]⟩) rfl ?_ ?_ ?_)
         ·exact TieO.run 6 rfl (.nil (.leaf ⟨rfl, .of rfl rfl⟩))
         ·exact TieO.run 6 rfl (.nil (.leaf ⟨rfl, .of rfl rfl⟩))
         refine TieO.nil (.cond rfl ?_ ?_)
         ·exact TieS.seq (.region (.run 2 rfl (.nil (.ret ⟨rfl, rfl⟩))))
         ·refine TieS.skip (.seq (.draw 7 [_, _, _, _, _, _, _] [(12, .own 2368), (16, .ptr 16 0), (19, .t (tI s.2.2)), (21, .ptr 21 0), (52, .agg [.t (tI 1), .t (tI 2), .t (tI 3), .t (tI 4)]), (53, .t (tI v3)), (58, .own 2368), (59, .t (tI (v2.length : Int))), (60, .t (tI i2))] [(16, .box [.t (tI x2.1), .t (tI x2.2)]), (21, .box (x93_0 x3)), (2368, .rs 134 5 v2 q10)] mixed (.of rfl rfl) rfl rfl rfl rfl (.cons (.quiet rfl rfl rfl) (.cons (.quiet rfl rfl rfl) (.cons (.quiet rfl rfl rfl) (.cons (.quiet rfl rfl rfl) (.cons (.quiet rfl rfl rfl) (.cons (.quiet rfl rfl rfl) (.cons (.quiet rfl rfl rfl) (.nil)))))))) (.nil (.region ?_))))
          exact TieO.run 8 rfl (.nil (.endb (.leaf ⟨rfl, .of rfl rfl⟩)))
       rintro (t | t | t) e σ' _ hq
       ·obtain ⟨rfl, hs⟩ := hq
        exact TieX.sub hs (TieS.region (.run 2 rfl (.nil (.leaf ⟨rfl, .of rfl rfl⟩))))
       ·obtain ⟨rfl, hs⟩ := hq
        exact TieX.exitOut rfl ⟨(fun h => by cases h), rfl, hs⟩
       ·obtain ⟨rfl, hs⟩ := hq
        exact TieX.ret ⟨(fun h => by cases h), rfl, hs⟩
      ·exact TieS.exitOut rfl ⟨(fun h => by cases h), rfl, .of rfl rfl⟩
     rintro (s2 | r3) e σ' _ hq
     ·obtain ⟨rfl, hs⟩ := hq
      refine TieX.exit rfl (TieX.sub hs ?_)
      exact TieS.endb (.region (.run 2 rfl (.nil (.leaf ⟨rfl, .of rfl rfl⟩))))
     ·obtain ⟨rfl, hs⟩ := hq
      exact TieX.ret ⟨(fun h => by cases h), rfl, hs⟩
    ·exact TieS.exitOut rfl ⟨(fun h => by cases h), rfl, .of rfl rfl⟩
   rintro (v4 | r4) e σ' _ hq
   ·obtain ⟨rfl, hs⟩ := hq
    refine TieX.exit rfl (TieX.sub hs ?_)
    exact TieS.seq (.region (.run 3 rfl (.nil (.ret ⟨.inl rfl, rfl⟩))))
   ·obtain ⟨rfl, hs⟩ := hq
    exact TieX.ret ⟨.inl rfl, hs⟩
  ·exact hq.elim
abbrev x43_0 (x3 : Sscheduler_planned) : List T := [.t (tI x3.x.Angle), .t (tI x3.x.Kind), .t (tI x3.x.Cylinder), .t (tI x3.x.Pulse), .t (tI x3.f_at)]
set_option maxRecDepth 100000 in
set_option maxHeartbeats 4000000 in
theorem q324 (s : SScheduler) : TieG Tryz.prog 43 [.ptr 1000000 0] [(1000000, .box (lset (q11 s) [(11, .own 1000001)])), (1000001, .rs 85 7 s.Jobs q15)] (q129 s) (fun _ => .tup []) (fun r => [(900000, .rs 85 7 r.Jobs q15), (1000000, .box (lset (q11 r) [(11, .own 900000)]))]) := by
 refine TieG.intro htab 112 [] Tryz.call43 Tryz.func43 rfl rfl rfl (Nat.le_of_ble_eq_true rfl) fun w0 L => ?_
 refine TieS.seq (.region (.run 4 rfl (.call _ rfl rfl rfl (q388 s.Clock 23040) (fun _ => rfl) fun r2 => .run 5 rfl ?_)))
 refine TieO.nil (.seq (.region (.run 7 rfl (.nil ?_))))
 refine TieS.block (TieX.sub (σ' := ⟨[(0, .ptr 1000000 0), (2, .t (tI r2.1)), (27, .t (tS Pv.encI s.Engine.Order)), (28, .t (tI (s.Engine.Order.length : Int))), (29, .t (tI 0))], [(1000000, .box (lset (q11 s) [(11, .own 1000001)])), (1000001, .rs 85 7 s.Jobs q15)]⟩) (.of rfl rfl) (TieX.ren [(1000000, 1000000), (1000001, 2856)] rfl rfl rfl (TieS.loop (fun p => ⟨[(0, .ptr 1000000 0), (2, .t (tI r2.1)), (27, .t (tS Pv.encI s.Engine.Order)), (28, .t (tI (s.Engine.Order.length : Int))), (29, .t (tI p.1))], [(2856, .rs 85 7 p.2 q15), (1000000, .box (lset (q11 s) [(11, .own 2856)]))]⟩) (fun b e σ' => match b with | .inl t => e = .exit 0 ∧ Sub ⟨[], [(2856, .rs 85 7 t q15), (1000000, .box (lset (q11 s) [(11, .own 2856)]))]⟩ σ' | .inr t => False) (.of rfl rfl) ?_ ?_)))
 ·rintro ⟨i, f2⟩
  refine TieS.seq (.region (.run 1 rfl (.nil (.seq ?_))))
  refine TieS.cond rfl ?_ ?_
  ·refine TieS.skip (.seq (TieX.pre fun x hx => TieX.sub (σ' := ⟨[(0, .ptr 1000000 0), (2, .t (tI r2.1)), (27, .t (tS Pv.encI s.Engine.Order)), (28, .t (tI (s.Engine.Order.length : Int))), (29, .t (tI i))], [(2856, .rs 85 7 f2 q15), (1000000, .box (lset (q11 s) [(11, .own 2856)]))]⟩) (.of rfl rfl) (TieS.bind (Q₁ := fun f e σ' => match f with | .next t => e = .normal ∧ Sub ⟨[(0, .ptr 1000000 0), (2, .t (tI r2.1)), (27, .t (tS Pv.encI s.Engine.Order)), (28, .t (tI (s.Engine.Order.length : Int))), (29, .t (tI i))], [(2856, .rs 85 7 t q15), (1000000, .box (lset (q11 s) [(11, .own 2856)]))]⟩ σ' | .brk t => e = .exit 0 ∧ Sub ⟨[], [(2856, .rs 85 7 t q15), (1000000, .box (lset (q11 s) [(11, .own 2856)]))]⟩ σ' | .ret r => False) ?_ ?_)))
   ·refine TieS.block (.seq (.region (.indexH hx rfl rfl rfl rfl rfl rfl rfl rfl (fun _ => rfl) (.run 3 rfl ?_))))
    refine TieO.nil (.seq (TieX.pre fun r3 hr3 => TieS.draw 11 [_, _, _, _, _, _, _, _, _, _, _] [(0, .ptr 1000000 0), (2, .t (tI r2.1)), (5, .ptr 5 0), (27, .t (tS Pv.encI s.Engine.Order)), (28, .t (tI (s.Engine.Order.length : Int))), (29, .t (tI i))] [(5, .box [.t (tI x)]), (2856, .rs 85 7 f2 q15), (1000000, .box (lset (q11 s) [(11, .own 2856)]))] mixed (.of rfl rfl) rfl rfl rfl rfl (.cons (.quiet rfl rfl rfl) (.cons (.quiet rfl rfl rfl) (.cons (.quiet rfl rfl rfl) (.cons (.quiet rfl rfl rfl) (.cons (.quiet rfl rfl rfl) (.cons (.callV (q260 s.Engine x) hr3 rfl rfl rfl rfl) (.cons (.quiet rfl rfl rfl) (.cons (.quiet rfl rfl rfl) (.cons (.quiet rfl rfl rfl) (.cons (.quiet rfl rfl rfl) (.cons (.quiet rfl rfl rfl) (.nil)))))))))))) (.nil ?_)))
    refine TieS.seq (.region (.run 4 rfl (.nil (.seq ?_))))
    refine TieS.region (.run 6 rfl (.call _ rfl rfl rfl (q120 s.Clock.Angle (Int.tmod (w64 (r3.1 + 5760)) 46080)) (fun _ => rfl) fun v => .run 1 rfl (.nil ?_)))
    refine TieS.seq (.region (.run 4 rfl (.frzBox 5 rfl rfl (.run 1 rfl ?_))))
    refine TieO.sub (σ' := ⟨[(0, .ptr 1000000 0), (2, .t (tI r2.1)), (5, .el (Pv.encI x)), (6, .t (tI r3.1)), (7, .t (tI r3.2)), (8, .t (tI (Int.tmod (w64 (r3.1 + 5760)) 46080))), (9, .t (tI v)), (27, .t (tS Pv.encI s.Engine.Order)), (28, .t (tI (s.Engine.Order.length : Int))), (29, .t (tI i)), (33, .tup [.t (tI r3.1), .t (tI r3.2)]), (34, .ptr 1000000 0), (35, .ptr 1000000 0), (36, .ptr 1000000 0), (37, .agg [.t (tS Pv.encI s.Engine.Order), .t (tI s.Engine.First)]), (38, .t (tI x)), (39, .tup [.t (tI r3.1), .t (tI r3.2)]), (40, .t (tI r3.1)), (41, .t (tI r3.2)), (42, .t (tI r3.1)), (43, .t (tI (w64 (r3.1 + 5760)))), (44, .t (tI (Int.tmod (w64 (r3.1 + 5760)) 46080))), (45, .ptr 1000000 0), (46, .ptr 1000000 0), (47, .ptr 1000000 2), (48, .ptr 1000000 4), (49, .t (tI s.Clock.Angle)), (50, .t (tI (Int.tmod (w64 (r3.1 + 5760)) 46080))), (51, .t (tI v)), (52, .ptr 1000000 0), (53, .ptr 1000000 0), (54, .ptr 1000000 10), (55, .t (tS q12 s.Next)), (56, .fz 92 [Pv.encI x])], [(2856, .rs 85 7 f2 q15), (1000000, .box (lset (q11 s) [(11, .own 2856)]))]⟩) (.of rfl rfl) (.call _ rfl rfl rfl (q64 s.Next 92 [Pv.encI x] (fun x0 => q80 x0 x) (fun x0 => q289 x0 x)) (fun _ => rfl) fun v2 => .run 1 rfl (.nil (.seq ?_)))
    refine TieS.seq (.region (.run 8 rfl (.selOr (v := decide (v2 < 0)) 3 65 (fun b => ⟨[(0, .ptr 1000000 0), (2, .t (tI r2.1)), (8, .t (tI (Int.tmod (w64 (r3.1 + 5760)) 46080))), (9, .t (tI v)), (10, .t (tI v2)), (27, .t (tS Pv.encI s.Engine.Order)), (28, .t (tI (s.Engine.Order.length : Int))), (29, .t (tI i)), (68, .t (tB b))], [(2856, .rs 85 7 f2 q15), (1000000, .box (lset (q11 s) [(11, .own 2856)]))]⟩) rfl ?_ ?_ ?_)))
    ·exact TieO.run 3 rfl (.nil (.leaf ⟨rfl, .of rfl rfl⟩))
    ·exact TieO.run 3 rfl (.nil (.leaf ⟨rfl, .of rfl rfl⟩))
    refine TieO.nil (.cond rfl ?_ ?_)
    ·exact TieS.exit rfl (.leaf ⟨rfl, .of rfl rfl⟩)
    ·refine TieS.skip (.seq (TieX.pre fun x2 hx2 => TieX.pre fun r4 hr4 => TieS.draw 19 [_, _, _, _, _, _, _, _, _, _, _, _, _, _, _, _, _, _, _] [(0, .ptr 1000000 0), (2, .t (tI r2.1)), (8, .t (tI (Int.tmod (w64 (r3.1 + 5760)) 46080))), (9, .t (tI v)), (10, .t (tI v2)), (27, .t (tS Pv.encI s.Engine.Order)), (28, .t (tI (s.Engine.Order.length : Int))), (29, .t (tI i))] [(2856, .rs 85 7 f2 q15), (1000000, .box (lset (q11 s) [(11, .own 2856)]))] mixed (.of rfl rfl) rfl rfl rfl rfl (.cons (.quiet rfl rfl rfl) (.cons (.quiet rfl rfl rfl) (.cons (.quiet rfl rfl rfl) (.cons (.quiet rfl rfl rfl) (.cons (.quiet rfl rfl rfl) (.cons (.quiet rfl rfl rfl) (.cons (.quiet rfl rfl rfl) (.cons (.quiet rfl rfl rfl) (.cons (.quiet rfl rfl rfl) (.cons (.index hx2 rfl rfl rfl rfl rfl rfl (fun _ => rfl)) (.cons (.quiet rfl rfl rfl) (.cons (.quiet rfl rfl rfl) (.cons (.quiet rfl rfl rfl) (.cons (.callV (q337 s.Engine x2 (Int.tmod (w64 (r3.1 + 5760)) 46080) r2.1) hr4 rfl rfl rfl rfl) (.cons (.quiet rfl rfl rfl) (.cons (.quiet rfl rfl rfl) (.cons (.quiet rfl rfl rfl) (.cons (.quiet rfl rfl rfl) (.cons (.quiet rfl rfl rfl) (.nil)))))))))))))))))))) ?_))
     refine TieO.nil (.seq (.seq (.region (.run 2 rfl ?_))))
     refine TieO.nil (.cond rfl ?_ ?_)
     ·exact TieS.exit rfl (.leaf ⟨rfl, .of rfl rfl⟩)
     ·refine TieS.skip (.seq (.region (.run 3 rfl (.nil ?_))))
      refine TieS.block (.loop (fun p => ⟨[(0, .ptr 1000000 0), (2, .t (tI r2.1)), (9, .t (tI v)), (27, .t (tS Pv.encI s.Engine.Order)), (28, .t (tI (s.Engine.Order.length : Int))), (29, .t (tI i)), (88, .t (tS q10 r4.1)), (89, .t (tI (r4.1.length : Int))), (90, .t (tI p.1))], [(2856, .rs 85 7 p.2 q15), (1000000, .box (lset (q11 s) [(11, .own 2856)]))]⟩) (fun b e σ' => match b with | .inl t => e = .exit 2 ∧ Sub ⟨[(0, .ptr 1000000 0), (2, .t (tI r2.1)), (27, .t (tS Pv.encI s.Engine.Order)), (28, .t (tI (s.Engine.Order.length : Int))), (29, .t (tI i))], [(2856, .rs 85 7 t q15), (1000000, .box (lset (q11 s) [(11, .own 2856)]))]⟩ σ' | .inr t => False) (.of rfl rfl) ?_ ?_)
      ·rintro ⟨i2, f3⟩
       refine TieS.seq (.region (.run 1 rfl (.nil (.seq ?_))))
       refine TieS.cond rfl ?_ ?_
       ·refine TieS.skip (.seq (TieX.pre fun x3 hx3 => TieX.sub (σ' := ⟨[(0, .ptr 1000000 0), (2, .t (tI r2.1)), (9, .t (tI v)), (27, .t (tS Pv.encI s.Engine.Order)), (28, .t (tI (s.Engine.Order.length : Int))), (29, .t (tI i)), (88, .t (tS q10 r4.1)), (89, .t (tI (r4.1.length : Int))), (90, .t (tI i2))], [(2856, .rs 85 7 f3 q15), (1000000, .box (lset (q11 s) [(11, .own 2856)]))]⟩) (.of rfl rfl) (TieS.bind (Q₁ := fun f e σ' => match f with | .next t => e = .normal ∧ Sub ⟨[(0, .ptr 1000000 0), (2, .t (tI r2.1)), (9, .t (tI v)), (27, .t (tS Pv.encI s.Engine.Order)), (28, .t (tI (s.Engine.Order.length : Int))), (29, .t (tI i)), (88, .t (tS q10 r4.1)), (89, .t (tI (r4.1.length : Int))), (90, .t (tI i2))], [(2856, .rs 85 7 t q15), (1000000, .box (lset (q11 s) [(11, .own 2856)]))]⟩ σ' | .brk t => e = .exit 2 ∧ Sub ⟨[(0, .ptr 1000000 0), (2, .t (tI r2.1)), (27, .t (tS Pv.encI s.Engine.Order)), (28, .t (tI (s.Engine.Order.length : Int))), (29, .t (tI i))], [(2856, .rs 85 7 t q15), (1000000, .box (lset (q11 s) [(11, .own 2856)]))]⟩ σ' | .ret r => False) ?_ ?_)))
        ·refine TieS.block (.seq (.region (.indexH hx3 rfl rfl rfl rfl rfl rfl rfl rfl (fun _ => rfl) (.run 3 rfl ?_))))
         refine TieO.nil (.bind (Q₁ := fun t e σ' => e = .normal ∧ Sub ⟨[(0, .ptr 1000000 0), (2, .t (tI r2.1)), (9, .t (tI v)), (27, .t (tS Pv.encI s.Engine.Order)), (28, .t (tI (s.Engine.Order.length : Int))), (29, .t (tI i)), (88, .t (tS q10 r4.1)), (89, .t (tI (r4.1.length : Int))), (90, .t (tI i2))], [(2856, .rs 85 7 t q15), (1000000, .box (lset (q11 s) [(11, .own 2856)]))]⟩ σ') ?_ ?_)
         ·refine TieX.pre fun l hl => TieS.draws 14 (bm 17 0) (bm 17 16383) ⟨[(0, .ptr 1000000 0), (2, .t (tI r2.1)), (9, .t (tI v)), (27, .t (tS Pv.encI s.Engine.Order)), (28, .t (tI (s.Engine.Order.length : Int))), (29, .t (tI i)), (88, .t (tS q10 r4.1)), (89, .t (tI (r4.1.length : Int))), (90, .t (tI i2)), (94, .ptr 1000000 0), (107, .own 2856)], [(14, .box (x43_0 x3)), (106, .rs 85 7 ([(⟨x3.x, w64 (v + x3.f_at), false, 0⟩ : SJob)] : List SJob) q15), (2856, .rs 85 7 l q15), (1000000, .box (lset (q11 s) [(11, .any)]))]⟩ mixed (fun _ _ _ h => by cases h.1) rfl rfl rfl rfl ?_ ?_
          ·refine TieA.have_ (fuel₁ := 4) (l₁ := (bm 17 8191)) (σ₁ := ⟨[(0, .ptr 1000000 0), (2, .t (tI r2.1)), (9, .t (tI v)), (27, .t (tS Pv.encI s.Engine.Order)), (28, .t (tI (s.Engine.Order.length : Int))), (29, .t (tI i)), (88, .t (tS q10 r4.1)), (89, .t (tI (r4.1.length : Int))), (90, .t (tI i2)), (94, .ptr 1000000 0), (98, .own 2856), (106, .own 106)], [(14, .box (x43_0 x3)), (106, .rs 85 7 ([(⟨x3.x, w64 (v + x3.f_at), false, 0⟩ : SJob)] : List SJob) q15), (2856, .rs 85 7 f3 q15), (1000000, .box (lset (q11 s) [(11, .own 2856)]))]⟩) ?_ fun A_2 => ?_
           ·refine TieA.all [13] (by kernel_rfl) rfl (AllA.cons (σ₁ := ⟨[(0, .ptr 1000000 0), (2, .t (tI r2.1)), (9, .t (tI v)), (27, .t (tS Pv.encI s.Engine.Order)), (28, .t (tI (s.Engine.Order.length : Int))), (29, .t (tI i)), (88, .t (tS q10 r4.1)), (89, .t (tI (r4.1.length : Int))), (90, .t (tI i2)), (94, .ptr 1000000 0), (107, .own 2856)], [(14, .box (x43_0 x3)), (106, .rs 85 7 ([(⟨x3.x, w64 (v + x3.f_at), false, 0⟩ : SJob)] : List SJob) q15), (2856, .rs 85 7 l q15), (1000000, .box (lset (q11 s) [(11, .any)]))]⟩) _ rfl rfl ?_ ?_ ?_)
            ·refine TieO.withH hl (TieO.appendY (id := 2856) (l := f3) (r := ([(⟨x3.x, w64 (v + x3.f_at), false, 0⟩ : SJob)] : List SJob)) (tm' := [(0, .ptr 1000000 0), (2, .t (tI r2.1)), (9, .t (tI v)), (27, .t (tS Pv.encI s.Engine.Order)), (28, .t (tI (s.Engine.Order.length : Int))), (29, .t (tI i)), (88, .t (tS q10 r4.1)), (89, .t (tI (r4.1.length : Int))), (90, .t (tI i2)), (94, .ptr 1000000 0), (106, .own 106)]) (hp' := [(14, .box (x43_0 x3)), (106, .rs 85 7 ([(⟨x3.x, w64 (v + x3.f_at), false, 0⟩ : SJob)] : List SJob) q15), (1000000, .box (lset (q11 s) [(11, .any)]))]) rfl rfl rfl rfl rfl rfl rfl (fun _ => rfl) (fun _ => rfl) (.inl ⟨rfl, rfl⟩) (.inr ⟨_, rfl, rfl⟩) (.of rfl rfl) rfl rfl rfl (TieO.ifH ?_))
             exact TieO.nil (TieS.leaf ⟨rfl, .of rfl rfl⟩)
            ·exact TieA.done (.of rfl rfl)
            exact AllA.nil
           refine TieA.have_ (fuel₁ := 5) (l₁ := (bm 17 4095)) (σ₁ := ⟨[(0, .ptr 1000000 0), (2, .t (tI r2.1)), (9, .t (tI v)), (27, .t (tS Pv.encI s.Engine.Order)), (28, .t (tI (s.Engine.Order.length : Int))), (29, .t (tI i)), (88, .t (tS q10 r4.1)), (89, .t (tI (r4.1.length : Int))), (90, .t (tI i2)), (94, .ptr 1000000 0), (98, .own 2856), (105, .agg [.t (tI x3.x.Angle), .t (tI x3.x.Kind), .t (tI x3.x.Cylinder), .t (tI x3.x.Pulse), .t (tI (w64 (v + x3.f_at))), .t (tB false), .t (tI 0)])], [(14, .box (x43_0 x3)), (2856, .rs 85 7 f3 q15), (1000000, .box (lset (q11 s) [(11, .own 2856)]))]⟩) ?_ fun A_1 => ?_
           ·exact TieA.all [12] (by kernel_rfl) rfl (AllA.runTo _ rfl rfl rfl (.of rfl rfl) A_2 (AllA.nil))
           refine TieA.have_ (fuel₁ := 8) (l₁ := (bm 17 511)) (σ₁ := ⟨[(0, .ptr 1000000 0), (2, .t (tI r2.1)), (9, .t (tI v)), (27, .t (tS Pv.encI s.Engine.Order)), (28, .t (tI (s.Engine.Order.length : Int))), (29, .t (tI i)), (88, .t (tS q10 r4.1)), (89, .t (tI (r4.1.length : Int))), (90, .t (tI i2)), (94, .ptr 1000000 0), (98, .own 2856), (100, .agg [.t (tI x3.x.Angle), .t (tI x3.x.Kind), .t (tI x3.x.Cylinder), .t (tI x3.x.Pulse)]), (101, .t (tI v)), (102, .ptr 14 4)], [(14, .box (x43_0 x3)), (2856, .rs 85 7 f3 q15), (1000000, .box (lset (q11 s) [(11, .own 2856)]))]⟩) ?_ fun A_0 => ?_
           ·refine TieA.all [9] (by kernel_rfl) rfl (AllA.run _ rfl rfl rfl ?_ ?_)
            ·exact TieA.bin (V := .t (tI (w64 (v + x3.f_at)))) 10 _ rfl rfl rfl rfl rfl rfl (by kernel_rfl) (by kernel_rfl) (by kernel_rfl) rfl rfl rfl rfl (.all [11] (by kernel_rfl) rfl (AllA.runTo _ rfl rfl rfl (.of rfl rfl) A_1 (AllA.nil)))
            exact AllA.nil
           refine TieA.have_ (fuel₁ := 6) (l₁ := (bm 17 2047)) (σ₁ := ⟨[(0, .ptr 1000000 0), (2, .t (tI r2.1)), (9, .t (tI v)), (27, .t (tS Pv.encI s.Engine.Order)), (28, .t (tI (s.Engine.Order.length : Int))), (29, .t (tI i)), (88, .t (tS q10 r4.1)), (89, .t (tI (r4.1.length : Int))), (90, .t (tI i2)), (94, .ptr 1000000 0), (98, .own 2856), (100, .agg [.t (tI x3.x.Angle), .t (tI x3.x.Kind), .t (tI x3.x.Cylinder), .t (tI x3.x.Pulse)]), (104, .t (tI (w64 (v + x3.f_at))))], [(14, .box (x43_0 x3)), (2856, .rs 85 7 f3 q15), (1000000, .box (lset (q11 s) [(11, .own 2856)]))]⟩) ?_ fun A_3 => ?_
           ·exact TieA.all [11] (by kernel_rfl) rfl (AllA.runTo _ rfl rfl rfl (.of rfl rfl) A_1 (AllA.nil))
           refine TieA.have_ (fuel₁ := 6) (l₁ := (bm 17 4079)) (σ₁ := ⟨[(0, .ptr 1000000 0), (2, .t (tI r2.1)), (9, .t (tI v)), (27, .t (tS Pv.encI s.Engine.Order)), (28, .t (tI (s.Engine.Order.length : Int))), (29, .t (tI i)), (88, .t (tS q10 r4.1)), (89, .t (tI (r4.1.length : Int))), (90, .t (tI i2)), (94, .ptr 1000000 0), (97, .ptr 1000000 11), (105, .agg [.t (tI x3.x.Angle), .t (tI x3.x.Kind), .t (tI x3.x.Cylinder), .t (tI x3.x.Pulse), .t (tI (w64 (v + x3.f_at))), .t (tB false), .t (tI 0)])], [(14, .box (x43_0 x3)), (2856, .rs 85 7 f3 q15), (1000000, .box (lset (q11 s) [(11, .own 2856)]))]⟩) ?_ fun A_4 => ?_
           ·refine TieA.all [4, 12] (by kernel_rfl) rfl (AllA.runTo _ rfl rfl rfl (.of rfl rfl) A_1 (AllA.run _ rfl rfl rfl ?_ ?_))
            ·exact TieA.all [4] (by kernel_rfl) rfl (AllA.runTo _ rfl rfl rfl (.of rfl rfl) A_2 (AllA.nil))
            exact AllA.nil
           refine TieA.mv 0 rfl (.inl rfl) rfl (by kernel_rfl) rfl (.mv 1 rfl (.inl rfl) rfl (by kernel_rfl) rfl (.nP 2 rfl rfl rfl (by kernel_rfl) rfl (.fP 3 rfl rfl rfl (by kernel_rfl) rfl rfl rfl (.fP 5 rfl rfl rfl (by kernel_rfl) rfl rfl rfl ?_))))
           refine TieA.mv 7 rfl (.inl rfl) rfl (by kernel_rfl) rfl (.fP 8 rfl rfl rfl (by kernel_rfl) rfl rfl rfl (.all [4, 6, 9] (by kernel_rfl) rfl (AllA.run _ rfl rfl rfl ?_ ?_)))
           ·refine TieA.all [6, 9] (by kernel_rfl) rfl (AllA.runTo _ rfl rfl rfl (.of rfl rfl) A_0 (AllA.run _ rfl rfl rfl ?_ ?_))
            ·exact TieA.bin (V := .t (tI (w64 (v + x3.f_at)))) 10 _ rfl rfl rfl rfl rfl rfl (by kernel_rfl) (by kernel_rfl) (by kernel_rfl) rfl rfl rfl rfl (.all [6] (by kernel_rfl) rfl (AllA.runTo _ rfl rfl rfl (.of rfl rfl) A_3 (AllA.nil)))
            exact AllA.nil
           refine AllA.run _ rfl rfl rfl ?_ ?_
           ·refine TieA.all [4, 9] (by kernel_rfl) rfl (AllA.runTo _ rfl rfl rfl (.of rfl rfl) A_0 (AllA.run _ rfl rfl rfl ?_ ?_))
            ·exact TieA.bin (V := .t (tI (w64 (v + x3.f_at)))) 10 _ rfl rfl rfl rfl rfl rfl (by kernel_rfl) (by kernel_rfl) (by kernel_rfl) rfl rfl rfl rfl (.all [4, 11] (by kernel_rfl) rfl (AllA.runTo _ rfl rfl rfl (.of rfl rfl) A_3 (AllA.runTo _ rfl rfl rfl (.of rfl rfl) A_4 (AllA.nil))))
            exact AllA.nil
           refine AllA.run _ rfl rfl rfl ?_ ?_
           ·refine TieA.bin (V := .t (tI (w64 (v + x3.f_at)))) 10 _ rfl rfl rfl rfl rfl rfl (by kernel_rfl) (by kernel_rfl) (by kernel_rfl) rfl rfl rfl rfl (.all [4, 6] (by kernel_rfl) rfl (AllA.run _ rfl rfl rfl ?_ ?_))
            ·exact TieA.all [6] (by kernel_rfl) rfl (AllA.runTo _ rfl rfl rfl (.of rfl rfl) A_3 (AllA.nil))
            refine AllA.run _ rfl rfl rfl ?_ ?_
            ·exact TieA.all [4, 11] (by kernel_rfl) rfl (AllA.runTo _ rfl rfl rfl (.of rfl rfl) A_3 (AllA.runTo _ rfl rfl rfl (.of rfl rfl) A_4 (AllA.nil)))
            exact AllA.nil
           exact AllA.nil
          exact TieO.run 3 rfl (.nil (.leaf ⟨rfl, .of rfl rfl⟩))
         rintro f4 e σ' _ ⟨rfl, hs⟩
         exact TieX.sub hs (TieS.endb (.leaf ⟨rfl, .of rfl rfl⟩))
        rintro (t | t | r) e σ' _ hq
        ·obtain ⟨rfl, hs⟩ := hq
         exact TieX.sub hs (TieS.region (.run 2 rfl (.nil (.leaf ⟨rfl, .of rfl rfl⟩))))
        ·obtain ⟨rfl, hs⟩ := hq
         exact TieX.exitOut rfl ⟨(fun h => by cases h), rfl, hs⟩
        ·exact hq.elim
       ·exact TieS.exitOut rfl ⟨(fun h => by cases h), rfl, .of rfl rfl⟩
      rintro (f5 | r) e σ' _ hq
      ·obtain ⟨rfl, hs⟩ := hq
       refine TieX.exit rfl (TieX.sub hs ?_)
       exact TieS.endb (.leaf ⟨rfl, .of rfl rfl⟩)
      ·exact hq.elim
   rintro (t | t | r) e σ' _ hq
   ·obtain ⟨rfl, hs⟩ := hq
    exact TieX.sub hs (TieS.region (.run 2 rfl (.nil (.leaf ⟨rfl, .of rfl rfl⟩))))
   ·obtain ⟨rfl, hs⟩ := hq
    exact TieX.exitOut rfl ⟨(fun h => by cases h), rfl, hs⟩
   ·exact hq.elim
  ·exact TieS.exitOut rfl ⟨(fun h => by cases h), rfl, .of rfl rfl⟩
 rintro (f6 | r) e σ' _ hq
 ·obtain ⟨rfl, hs⟩ := hq
  refine TieX.exit rfl (TieX.sub hs ?_)
  exact TieS.leaf ⟨.inr rfl, ⟨[(2856, 900000), (1000000, 1000000)], _, _, rfl, rfl, rfl, rfl, rfl⟩⟩
 ·exact hq.elim
abbrev x10_0 : List T := [.t (.v (.slice none 0 0)), .t (tI 0), .t (tB false), .t (tI 0), .t (tI 0), .t (tI 0), .t (tI 0), .t (tI 0), .t (tI 0), .t (.v (.slice none 0 0)), .t (.v (.slice none 0 0)), .t (.v (.slice none 0 0)), .t (tB false)]
abbrev x10_1 (c : SClock) : List T := [.t (tB c.Valid), .t (tI c.At), .t (tI c.Angle), .t (tI c.Period), .t (tI c.Space), .t (tI c.Ahead)]
set_option maxRecDepth 100000 in
set_option maxHeartbeats 4000000 in
theorem q166 (s : SScheduler) (c : SClock) : TieF Tryz.prog 10 [q61 s, q245 c] (q30 s c) (fun r => .tup [q61 r.1, .t (tS q13 r.2.1), .t (tI r.2.2)]) := by
 refine TieF.intro htab 83 [.cell 4 33, .tmp 5, .tmp 6] Tryz.call10 Tryz.func10 rfl rfl rfl (Nat.le_of_ble_eq_true rfl) fun w0 L => ?_
 refine TieS.seq (.region (.run 5 rfl (.nil (.seq ?_))))
 refine TieS.block (.seq (.region (.run 1 rfl (.call _ rfl rfl rfl (q234 s) (fun _ => rfl) fun v => ?_))))
 refine TieO.run 2 rfl (.bind 4 (fun b2 => ⟨[(2, .ptr 2 0), (3, .ptr 3 0), (4, .ptr 4 0), (19, .t (tB b2))], [(2, .box (q11 s)), (3, .box (x10_1 c)), (4, .box x10_0)]⟩) (TieO.split 15 rfl ?_ ?_) fun b2 _ => ?_)
 ·exact TieO.run 4 rfl (.nil (.leaf ⟨rfl, .of rfl rfl⟩))
 ·exact TieO.run 1 rfl (.call _ rfl rfl rfl (q221 c) (fun _ => rfl) fun v2 => .run 2 rfl (.nil (.leaf ⟨rfl, .of rfl rfl⟩)))
 refine TieO.run 1 rfl (.nil (.cond rfl ?_ ?_))
 ·exact TieS.seq (.region (.run 4 rfl (.nil (.ret ⟨.inl rfl, rfl⟩))))
 ·refine TieS.seq (.region (.run 4 rfl (.nil (.cond rfl ?_ ?_))))
  ·exact TieS.seq (.region (.run 4 rfl (.nil (.ret ⟨.inl rfl, rfl⟩))))
  ·refine TieS.seq (.region (.run 7 rfl (.nil (.cond rfl ?_ ?_))))
   ·exact TieS.seq (.region (.run 4 rfl (.nil (.ret ⟨.inl rfl, rfl⟩))))
   ·refine TieS.skip (.endb (.seq (.region (.run 1 rfl ?_))))
    refine TieO.callG [] [(900000, 2280)] (fun v3 => ⟨[(2, .ptr 2 0), (3, .ptr 3 0), (4, .ptr 4 0), (11, .t (tB b2)), (19, .t (tB b2)), (21, .t (tB (!c.Valid))), (22, .ptr 3 0), (23, .t (tB c.Valid)), (24, .t (tB (!c.Valid))), (26, .t (tB (decide (c.At < s.Timer.Now)))), (27, .ptr 3 1), (28, .t (tI c.At)), (29, .ptr 2 8), (30, .ptr 2 8), (31, .t (tI s.Timer.Now)), (32, .t (tB (decide (c.At < s.Timer.Now)))), (34, .agg [.t (tS Pv.encI s.Engine.Order), .t (tI s.Engine.First), .t (tB s.Clock.Valid), .t (tI s.Clock.At), .t (tI s.Clock.Angle), .t (tI s.Clock.Period), .t (tI s.Clock.Space), .t (tI s.Clock.Ahead), .t (tI s.Timer.Now), .t (tS q14 s.Timer.Channels), .t (tS q12 s.Next), .t (tS q15 s.Jobs), .t (tB s.Cut)]), (35, .agg [.t (tS Pv.encI v3.Engine.Order), .t (tI v3.Engine.First), .t (tB v3.Clock.Valid), .t (tI v3.Clock.At), .t (tI v3.Clock.Angle), .t (tI v3.Clock.Period), .t (tI v3.Clock.Space), .t (tI v3.Clock.Ahead), .t (tI v3.Timer.Now), .t (tS q14 v3.Timer.Channels), .t (tS q12 v3.Next), .own 2280, .t (tB v3.Cut)])], [(2, .box (q11 s)), (3, .box (x10_1 c)), (4, .box x10_0), (2280, .rs 85 7 v3.Jobs q15)]⟩) (q224 s) rfl rfl rfl rfl rfl rfl rfl (fun _ => rfl) (fun _ => rfl) (fun _ => rfl) (fun _ => .of rfl rfl) fun v3 hv3 => .run 2 rfl (.nil (.seq (.region ?_)))
    refine TieO.run 2 rfl (.callG [(1000000, 7), (1000001, 2280)] [(900000, 2304)] (fun r2 => ⟨[(2, .ptr 2 0), (3, .ptr 3 0), (4, .ptr 4 0), (7, .ptr 7 0), (11, .t (tB b2)), (19, .t (tB b2)), (21, .t (tB (!c.Valid))), (22, .ptr 3 0), (23, .t (tB c.Valid)), (24, .t (tB (!c.Valid))), (26, .t (tB (decide (c.At < s.Timer.Now)))), (27, .ptr 3 1), (28, .t (tI c.At)), (29, .ptr 2 8), (30, .ptr 2 8), (31, .t (tI s.Timer.Now)), (32, .t (tB (decide (c.At < s.Timer.Now)))), (34, .agg [.t (tS Pv.encI s.Engine.Order), .t (tI s.Engine.First), .t (tB s.Clock.Valid), .t (tI s.Clock.At), .t (tI s.Clock.Angle), .t (tI s.Clock.Period), .t (tI s.Clock.Space), .t (tI s.Clock.Ahead), .t (tI s.Timer.Now), .t (tS q14 s.Timer.Channels), .t (tS q12 s.Next), .t (tS q15 s.Jobs), .t (tB s.Cut)]), (36, .ptr 3 1), (37, .t (tI c.At)), (38, .t (tS q13 r2.1))], [(2, .box (q11 s)), (3, .box (x10_1 c)), (4, .box x10_0), (7, .box (lset (q11 r2.2) [(11, .own 2304)])), (2304, .rs 85 7 r2.2.Jobs q15)]⟩) (q340 v3 c.At) rfl rfl rfl rfl rfl rfl rfl (fun _ => rfl) (fun _ => rfl) (fun _ => rfl) (fun _ => .of rfl rfl) fun r2 hr2 => .run 1 rfl (.nil (.seq ?_)))
    refine TieS.seq (.region (.run 3 rfl (.nil (.bind (Q₁ := fun t e σ' => e = .normal ∧ Sub ⟨[(3, .ptr 3 0), (4, .ptr 4 0), (7, .ptr 7 0), (8, .t (tS q13 r2.1))], [(3, .box (x10_1 c)), (4, .box x10_0), (7, .box (lset (q11 r2.2) [(11, .own 2304)])), (2304, .rs 85 7 t q15)]⟩ σ') ?_ ?_))))
    ·refine TieS.cond rfl ?_ ?_
     ·refine TieS.seq (.region (.run 5 rfl (.call _ rfl rfl rfl (q120 s.Clock.Angle c.Angle) (fun _ => rfl) fun v4 => .run 1 rfl ?_)))
      refine TieO.nil (.seq (.region (.run 4 rfl (.nil ?_))))
      refine TieS.block (.loop (fun p => ⟨[(3, .ptr 3 0), (4, .ptr 4 0), (7, .ptr 7 0), (8, .t (tS q13 r2.1)), (9, .t (tI v4)), (50, .t (tI (r2.2.Jobs.length : Int))), (51, .t (tI p.1))], [(3, .box (x10_1 c)), (4, .box x10_0), (7, .box (lset (q11 r2.2) [(11, .own 2304)])), (2304, .rs 85 7 p.2 q15)]⟩) (fun b e σ' => match b with | .inl t => e = .exit 1 ∧ Sub ⟨[(3, .ptr 3 0), (4, .ptr 4 0), (7, .ptr 7 0), (8, .t (tS q13 r2.1))], [(3, .box (x10_1 c)), (4, .box x10_0), (7, .box (lset (q11 r2.2) [(11, .own 2304)])), (2304, .rs 85 7 t q15)]⟩ σ' | .inr t => False) (.of rfl rfl) ?_ ?_)
      ·rintro ⟨i, f2⟩
       refine TieS.seq (.region (.run 1 rfl (.nil (.seq ?_))))
       refine TieS.cond rfl ?_ ?_
       ·refine TieS.skip (.seq (TieX.sub (σ' := ⟨[(3, .ptr 3 0), (4, .ptr 4 0), (7, .ptr 7 0), (8, .t (tS q13 r2.1)), (9, .t (tI v4)), (50, .t (tI (r2.2.Jobs.length : Int))), (51, .t (tI i))], [(3, .box (x10_1 c)), (4, .box x10_0), (7, .box (lset (q11 r2.2) [(11, .own 2304)])), (2304, .rs 85 7 f2 q15)]⟩) (.of rfl rfl) (TieS.bind (Q₁ := fun f e σ' => match f with | .next t => e = .normal ∧ Sub ⟨[(3, .ptr 3 0), (4, .ptr 4 0), (7, .ptr 7 0), (8, .t (tS q13 r2.1)), (9, .t (tI v4)), (50, .t (tI (r2.2.Jobs.length : Int))), (51, .t (tI i))], [(3, .box (x10_1 c)), (4, .box x10_0), (7, .box (lset (q11 r2.2) [(11, .own 2304)])), (2304, .rs 85 7 t q15)]⟩ σ' | .brk t => e = .exit 1 ∧ Sub ⟨[(3, .ptr 3 0), (4, .ptr 4 0), (7, .ptr 7 0), (8, .t (tS q13 r2.1))], [(3, .box (x10_1 c)), (4, .box x10_0), (7, .box (lset (q11 r2.2) [(11, .own 2304)])), (2304, .rs 85 7 t q15)]⟩ σ' | .ret r => False) ?_ ?_)))
        ·refine TieS.block (.seq (.region (.run 2 rfl (.nil ?_))))
         refine TieX.pre fun x hx => TieS.draw 14 [_, _, _, _, _, _, _, _, _, _, _, _, _, _] [(3, .ptr 3 0), (4, .ptr 4 0), (7, .ptr 7 0), (8, .t (tS q13 r2.1)), (9, .t (tI v4)), (10, .t (tI i)), (50, .t (tI (r2.2.Jobs.length : Int))), (51, .t (tI i))] [(3, .box (x10_1 c)), (4, .box x10_0), (7, .box (lset (q11 r2.2) [(11, .own 2304)])), (2304, .rs 85 7 f2 q15)] mixed (.of rfl rfl) rfl rfl rfl rfl (.cons (.quiet rfl rfl rfl) (.cons (.quiet rfl rfl rfl) (.cons (.quiet rfl rfl rfl) (.cons (.quiet rfl rfl rfl) (.cons (.quiet rfl rfl rfl) (.cons (.quiet rfl rfl rfl) (.cons (.indexO (sz := 7) hx rfl rfl rfl rfl rfl rfl rfl rfl) (.cons (.quiet rfl rfl rfl) (.cons (.loadY hx rfl rfl rfl rfl rfl rfl) (.cons (.quiet rfl rfl rfl) (.cons (.quiet rfl rfl rfl) (.cons (.quiet rfl rfl rfl) (.cons (.indexO (sz := 7) hx rfl rfl rfl rfl rfl rfl rfl rfl) (.cons (.quiet rfl rfl rfl) (.nil))))))))))))))) (.storeY (u6_1 x (maxI (-1048576) (w64 (x.Left - v4)))) [tI (maxI (-1048576) (w64 (x.Left - v4)))] hx rfl rfl rfl rfl rfl rfl rfl rfl rfl rfl rfl rfl fun l hl => .nil (.endb ?_))
         exact TieS.leaf ⟨rfl, .of rfl rfl⟩
        rintro (t | t | r) e σ' _ hq
        ·obtain ⟨rfl, hs⟩ := hq
         exact TieX.sub hs (TieS.region (.run 2 rfl (.nil (.leaf ⟨rfl, .of rfl rfl⟩))))
        ·obtain ⟨rfl, hs⟩ := hq
         exact TieX.exitOut rfl ⟨(fun h => by cases h), rfl, hs⟩
        ·exact hq.elim
       ·exact TieS.exitOut rfl ⟨(fun h => by cases h), rfl, .of rfl rfl⟩
      rintro (f3 | r) e σ' _ hq
      ·obtain ⟨rfl, hs⟩ := hq
       refine TieX.exit rfl (TieX.sub hs ?_)
       exact TieS.leaf ⟨rfl, .of rfl rfl⟩
      ·exact hq.elim
     ·exact TieS.skip (.leaf ⟨rfl, .of rfl rfl⟩)
    rintro f4 e σ' _ ⟨rfl, hs⟩
    refine TieX.sub hs (TieS.seq (.region (.run 3 rfl (.nil ?_))))
    refine TieS.seq (.seq (.region (.run 3 rfl (.nil ?_))))
    refine TieS.cond rfl ?_ ?_
    ·refine TieS.seq (.region (.callG [(1000000, 7), (1000001, 2304)] [(900000, 2592)] (fun v5 => ⟨[(3, .ptr 3 0), (4, .ptr 4 0), (7, .ptr 7 0), (8, .t (tS q13 r2.1)), (69, .agg [.t (tB c.Valid), .t (tI c.At), .t (tI c.Angle), .t (tI c.Period), .t (tI c.Space), .t (tI c.Ahead)]), (70, .ptr 7 2), (71, .ptr 7 12), (72, .t (tB r2.2.Cut)), (73, .t (tB (!r2.2.Cut))), (74, .tup [])], [(3, .box (x10_1 c)), (4, .box x10_0), (7, .box (lset (q11 v5) [(11, .own 2592)])), (2592, .rs 85 7 v5.Jobs q15)]⟩) (q324 (u7_4 (u7_2 (u7_1 (u7_0 r2.2 (⟨r2.2.Engine.Order, r2.2.Engine.First⟩ : SEngine)) c) (⟨r2.2.Timer.Now, r2.2.Timer.Channels⟩ : STimer)) f4)) rfl rfl rfl rfl rfl rfl rfl (fun _ => rfl) (fun _ => rfl) (fun _ => rfl) (fun _ => .of rfl rfl) fun v5 hv5 => .nil (.seq ?_)))
     refine TieS.seq (.region (.run 4 rfl (.nil (.cond rfl ?_ ?_))))
     ·exact TieS.seq (.region (.run 4 rfl (.nil (.ret ⟨.inl rfl, rfl⟩))))
     ·refine TieS.skip (.region (.callG [(1000000, 7), (1000001, 2592)] [] (fun v6 => ⟨[(3, .ptr 3 0), (4, .ptr 4 0), (7, .ptr 7 0), (8, .t (tS q13 r2.1)), (69, .agg [.t (tB c.Valid), .t (tI c.At), .t (tI c.Angle), .t (tI c.Period), .t (tI c.Space), .t (tI c.Ahead)]), (70, .ptr 7 2), (71, .ptr 7 12), (72, .t (tB r2.2.Cut)), (73, .t (tB (!r2.2.Cut))), (74, .tup []), (75, .ptr 7 11), (76, .own 2592), (77, .t (tI (v5.Jobs.length : Int))), (78, .t (tB (decide ((v5.Jobs.length : Int) > 200)))), (80, .tup [])], [(3, .box (x10_1 c)), (4, .box x10_0), (7, .box (lset (q11 v6) [(11, .own 2592)])), (2592, .rs 85 7 v6.Jobs q15)]⟩) (q259 v5) rfl rfl rfl rfl rfl rfl rfl (fun _ => rfl) (fun _ => rfl) (fun _ => rfl) (fun _ => .of rfl rfl) fun v6 hv6 => .nil (.seq ?_)))
      exact TieS.region (.run 5 rfl (.nil (.ret ⟨.inl rfl, rfl⟩)))
    ·refine TieS.skip (.seq (.region (.run 5 rfl (.nil ?_))))
     exact TieS.ret ⟨.inl rfl, rfl⟩
set_option maxRecDepth 100000 in
theorem q417 (n2 : Int) : TieF Tryz.prog 62 [.t (tI n2)] (q277 n2) (fun r => .tup [q175 r.1, .t (tI r.2)]) := by
 refine TieF.intro htab 14 [.cell 2 29, .tmp 3] Tryz.call62 Tryz.func62 rfl rfl rfl (Nat.le_of_ble_eq_true rfl) fun w0 L => ?_
 refine TieS.seq (.region (.run 2 rfl (.nil (.seq ?_))))
 refine TieS.seq (.region (.run 3 rfl (.selOr (v := decide (n2 > 16)) 3 6 (fun b => ⟨[(0, .t (tI n2)), (2, .ptr 2 0), (9, .t (tB b))], [(2, .box [.t (tI 0), .t (.v (.slice none 0 0))])]⟩) rfl ?_ ?_ ?_)))
 ·exact TieO.run 3 rfl (.nil (.leaf ⟨rfl, .of rfl rfl⟩))
 ·exact TieO.run 3 rfl (.nil (.leaf ⟨rfl, .of rfl rfl⟩))
 refine TieO.nil (.cond rfl ?_ ?_)
 ·exact TieS.seq (.region (.run 3 rfl (.nil (.ret ⟨.inl rfl, rfl⟩))))
 ·refine TieS.skip (.seq (.region (.run 1 rfl (.makeO (enc := q14) 2096 (⟨false, 0, false, false⟩ : SChannel) rfl rfl rfl rfl rfl rfl rfl rfl rfl rfl rfl rfl rfl fun l hl => ?_))))
  exact TieO.run 3 rfl (.nil (.ret ⟨.inl rfl, rfl⟩))
set_option maxRecDepth 100000 in
theorem q296 (s : List Int) : TieF Tryz.prog 63 [.t (tS Pv.encI s)] (q188 s) (fun r => .t (tS Pv.encI r)) := by
 refine TieF.intro htab 8 [.tmp 2] Tryz.call63 Tryz.func63 rfl rfl rfl (Nat.le_of_ble_eq_true rfl) fun w0 L => ?_
 refine TieS.seq (.region (.run 1 rfl (.nil (.seq ?_))))
 refine TieS.seq (.region (.run 1 rfl (.isNil rfl rfl rfl rfl rfl rfl fun b2 hb2 => .nil ?_)))
 refine TieS.condB rfl (fun hb1 => ?_) (fun _ => ?_)
 ·refine TieX.model (m' := some ([] : List Int)) (by rw [hb2 hb1]; rfl) (TieS.seq (.region (.run 1 rfl (.nil ?_))))
  exact TieS.ret ⟨.inl rfl, rfl⟩
 ·refine TieS.skip (.seq (.region (.run 2 rfl (.appendY (id := 5) (e' := 0) (l := ([] : List Int)) (r := s) (tm' := [(0, .t (tS Pv.encI s)), (2, .t (.v (.slice none 0 0))), (3, .t (tS Pv.encI s)), (4, .t (tB b2)), (6, .t (tS Pv.encI s))]) (hp' := []) rfl rfl rfl rfl rfl rfl rfl (fun _ => rfl) (fun _ => rfl) (.inl ⟨rfl, rfl⟩) (.inl rfl) (.of rfl rfl) rfl rfl rfl fun l => ?_))))
  exact TieO.run 1 rfl (.nil (.ret ⟨.inl rfl, rfl⟩))
set_option maxRecDepth 100000 in
theorem q418 : TieF Tryz.prog 64 [] (q336) (fun r => q245 r) := by
 refine TieF.intro htab 2 [.cell 0 26] Tryz.call64 Tryz.func64 rfl rfl rfl (Nat.le_of_ble_eq_true rfl) fun w0 L => ?_
 refine TieS.seq (.region (.run 1 rfl (.nil (.seq ?_))))
 exact TieS.region (.run 2 rfl (.nil (.ret ⟨.inl rfl, rfl⟩)))
set_option maxRecDepth 100000 in
theorem q262 (e2 : SEngine) : TieF Tryz.prog 22 [q37 e2] (q107 e2) (fun r => .tup [q61 r.1, .t (tI r.2)]) := by
 refine TieF.intro htab 30 [.cell 2 33, .tmp 3] Tryz.call22 Tryz.func22 rfl rfl rfl (Nat.le_of_ble_eq_true rfl) fun w0 L => ?_
 refine TieS.seq (.region (.run 3 rfl (.nil (.seq ?_))))
 refine TieS.seq (.region (.run 1 rfl (.call _ rfl rfl rfl (q91 e2) (fun _ => rfl) fun v => .run 1 rfl ?_)))
 refine TieO.nil (.cond rfl ?_ ?_)
 ·exact TieS.seq (.region (.run 3 rfl (.nil (.ret ⟨.inl rfl, rfl⟩))))
 ·refine TieS.skip (.seq (.region (.run 4 rfl (.call _ rfl rfl rfl (q417 (w64 (2 * (e2.Order.length : Int)))) (fun _ => rfl) fun r2 => ?_))))
  refine TieO.run 6 rfl (.nil (.seq (.seq (.region ?_))))
  refine TieO.run 2 rfl (.nil (.cond rfl ?_ ?_))
  ·exact TieS.seq (.region (.run 3 rfl (.nil (.ret ⟨.inl rfl, rfl⟩))))
  ·refine TieS.skip (.seq (TieX.pre fun v2 hv2 => TieX.pre fun v3 hv3 => TieS.draw 9 [_, _, _, _, _, _, _, _, _] [(1, .ptr 1 0), (2, .ptr 2 0), (3, .t (tI 0)), (4, .ptr 4 0)] [(1, .box [.t (tS Pv.encI e2.Order), .t (tI e2.First)]), (2, .box [.t (.v (.slice none 0 0)), .t (tI 0), .t (tB false), .t (tI 0), .t (tI 0), .t (tI 0), .t (tI 0), .t (tI 0), .t (tI 0), .t (.v (.slice none 0 0)), .t (.v (.slice none 0 0)), .t (.v (.slice none 0 0)), .t (tB false)]), (4, .box [.t (tI r2.1.Now), .t (tS q14 r2.1.Channels)])] mixed (.of rfl rfl) rfl rfl rfl rfl (.cons (.quiet rfl rfl rfl) (.cons (.quiet rfl rfl rfl) (.cons (.callV (q296 e2.Order) hv2 rfl rfl rfl rfl) (.cons (.quiet rfl rfl rfl) (.cons (.quiet rfl rfl rfl) (.cons (.quiet rfl rfl rfl) (.cons (.callV (q418) hv3 rfl rfl rfl rfl) (.cons (.quiet rfl rfl rfl) (.cons (.quiet rfl rfl rfl) (.nil)))))))))) ?_))
   exact TieO.run 2 rfl (.nil (.ret ⟨.inl rfl, rfl⟩))
set_option maxRecDepth 100000 in
theorem q177 (s : SScheduler) (l : List SFire) : TieF Tryz.prog 28 [q61 s, .t (tS q12 l)] (q32 s l) (fun r => .tup [q61 r.1, .t (tI r.2)]) := by
 refine TieF.intro htab 24 [.cell 4 33, .tmp 5] Tryz.call28 Tryz.func28 rfl rfl rfl (Nat.le_of_ble_eq_true rfl) fun w0 L => ?_
 refine TieS.seq (.region (.run 3 rfl (.nil (.seq ?_))))
 refine TieS.seq (.region (.run 1 rfl (.call _ rfl rfl rfl (q234 s) (fun _ => rfl) fun v => .run 2 rfl ?_)))
 refine TieO.bind 6 (fun b2 => ⟨[(1, .t (tS q12 l)), (2, .ptr 2 0), (4, .ptr 4 0), (16, .t (tB b2))], [(2, .box (q11 s)), (4, .box [.t (.v (.slice none 0 0)), .t (tI 0), .t (tB false), .t (tI 0), .t (tI 0), .t (tI 0), .t (tI 0), .t (tI 0), .t (tI 0), .t (.v (.slice none 0 0)), .t (.v (.slice none 0 0)), .t (.v (.slice none 0 0)), .t (tB false)])]⟩) (TieO.split 10 rfl ?_ ?_) fun b2 _ => ?_
 ·exact TieO.run 6 rfl (.nil (.leaf ⟨rfl, .of rfl rfl⟩))
 ·exact TieO.run 3 rfl (.call _ rfl rfl rfl (q235 s.Engine l) (fun _ => rfl) fun v2 => .run 2 rfl (.nil (.leaf ⟨rfl, .of rfl rfl⟩)))
 refine TieO.nil (.cond rfl ?_ ?_)
 ·exact TieS.seq (.region (.run 3 rfl (.nil (.ret ⟨.inl rfl, rfl⟩))))
 ·refine TieS.skip (.seq (.region (.run 1 rfl (.call _ rfl rfl rfl (TieG.toF (q224 s) (fun _ => rfl)) (fun _ => rfl) fun v3 => ?_))))
  refine TieO.run 2 rfl (.nil (.seq (.region (.run 1 rfl ?_))))
  refine TieO.call _ rfl rfl rfl (q193 l) (fun _ => rfl) fun v4 => .run 2 rfl (.nil (.seq (.region ?_)))
  exact TieO.run 3 rfl (.nil (.ret ⟨.inl rfl, rfl⟩))
set_option maxRecDepth 100000 in
theorem q316 : TieF Tryz.prog 39 [] (q203) (fun r => q37 r) := by
 refine TieF.intro htab 3 [.cell 0 24] Tryz.call39 Tryz.func39 rfl rfl rfl (Nat.le_of_ble_eq_true rfl) fun w0 L => ?_
 refine TieS.seq (.region (.run 1 rfl (.nil (.seq ?_))))
 exact TieS.region (.run 3 rfl (.nil (.ret ⟨.inl rfl, rfl⟩)))
set_option maxRecDepth 100000 in
set_option maxHeartbeats 4000000 in
theorem q192 : TieF Tryz.prog 8 [] (q99) (fun r => .t (tB r)) := by
 refine TieF.intro htab 80 [.tmp 0] Tryz.call8 Tryz.func8 rfl rfl rfl (Nat.le_of_ble_eq_true rfl) fun w0 L => ?_
 refine TieS.seq (.region (.run 1 rfl (.nil (.seq ?_))))
 refine TieS.region (.call _ rfl rfl rfl (q316) (fun _ => rfl) fun v => .call _ rfl rfl rfl (q262 v) (fun _ => rfl) fun r2 => .run 6 rfl (.nil ?_))
 refine TieS.seq (.region (.run 3 rfl (.frz 14 rfl (.call _ rfl rfl rfl (q177 (u7_2 (u7_1 (u7_0 r2.1 (⟨r2.1.Engine.Order, r2.1.Engine.First⟩ : SEngine)) (⟨r2.1.Clock.Valid, r2.1.Clock.At, r2.1.Clock.Angle, r2.1.Clock.Period, r2.1.Clock.Space, r2.1.Clock.Ahead⟩ : SClock)) (⟨r2.1.Timer.Now, r2.1.Timer.Channels⟩ : STimer)) ([(⟨1, 640, 2000, 0, 0, 0, 0⟩ : SFire)] : List SFire)) (fun _ => rfl) fun r3 => ?_))))
 refine TieO.run 5 rfl (.nil (.seq (.region (.run 2 rfl ?_))))
 refine TieO.call _ rfl rfl rfl (q166 (u7_2 (u7_1 (u7_0 r3.1 (⟨r3.1.Engine.Order, r3.1.Engine.First⟩ : SEngine)) (⟨r3.1.Clock.Valid, r3.1.Clock.At, r3.1.Clock.Angle, r3.1.Clock.Period, r3.1.Clock.Space, r3.1.Clock.Ahead⟩ : SClock)) (⟨r3.1.Timer.Now, r3.1.Timer.Channels⟩ : STimer)) (⟨true, 1000, 5760, 1000, 384, 384⟩ : SClock)) (fun _ => rfl) fun r4 => .run 7 rfl (.nil (.seq (.seq ?_)))
 refine TieS.region (.run 3 rfl (.selOr (v := (r3.2 != 0)) 3 27 (fun b => ⟨[(1, .ptr 1 0), (5, .t (tI r4.2.2)), (30, .t (tB b))], [(1, .box (q11 r4.1))]⟩) rfl ?_ ?_ ?_))
 ·exact TieO.run 3 rfl (.nil (.leaf ⟨rfl, .of rfl rfl⟩))
 ·exact TieO.run 3 rfl (.nil (.leaf ⟨rfl, .of rfl rfl⟩))
 refine TieO.run 1 rfl (.selOr (v := (r4.2.2 != 0)) 3 31 (fun b => ⟨[(1, .ptr 1 0), (34, .t (tB b))], [(1, .box (q11 r4.1))]⟩) rfl ?_ ?_ ?_)
 ·exact TieO.run 3 rfl (.nil (.leaf ⟨rfl, .of rfl rfl⟩))
 ·exact TieO.run 3 rfl (.nil (.leaf ⟨rfl, .of rfl rfl⟩))
 refine TieO.run 1 rfl (.selOr (v := ((r4.1.Jobs.length : Int) != 2)) 5 35 (fun b => ⟨[(1, .ptr 1 0), (40, .t (tB b))], [(1, .box (q11 r4.1))]⟩) rfl ?_ ?_ ?_)
 ·exact TieO.run 5 rfl (.nil (.leaf ⟨rfl, .of rfl rfl⟩))
 ·exact TieO.run 5 rfl (.nil (.leaf ⟨rfl, .of rfl rfl⟩))
 refine TieO.nil (.cond rfl ?_ ?_)
 ·exact TieS.seq (.region (.run 1 rfl (.nil (.ret ⟨.inl rfl, rfl⟩))))
 ·refine TieS.skip (.seq (.region (.run 2 rfl (.call _ rfl rfl rfl (q166 (u7_2 (u7_1 (u7_0 r4.1 (⟨r4.1.Engine.Order, r4.1.Engine.First⟩ : SEngine)) (⟨r4.1.Clock.Valid, r4.1.Clock.At, r4.1.Clock.Angle, r4.1.Clock.Period, r4.1.Clock.Space, r4.1.Clock.Ahead⟩ : SClock)) (⟨r4.1.Timer.Now, r4.1.Timer.Channels⟩ : STimer)) (⟨true, 2000, 44544, 1000, 384, 384⟩ : SClock)) (fun _ => rfl) fun r5 => ?_))))
  refine TieO.run 6 rfl (.nil (.seq (.region (.run 3 rfl ?_))))
  refine TieO.selAnd (v := ((r5.1.Jobs.length : Int) == 2)) 5 50 (fun b => ⟨[(1, .ptr 1 0), (55, .t (tB b))], [(1, .box (q11 r5.1))]⟩) rfl ?_ ?_ ?_
  ·exact TieO.run 5 rfl (.nil (.leaf ⟨rfl, .of rfl rfl⟩))
  ·exact TieO.run 5 rfl (.nil (.leaf ⟨rfl, .of rfl rfl⟩))
  refine TieO.run 1 rfl (.bind 6 (fun b2 => ⟨[(1, .ptr 1 0), (62, .t (tB b2))], [(1, .box (q11 r5.1))]⟩) (TieO.split 56 rfl ?_ ?_) fun b2 _ => ?_)
  ·exact TieO.run 2 rfl (.index rfl rfl rfl rfl rfl rfl rfl rfl (fun _ => rfl) fun x hx => .run 3 rfl (.nil (.leaf ⟨rfl, .of rfl rfl⟩)))
  ·exact TieO.run 6 rfl (.nil (.leaf ⟨rfl, .of rfl rfl⟩))
  refine TieO.run 1 rfl (.bind 7 (fun b3 => ⟨[(1, .ptr 1 0), (70, .t (tB b3))], [(1, .box (q11 r5.1))]⟩) (TieO.split 63 rfl ?_ ?_) fun b3 _ => ?_)
  ·exact TieO.run 2 rfl (.index rfl rfl rfl rfl rfl rfl rfl rfl (fun _ => rfl) fun x2 hx2 => .run 4 rfl (.nil (.leaf ⟨rfl, .of rfl rfl⟩)))
  ·exact TieO.run 7 rfl (.nil (.leaf ⟨rfl, .of rfl rfl⟩))
  refine TieO.run 1 rfl (.bind 8 (fun b4 => ⟨[(79, .t (tB b4))], []⟩) (TieO.split 71 rfl ?_ ?_) fun b4 _ => ?_)
  ·exact TieO.run 2 rfl (.index rfl rfl rfl rfl rfl rfl rfl rfl (fun _ => rfl) fun x3 hx3 => .run 5 rfl (.nil (.leaf ⟨rfl, .of rfl rfl⟩)))
  ·exact TieO.run 8 rfl (.nil (.leaf ⟨rfl, .of rfl rfl⟩))
  exact TieO.run 1 rfl (.nil (.ret ⟨.inl rfl, rfl⟩))
set_option maxRecDepth 100000 in
theorem q285 (e2 : SEngine) (cylinder : Int) : TieF Tryz.prog 112 [q37 e2, .t (tI cylinder)] (q131 e2 cylinder) (fun r => .t (tI r)) := by
 refine TieF.intro htab 21 [.tmp 4] Tryz.call112 Tryz.func112 rfl rfl rfl (Nat.le_of_ble_eq_true rfl) fun w0 L => ?_
 refine TieS.seq (.region (.run 2 rfl (.nil (.seq ?_))))
 refine TieS.seq (.region (.run 1 rfl (.nil (.block ?_))))
 refine TieS.loop (fun t => ⟨[(1, .t (tI cylinder)), (2, .ptr 2 0), (5, .t (tI t))], [(2, .box [.t (tS Pv.encI e2.Order), .t (tI e2.First)])]⟩) (fun b e σ' => match b with | .inl t => e = .exit 0 ∧ Sub ⟨[], []⟩ σ' | .inr t => e = .ret ∧ retT tab σ' [.tmp 4] = some (((fun r => .t (tI r)) : Int → T) t)) (.of rfl rfl) ?_ ?_
 ·intro i
  refine TieS.seq (.seq (.region (.run 5 rfl (.nil ?_))))
  refine TieS.cond rfl ?_ ?_
  ·refine TieS.skip (.seq (.block (.seq (.region ?_))))
   refine TieO.run 3 rfl (.index rfl rfl rfl rfl rfl rfl rfl rfl (fun _ => rfl) fun x hx => .run 3 rfl (.nil (.cond rfl ?_ ?_)))
   ·exact TieS.seq (.region (.run 2 rfl (.nil (.ret ⟨(fun h => by cases h), rfl, rfl⟩))))
   ·refine TieS.skip (.endb (.region (.run 3 rfl (.nil ?_))))
    exact TieS.leaf ⟨rfl, .of rfl rfl⟩
  ·exact TieS.exitOut rfl ⟨(fun h => by cases h), rfl, .of rfl rfl⟩
 rintro (i2 | r2) e σ' _ hq
 ·obtain ⟨rfl, hs⟩ := hq
  refine TieX.exit rfl (TieX.sub hs ?_)
  exact TieS.seq (.region (.run 1 rfl (.nil (.ret ⟨.inl rfl, rfl⟩))))
 ·obtain ⟨rfl, hs⟩ := hq
  exact TieX.ret ⟨.inl rfl, hs⟩
set_option maxRecDepth 100000 in
theorem q136 (n2 : Int) : TieF Tryz.prog 113 [.t (tI n2)] (q101 n2) (fun r => .t (tB r)) := by
 refine TieF.intro htab 9 [.tmp 2] Tryz.call113 Tryz.func113 rfl rfl rfl (Nat.le_of_ble_eq_true rfl) fun w0 L => ?_
 refine TieS.seq (.region (.run 1 rfl (.nil (.seq ?_))))
 refine TieS.region (.run 3 rfl (.selAnd (v := decide (n2 ≤ 20000)) 3 5 (fun b => ⟨[(8, .t (tB b))], []⟩) rfl ?_ ?_ ?_))
 ·exact TieO.run 3 rfl (.nil (.leaf ⟨rfl, .of rfl rfl⟩))
 ·exact TieO.run 3 rfl (.nil (.leaf ⟨rfl, .of rfl rfl⟩))
 exact TieO.run 1 rfl (.nil (.ret ⟨.inl rfl, rfl⟩))
abbrev x76_0 (f2 : SFire) : List T := [.t (tI f2.Cylinder), .t (tI f2.Spark), .t (tI f2.Dwell), .t (tI f2.End), .t (tI f2.Inject), .t (tI f2.Gap), .t (tI f2.Extra)]
set_option maxRecDepth 100000 in
set_option maxHeartbeats 4000000 in
theorem q292 (e2 : SEngine) (f2 : SFire) : TieF Tryz.prog 76 [q37 e2, A_SFire f2] (q148 e2 f2) (fun r => .t (tB r)) := by
 refine TieF.intro htab 70 [.tmp 4] Tryz.call76 Tryz.func76 rfl rfl rfl (Nat.le_of_ble_eq_true rfl) fun w0 L => ?_
 refine TieS.seq (.region (.run 3 rfl (.nil (.seq ?_))))
 refine TieS.seq (.region (.run 3 rfl (.call _ rfl rfl rfl (q285 e2 f2.Cylinder) (fun _ => rfl) fun v => .run 2 rfl ?_)))
 refine TieO.selOr (v := decide (f2.Spark < (-1280))) 4 10 (fun b => ⟨[(3, .ptr 3 0), (14, .t (tB b))], [(3, .box (x76_0 f2))]⟩) rfl ?_ ?_ ?_
 ·exact TieO.run 4 rfl (.nil (.leaf ⟨rfl, .of rfl rfl⟩))
 ·exact TieO.run 4 rfl (.nil (.leaf ⟨rfl, .of rfl rfl⟩))
 refine TieO.run 1 rfl (.selOr (v := decide (f2.Spark > 3840)) 4 15 (fun b => ⟨[(3, .ptr 3 0), (19, .t (tB b))], [(3, .box (x76_0 f2))]⟩) rfl ?_ ?_ ?_)
 ·exact TieO.run 4 rfl (.nil (.leaf ⟨rfl, .of rfl rfl⟩))
 ·exact TieO.run 4 rfl (.nil (.leaf ⟨rfl, .of rfl rfl⟩))
 refine TieO.run 1 rfl (.selOr (v := decide (f2.Dwell < 500)) 4 20 (fun b => ⟨[(3, .ptr 3 0), (24, .t (tB b))], [(3, .box (x76_0 f2))]⟩) rfl ?_ ?_ ?_)
 ·exact TieO.run 4 rfl (.nil (.leaf ⟨rfl, .of rfl rfl⟩))
 ·exact TieO.run 4 rfl (.nil (.leaf ⟨rfl, .of rfl rfl⟩))
 refine TieO.run 1 rfl (.selOr (v := decide (f2.Dwell > 10000)) 4 25 (fun b => ⟨[(3, .ptr 3 0), (29, .t (tB b))], [(3, .box (x76_0 f2))]⟩) rfl ?_ ?_ ?_)
 ·exact TieO.run 4 rfl (.nil (.leaf ⟨rfl, .of rfl rfl⟩))
 ·exact TieO.run 4 rfl (.nil (.leaf ⟨rfl, .of rfl rfl⟩))
 refine TieO.run 1 rfl (.selOr (v := decide (f2.End < 0)) 4 30 (fun b => ⟨[(3, .ptr 3 0), (34, .t (tB b))], [(3, .box (x76_0 f2))]⟩) rfl ?_ ?_ ?_)
 ·exact TieO.run 4 rfl (.nil (.leaf ⟨rfl, .of rfl rfl⟩))
 ·exact TieO.run 4 rfl (.nil (.leaf ⟨rfl, .of rfl rfl⟩))
 refine TieO.run 1 rfl (.selOr (v := decide (f2.End > 23040)) 4 35 (fun b => ⟨[(3, .ptr 3 0), (39, .t (tB b))], [(3, .box (x76_0 f2))]⟩) rfl ?_ ?_ ?_)
 ·exact TieO.run 4 rfl (.nil (.leaf ⟨rfl, .of rfl rfl⟩))
 ·exact TieO.run 4 rfl (.nil (.leaf ⟨rfl, .of rfl rfl⟩))
 refine TieO.nil (.cond rfl ?_ ?_)
 ·exact TieS.seq (.region (.run 1 rfl (.nil (.ret ⟨.inl rfl, rfl⟩))))
 ·refine TieS.skip (.seq (.seq (.region (.run 4 rfl ?_))))
  refine TieO.bind 5 (fun b2 => ⟨[(3, .ptr 3 0), (48, .t (tB b2))], [(3, .box (x76_0 f2))]⟩) (TieO.split 43 rfl ?_ ?_) fun b2 _ => ?_
  ·exact TieO.run 2 rfl (.call _ rfl rfl rfl (q136 f2.Inject) (fun _ => rfl) fun v2 => .run 2 rfl (.nil (.leaf ⟨rfl, .of rfl rfl⟩)))
  ·exact TieO.run 5 rfl (.nil (.leaf ⟨rfl, .of rfl rfl⟩))
  refine TieO.nil (.cond rfl ?_ ?_)
  ·exact TieS.seq (.region (.run 1 rfl (.nil (.ret ⟨.inl rfl, rfl⟩))))
  ·refine TieS.skip (.seq (.seq (.region (.run 4 rfl ?_))))
   refine TieO.selAnd (v := (f2.Extra == 0)) 4 52 (fun b => ⟨[(3, .ptr 3 0), (56, .t (tB b))], [(3, .box (x76_0 f2))]⟩) rfl ?_ ?_ ?_
   ·exact TieO.run 4 rfl (.nil (.leaf ⟨rfl, .of rfl rfl⟩))
   ·exact TieO.run 4 rfl (.nil (.leaf ⟨rfl, .of rfl rfl⟩))
   refine TieO.nil (.cond rfl ?_ ?_)
   ·exact TieS.seq (.region (.run 1 rfl (.nil (.ret ⟨.inl rfl, rfl⟩))))
   ·refine TieS.skip (.seq (.region (.run 4 rfl (.bind 4 (fun b3 => ⟨[(3, .ptr 3 0), (64, .t (tB b3))], [(3, .box (x76_0 f2))]⟩) (TieO.split 60 rfl ?_ ?_) fun b3 _ => ?_))))
    ·exact TieO.run 2 rfl (.call _ rfl rfl rfl (q136 f2.Gap) (fun _ => rfl) fun v3 => .run 1 rfl (.nil (.leaf ⟨rfl, .of rfl rfl⟩)))
    ·exact TieO.run 4 rfl (.nil (.leaf ⟨rfl, .of rfl rfl⟩))
    refine TieO.run 1 rfl (.bind 4 (fun b4 => ⟨[(69, .t (tB b4))], []⟩) (TieO.split 65 rfl ?_ ?_) fun b4 _ => ?_)
    ·exact TieO.run 2 rfl (.call _ rfl rfl rfl (q136 f2.Extra) (fun _ => rfl) fun v4 => .run 1 rfl (.nil (.leaf ⟨rfl, .of rfl rfl⟩)))
    ·exact TieO.run 4 rfl (.nil (.leaf ⟨rfl, .of rfl rfl⟩))
    exact TieO.run 1 rfl (.nil (.ret ⟨.inl rfl, rfl⟩))
set_option maxRecDepth 100000 in
theorem q274 (e2 : SEngine) (l : List SFire) : TieF Tryz.prog 30 [q37 e2, .t (tS q12 l)] (q122 e2 l) (fun r => .t (tB r)) := by
 refine TieF.intro htab 36 [.tmp 4] Tryz.call30 Tryz.func30 rfl rfl rfl (Nat.le_of_ble_eq_true rfl) fun w0 L => ?_
 refine TieS.seq (.region (.run 2 rfl (.nil (.seq ?_))))
 refine TieS.seq (.region (.run 1 rfl (.nil (.block ?_))))
 refine TieS.loop (fun t => ⟨[(1, .t (tS q12 l)), (2, .ptr 2 0), (5, .t (tI t))], [(2, .box [.t (tS Pv.encI e2.Order), .t (tI e2.First)])]⟩) (fun b e σ' => match b with | .inl t => e = .exit 0 ∧ Sub ⟨[], []⟩ σ' | .inr t => e = .ret ∧ retT tab σ' [.tmp 4] = some (((fun r => .t (tB r)) : Bool → T) t)) (.of rfl rfl) ?_ ?_
 ·intro i
  refine TieS.seq (.seq (.region (.run 4 rfl (.nil ?_))))
  refine TieS.cond rfl ?_ ?_
  ·refine TieS.skip (.seq (.block (.seq (.seq ?_))))
   refine TieX.pre fun x hx => TieX.pre fun v hv => TieS.draw 7 [_, _, _, _, _, _, _] [(1, .t (tS q12 l)), (2, .ptr 2 0), (5, .t (tI i))] [(2, .box [.t (tS Pv.encI e2.Order), .t (tI e2.First)])] mixed (.of rfl rfl) rfl rfl rfl rfl (.cons (.quiet rfl rfl rfl) (.cons (.quiet rfl rfl rfl) (.cons (.quiet rfl rfl rfl) (.cons (.index hx rfl rfl rfl rfl rfl rfl (fun _ => rfl)) (.cons (.quiet rfl rfl rfl) (.cons (.callV (q292 e2 x) hv rfl rfl rfl rfl) (.cons (.quiet rfl rfl rfl) (.nil)))))))) (.nil (.cond rfl ?_ ?_))
   ·exact TieS.seq (.region (.run 1 rfl (.nil (.ret ⟨(fun h => by cases h), rfl, rfl⟩))))
   ·refine TieS.skip (.seq (.region (.run 1 rfl (.nil ?_))))
    refine TieS.block (.loop (fun t => ⟨[(1, .t (tS q12 l)), (2, .ptr 2 0), (5, .t (tI i)), (6, .t (tI t))], [(2, .box [.t (tS Pv.encI e2.Order), .t (tI e2.First)])]⟩) (fun b e σ' => match b with | .inl t => e = .exit 2 ∧ Sub ⟨[(1, .t (tS q12 l)), (2, .ptr 2 0), (5, .t (tI i))], [(2, .box [.t (tS Pv.encI e2.Order), .t (tI e2.First)])]⟩ σ' | .inr t => e = .ret ∧ retT tab σ' [.tmp 4] = some (((fun r => .t (tB r)) : Bool → T) t)) (.of rfl rfl) ?_ ?_)
    ·intro k
     refine TieS.seq (.seq (.region (.run 3 rfl (.nil ?_))))
     refine TieS.cond rfl ?_ ?_
     ·refine TieS.skip (.seq (.block (.seq (TieX.pre fun x2 hx2 => ?_))))
      refine TieS.draw 11 [_, _, _, _, _, _, _, _, _, _, _] [(1, .t (tS q12 l)), (2, .ptr 2 0), (5, .t (tI i)), (6, .t (tI k))] [(2, .box [.t (tS Pv.encI e2.Order), .t (tI e2.First)])] mixed (.of rfl rfl) rfl rfl rfl rfl (.cons (.quiet rfl rfl rfl) (.cons (.quiet rfl rfl rfl) (.cons (.index hx2 rfl rfl rfl rfl rfl rfl (fun _ => rfl)) (.cons (.quiet rfl rfl rfl) (.cons (.quiet rfl rfl rfl) (.cons (.quiet rfl rfl rfl) (.cons (.quiet rfl rfl rfl) (.cons (.index hx rfl rfl rfl rfl rfl rfl (fun _ => rfl)) (.cons (.quiet rfl rfl rfl) (.cons (.quiet rfl rfl rfl) (.cons (.quiet rfl rfl rfl) (.nil)))))))))))) (.nil (.cond rfl ?_ ?_))
      ·exact TieS.seq (.region (.run 1 rfl (.nil (.ret ⟨(fun h => by cases h), rfl, rfl⟩))))
      ·refine TieS.skip (.endb (.region (.run 3 rfl (.nil ?_))))
       exact TieS.leaf ⟨rfl, .of rfl rfl⟩
     ·exact TieS.exitOut rfl ⟨(fun h => by cases h), rfl, .of rfl rfl⟩
    rintro (k2 | r2) e σ' _ hq
    ·obtain ⟨rfl, hs⟩ := hq
     refine TieX.exit rfl (TieX.sub hs ?_)
     exact TieS.endb (.region (.run 3 rfl (.nil (.leaf ⟨rfl, .of rfl rfl⟩))))
    ·obtain ⟨rfl, hs⟩ := hq
     exact TieX.ret ⟨(fun h => by cases h), rfl, hs⟩
  ·exact TieS.exitOut rfl ⟨(fun h => by cases h), rfl, .of rfl rfl⟩
 rintro (i2 | r3) e σ' _ hq
 ·obtain ⟨rfl, hs⟩ := hq
  refine TieX.exit rfl (TieX.sub hs ?_)
  exact TieS.seq (.region (.run 1 rfl (.nil (.ret ⟨.inl rfl, rfl⟩))))
 ·obtain ⟨rfl, hs⟩ := hq
  exact TieX.ret ⟨.inl rfl, hs⟩
end Go.Proofs.YtldhbjpnlehpgaaGreat
namespace Go.Proofs.YtldhbjpnlehpgaaGreat
open Go Go.Pv Go.Proofs
set_option maxRecDepth 100000 in
theorem q288 (w : SWheel) : TieF Tryz.prog 59 [q209 w] (q51 w) (fun r => .t (tB r)) := by
 refine TieF.intro htab 35 [.tmp 2] Tryz.call59 Tryz.func59 rfl rfl rfl (Nat.le_of_ble_eq_true rfl) fun w0 L => ?_
 refine TieS.seq (.region (.run 2 rfl (.nil (.seq ?_))))
 refine TieS.region (.run 4 rfl (.selOr (v := (w.Missing == 2)) 4 6 (fun b => ⟨[(1, .ptr 1 0), (10, .t (tB b))], [(1, .box [.t (tI w.Teeth), .t (tI w.Missing)])]⟩) rfl ?_ ?_ ?_))
 ·exact TieO.run 4 rfl (.nil (.leaf ⟨rfl, .of rfl rfl⟩))
 ·exact TieO.run 4 rfl (.nil (.leaf ⟨rfl, .of rfl rfl⟩))
 refine TieO.run 1 rfl (.selAnd (v := decide (w.Teeth ≥ 12)) 4 11 (fun b => ⟨[(1, .ptr 1 0), (15, .t (tB b))], [(1, .box [.t (tI w.Teeth), .t (tI w.Missing)])]⟩) rfl ?_ ?_ ?_)
 ·exact TieO.run 4 rfl (.nil (.leaf ⟨rfl, .of rfl rfl⟩))
 ·exact TieO.run 4 rfl (.nil (.leaf ⟨rfl, .of rfl rfl⟩))
 refine TieO.run 1 rfl (.selAnd (v := decide (w.Teeth ≤ 120)) 4 16 (fun b => ⟨[(1, .ptr 1 0), (20, .t (tB b))], [(1, .box [.t (tI w.Teeth), .t (tI w.Missing)])]⟩) rfl ?_ ?_ ?_)
 ·exact TieO.run 4 rfl (.nil (.leaf ⟨rfl, .of rfl rfl⟩))
 ·exact TieO.run 4 rfl (.nil (.leaf ⟨rfl, .of rfl rfl⟩))
 refine TieO.run 1 rfl (.selAnd (v := decide (w.Teeth ≥ (w64 (8 * w.Missing)))) 7 21 (fun b => ⟨[(1, .ptr 1 0), (28, .t (tB b))], [(1, .box [.t (tI w.Teeth), .t (tI w.Missing)])]⟩) rfl ?_ ?_ ?_)
 ·exact TieO.run 7 rfl (.nil (.leaf ⟨rfl, .of rfl rfl⟩))
 ·exact TieO.run 7 rfl (.nil (.leaf ⟨rfl, .of rfl rfl⟩))
 refine TieO.run 1 rfl (.bind 5 (fun b2 => ⟨[(34, .t (tB b2))], []⟩) (TieO.split 29 rfl ?_ ?_) fun b2 _ => ?_)
 ·exact TieO.run 2 rfl (.rem rfl rfl rfl rfl rfl rfl fun q => .run 2 rfl (.nil (.leaf ⟨rfl, .of rfl rfl⟩)))
 ·exact TieO.run 5 rfl (.nil (.leaf ⟨rfl, .of rfl rfl⟩))
 exact TieO.run 1 rfl (.nil (.ret ⟨.inl rfl, rfl⟩))
set_option maxRecDepth 100000 in
theorem q222 (e2 : SEngine) (w : SWheel) (period : Int) (v_at : Int) (l : List SFire) : TieF Tryz.prog 15 [q37 e2, q209 w, .t (tI period), .t (tI v_at), .t (tS q12 l)] (q65 e2 w period v_at l) (fun r => .t (tB r)) := by
 refine TieF.intro htab 49 [.tmp 10] Tryz.call15 Tryz.func15 rfl rfl rfl (Nat.le_of_ble_eq_true rfl) fun w0 L => ?_
 refine TieS.seq (.region (.run 3 rfl (.nil (.seq ?_))))
 refine TieS.region (.run 5 rfl (.selAnd (v := decide ((l.length : Int) ≤ 8)) 4 15 (fun b => ⟨[(2, .t (tI period)), (3, .t (tI v_at)), (4, .t (tS q12 l)), (5, .ptr 5 0), (6, .ptr 6 0), (19, .t (tB b))], [(5, .box [.t (tS Pv.encI e2.Order), .t (tI e2.First)]), (6, .box [.t (tI w.Teeth), .t (tI w.Missing)])]⟩) rfl ?_ ?_ ?_))
 ·exact TieO.run 4 rfl (.nil (.leaf ⟨rfl, .of rfl rfl⟩))
 ·exact TieO.run 4 rfl (.nil (.leaf ⟨rfl, .of rfl rfl⟩))
 refine TieO.run 1 rfl (.bind 3 (fun b2 => ⟨[(2, .t (tI period)), (3, .t (tI v_at)), (4, .t (tS q12 l)), (5, .ptr 5 0), (6, .ptr 6 0), (23, .t (tB b2))], [(5, .box [.t (tS Pv.encI e2.Order), .t (tI e2.First)]), (6, .box [.t (tI w.Teeth), .t (tI w.Missing)])]⟩) (TieO.split 20 rfl ?_ ?_) fun b2 _ => ?_)
 ·exact TieO.run 1 rfl (.call _ rfl rfl rfl (q91 e2) (fun _ => rfl) fun v => .run 1 rfl (.nil (.leaf ⟨rfl, .of rfl rfl⟩)))
 ·exact TieO.run 3 rfl (.nil (.leaf ⟨rfl, .of rfl rfl⟩))
 refine TieO.run 1 rfl (.bind 4 (fun b3 => ⟨[(2, .t (tI period)), (3, .t (tI v_at)), (6, .ptr 6 0), (28, .t (tB b3))], [(6, .box [.t (tI w.Teeth), .t (tI w.Missing)])]⟩) (TieO.split 24 rfl ?_ ?_) fun b3 _ => ?_)
 ·exact TieO.run 2 rfl (.call _ rfl rfl rfl (q274 e2 l) (fun _ => rfl) fun v2 => .run 1 rfl (.nil (.leaf ⟨rfl, .of rfl rfl⟩)))
 ·exact TieO.run 4 rfl (.nil (.leaf ⟨rfl, .of rfl rfl⟩))
 refine TieO.run 1 rfl (.bind 3 (fun b4 => ⟨[(2, .t (tI period)), (3, .t (tI v_at)), (32, .t (tB b4))], []⟩) (TieO.split 29 rfl ?_ ?_) fun b4 _ => ?_)
 ·exact TieO.run 1 rfl (.call _ rfl rfl rfl (q288 w) (fun _ => rfl) fun v3 => .run 1 rfl (.nil (.leaf ⟨rfl, .of rfl rfl⟩)))
 ·exact TieO.run 3 rfl (.nil (.leaf ⟨rfl, .of rfl rfl⟩))
 refine TieO.run 1 rfl (.selAnd (v := decide (period ≥ 20)) 3 33 (fun b => ⟨[(2, .t (tI period)), (3, .t (tI v_at)), (36, .t (tB b))], []⟩) rfl ?_ ?_ ?_)
 ·exact TieO.run 3 rfl (.nil (.leaf ⟨rfl, .of rfl rfl⟩))
 ·exact TieO.run 3 rfl (.nil (.leaf ⟨rfl, .of rfl rfl⟩))
 refine TieO.run 1 rfl (.selAnd (v := decide (period ≤ 40000)) 3 37 (fun b => ⟨[(3, .t (tI v_at)), (40, .t (tB b))], []⟩) rfl ?_ ?_ ?_)
 ·exact TieO.run 3 rfl (.nil (.leaf ⟨rfl, .of rfl rfl⟩))
 ·exact TieO.run 3 rfl (.nil (.leaf ⟨rfl, .of rfl rfl⟩))
 refine TieO.run 1 rfl (.selAnd (v := decide (v_at ≥ 0)) 3 41 (fun b => ⟨[(3, .t (tI v_at)), (44, .t (tB b))], []⟩) rfl ?_ ?_ ?_)
 ·exact TieO.run 3 rfl (.nil (.leaf ⟨rfl, .of rfl rfl⟩))
 ·exact TieO.run 3 rfl (.nil (.leaf ⟨rfl, .of rfl rfl⟩))
 refine TieO.run 1 rfl (.selAnd (v := decide (v_at ≤ 1073741824)) 3 45 (fun b => ⟨[(48, .t (tB b))], []⟩) rfl ?_ ?_ ?_)
 ·exact TieO.run 3 rfl (.nil (.leaf ⟨rfl, .of rfl rfl⟩))
 ·exact TieO.run 3 rfl (.nil (.leaf ⟨rfl, .of rfl rfl⟩))
 exact TieO.run 1 rfl (.nil (.ret ⟨.inl rfl, rfl⟩))
set_option maxRecDepth 100000 in
set_option maxHeartbeats 4000000 in
theorem q294 (w : SWheel) (period : Int) (v_at : Int) : TieF Tryz.prog 60 [q209 w, .t (tI period), .t (tI v_at)] (q146 w period v_at) (fun r => .t (tS q36 r)) := by
 refine TieF.intro htab 67 [.tmp 6] Tryz.call60 Tryz.func60 rfl rfl rfl (Nat.le_of_ble_eq_true rfl) fun w0 L => ?_
 refine TieS.seq (.region (.run 2 rfl (.nil (.seq ?_))))
 refine TieS.region (.run 1 rfl (.nil (.seq (.region ?_))))
 refine TieO.run 2 rfl (.quo rfl rfl rfl rfl rfl rfl fun q => .run 1 rfl (.nil (.seq ?_)))
 refine TieS.seq (.region (.run 1 rfl (.nil (.block ?_))))
 refine TieX.nilP 7 2504 26 6 [] rfl rfl rfl rfl rfl (TieS.loop (fun t => ⟨[(1, .t (tI period)), (2, .t (tI v_at)), (3, .ptr 3 0), (7, .own 2504), (8, .t (tI q)), (15, .t (tI t.2))], [(3, .box [.t (tI w.Teeth), .t (tI w.Missing)]), (2504, .rs 26 6 t.1 q36)]⟩) (fun b e σ' => match b with | .inl t => e = .exit 0 ∧ Sub ⟨[(7, .own 2504)], [(2504, .rs 26 6 t.1 q36)]⟩ σ' | .inr t => False) (.of rfl rfl) ?_ ?_)
 ·intro s
  refine TieS.seq (.region (.run 1 rfl (.nil (.seq ?_))))
  refine TieS.cond rfl ?_ ?_
  ·refine TieS.skip (.seq (.block (.seq (.region ?_))))
   refine TieO.run 2 rfl (.nil (.seq (.region (.run 6 rfl ?_))))
   refine TieO.nil (.block (.loop (fun p => ⟨[(1, .t (tI period)), (2, .t (tI v_at)), (3, .ptr 3 0), (7, .own 2504), (8, .t (tI q)), (9, .t (tI s.2)), (15, .t (tI s.2)), (22, .t (tI (w64 (w.Teeth - w.Missing)))), (23, .t (tI p.1))], [(3, .box [.t (tI w.Teeth), .t (tI w.Missing)]), (2504, .rs 26 6 p.2 q36)]⟩) (fun b e σ' => match b with | .inl t => e = .exit 2 ∧ Sub ⟨[(1, .t (tI period)), (2, .t (tI v_at)), (3, .ptr 3 0), (7, .own 2504), (8, .t (tI q)), (15, .t (tI s.2))], [(3, .box [.t (tI w.Teeth), .t (tI w.Missing)]), (2504, .rs 26 6 t q36)]⟩ σ' | .inr t => False) (.of rfl rfl) ?_ ?_))
   ·rintro ⟨i, f2⟩
    refine TieS.seq (.region (.run 1 rfl (.nil (.seq ?_))))
    refine TieS.cond rfl ?_ ?_
    ·refine TieS.skip (.seq (TieX.sub (σ' := ⟨[(1, .t (tI period)), (2, .t (tI v_at)), (3, .ptr 3 0), (7, .own 2504), (8, .t (tI q)), (9, .t (tI s.2)), (15, .t (tI s.2)), (22, .t (tI (w64 (w.Teeth - w.Missing)))), (23, .t (tI i))], [(3, .box [.t (tI w.Teeth), .t (tI w.Missing)]), (2504, .rs 26 6 f2 q36)]⟩) (.of rfl rfl) (TieS.bind (Q₁ := fun f e σ' => match f with | .next t => e = .normal ∧ Sub ⟨[(1, .t (tI period)), (2, .t (tI v_at)), (3, .ptr 3 0), (7, .own 2504), (8, .t (tI q)), (9, .t (tI s.2)), (15, .t (tI s.2)), (22, .t (tI (w64 (w.Teeth - w.Missing)))), (23, .t (tI i))], [(3, .box [.t (tI w.Teeth), .t (tI w.Missing)]), (2504, .rs 26 6 t q36)]⟩ σ' | .brk t => e = .exit 2 ∧ Sub ⟨[(1, .t (tI period)), (2, .t (tI v_at)), (3, .ptr 3 0), (7, .own 2504), (8, .t (tI q)), (15, .t (tI s.2))], [(3, .box [.t (tI w.Teeth), .t (tI w.Missing)]), (2504, .rs 26 6 t q36)]⟩ σ' | .ret r => False) ?_ ?_)))
     ·refine TieS.block (.seq (.region (.run 2 rfl (.nil ?_))))
      refine TieS.seq (.region (.run 22 rfl (.nil (.seq ?_))))
      refine TieS.seq (.region (.run 8 rfl (.nil (.cond rfl ?_ ?_))))
      ·refine TieS.region (.run 7 rfl (.nil (.region (.run 3 rfl ?_))))
       exact TieO.appendY (id := 2504) (l := f2) (r := ([(⟨true, w64 (v_at + (w64 ((w64 ((w64 (s.2 * w.Teeth)) + i)) * period))), w64 ((w64 (s.2 * 23040)) + (w64 (i * q))), period, q, w64 ((w64 (w.Missing + 1)) * q)⟩ : SClock)] : List SClock)) (tm' := [(1, .t (tI period)), (2, .t (tI v_at)), (3, .ptr 3 0), (8, .t (tI q)), (9, .t (tI s.2)), (10, .t (tI i)), (11, .ptr 11 0), (15, .t (tI s.2)), (22, .t (tI (w64 (w.Teeth - w.Missing)))), (23, .t (tI i)), (25, .t (tI i)), (26, .t (tI v_at)), (27, .t (tI s.2)), (28, .ptr 3 0), (29, .t (tI w.Teeth)), (30, .t (tI (w64 (s.2 * w.Teeth)))), (31, .t (tI i)), (32, .t (tI (w64 ((w64 (s.2 * w.Teeth)) + i)))), (33, .t (tI period)), (34, .t (tI (w64 ((w64 ((w64 (s.2 * w.Teeth)) + i)) * period)))), (35, .t (tI (w64 (v_at + (w64 ((w64 ((w64 (s.2 * w.Teeth)) + i)) * period)))))), (36, .t (tI s.2)), (37, .t (tI (w64 (s.2 * 23040)))), (38, .t (tI i)), (39, .t (tI q)), (40, .t (tI (w64 (i * q)))), (41, .t (tI (w64 ((w64 (s.2 * 23040)) + (w64 (i * q)))))), (42, .t (tI period)), (43, .t (tI q)), (44, .t (tI q)), (45, .agg [.t (tB true), .t (tI (w64 (v_at + (w64 ((w64 ((w64 (s.2 * w.Teeth)) + i)) * period))))), .t (tI (w64 ((w64 (s.2 * 23040)) + (w64 (i * q))))), .t (tI period), .t (tI q), .t (tI q)]), (46, .t (tI i)), (47, .ptr 3 0), (48, .t (tI w.Teeth)), (49, .ptr 3 1), (50, .t (tI w.Missing)), (51, .t (tI (w64 (w.Teeth - w.Missing)))), (52, .t (tI (w64 ((w64 (w.Teeth - w.Missing)) - 1)))), (53, .t (tB (i == (w64 ((w64 (w.Teeth - w.Missing)) - 1))))), (54, .ptr 3 1), (55, .t (tI w.Missing)), (56, .t (tI (w64 (w.Missing + 1)))), (57, .t (tI q)), (58, .t (tI (w64 ((w64 (w.Missing + 1)) * q)))), (59, .ptr 11 5), (61, .agg [.t (tB true), .t (tI (w64 (v_at + (w64 ((w64 ((w64 (s.2 * w.Teeth)) + i)) * period))))), .t (tI (w64 ((w64 (s.2 * 23040)) + (w64 (i * q))))), .t (tI period), .t (tI q), .t (tI (w64 ((w64 (w.Missing + 1)) * q)))]), (62, .own 62)]) (hp' := [(3, .box [.t (tI w.Teeth), .t (tI w.Missing)]), (11, .box [.t (tB true), .t (tI (w64 (v_at + (w64 ((w64 ((w64 (s.2 * w.Teeth)) + i)) * period))))), .t (tI (w64 ((w64 (s.2 * 23040)) + (w64 (i * q))))), .t (tI period), .t (tI q), .t (tI (w64 ((w64 (w.Missing + 1)) * q)))]), (62, .rs 26 6 ([(⟨true, w64 (v_at + (w64 ((w64 ((w64 (s.2 * w.Teeth)) + i)) * period))), w64 ((w64 (s.2 * 23040)) + (w64 (i * q))), period, q, w64 ((w64 (w.Missing + 1)) * q)⟩ : SClock)] : List SClock) q36)]) rfl rfl rfl rfl rfl rfl rfl (fun _ => rfl) (fun _ => rfl) (.inl ⟨rfl, rfl⟩) (.inr ⟨_, rfl, rfl⟩) (.of rfl rfl) rfl rfl rfl fun l => .run 1 rfl (.nil (.endb (.leaf ⟨rfl, .of rfl rfl⟩)))
      ·refine TieS.skip (.region (.run 3 rfl (.appendY (id := 2504) (l := f2) (r := ([(⟨true, w64 (v_at + (w64 ((w64 ((w64 (s.2 * w.Teeth)) + i)) * period))), w64 ((w64 (s.2 * 23040)) + (w64 (i * q))), period, q, q⟩ : SClock)] : List SClock)) (tm' := [(1, .t (tI period)), (2, .t (tI v_at)), (3, .ptr 3 0), (8, .t (tI q)), (9, .t (tI s.2)), (10, .t (tI i)), (11, .ptr 11 0), (15, .t (tI s.2)), (22, .t (tI (w64 (w.Teeth - w.Missing)))), (23, .t (tI i)), (25, .t (tI i)), (26, .t (tI v_at)), (27, .t (tI s.2)), (28, .ptr 3 0), (29, .t (tI w.Teeth)), (30, .t (tI (w64 (s.2 * w.Teeth)))), (31, .t (tI i)), (32, .t (tI (w64 ((w64 (s.2 * w.Teeth)) + i)))), (33, .t (tI period)), (34, .t (tI (w64 ((w64 ((w64 (s.2 * w.Teeth)) + i)) * period)))), (35, .t (tI (w64 (v_at + (w64 ((w64 ((w64 (s.2 * w.Teeth)) + i)) * period)))))), (36, .t (tI s.2)), (37, .t (tI (w64 (s.2 * 23040)))), (38, .t (tI i)), (39, .t (tI q)), (40, .t (tI (w64 (i * q)))), (41, .t (tI (w64 ((w64 (s.2 * 23040)) + (w64 (i * q)))))), (42, .t (tI period)), (43, .t (tI q)), (44, .t (tI q)), (45, .agg [.t (tB true), .t (tI (w64 (v_at + (w64 ((w64 ((w64 (s.2 * w.Teeth)) + i)) * period))))), .t (tI (w64 ((w64 (s.2 * 23040)) + (w64 (i * q))))), .t (tI period), .t (tI q), .t (tI q)]), (46, .t (tI i)), (47, .ptr 3 0), (48, .t (tI w.Teeth)), (49, .ptr 3 1), (50, .t (tI w.Missing)), (51, .t (tI (w64 (w.Teeth - w.Missing)))), (52, .t (tI (w64 ((w64 (w.Teeth - w.Missing)) - 1)))), (53, .t (tB (i == (w64 ((w64 (w.Teeth - w.Missing)) - 1))))), (61, .agg [.t (tB true), .t (tI (w64 (v_at + (w64 ((w64 ((w64 (s.2 * w.Teeth)) + i)) * period))))), .t (tI (w64 ((w64 (s.2 * 23040)) + (w64 (i * q))))), .t (tI period), .t (tI q), .t (tI q)]), (62, .own 62)]) (hp' := [(3, .box [.t (tI w.Teeth), .t (tI w.Missing)]), (11, .box [.t (tB true), .t (tI (w64 (v_at + (w64 ((w64 ((w64 (s.2 * w.Teeth)) + i)) * period))))), .t (tI (w64 ((w64 (s.2 * 23040)) + (w64 (i * q))))), .t (tI period), .t (tI q), .t (tI q)]), (62, .rs 26 6 ([(⟨true, w64 (v_at + (w64 ((w64 ((w64 (s.2 * w.Teeth)) + i)) * period))), w64 ((w64 (s.2 * 23040)) + (w64 (i * q))), period, q, q⟩ : SClock)] : List SClock) q36)]) rfl rfl rfl rfl rfl rfl rfl (fun _ => rfl) (fun _ => rfl) (.inl ⟨rfl, rfl⟩) (.inr ⟨_, rfl, rfl⟩) (.of rfl rfl) rfl rfl rfl fun l2 => .run 1 rfl ?_)))
       exact TieO.nil (.endb (.leaf ⟨rfl, .of rfl rfl⟩))
     rintro (t | t | r) e σ' _ hq
     ·obtain ⟨rfl, hs⟩ := hq
      exact TieX.sub hs (TieS.region (.run 2 rfl (.nil (.leaf ⟨rfl, .of rfl rfl⟩))))
     ·obtain ⟨rfl, hs⟩ := hq
      exact TieX.exitOut rfl ⟨(fun h => by cases h), rfl, hs⟩
     ·exact hq.elim
    ·exact TieS.exitOut rfl ⟨(fun h => by cases h), rfl, .of rfl rfl⟩
   rintro (f3 | r) e σ' _ hq
   ·obtain ⟨rfl, hs⟩ := hq
    refine TieX.exit rfl (TieX.sub hs ?_)
    exact TieS.endb (.region (.run 2 rfl (.nil (.leaf ⟨rfl, .of rfl rfl⟩))))
   ·exact hq.elim
  ·exact TieS.exitOut rfl ⟨(fun h => by cases h), rfl, .of rfl rfl⟩
 rintro (s2 | r) e σ' _ hq
 ·obtain ⟨rfl, hs⟩ := hq
  refine TieX.exit rfl (TieX.sub hs ?_)
  exact TieS.seq (.region (.run 2 rfl (.nil (.ret ⟨.inl rfl, rfl⟩))))
 ·exact hq.elim
set_option maxRecDepth 100000 in
set_option maxHeartbeats 4000000 in
theorem q225 (e2 : SEngine) (w : SWheel) (period : Int) (v_at : Int) (cycles : Int) (l : List SFire) : TieF Tryz.prog 16 [q37 e2, q209 w, .t (tI period), .t (tI v_at), .t (tI cycles), .t (tS q12 l)] (q118 e2 w period v_at cycles l) (fun r => .tup [.t (tS q13 r.1), .t (tB r.2)]) := by
 refine TieF.intro htab 87 [.tmp 12, .tmp 13] Tryz.call16 Tryz.func16 rfl rfl rfl (Nat.le_of_ble_eq_true rfl) fun w0 L => ?_
 refine TieS.seq (.region (.run 4 rfl (.nil (.seq ?_))))
 refine TieS.region (.run 1 rfl (.call _ rfl rfl rfl (q262 e2) (fun _ => rfl) fun r2 => .run 6 rfl (.nil ?_)))
 refine TieS.seq (.seq (.region (.run 2 rfl (.nil ?_))))
 refine TieS.cond rfl ?_ ?_
 ·exact TieS.seq (.region (.run 2 rfl (.nil (.ret ⟨.inl rfl, rfl⟩))))
 ·refine TieS.skip (.seq (.seq (.region (.run 2 rfl ?_))))
  refine TieO.call _ rfl rfl rfl (q177 (u7_2 (u7_1 (u7_0 r2.1 (⟨r2.1.Engine.Order, r2.1.Engine.First⟩ : SEngine)) (⟨r2.1.Clock.Valid, r2.1.Clock.At, r2.1.Clock.Angle, r2.1.Clock.Period, r2.1.Clock.Space, r2.1.Clock.Ahead⟩ : SClock)) (⟨r2.1.Timer.Now, r2.1.Timer.Channels⟩ : STimer)) l) (fun _ => rfl) fun r3 => .run 5 rfl (.nil (.seq (.region ?_)))
  refine TieO.run 2 rfl (.nil (.cond rfl ?_ ?_))
  ·exact TieS.seq (.region (.run 2 rfl (.nil (.ret ⟨.inl rfl, rfl⟩))))
  ·refine TieS.skip (.seq (.region (.run 1 rfl (.nil ?_))))
   refine TieS.seq (.seq (.region (.run 3 rfl (.nil ?_))))
   refine TieS.block (TieX.nilP 16 2632 52 3 [] rfl rfl rfl rfl rfl (TieS.loop (fun p => ⟨[(2, .t (tI period)), (3, .t (tI v_at)), (4, .t (tI cycles)), (7, .ptr 7 0), (14, .ptr 14 0), (16, .own 2632), (37, .t (tI (w64 (cycles + 2)))), (38, .t (tI p.1))], [(7, .box [.t (tI w.Teeth), .t (tI w.Missing)]), (14, .box (q11 p.2.2)), (2632, .rs 52 3 p.2.1 q13)]⟩) (fun b e σ' => match b with | .inl t => e = .exit 0 ∧ Sub ⟨[(14, .ptr 14 0), (16, .own 2632)], [(14, .box (q11 t.2)), (2632, .rs 52 3 t.1 q13)]⟩ σ' | .inr t => e = .ret ∧ retT tab σ' [.tmp 12, .tmp 13] = some (((fun r => .tup [.t (tS q13 r.1), .t (tB r.2)]) : (List SSwitch × Bool) → T) t)) (.of rfl rfl) ?_ ?_))
   ·rintro ⟨i, s⟩
    refine TieS.seq (.region (.run 1 rfl (.nil (.seq ?_))))
    refine TieS.cond rfl ?_ ?_
    ·refine TieS.skip (.seq (TieX.sub (σ' := ⟨[(2, .t (tI period)), (3, .t (tI v_at)), (4, .t (tI cycles)), (7, .ptr 7 0), (14, .ptr 14 0), (16, .own 2632), (37, .t (tI (w64 (cycles + 2)))), (38, .t (tI i))], [(7, .box [.t (tI w.Teeth), .t (tI w.Missing)]), (14, .box (q11 s.2)), (2632, .rs 52 3 s.1 q13)]⟩) (.of rfl rfl) (TieS.bind (Q₁ := fun f e σ' => match f with | .next t => e = .normal ∧ Sub ⟨[(2, .t (tI period)), (3, .t (tI v_at)), (4, .t (tI cycles)), (7, .ptr 7 0), (14, .ptr 14 0), (16, .own 2632), (37, .t (tI (w64 (cycles + 2)))), (38, .t (tI i))], [(7, .box [.t (tI w.Teeth), .t (tI w.Missing)]), (14, .box (q11 t.2)), (2632, .rs 52 3 t.1 q13)]⟩ σ' | .brk t => e = .exit 0 ∧ Sub ⟨[(14, .ptr 14 0), (16, .own 2632)], [(14, .box (q11 t.2)), (2632, .rs 52 3 t.1 q13)]⟩ σ' | .ret t => e = .ret ∧ retT tab σ' [.tmp 12, .tmp 13] = some (((fun r => .tup [.t (tS q13 r.1), .t (tB r.2)]) : (List SSwitch × Bool) → T) t)) ?_ ?_)))
     ·refine TieS.block (.seq (.region (.run 2 rfl (.nil ?_))))
      refine TieS.seq (.seq (.region (.run 3 rfl (.nil ?_))))
      refine TieS.bind (Q₁ := fun t e σ' => match t with | .inl t => e = .normal ∧ Sub ⟨[(2, .t (tI period)), (3, .t (tI v_at)), (4, .t (tI cycles)), (7, .ptr 7 0), (14, .ptr 14 0), (16, .own 2632), (17, .t (tI i)), (37, .t (tI (w64 (cycles + 2)))), (38, .t (tI i))], [(7, .box [.t (tI w.Teeth), .t (tI w.Missing)]), (14, .box (q11 t)), (2632, .rs 52 3 s.1 q13)]⟩ σ' | .inr t => e = .ret ∧ retT tab σ' [.tmp 12, .tmp 13] = some (((fun r => .tup [.t (tS q13 r.1), .t (tB r.2)]) : (List SSwitch × Bool) → T) t)) ?_ ?_
      ·refine TieS.cond rfl ?_ ?_
       ·refine TieS.seq (.region (.run 1 rfl (.call _ rfl rfl rfl (q177 (u7_2 (u7_1 (u7_0 s.2 (⟨s.2.Engine.Order, s.2.Engine.First⟩ : SEngine)) (⟨s.2.Clock.Valid, s.2.Clock.At, s.2.Clock.Angle, s.2.Clock.Period, s.2.Clock.Space, s.2.Clock.Ahead⟩ : SClock)) (⟨s.2.Timer.Now, s.2.Timer.Channels⟩ : STimer)) ([] : List SFire)) (fun _ => rfl) fun r4 => .run 5 rfl ?_)))
        refine TieO.nil (.seq (.region (.run 2 rfl (.nil ?_))))
        refine TieS.cond rfl ?_ ?_
        ·exact TieS.seq (.region (.run 2 rfl (.nil (.ret ⟨rfl, rfl⟩))))
        ·exact TieS.skip (.leaf ⟨rfl, .of rfl rfl⟩)
       ·exact TieS.skip (.leaf ⟨rfl, .of rfl rfl⟩)
      rintro (f2 | r7) e σ' _ hq
      ·obtain ⟨rfl, hs⟩ := hq
       refine TieX.sub hs (TieS.seq (.region (.run 11 rfl (.call _ rfl rfl rfl (q294 w period (w64 (v_at + (w64 ((w64 ((w64 (2 * i)) * w.Teeth)) * period))))) (fun _ => rfl) fun v => ?_))))
       refine TieO.run 2 rfl (.nil (.block (.loop (fun p => ⟨[(2, .t (tI period)), (3, .t (tI v_at)), (4, .t (tI cycles)), (7, .ptr 7 0), (14, .ptr 14 0), (16, .own 2632), (37, .t (tI (w64 (cycles + 2)))), (38, .t (tI i)), (62, .t (tS q36 v)), (63, .t (tI (v.length : Int))), (64, .t (tI p.1))], [(7, .box [.t (tI w.Teeth), .t (tI w.Missing)]), (14, .box (q11 p.2.1)), (2632, .rs 52 3 p.2.2 q13)]⟩) (fun b e σ' => match b with | .inl t => e = .exit 2 ∧ Sub ⟨[(2, .t (tI period)), (3, .t (tI v_at)), (4, .t (tI cycles)), (7, .ptr 7 0), (14, .ptr 14 0), (16, .own 2632), (37, .t (tI (w64 (cycles + 2)))), (38, .t (tI i))], [(7, .box [.t (tI w.Teeth), .t (tI w.Missing)]), (14, .box (q11 t.1)), (2632, .rs 52 3 t.2 q13)]⟩ σ' | .inr t => e = .ret ∧ retT tab σ' [.tmp 12, .tmp 13] = some (((fun r => .tup [.t (tS q13 r.1), .t (tB r.2)]) : (List SSwitch × Bool) → T) t)) (.of rfl rfl) ?_ ?_)))
       ·rintro ⟨i2, s2⟩
        refine TieS.seq (.region (.run 1 rfl (.nil (.seq ?_))))
        refine TieS.cond rfl ?_ ?_
        ·refine TieS.skip (.seq (TieX.pre fun x hx => TieX.sub (σ' := ⟨[(2, .t (tI period)), (3, .t (tI v_at)), (4, .t (tI cycles)), (7, .ptr 7 0), (14, .ptr 14 0), (16, .own 2632), (37, .t (tI (w64 (cycles + 2)))), (38, .t (tI i)), (62, .t (tS q36 v)), (63, .t (tI (v.length : Int))), (64, .t (tI i2))], [(7, .box [.t (tI w.Teeth), .t (tI w.Missing)]), (14, .box (q11 s2.1)), (2632, .rs 52 3 s2.2 q13)]⟩) (.of rfl rfl) (TieS.bind (Q₁ := fun f e σ' => match f with | .next t => e = .normal ∧ Sub ⟨[(2, .t (tI period)), (3, .t (tI v_at)), (4, .t (tI cycles)), (7, .ptr 7 0), (14, .ptr 14 0), (16, .own 2632), (37, .t (tI (w64 (cycles + 2)))), (38, .t (tI i)), (62, .t (tS q36 v)), (63, .t (tI (v.length : Int))), (64, .t (tI i2))], [(7, .box [.t (tI w.Teeth), .t (tI w.Missing)]), (14, .box (q11 t.1)), (2632, .rs 52 3 t.2 q13)]⟩ σ' | .brk t => e = .exit 2 ∧ Sub ⟨[(2, .t (tI period)), (3, .t (tI v_at)), (4, .t (tI cycles)), (7, .ptr 7 0), (14, .ptr 14 0), (16, .own 2632), (37, .t (tI (w64 (cycles + 2)))), (38, .t (tI i))], [(7, .box [.t (tI w.Teeth), .t (tI w.Missing)]), (14, .box (q11 t.1)), (2632, .rs 52 3 t.2 q13)]⟩ σ' | .ret t => e = .ret ∧ retT tab σ' [.tmp 12, .tmp 13] = some (((fun r => .tup [.t (tS q13 r.1), .t (tB r.2)]) : (List SSwitch × Bool) → T) t)) ?_ ?_)))
         ·refine TieS.block (.seq (.region (.indexH hx rfl rfl rfl rfl rfl rfl rfl rfl (fun _ => rfl) (.run 3 rfl ?_))))
          refine TieO.nil (.seq (.region (.run 1 rfl (.nil ?_))))
          refine TieS.seq (.seq (.region (.run 2 rfl (.call _ rfl rfl rfl (q166 (u7_2 (u7_1 (u7_0 s2.1 (⟨s2.1.Engine.Order, s2.1.Engine.First⟩ : SEngine)) (⟨s2.1.Clock.Valid, s2.1.Clock.At, s2.1.Clock.Angle, s2.1.Clock.Period, s2.1.Clock.Space, s2.1.Clock.Ahead⟩ : SClock)) (⟨s2.1.Timer.Now, s2.1.Timer.Channels⟩ : STimer)) x) (fun _ => rfl) fun r5 => ?_))))
          refine TieO.run 7 rfl (.nil (.seq (.region (.run 2 rfl ?_))))
          refine TieO.nil (.cond rfl ?_ ?_)
          ·exact TieS.seq (.region (.run 2 rfl (.nil (.ret ⟨rfl, rfl⟩))))
          ·refine TieS.skip (.region (.run 2 rfl (.appendY (id := 2632) (e' := 0) (l := s2.2) (r := r5.2.1) (tm' := [(2, .t (tI period)), (3, .t (tI v_at)), (4, .t (tI cycles)), (7, .ptr 7 0), (14, .ptr 14 0), (15, .t (tI r5.2.2)), (19, .ptr 19 0), (20, .t (tS q13 r5.2.1)), (37, .t (tI (w64 (cycles + 2)))), (38, .t (tI i)), (62, .t (tS q36 v)), (63, .t (tI (v.length : Int))), (64, .t (tI i2)), (66, .el (q36 x)), (67, .agg [.t (tB x.Valid), .t (tI x.At), .t (tI x.Angle), .t (tI x.Period), .t (tI x.Space), .t (tI x.Ahead)]), (68, .tup [.agg [.t (tS Pv.encI r5.1.Engine.Order), .t (tI r5.1.Engine.First), .t (tB r5.1.Clock.Valid), .t (tI r5.1.Clock.At), .t (tI r5.1.Clock.Angle), .t (tI r5.1.Clock.Period), .t (tI r5.1.Clock.Space), .t (tI r5.1.Clock.Ahead), .t (tI r5.1.Timer.Now), .t (tS q14 r5.1.Timer.Channels), .t (tS q12 r5.1.Next), .t (tS q15 r5.1.Jobs), .t (tB r5.1.Cut)], .t (tS q13 r5.2.1), .t (tI r5.2.2)]), (69, .agg [.t (tS Pv.encI s2.1.Engine.Order), .t (tI s2.1.Engine.First), .t (tB s2.1.Clock.Valid), .t (tI s2.1.Clock.At), .t (tI s2.1.Clock.Angle), .t (tI s2.1.Clock.Period), .t (tI s2.1.Clock.Space), .t (tI s2.1.Clock.Ahead), .t (tI s2.1.Timer.Now), .t (tS q14 s2.1.Timer.Channels), .t (tS q12 s2.1.Next), .t (tS q15 s2.1.Jobs), .t (tB s2.1.Cut)]), (70, .agg [.t (tB x.Valid), .t (tI x.At), .t (tI x.Angle), .t (tI x.Period), .t (tI x.Space), .t (tI x.Ahead)]), (71, .tup [.agg [.t (tS Pv.encI r5.1.Engine.Order), .t (tI r5.1.Engine.First), .t (tB r5.1.Clock.Valid), .t (tI r5.1.Clock.At), .t (tI r5.1.Clock.Angle), .t (tI r5.1.Clock.Period), .t (tI r5.1.Clock.Space), .t (tI r5.1.Clock.Ahead), .t (tI r5.1.Timer.Now), .t (tS q14 r5.1.Timer.Channels), .t (tS q12 r5.1.Next), .t (tS q15 r5.1.Jobs), .t (tB r5.1.Cut)], .t (tS q13 r5.2.1), .t (tI r5.2.2)]), (72, .agg [.t (tS Pv.encI r5.1.Engine.Order), .t (tI r5.1.Engine.First), .t (tB r5.1.Clock.Valid), .t (tI r5.1.Clock.At), .t (tI r5.1.Clock.Angle), .t (tI r5.1.Clock.Period), .t (tI r5.1.Clock.Space), .t (tI r5.1.Clock.Ahead), .t (tI r5.1.Timer.Now), .t (tS q14 r5.1.Timer.Channels), .t (tS q12 r5.1.Next), .t (tS q15 r5.1.Jobs), .t (tB r5.1.Cut)]), (73, .t (tS q13 r5.2.1)), (74, .t (tI r5.2.2)), (75, .t (tI r5.2.2)), (76, .t (tB (r5.2.2 != 0))), (78, .t (tS q13 r5.2.1))]) (hp' := [(7, .box [.t (tI w.Teeth), .t (tI w.Missing)]), (14, .box (q11 r5.1)), (19, .box [.t (tB x.Valid), .t (tI x.At), .t (tI x.Angle), .t (tI x.Period), .t (tI x.Space), .t (tI x.Ahead)])]) rfl rfl rfl rfl rfl rfl rfl (fun _ => rfl) (fun _ => rfl) (.inl ⟨rfl, rfl⟩) (.inl rfl) (.of rfl rfl) rfl rfl rfl fun l2 => .run 1 rfl ?_)))
           exact TieO.nil (.endb (.leaf ⟨rfl, .of rfl rfl⟩))
         rintro (t | t | t) e σ' _ hq
         ·obtain ⟨rfl, hs⟩ := hq
          exact TieX.sub hs (TieS.region (.run 2 rfl (.nil (.leaf ⟨rfl, .of rfl rfl⟩))))
         ·obtain ⟨rfl, hs⟩ := hq
          exact TieX.exitOut rfl ⟨(fun h => by cases h), rfl, hs⟩
         ·obtain ⟨rfl, hs⟩ := hq
          exact TieX.ret ⟨(fun h => by cases h), rfl, hs⟩
        ·exact TieS.exitOut rfl ⟨(fun h => by cases h), rfl, .of rfl rfl⟩
       rintro (s3 | r6) e σ' _ hq
       ·obtain ⟨rfl, hs⟩ := hq
        refine TieX.exit rfl (TieX.sub hs ?_)
        exact TieS.endb (.leaf ⟨rfl, .of rfl rfl⟩)
       ·obtain ⟨rfl, hs⟩ := hq
        exact TieX.ret ⟨rfl, hs⟩
      ·obtain ⟨rfl, hs⟩ := hq
       exact TieX.ret ⟨rfl, hs⟩
     rintro (t | t | t) e σ' _ hq
     ·obtain ⟨rfl, hs⟩ := hq
      exact TieX.sub hs (TieS.region (.run 2 rfl (.nil (.leaf ⟨rfl, .of rfl rfl⟩))))
     ·obtain ⟨rfl, hs⟩ := hq
      exact TieX.exitOut rfl ⟨(fun h => by cases h), rfl, hs⟩
     ·obtain ⟨rfl, hs⟩ := hq
      exact TieX.ret ⟨(fun h => by cases h), rfl, hs⟩
    ·exact TieS.exitOut rfl ⟨(fun h => by cases h), rfl, .of rfl rfl⟩
   rintro (s4 | r8) e σ' _ hq
   ·obtain ⟨rfl, hs⟩ := hq
    refine TieX.exit rfl (TieX.sub hs ?_)
    exact TieS.seq (.draw 7 [_, _, _, _, _, _, _] [(14, .ptr 14 0), (16, .own 2632)] [(14, .box (q11 s4.2)), (2632, .rs 52 3 s4.1 q13)] mixed (.of rfl rfl) rfl rfl rfl rfl (.cons (.quiet rfl rfl rfl) (.cons (.quiet rfl rfl rfl) (.cons (.quiet rfl rfl rfl) (.cons (.quiet rfl rfl rfl) (.cons (.quiet rfl rfl rfl) (.cons (.quiet rfl rfl rfl) (.cons (.quiet rfl rfl rfl) (.nil)))))))) (.nil (.ret ⟨.inl rfl, rfl⟩)))
   ·obtain ⟨rfl, hs⟩ := hq
    exact TieX.ret ⟨.inl rfl, hs⟩
set_option maxRecDepth 100000 in
theorem q207 (f2 : SFire) (c : Int) : TieF Tryz.prog 18 [A_SFire f2, .el (Pv.encI c)] (q90 f2 c) (fun r => .t (tB r)) := by
 refine TieF.intro htab 8 [.tmp 3] Tryz.call18 Tryz.func18 rfl rfl rfl (Nat.le_of_ble_eq_true rfl) fun w0 L => ?_
 refine TieS.seq (.region (.run 2 rfl (.nil (.seq ?_))))
 exact TieS.region (.run 5 rfl (.nil (.ret ⟨.inl rfl, rfl⟩)))
set_option maxRecDepth 100000 in
set_option maxHeartbeats 4000000 in
theorem q376 (e2 : SEngine) (w : SWheel) (period : Int) (v_at : Int) (n2 : Int) (l : List SFire) : TieF Tryz.prog 4 [q37 e2, q209 w, .t (tI period), .t (tI v_at), .t (tK .u8 n2), .t (tS q12 l)] (q256 e2 w period v_at n2 l) (fun r => .t (tB r)) := by
 refine TieF.intro htab 195 [.tmp 12] Tryz.call4 Tryz.func4 rfl rfl rfl (Nat.le_of_ble_eq_true rfl) fun w0 L => ?_
 refine TieS.seq (.region (.run 3 rfl (.nil (.seq ?_))))
 refine TieS.seq (.region (.call _ rfl rfl rfl (q192) (fun _ => rfl) fun v => .run 1 rfl (.nil ?_)))
 refine TieS.cond rfl ?_ ?_
 ·exact TieS.seq (.region (.run 1 rfl (.nil (.ret ⟨.inl rfl, rfl⟩))))
 ·refine TieS.skip (.seq (.seq (.region (.run 5 rfl ?_))))
  refine TieO.call _ rfl rfl rfl (q222 e2 w period v_at l) (fun _ => rfl) fun v2 => .run 1 rfl (.nil (.cond rfl ?_ ?_))
  ·exact TieS.seq (.region (.run 1 rfl (.nil (.ret ⟨.inl rfl, rfl⟩))))
  ·refine TieS.skip (.seq (.region (.run 5 rfl (.nil ?_))))
   refine TieS.seq (.region (.run 6 rfl (.call _ rfl rfl rfl (q225 e2 w period v_at (w64 (1 + (w64 (Int.tmod n2 3)))) l) (fun _ => rfl) fun r2 => .run 5 rfl ?_)))
   refine TieO.nil (.seq (.seq (.region (.run 2 rfl ?_))))
   refine TieO.nil (.cond rfl ?_ ?_)
   ·exact TieS.seq (.region (.run 1 rfl (.nil (.ret ⟨.inl rfl, rfl⟩))))
   ·refine TieS.skip (.seq (.region (.run 4 rfl (.makeO (enc := Pv.encB) 2432 false rfl rfl rfl rfl rfl rfl rfl rfl rfl rfl rfl rfl rfl fun l2 hl2 => ?_))))
    refine TieO.run 1 rfl (.nil (.seq (.region (.run 4 rfl ?_))))
    refine TieO.makeO (enc := Pv.encI) 2472 0 rfl rfl rfl rfl rfl rfl rfl rfl rfl rfl rfl rfl rfl fun l3 hl3 => .run 1 rfl (.nil (.seq (.seq ?_)))
    refine TieS.region (.run 3 rfl (.nil (.block (.loop (fun p => ⟨[(5, .t (tS q12 l)), (6, .ptr 6 0), (13, .t (tI (w64 (1 + (w64 (Int.tmod n2 3)))))), (14, .t (tS q13 r2.1)), (16, .own 2432), (17, .own 2472), (60, .t (tS q13 r2.1)), (61, .t (tI (r2.1.length : Int))), (62, .t (tI p.1))], [(6, .box [.t (tS Pv.encI e2.Order), .t (tI e2.First)]), (2432, .rs 4 1 p.2.1 Pv.encB), (2472, .rs 3 1 p.2.2 Pv.encI)]⟩) (fun b e σ' => match b with | .inl t => e = .exit 0 ∧ Sub ⟨[(5, .t (tS q12 l)), (6, .ptr 6 0), (13, .t (tI (w64 (1 + (w64 (Int.tmod n2 3)))))), (16, .own 2432), (17, .own 2472)], [(6, .box [.t (tS Pv.encI e2.Order), .t (tI e2.First)]), (2432, .rs 4 1 t.1 Pv.encB), (2472, .rs 3 1 t.2 Pv.encI)]⟩ σ' | .inr t => e = .ret ∧ retT tab σ' [.tmp 12] = some (((fun r => .t (tB r)) : Bool → T) t)) (.of rfl rfl) ?_ ?_))))
    ·rintro ⟨i, s⟩
     refine TieS.seq (.region (.run 1 rfl (.nil (.seq ?_))))
     refine TieS.cond rfl ?_ ?_
     ·refine TieS.skip (.seq (TieX.sub (σ' := ⟨[(5, .t (tS q12 l)), (6, .ptr 6 0), (13, .t (tI (w64 (1 + (w64 (Int.tmod n2 3)))))), (14, .t (tS q13 r2.1)), (16, .own 2432), (17, .own 2472), (60, .t (tS q13 r2.1)), (61, .t (tI (r2.1.length : Int))), (62, .t (tI i))], [(6, .box [.t (tS Pv.encI e2.Order), .t (tI e2.First)]), (2432, .rs 4 1 s.1 Pv.encB), (2472, .rs 3 1 s.2 Pv.encI)]⟩) (.of rfl rfl) (TieS.bind (Q₁ := fun f e σ' => match f with | .next t => e = .normal ∧ Sub ⟨[(5, .t (tS q12 l)), (6, .ptr 6 0), (13, .t (tI (w64 (1 + (w64 (Int.tmod n2 3)))))), (14, .t (tS q13 r2.1)), (16, .own 2432), (17, .own 2472), (60, .t (tS q13 r2.1)), (61, .t (tI (r2.1.length : Int))), (62, .t (tI i))], [(6, .box [.t (tS Pv.encI e2.Order), .t (tI e2.First)]), (2432, .rs 4 1 t.1 Pv.encB), (2472, .rs 3 1 t.2 Pv.encI)]⟩ σ' | .brk t => e = .exit 0 ∧ Sub ⟨[(5, .t (tS q12 l)), (6, .ptr 6 0), (13, .t (tI (w64 (1 + (w64 (Int.tmod n2 3)))))), (16, .own 2432), (17, .own 2472)], [(6, .box [.t (tS Pv.encI e2.Order), .t (tI e2.First)]), (2432, .rs 4 1 t.1 Pv.encB), (2472, .rs 3 1 t.2 Pv.encI)]⟩ σ' | .ret t => e = .ret ∧ retT tab σ' [.tmp 12] = some (((fun r => .t (tB r)) : Bool → T) t)) ?_ ?_)))
      ·refine TieS.block (.seq (.region (.run 1 rfl (.index rfl rfl rfl rfl rfl rfl rfl rfl (fun _ => rfl) fun x hx => ?_))))
       refine TieO.run 4 rfl (.nil (.seq (.seq (.bind (Q₁ := fun t e σ' => e = .normal ∧ Sub ⟨[(5, .t (tS q12 l)), (6, .ptr 6 0), (13, .t (tI (w64 (1 + (w64 (Int.tmod n2 3)))))), (14, .t (tS q13 r2.1)), (16, .own 2432), (17, .own 2472), (19, .ptr 19 0), (60, .t (tS q13 r2.1)), (61, .t (tI (r2.1.length : Int))), (62, .t (tI i)), (101, .t (tB t))], [(6, .box [.t (tS Pv.encI e2.Order), .t (tI e2.First)]), (19, .box [.t (tI x.At), .t (tI x.Channel), .t (tB x.Level)]), (2432, .rs 4 1 s.1 Pv.encB), (2472, .rs 3 1 s.2 Pv.encI)]⟩ σ') ?_ ?_))))
       ·refine TieX.split (fun hg => ?_) (fun hg2 => ?_)
        ·exact TieS.draw 35 [_, _, _, _, _, _, _, _, _, _, _, _, _, _, _, _, _, _, _, _, _, _, _, _, _, _, _, _, _, _, _, _, _, _, _] [(5, .t (tS q12 l)), (6, .ptr 6 0), (13, .t (tI (w64 (1 + (w64 (Int.tmod n2 3)))))), (14, .t (tS q13 r2.1)), (16, .own 2432), (17, .own 2472), (18, .t (tI i)), (19, .ptr 19 0), (60, .t (tS q13 r2.1)), (61, .t (tI (r2.1.length : Int))), (62, .t (tI i))] [(6, .box [.t (tS Pv.encI e2.Order), .t (tI e2.First)]), (19, .box [.t (tI x.At), .t (tI x.Channel), .t (tB x.Level)]), (2432, .rs 4 1 s.1 Pv.encB), (2472, .rs 3 1 s.2 Pv.encI)] mixed (.of rfl rfl) rfl rfl rfl rfl (.cons (.quiet rfl rfl rfl) (.cons (.quiet rfl rfl rfl) (.cons (.quiet rfl rfl rfl) (.cons (.cast (congrArg T.B hg) (.quiet rfl rfl rfl)) (.cons (.skip rfl) (.cons (.skip rfl) (.cons (.skip rfl) (.cons (.skip rfl) (.cons (.skip rfl) (.cons (.quiet rfl rfl rfl) (.cons (.quiet rfl rfl rfl) (.cons (.skip rfl) (.cons (.skip rfl) (.cons (.skip rfl) (.cons (.skip rfl) (.cons (.skip rfl) (.cons (.skip rfl) (.cons (.skip rfl) (.cons (.skip rfl) (.cons (.skip rfl) (.cons (.skip rfl) (.cons (.skip rfl) (.cons (.skip rfl) (.cons (.skip rfl) (.cons (.quiet rfl rfl rfl) (.cons (.quiet rfl rfl rfl) (.cons (.skip rfl) (.cons (.skip rfl) (.cons (.skip rfl) (.cons (.skip rfl) (.cons (.skip rfl) (.cons (.skip rfl) (.cons (.skip rfl) (.cons (.skip rfl) (.cons (.quiet rfl rfl rfl) (.nil)))))))))))))))))))))))))))))))))))) (.nil (.leaf ⟨rfl, .of rfl rfl⟩))
        ·refine TieX.split (fun hg3 => ?_) (fun hg4 => ?_)
         ·exact TieS.draw 35 [_, _, _, _, _, _, _, _, _, _, _, _, _, _, _, _, _, _, _, _, _, _, _, _, _, _, _, _, _, _, _, _, _, _, _] [(5, .t (tS q12 l)), (6, .ptr 6 0), (13, .t (tI (w64 (1 + (w64 (Int.tmod n2 3)))))), (14, .t (tS q13 r2.1)), (16, .own 2432), (17, .own 2472), (18, .t (tI i)), (19, .ptr 19 0), (60, .t (tS q13 r2.1)), (61, .t (tI (r2.1.length : Int))), (62, .t (tI i))] [(6, .box [.t (tS Pv.encI e2.Order), .t (tI e2.First)]), (19, .box [.t (tI x.At), .t (tI x.Channel), .t (tB x.Level)]), (2432, .rs 4 1 s.1 Pv.encB), (2472, .rs 3 1 s.2 Pv.encI)] mixed (.of rfl rfl) rfl rfl rfl rfl (.cons (.quiet rfl rfl rfl) (.cons (.quiet rfl rfl rfl) (.cons (.quiet rfl rfl rfl) (.cons (.cast (congrArg T.B hg2) (.quiet rfl rfl rfl)) (.cons (.quiet rfl rfl rfl) (.cons (.quiet rfl rfl rfl) (.cons (.quiet rfl rfl rfl) (.cons (.quiet rfl rfl rfl) (.cons (.quiet rfl rfl rfl) (.cons (.quiet rfl rfl rfl) (.cons (.cast (congrArg T.B hg3) (.quiet rfl rfl rfl)) (.cons (.skip rfl) (.cons (.skip rfl) (.cons (.skip rfl) (.cons (.skip rfl) (.cons (.skip rfl) (.cons (.skip rfl) (.cons (.skip rfl) (.cons (.skip rfl) (.cons (.skip rfl) (.cons (.skip rfl) (.cons (.skip rfl) (.cons (.skip rfl) (.cons (.skip rfl) (.cons (.quiet rfl rfl rfl) (.cons (.quiet rfl rfl rfl) (.cons (.skip rfl) (.cons (.skip rfl) (.cons (.skip rfl) (.cons (.skip rfl) (.cons (.skip rfl) (.cons (.skip rfl) (.cons (.skip rfl) (.cons (.skip rfl) (.cons (.quiet rfl rfl rfl) (.nil)))))))))))))))))))))))))))))))))))) (.nil (.leaf ⟨rfl, .of rfl rfl⟩))
         ·refine TieX.split (fun hg5 => ?_) (fun hg8 => ?_)
          ·refine TieX.pre fun x2 hx2 => TieX.split (fun hg6 => ?_) (fun hg7 => ?_)
           ·exact TieS.draw 35 [_, _, _, _, _, _, _, _, _, _, _, _, _, _, _, _, _, _, _, _, _, _, _, _, _, _, _, _, _, _, _, _, _, _, _] [(5, .t (tS q12 l)), (6, .ptr 6 0), (13, .t (tI (w64 (1 + (w64 (Int.tmod n2 3)))))), (14, .t (tS q13 r2.1)), (16, .own 2432), (17, .own 2472), (18, .t (tI i)), (19, .ptr 19 0), (60, .t (tS q13 r2.1)), (61, .t (tI (r2.1.length : Int))), (62, .t (tI i))] [(6, .box [.t (tS Pv.encI e2.Order), .t (tI e2.First)]), (19, .box [.t (tI x.At), .t (tI x.Channel), .t (tB x.Level)]), (2432, .rs 4 1 s.1 Pv.encB), (2472, .rs 3 1 s.2 Pv.encI)] mixed (.of rfl rfl) rfl rfl rfl rfl (.cons (.quiet rfl rfl rfl) (.cons (.quiet rfl rfl rfl) (.cons (.quiet rfl rfl rfl) (.cons (.cast (congrArg T.B hg2) (.quiet rfl rfl rfl)) (.cons (.quiet rfl rfl rfl) (.cons (.quiet rfl rfl rfl) (.cons (.quiet rfl rfl rfl) (.cons (.quiet rfl rfl rfl) (.cons (.quiet rfl rfl rfl) (.cons (.quiet rfl rfl rfl) (.cons (.cast (congrArg T.B hg4) (.quiet rfl rfl rfl)) (.cons (.quiet rfl rfl rfl) (.cons (.quiet rfl rfl rfl) (.cons (.cast (congrArg T.B hg5) (.quiet rfl rfl rfl)) (.cons (.quiet rfl rfl rfl) (.cons (.quiet rfl rfl rfl) (.cons (.quiet rfl rfl rfl) (.cons (.quiet rfl rfl rfl) (.cons (.quiet rfl rfl rfl) (.cons (.index hx2 rfl rfl rfl rfl rfl rfl (fun _ => rfl)) (.cons (.quiet rfl rfl rfl) (.cons (.quiet rfl rfl rfl) (.cons (.quiet rfl rfl rfl) (.cons (.quiet rfl rfl rfl) (.cons (.quiet rfl rfl rfl) (.cons (.cast (congrArg T.B hg6) (.quiet rfl rfl rfl)) (.cons (.skip rfl) (.cons (.skip rfl) (.cons (.skip rfl) (.cons (.skip rfl) (.cons (.skip rfl) (.cons (.skip rfl) (.cons (.skip rfl) (.cons (.skip rfl) (.cons (.quiet rfl rfl rfl) (.nil)))))))))))))))))))))))))))))))))))) (.nil (.leaf ⟨rfl, .of rfl rfl⟩))
           ·exact TieX.pre fun x3 hx3 => TieS.draw 35 [_, _, _, _, _, _, _, _, _, _, _, _, _, _, _, _, _, _, _, _, _, _, _, _, _, _, _, _, _, _, _, _, _, _, _] [(5, .t (tS q12 l)), (6, .ptr 6 0), (13, .t (tI (w64 (1 + (w64 (Int.tmod n2 3)))))), (14, .t (tS q13 r2.1)), (16, .own 2432), (17, .own 2472), (18, .t (tI i)), (19, .ptr 19 0), (60, .t (tS q13 r2.1)), (61, .t (tI (r2.1.length : Int))), (62, .t (tI i))] [(6, .box [.t (tS Pv.encI e2.Order), .t (tI e2.First)]), (19, .box [.t (tI x.At), .t (tI x.Channel), .t (tB x.Level)]), (2432, .rs 4 1 s.1 Pv.encB), (2472, .rs 3 1 s.2 Pv.encI)] mixed (.of rfl rfl) rfl rfl rfl rfl (.cons (.quiet rfl rfl rfl) (.cons (.quiet rfl rfl rfl) (.cons (.quiet rfl rfl rfl) (.cons (.cast (congrArg T.B hg2) (.quiet rfl rfl rfl)) (.cons (.quiet rfl rfl rfl) (.cons (.quiet rfl rfl rfl) (.cons (.quiet rfl rfl rfl) (.cons (.quiet rfl rfl rfl) (.cons (.quiet rfl rfl rfl) (.cons (.quiet rfl rfl rfl) (.cons (.cast (congrArg T.B hg4) (.quiet rfl rfl rfl)) (.cons (.quiet rfl rfl rfl) (.cons (.quiet rfl rfl rfl) (.cons (.cast (congrArg T.B hg5) (.quiet rfl rfl rfl)) (.cons (.quiet rfl rfl rfl) (.cons (.quiet rfl rfl rfl) (.cons (.quiet rfl rfl rfl) (.cons (.quiet rfl rfl rfl) (.cons (.quiet rfl rfl rfl) (.cons (.index hx2 rfl rfl rfl rfl rfl rfl (fun _ => rfl)) (.cons (.quiet rfl rfl rfl) (.cons (.quiet rfl rfl rfl) (.cons (.quiet rfl rfl rfl) (.cons (.quiet rfl rfl rfl) (.cons (.quiet rfl rfl rfl) (.cons (.cast (congrArg T.B hg7) (.quiet rfl rfl rfl)) (.cons (.quiet rfl rfl rfl) (.cons (.quiet rfl rfl rfl) (.cons (.quiet rfl rfl rfl) (.cons (.quiet rfl rfl rfl) (.cons (.quiet rfl rfl rfl) (.cons (.indexO (sz := 1) hx3 rfl rfl rfl rfl rfl rfl rfl rfl) (.cons (.loadY hx3 rfl rfl rfl rfl rfl rfl) (.cons (.quiet rfl rfl rfl) (.cons (.quiet rfl rfl rfl) (.nil)))))))))))))))))))))))))))))))))))) (.nil (.leaf ⟨rfl, .of rfl rfl⟩))
          ·exact TieX.pre fun x4 hx4 => TieS.draw 35 [_, _, _, _, _, _, _, _, _, _, _, _, _, _, _, _, _, _, _, _, _, _, _, _, _, _, _, _, _, _, _, _, _, _, _] [(5, .t (tS q12 l)), (6, .ptr 6 0), (13, .t (tI (w64 (1 + (w64 (Int.tmod n2 3)))))), (14, .t (tS q13 r2.1)), (16, .own 2432), (17, .own 2472), (18, .t (tI i)), (19, .ptr 19 0), (60, .t (tS q13 r2.1)), (61, .t (tI (r2.1.length : Int))), (62, .t (tI i))] [(6, .box [.t (tS Pv.encI e2.Order), .t (tI e2.First)]), (19, .box [.t (tI x.At), .t (tI x.Channel), .t (tB x.Level)]), (2432, .rs 4 1 s.1 Pv.encB), (2472, .rs 3 1 s.2 Pv.encI)] mixed (.of rfl rfl) rfl rfl rfl rfl (.cons (.quiet rfl rfl rfl) (.cons (.quiet rfl rfl rfl) (.cons (.quiet rfl rfl rfl) (.cons (.cast (congrArg T.B hg2) (.quiet rfl rfl rfl)) (.cons (.quiet rfl rfl rfl) (.cons (.quiet rfl rfl rfl) (.cons (.quiet rfl rfl rfl) (.cons (.quiet rfl rfl rfl) (.cons (.quiet rfl rfl rfl) (.cons (.quiet rfl rfl rfl) (.cons (.cast (congrArg T.B hg4) (.quiet rfl rfl rfl)) (.cons (.quiet rfl rfl rfl) (.cons (.quiet rfl rfl rfl) (.cons (.cast (congrArg T.B hg8) (.quiet rfl rfl rfl)) (.cons (.skip rfl) (.cons (.skip rfl) (.cons (.skip rfl) (.cons (.skip rfl) (.cons (.skip rfl) (.cons (.skip rfl) (.cons (.skip rfl) (.cons (.skip rfl) (.cons (.skip rfl) (.cons (.quiet rfl rfl rfl) (.cons (.quiet rfl rfl rfl) (.cons (.quiet rfl rfl rfl) (.cons (.quiet rfl rfl rfl) (.cons (.quiet rfl rfl rfl) (.cons (.quiet rfl rfl rfl) (.cons (.quiet rfl rfl rfl) (.cons (.quiet rfl rfl rfl) (.cons (.indexO (sz := 1) hx4 rfl rfl rfl rfl rfl rfl rfl rfl) (.cons (.loadY hx4 rfl rfl rfl rfl rfl rfl) (.cons (.quiet rfl rfl rfl) (.cons (.quiet rfl rfl rfl) (.nil)))))))))))))))))))))))))))))))))))) (.nil (.leaf ⟨rfl, .of rfl rfl⟩))
       rintro v3 e σ' _ ⟨rfl, hs⟩
       refine TieX.sub hs (TieS.cond rfl ?_ ?_)
       ·exact TieS.seq (.region (.run 1 rfl (.nil (.ret ⟨rfl, rfl⟩))))
       ·refine TieS.skip (.seq (.region (.run 5 rfl (.indexO rfl rfl rfl rfl rfl rfl rfl rfl rfl rfl fun x5 hx5 => ?_))))
        refine TieO.storeY x.Level [tB x.Level] hx5 rfl rfl rfl rfl rfl rfl rfl rfl rfl rfl rfl rfl fun l4 hl4 => .nil (.seq (.region (.run 3 rfl ?_)))
        refine TieO.nil (.cond rfl ?_ ?_)
        ·refine TieS.region (.run 3 rfl (.indexO rfl rfl rfl rfl rfl rfl rfl rfl rfl rfl fun x6 hx6 => .loadY hx6 rfl rfl rfl rfl rfl rfl rfl rfl (.run 1 rfl ?_)))
         exact TieO.indexOH hx6 rfl rfl rfl rfl rfl rfl rfl rfl rfl rfl (.storeY (w64 (x6 + 1)) [tI (w64 (x6 + 1))] hx6 rfl rfl rfl rfl rfl rfl rfl rfl rfl rfl rfl rfl fun l5 hl5 => .nil (.endb (.leaf ⟨rfl, .of rfl rfl⟩)))
        ·exact TieS.skip (.endb (.leaf ⟨rfl, .of rfl rfl⟩))
      rintro (t | t | t) e σ' _ hq
      ·obtain ⟨rfl, hs⟩ := hq
       exact TieX.sub hs (TieS.region (.run 2 rfl (.nil (.leaf ⟨rfl, .of rfl rfl⟩))))
      ·obtain ⟨rfl, hs⟩ := hq
       exact TieX.exitOut rfl ⟨(fun h => by cases h), rfl, hs⟩
      ·obtain ⟨rfl, hs⟩ := hq
       exact TieX.ret ⟨(fun h => by cases h), rfl, hs⟩
     ·exact TieS.exitOut rfl ⟨(fun h => by cases h), rfl, .of rfl rfl⟩
    rintro (s2 | r4) e σ' _ hq
    ·obtain ⟨rfl, hs⟩ := hq
     refine TieX.exit rfl (TieX.sub hs ?_)
     refine TieS.seq (.seq (.region (.run 4 rfl (.nil ?_))))
     refine TieS.block (.loop (fun p => ⟨[(5, .t (tS q12 l)), (13, .t (tI (w64 (1 + (w64 (Int.tmod n2 3)))))), (16, .own 2432), (17, .own 2472), (120, .t (tS Pv.encI e2.Order)), (121, .t (tI (e2.Order.length : Int))), (122, .t (tI p.1))], [(2432, .rs 4 1 s2.1 Pv.encB), (2472, .rs 3 1 s2.2 Pv.encI)]⟩) (fun b e σ' => match b with | .inl t => e = .exit 2 ∧ Sub ⟨[], []⟩ σ' | .inr t => e = .ret ∧ retT tab σ' [.tmp 12] = some (((fun r => .t (tB r)) : Bool → T) t)) (.of rfl rfl) ?_ ?_)
     ·rintro ⟨i2, s3⟩
      refine TieS.seq (.region (.run 1 rfl (.nil (.seq ?_))))
      refine TieS.cond rfl ?_ ?_
      ·refine TieS.skip (.seq (TieX.pre fun x7 hx7 => TieX.sub (σ' := ⟨[(5, .t (tS q12 l)), (13, .t (tI (w64 (1 + (w64 (Int.tmod n2 3)))))), (16, .own 2432), (17, .own 2472), (120, .t (tS Pv.encI e2.Order)), (121, .t (tI (e2.Order.length : Int))), (122, .t (tI i2))], [(2432, .rs 4 1 s2.1 Pv.encB), (2472, .rs 3 1 s2.2 Pv.encI)]⟩) (.of rfl rfl) (TieS.bind (Q₁ := fun f e σ' => match f with | .next t => e = .normal ∧ Sub ⟨[(5, .t (tS q12 l)), (13, .t (tI (w64 (1 + (w64 (Int.tmod n2 3)))))), (16, .own 2432), (17, .own 2472), (120, .t (tS Pv.encI e2.Order)), (121, .t (tI (e2.Order.length : Int))), (122, .t (tI i2))], [(2432, .rs 4 1 s2.1 Pv.encB), (2472, .rs 3 1 s2.2 Pv.encI)]⟩ σ' | .brk t => e = .exit 2 ∧ Sub ⟨[], []⟩ σ' | .ret t => e = .ret ∧ retT tab σ' [.tmp 12] = some (((fun r => .t (tB r)) : Bool → T) t)) ?_ ?_)))
       ·refine TieS.block (.seq (.region (.indexH hx7 rfl rfl rfl rfl rfl rfl rfl rfl (fun _ => rfl) (.run 3 rfl ?_))))
        refine TieO.nil (.seq (TieX.pre fun x8 hx8 => TieX.pre fun x9 hx9 => TieS.draw 15 [_, _, _, _, _, _, _, _, _, _, _, _, _, _, _] [(5, .t (tS q12 l)), (13, .t (tI (w64 (1 + (w64 (Int.tmod n2 3)))))), (16, .own 2432), (17, .own 2472), (21, .ptr 21 0), (120, .t (tS Pv.encI e2.Order)), (121, .t (tI (e2.Order.length : Int))), (122, .t (tI i2))] [(21, .box [.t (tI x7)]), (2432, .rs 4 1 s2.1 Pv.encB), (2472, .rs 3 1 s2.2 Pv.encI)] mixed (.of rfl rfl) rfl rfl rfl rfl (.cons (.quiet rfl rfl rfl) (.cons (.quiet rfl rfl rfl) (.cons (.quiet rfl rfl rfl) (.cons (.quiet rfl rfl rfl) (.cons (.indexO (sz := 1) hx8 rfl rfl rfl rfl rfl rfl rfl rfl) (.cons (.loadY hx8 rfl rfl rfl rfl rfl rfl) (.cons (.quiet rfl rfl rfl) (.cons (.quiet rfl rfl rfl) (.cons (.quiet rfl rfl rfl) (.cons (.quiet rfl rfl rfl) (.cons (.quiet rfl rfl rfl) (.cons (.indexO (sz := 1) hx9 rfl rfl rfl rfl rfl rfl rfl rfl) (.cons (.loadY hx9 rfl rfl rfl rfl rfl rfl) (.cons (.quiet rfl rfl rfl) (.cons (.quiet rfl rfl rfl) (.nil)))))))))))))))) ?_))
        refine TieO.nil (.seq (.region (.run 1 rfl (.frzBox 21 rfl rfl ?_))))
        refine TieO.run 1 rfl (.sub (σ' := ⟨[(5, .t (tS q12 l)), (13, .t (tI (w64 (1 + (w64 (Int.tmod n2 3)))))), (16, .own 2432), (17, .own 2472), (21, .el (Pv.encI x7)), (22, .t (tI x8)), (23, .t (tI x9)), (120, .t (tS Pv.encI e2.Order)), (121, .t (tI (e2.Order.length : Int))), (122, .t (tI i2)), (126, .own 2472), (127, .t (tI x7)), (128, .t (tI (w64 (x7 - 1)))), (129, .t (tI (w64 (2 * (w64 (x7 - 1)))))), (130, .pe 2472 (Int.toNat (w64 (2 * (w64 (x7 - 1))))) 1 0), (131, .t (tI x8)), (132, .own 2472), (133, .t (tI x7)), (134, .t (tI (w64 (x7 - 1)))), (135, .t (tI (w64 (2 * (w64 (x7 - 1)))))), (136, .t (tI (w64 ((w64 (2 * (w64 (x7 - 1)))) + 1)))), (137, .pe 2472 (Int.toNat (w64 ((w64 (2 * (w64 (x7 - 1)))) + 1))) 1 0), (138, .t (tI x9)), (139, .t (tS q12 l)), (140, .fz 18 [Pv.encI x7])], [(2432, .rs 4 1 s2.1 Pv.encB), (2472, .rs 3 1 s2.2 Pv.encI)]⟩) (.of rfl rfl) (.call _ rfl rfl rfl (q64 l 18 [Pv.encI x7] (fun x0 => q90 x0 x7) (fun x0 => q207 x0 x7)) (fun _ => rfl) fun v4 => .run 1 rfl (.nil ?_)))
        refine TieS.seq (.seq (.region (.run 4 rfl (.indexO rfl rfl rfl rfl rfl rfl rfl rfl rfl rfl fun x10 hx10 => ?_))))
        refine TieO.loadY hx10 rfl rfl rfl rfl rfl rfl rfl rfl (.run 1 rfl (.bind 8 (fun b2 => ⟨[(5, .t (tS q12 l)), (13, .t (tI (w64 (1 + (w64 (Int.tmod n2 3)))))), (16, .own 2432), (17, .own 2472), (22, .t (tI x8)), (23, .t (tI x9)), (24, .t (tI v4)), (120, .t (tS Pv.encI e2.Order)), (121, .t (tI (e2.Order.length : Int))), (122, .t (tI i2)), (156, .t (tB b2))], [(2432, .rs 4 1 s2.1 Pv.encB), (2472, .rs 3 1 s2.2 Pv.encI)]⟩) (TieO.split 148 rfl ?_ ?_) fun b2 _ => ?_))
        ·exact TieO.run 8 rfl (.nil (.leaf ⟨rfl, .of rfl rfl⟩))
        ·refine TieO.run 5 rfl (.indexO rfl rfl rfl rfl rfl rfl rfl rfl rfl rfl fun x11 hx11 => .loadY hx11 rfl rfl rfl rfl rfl rfl rfl rfl (.run 1 rfl (.nil ?_)))
         exact TieS.leaf ⟨rfl, .of rfl rfl⟩
        refine TieO.run 1 rfl (.bind 9 (fun b3 => ⟨[(5, .t (tS q12 l)), (13, .t (tI (w64 (1 + (w64 (Int.tmod n2 3)))))), (16, .own 2432), (17, .own 2472), (22, .t (tI x8)), (23, .t (tI x9)), (24, .t (tI v4)), (120, .t (tS Pv.encI e2.Order)), (121, .t (tI (e2.Order.length : Int))), (122, .t (tI i2)), (166, .t (tB b3))], [(2432, .rs 4 1 s2.1 Pv.encB), (2472, .rs 3 1 s2.2 Pv.encI)]⟩) (TieO.split 157 rfl ?_ ?_) fun b3 _ => ?_)
        ·exact TieO.run 9 rfl (.nil (.leaf ⟨rfl, .of rfl rfl⟩))
        ·refine TieO.run 3 rfl (.selAnd (v := ((w64 (x8 + x9)) != 0)) 5 160 (fun b => ⟨[(5, .t (tS q12 l)), (13, .t (tI (w64 (1 + (w64 (Int.tmod n2 3)))))), (16, .own 2432), (17, .own 2472), (22, .t (tI x8)), (23, .t (tI x9)), (24, .t (tI v4)), (120, .t (tS Pv.encI e2.Order)), (121, .t (tI (e2.Order.length : Int))), (122, .t (tI i2)), (157, .t (tB false)), (165, .t (tB b))], [(2432, .rs 4 1 s2.1 Pv.encB), (2472, .rs 3 1 s2.2 Pv.encI)]⟩) rfl ?_ ?_ ?_)
         ·exact TieO.run 5 rfl (.nil (.leaf ⟨rfl, .of rfl rfl⟩))
         ·exact TieO.run 5 rfl (.nil (.leaf ⟨rfl, .of rfl rfl⟩))
         exact TieO.run 1 rfl (.nil (.leaf ⟨rfl, .of rfl rfl⟩))
        refine TieO.nil (.cond rfl ?_ ?_)
        ·exact TieS.seq (.region (.run 1 rfl (.nil (.ret ⟨rfl, rfl⟩))))
        ·refine TieS.skip (.seq (.region (.run 3 rfl (.bind 24 (fun b6 => ⟨[(5, .t (tS q12 l)), (13, .t (tI (w64 (1 + (w64 (Int.tmod n2 3)))))), (16, .own 2432), (17, .own 2472), (120, .t (tS Pv.encI e2.Order)), (121, .t (tI (e2.Order.length : Int))), (122, .t (tI i2)), (193, .t (tB b6))], [(2432, .rs 4 1 s2.1 Pv.encB), (2472, .rs 3 1 s2.2 Pv.encI)]⟩) (TieO.split 169 rfl ?_ ?_) fun b6 _ => ?_))))
         ·refine TieO.run 4 rfl (.bind 10 (fun b4 => ⟨[(5, .t (tS q12 l)), (13, .t (tI (w64 (1 + (w64 (Int.tmod n2 3)))))), (16, .own 2432), (17, .own 2472), (22, .t (tI x8)), (23, .t (tI x9)), (120, .t (tS Pv.encI e2.Order)), (121, .t (tI (e2.Order.length : Int))), (122, .t (tI i2)), (169, .t (tB true)), (183, .t (tB b4))], [(2432, .rs 4 1 s2.1 Pv.encB), (2472, .rs 3 1 s2.2 Pv.encI)]⟩) (TieO.split 173 rfl ?_ ?_) fun b4 _ => ?_)
          ·refine TieO.run 4 rfl (.index rfl rfl rfl rfl rfl rfl rfl rfl (fun _ => rfl) fun x12 hx12 => .run 1 rfl (.call _ rfl rfl rfl (q189 x12) (fun _ => rfl) fun v5 => .run 3 rfl ?_))
           exact TieO.nil (.leaf ⟨rfl, .of rfl rfl⟩)
          ·exact TieO.run 10 rfl (.nil (.leaf ⟨rfl, .of rfl rfl⟩))
          refine TieO.run 1 rfl (.bind 7 (fun b5 => ⟨[(5, .t (tS q12 l)), (13, .t (tI (w64 (1 + (w64 (Int.tmod n2 3)))))), (16, .own 2432), (17, .own 2472), (120, .t (tS Pv.encI e2.Order)), (121, .t (tI (e2.Order.length : Int))), (122, .t (tI i2)), (169, .t (tB true)), (191, .t (tB b5))], [(2432, .rs 4 1 s2.1 Pv.encB), (2472, .rs 3 1 s2.2 Pv.encI)]⟩) (TieO.split 184 rfl ?_ ?_) fun b5 _ => ?_)
          ·exact TieO.run 7 rfl (.nil (.leaf ⟨rfl, .of rfl rfl⟩))
          ·refine TieO.run 3 rfl (.selAnd (v := (x9 == 0)) 3 187 (fun b => ⟨[(5, .t (tS q12 l)), (13, .t (tI (w64 (1 + (w64 (Int.tmod n2 3)))))), (16, .own 2432), (17, .own 2472), (120, .t (tS Pv.encI e2.Order)), (121, .t (tI (e2.Order.length : Int))), (122, .t (tI i2)), (169, .t (tB true)), (184, .t (tB false)), (190, .t (tB b))], [(2432, .rs 4 1 s2.1 Pv.encB), (2472, .rs 3 1 s2.2 Pv.encI)]⟩) rfl ?_ ?_ ?_)
           ·exact TieO.run 3 rfl (.nil (.leaf ⟨rfl, .of rfl rfl⟩))
           ·exact TieO.run 3 rfl (.nil (.leaf ⟨rfl, .of rfl rfl⟩))
           exact TieO.run 1 rfl (.nil (.leaf ⟨rfl, .of rfl rfl⟩))
          exact TieO.run 2 rfl (.nil (.leaf ⟨rfl, .of rfl rfl⟩))
         ·exact TieO.run 24 rfl (.nil (.leaf ⟨rfl, .of rfl rfl⟩))
         refine TieO.nil (.cond rfl ?_ ?_)
         ·exact TieS.seq (.region (.run 1 rfl (.nil (.ret ⟨rfl, rfl⟩))))
         ·exact TieS.skip (.endb (.leaf ⟨rfl, .of rfl rfl⟩))
       rintro (t | t | t) e σ' _ hq
       ·obtain ⟨rfl, hs⟩ := hq
        exact TieX.sub hs (TieS.region (.run 2 rfl (.nil (.leaf ⟨rfl, .of rfl rfl⟩))))
       ·obtain ⟨rfl, hs⟩ := hq
        exact TieX.exitOut rfl ⟨(fun h => by cases h), rfl, hs⟩
       ·obtain ⟨rfl, hs⟩ := hq
        exact TieX.ret ⟨(fun h => by cases h), rfl, hs⟩
      ·exact TieS.exitOut rfl ⟨(fun h => by cases h), rfl, .of rfl rfl⟩
     rintro (s4 | r3) e σ' _ hq
     ·obtain ⟨rfl, hs⟩ := hq
      refine TieX.exit rfl (TieX.sub hs ?_)
      exact TieS.seq (.region (.run 1 rfl (.nil (.ret ⟨.inl rfl, rfl⟩))))
     ·obtain ⟨rfl, hs⟩ := hq
      exact TieX.ret ⟨.inl rfl, hs⟩
    ·obtain ⟨rfl, hs⟩ := hq
     exact TieX.ret ⟨.inl rfl, hs⟩
set_option maxRecDepth 100000 in
theorem q191 (f2 : SFire) (c : Int) : TieF Tryz.prog 20 [A_SFire f2, .el (Pv.encI c)] (q49 f2 c) (fun r => .t (tB r)) := by
 refine TieF.intro htab 8 [.tmp 3] Tryz.call20 Tryz.func20 rfl rfl rfl (Nat.le_of_ble_eq_true rfl) fun w0 L => ?_
 refine TieS.seq (.region (.run 2 rfl (.nil (.seq ?_))))
 exact TieS.region (.run 5 rfl (.nil (.ret ⟨.inl rfl, rfl⟩)))
set_option maxRecDepth 100000 in
set_option maxHeartbeats 4000000 in
theorem q218 (e2 : SEngine) (w : SWheel) (period : Int) (v_at : Int) (n2 : Int) (l : List SFire) : TieF Tryz.prog 5 [q37 e2, q209 w, .t (tI period), .t (tI v_at), .t (tK .u8 n2), .t (tS q12 l)] (q58 e2 w period v_at n2 l) (fun r => .t (tB r)) := by
 refine TieF.intro htab 137 [.tmp 12] Tryz.call5 Tryz.func5 rfl rfl rfl (Nat.le_of_ble_eq_true rfl) fun w0 L => ?_
 refine TieS.seq (.region (.run 3 rfl (.nil (.seq ?_))))
 refine TieS.seq (.region (.call _ rfl rfl rfl (q192) (fun _ => rfl) fun v => .run 1 rfl (.nil ?_)))
 refine TieS.cond rfl ?_ ?_
 ·exact TieS.seq (.region (.run 1 rfl (.nil (.ret ⟨.inl rfl, rfl⟩))))
 ·refine TieS.skip (.seq (.seq (.region (.run 5 rfl ?_))))
  refine TieO.call _ rfl rfl rfl (q222 e2 w period v_at l) (fun _ => rfl) fun v2 => .run 1 rfl (.nil (.cond rfl ?_ ?_))
  ·exact TieS.seq (.region (.run 1 rfl (.nil (.ret ⟨.inl rfl, rfl⟩))))
  ·refine TieS.skip (.seq (.region (.run 9 rfl (.call _ rfl rfl rfl (q225 e2 w period v_at (w64 (1 + (w64 (Int.tmod n2 3)))) l) (fun _ => rfl) fun r2 => ?_))))
   refine TieO.run 5 rfl (.nil (.seq (.seq (.region ?_))))
   refine TieO.run 2 rfl (.nil (.cond rfl ?_ ?_))
   ·exact TieS.seq (.region (.run 1 rfl (.nil (.ret ⟨.inl rfl, rfl⟩))))
   ·refine TieS.skip (.seq (.region (.run 2 rfl (.quo rfl rfl rfl rfl rfl rfl fun q => ?_))))
    refine TieO.run 1 rfl (.nil (.seq (.seq (.region ?_))))
    refine TieO.run 3 rfl (.nil (.block (.loop (fun p => ⟨[(2, .t (tI period)), (3, .t (tI v_at)), (5, .t (tS q12 l)), (6, .ptr 6 0), (15, .t (tI q)), (55, .t (tS q13 r2.1)), (56, .t (tI (r2.1.length : Int))), (57, .t (tI p.1))], [(6, .box [.t (tS Pv.encI e2.Order), .t (tI e2.First)])]⟩) (fun b e σ' => match b with | .inl t => e = .exit 0 ∧ Sub ⟨[], []⟩ σ' | .inr t => e = .ret ∧ retT tab σ' [.tmp 12] = some (((fun r => .t (tB r)) : Bool → T) t)) (.of rfl rfl) ?_ ?_)))
    ·rintro ⟨i, s⟩
     refine TieS.seq (.region (.run 1 rfl (.nil (.seq ?_))))
     refine TieS.cond rfl ?_ ?_
     ·refine TieS.skip (.seq (TieX.pre fun x hx => TieX.sub (σ' := ⟨[(2, .t (tI period)), (3, .t (tI v_at)), (5, .t (tS q12 l)), (6, .ptr 6 0), (15, .t (tI q)), (55, .t (tS q13 r2.1)), (56, .t (tI (r2.1.length : Int))), (57, .t (tI i))], [(6, .box [.t (tS Pv.encI e2.Order), .t (tI e2.First)])]⟩) (.of rfl rfl) (TieS.bind (Q₁ := fun f e σ' => match f with | .next t => e = .normal ∧ Sub ⟨[(2, .t (tI period)), (3, .t (tI v_at)), (5, .t (tS q12 l)), (6, .ptr 6 0), (15, .t (tI q)), (55, .t (tS q13 r2.1)), (56, .t (tI (r2.1.length : Int))), (57, .t (tI i))], [(6, .box [.t (tS Pv.encI e2.Order), .t (tI e2.First)])]⟩ σ' | .brk t => e = .exit 0 ∧ Sub ⟨[], []⟩ σ' | .ret t => e = .ret ∧ retT tab σ' [.tmp 12] = some (((fun r => .t (tB r)) : Bool → T) t)) ?_ ?_)))
      ·refine TieS.block (.seq (.region (.indexH hx rfl rfl rfl rfl rfl rfl rfl rfl (fun _ => rfl) (.run 3 rfl ?_))))
       refine TieO.nil (.seq (.seq (.region (.run 5 rfl ?_))))
       refine TieO.selOr (v := x.Level) 3 65 (fun b => ⟨[(2, .t (tI period)), (3, .t (tI v_at)), (5, .t (tS q12 l)), (6, .ptr 6 0), (15, .t (tI q)), (17, .ptr 17 0), (55, .t (tS q13 r2.1)), (56, .t (tI (r2.1.length : Int))), (57, .t (tI i)), (68, .t (tB b))], [(6, .box [.t (tS Pv.encI e2.Order), .t (tI e2.First)]), (17, .box [.t (tI x.At), .t (tI x.Channel), .t (tB x.Level)])]⟩) rfl ?_ ?_ ?_
       ·exact TieO.run 3 rfl (.nil (.leaf ⟨rfl, .of rfl rfl⟩))
       ·exact TieO.run 3 rfl (.nil (.leaf ⟨rfl, .of rfl rfl⟩))
       refine TieO.nil (.cond rfl ?_ ?_)
       ·exact TieS.exit rfl (.leaf ⟨rfl, .of rfl rfl⟩)
       ·refine TieS.skip (.seq (.region (.run 6 rfl (.nil ?_))))
        refine TieS.seq (.region (.run 1 rfl (.frzBox 18 rfl rfl (.run 1 rfl ?_))))
        refine TieO.sub (σ' := ⟨[(2, .t (tI period)), (3, .t (tI v_at)), (5, .t (tS q12 l)), (6, .ptr 6 0), (15, .t (tI q)), (17, .ptr 17 0), (18, .el (Pv.encI (w64 ((w64 (Int.tdiv x.Channel 2)) + 1)))), (55, .t (tS q13 r2.1)), (56, .t (tI (r2.1.length : Int))), (57, .t (tI i)), (68, .t (tB (((Int.tmod x.Channel 2) != 0) || x.Level))), (69, .ptr 17 1), (70, .t (tI x.Channel)), (71, .t (tI (w64 (Int.tdiv x.Channel 2)))), (72, .t (tI (w64 ((w64 (Int.tdiv x.Channel 2)) + 1)))), (73, .t (tS q12 l)), (74, .fz 20 [Pv.encI (w64 ((w64 (Int.tdiv x.Channel 2)) + 1))])], [(6, .box [.t (tS Pv.encI e2.Order), .t (tI e2.First)]), (17, .box [.t (tI x.At), .t (tI x.Channel), .t (tB x.Level)])]⟩) (.of rfl rfl) (.call _ rfl rfl rfl (q64 l 20 [Pv.encI (w64 ((w64 (Int.tdiv x.Channel 2)) + 1))] (fun x0 => q49 x0 (w64 ((w64 (Int.tdiv x.Channel 2)) + 1))) (fun x0 => q191 x0 (w64 ((w64 (Int.tdiv x.Channel 2)) + 1)))) (fun _ => rfl) fun v3 => .run 1 rfl (.nil (.seq ?_)))
        refine TieS.region (.run 2 rfl (.call _ rfl rfl rfl (q260 e2 (w64 ((w64 (Int.tdiv x.Channel 2)) + 1))) (fun _ => rfl) fun r3 => .run 5 rfl (.nil ?_)))
        refine TieS.seq (.seq (.region (.run 3 rfl (.selOr (v := (r3.2 != 0)) 3 84 (fun b => ⟨[(2, .t (tI period)), (3, .t (tI v_at)), (5, .t (tS q12 l)), (6, .ptr 6 0), (15, .t (tI q)), (17, .ptr 17 0), (19, .t (tI v3)), (20, .t (tI r3.1)), (55, .t (tS q13 r2.1)), (56, .t (tI (r2.1.length : Int))), (57, .t (tI i)), (87, .t (tB b))], [(6, .box [.t (tS Pv.encI e2.Order), .t (tI e2.First)]), (17, .box [.t (tI x.At), .t (tI x.Channel), .t (tB x.Level)])]⟩) rfl ?_ ?_ ?_))))
        ·exact TieO.run 3 rfl (.nil (.leaf ⟨rfl, .of rfl rfl⟩))
        ·exact TieO.run 3 rfl (.nil (.leaf ⟨rfl, .of rfl rfl⟩))
        refine TieO.nil (.cond rfl ?_ ?_)
        ·exact TieS.seq (.region (.run 1 rfl (.nil (.ret ⟨rfl, rfl⟩))))
        ·refine TieS.skip (.seq (.region (.run 3 rfl (.index rfl rfl rfl rfl rfl rfl rfl rfl (fun _ => rfl) fun x2 hx2 => ?_))))
         refine TieO.run 6 rfl (.nil (.seq (.region (.run 7 rfl ?_))))
         refine TieO.nil (.seq (.region (.run 3 rfl (.quo rfl rfl rfl rfl rfl rfl fun q2 => ?_))))
         refine TieO.run 1 rfl (.nil (.seq (.region (.run 1 rfl ?_))))
         refine TieO.nil (.seq (.seq (.region (.run 3 rfl ?_))))
         refine TieO.nil (.block (.loop (fun t => ⟨[(2, .t (tI period)), (3, .t (tI v_at)), (5, .t (tS q12 l)), (6, .ptr 6 0), (15, .t (tI q)), (22, .t (tI (Int.tmod (w64 ((w64 (r3.1 - x2.Spark)) + 46080)) 46080))), (23, .t (tI (w64 ((w64 (x.At - v_at)) * q)))), (24, .t (tI q2)), (25, .t (tB t.1)), (26, .t (tI t.2)), (55, .t (tS q13 r2.1)), (56, .t (tI (r2.1.length : Int))), (57, .t (tI i))], [(6, .box [.t (tS Pv.encI e2.Order), .t (tI e2.First)])]⟩) (fun b e σ' => match b with | .inl t => e = .exit 2 ∧ Sub ⟨[(2, .t (tI period)), (3, .t (tI v_at)), (5, .t (tS q12 l)), (6, .ptr 6 0), (15, .t (tI q)), (25, .t (tB t.1)), (55, .t (tS q13 r2.1)), (56, .t (tI (r2.1.length : Int))), (57, .t (tI i))], [(6, .box [.t (tS Pv.encI e2.Order), .t (tI e2.First)])]⟩ σ' | .inr t => False) (.of rfl rfl) ?_ ?_))
         ·intro s2
          refine TieS.seq (.seq (.region (.run 4 rfl (.nil ?_))))
          refine TieS.cond rfl ?_ ?_
          ·refine TieS.skip (.seq (.block (.seq (.region ?_))))
           refine TieO.run 7 rfl (.nil (.region (.run 2 rfl (.bind 11 (fun b2 => ⟨[(2, .t (tI period)), (3, .t (tI v_at)), (5, .t (tS q12 l)), (6, .ptr 6 0), (15, .t (tI q)), (22, .t (tI (Int.tmod (w64 ((w64 (r3.1 - x2.Spark)) + 46080)) 46080))), (23, .t (tI (w64 ((w64 (x.At - v_at)) * q)))), (24, .t (tI q2)), (26, .t (tI s2.2)), (55, .t (tS q13 r2.1)), (56, .t (tI (r2.1.length : Int))), (57, .t (tI i)), (133, .t (tB b2))], [(6, .box [.t (tS Pv.encI e2.Order), .t (tI e2.First)])]⟩) (TieO.split 122 rfl ?_ ?_) fun b2 _ => ?_))))
           ·exact TieO.run 11 rfl (.nil (.leaf ⟨rfl, .of rfl rfl⟩))
           ·refine TieO.run 4 rfl (.selAnd (v := decide ((w64 ((w64 ((w64 (x.At - v_at)) * q)) - q)) < (w64 ((w64 ((w64 (s2.2 * 46080)) + (Int.tmod (w64 ((w64 (r3.1 - x2.Spark)) + 46080)) 46080))) * period)))) 6 126 (fun b => ⟨[(2, .t (tI period)), (3, .t (tI v_at)), (5, .t (tS q12 l)), (6, .ptr 6 0), (15, .t (tI q)), (22, .t (tI (Int.tmod (w64 ((w64 (r3.1 - x2.Spark)) + 46080)) 46080))), (23, .t (tI (w64 ((w64 (x.At - v_at)) * q)))), (24, .t (tI q2)), (26, .t (tI s2.2)), (55, .t (tS q13 r2.1)), (56, .t (tI (r2.1.length : Int))), (57, .t (tI i)), (122, .t (tB false)), (132, .t (tB b))], [(6, .box [.t (tS Pv.encI e2.Order), .t (tI e2.First)])]⟩) rfl ?_ ?_ ?_)
            ·exact TieO.run 6 rfl (.nil (.leaf ⟨rfl, .of rfl rfl⟩))
            ·exact TieO.run 6 rfl (.nil (.leaf ⟨rfl, .of rfl rfl⟩))
            exact TieO.run 1 rfl (.nil (.leaf ⟨rfl, .of rfl rfl⟩))
           refine TieO.run 1 rfl (.nil (.endb (.region (.run 3 rfl ?_))))
           exact TieO.nil (.leaf ⟨rfl, .of rfl rfl⟩)
          ·exact TieS.exitOut rfl ⟨(fun h => by cases h), rfl, .of rfl rfl⟩
         rintro (s3 | r) e σ' _ hq
         ·obtain ⟨rfl, hs⟩ := hq
          refine TieX.exit rfl (TieX.sub hs ?_)
          refine TieS.seq (.region (.run 2 rfl (.nil (.cond rfl ?_ ?_))))
          ·exact TieS.seq (.region (.run 1 rfl (.nil (.ret ⟨rfl, rfl⟩))))
          ·exact TieS.skip (.endb (.leaf ⟨rfl, .of rfl rfl⟩))
         ·exact hq.elim
      rintro (t | t | t) e σ' _ hq
      ·obtain ⟨rfl, hs⟩ := hq
       exact TieX.sub hs (TieS.region (.run 2 rfl (.nil (.leaf ⟨rfl, .of rfl rfl⟩))))
      ·obtain ⟨rfl, hs⟩ := hq
       exact TieX.exitOut rfl ⟨(fun h => by cases h), rfl, hs⟩
      ·obtain ⟨rfl, hs⟩ := hq
       exact TieX.ret ⟨(fun h => by cases h), rfl, hs⟩
     ·exact TieS.exitOut rfl ⟨(fun h => by cases h), rfl, .of rfl rfl⟩
    rintro (s4 | r4) e σ' _ hq
    ·obtain ⟨rfl, hs⟩ := hq
     refine TieX.exit rfl (TieX.sub hs ?_)
     exact TieS.seq (.region (.run 1 rfl (.nil (.ret ⟨.inl rfl, rfl⟩))))
    ·obtain ⟨rfl, hs⟩ := hq
     exact TieX.ret ⟨.inl rfl, hs⟩
end Go.Proofs.YtldhbjpnlehpgaaGreat
namespace Go.Proofs.YtldhbjpnlehpgaaGreat
open Go Go.Pv Go.Proofs
end Go.Proofs.YtldhbjpnlehpgaaGreat
namespace Go.Pv
open Go
structure wf_SEngine (x : SEngine) : Prop where
  Order : (wfL (fun n => (Lit.int .i64 n).wf = true)) x.Order
  First : (fun n => (Lit.int .i64 n).wf = true) x.First
structure wf_SClock (x : SClock) : Prop where
  Valid : (fun _ => True) x.Valid
  At : (fun n => (Lit.int .i64 n).wf = true) x.At
  Angle : (fun n => (Lit.int .i64 n).wf = true) x.Angle
  Period : (fun n => (Lit.int .i64 n).wf = true) x.Period
  Space : (fun n => (Lit.int .i64 n).wf = true) x.Space
  Ahead : (fun n => (Lit.int .i64 n).wf = true) x.Ahead
structure wf_SChannel (x : SChannel) : Prop where
  Armed : (fun _ => True) x.Armed
  At : (fun n => (Lit.int .i64 n).wf = true) x.At
  Next : (fun _ => True) x.Next
  Level : (fun _ => True) x.Level
structure wf_STimer (x : STimer) : Prop where
  Now : (fun n => (Lit.int .i64 n).wf = true) x.Now
  Channels : (wfL wf_SChannel) x.Channels
structure wf_SFire (x : SFire) : Prop where
  Cylinder : (fun n => (Lit.int .i64 n).wf = true) x.Cylinder
  Spark : (fun n => (Lit.int .i64 n).wf = true) x.Spark
  Dwell : (fun n => (Lit.int .i64 n).wf = true) x.Dwell
  End : (fun n => (Lit.int .i64 n).wf = true) x.End
  Inject : (fun n => (Lit.int .i64 n).wf = true) x.Inject
  Gap : (fun n => (Lit.int .i64 n).wf = true) x.Gap
  Extra : (fun n => (Lit.int .i64 n).wf = true) x.Extra
structure wf_SEvent (x : SEvent) : Prop where
  Angle : (fun n => (Lit.int .i64 n).wf = true) x.Angle
  Kind : (fun n => (Lit.int .i64 n).wf = true) x.Kind
  Cylinder : (fun n => (Lit.int .i64 n).wf = true) x.Cylinder
  Pulse : (fun n => (Lit.int .i64 n).wf = true) x.Pulse
structure wf_SJob (x : SJob) : Prop where
  Event : wf_SEvent x.Event
  Left : (fun n => (Lit.int .i64 n).wf = true) x.Left
  Armed : (fun _ => True) x.Armed
  At : (fun n => (Lit.int .i64 n).wf = true) x.At
structure wf_SScheduler (x : SScheduler) : Prop where
  Engine : wf_SEngine x.Engine
  Clock : wf_SClock x.Clock
  Timer : wf_STimer x.Timer
  Next : (wfL wf_SFire) x.Next
  Jobs : (wfL wf_SJob) x.Jobs
  Cut : (fun _ => True) x.Cut
structure wf_SWheel (x : SWheel) : Prop where
  Teeth : (fun n => (Lit.int .i64 n).wf = true) x.Teeth
  Missing : (fun n => (Lit.int .i64 n).wf = true) x.Missing
end Go.Pv
namespace Go.Proofs.YtldhbjpnlehpgaaGreat
open Go Go.Pv Go.Proofs
theorem reads_3 : Reads Tryz.prog 3 Pv.encI (fun n => (Lit.int .i64 n).wf = true) := reads_int Tryz.underlying3 (fun _ => rfl)
theorem reads_22 : Reads Tryz.prog 22 (Pv.encS Pv.encI) (wfL (fun n => (Lit.int .i64 n).wf = true)) := reads_slice (sz := 1) Tryz.underlying22 reads_3 (by kernel_rfl) (by decide) (fun _ => rfl)
theorem reads_24 : Reads Tryz.prog 24 q17 wf_SEngine := by
  intro H e w fuel cs x h
  obtain ⟨xs, n, _, rfl, hl, hlen, hf⟩ := DataW.trod_struct Tryz.underlying24 h
  obtain ⟨y0, w0, r0⟩ := field_of hlen hf 0 rfl reads_22
  obtain ⟨y1, w1, r1⟩ := field_of hlen hf 1 rfl reads_3
  exact ⟨⟨y0, y1⟩, ⟨w0, w1⟩, rtl_cons (o := 0) (o' := 1) r0 (by kernel_rfl) (rtl_cons (o := 1) (o' := 2) r1 (by kernel_rfl) (rtl_nil (hl.trans (by kernel_rfl))))⟩
theorem reads_4 : Reads Tryz.prog 4 Pv.encB (fun _ => True) := reads_bool Tryz.underlying4 (fun _ => rfl)
theorem reads_26 : Reads Tryz.prog 26 q36 wf_SClock := by
  intro H e w fuel cs x h
  obtain ⟨xs, n, _, rfl, hl, hlen, hf⟩ := DataW.trod_struct Tryz.underlying26 h
  obtain ⟨y0, w0, r0⟩ := field_of hlen hf 0 rfl reads_4
  obtain ⟨y1, w1, r1⟩ := field_of hlen hf 1 rfl reads_3
  obtain ⟨y2, w2, r2⟩ := field_of hlen hf 2 rfl reads_3
  obtain ⟨y3, w3, r3⟩ := field_of hlen hf 3 rfl reads_3
  obtain ⟨y4, w4, r4⟩ := field_of hlen hf 4 rfl reads_3
  obtain ⟨y5, w5, r5⟩ := field_of hlen hf 5 rfl reads_3
  exact ⟨⟨y0, y1, y2, y3, y4, y5⟩, ⟨w0, w1, w2, w3, w4, w5⟩, rtl_cons (o := 0) (o' := 1) r0 (by kernel_rfl) (rtl_cons (o := 1) (o' := 2) r1 (by kernel_rfl) (rtl_cons (o := 2) (o' := 3) r2 (by kernel_rfl) (rtl_cons (o := 3) (o' := 4) r3 (by kernel_rfl) (rtl_cons (o := 4) (o' := 5) r4 (by kernel_rfl) (rtl_cons (o := 5) (o' := 6) r5 (by kernel_rfl) (rtl_nil (hl.trans (by kernel_rfl))))))))⟩
theorem reads_74 : Reads Tryz.prog 74 q14 wf_SChannel := by
  intro H e w fuel cs x h
  obtain ⟨xs, n, _, rfl, hl, hlen, hf⟩ := DataW.trod_struct Tryz.underlying74 h
  obtain ⟨y0, w0, r0⟩ := field_of hlen hf 0 rfl reads_4
  obtain ⟨y1, w1, r1⟩ := field_of hlen hf 1 rfl reads_3
  obtain ⟨y2, w2, r2⟩ := field_of hlen hf 2 rfl reads_4
  obtain ⟨y3, w3, r3⟩ := field_of hlen hf 3 rfl reads_4
  exact ⟨⟨y0, y1, y2, y3⟩, ⟨w0, w1, w2, w3⟩, rtl_cons (o := 0) (o' := 1) r0 (by kernel_rfl) (rtl_cons (o := 1) (o' := 2) r1 (by kernel_rfl) (rtl_cons (o := 2) (o' := 3) r2 (by kernel_rfl) (rtl_cons (o := 3) (o' := 4) r3 (by kernel_rfl) (rtl_nil (hl.trans (by kernel_rfl))))))⟩
theorem reads_27 : Reads Tryz.prog 27 (Pv.encS q14) (wfL wf_SChannel) := reads_slice (sz := 4) Tryz.underlying27 reads_74 (by kernel_rfl) (by decide) (fun _ => rfl)
theorem reads_29 : Reads Tryz.prog 29 q183 wf_STimer := by
  intro H e w fuel cs x h
  obtain ⟨xs, n, _, rfl, hl, hlen, hf⟩ := DataW.trod_struct Tryz.underlying29 h
  obtain ⟨y0, w0, r0⟩ := field_of hlen hf 0 rfl reads_3
  obtain ⟨y1, w1, r1⟩ := field_of hlen hf 1 rfl reads_27
  exact ⟨⟨y0, y1⟩, ⟨w0, w1⟩, rtl_cons (o := 0) (o' := 1) r0 (by kernel_rfl) (rtl_cons (o := 1) (o' := 2) r1 (by kernel_rfl) (rtl_nil (hl.trans (by kernel_rfl))))⟩
theorem reads_55 : Reads Tryz.prog 55 q12 wf_SFire := by
  intro H e w fuel cs x h
  obtain ⟨xs, n, _, rfl, hl, hlen, hf⟩ := DataW.trod_struct Tryz.underlying55 h
  obtain ⟨y0, w0, r0⟩ := field_of hlen hf 0 rfl reads_3
  obtain ⟨y1, w1, r1⟩ := field_of hlen hf 1 rfl reads_3
  obtain ⟨y2, w2, r2⟩ := field_of hlen hf 2 rfl reads_3
  obtain ⟨y3, w3, r3⟩ := field_of hlen hf 3 rfl reads_3
  obtain ⟨y4, w4, r4⟩ := field_of hlen hf 4 rfl reads_3
  obtain ⟨y5, w5, r5⟩ := field_of hlen hf 5 rfl reads_3
  obtain ⟨y6, w6, r6⟩ := field_of hlen hf 6 rfl reads_3
  exact ⟨⟨y0, y1, y2, y3, y4, y5, y6⟩, ⟨w0, w1, w2, w3, w4, w5, w6⟩, rtl_cons (o := 0) (o' := 1) r0 (by kernel_rfl) (rtl_cons (o := 1) (o' := 2) r1 (by kernel_rfl) (rtl_cons (o := 2) (o' := 3) r2 (by kernel_rfl) (rtl_cons (o := 3) (o' := 4) r3 (by kernel_rfl) (rtl_cons (o := 4) (o' := 5) r4 (by kernel_rfl) (rtl_cons (o := 5) (o' := 6) r5 (by kernel_rfl) (rtl_cons (o := 6) (o' := 7) r6 (by kernel_rfl) (rtl_nil (hl.trans (by kernel_rfl)))))))))⟩
theorem reads_30 : Reads Tryz.prog 30 (Pv.encS q12) (wfL wf_SFire) := reads_slice (sz := 7) Tryz.underlying30 reads_55 (by kernel_rfl) (by decide) (fun _ => rfl)
theorem reads_68 : Reads Tryz.prog 68 q16 wf_SEvent := by
  intro H e w fuel cs x h
  obtain ⟨xs, n, _, rfl, hl, hlen, hf⟩ := DataW.trod_struct Tryz.underlying68 h
  obtain ⟨y0, w0, r0⟩ := field_of hlen hf 0 rfl reads_3
  obtain ⟨y1, w1, r1⟩ := field_of hlen hf 1 rfl reads_3
  obtain ⟨y2, w2, r2⟩ := field_of hlen hf 2 rfl reads_3
  obtain ⟨y3, w3, r3⟩ := field_of hlen hf 3 rfl reads_3
  exact ⟨⟨y0, y1, y2, y3⟩, ⟨w0, w1, w2, w3⟩, rtl_cons (o := 0) (o' := 1) r0 (by kernel_rfl) (rtl_cons (o := 1) (o' := 2) r1 (by kernel_rfl) (rtl_cons (o := 2) (o' := 3) r2 (by kernel_rfl) (rtl_cons (o := 3) (o' := 4) r3 (by kernel_rfl) (rtl_nil (hl.trans (by kernel_rfl))))))⟩
theorem reads_85 : Reads Tryz.prog 85 q15 wf_SJob := by
  intro H e w fuel cs x h
  obtain ⟨xs, n, _, rfl, hl, hlen, hf⟩ := DataW.trod_struct Tryz.underlying85 h
  obtain ⟨y0, w0, r0⟩ := field_of hlen hf 0 rfl reads_68
  obtain ⟨y1, w1, r1⟩ := field_of hlen hf 1 rfl reads_3
  obtain ⟨y2, w2, r2⟩ := field_of hlen hf 2 rfl reads_4
  obtain ⟨y3, w3, r3⟩ := field_of hlen hf 3 rfl reads_3
  exact ⟨⟨y0, y1, y2, y3⟩, ⟨w0, w1, w2, w3⟩, rtl_cons (o := 0) (o' := 4) r0 (by kernel_rfl) (rtl_cons (o := 4) (o' := 5) r1 (by kernel_rfl) (rtl_cons (o := 5) (o' := 6) r2 (by kernel_rfl) (rtl_cons (o := 6) (o' := 7) r3 (by kernel_rfl) (rtl_nil (hl.trans (by kernel_rfl))))))⟩
theorem reads_31 : Reads Tryz.prog 31 (Pv.encS q15) (wfL wf_SJob) := reads_slice (sz := 7) Tryz.underlying31 reads_85 (by kernel_rfl) (by decide) (fun _ => rfl)
theorem reads_33 : Reads Tryz.prog 33 q43 wf_SScheduler := by
  intro H e w fuel cs x h
  obtain ⟨xs, n, _, rfl, hl, hlen, hf⟩ := DataW.trod_struct Tryz.underlying33 h
  obtain ⟨y0, w0, r0⟩ := field_of hlen hf 0 rfl reads_24
  obtain ⟨y1, w1, r1⟩ := field_of hlen hf 1 rfl reads_26
  obtain ⟨y2, w2, r2⟩ := field_of hlen hf 2 rfl reads_29
  obtain ⟨y3, w3, r3⟩ := field_of hlen hf 3 rfl reads_30
  obtain ⟨y4, w4, r4⟩ := field_of hlen hf 4 rfl reads_31
  obtain ⟨y5, w5, r5⟩ := field_of hlen hf 5 rfl reads_4
  exact ⟨⟨y0, y1, y2, y3, y4, y5⟩, ⟨w0, w1, w2, w3, w4, w5⟩, rtl_cons (o := 0) (o' := 2) r0 (by kernel_rfl) (rtl_cons (o := 2) (o' := 8) r1 (by kernel_rfl) (rtl_cons (o := 8) (o' := 10) r2 (by kernel_rfl) (rtl_cons (o := 10) (o' := 11) r3 (by kernel_rfl) (rtl_cons (o := 11) (o' := 12) r4 (by kernel_rfl) (rtl_cons (o := 12) (o' := 13) r5 (by kernel_rfl) (rtl_nil (hl.trans (by kernel_rfl))))))))⟩
theorem arg_33 : ArgOk Tryz.prog 33 (fun x => q61 x) wf_SScheduler := arg_struct Tryz.underlying33 reads_33 (fun _ => rfl)
theorem arg_26 : ArgOk Tryz.prog 26 (fun x => q245 x) wf_SClock := arg_struct Tryz.underlying26 reads_26 (fun _ => rfl)
theorem arg_24 : ArgOk Tryz.prog 24 (fun x => q37 x) wf_SEngine := arg_struct Tryz.underlying24 reads_24 (fun _ => rfl)
theorem reads_46 : Reads Tryz.prog 46 q457 wf_SWheel := by
  intro H e w fuel cs x h
  obtain ⟨xs, n, _, rfl, hl, hlen, hf⟩ := DataW.trod_struct Tryz.underlying46 h
  obtain ⟨y0, w0, r0⟩ := field_of hlen hf 0 rfl reads_3
  obtain ⟨y1, w1, r1⟩ := field_of hlen hf 1 rfl reads_3
  exact ⟨⟨y0, y1⟩, ⟨w0, w1⟩, rtl_cons (o := 0) (o' := 1) r0 (by kernel_rfl) (rtl_cons (o := 1) (o' := 2) r1 (by kernel_rfl) (rtl_nil (hl.trans (by kernel_rfl))))⟩
theorem arg_46 : ArgOk Tryz.prog 46 (fun x => q209 x) wf_SWheel := arg_struct Tryz.underlying46 reads_46 (fun _ => rfl)
theorem arg_3 : ArgOk Tryz.prog 3 (fun x => .t (tI x)) (fun n => (Lit.int .i64 n).wf = true) := arg_int Tryz.underlying3 reads_3 (fun _ => rfl) (fun _ => rfl)
theorem reads_5 : Reads Tryz.prog 5 enc_u8 (fun n => (Lit.int .u8 n).wf = true) := reads_int Tryz.underlying5 (fun _ => rfl)
theorem arg_5 : ArgOk Tryz.prog 5 (fun x => .t (tK .u8 x)) (fun n => (Lit.int .u8 n).wf = true) := arg_int Tryz.underlying5 reads_5 (fun _ => rfl) (fun _ => rfl)
theorem arg_30 : ArgOk Tryz.prog 30 (fun x => .t (tS q12 x)) (wfL wf_SFire) := arg_slice Tryz.underlying30 reads_30 (fun _ => rfl)
end Go.Proofs.YtldhbjpnlehpgaaGreat
namespace Go.Pv
open Go.RowKit
theorem stepsN_inv {S R : Type} (f : Int → S → Option (Fl S R)) (I : Nat → S → Prop) : ∀ (k i : Nat) (s : S), I i s → (∀ j, i ≤ j → j < i + k → ∀ s, I j s → ∃ s', f (j : Int) s = some (.next s') ∧ I (j + 1) s') → ∃ s', stepsN f k (i : Int) s = some (.inl s') ∧ I (i + k) s'
  | 0, i, s, h, _ => ⟨s, rfl, h⟩
  | k + 1, i, s, h, st => by
    obtain ⟨s1, h1, h2⟩ := st i (Nat.le_refl _) (by omega) s h
    obtain ⟨s2, h3, h4⟩ := stepsN_inv f I k (i + 1) s1 h2 (fun j a b => st j (by omega) (by omega))
    refine ⟨s2, ?_, by rw [show i + (k + 1) = i + 1 + k by omega]; exact h4⟩
    simp only [stepsN, h1, Option.bind_some]
    exact h3
theorem rangeN_inv {S R : Type} (n : Nat) (hn : n ≤ 9223372036854775807) (f : Int → S → Option (Fl S R)) (I : Nat → S → Prop) (s : S) (h : I 0 s) (st : ∀ j, j < n → ∀ s, I j s → ∃ s', f (j : Int) s = some (.next s') ∧ I (j + 1) s') : ∃ s', rangeN (n : Int) f s = some (.inl s') ∧ I n s' := by
  obtain ⟨s', h1, h2⟩ := stepsN_inv f I n 0 s h (fun j _ b => st j (by omega))
  refine ⟨s', ?_, by simpa using h2⟩
  rw [rangeN_steps _ hn]
  exact h1
theorem stepsL_inv {α S R : Type} (f : Int → α → S → Option (Fl S R)) (l : List α) (I : Nat → S → Prop) : ∀ (r : List α) (i : Nat) (s : S), l.drop i = r → I i s → (∀ j (hj : j < l.length), i ≤ j → ∀ s, I j s → ∃ s', f (j : Int) l[j] s = some (.next s') ∧ I (j + 1) s') → ∃ s', stepsL f r (i : Int) s = some (.inl s') ∧ I (i + r.length) s'
  | [], i, s, _, h, _ => ⟨s, rfl, h⟩
  | y :: r, i, s, hd, h, st => by
    have hi : i < l.length := by
      have := congrArg List.length hd; simp at this; omega
    have hy : l[i] = y := by
      have h1 : l[i]? = some y := by rw [← List.head?_drop, hd]; rfl
      rw [List.getElem?_eq_getElem hi] at h1; exact Option.some.inj h1
    obtain ⟨s1, h1, h2⟩ := st i hi (Nat.le_refl _) s h
    obtain ⟨s2, h3, h4⟩ := stepsL_inv f l I r (i + 1) s1 (by rw [← List.drop_drop, hd]; rfl) h2 (fun j a b => st j a (by omega))
    refine ⟨s2, ?_, by rw [List.length_cons, show i + (r.length + 1) = i + 1 + r.length by omega]; exact h4⟩
    rw [hy] at h1
    simp only [stepsL, h1, Option.bind_some]
    exact h3
theorem rangeM_inv {α S R : Type} (l : List α) (hn : l.length ≤ 9223372036854775807) (f : Int → α → S → Option (Fl S R)) (I : Nat → S → Prop) (s : S) (h : I 0 s) (st : ∀ j (hj : j < l.length), ∀ s, I j s → ∃ s', f (j : Int) l[j] s = some (.next s') ∧ I (j + 1) s') : ∃ s', rangeM l f s = some (.inl s') ∧ I l.length s' := by
  obtain ⟨s', h1, h2⟩ := stepsL_inv f l I l 0 s rfl h (fun j a _ => st j a)
  refine ⟨s', ?_, by simpa using h2⟩
  rw [rangeM_steps _ hn]
  exact h1
theorem loopM_inv {S B : Type} {mb : S → Option (S ⊕ B)} (I : Nat → S → Prop) (J : B → Prop) : ∀ (n k : Nat) (s : S), I k s → (∀ j, k ≤ j → j < k + n → ∀ s, I j s → ∃ s', mb s = some (.inl s') ∧ I (j + 1) s') → (∀ s, I (k + n) s → ∃ b, mb s = some (.inr b) ∧ J b) → ∃ b, loopM mb s = some b ∧ J b
  | 0, k, s, h, _, e => by
    obtain ⟨b, h1, h2⟩ := e s h
    exact ⟨b, loopM_out h1, h2⟩
  | n + 1, k, s, h, st, e => by
    obtain ⟨s', h1, h2⟩ := st k (Nat.le_refl _) (by omega) s h
    rw [loopM_next h1]
    exact loopM_inv I J n (k + 1) s' h2 (fun j a b => st j (by omega) (by omega)) (by rw [show k + 1 + n = k + (n + 1) by omega]; exact e)
theorem setM_nat {α : Type} (l : List α) (i : Nat) (y : α) (h : i < l.length) : setM l (i : Int) y = some (l.set i y) := by
  unfold setM; rw [if_pos ⟨by omega, by omega⟩]; rfl
theorem getI_get {α : Type} (l : List α) (i : Nat) (h : i < l.length) : getI l (i : Int) = some l[i] := by rw [getI_nat, List.getElem?_eq_getElem h]
theorem makeM_nat {α : Type} (n : Nat) (h : n ≤ 1073741824) (z : α) : makeM (n : Int) z = some (List.replicate n z) := by
  unfold makeM; rw [if_pos ⟨by omega, by omega⟩]; rfl
theorem appendM_ok {α : Type} (l r : List α) (h : l.length + r.length ≤ 1073741824) : appendM l r = some (l ++ r) := by
  unfold appendM; rw [if_pos h]
theorem copyL_same {α : Type} (l r : List α) (h : l.length = r.length) : copyL l r = r := by
  unfold copyL; rw [h, List.take_length, ← h, List.drop_length, List.append_nil]
end Go.Pv
set_option linter.unusedSimpArgs false
namespace Go.Pv.Ev
open Go Go.Pv
theorem bsome {α : Type} (c : Bool) (x y : α) : (bif c then some x else some y) = some (bif c then x else y) := by cases c <;> rfl
theorem dec_of {p : Prop} [Decidable p] {b : Bool} (h : p ↔ b = true) : decide p = b := by
  cases b
  · exact decide_eq_false fun hp => Bool.noConfusion (h.1 hp)
  · exact decide_eq_true (h.2 rfl)
theorem q287 {α : Type} [DecidableEq α] : ∀ {l m : List α}, l.Nodup → (∀ x ∈ l, x ∈ m) → m.length ≤ l.length → l.Perm m
  | [], m, _, _, h => by
    have : m = [] := List.length_eq_zero_iff.1 (Nat.le_zero.1 h)
    rw [this]
  | x :: l, m, hn, hs, hl => by
    have hx : x ∈ m := hs x (List.mem_cons_self ..)
    have hp := List.perm_cons_erase hx
    rw [List.nodup_cons] at hn
    have hlen := hp.length_eq
    simp only [List.length_cons] at hlen hl
    refine (List.Perm.cons x (q287 hn.2 (fun y hy => ?_) (by omega))).trans hp.symm
    have hne : y ≠ x := fun h => hn.1 (h ▸ hy)
    exact (List.mem_erase_of_ne hne).2 (hs y (List.mem_cons_of_mem _ hy))
theorem q484 {l : List Int} : (∀ k, k < l.length → ((k : Int) + 1) ∈ l) ↔ (∀ x ∈ l, 1 ≤ x ∧ x ≤ l.length) ∧ l.Nodup := by
  have hN : ((List.range l.length).map (fun k : Nat => (k : Int) + 1)).Nodup := by
    unfold List.Nodup
    rw [List.pairwise_map]
    exact List.Pairwise.imp (fun {a b} h => by omega) List.pairwise_lt_range
  have hm : ∀ x : Int, x ∈ (List.range l.length).map (fun k : Nat => (k : Int) + 1) ↔ 1 ≤ x ∧ x ≤ l.length := by
    intro x
    rw [List.mem_map]
    constructor
    · rintro ⟨k, hk, rfl⟩
      rw [List.mem_range] at hk
      omega
    · intro h
      exact ⟨(x - 1).toNat, by rw [List.mem_range]; omega, by omega⟩
  constructor
  · intro h
    have hp : ((List.range l.length).map (fun k : Nat => (k : Int) + 1)).Perm l := q287 hN (fun x hx => by
      rw [List.mem_map] at hx
      obtain ⟨k, hk, rfl⟩ := hx
      exact h k (List.mem_range.1 hk)) (by simp)
    exact ⟨fun x hx => (hm x).1 (hp.mem_iff.2 hx), hp.nodup_iff.1 hN⟩
  · rintro ⟨h1, h2⟩ k hk
    have hp : l.Perm ((List.range l.length).map (fun k : Nat => (k : Int) + 1)) := q287 h2 (fun x hx => (hm x).2 (h1 x hx)) (by simp)
    exact hp.mem_iff.2 ((hm _).2 (by omega))
def idx (v : Int) : List Int → Nat → Int
  | [], _ => -1
  | x :: l, i => bif v == x then (i : Int) else idx v l (i + 1)
theorem q365 (v : Int) : ∀ (l : List Int) (i : Nat), (idx v l i = -1 ∧ v ∉ l) ∨ ∃ k : Nat, idx v l i = ((i + k : Nat) : Int) ∧ l[k]? = some v
  | [], i => .inl ⟨rfl, by simp⟩
  | x :: l, i => by
    unfold idx
    cases h : v == x
    · have hne : v ≠ x := by simpa using h
      rcases q365 v l (i + 1) with ⟨h1, h2⟩ | ⟨k, h1, h2⟩
      · exact .inl ⟨h1, by simp [hne, h2]⟩
      · exact .inr ⟨k + 1, by simp only [cond_false]; rw [h1]; omega, by simpa using h2⟩
    · have : v = x := by simpa using h
      exact .inr ⟨0, by simp, by simp [this]⟩
theorem idx_mem (v : Int) (l : List Int) : decide (idx v l 0 ≥ 0) = decide (v ∈ l) := by
  rcases q365 v l 0 with ⟨h1, h2⟩ | ⟨k, h1, h2⟩
  · rw [h1]; simp [h2]
  · rw [h1]; simp [List.mem_of_getElem? h2]
theorem q408 (v : Int) : ∀ (l : List Int) (i : Nat), (Option.bind (stepsL (fun (i : Int) x (_ : Unit) => bif (v == x) then (some (Fl.ret i)) else (some (Fl.next ()))) l (i : Int) ()) fun (t : Unit ⊕ Int) => match t with | .inl _ => (some (-1)) | .inr r2 => some r2) = some (idx v l i)
  | [], i => rfl
  | x :: l, i => by
    simp only [stepsL, idx]
    cases v == x
    · simpa using q408 v l (i + 1)
    · rfl
theorem q313 (s : List Int) (v : Int) (h : s.length ≤ 9223372036854775807) : q109 s v = some (idx v s 0) := by
  unfold q109
  have : rangeN (s.length : Int) (q230 s v) () = stepsL (fun (i : Int) x (_ : Unit) => bif (v == x) then (some (Fl.ret i)) else (some (Fl.next ()))) s 0 () := rangeN_list s h _ ()
  rw [this]
  exact q408 v s 0
theorem q359 (s : List Int) (v : Int) (h : s.length ≤ 9223372036854775807) : q73 s v = some (decide (v ∈ s)) := by
  unfold q73
  rw [q313 s v h, Option.bind_some, idx_mem]
def engP (e : SEngine) : Prop := 1 ≤ e.Order.length ∧ e.Order.length ≤ 8 ∧ 0 ≤ e.First ∧ e.First < 46080 ∧ (∀ x ∈ e.Order, 1 ≤ x ∧ x ≤ (e.Order.length : Int)) ∧ e.Order.Nodup
instance (e : SEngine) : Decidable (engP e) := by unfold engP; infer_instance
theorem q515 {e : SEngine} (h : (((decide ((e.Order.length : Int) < 1)) || (decide ((e.Order.length : Int) > 8))) || !((decide (e.First ≥ 0)) && (decide (e.First < 46080)))) = true) : ¬ engP e := by
  rintro ⟨h1, h2, h3, h4, _⟩
  simp only [Bool.or_eq_true, Bool.not_eq_true', Bool.and_eq_false_iff, decide_eq_true_eq, decide_eq_false_iff_not] at h
  omega
theorem q526 {e : SEngine} (h : (((decide ((e.Order.length : Int) < 1)) || (decide ((e.Order.length : Int) > 8))) || !((decide (e.First ≥ 0)) && (decide (e.First < 46080)))) = false) : 1 ≤ e.Order.length ∧ e.Order.length ≤ 8 ∧ 0 ≤ e.First ∧ e.First < 46080 := by
  simp only [Bool.or_eq_false_iff, Bool.not_eq_false', Bool.and_eq_true, decide_eq_true_eq, decide_eq_false_iff_not] at h
  omega
theorem all_range' {n : Nat} {p : Nat → Bool} : (List.range' 0 n).all p = true ↔ ∀ k, k < n → p k = true := by
  rw [List.all_eq_true]
  constructor
  · intro h k hk
    exact h k (by rw [List.mem_range'_1]; omega)
  · intro h k hk
    rw [List.mem_range'_1] at hk
    exact h k (by omega)
theorem q206 (e : SEngine) : q74 e = some (decide (engP e)) := by
  unfold q74 q151
  have hb : (Option.bind (bif ((decide ((e.Order.length : Int) < 1)) || (decide ((e.Order.length : Int) > 8))) then (some true) else (Option.bind (some ((decide (e.First ≥ 0)) && (decide (e.First < 46080)))) fun v => some (!v))) : (Bool → Option Bool) → Option Bool) = fun k => k (((decide ((e.Order.length : Int) < 1)) || (decide ((e.Order.length : Int) > 8))) || !((decide (e.First ≥ 0)) && (decide (e.First < 46080)))) := by
    funext k
    cases ((decide ((e.Order.length : Int) < 1)) || (decide ((e.Order.length : Int) > 8))) <;> rfl
  rw [hb]
  cases hh : (((decide ((e.Order.length : Int) < 1)) || (decide ((e.Order.length : Int) > 8))) || !((decide (e.First ≥ 0)) && (decide (e.First < 46080))))
  · obtain ⟨h1, h2, h3, h4⟩ := q526 hh
    have k := loopM_all (mb := q169 e) (fun i => (i : Int) + 1) (p := fun i => decide (((i : Int) + 1) ∈ e.Order)) (b0 := .inl ((e.Order.length : Int) + 1)) (b1 := .inr false) e.Order.length (by
      unfold q169
      rw [show decide ((e.Order.length : Int) + 1 ≤ (e.Order.length : Int)) = false by simp; omega]; rfl) (fun k hk => by
      unfold q169
      simp only [show decide ((k : Int) + 1 ≤ (e.Order.length : Int)) = true by simp; omega, cond_true, q359 e.Order _ (by omega), Option.bind_some, w64_of (n := (k : Int) + 1 + 1) (by omega) (by omega)]
      cases decide (((k : Int) + 1) ∈ e.Order) <;> rfl)
    simp only [show ((0 : Nat) : Int) + 1 = 1 from rfl] at k
    simp only [cond_false]
    rw [k]
    have hP : engP e ↔ (List.range' 0 e.Order.length).all (fun i => decide (((i : Int) + 1) ∈ e.Order)) = true := by
      rw [all_range']
      simp only [decide_eq_true_eq]
      rw [q484]
      unfold engP
      constructor
      · rintro ⟨_, _, _, _, h5, h6⟩; exact ⟨h5, h6⟩
      · rintro ⟨h5, h6⟩; exact ⟨h1, h2, h3, h4, h5, h6⟩
    rw [dec_of hP]
    cases (List.range' 0 e.Order.length).all (fun i => decide (((i : Int) + 1) ∈ e.Order)) <;> rfl
  · simp only [cond_true]
    rw [decide_eq_false (q515 hh)]
end Go.Pv.Ev
