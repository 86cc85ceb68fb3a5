/- This file joins: Ties, printed by gen.py: each function of the loaded program computes its model. -/
import Derived.Test.YtalanclpiojanaaGreatControlRunsG
import Derived.Test.YtalanclpiojanaaGreatProg
import Derived.KernelRfl
set_option linter.unusedSimpArgs false
set_option linter.unusedVariables false
namespace Go.Proofs.YtalanclpiojanaaGreat
open Go Go.Pv Go.Proofs
set_option maxRecDepth 100000 in
theorem q467 (t2 : STables) (speed : Int) (pressure : Int) (temperature : Int) : TieF Tryz.prog 169 [q29 t2, .t (tI speed), .t (tI pressure), .t (tI temperature)] (q311 t2 speed pressure temperature) (fun r => .tup [.t (tI r.1), .t (tI r.2)]) := by
 refine TieF.intro htab 33 [.tmp 8, .tmp 9] Tryz.call169 Tryz.func169 rfl rfl rfl (Nat.le_of_ble_eq_true rfl) fun w0 L => ?_
 refine TieS.seq (.region (.run 3 rfl (.nil (.seq ?_))))
 refine TieS.block (.seq (.region (.run 1 rfl (.call _ rfl rfl rfl (q293 t2) (fun _ => rfl) fun v => ?_))))
 refine TieO.run 2 rfl (.nil (.cond rfl ?_ ?_))
 ·exact TieS.seq (.region (.run 2 rfl (.nil (.ret ⟨.inl rfl, rfl⟩))))
 ·refine TieS.seq (.region (.run 1 rfl (.call _ rfl rfl rfl (q26 speed 0 12000) (fun _ => rfl) fun v2 => .run 2 rfl ?_)))
  refine TieO.bind 4 (fun b2 => ⟨[(1, .t (tI speed)), (2, .t (tI pressure)), (3, .t (tI temperature)), (4, .ptr 4 0), (22, .t (tB b2))], [(4, .box (q14 t2))]⟩) (TieO.split 18 rfl ?_ ?_) fun b2 _ => ?_
  ·exact TieO.run 4 rfl (.nil (.leaf ⟨rfl, .of rfl rfl⟩))
  ·exact TieO.run 1 rfl (.call _ rfl rfl rfl (q26 pressure 50 3000) (fun _ => rfl) fun v3 => .run 2 rfl (.nil (.leaf ⟨rfl, .of rfl rfl⟩)))
  refine TieO.run 1 rfl (.bind 4 (fun b3 => ⟨[(1, .t (tI speed)), (2, .t (tI pressure)), (3, .t (tI temperature)), (4, .ptr 4 0), (27, .t (tB b3))], [(4, .box (q14 t2))]⟩) (TieO.split 23 rfl ?_ ?_) fun b3 _ => ?_)
  ·exact TieO.run 4 rfl (.nil (.leaf ⟨rfl, .of rfl rfl⟩))
  ·exact TieO.run 1 rfl (.call _ rfl rfl rfl (q26 temperature (-40) 150) (fun _ => rfl) fun v4 => .run 2 rfl (.nil (.leaf ⟨rfl, .of rfl rfl⟩)))
  refine TieO.run 1 rfl (.nil (.cond rfl ?_ ?_))
  ·exact TieS.seq (.region (.run 2 rfl (.nil (.ret ⟨.inl rfl, rfl⟩))))
  ·refine TieS.skip (.endb (.seq (.region (.run 4 rfl ?_))))
   exact TieO.call _ rfl rfl rfl (q361 t2 speed pressure temperature) (fun _ => rfl) fun v5 => .run 2 rfl (.nil (.ret ⟨.inl rfl, rfl⟩))
set_option maxRecDepth 100000 in
theorem q289 (t2 : STables) (speed : Int) (charge : Int) : TieF Tryz.prog 230 [q29 t2, .t (tI speed), .t (tI charge)] (q140 t2 speed charge) (fun r => .tup [.t (tI r.1), .t (tI r.2)]) := by
 refine TieF.intro htab 26 [.tmp 6, .tmp 7] Tryz.call230 Tryz.func230 rfl rfl rfl (Nat.le_of_ble_eq_true rfl) fun w0 L => ?_
 refine TieS.seq (.region (.run 3 rfl (.nil (.seq ?_))))
 refine TieS.block (.seq (.region (.run 1 rfl (.call _ rfl rfl rfl (q236 t2) (fun _ => rfl) fun v => ?_))))
 refine TieO.run 2 rfl (.nil (.cond rfl ?_ ?_))
 ·exact TieS.seq (.region (.run 2 rfl (.nil (.ret ⟨.inl rfl, rfl⟩))))
 ·refine TieS.seq (.region (.run 1 rfl (.call _ rfl rfl rfl (q30 speed 0 12000) (fun _ => rfl) fun v2 => .run 2 rfl ?_)))
  refine TieO.bind 4 (fun b2 => ⟨[(1, .t (tI speed)), (2, .t (tI charge)), (3, .ptr 3 0), (20, .t (tB b2))], [(3, .box (q14 t2))]⟩) (TieO.split 16 rfl ?_ ?_) fun b2 _ => ?_
  ·exact TieO.run 4 rfl (.nil (.leaf ⟨rfl, .of rfl rfl⟩))
  ·exact TieO.run 1 rfl (.call _ rfl rfl rfl (q30 charge 0 1048576) (fun _ => rfl) fun v3 => .run 2 rfl (.nil (.leaf ⟨rfl, .of rfl rfl⟩)))
  refine TieO.run 1 rfl (.nil (.cond rfl ?_ ?_))
  ·exact TieS.seq (.region (.run 2 rfl (.nil (.ret ⟨.inl rfl, rfl⟩))))
  ·refine TieS.skip (.endb (.seq (.region (.run 4 rfl ?_))))
   exact TieO.call _ rfl rfl rfl (q148 t2.Torque speed charge) (fun _ => rfl) fun v4 => .run 2 rfl (.nil (.ret ⟨.inl rfl, rfl⟩))
set_option maxRecDepth 100000 in
theorem q203 (t2 : STables) (optimal : Int) (late : Int) (fired : Int) (cylinders : Int) : TieF Tryz.prog 231 [q29 t2, .t (tI optimal), .t (tI late), .t (tI fired), .t (tI cylinders)] (q97 t2 optimal late fired cylinders) (fun r => .t (tI r)) := by
 refine TieF.intro htab 22 [.tmp 10] Tryz.call231 Tryz.func231 rfl rfl rfl (Nat.le_of_ble_eq_true rfl) fun w0 L => ?_
 refine TieS.seq (.region (.run 2 rfl (.nil (.seq ?_))))
 refine TieS.region (.run 4 rfl (.call _ rfl rfl rfl (q257 t2.Efficiency late) (fun _ => rfl) fun v => .run 5 rfl (.quo rfl rfl rfl rfl rfl rfl fun q => ?_)))
 exact TieO.run 1 rfl (.nil (.ret ⟨.inl rfl, rfl⟩))
set_option maxRecDepth 100000 in
theorem q388 (late : Int) (c : STables) (c2 : Int) (c3 : Int) (c4 : Int) (c5 : Int) : TieF Tryz.prog 232 [.t (tI late), .el (q28 c), .el (Pv.encI c2), .el (Pv.encI c3), .el (Pv.encI c4), .el (Pv.encI c5)] (q106 late c c2 c3 c4 c5) (fun r => .t (tB r)) := by
 refine TieF.intro htab 16 [.tmp 7] Tryz.call232 Tryz.func232 rfl rfl rfl (Nat.le_of_ble_eq_true rfl) fun w0 L => ?_
 refine TieS.seq (.region (.run 1 rfl (.nil (.seq ?_))))
 exact TieX.pre fun v hv => TieS.draw 9 [_, _, _, _, _, _, _, _, _] [(0, .t (tI late)), (1, .el (q28 c)), (2, .el (Pv.encI c2)), (3, .el (Pv.encI c3)), (4, .el (Pv.encI c4)), (5, .el (Pv.encI c5))] [] mixed (.of rfl rfl) rfl rfl rfl rfl (.cons (.quiet rfl rfl rfl) (.cons (.quiet rfl rfl rfl) (.cons (.quiet rfl rfl rfl) (.cons (.quiet rfl rfl rfl) (.cons (.quiet rfl rfl rfl) (.cons (.callV (q203 c c2 late c3 c4) hv rfl rfl rfl rfl) (.cons (.quiet rfl rfl rfl) (.cons (.quiet rfl rfl rfl) (.cons (.quiet rfl rfl rfl) (.nil)))))))))) (.nil (.ret ⟨.inl rfl, rfl⟩))
set_option maxRecDepth 100000 in
theorem q443 (t2 : STables) (speed : Int) (charge : Int) (most : Int) (cylinders : Int) : TieF Tryz.prog 170 [q29 t2, .t (tI speed), .t (tI charge), .t (tI most), .t (tI cylinders)] (q112 t2 speed charge most cylinders) (fun r => .tup [.t (tI r.1), .t (tI r.2.1), .t (tI r.2.2)]) := by
 refine TieF.intro htab 49 [.cell 10 3, .tmp 11, .tmp 12] Tryz.call170 Tryz.func170 rfl rfl rfl (Nat.le_of_ble_eq_true rfl) fun w0 L => ?_
 refine TieS.seq (.region (.run 6 rfl (.nil (.scope (by intro r l s h; first | (cases h.1; done) | (rcases h.1 with h | h <;> cases h; done) | (revert h; split <;> intro h <;> first | (cases h.1; done) | (rcases h.1 with h | h <;> cases h; done))) ?_))))
 refine TieS.seq (.region (.run 3 rfl (.call _ rfl rfl rfl (q289 t2 speed charge) (fun _ => rfl) fun r2 => .run 6 rfl ?_)))
 refine TieO.nil (.seq (.block (.seq (.region ?_))))
 refine TieO.run 3 rfl (.nil (.cond rfl ?_ ?_))
 ·exact TieS.seq (.region (.run 4 rfl (.nil (.ret ⟨.inl rfl, rfl⟩))))
 ·refine TieS.seq (.region (.run 1 rfl (.call _ rfl rfl rfl (q30 cylinders 1 8) (fun _ => rfl) fun v => .run 2 rfl ?_)))
  refine TieO.selOr (v := decide (most < 0)) 3 29 (fun b => ⟨[(5, .ptr 5 0), (8, .ptr 8 0), (9, .ptr 9 0), (10, .ptr 10 0), (13, .ptr 13 0), (32, .t (tB b))], [(5, .box (q14 t2)), (8, .box [.t (tI most)]), (9, .box [.t (tI cylinders)]), (10, .box [.t (tI 0)]), (13, .box [.t (tI r2.1)])]⟩) rfl ?_ ?_ ?_
  ·exact TieO.run 3 rfl (.nil (.leaf ⟨rfl, .of rfl rfl⟩))
  ·exact TieO.run 3 rfl (.nil (.leaf ⟨rfl, .of rfl rfl⟩))
  refine TieO.run 1 rfl (.nil (.cond rfl ?_ ?_))
  ·exact TieS.seq (.region (.run 3 rfl (.nil (.ret ⟨.inl rfl, rfl⟩))))
  ·refine TieS.skip (.endb (.seq (.region (.run 2 rfl ?_))))
   refine TieO.nil (.seq (.label (.seq (.block ?_))))
   refine TieS.loop (fun t => ⟨[(5, .ptr 5 0), (8, .ptr 8 0), (9, .ptr 9 0), (10, .ptr 10 0), (13, .ptr 13 0)], [(5, .box (q14 t2)), (8, .box [.t (tI most)]), (9, .box [.t (tI cylinders)]), (10, .box [.t (tI t)]), (13, .box [.t (tI r2.1)])]⟩) (fun b e σ' => match b with | .inl t => e = .exit 1 ∧ Sub ⟨[(5, .ptr 5 0), (8, .ptr 8 0), (9, .ptr 9 0), (10, .ptr 10 0), (13, .ptr 13 0)], [(5, .box (q14 t2)), (8, .box [.t (tI most)]), (9, .box [.t (tI cylinders)]), (10, .box [.t (tI t)]), (13, .box [.t (tI r2.1)])]⟩ σ' | .inr t => False) (.of rfl rfl) ?_ ?_
   ·intro f2
    refine TieS.seq (.seq (.region (.run 2 rfl (.nil ?_))))
    refine TieS.cond rfl ?_ ?_
    ·refine TieS.skip (.block (.seq (.seq (TieX.pre fun v2 hv2 => ?_))))
     refine TieS.draw 7 [_, _, _, _, _, _, _] [(5, .ptr 5 0), (8, .ptr 8 0), (9, .ptr 9 0), (10, .ptr 10 0), (13, .ptr 13 0)] [(5, .box (q14 t2)), (8, .box [.t (tI most)]), (9, .box [.t (tI cylinders)]), (10, .box [.t (tI f2)]), (13, .box [.t (tI r2.1)])] mixed (.of rfl rfl) rfl rfl rfl rfl (.cons (.quiet rfl rfl rfl) (.cons (.quiet rfl rfl rfl) (.cons (.quiet rfl rfl rfl) (.cons (.quiet rfl rfl rfl) (.cons (.callV (q203 t2 r2.1 2560 f2 cylinders) hv2 rfl rfl rfl rfl) (.cons (.quiet rfl rfl rfl) (.cons (.quiet rfl rfl rfl) (.nil)))))))) (.nil (.cond rfl ?_ ?_))
     ·exact TieS.exitOut rfl ⟨(fun h => by cases h), rfl, .of rfl rfl⟩
     ·refine TieS.skip (.region (.run 3 rfl (.nil (.endb ?_))))
      exact TieS.leaf ⟨rfl, .of rfl rfl⟩
    ·exact TieS.exitOut rfl ⟨(fun h => by cases h), rfl, .of rfl rfl⟩
   rintro (f3 | r) e σ' _ hq
   ·obtain ⟨rfl, hs⟩ := hq
    refine TieX.exit rfl (TieX.sub hs ?_)
    refine TieS.seq (.region (.frzBox 5 rfl rfl (.frzBox 13 rfl rfl (.frzBox 9 rfl rfl ?_))))
    refine TieO.frzBox 8 rfl rfl (.run 1 rfl (.callS _ rfl rfl rfl (q91 2560 232 [q28 t2, Pv.encI r2.1, Pv.encI f3, Pv.encI cylinders, Pv.encI most] (fun x0 => q106 x0 t2 r2.1 f3 cylinders most) (fun x0 => q388 x0 t2 r2.1 f3 cylinders most)) (fun _ => rfl) (fun _ => rfl) fun v3 => .run 1 rfl (.nil ?_)))
    exact TieS.seq (.region (.run 5 rfl (.nil (.ret ⟨.inl rfl, rfl⟩))))
   ·exact hq.elim
set_option maxRecDepth 100000 in
theorem q416 (t2 : STables) (speed : Int) (charge : Int) (late : Int) (fired : Int) (cylinders : Int) : TieF Tryz.prog 171 [q29 t2, .t (tI speed), .t (tI charge), .t (tI late), .t (tI fired), .t (tI cylinders)] (q226 t2 speed charge late fired cylinders) (fun r => .tup [.t (tI r.1), .t (tI r.2)]) := by
 refine TieF.intro htab 48 [.tmp 12, .tmp 13] Tryz.call171 Tryz.func171 rfl rfl rfl (Nat.le_of_ble_eq_true rfl) fun w0 L => ?_
 refine TieS.seq (.region (.run 3 rfl (.nil (.seq ?_))))
 refine TieS.region (.run 3 rfl (.call _ rfl rfl rfl (q289 t2 speed charge) (fun _ => rfl) fun r2 => .run 5 rfl (.nil ?_)))
 refine TieS.seq (.block (.seq (.region (.run 3 rfl ?_))))
 refine TieO.nil (.cond rfl ?_ ?_)
 ·exact TieS.seq (.region (.run 3 rfl (.nil (.ret ⟨.inl rfl, rfl⟩))))
 ·refine TieS.seq (.region (.run 1 rfl (.call _ rfl rfl rfl (q30 late 0 2560) (fun _ => rfl) fun v => .run 2 rfl ?_)))
  refine TieO.bind 4 (fun b2 => ⟨[(3, .t (tI late)), (4, .t (tI fired)), (5, .t (tI cylinders)), (6, .ptr 6 0), (14, .t (tI r2.1)), (35, .t (tB b2))], [(6, .box (q14 t2))]⟩) (TieO.split 31 rfl ?_ ?_) fun b2 _ => ?_
  ·exact TieO.run 4 rfl (.nil (.leaf ⟨rfl, .of rfl rfl⟩))
  ·exact TieO.run 1 rfl (.call _ rfl rfl rfl (q30 cylinders 1 8) (fun _ => rfl) fun v2 => .run 2 rfl (.nil (.leaf ⟨rfl, .of rfl rfl⟩)))
  refine TieO.run 1 rfl (.bind 5 (fun b3 => ⟨[(3, .t (tI late)), (4, .t (tI fired)), (5, .t (tI cylinders)), (6, .ptr 6 0), (14, .t (tI r2.1)), (41, .t (tB b3))], [(6, .box (q14 t2))]⟩) (TieO.split 36 rfl ?_ ?_) fun b3 _ => ?_)
  ·exact TieO.run 5 rfl (.nil (.leaf ⟨rfl, .of rfl rfl⟩))
  ·exact TieO.run 2 rfl (.call _ rfl rfl rfl (q30 fired 0 cylinders) (fun _ => rfl) fun v3 => .run 2 rfl (.nil (.leaf ⟨rfl, .of rfl rfl⟩)))
  refine TieO.run 1 rfl (.nil (.cond rfl ?_ ?_))
  ·exact TieS.seq (.region (.run 2 rfl (.nil (.ret ⟨.inl rfl, rfl⟩))))
  ·refine TieS.skip (.endb (.seq (.region (.run 5 rfl ?_))))
   exact TieO.call _ rfl rfl rfl (q203 t2 r2.1 late fired cylinders) (fun _ => rfl) fun v4 => .run 2 rfl (.nil (.ret ⟨.inl rfl, rfl⟩))
set_option maxRecDepth 100000 in
set_option maxHeartbeats 4000000 in
theorem q349 (s : Scontrol_step) : TieG Tryz.prog 84 [.ptr 1000000 0] [(1000000, .box (lset (q10 s) [(63, .own 1000001)])), (1000001, .rows 79 7 s.out.Fires.length (s.out.Fires.map q12))] (q129 s) (fun _ => .tup []) (fun r => [(1000000, .box (lset (q10 r) [(63, .own 1000001)])), (1000001, .rows 79 7 r.out.Fires.length (r.out.Fires.map q12))]) := by
 refine TieG.intro htab 119 [] Tryz.call84 Tryz.func84 rfl rfl rfl (Nat.le_of_ble_eq_true rfl) fun w0 L => ?_
 refine TieS.seq (.region (.run 7 rfl (.nil (.seq ?_))))
 refine TieS.region (.run 1 rfl (.nil (.seq (.bind (Q₁ := fun t e σ' => e = .normal ∧ Sub ⟨[(0, .ptr 1000000 0), (2, .t (tI (s.e.Order.length : Int))), (3, .t (tI t.1))], [(1000000, .box (lset (q10 (u17_6 s t.2)) [(63, .own 1000001)])), (1000001, .rows 79 7 s.out.Fires.length (s.out.Fires.map q12))]⟩ σ') ?_ ?_))))
 ·refine TieX.pre fun r2 hr2 => TieS.draws 27 (bm 28 0) (bm 28 134217727) ⟨[(0, .ptr 1000000 0), (2, .t (tI (s.e.Order.length : Int))), (3, .t (tI 0)), (33, .t (tI r2.2))], [(1000000, .box (lset (q10 (u17_6 s r2.1)) [(63, .own 1000001)])), (1000001, .rows 79 7 s.out.Fires.length (s.out.Fires.map q12))]⟩ mixed (fun _ _ _ h => by cases h.1) rfl rfl rfl rfl ?_ ?_
  ·refine TieA.have_ (fuel₁ := 8) (l₁ := (bm 28 1048575)) (σ₁ := ⟨[(0, .ptr 1000000 0), (2, .t (tI (s.e.Order.length : Int))), (3, .t (tI 0)), (11, .ptr 1000000 0), (15, .agg [.t (tS Pv.encI s.t.Air.X), .t (tS Pv.encI s.t.Air.Y), .t (tS (Pv.encS Pv.encI) s.t.Air.Z), .t (tS Pv.encI s.t.Spark.X), .t (tS Pv.encI s.t.Spark.Y), .t (tS (Pv.encS Pv.encI) s.t.Spark.Z), .t (tS Pv.encI s.t.Torque.X), .t (tS Pv.encI s.t.Torque.Y), .t (tS (Pv.encS Pv.encI) s.t.Torque.Z), .t (tS Pv.encI s.t.Wish.X), .t (tS Pv.encI s.t.Wish.Y), .t (tS (Pv.encS Pv.encI) s.t.Wish.Z), .t (tS Pv.encI s.t.AirTemp.X), .t (tS Pv.encI s.t.AirTemp.Y), .t (tS Pv.encI s.t.Dwell.X), .t (tS Pv.encI s.t.Dwell.Y), .t (tS Pv.encI s.t.Dead.X), .t (tS Pv.encI s.t.Dead.Y), .t (tS Pv.encI s.t.Efficiency.X), .t (tS Pv.encI s.t.Efficiency.Y), .t (tI s.t.Idle.P), .t (tI s.t.Idle.I), .t (tI s.t.Idle.Low), .t (tI s.t.Idle.High)]), (20, .t (tI s.i.Speed)), (25, .t (tI s.i.Pressure)), (30, .t (tI s.i.AirTemp))], [(1000000, .box (lset (q10 s) [(63, .own 1000001)])), (1000001, .rows 79 7 s.out.Fires.length (s.out.Fires.map q12))]⟩) ?_ fun A_2 => ?_
   ·refine TieA.all [20] (by kernel_rfl) rfl (AllA.cons (σ₁ := ⟨[(0, .ptr 1000000 0), (2, .t (tI (s.e.Order.length : Int))), (3, .t (tI 0)), (11, .ptr 1000000 0), (31, .tup [.t (tI r2.1), .t (tI r2.2)])], [(1000000, .box (lset (q10 s) [(63, .own 1000001)])), (1000001, .rows 79 7 s.out.Fires.length (s.out.Fires.map q12))]⟩) _ rfl rfl ?_ ?_ ?_)
    ·refine TieO.withH hr2 (TieO.call _ rfl rfl rfl (q467 s.t s.i.Speed s.i.Pressure s.i.AirTemp) (fun _ => rfl) (TieO.ifH ?_))
     exact TieO.nil (TieS.leaf ⟨rfl, .of rfl rfl⟩)
    ·refine TieA.mv 21 rfl (.inl rfl) rfl (by kernel_rfl) rfl (.all [22, 23] (by kernel_rfl) rfl (AllA.run _ rfl rfl rfl ?_ ?_))
     ·refine TieA.nP 24 rfl rfl rfl (by kernel_rfl) rfl (.fP 25 rfl rfl rfl (by kernel_rfl) rfl rfl rfl (.all [23, 26] (by kernel_rfl) rfl (AllA.run _ rfl rfl rfl ?_ ?_)))
      ·refine TieA.all [26] (by kernel_rfl) rfl (AllA.run _ rfl rfl rfl ?_ ?_)
       ·exact TieA.done (.of rfl rfl)
       exact AllA.nil
      refine AllA.run _ rfl rfl rfl ?_ ?_
      ·refine TieA.all [23] (by kernel_rfl) rfl (AllA.run _ rfl rfl rfl ?_ ?_)
       ·exact TieA.done (.of rfl rfl)
       exact AllA.nil
      exact AllA.nil
     refine AllA.run _ rfl rfl rfl ?_ ?_
     ·refine TieA.all [22] (by kernel_rfl) rfl (AllA.run _ rfl rfl rfl ?_ ?_)
      ·refine TieA.nP 24 rfl rfl rfl (by kernel_rfl) rfl (.fP 25 rfl rfl rfl (by kernel_rfl) rfl rfl rfl (.all [26] (by kernel_rfl) rfl (AllA.run _ rfl rfl rfl ?_ ?_)))
       ·exact TieA.done (.of rfl rfl)
       exact AllA.nil
      exact AllA.nil
     exact AllA.nil
    exact AllA.nil
   refine TieA.have_ (fuel₁ := 9) (l₁ := (bm 28 524287)) (σ₁ := ⟨[(0, .ptr 1000000 0), (2, .t (tI (s.e.Order.length : Int))), (3, .t (tI 0)), (11, .ptr 1000000 0), (15, .agg [.t (tS Pv.encI s.t.Air.X), .t (tS Pv.encI s.t.Air.Y), .t (tS (Pv.encS Pv.encI) s.t.Air.Z), .t (tS Pv.encI s.t.Spark.X), .t (tS Pv.encI s.t.Spark.Y), .t (tS (Pv.encS Pv.encI) s.t.Spark.Z), .t (tS Pv.encI s.t.Torque.X), .t (tS Pv.encI s.t.Torque.Y), .t (tS (Pv.encS Pv.encI) s.t.Torque.Z), .t (tS Pv.encI s.t.Wish.X), .t (tS Pv.encI s.t.Wish.Y), .t (tS (Pv.encS Pv.encI) s.t.Wish.Z), .t (tS Pv.encI s.t.AirTemp.X), .t (tS Pv.encI s.t.AirTemp.Y), .t (tS Pv.encI s.t.Dwell.X), .t (tS Pv.encI s.t.Dwell.Y), .t (tS Pv.encI s.t.Dead.X), .t (tS Pv.encI s.t.Dead.Y), .t (tS Pv.encI s.t.Efficiency.X), .t (tS Pv.encI s.t.Efficiency.Y), .t (tI s.t.Idle.P), .t (tI s.t.Idle.I), .t (tI s.t.Idle.Low), .t (tI s.t.Idle.High)]), (20, .t (tI s.i.Speed)), (25, .t (tI s.i.Pressure)), (29, .ptr 1000000 50)], [(1000000, .box (lset (q10 s) [(63, .own 1000001)])), (1000001, .rows 79 7 s.out.Fires.length (s.out.Fires.map q12))]⟩) ?_ fun A_1 => ?_
   ·exact TieA.all [19] (by kernel_rfl) rfl (AllA.runTo _ rfl rfl rfl (.of rfl rfl) A_2 (AllA.nil))
   refine TieA.have_ (fuel₁ := 9) (l₁ := (bm 28 1032191)) (σ₁ := ⟨[(0, .ptr 1000000 0), (2, .t (tI (s.e.Order.length : Int))), (3, .t (tI 0)), (11, .ptr 1000000 0), (15, .agg [.t (tS Pv.encI s.t.Air.X), .t (tS Pv.encI s.t.Air.Y), .t (tS (Pv.encS Pv.encI) s.t.Air.Z), .t (tS Pv.encI s.t.Spark.X), .t (tS Pv.encI s.t.Spark.Y), .t (tS (Pv.encS Pv.encI) s.t.Spark.Z), .t (tS Pv.encI s.t.Torque.X), .t (tS Pv.encI s.t.Torque.Y), .t (tS (Pv.encS Pv.encI) s.t.Torque.Z), .t (tS Pv.encI s.t.Wish.X), .t (tS Pv.encI s.t.Wish.Y), .t (tS (Pv.encS Pv.encI) s.t.Wish.Z), .t (tS Pv.encI s.t.AirTemp.X), .t (tS Pv.encI s.t.AirTemp.Y), .t (tS Pv.encI s.t.Dwell.X), .t (tS Pv.encI s.t.Dwell.Y), .t (tS Pv.encI s.t.Dead.X), .t (tS Pv.encI s.t.Dead.Y), .t (tS Pv.encI s.t.Efficiency.X), .t (tS Pv.encI s.t.Efficiency.Y), .t (tI s.t.Idle.P), .t (tI s.t.Idle.I), .t (tI s.t.Idle.Low), .t (tI s.t.Idle.High)]), (20, .t (tI s.i.Speed)), (24, .ptr 1000000 49), (30, .t (tI s.i.AirTemp))], [(1000000, .box (lset (q10 s) [(63, .own 1000001)])), (1000001, .rows 79 7 s.out.Fires.length (s.out.Fires.map q12))]⟩) ?_ fun A_3 => ?_
   ·exact TieA.all [14] (by kernel_rfl) rfl (AllA.runTo _ rfl rfl rfl (.of rfl rfl) A_2 (AllA.nil))
   refine TieA.have_ (fuel₁ := 10) (l₁ := (bm 28 507903)) (σ₁ := ⟨[(0, .ptr 1000000 0), (2, .t (tI (s.e.Order.length : Int))), (3, .t (tI 0)), (11, .ptr 1000000 0), (15, .agg [.t (tS Pv.encI s.t.Air.X), .t (tS Pv.encI s.t.Air.Y), .t (tS (Pv.encS Pv.encI) s.t.Air.Z), .t (tS Pv.encI s.t.Spark.X), .t (tS Pv.encI s.t.Spark.Y), .t (tS (Pv.encS Pv.encI) s.t.Spark.Z), .t (tS Pv.encI s.t.Torque.X), .t (tS Pv.encI s.t.Torque.Y), .t (tS (Pv.encS Pv.encI) s.t.Torque.Z), .t (tS Pv.encI s.t.Wish.X), .t (tS Pv.encI s.t.Wish.Y), .t (tS (Pv.encS Pv.encI) s.t.Wish.Z), .t (tS Pv.encI s.t.AirTemp.X), .t (tS Pv.encI s.t.AirTemp.Y), .t (tS Pv.encI s.t.Dwell.X), .t (tS Pv.encI s.t.Dwell.Y), .t (tS Pv.encI s.t.Dead.X), .t (tS Pv.encI s.t.Dead.Y), .t (tS Pv.encI s.t.Efficiency.X), .t (tS Pv.encI s.t.Efficiency.Y), .t (tI s.t.Idle.P), .t (tI s.t.Idle.I), .t (tI s.t.Idle.Low), .t (tI s.t.Idle.High)]), (20, .t (tI s.i.Speed)), (24, .ptr 1000000 49), (29, .ptr 1000000 50)], [(1000000, .box (lset (q10 s) [(63, .own 1000001)])), (1000001, .rows 79 7 s.out.Fires.length (s.out.Fires.map q12))]⟩) ?_ fun A_0 => ?_
   ·exact TieA.all [14, 19] (by kernel_rfl) rfl (AllA.runTo _ rfl rfl rfl (.of rfl rfl) A_1 (AllA.runTo _ rfl rfl rfl (.of rfl rfl) A_3 (AllA.nil)))
   refine TieA.have_ (fuel₁ := 9) (l₁ := (bm 28 1048063)) (σ₁ := ⟨[(0, .ptr 1000000 0), (2, .t (tI (s.e.Order.length : Int))), (3, .t (tI 0)), (11, .ptr 1000000 0), (15, .agg [.t (tS Pv.encI s.t.Air.X), .t (tS Pv.encI s.t.Air.Y), .t (tS (Pv.encS Pv.encI) s.t.Air.Z), .t (tS Pv.encI s.t.Spark.X), .t (tS Pv.encI s.t.Spark.Y), .t (tS (Pv.encS Pv.encI) s.t.Spark.Z), .t (tS Pv.encI s.t.Torque.X), .t (tS Pv.encI s.t.Torque.Y), .t (tS (Pv.encS Pv.encI) s.t.Torque.Z), .t (tS Pv.encI s.t.Wish.X), .t (tS Pv.encI s.t.Wish.Y), .t (tS (Pv.encS Pv.encI) s.t.Wish.Z), .t (tS Pv.encI s.t.AirTemp.X), .t (tS Pv.encI s.t.AirTemp.Y), .t (tS Pv.encI s.t.Dwell.X), .t (tS Pv.encI s.t.Dwell.Y), .t (tS Pv.encI s.t.Dead.X), .t (tS Pv.encI s.t.Dead.Y), .t (tS Pv.encI s.t.Efficiency.X), .t (tS Pv.encI s.t.Efficiency.Y), .t (tI s.t.Idle.P), .t (tI s.t.Idle.I), .t (tI s.t.Idle.Low), .t (tI s.t.Idle.High)]), (19, .ptr 1000000 48), (25, .t (tI s.i.Pressure)), (30, .t (tI s.i.AirTemp))], [(1000000, .box (lset (q10 s) [(63, .own 1000001)])), (1000001, .rows 79 7 s.out.Fires.length (s.out.Fires.map q12))]⟩) ?_ fun A_5 => ?_
   ·exact TieA.all [9] (by kernel_rfl) rfl (AllA.runTo _ rfl rfl rfl (.of rfl rfl) A_2 (AllA.nil))
   refine TieA.have_ (fuel₁ := 10) (l₁ := (bm 28 523775)) (σ₁ := ⟨[(0, .ptr 1000000 0), (2, .t (tI (s.e.Order.length : Int))), (3, .t (tI 0)), (11, .ptr 1000000 0), (15, .agg [.t (tS Pv.encI s.t.Air.X), .t (tS Pv.encI s.t.Air.Y), .t (tS (Pv.encS Pv.encI) s.t.Air.Z), .t (tS Pv.encI s.t.Spark.X), .t (tS Pv.encI s.t.Spark.Y), .t (tS (Pv.encS Pv.encI) s.t.Spark.Z), .t (tS Pv.encI s.t.Torque.X), .t (tS Pv.encI s.t.Torque.Y), .t (tS (Pv.encS Pv.encI) s.t.Torque.Z), .t (tS Pv.encI s.t.Wish.X), .t (tS Pv.encI s.t.Wish.Y), .t (tS (Pv.encS Pv.encI) s.t.Wish.Z), .t (tS Pv.encI s.t.AirTemp.X), .t (tS Pv.encI s.t.AirTemp.Y), .t (tS Pv.encI s.t.Dwell.X), .t (tS Pv.encI s.t.Dwell.Y), .t (tS Pv.encI s.t.Dead.X), .t (tS Pv.encI s.t.Dead.Y), .t (tS Pv.encI s.t.Efficiency.X), .t (tS Pv.encI s.t.Efficiency.Y), .t (tI s.t.Idle.P), .t (tI s.t.Idle.I), .t (tI s.t.Idle.Low), .t (tI s.t.Idle.High)]), (19, .ptr 1000000 48), (25, .t (tI s.i.Pressure)), (29, .ptr 1000000 50)], [(1000000, .box (lset (q10 s) [(63, .own 1000001)])), (1000001, .rows 79 7 s.out.Fires.length (s.out.Fires.map q12))]⟩) ?_ fun A_4 => ?_
   ·exact TieA.all [9, 19] (by kernel_rfl) rfl (AllA.runTo _ rfl rfl rfl (.of rfl rfl) A_1 (AllA.runTo _ rfl rfl rfl (.of rfl rfl) A_5 (AllA.nil)))
   refine TieA.have_ (fuel₁ := 10) (l₁ := (bm 28 1031679)) (σ₁ := ⟨[(0, .ptr 1000000 0), (2, .t (tI (s.e.Order.length : Int))), (3, .t (tI 0)), (11, .ptr 1000000 0), (15, .agg [.t (tS Pv.encI s.t.Air.X), .t (tS Pv.encI s.t.Air.Y), .t (tS (Pv.encS Pv.encI) s.t.Air.Z), .t (tS Pv.encI s.t.Spark.X), .t (tS Pv.encI s.t.Spark.Y), .t (tS (Pv.encS Pv.encI) s.t.Spark.Z), .t (tS Pv.encI s.t.Torque.X), .t (tS Pv.encI s.t.Torque.Y), .t (tS (Pv.encS Pv.encI) s.t.Torque.Z), .t (tS Pv.encI s.t.Wish.X), .t (tS Pv.encI s.t.Wish.Y), .t (tS (Pv.encS Pv.encI) s.t.Wish.Z), .t (tS Pv.encI s.t.AirTemp.X), .t (tS Pv.encI s.t.AirTemp.Y), .t (tS Pv.encI s.t.Dwell.X), .t (tS Pv.encI s.t.Dwell.Y), .t (tS Pv.encI s.t.Dead.X), .t (tS Pv.encI s.t.Dead.Y), .t (tS Pv.encI s.t.Efficiency.X), .t (tS Pv.encI s.t.Efficiency.Y), .t (tI s.t.Idle.P), .t (tI s.t.Idle.I), .t (tI s.t.Idle.Low), .t (tI s.t.Idle.High)]), (19, .ptr 1000000 48), (24, .ptr 1000000 49), (30, .t (tI s.i.AirTemp))], [(1000000, .box (lset (q10 s) [(63, .own 1000001)])), (1000001, .rows 79 7 s.out.Fires.length (s.out.Fires.map q12))]⟩) ?_ fun A_6 => ?_
   ·exact TieA.all [9, 14] (by kernel_rfl) rfl (AllA.runTo _ rfl rfl rfl (.of rfl rfl) A_3 (AllA.runTo _ rfl rfl rfl (.of rfl rfl) A_5 (AllA.nil)))
   refine TieA.have_ (fuel₁ := 9) (l₁ := (bm 28 1048559)) (σ₁ := ⟨[(0, .ptr 1000000 0), (2, .t (tI (s.e.Order.length : Int))), (3, .t (tI 0)), (11, .ptr 1000000 0), (14, .ptr 1000000 0), (20, .t (tI s.i.Speed)), (25, .t (tI s.i.Pressure)), (30, .t (tI s.i.AirTemp))], [(1000000, .box (lset (q10 s) [(63, .own 1000001)])), (1000001, .rows 79 7 s.out.Fires.length (s.out.Fires.map q12))]⟩) ?_ fun A_8 => ?_
   ·exact TieA.all [4] (by kernel_rfl) rfl (AllA.runTo _ rfl rfl rfl (.of rfl rfl) A_2 (AllA.nil))
   refine TieA.have_ (fuel₁ := 10) (l₁ := (bm 28 524271)) (σ₁ := ⟨[(0, .ptr 1000000 0), (2, .t (tI (s.e.Order.length : Int))), (3, .t (tI 0)), (11, .ptr 1000000 0), (14, .ptr 1000000 0), (20, .t (tI s.i.Speed)), (25, .t (tI s.i.Pressure)), (29, .ptr 1000000 50)], [(1000000, .box (lset (q10 s) [(63, .own 1000001)])), (1000001, .rows 79 7 s.out.Fires.length (s.out.Fires.map q12))]⟩) ?_ fun A_7 => ?_
   ·exact TieA.all [4, 19] (by kernel_rfl) rfl (AllA.runTo _ rfl rfl rfl (.of rfl rfl) A_1 (AllA.runTo _ rfl rfl rfl (.of rfl rfl) A_8 (AllA.nil)))
   refine TieA.have_ (fuel₁ := 10) (l₁ := (bm 28 1032175)) (σ₁ := ⟨[(0, .ptr 1000000 0), (2, .t (tI (s.e.Order.length : Int))), (3, .t (tI 0)), (11, .ptr 1000000 0), (14, .ptr 1000000 0), (20, .t (tI s.i.Speed)), (24, .ptr 1000000 49), (30, .t (tI s.i.AirTemp))], [(1000000, .box (lset (q10 s) [(63, .own 1000001)])), (1000001, .rows 79 7 s.out.Fires.length (s.out.Fires.map q12))]⟩) ?_ fun A_9 => ?_
   ·exact TieA.all [4, 14] (by kernel_rfl) rfl (AllA.runTo _ rfl rfl rfl (.of rfl rfl) A_3 (AllA.runTo _ rfl rfl rfl (.of rfl rfl) A_8 (AllA.nil)))
   refine TieA.have_ (fuel₁ := 10) (l₁ := (bm 28 1048047)) (σ₁ := ⟨[(0, .ptr 1000000 0), (2, .t (tI (s.e.Order.length : Int))), (3, .t (tI 0)), (11, .ptr 1000000 0), (14, .ptr 1000000 0), (19, .ptr 1000000 48), (25, .t (tI s.i.Pressure)), (30, .t (tI s.i.AirTemp))], [(1000000, .box (lset (q10 s) [(63, .own 1000001)])), (1000001, .rows 79 7 s.out.Fires.length (s.out.Fires.map q12))]⟩) ?_ fun A_10 => ?_
   ·exact TieA.all [4, 9] (by kernel_rfl) rfl (AllA.runTo _ rfl rfl rfl (.of rfl rfl) A_5 (AllA.runTo _ rfl rfl rfl (.of rfl rfl) A_8 (AllA.nil)))
   refine TieA.mv 0 rfl (.inl rfl) rfl (by kernel_rfl) rfl (.mv 1 rfl (.inl rfl) rfl (by kernel_rfl) rfl (.nP 2 rfl rfl rfl (by kernel_rfl) rfl (.fP 3 rfl rfl rfl (by kernel_rfl) rfl rfl rfl (.mv 5 rfl (.inl rfl) rfl (by kernel_rfl) rfl ?_))))
   refine TieA.nP 6 rfl rfl rfl (by kernel_rfl) rfl (.fP 7 rfl rfl rfl (by kernel_rfl) rfl rfl rfl (.fP 8 rfl rfl rfl (by kernel_rfl) rfl rfl rfl (.mv 10 rfl (.inl rfl) rfl (by kernel_rfl) rfl (.nP 11 rfl rfl rfl (by kernel_rfl) rfl ?_))))
   refine TieA.fP 12 rfl rfl rfl (by kernel_rfl) rfl rfl rfl (.fP 13 rfl rfl rfl (by kernel_rfl) rfl rfl rfl (.mv 15 rfl (.inl rfl) rfl (by kernel_rfl) rfl (.nP 16 rfl rfl rfl (by kernel_rfl) rfl (.fP 17 rfl rfl rfl (by kernel_rfl) rfl rfl rfl ?_))))
   refine TieA.fP 18 rfl rfl rfl (by kernel_rfl) rfl rfl rfl (.all [4, 9, 14, 19] (by kernel_rfl) rfl (AllA.run _ rfl rfl rfl ?_ ?_))
   ·exact TieA.all [9, 14, 19] (by kernel_rfl) rfl (AllA.runTo _ rfl rfl rfl (.of rfl rfl) A_0 (AllA.runTo _ rfl rfl rfl (.of rfl rfl) A_4 (AllA.runTo _ rfl rfl rfl (.of rfl rfl) A_6 (AllA.nil))))
   refine AllA.run _ rfl rfl rfl ?_ ?_
   ·exact TieA.all [4, 14, 19] (by kernel_rfl) rfl (AllA.runTo _ rfl rfl rfl (.of rfl rfl) A_0 (AllA.runTo _ rfl rfl rfl (.of rfl rfl) A_7 (AllA.runTo _ rfl rfl rfl (.of rfl rfl) A_9 (AllA.nil))))
   refine AllA.run _ rfl rfl rfl ?_ ?_
   ·exact TieA.all [4, 9, 19] (by kernel_rfl) rfl (AllA.runTo _ rfl rfl rfl (.of rfl rfl) A_4 (AllA.runTo _ rfl rfl rfl (.of rfl rfl) A_7 (AllA.runTo _ rfl rfl rfl (.of rfl rfl) A_10 (AllA.nil))))
   refine AllA.run _ rfl rfl rfl ?_ ?_
   ·exact TieA.all [4, 9, 14] (by kernel_rfl) rfl (AllA.runTo _ rfl rfl rfl (.of rfl rfl) A_6 (AllA.runTo _ rfl rfl rfl (.of rfl rfl) A_9 (AllA.runTo _ rfl rfl rfl (.of rfl rfl) A_10 (AllA.nil))))
   exact AllA.nil
  exact TieO.run 1 rfl (.nil (.leaf ⟨rfl, .of rfl rfl⟩))
 rintro s2 e σ' _ ⟨rfl, hs⟩
 refine TieX.sub hs (TieS.seq (.region (.run 2 rfl (.callG [(1000000, 1000000), (1000001, 1000001)] [] (fun v => ⟨[(0, .ptr 1000000 0), (2, .t (tI (s.e.Order.length : Int))), (3, .t (tI s2.1)), (36, .ptr 1000000 0), (37, .t (tI s2.1)), (38, .tup [])], [(1000000, .box (lset (q10 v) [(63, .own 1000001)])), (1000001, .rows 79 7 v.out.Fires.length (v.out.Fires.map q12))]⟩) (q17 (u17_6 s s2.2) s2.1) rfl rfl rfl rfl rfl rfl rfl (fun _ => rfl) (fun _ => rfl) (fun _ => rfl) (fun _ => .of rfl rfl) fun v hv => ?_))))
 refine TieO.nil (.seq (.bind (Q₁ := fun t e σ' => e = .normal ∧ Sub ⟨[(0, .ptr 1000000 0), (2, .t (tI (s.e.Order.length : Int))), (3, .t (tI t.1))], [(1000000, .box (lset (q10 (u17_8 (u17_7 v t.2.1) t.2.2)) [(63, .own 1000001)])), (1000001, .rows 79 7 v.out.Fires.length (v.out.Fires.map q12))]⟩ σ') ?_ ?_))
 ·refine TieX.pre fun r3 hr3 => TieS.draws 31 (bm 32 0) (bm 32 2147483647) ⟨[(0, .ptr 1000000 0), (2, .t (tI (s.e.Order.length : Int))), (3, .t (tI s2.1)), (63, .t (tI r3.2.2))], [(1000000, .box (lset (q10 (u17_8 (u17_7 v r3.1) r3.2.1)) [(63, .own 1000001)])), (1000001, .rows 79 7 v.out.Fires.length (v.out.Fires.map q12))]⟩ mixed (fun _ _ _ h => by cases h.1) rfl rfl rfl rfl ?_ ?_
  ·refine TieA.have_ (fuel₁ := 4) (l₁ := (bm 32 268435455)) (σ₁ := ⟨[(0, .ptr 1000000 0), (2, .t (tI (s.e.Order.length : Int))), (3, .t (tI s2.1)), (41, .ptr 1000000 0), (62, .t (tI r3.2.1)), (63, .t (tI r3.2.2))], [(1000000, .box (lset (q10 (u17_7 v r3.1)) [(63, .own 1000001)])), (1000001, .rows 79 7 v.out.Fires.length (v.out.Fires.map q12))]⟩) ?_ fun A_4 => ?_
   ·refine TieA.nP 28 rfl rfl rfl (by kernel_rfl) rfl (.fP 29 rfl rfl rfl (by kernel_rfl) rfl rfl rfl (.all [30] (by kernel_rfl) rfl (AllA.run _ rfl rfl rfl ?_ ?_)))
    ·exact TieA.done (.of rfl rfl)
    exact AllA.nil
   refine TieA.have_ (fuel₁ := 5) (l₁ := (bm 32 134217727)) (σ₁ := ⟨[(0, .ptr 1000000 0), (2, .t (tI (s.e.Order.length : Int))), (3, .t (tI s2.1)), (41, .ptr 1000000 0), (61, .t (tI r3.1)), (62, .t (tI r3.2.1)), (63, .t (tI r3.2.2)), (65, .ptr 1000000 58)], [(1000000, .box (lset (q10 v) [(63, .own 1000001)])), (1000001, .rows 79 7 v.out.Fires.length (v.out.Fires.map q12))]⟩) ?_ fun A_3 => ?_
   ·exact TieA.all [27] (by kernel_rfl) rfl (AllA.runTo _ rfl rfl rfl (.of rfl rfl) A_4 (AllA.nil))
   refine TieA.have_ (fuel₁ := 5) (l₁ := (bm 32 251658239)) (σ₁ := ⟨[(0, .ptr 1000000 0), (2, .t (tI (s.e.Order.length : Int))), (3, .t (tI s2.1)), (39, .tup [.t (tI r3.1), .t (tI r3.2.1), .t (tI r3.2.2)]), (41, .ptr 1000000 0), (62, .t (tI r3.2.1))], [(1000000, .box (lset (q10 (u17_7 v r3.1)) [(63, .own 1000001)])), (1000001, .rows 79 7 v.out.Fires.length (v.out.Fires.map q12))]⟩) ?_ fun A_5 => ?_
   ·refine TieA.nP 28 rfl rfl rfl (by kernel_rfl) rfl (.fP 29 rfl rfl rfl (by kernel_rfl) rfl rfl rfl (.all [24, 30] (by kernel_rfl) rfl (AllA.run _ rfl rfl rfl ?_ ?_)))
    ·refine TieA.all [30] (by kernel_rfl) rfl (AllA.run _ rfl rfl rfl ?_ ?_)
     ·exact TieA.done (.of rfl rfl)
     exact AllA.nil
    refine AllA.run _ rfl rfl rfl ?_ ?_
    ·refine TieA.all [24] (by kernel_rfl) rfl (AllA.run _ rfl rfl rfl ?_ ?_)
     ·exact TieA.done (.of rfl rfl)
     exact AllA.nil
    exact AllA.nil
   refine TieA.have_ (fuel₁ := 5) (l₁ := (bm 32 260046847)) (σ₁ := ⟨[(0, .ptr 1000000 0), (2, .t (tI (s.e.Order.length : Int))), (3, .t (tI s2.1)), (39, .tup [.t (tI r3.1), .t (tI r3.2.1), .t (tI r3.2.2)]), (41, .ptr 1000000 0), (63, .t (tI r3.2.2))], [(1000000, .box (lset (q10 (u17_7 v r3.1)) [(63, .own 1000001)])), (1000001, .rows 79 7 v.out.Fires.length (v.out.Fires.map q12))]⟩) ?_ fun A_6 => ?_
   ·exact TieA.all [23] (by kernel_rfl) rfl (AllA.runTo _ rfl rfl rfl (.of rfl rfl) A_4 (AllA.nil))
   refine TieA.have_ (fuel₁ := 8) (l₁ := (bm 32 29360127)) (σ₁ := ⟨[(0, .ptr 1000000 0), (2, .t (tI (s.e.Order.length : Int))), (3, .t (tI s2.1)), (39, .tup [.t (tI r3.1), .t (tI r3.2.1), .t (tI r3.2.2)]), (40, .ptr 1000000 0), (41, .ptr 1000000 0), (62, .t (tI r3.2.1)), (63, .t (tI r3.2.2))], [(1000000, .box (lset (q10 v) [(63, .own 1000001)])), (1000001, .rows 79 7 v.out.Fires.length (v.out.Fires.map q12))]⟩) ?_ fun A_7 => ?_
   ·refine TieA.all [22] (by kernel_rfl) rfl (AllA.run _ rfl rfl rfl ?_ ?_)
    ·exact TieA.nP 25 rfl rfl rfl (by kernel_rfl) rfl (.fP 26 rfl rfl rfl (by kernel_rfl) rfl rfl rfl (.all [27] (by kernel_rfl) rfl (AllA.runTo _ rfl rfl rfl (.of rfl rfl) A_4 (AllA.nil))))
    exact AllA.nil
   refine TieA.have_ (fuel₁ := 12) (l₁ := (bm 32 1048575)) (σ₁ := ⟨[(0, .ptr 1000000 0), (2, .t (tI (s.e.Order.length : Int))), (3, .t (tI s2.1)), (40, .ptr 1000000 0), (41, .ptr 1000000 0), (45, .agg [.t (tS Pv.encI v.t.Air.X), .t (tS Pv.encI v.t.Air.Y), .t (tS (Pv.encS Pv.encI) v.t.Air.Z), .t (tS Pv.encI v.t.Spark.X), .t (tS Pv.encI v.t.Spark.Y), .t (tS (Pv.encS Pv.encI) v.t.Spark.Z), .t (tS Pv.encI v.t.Torque.X), .t (tS Pv.encI v.t.Torque.Y), .t (tS (Pv.encS Pv.encI) v.t.Torque.Z), .t (tS Pv.encI v.t.Wish.X), .t (tS Pv.encI v.t.Wish.Y), .t (tS (Pv.encS Pv.encI) v.t.Wish.Z), .t (tS Pv.encI v.t.AirTemp.X), .t (tS Pv.encI v.t.AirTemp.Y), .t (tS Pv.encI v.t.Dwell.X), .t (tS Pv.encI v.t.Dwell.Y), .t (tS Pv.encI v.t.Dead.X), .t (tS Pv.encI v.t.Dead.Y), .t (tS Pv.encI v.t.Efficiency.X), .t (tS Pv.encI v.t.Efficiency.Y), .t (tI v.t.Idle.P), .t (tI v.t.Idle.I), .t (tI v.t.Idle.Low), .t (tI v.t.Idle.High)]), (50, .t (tI v.i.Speed)), (54, .t (tI v.charge)), (58, .t (tI v.wanted)), (59, .t (tI (s.e.Order.length : Int)))], [(1000000, .box (lset (q10 v) [(63, .own 1000001)])), (1000001, .rows 79 7 v.out.Fires.length (v.out.Fires.map q12))]⟩) ?_ fun A_2 => ?_
   ·refine TieA.all [20] (by kernel_rfl) rfl (AllA.cons (σ₁ := ⟨[(0, .ptr 1000000 0), (2, .t (tI (s.e.Order.length : Int))), (3, .t (tI s2.1)), (40, .ptr 1000000 0), (41, .ptr 1000000 0), (60, .tup [.t (tI r3.1), .t (tI r3.2.1), .t (tI r3.2.2)])], [(1000000, .box (lset (q10 v) [(63, .own 1000001)])), (1000001, .rows 79 7 v.out.Fires.length (v.out.Fires.map q12))]⟩) _ rfl rfl ?_ ?_ ?_)
    ·refine TieO.withH hr3 (TieO.call _ rfl rfl rfl (q443 v.t v.i.Speed v.charge v.wanted (s.e.Order.length : Int)) (fun _ => rfl) (TieO.ifH ?_))
     exact TieO.nil (TieS.leaf ⟨rfl, .of rfl rfl⟩)
    ·refine TieA.mv 21 rfl (.inl rfl) rfl (by kernel_rfl) rfl (.all [22, 23, 24] (by kernel_rfl) rfl (AllA.run _ rfl rfl rfl ?_ ?_))
     ·refine TieA.nP 25 rfl rfl rfl (by kernel_rfl) rfl (.fP 26 rfl rfl rfl (by kernel_rfl) rfl rfl rfl (.all [23, 24, 27] (by kernel_rfl) rfl (AllA.run _ rfl rfl rfl ?_ ?_)))
      ·exact TieA.all [24, 27] (by kernel_rfl) rfl (AllA.runTo _ rfl rfl rfl (.of rfl rfl) A_3 (AllA.runTo _ rfl rfl rfl (.of rfl rfl) A_5 (AllA.nil)))
      refine AllA.run _ rfl rfl rfl ?_ ?_
      ·exact TieA.all [23, 27] (by kernel_rfl) rfl (AllA.runTo _ rfl rfl rfl (.of rfl rfl) A_3 (AllA.runTo _ rfl rfl rfl (.of rfl rfl) A_6 (AllA.nil)))
      refine AllA.run _ rfl rfl rfl ?_ ?_
      ·exact TieA.all [23, 24] (by kernel_rfl) rfl (AllA.runTo _ rfl rfl rfl (.of rfl rfl) A_5 (AllA.runTo _ rfl rfl rfl (.of rfl rfl) A_6 (AllA.nil)))
      exact AllA.nil
     refine AllA.run _ rfl rfl rfl ?_ ?_
     ·refine TieA.all [22, 24] (by kernel_rfl) rfl (AllA.run _ rfl rfl rfl ?_ ?_)
      ·refine TieA.nP 25 rfl rfl rfl (by kernel_rfl) rfl (.fP 26 rfl rfl rfl (by kernel_rfl) rfl rfl rfl (.all [24, 27] (by kernel_rfl) rfl (AllA.runTo _ rfl rfl rfl (.of rfl rfl) A_3 (AllA.runTo _ rfl rfl rfl (.of rfl rfl) A_5 ?_))))
       exact AllA.nil
      exact AllA.runTo _ rfl rfl rfl (.of rfl rfl) A_7 (AllA.nil)
     refine AllA.run _ rfl rfl rfl ?_ ?_
     ·refine TieA.all [22, 23] (by kernel_rfl) rfl (AllA.run _ rfl rfl rfl ?_ ?_)
      ·refine TieA.nP 25 rfl rfl rfl (by kernel_rfl) rfl (.fP 26 rfl rfl rfl (by kernel_rfl) rfl rfl rfl (.all [23, 27] (by kernel_rfl) rfl (AllA.runTo _ rfl rfl rfl (.of rfl rfl) A_3 (AllA.runTo _ rfl rfl rfl (.of rfl rfl) A_6 ?_))))
       exact AllA.nil
      exact AllA.runTo _ rfl rfl rfl (.of rfl rfl) A_7 (AllA.nil)
     exact AllA.nil
    exact AllA.nil
   refine TieA.have_ (fuel₁ := 13) (l₁ := (bm 32 786431)) (σ₁ := ⟨[(0, .ptr 1000000 0), (2, .t (tI (s.e.Order.length : Int))), (3, .t (tI s2.1)), (40, .ptr 1000000 0), (41, .ptr 1000000 0), (45, .agg [.t (tS Pv.encI v.t.Air.X), .t (tS Pv.encI v.t.Air.Y), .t (tS (Pv.encS Pv.encI) v.t.Air.Z), .t (tS Pv.encI v.t.Spark.X), .t (tS Pv.encI v.t.Spark.Y), .t (tS (Pv.encS Pv.encI) v.t.Spark.Z), .t (tS Pv.encI v.t.Torque.X), .t (tS Pv.encI v.t.Torque.Y), .t (tS (Pv.encS Pv.encI) v.t.Torque.Z), .t (tS Pv.encI v.t.Wish.X), .t (tS Pv.encI v.t.Wish.Y), .t (tS (Pv.encS Pv.encI) v.t.Wish.Z), .t (tS Pv.encI v.t.AirTemp.X), .t (tS Pv.encI v.t.AirTemp.Y), .t (tS Pv.encI v.t.Dwell.X), .t (tS Pv.encI v.t.Dwell.Y), .t (tS Pv.encI v.t.Dead.X), .t (tS Pv.encI v.t.Dead.Y), .t (tS Pv.encI v.t.Efficiency.X), .t (tS Pv.encI v.t.Efficiency.Y), .t (tI v.t.Idle.P), .t (tI v.t.Idle.I), .t (tI v.t.Idle.Low), .t (tI v.t.Idle.High)]), (50, .t (tI v.i.Speed)), (54, .t (tI v.charge)), (57, .ptr 1000000 56), (59, .t (tI (s.e.Order.length : Int)))], [(1000000, .box (lset (q10 v) [(63, .own 1000001)])), (1000001, .rows 79 7 v.out.Fires.length (v.out.Fires.map q12))]⟩) ?_ fun A_1 => ?_
   ·exact TieA.all [18] (by kernel_rfl) rfl (AllA.runTo _ rfl rfl rfl (.of rfl rfl) A_2 (AllA.nil))
   refine TieA.have_ (fuel₁ := 13) (l₁ := (bm 32 1032191)) (σ₁ := ⟨[(0, .ptr 1000000 0), (2, .t (tI (s.e.Order.length : Int))), (3, .t (tI s2.1)), (40, .ptr 1000000 0), (41, .ptr 1000000 0), (45, .agg [.t (tS Pv.encI v.t.Air.X), .t (tS Pv.encI v.t.Air.Y), .t (tS (Pv.encS Pv.encI) v.t.Air.Z), .t (tS Pv.encI v.t.Spark.X), .t (tS Pv.encI v.t.Spark.Y), .t (tS (Pv.encS Pv.encI) v.t.Spark.Z), .t (tS Pv.encI v.t.Torque.X), .t (tS Pv.encI v.t.Torque.Y), .t (tS (Pv.encS Pv.encI) v.t.Torque.Z), .t (tS Pv.encI v.t.Wish.X), .t (tS Pv.encI v.t.Wish.Y), .t (tS (Pv.encS Pv.encI) v.t.Wish.Z), .t (tS Pv.encI v.t.AirTemp.X), .t (tS Pv.encI v.t.AirTemp.Y), .t (tS Pv.encI v.t.Dwell.X), .t (tS Pv.encI v.t.Dwell.Y), .t (tS Pv.encI v.t.Dead.X), .t (tS Pv.encI v.t.Dead.Y), .t (tS Pv.encI v.t.Efficiency.X), .t (tS Pv.encI v.t.Efficiency.Y), .t (tI v.t.Idle.P), .t (tI v.t.Idle.I), .t (tI v.t.Idle.Low), .t (tI v.t.Idle.High)]), (50, .t (tI v.i.Speed)), (53, .ptr 1000000 57), (58, .t (tI v.wanted)), (59, .t (tI (s.e.Order.length : Int)))], [(1000000, .box (lset (q10 v) [(63, .own 1000001)])), (1000001, .rows 79 7 v.out.Fires.length (v.out.Fires.map q12))]⟩) ?_ fun A_8 => ?_
   ·exact TieA.all [14] (by kernel_rfl) rfl (AllA.runTo _ rfl rfl rfl (.of rfl rfl) A_2 (AllA.nil))
   refine TieA.have_ (fuel₁ := 14) (l₁ := (bm 32 770047)) (σ₁ := ⟨[(0, .ptr 1000000 0), (2, .t (tI (s.e.Order.length : Int))), (3, .t (tI s2.1)), (40, .ptr 1000000 0), (41, .ptr 1000000 0), (45, .agg [.t (tS Pv.encI v.t.Air.X), .t (tS Pv.encI v.t.Air.Y), .t (tS (Pv.encS Pv.encI) v.t.Air.Z), .t (tS Pv.encI v.t.Spark.X), .t (tS Pv.encI v.t.Spark.Y), .t (tS (Pv.encS Pv.encI) v.t.Spark.Z), .t (tS Pv.encI v.t.Torque.X), .t (tS Pv.encI v.t.Torque.Y), .t (tS (Pv.encS Pv.encI) v.t.Torque.Z), .t (tS Pv.encI v.t.Wish.X), .t (tS Pv.encI v.t.Wish.Y), .t (tS (Pv.encS Pv.encI) v.t.Wish.Z), .t (tS Pv.encI v.t.AirTemp.X), .t (tS Pv.encI v.t.AirTemp.Y), .t (tS Pv.encI v.t.Dwell.X), .t (tS Pv.encI v.t.Dwell.Y), .t (tS Pv.encI v.t.Dead.X), .t (tS Pv.encI v.t.Dead.Y), .t (tS Pv.encI v.t.Efficiency.X), .t (tS Pv.encI v.t.Efficiency.Y), .t (tI v.t.Idle.P), .t (tI v.t.Idle.I), .t (tI v.t.Idle.Low), .t (tI v.t.Idle.High)]), (50, .t (tI v.i.Speed)), (53, .ptr 1000000 57), (57, .ptr 1000000 56), (59, .t (tI (s.e.Order.length : Int)))], [(1000000, .box (lset (q10 v) [(63, .own 1000001)])), (1000001, .rows 79 7 v.out.Fires.length (v.out.Fires.map q12))]⟩) ?_ fun A_0 => ?_
   ·exact TieA.all [14, 18] (by kernel_rfl) rfl (AllA.runTo _ rfl rfl rfl (.of rfl rfl) A_1 (AllA.runTo _ rfl rfl rfl (.of rfl rfl) A_8 (AllA.nil)))
   refine TieA.have_ (fuel₁ := 13) (l₁ := (bm 32 1047551)) (σ₁ := ⟨[(0, .ptr 1000000 0), (2, .t (tI (s.e.Order.length : Int))), (3, .t (tI s2.1)), (40, .ptr 1000000 0), (41, .ptr 1000000 0), (45, .agg [.t (tS Pv.encI v.t.Air.X), .t (tS Pv.encI v.t.Air.Y), .t (tS (Pv.encS Pv.encI) v.t.Air.Z), .t (tS Pv.encI v.t.Spark.X), .t (tS Pv.encI v.t.Spark.Y), .t (tS (Pv.encS Pv.encI) v.t.Spark.Z), .t (tS Pv.encI v.t.Torque.X), .t (tS Pv.encI v.t.Torque.Y), .t (tS (Pv.encS Pv.encI) v.t.Torque.Z), .t (tS Pv.encI v.t.Wish.X), .t (tS Pv.encI v.t.Wish.Y), .t (tS (Pv.encS Pv.encI) v.t.Wish.Z), .t (tS Pv.encI v.t.AirTemp.X), .t (tS Pv.encI v.t.AirTemp.Y), .t (tS Pv.encI v.t.Dwell.X), .t (tS Pv.encI v.t.Dwell.Y), .t (tS Pv.encI v.t.Dead.X), .t (tS Pv.encI v.t.Dead.Y), .t (tS Pv.encI v.t.Efficiency.X), .t (tS Pv.encI v.t.Efficiency.Y), .t (tI v.t.Idle.P), .t (tI v.t.Idle.I), .t (tI v.t.Idle.Low), .t (tI v.t.Idle.High)]), (49, .ptr 1000000 48), (54, .t (tI v.charge)), (58, .t (tI v.wanted)), (59, .t (tI (s.e.Order.length : Int)))], [(1000000, .box (lset (q10 v) [(63, .own 1000001)])), (1000001, .rows 79 7 v.out.Fires.length (v.out.Fires.map q12))]⟩) ?_ fun A_10 => ?_
   ·exact TieA.all [10] (by kernel_rfl) rfl (AllA.runTo _ rfl rfl rfl (.of rfl rfl) A_2 (AllA.nil))
   refine TieA.have_ (fuel₁ := 14) (l₁ := (bm 32 785407)) (σ₁ := ⟨[(0, .ptr 1000000 0), (2, .t (tI (s.e.Order.length : Int))), (3, .t (tI s2.1)), (40, .ptr 1000000 0), (41, .ptr 1000000 0), (45, .agg [.t (tS Pv.encI v.t.Air.X), .t (tS Pv.encI v.t.Air.Y), .t (tS (Pv.encS Pv.encI) v.t.Air.Z), .t (tS Pv.encI v.t.Spark.X), .t (tS Pv.encI v.t.Spark.Y), .t (tS (Pv.encS Pv.encI) v.t.Spark.Z), .t (tS Pv.encI v.t.Torque.X), .t (tS Pv.encI v.t.Torque.Y), .t (tS (Pv.encS Pv.encI) v.t.Torque.Z), .t (tS Pv.encI v.t.Wish.X), .t (tS Pv.encI v.t.Wish.Y), .t (tS (Pv.encS Pv.encI) v.t.Wish.Z), .t (tS Pv.encI v.t.AirTemp.X), .t (tS Pv.encI v.t.AirTemp.Y), .t (tS Pv.encI v.t.Dwell.X), .t (tS Pv.encI v.t.Dwell.Y), .t (tS Pv.encI v.t.Dead.X), .t (tS Pv.encI v.t.Dead.Y), .t (tS Pv.encI v.t.Efficiency.X), .t (tS Pv.encI v.t.Efficiency.Y), .t (tI v.t.Idle.P), .t (tI v.t.Idle.I), .t (tI v.t.Idle.Low), .t (tI v.t.Idle.High)]), (49, .ptr 1000000 48), (54, .t (tI v.charge)), (57, .ptr 1000000 56), (59, .t (tI (s.e.Order.length : Int)))], [(1000000, .box (lset (q10 v) [(63, .own 1000001)])), (1000001, .rows 79 7 v.out.Fires.length (v.out.Fires.map q12))]⟩) ?_ fun A_9 => ?_
   ·exact TieA.all [10, 18] (by kernel_rfl) rfl (AllA.runTo _ rfl rfl rfl (.of rfl rfl) A_1 (AllA.runTo _ rfl rfl rfl (.of rfl rfl) A_10 (AllA.nil)))
   refine TieA.have_ (fuel₁ := 14) (l₁ := (bm 32 1031167)) (σ₁ := ⟨[(0, .ptr 1000000 0), (2, .t (tI (s.e.Order.length : Int))), (3, .t (tI s2.1)), (40, .ptr 1000000 0), (41, .ptr 1000000 0), (45, .agg [.t (tS Pv.encI v.t.Air.X), .t (tS Pv.encI v.t.Air.Y), .t (tS (Pv.encS Pv.encI) v.t.Air.Z), .t (tS Pv.encI v.t.Spark.X), .t (tS Pv.encI v.t.Spark.Y), .t (tS (Pv.encS Pv.encI) v.t.Spark.Z), .t (tS Pv.encI v.t.Torque.X), .t (tS Pv.encI v.t.Torque.Y), .t (tS (Pv.encS Pv.encI) v.t.Torque.Z), .t (tS Pv.encI v.t.Wish.X), .t (tS Pv.encI v.t.Wish.Y), .t (tS (Pv.encS Pv.encI) v.t.Wish.Z), .t (tS Pv.encI v.t.AirTemp.X), .t (tS Pv.encI v.t.AirTemp.Y), .t (tS Pv.encI v.t.Dwell.X), .t (tS Pv.encI v.t.Dwell.Y), .t (tS Pv.encI v.t.Dead.X), .t (tS Pv.encI v.t.Dead.Y), .t (tS Pv.encI v.t.Efficiency.X), .t (tS Pv.encI v.t.Efficiency.Y), .t (tI v.t.Idle.P), .t (tI v.t.Idle.I), .t (tI v.t.Idle.Low), .t (tI v.t.Idle.High)]), (49, .ptr 1000000 48), (53, .ptr 1000000 57), (58, .t (tI v.wanted)), (59, .t (tI (s.e.Order.length : Int)))], [(1000000, .box (lset (q10 v) [(63, .own 1000001)])), (1000001, .rows 79 7 v.out.Fires.length (v.out.Fires.map q12))]⟩) ?_ fun A_11 => ?_
   ·exact TieA.all [10, 14] (by kernel_rfl) rfl (AllA.runTo _ rfl rfl rfl (.of rfl rfl) A_8 (AllA.runTo _ rfl rfl rfl (.of rfl rfl) A_10 (AllA.nil)))
   refine TieA.have_ (fuel₁ := 13) (l₁ := (bm 32 1048543)) (σ₁ := ⟨[(0, .ptr 1000000 0), (2, .t (tI (s.e.Order.length : Int))), (3, .t (tI s2.1)), (40, .ptr 1000000 0), (41, .ptr 1000000 0), (44, .ptr 1000000 0), (50, .t (tI v.i.Speed)), (54, .t (tI v.charge)), (58, .t (tI v.wanted)), (59, .t (tI (s.e.Order.length : Int)))], [(1000000, .box (lset (q10 v) [(63, .own 1000001)])), (1000001, .rows 79 7 v.out.Fires.length (v.out.Fires.map q12))]⟩) ?_ fun A_13 => ?_
   ·exact TieA.all [5] (by kernel_rfl) rfl (AllA.runTo _ rfl rfl rfl (.of rfl rfl) A_2 (AllA.nil))
   refine TieA.have_ (fuel₁ := 14) (l₁ := (bm 32 786399)) (σ₁ := ⟨[(0, .ptr 1000000 0), (2, .t (tI (s.e.Order.length : Int))), (3, .t (tI s2.1)), (40, .ptr 1000000 0), (41, .ptr 1000000 0), (44, .ptr 1000000 0), (50, .t (tI v.i.Speed)), (54, .t (tI v.charge)), (57, .ptr 1000000 56), (59, .t (tI (s.e.Order.length : Int)))], [(1000000, .box (lset (q10 v) [(63, .own 1000001)])), (1000001, .rows 79 7 v.out.Fires.length (v.out.Fires.map q12))]⟩) ?_ fun A_12 => ?_
   ·exact TieA.all [5, 18] (by kernel_rfl) rfl (AllA.runTo _ rfl rfl rfl (.of rfl rfl) A_1 (AllA.runTo _ rfl rfl rfl (.of rfl rfl) A_13 (AllA.nil)))
   refine TieA.have_ (fuel₁ := 14) (l₁ := (bm 32 1032159)) (σ₁ := ⟨[(0, .ptr 1000000 0), (2, .t (tI (s.e.Order.length : Int))), (3, .t (tI s2.1)), (40, .ptr 1000000 0), (41, .ptr 1000000 0), (44, .ptr 1000000 0), (50, .t (tI v.i.Speed)), (53, .ptr 1000000 57), (58, .t (tI v.wanted)), (59, .t (tI (s.e.Order.length : Int)))], [(1000000, .box (lset (q10 v) [(63, .own 1000001)])), (1000001, .rows 79 7 v.out.Fires.length (v.out.Fires.map q12))]⟩) ?_ fun A_14 => ?_
   ·exact TieA.all [5, 14] (by kernel_rfl) rfl (AllA.runTo _ rfl rfl rfl (.of rfl rfl) A_8 (AllA.runTo _ rfl rfl rfl (.of rfl rfl) A_13 (AllA.nil)))
   refine TieA.have_ (fuel₁ := 14) (l₁ := (bm 32 1047519)) (σ₁ := ⟨[(0, .ptr 1000000 0), (2, .t (tI (s.e.Order.length : Int))), (3, .t (tI s2.1)), (40, .ptr 1000000 0), (41, .ptr 1000000 0), (44, .ptr 1000000 0), (49, .ptr 1000000 48), (54, .t (tI v.charge)), (58, .t (tI v.wanted)), (59, .t (tI (s.e.Order.length : Int)))], [(1000000, .box (lset (q10 v) [(63, .own 1000001)])), (1000001, .rows 79 7 v.out.Fires.length (v.out.Fires.map q12))]⟩) ?_ fun A_15 => ?_
   ·exact TieA.all [5, 10] (by kernel_rfl) rfl (AllA.runTo _ rfl rfl rfl (.of rfl rfl) A_10 (AllA.runTo _ rfl rfl rfl (.of rfl rfl) A_13 (AllA.nil)))
   refine TieA.mv 0 rfl (.inl rfl) rfl (by kernel_rfl) rfl (.mv 1 rfl (.inl rfl) rfl (by kernel_rfl) rfl (.mv 2 rfl (.inl rfl) rfl (by kernel_rfl) rfl (.nP 3 rfl rfl rfl (by kernel_rfl) rfl (.fP 4 rfl rfl rfl (by kernel_rfl) rfl rfl rfl ?_))))
   refine TieA.mv 6 rfl (.inl rfl) rfl (by kernel_rfl) rfl (.nP 7 rfl rfl rfl (by kernel_rfl) rfl (.fP 8 rfl rfl rfl (by kernel_rfl) rfl rfl rfl (.fP 9 rfl rfl rfl (by kernel_rfl) rfl rfl rfl (.mv 11 rfl (.inl rfl) rfl (by kernel_rfl) rfl ?_))))
   refine TieA.nP 12 rfl rfl rfl (by kernel_rfl) rfl (.fP 13 rfl rfl rfl (by kernel_rfl) rfl rfl rfl (.mv 15 rfl (.inl rfl) rfl (by kernel_rfl) rfl (.nP 16 rfl rfl rfl (by kernel_rfl) rfl (.fP 17 rfl rfl rfl (by kernel_rfl) rfl rfl rfl ?_))))
   refine TieA.mv 19 rfl (.inl rfl) rfl (by kernel_rfl) rfl (.all [5, 10, 14, 18] (by kernel_rfl) rfl (AllA.run _ rfl rfl rfl ?_ ?_))
   ·exact TieA.all [10, 14, 18] (by kernel_rfl) rfl (AllA.runTo _ rfl rfl rfl (.of rfl rfl) A_0 (AllA.runTo _ rfl rfl rfl (.of rfl rfl) A_9 (AllA.runTo _ rfl rfl rfl (.of rfl rfl) A_11 (AllA.nil))))
   refine AllA.run _ rfl rfl rfl ?_ ?_
   ·exact TieA.all [5, 14, 18] (by kernel_rfl) rfl (AllA.runTo _ rfl rfl rfl (.of rfl rfl) A_0 (AllA.runTo _ rfl rfl rfl (.of rfl rfl) A_12 (AllA.runTo _ rfl rfl rfl (.of rfl rfl) A_14 (AllA.nil))))
   refine AllA.run _ rfl rfl rfl ?_ ?_
   ·exact TieA.all [5, 10, 18] (by kernel_rfl) rfl (AllA.runTo _ rfl rfl rfl (.of rfl rfl) A_9 (AllA.runTo _ rfl rfl rfl (.of rfl rfl) A_12 (AllA.runTo _ rfl rfl rfl (.of rfl rfl) A_15 (AllA.nil))))
   refine AllA.run _ rfl rfl rfl ?_ ?_
   ·exact TieA.all [5, 10, 14] (by kernel_rfl) rfl (AllA.runTo _ rfl rfl rfl (.of rfl rfl) A_11 (AllA.runTo _ rfl rfl rfl (.of rfl rfl) A_14 (AllA.runTo _ rfl rfl rfl (.of rfl rfl) A_15 (AllA.nil))))
   exact AllA.nil
  exact TieO.run 1 rfl (.nil (.leaf ⟨rfl, .of rfl rfl⟩))
 rintro s3 e σ' _ ⟨rfl, hs⟩
 refine TieX.sub hs (TieS.seq (.region (.run 2 rfl (.callG [(1000000, 1000000), (1000001, 1000001)] [] (fun v2 => ⟨[(0, .ptr 1000000 0), (2, .t (tI (s.e.Order.length : Int))), (3, .t (tI s3.1)), (68, .ptr 1000000 0), (69, .t (tI s3.1)), (70, .tup [])], [(1000000, .box (lset (q10 v2) [(63, .own 1000001)])), (1000001, .rows 79 7 v2.out.Fires.length (v2.out.Fires.map q12))]⟩) (q17 (u17_8 (u17_7 v s3.2.1) s3.2.2) s3.1) rfl rfl rfl rfl rfl rfl rfl (fun _ => rfl) (fun _ => rfl) (fun _ => rfl) (fun _ => .of rfl rfl) fun v2 hv2 => ?_))))
 refine TieO.nil (.seq (.region (.run 6 rfl (.call _ rfl rfl rfl (q393 (s.e.Order.length : Int) v2.fired 0) (fun _ => rfl) fun r4 => ?_))))
 refine TieO.run 7 rfl (.nil (.seq (.region (.run 2 rfl ?_))))
 refine TieO.callG [(1000000, 1000000), (1000001, 1000001)] [] (fun v3 => ⟨[(0, .ptr 1000000 0), (2, .t (tI (s.e.Order.length : Int))), (3, .t (tI r4.2)), (68, .ptr 1000000 0), (69, .t (tI s3.1)), (70, .tup []), (71, .tup [.t (tS Pv.encB r4.1), .t (tI r4.2)]), (72, .ptr 1000000 0), (73, .t (tI (s.e.Order.length : Int))), (74, .ptr 1000000 0), (75, .ptr 1000000 0), (76, .ptr 1000000 58), (77, .t (tI v2.fired)), (78, .tup [.t (tS Pv.encB r4.1), .t (tI r4.2)]), (79, .t (tS Pv.encB r4.1)), (80, .t (tI r4.2)), (81, .ptr 1000000 0), (82, .ptr 1000000 60), (83, .ptr 1000000 0), (84, .t (tI r4.2)), (85, .tup [])], [(1000000, .box (lset (q10 v3) [(63, .own 1000001)])), (1000001, .rows 79 7 v3.out.Fires.length (v3.out.Fires.map q12))]⟩) (q17 (u17_9 v2 r4.1) r4.2) rfl rfl rfl rfl rfl rfl rfl (fun _ => rfl) (fun _ => rfl) (fun _ => rfl) (fun _ => .of rfl rfl) fun v3 hv3 => .nil (.seq (.bind (Q₁ := fun t e σ' => e = .normal ∧ Sub ⟨[(0, .ptr 1000000 0), (3, .t (tI t.1))], [(1000000, .box (lset (q10 (u17_11 v3 (u16_2 v3.out t.2))) [(63, .own 1000001)])), (1000001, .rows 79 7 v3.out.Fires.length (v3.out.Fires.map q12))]⟩ σ') ?_ ?_))
 ·refine TieX.pre fun r5 hr5 => TieS.draws 31 (bm 32 0) (bm 32 2147483647) ⟨[(0, .ptr 1000000 0), (3, .t (tI r4.2)), (112, .t (tI r5.2))], [(1000000, .box (lset (q10 (u17_11 v3 (u16_2 v3.out r5.1))) [(63, .own 1000001)])), (1000001, .rows 79 7 v3.out.Fires.length (v3.out.Fires.map q12))]⟩ mixed (fun _ _ _ h => by cases h.1) rfl rfl rfl rfl ?_ ?_
  ·refine TieA.have_ (fuel₁ := 9) (l₁ := (bm 32 8388607)) (σ₁ := ⟨[(0, .ptr 1000000 0), (3, .t (tI r4.2)), (87, .ptr 1000000 0), (91, .agg [.t (tS Pv.encI v3.t.Air.X), .t (tS Pv.encI v3.t.Air.Y), .t (tS (Pv.encS Pv.encI) v3.t.Air.Z), .t (tS Pv.encI v3.t.Spark.X), .t (tS Pv.encI v3.t.Spark.Y), .t (tS (Pv.encS Pv.encI) v3.t.Spark.Z), .t (tS Pv.encI v3.t.Torque.X), .t (tS Pv.encI v3.t.Torque.Y), .t (tS (Pv.encS Pv.encI) v3.t.Torque.Z), .t (tS Pv.encI v3.t.Wish.X), .t (tS Pv.encI v3.t.Wish.Y), .t (tS (Pv.encS Pv.encI) v3.t.Wish.Z), .t (tS Pv.encI v3.t.AirTemp.X), .t (tS Pv.encI v3.t.AirTemp.Y), .t (tS Pv.encI v3.t.Dwell.X), .t (tS Pv.encI v3.t.Dwell.Y), .t (tS Pv.encI v3.t.Dead.X), .t (tS Pv.encI v3.t.Dead.Y), .t (tS Pv.encI v3.t.Efficiency.X), .t (tS Pv.encI v3.t.Efficiency.Y), .t (tI v3.t.Idle.P), .t (tI v3.t.Idle.I), .t (tI v3.t.Idle.Low), .t (tI v3.t.Idle.High)]), (96, .t (tI v3.i.Speed)), (100, .t (tI v3.charge)), (104, .t (tI v3.late)), (108, .t (tI v3.fired)), (109, .t (tI (s.e.Order.length : Int)))], [(1000000, .box (lset (q10 v3) [(63, .own 1000001)])), (1000001, .rows 79 7 v3.out.Fires.length (v3.out.Fires.map q12))]⟩) ?_ fun A_3 => ?_
   ·refine TieA.all [23] (by kernel_rfl) rfl (AllA.cons (σ₁ := ⟨[(0, .ptr 1000000 0), (3, .t (tI r4.2)), (87, .ptr 1000000 0), (110, .tup [.t (tI r5.1), .t (tI r5.2)])], [(1000000, .box (lset (q10 v3) [(63, .own 1000001)])), (1000001, .rows 79 7 v3.out.Fires.length (v3.out.Fires.map q12))]⟩) _ rfl rfl ?_ ?_ ?_)
    ·refine TieO.withH hr5 (TieO.call _ rfl rfl rfl (q416 v3.t v3.i.Speed v3.charge v3.late v3.fired (s.e.Order.length : Int)) (fun _ => rfl) (TieO.ifH ?_))
     exact TieO.nil (TieS.leaf ⟨rfl, .of rfl rfl⟩)
    ·refine TieA.mv 24 rfl (.inl rfl) rfl (by kernel_rfl) rfl (.all [25, 26] (by kernel_rfl) rfl (AllA.run _ rfl rfl rfl ?_ ?_))
     ·refine TieA.nP 27 rfl rfl rfl (by kernel_rfl) rfl (.fP 28 rfl rfl rfl (by kernel_rfl) rfl rfl rfl (.fP 29 rfl rfl rfl (by kernel_rfl) rfl rfl rfl (.all [26, 30] (by kernel_rfl) rfl (AllA.run _ rfl rfl rfl ?_ ?_))))
      ·refine TieA.all [30] (by kernel_rfl) rfl (AllA.run _ rfl rfl rfl ?_ ?_)
       ·exact TieA.done (.of rfl rfl)
       exact AllA.nil
      refine AllA.run _ rfl rfl rfl ?_ ?_
      ·refine TieA.all [26] (by kernel_rfl) rfl (AllA.run _ rfl rfl rfl ?_ ?_)
       ·exact TieA.done (.of rfl rfl)
       exact AllA.nil
      exact AllA.nil
     refine AllA.run _ rfl rfl rfl ?_ ?_
     ·refine TieA.all [25] (by kernel_rfl) rfl (AllA.run _ rfl rfl rfl ?_ ?_)
      ·refine TieA.nP 27 rfl rfl rfl (by kernel_rfl) rfl (.fP 28 rfl rfl rfl (by kernel_rfl) rfl rfl rfl (.fP 29 rfl rfl rfl (by kernel_rfl) rfl rfl rfl (.all [30] (by kernel_rfl) rfl (AllA.run _ rfl rfl rfl ?_ ?_))))
       ·exact TieA.done (.of rfl rfl)
       exact AllA.nil
      exact AllA.nil
     exact AllA.nil
    exact AllA.nil
   refine TieA.have_ (fuel₁ := 10) (l₁ := (bm 32 6291455)) (σ₁ := ⟨[(0, .ptr 1000000 0), (3, .t (tI r4.2)), (87, .ptr 1000000 0), (91, .agg [.t (tS Pv.encI v3.t.Air.X), .t (tS Pv.encI v3.t.Air.Y), .t (tS (Pv.encS Pv.encI) v3.t.Air.Z), .t (tS Pv.encI v3.t.Spark.X), .t (tS Pv.encI v3.t.Spark.Y), .t (tS (Pv.encS Pv.encI) v3.t.Spark.Z), .t (tS Pv.encI v3.t.Torque.X), .t (tS Pv.encI v3.t.Torque.Y), .t (tS (Pv.encS Pv.encI) v3.t.Torque.Z), .t (tS Pv.encI v3.t.Wish.X), .t (tS Pv.encI v3.t.Wish.Y), .t (tS (Pv.encS Pv.encI) v3.t.Wish.Z), .t (tS Pv.encI v3.t.AirTemp.X), .t (tS Pv.encI v3.t.AirTemp.Y), .t (tS Pv.encI v3.t.Dwell.X), .t (tS Pv.encI v3.t.Dwell.Y), .t (tS Pv.encI v3.t.Dead.X), .t (tS Pv.encI v3.t.Dead.Y), .t (tS Pv.encI v3.t.Efficiency.X), .t (tS Pv.encI v3.t.Efficiency.Y), .t (tI v3.t.Idle.P), .t (tI v3.t.Idle.I), .t (tI v3.t.Idle.Low), .t (tI v3.t.Idle.High)]), (96, .t (tI v3.i.Speed)), (100, .t (tI v3.charge)), (104, .t (tI v3.late)), (107, .ptr 1000000 58), (109, .t (tI (s.e.Order.length : Int)))], [(1000000, .box (lset (q10 v3) [(63, .own 1000001)])), (1000001, .rows 79 7 v3.out.Fires.length (v3.out.Fires.map q12))]⟩) ?_ fun A_2 => ?_
   ·exact TieA.all [21] (by kernel_rfl) rfl (AllA.runTo _ rfl rfl rfl (.of rfl rfl) A_3 (AllA.nil))
   refine TieA.have_ (fuel₁ := 10) (l₁ := (bm 32 8257535)) (σ₁ := ⟨[(0, .ptr 1000000 0), (3, .t (tI r4.2)), (87, .ptr 1000000 0), (91, .agg [.t (tS Pv.encI v3.t.Air.X), .t (tS Pv.encI v3.t.Air.Y), .t (tS (Pv.encS Pv.encI) v3.t.Air.Z), .t (tS Pv.encI v3.t.Spark.X), .t (tS Pv.encI v3.t.Spark.Y), .t (tS (Pv.encS Pv.encI) v3.t.Spark.Z), .t (tS Pv.encI v3.t.Torque.X), .t (tS Pv.encI v3.t.Torque.Y), .t (tS (Pv.encS Pv.encI) v3.t.Torque.Z), .t (tS Pv.encI v3.t.Wish.X), .t (tS Pv.encI v3.t.Wish.Y), .t (tS (Pv.encS Pv.encI) v3.t.Wish.Z), .t (tS Pv.encI v3.t.AirTemp.X), .t (tS Pv.encI v3.t.AirTemp.Y), .t (tS Pv.encI v3.t.Dwell.X), .t (tS Pv.encI v3.t.Dwell.Y), .t (tS Pv.encI v3.t.Dead.X), .t (tS Pv.encI v3.t.Dead.Y), .t (tS Pv.encI v3.t.Efficiency.X), .t (tS Pv.encI v3.t.Efficiency.Y), .t (tI v3.t.Idle.P), .t (tI v3.t.Idle.I), .t (tI v3.t.Idle.Low), .t (tI v3.t.Idle.High)]), (96, .t (tI v3.i.Speed)), (100, .t (tI v3.charge)), (103, .ptr 1000000 59), (108, .t (tI v3.fired)), (109, .t (tI (s.e.Order.length : Int)))], [(1000000, .box (lset (q10 v3) [(63, .own 1000001)])), (1000001, .rows 79 7 v3.out.Fires.length (v3.out.Fires.map q12))]⟩) ?_ fun A_4 => ?_
   ·exact TieA.all [17] (by kernel_rfl) rfl (AllA.runTo _ rfl rfl rfl (.of rfl rfl) A_3 (AllA.nil))
   refine TieA.have_ (fuel₁ := 11) (l₁ := (bm 32 6160383)) (σ₁ := ⟨[(0, .ptr 1000000 0), (3, .t (tI r4.2)), (87, .ptr 1000000 0), (91, .agg [.t (tS Pv.encI v3.t.Air.X), .t (tS Pv.encI v3.t.Air.Y), .t (tS (Pv.encS Pv.encI) v3.t.Air.Z), .t (tS Pv.encI v3.t.Spark.X), .t (tS Pv.encI v3.t.Spark.Y), .t (tS (Pv.encS Pv.encI) v3.t.Spark.Z), .t (tS Pv.encI v3.t.Torque.X), .t (tS Pv.encI v3.t.Torque.Y), .t (tS (Pv.encS Pv.encI) v3.t.Torque.Z), .t (tS Pv.encI v3.t.Wish.X), .t (tS Pv.encI v3.t.Wish.Y), .t (tS (Pv.encS Pv.encI) v3.t.Wish.Z), .t (tS Pv.encI v3.t.AirTemp.X), .t (tS Pv.encI v3.t.AirTemp.Y), .t (tS Pv.encI v3.t.Dwell.X), .t (tS Pv.encI v3.t.Dwell.Y), .t (tS Pv.encI v3.t.Dead.X), .t (tS Pv.encI v3.t.Dead.Y), .t (tS Pv.encI v3.t.Efficiency.X), .t (tS Pv.encI v3.t.Efficiency.Y), .t (tI v3.t.Idle.P), .t (tI v3.t.Idle.I), .t (tI v3.t.Idle.Low), .t (tI v3.t.Idle.High)]), (96, .t (tI v3.i.Speed)), (100, .t (tI v3.charge)), (103, .ptr 1000000 59), (107, .ptr 1000000 58), (109, .t (tI (s.e.Order.length : Int)))], [(1000000, .box (lset (q10 v3) [(63, .own 1000001)])), (1000001, .rows 79 7 v3.out.Fires.length (v3.out.Fires.map q12))]⟩) ?_ fun A_1 => ?_
   ·exact TieA.all [17, 21] (by kernel_rfl) rfl (AllA.runTo _ rfl rfl rfl (.of rfl rfl) A_2 (AllA.runTo _ rfl rfl rfl (.of rfl rfl) A_4 (AllA.nil)))
   refine TieA.have_ (fuel₁ := 10) (l₁ := (bm 32 8380415)) (σ₁ := ⟨[(0, .ptr 1000000 0), (3, .t (tI r4.2)), (87, .ptr 1000000 0), (91, .agg [.t (tS Pv.encI v3.t.Air.X), .t (tS Pv.encI v3.t.Air.Y), .t (tS (Pv.encS Pv.encI) v3.t.Air.Z), .t (tS Pv.encI v3.t.Spark.X), .t (tS Pv.encI v3.t.Spark.Y), .t (tS (Pv.encS Pv.encI) v3.t.Spark.Z), .t (tS Pv.encI v3.t.Torque.X), .t (tS Pv.encI v3.t.Torque.Y), .t (tS (Pv.encS Pv.encI) v3.t.Torque.Z), .t (tS Pv.encI v3.t.Wish.X), .t (tS Pv.encI v3.t.Wish.Y), .t (tS (Pv.encS Pv.encI) v3.t.Wish.Z), .t (tS Pv.encI v3.t.AirTemp.X), .t (tS Pv.encI v3.t.AirTemp.Y), .t (tS Pv.encI v3.t.Dwell.X), .t (tS Pv.encI v3.t.Dwell.Y), .t (tS Pv.encI v3.t.Dead.X), .t (tS Pv.encI v3.t.Dead.Y), .t (tS Pv.encI v3.t.Efficiency.X), .t (tS Pv.encI v3.t.Efficiency.Y), .t (tI v3.t.Idle.P), .t (tI v3.t.Idle.I), .t (tI v3.t.Idle.Low), .t (tI v3.t.Idle.High)]), (96, .t (tI v3.i.Speed)), (99, .ptr 1000000 57), (104, .t (tI v3.late)), (108, .t (tI v3.fired)), (109, .t (tI (s.e.Order.length : Int)))], [(1000000, .box (lset (q10 v3) [(63, .own 1000001)])), (1000001, .rows 79 7 v3.out.Fires.length (v3.out.Fires.map q12))]⟩) ?_ fun A_6 => ?_
   ·exact TieA.all [13] (by kernel_rfl) rfl (AllA.runTo _ rfl rfl rfl (.of rfl rfl) A_3 (AllA.nil))
   refine TieA.have_ (fuel₁ := 11) (l₁ := (bm 32 6283263)) (σ₁ := ⟨[(0, .ptr 1000000 0), (3, .t (tI r4.2)), (87, .ptr 1000000 0), (91, .agg [.t (tS Pv.encI v3.t.Air.X), .t (tS Pv.encI v3.t.Air.Y), .t (tS (Pv.encS Pv.encI) v3.t.Air.Z), .t (tS Pv.encI v3.t.Spark.X), .t (tS Pv.encI v3.t.Spark.Y), .t (tS (Pv.encS Pv.encI) v3.t.Spark.Z), .t (tS Pv.encI v3.t.Torque.X), .t (tS Pv.encI v3.t.Torque.Y), .t (tS (Pv.encS Pv.encI) v3.t.Torque.Z), .t (tS Pv.encI v3.t.Wish.X), .t (tS Pv.encI v3.t.Wish.Y), .t (tS (Pv.encS Pv.encI) v3.t.Wish.Z), .t (tS Pv.encI v3.t.AirTemp.X), .t (tS Pv.encI v3.t.AirTemp.Y), .t (tS Pv.encI v3.t.Dwell.X), .t (tS Pv.encI v3.t.Dwell.Y), .t (tS Pv.encI v3.t.Dead.X), .t (tS Pv.encI v3.t.Dead.Y), .t (tS Pv.encI v3.t.Efficiency.X), .t (tS Pv.encI v3.t.Efficiency.Y), .t (tI v3.t.Idle.P), .t (tI v3.t.Idle.I), .t (tI v3.t.Idle.Low), .t (tI v3.t.Idle.High)]), (96, .t (tI v3.i.Speed)), (99, .ptr 1000000 57), (104, .t (tI v3.late)), (107, .ptr 1000000 58), (109, .t (tI (s.e.Order.length : Int)))], [(1000000, .box (lset (q10 v3) [(63, .own 1000001)])), (1000001, .rows 79 7 v3.out.Fires.length (v3.out.Fires.map q12))]⟩) ?_ fun A_5 => ?_
   ·exact TieA.all [13, 21] (by kernel_rfl) rfl (AllA.runTo _ rfl rfl rfl (.of rfl rfl) A_2 (AllA.runTo _ rfl rfl rfl (.of rfl rfl) A_6 (AllA.nil)))
   refine TieA.have_ (fuel₁ := 11) (l₁ := (bm 32 8249343)) (σ₁ := ⟨[(0, .ptr 1000000 0), (3, .t (tI r4.2)), (87, .ptr 1000000 0), (91, .agg [.t (tS Pv.encI v3.t.Air.X), .t (tS Pv.encI v3.t.Air.Y), .t (tS (Pv.encS Pv.encI) v3.t.Air.Z), .t (tS Pv.encI v3.t.Spark.X), .t (tS Pv.encI v3.t.Spark.Y), .t (tS (Pv.encS Pv.encI) v3.t.Spark.Z), .t (tS Pv.encI v3.t.Torque.X), .t (tS Pv.encI v3.t.Torque.Y), .t (tS (Pv.encS Pv.encI) v3.t.Torque.Z), .t (tS Pv.encI v3.t.Wish.X), .t (tS Pv.encI v3.t.Wish.Y), .t (tS (Pv.encS Pv.encI) v3.t.Wish.Z), .t (tS Pv.encI v3.t.AirTemp.X), .t (tS Pv.encI v3.t.AirTemp.Y), .t (tS Pv.encI v3.t.Dwell.X), .t (tS Pv.encI v3.t.Dwell.Y), .t (tS Pv.encI v3.t.Dead.X), .t (tS Pv.encI v3.t.Dead.Y), .t (tS Pv.encI v3.t.Efficiency.X), .t (tS Pv.encI v3.t.Efficiency.Y), .t (tI v3.t.Idle.P), .t (tI v3.t.Idle.I), .t (tI v3.t.Idle.Low), .t (tI v3.t.Idle.High)]), (96, .t (tI v3.i.Speed)), (99, .ptr 1000000 57), (103, .ptr 1000000 59), (108, .t (tI v3.fired)), (109, .t (tI (s.e.Order.length : Int)))], [(1000000, .box (lset (q10 v3) [(63, .own 1000001)])), (1000001, .rows 79 7 v3.out.Fires.length (v3.out.Fires.map q12))]⟩) ?_ fun A_7 => ?_
   ·exact TieA.all [13, 17] (by kernel_rfl) rfl (AllA.runTo _ rfl rfl rfl (.of rfl rfl) A_4 (AllA.runTo _ rfl rfl rfl (.of rfl rfl) A_6 (AllA.nil)))
   refine TieA.have_ (fuel₁ := 12) (l₁ := (bm 32 6152191)) (σ₁ := ⟨[(0, .ptr 1000000 0), (3, .t (tI r4.2)), (87, .ptr 1000000 0), (91, .agg [.t (tS Pv.encI v3.t.Air.X), .t (tS Pv.encI v3.t.Air.Y), .t (tS (Pv.encS Pv.encI) v3.t.Air.Z), .t (tS Pv.encI v3.t.Spark.X), .t (tS Pv.encI v3.t.Spark.Y), .t (tS (Pv.encS Pv.encI) v3.t.Spark.Z), .t (tS Pv.encI v3.t.Torque.X), .t (tS Pv.encI v3.t.Torque.Y), .t (tS (Pv.encS Pv.encI) v3.t.Torque.Z), .t (tS Pv.encI v3.t.Wish.X), .t (tS Pv.encI v3.t.Wish.Y), .t (tS (Pv.encS Pv.encI) v3.t.Wish.Z), .t (tS Pv.encI v3.t.AirTemp.X), .t (tS Pv.encI v3.t.AirTemp.Y), .t (tS Pv.encI v3.t.Dwell.X), .t (tS Pv.encI v3.t.Dwell.Y), .t (tS Pv.encI v3.t.Dead.X), .t (tS Pv.encI v3.t.Dead.Y), .t (tS Pv.encI v3.t.Efficiency.X), .t (tS Pv.encI v3.t.Efficiency.Y), .t (tI v3.t.Idle.P), .t (tI v3.t.Idle.I), .t (tI v3.t.Idle.Low), .t (tI v3.t.Idle.High)]), (96, .t (tI v3.i.Speed)), (99, .ptr 1000000 57), (103, .ptr 1000000 59), (107, .ptr 1000000 58), (109, .t (tI (s.e.Order.length : Int)))], [(1000000, .box (lset (q10 v3) [(63, .own 1000001)])), (1000001, .rows 79 7 v3.out.Fires.length (v3.out.Fires.map q12))]⟩) ?_ fun A_0 => ?_
   ·exact TieA.all [13, 17, 21] (by kernel_rfl) rfl (AllA.runTo _ rfl rfl rfl (.of rfl rfl) A_1 (AllA.runTo _ rfl rfl rfl (.of rfl rfl) A_5 (AllA.runTo _ rfl rfl rfl (.of rfl rfl) A_7 (AllA.nil))))
   refine TieA.have_ (fuel₁ := 10) (l₁ := (bm 32 8388095)) (σ₁ := ⟨[(0, .ptr 1000000 0), (3, .t (tI r4.2)), (87, .ptr 1000000 0), (91, .agg [.t (tS Pv.encI v3.t.Air.X), .t (tS Pv.encI v3.t.Air.Y), .t (tS (Pv.encS Pv.encI) v3.t.Air.Z), .t (tS Pv.encI v3.t.Spark.X), .t (tS Pv.encI v3.t.Spark.Y), .t (tS (Pv.encS Pv.encI) v3.t.Spark.Z), .t (tS Pv.encI v3.t.Torque.X), .t (tS Pv.encI v3.t.Torque.Y), .t (tS (Pv.encS Pv.encI) v3.t.Torque.Z), .t (tS Pv.encI v3.t.Wish.X), .t (tS Pv.encI v3.t.Wish.Y), .t (tS (Pv.encS Pv.encI) v3.t.Wish.Z), .t (tS Pv.encI v3.t.AirTemp.X), .t (tS Pv.encI v3.t.AirTemp.Y), .t (tS Pv.encI v3.t.Dwell.X), .t (tS Pv.encI v3.t.Dwell.Y), .t (tS Pv.encI v3.t.Dead.X), .t (tS Pv.encI v3.t.Dead.Y), .t (tS Pv.encI v3.t.Efficiency.X), .t (tS Pv.encI v3.t.Efficiency.Y), .t (tI v3.t.Idle.P), .t (tI v3.t.Idle.I), .t (tI v3.t.Idle.Low), .t (tI v3.t.Idle.High)]), (95, .ptr 1000000 48), (100, .t (tI v3.charge)), (104, .t (tI v3.late)), (108, .t (tI v3.fired)), (109, .t (tI (s.e.Order.length : Int)))], [(1000000, .box (lset (q10 v3) [(63, .own 1000001)])), (1000001, .rows 79 7 v3.out.Fires.length (v3.out.Fires.map q12))]⟩) ?_ fun A_10 => ?_
   ·exact TieA.all [9] (by kernel_rfl) rfl (AllA.runTo _ rfl rfl rfl (.of rfl rfl) A_3 (AllA.nil))
   refine TieA.have_ (fuel₁ := 11) (l₁ := (bm 32 6290943)) (σ₁ := ⟨[(0, .ptr 1000000 0), (3, .t (tI r4.2)), (87, .ptr 1000000 0), (91, .agg [.t (tS Pv.encI v3.t.Air.X), .t (tS Pv.encI v3.t.Air.Y), .t (tS (Pv.encS Pv.encI) v3.t.Air.Z), .t (tS Pv.encI v3.t.Spark.X), .t (tS Pv.encI v3.t.Spark.Y), .t (tS (Pv.encS Pv.encI) v3.t.Spark.Z), .t (tS Pv.encI v3.t.Torque.X), .t (tS Pv.encI v3.t.Torque.Y), .t (tS (Pv.encS Pv.encI) v3.t.Torque.Z), .t (tS Pv.encI v3.t.Wish.X), .t (tS Pv.encI v3.t.Wish.Y), .t (tS (Pv.encS Pv.encI) v3.t.Wish.Z), .t (tS Pv.encI v3.t.AirTemp.X), .t (tS Pv.encI v3.t.AirTemp.Y), .t (tS Pv.encI v3.t.Dwell.X), .t (tS Pv.encI v3.t.Dwell.Y), .t (tS Pv.encI v3.t.Dead.X), .t (tS Pv.encI v3.t.Dead.Y), .t (tS Pv.encI v3.t.Efficiency.X), .t (tS Pv.encI v3.t.Efficiency.Y), .t (tI v3.t.Idle.P), .t (tI v3.t.Idle.I), .t (tI v3.t.Idle.Low), .t (tI v3.t.Idle.High)]), (95, .ptr 1000000 48), (100, .t (tI v3.charge)), (104, .t (tI v3.late)), (107, .ptr 1000000 58), (109, .t (tI (s.e.Order.length : Int)))], [(1000000, .box (lset (q10 v3) [(63, .own 1000001)])), (1000001, .rows 79 7 v3.out.Fires.length (v3.out.Fires.map q12))]⟩) ?_ fun A_9 => ?_
   ·exact TieA.all [9, 21] (by kernel_rfl) rfl (AllA.runTo _ rfl rfl rfl (.of rfl rfl) A_2 (AllA.runTo _ rfl rfl rfl (.of rfl rfl) A_10 (AllA.nil)))
   refine TieA.have_ (fuel₁ := 11) (l₁ := (bm 32 8257023)) (σ₁ := ⟨[(0, .ptr 1000000 0), (3, .t (tI r4.2)), (87, .ptr 1000000 0), (91, .agg [.t (tS Pv.encI v3.t.Air.X), .t (tS Pv.encI v3.t.Air.Y), .t (tS (Pv.encS Pv.encI) v3.t.Air.Z), .t (tS Pv.encI v3.t.Spark.X), .t (tS Pv.encI v3.t.Spark.Y), .t (tS (Pv.encS Pv.encI) v3.t.Spark.Z), .t (tS Pv.encI v3.t.Torque.X), .t (tS Pv.encI v3.t.Torque.Y), .t (tS (Pv.encS Pv.encI) v3.t.Torque.Z), .t (tS Pv.encI v3.t.Wish.X), .t (tS Pv.encI v3.t.Wish.Y), .t (tS (Pv.encS Pv.encI) v3.t.Wish.Z), .t (tS Pv.encI v3.t.AirTemp.X), .t (tS Pv.encI v3.t.AirTemp.Y), .t (tS Pv.encI v3.t.Dwell.X), .t (tS Pv.encI v3.t.Dwell.Y), .t (tS Pv.encI v3.t.Dead.X), .t (tS Pv.encI v3.t.Dead.Y), .t (tS Pv.encI v3.t.Efficiency.X), .t (tS Pv.encI v3.t.Efficiency.Y), .t (tI v3.t.Idle.P), .t (tI v3.t.Idle.I), .t (tI v3.t.Idle.Low), .t (tI v3.t.Idle.High)]), (95, .ptr 1000000 48), (100, .t (tI v3.charge)), (103, .ptr 1000000 59), (108, .t (tI v3.fired)), (109, .t (tI (s.e.Order.length : Int)))], [(1000000, .box (lset (q10 v3) [(63, .own 1000001)])), (1000001, .rows 79 7 v3.out.Fires.length (v3.out.Fires.map q12))]⟩) ?_ fun A_11 => ?_
   ·exact TieA.all [9, 17] (by kernel_rfl) rfl (AllA.runTo _ rfl rfl rfl (.of rfl rfl) A_4 (AllA.runTo _ rfl rfl rfl (.of rfl rfl) A_10 (AllA.nil)))
   refine TieA.have_ (fuel₁ := 12) (l₁ := (bm 32 6159871)) (σ₁ := ⟨[(0, .ptr 1000000 0), (3, .t (tI r4.2)), (87, .ptr 1000000 0), (91, .agg [.t (tS Pv.encI v3.t.Air.X), .t (tS Pv.encI v3.t.Air.Y), .t (tS (Pv.encS Pv.encI) v3.t.Air.Z), .t (tS Pv.encI v3.t.Spark.X), .t (tS Pv.encI v3.t.Spark.Y), .t (tS (Pv.encS Pv.encI) v3.t.Spark.Z), .t (tS Pv.encI v3.t.Torque.X), .t (tS Pv.encI v3.t.Torque.Y), .t (tS (Pv.encS Pv.encI) v3.t.Torque.Z), .t (tS Pv.encI v3.t.Wish.X), .t (tS Pv.encI v3.t.Wish.Y), .t (tS (Pv.encS Pv.encI) v3.t.Wish.Z), .t (tS Pv.encI v3.t.AirTemp.X), .t (tS Pv.encI v3.t.AirTemp.Y), .t (tS Pv.encI v3.t.Dwell.X), .t (tS Pv.encI v3.t.Dwell.Y), .t (tS Pv.encI v3.t.Dead.X), .t (tS Pv.encI v3.t.Dead.Y), .t (tS Pv.encI v3.t.Efficiency.X), .t (tS Pv.encI v3.t.Efficiency.Y), .t (tI v3.t.Idle.P), .t (tI v3.t.Idle.I), .t (tI v3.t.Idle.Low), .t (tI v3.t.Idle.High)]), (95, .ptr 1000000 48), (100, .t (tI v3.charge)), (103, .ptr 1000000 59), (107, .ptr 1000000 58), (109, .t (tI (s.e.Order.length : Int)))], [(1000000, .box (lset (q10 v3) [(63, .own 1000001)])), (1000001, .rows 79 7 v3.out.Fires.length (v3.out.Fires.map q12))]⟩) ?_ fun A_8 => ?_
   ·exact TieA.all [9, 17, 21] (by kernel_rfl) rfl (AllA.runTo _ rfl rfl rfl (.of rfl rfl) A_1 (AllA.runTo _ rfl rfl rfl (.of rfl rfl) A_9 (AllA.runTo _ rfl rfl rfl (.of rfl rfl) A_11 (AllA.nil))))
   refine TieA.have_ (fuel₁ := 11) (l₁ := (bm 32 8379903)) (σ₁ := ⟨[(0, .ptr 1000000 0), (3, .t (tI r4.2)), (87, .ptr 1000000 0), (91, .agg [.t (tS Pv.encI v3.t.Air.X), .t (tS Pv.encI v3.t.Air.Y), .t (tS (Pv.encS Pv.encI) v3.t.Air.Z), .t (tS Pv.encI v3.t.Spark.X), .t (tS Pv.encI v3.t.Spark.Y), .t (tS (Pv.encS Pv.encI) v3.t.Spark.Z), .t (tS Pv.encI v3.t.Torque.X), .t (tS Pv.encI v3.t.Torque.Y), .t (tS (Pv.encS Pv.encI) v3.t.Torque.Z), .t (tS Pv.encI v3.t.Wish.X), .t (tS Pv.encI v3.t.Wish.Y), .t (tS (Pv.encS Pv.encI) v3.t.Wish.Z), .t (tS Pv.encI v3.t.AirTemp.X), .t (tS Pv.encI v3.t.AirTemp.Y), .t (tS Pv.encI v3.t.Dwell.X), .t (tS Pv.encI v3.t.Dwell.Y), .t (tS Pv.encI v3.t.Dead.X), .t (tS Pv.encI v3.t.Dead.Y), .t (tS Pv.encI v3.t.Efficiency.X), .t (tS Pv.encI v3.t.Efficiency.Y), .t (tI v3.t.Idle.P), .t (tI v3.t.Idle.I), .t (tI v3.t.Idle.Low), .t (tI v3.t.Idle.High)]), (95, .ptr 1000000 48), (99, .ptr 1000000 57), (104, .t (tI v3.late)), (108, .t (tI v3.fired)), (109, .t (tI (s.e.Order.length : Int)))], [(1000000, .box (lset (q10 v3) [(63, .own 1000001)])), (1000001, .rows 79 7 v3.out.Fires.length (v3.out.Fires.map q12))]⟩) ?_ fun A_13 => ?_
   ·exact TieA.all [9, 13] (by kernel_rfl) rfl (AllA.runTo _ rfl rfl rfl (.of rfl rfl) A_6 (AllA.runTo _ rfl rfl rfl (.of rfl rfl) A_10 (AllA.nil)))
   refine TieA.have_ (fuel₁ := 12) (l₁ := (bm 32 6282751)) (σ₁ := ⟨[(0, .ptr 1000000 0), (3, .t (tI r4.2)), (87, .ptr 1000000 0), (91, .agg [.t (tS Pv.encI v3.t.Air.X), .t (tS Pv.encI v3.t.Air.Y), .t (tS (Pv.encS Pv.encI) v3.t.Air.Z), .t (tS Pv.encI v3.t.Spark.X), .t (tS Pv.encI v3.t.Spark.Y), .t (tS (Pv.encS Pv.encI) v3.t.Spark.Z), .t (tS Pv.encI v3.t.Torque.X), .t (tS Pv.encI v3.t.Torque.Y), .t (tS (Pv.encS Pv.encI) v3.t.Torque.Z), .t (tS Pv.encI v3.t.Wish.X), .t (tS Pv.encI v3.t.Wish.Y), .t (tS (Pv.encS Pv.encI) v3.t.Wish.Z), .t (tS Pv.encI v3.t.AirTemp.X), .t (tS Pv.encI v3.t.AirTemp.Y), .t (tS Pv.encI v3.t.Dwell.X), .t (tS Pv.encI v3.t.Dwell.Y), .t (tS Pv.encI v3.t.Dead.X), .t (tS Pv.encI v3.t.Dead.Y), .t (tS Pv.encI v3.t.Efficiency.X), .t (tS Pv.encI v3.t.Efficiency.Y), .t (tI v3.t.Idle.P), .t (tI v3.t.Idle.I), .t (tI v3.t.Idle.Low), .t (tI v3.t.Idle.High)]), (95, .ptr 1000000 48), (99, .ptr 1000000 57), (104, .t (tI v3.late)), (107, .ptr 1000000 58), (109, .t (tI (s.e.Order.length : Int)))], [(1000000, .box (lset (q10 v3) [(63, .own 1000001)])), (1000001, .rows 79 7 v3.out.Fires.length (v3.out.Fires.map q12))]⟩) ?_ fun A_12 => ?_
   ·exact TieA.all [9, 13, 21] (by kernel_rfl) rfl (AllA.runTo _ rfl rfl rfl (.of rfl rfl) A_5 (AllA.runTo _ rfl rfl rfl (.of rfl rfl) A_9 (AllA.runTo _ rfl rfl rfl (.of rfl rfl) A_13 (AllA.nil))))
   refine TieA.have_ (fuel₁ := 12) (l₁ := (bm 32 8248831)) (σ₁ := ⟨[(0, .ptr 1000000 0), (3, .t (tI r4.2)), (87, .ptr 1000000 0), (91, .agg [.t (tS Pv.encI v3.t.Air.X), .t (tS Pv.encI v3.t.Air.Y), .t (tS (Pv.encS Pv.encI) v3.t.Air.Z), .t (tS Pv.encI v3.t.Spark.X), .t (tS Pv.encI v3.t.Spark.Y), .t (tS (Pv.encS Pv.encI) v3.t.Spark.Z), .t (tS Pv.encI v3.t.Torque.X), .t (tS Pv.encI v3.t.Torque.Y), .t (tS (Pv.encS Pv.encI) v3.t.Torque.Z), .t (tS Pv.encI v3.t.Wish.X), .t (tS Pv.encI v3.t.Wish.Y), .t (tS (Pv.encS Pv.encI) v3.t.Wish.Z), .t (tS Pv.encI v3.t.AirTemp.X), .t (tS Pv.encI v3.t.AirTemp.Y), .t (tS Pv.encI v3.t.Dwell.X), .t (tS Pv.encI v3.t.Dwell.Y), .t (tS Pv.encI v3.t.Dead.X), .t (tS Pv.encI v3.t.Dead.Y), .t (tS Pv.encI v3.t.Efficiency.X), .t (tS Pv.encI v3.t.Efficiency.Y), .t (tI v3.t.Idle.P), .t (tI v3.t.Idle.I), .t (tI v3.t.Idle.Low), .t (tI v3.t.Idle.High)]), (95, .ptr 1000000 48), (99, .ptr 1000000 57), (103, .ptr 1000000 59), (108, .t (tI v3.fired)), (109, .t (tI (s.e.Order.length : Int)))], [(1000000, .box (lset (q10 v3) [(63, .own 1000001)])), (1000001, .rows 79 7 v3.out.Fires.length (v3.out.Fires.map q12))]⟩) ?_ fun A_14 => ?_
   ·exact TieA.all [9, 13, 17] (by kernel_rfl) rfl (AllA.runTo _ rfl rfl rfl (.of rfl rfl) A_7 (AllA.runTo _ rfl rfl rfl (.of rfl rfl) A_11 (AllA.runTo _ rfl rfl rfl (.of rfl rfl) A_13 (AllA.nil))))
   refine TieA.have_ (fuel₁ := 10) (l₁ := (bm 32 8388591)) (σ₁ := ⟨[(0, .ptr 1000000 0), (3, .t (tI r4.2)), (87, .ptr 1000000 0), (90, .ptr 1000000 0), (96, .t (tI v3.i.Speed)), (100, .t (tI v3.charge)), (104, .t (tI v3.late)), (108, .t (tI v3.fired)), (109, .t (tI (s.e.Order.length : Int)))], [(1000000, .box (lset (q10 v3) [(63, .own 1000001)])), (1000001, .rows 79 7 v3.out.Fires.length (v3.out.Fires.map q12))]⟩) ?_ fun A_17 => ?_
   ·exact TieA.all [4] (by kernel_rfl) rfl (AllA.runTo _ rfl rfl rfl (.of rfl rfl) A_3 (AllA.nil))
   refine TieA.have_ (fuel₁ := 11) (l₁ := (bm 32 6291439)) (σ₁ := ⟨[(0, .ptr 1000000 0), (3, .t (tI r4.2)), (87, .ptr 1000000 0), (90, .ptr 1000000 0), (96, .t (tI v3.i.Speed)), (100, .t (tI v3.charge)), (104, .t (tI v3.late)), (107, .ptr 1000000 58), (109, .t (tI (s.e.Order.length : Int)))], [(1000000, .box (lset (q10 v3) [(63, .own 1000001)])), (1000001, .rows 79 7 v3.out.Fires.length (v3.out.Fires.map q12))]⟩) ?_ fun A_16 => ?_
   ·exact TieA.all [4, 21] (by kernel_rfl) rfl (AllA.runTo _ rfl rfl rfl (.of rfl rfl) A_2 (AllA.runTo _ rfl rfl rfl (.of rfl rfl) A_17 (AllA.nil)))
   refine TieA.have_ (fuel₁ := 11) (l₁ := (bm 32 8257519)) (σ₁ := ⟨[(0, .ptr 1000000 0), (3, .t (tI r4.2)), (87, .ptr 1000000 0), (90, .ptr 1000000 0), (96, .t (tI v3.i.Speed)), (100, .t (tI v3.charge)), (103, .ptr 1000000 59), (108, .t (tI v3.fired)), (109, .t (tI (s.e.Order.length : Int)))], [(1000000, .box (lset (q10 v3) [(63, .own 1000001)])), (1000001, .rows 79 7 v3.out.Fires.length (v3.out.Fires.map q12))]⟩) ?_ fun A_18 => ?_
   ·exact TieA.all [4, 17] (by kernel_rfl) rfl (AllA.runTo _ rfl rfl rfl (.of rfl rfl) A_4 (AllA.runTo _ rfl rfl rfl (.of rfl rfl) A_17 (AllA.nil)))
   refine TieA.have_ (fuel₁ := 12) (l₁ := (bm 32 6160367)) (σ₁ := ⟨[(0, .ptr 1000000 0), (3, .t (tI r4.2)), (87, .ptr 1000000 0), (90, .ptr 1000000 0), (96, .t (tI v3.i.Speed)), (100, .t (tI v3.charge)), (103, .ptr 1000000 59), (107, .ptr 1000000 58), (109, .t (tI (s.e.Order.length : Int)))], [(1000000, .box (lset (q10 v3) [(63, .own 1000001)])), (1000001, .rows 79 7 v3.out.Fires.length (v3.out.Fires.map q12))]⟩) ?_ fun A_15 => ?_
   ·exact TieA.all [4, 17, 21] (by kernel_rfl) rfl (AllA.runTo _ rfl rfl rfl (.of rfl rfl) A_1 (AllA.runTo _ rfl rfl rfl (.of rfl rfl) A_16 (AllA.runTo _ rfl rfl rfl (.of rfl rfl) A_18 (AllA.nil))))
   refine TieA.have_ (fuel₁ := 11) (l₁ := (bm 32 8380399)) (σ₁ := ⟨[(0, .ptr 1000000 0), (3, .t (tI r4.2)), (87, .ptr 1000000 0), (90, .ptr 1000000 0), (96, .t (tI v3.i.Speed)), (99, .ptr 1000000 57), (104, .t (tI v3.late)), (108, .t (tI v3.fired)), (109, .t (tI (s.e.Order.length : Int)))], [(1000000, .box (lset (q10 v3) [(63, .own 1000001)])), (1000001, .rows 79 7 v3.out.Fires.length (v3.out.Fires.map q12))]⟩) ?_ fun A_20 => ?_
   ·exact TieA.all [4, 13] (by kernel_rfl) rfl (AllA.runTo _ rfl rfl rfl (.of rfl rfl) A_6 (AllA.runTo _ rfl rfl rfl (.of rfl rfl) A_17 (AllA.nil)))
   refine TieA.have_ (fuel₁ := 12) (l₁ := (bm 32 6283247)) (σ₁ := ⟨[(0, .ptr 1000000 0), (3, .t (tI r4.2)), (87, .ptr 1000000 0), (90, .ptr 1000000 0), (96, .t (tI v3.i.Speed)), (99, .ptr 1000000 57), (104, .t (tI v3.late)), (107, .ptr 1000000 58), (109, .t (tI (s.e.Order.length : Int)))], [(1000000, .box (lset (q10 v3) [(63, .own 1000001)])), (1000001, .rows 79 7 v3.out.Fires.length (v3.out.Fires.map q12))]⟩) ?_ fun A_19 => ?_
   ·exact TieA.all [4, 13, 21] (by kernel_rfl) rfl (AllA.runTo _ rfl rfl rfl (.of rfl rfl) A_5 (AllA.runTo _ rfl rfl rfl (.of rfl rfl) A_16 (AllA.runTo _ rfl rfl rfl (.of rfl rfl) A_20 (AllA.nil))))
   refine TieA.have_ (fuel₁ := 12) (l₁ := (bm 32 8249327)) (σ₁ := ⟨[(0, .ptr 1000000 0), (3, .t (tI r4.2)), (87, .ptr 1000000 0), (90, .ptr 1000000 0), (96, .t (tI v3.i.Speed)), (99, .ptr 1000000 57), (103, .ptr 1000000 59), (108, .t (tI v3.fired)), (109, .t (tI (s.e.Order.length : Int)))], [(1000000, .box (lset (q10 v3) [(63, .own 1000001)])), (1000001, .rows 79 7 v3.out.Fires.length (v3.out.Fires.map q12))]⟩) ?_ fun A_21 => ?_
   ·exact TieA.all [4, 13, 17] (by kernel_rfl) rfl (AllA.runTo _ rfl rfl rfl (.of rfl rfl) A_7 (AllA.runTo _ rfl rfl rfl (.of rfl rfl) A_18 (AllA.runTo _ rfl rfl rfl (.of rfl rfl) A_20 (AllA.nil))))
   refine TieA.have_ (fuel₁ := 11) (l₁ := (bm 32 8388079)) (σ₁ := ⟨[(0, .ptr 1000000 0), (3, .t (tI r4.2)), (87, .ptr 1000000 0), (90, .ptr 1000000 0), (95, .ptr 1000000 48), (100, .t (tI v3.charge)), (104, .t (tI v3.late)), (108, .t (tI v3.fired)), (109, .t (tI (s.e.Order.length : Int)))], [(1000000, .box (lset (q10 v3) [(63, .own 1000001)])), (1000001, .rows 79 7 v3.out.Fires.length (v3.out.Fires.map q12))]⟩) ?_ fun A_23 => ?_
   ·exact TieA.all [4, 9] (by kernel_rfl) rfl (AllA.runTo _ rfl rfl rfl (.of rfl rfl) A_10 (AllA.runTo _ rfl rfl rfl (.of rfl rfl) A_17 (AllA.nil)))
   refine TieA.have_ (fuel₁ := 12) (l₁ := (bm 32 6290927)) (σ₁ := ⟨[(0, .ptr 1000000 0), (3, .t (tI r4.2)), (87, .ptr 1000000 0), (90, .ptr 1000000 0), (95, .ptr 1000000 48), (100, .t (tI v3.charge)), (104, .t (tI v3.late)), (107, .ptr 1000000 58), (109, .t (tI (s.e.Order.length : Int)))], [(1000000, .box (lset (q10 v3) [(63, .own 1000001)])), (1000001, .rows 79 7 v3.out.Fires.length (v3.out.Fires.map q12))]⟩) ?_ fun A_22 => ?_
   ·exact TieA.all [4, 9, 21] (by kernel_rfl) rfl (AllA.runTo _ rfl rfl rfl (.of rfl rfl) A_9 (AllA.runTo _ rfl rfl rfl (.of rfl rfl) A_16 (AllA.runTo _ rfl rfl rfl (.of rfl rfl) A_23 (AllA.nil))))
   refine TieA.have_ (fuel₁ := 12) (l₁ := (bm 32 8257007)) (σ₁ := ⟨[(0, .ptr 1000000 0), (3, .t (tI r4.2)), (87, .ptr 1000000 0), (90, .ptr 1000000 0), (95, .ptr 1000000 48), (100, .t (tI v3.charge)), (103, .ptr 1000000 59), (108, .t (tI v3.fired)), (109, .t (tI (s.e.Order.length : Int)))], [(1000000, .box (lset (q10 v3) [(63, .own 1000001)])), (1000001, .rows 79 7 v3.out.Fires.length (v3.out.Fires.map q12))]⟩) ?_ fun A_24 => ?_
   ·exact TieA.all [4, 9, 17] (by kernel_rfl) rfl (AllA.runTo _ rfl rfl rfl (.of rfl rfl) A_11 (AllA.runTo _ rfl rfl rfl (.of rfl rfl) A_18 (AllA.runTo _ rfl rfl rfl (.of rfl rfl) A_23 (AllA.nil))))
   refine TieA.have_ (fuel₁ := 12) (l₁ := (bm 32 8379887)) (σ₁ := ⟨[(0, .ptr 1000000 0), (3, .t (tI r4.2)), (87, .ptr 1000000 0), (90, .ptr 1000000 0), (95, .ptr 1000000 48), (99, .ptr 1000000 57), (104, .t (tI v3.late)), (108, .t (tI v3.fired)), (109, .t (tI (s.e.Order.length : Int)))], [(1000000, .box (lset (q10 v3) [(63, .own 1000001)])), (1000001, .rows 79 7 v3.out.Fires.length (v3.out.Fires.map q12))]⟩) ?_ fun A_25 => ?_
   ·exact TieA.all [4, 9, 13] (by kernel_rfl) rfl (AllA.runTo _ rfl rfl rfl (.of rfl rfl) A_13 (AllA.runTo _ rfl rfl rfl (.of rfl rfl) A_20 (AllA.runTo _ rfl rfl rfl (.of rfl rfl) A_23 (AllA.nil))))
   refine TieA.mv 0 rfl (.inl rfl) rfl (by kernel_rfl) rfl (.mv 1 rfl (.inl rfl) rfl (by kernel_rfl) rfl (.nP 2 rfl rfl rfl (by kernel_rfl) rfl (.fP 3 rfl rfl rfl (by kernel_rfl) rfl rfl rfl (.mv 5 rfl (.inl rfl) rfl (by kernel_rfl) rfl ?_))))
   refine TieA.nP 6 rfl rfl rfl (by kernel_rfl) rfl (.fP 7 rfl rfl rfl (by kernel_rfl) rfl rfl rfl (.fP 8 rfl rfl rfl (by kernel_rfl) rfl rfl rfl (.mv 10 rfl (.inl rfl) rfl (by kernel_rfl) rfl (.nP 11 rfl rfl rfl (by kernel_rfl) rfl ?_))))
   refine TieA.fP 12 rfl rfl rfl (by kernel_rfl) rfl rfl rfl (.mv 14 rfl (.inl rfl) rfl (by kernel_rfl) rfl (.nP 15 rfl rfl rfl (by kernel_rfl) rfl (.fP 16 rfl rfl rfl (by kernel_rfl) rfl rfl rfl (.mv 18 rfl (.inl rfl) rfl (by kernel_rfl) rfl ?_))))
   refine TieA.nP 19 rfl rfl rfl (by kernel_rfl) rfl (.fP 20 rfl rfl rfl (by kernel_rfl) rfl rfl rfl (.mv 22 rfl (.inl rfl) rfl (by kernel_rfl) rfl (.all [4, 9, 13, 17, 21] (by kernel_rfl) rfl (AllA.run _ rfl rfl rfl ?_ ?_))))
   ·refine TieA.all [9, 13, 17, 21] (by kernel_rfl) rfl (AllA.runTo _ rfl rfl rfl (.of rfl rfl) A_0 (AllA.runTo _ rfl rfl rfl (.of rfl rfl) A_8 (AllA.runTo _ rfl rfl rfl (.of rfl rfl) A_12 (AllA.runTo _ rfl rfl rfl (.of rfl rfl) A_14 ?_))))
    exact AllA.nil
   refine AllA.run _ rfl rfl rfl ?_ ?_
   ·refine TieA.all [4, 13, 17, 21] (by kernel_rfl) rfl (AllA.runTo _ rfl rfl rfl (.of rfl rfl) A_0 (AllA.runTo _ rfl rfl rfl (.of rfl rfl) A_15 (AllA.runTo _ rfl rfl rfl (.of rfl rfl) A_19 (AllA.runTo _ rfl rfl rfl (.of rfl rfl) A_21 ?_))))
    exact AllA.nil
   refine AllA.run _ rfl rfl rfl ?_ ?_
   ·refine TieA.all [4, 9, 17, 21] (by kernel_rfl) rfl (AllA.runTo _ rfl rfl rfl (.of rfl rfl) A_8 (AllA.runTo _ rfl rfl rfl (.of rfl rfl) A_15 (AllA.runTo _ rfl rfl rfl (.of rfl rfl) A_22 (AllA.runTo _ rfl rfl rfl (.of rfl rfl) A_24 ?_))))
    exact AllA.nil
   refine AllA.run _ rfl rfl rfl ?_ ?_
   ·refine TieA.all [4, 9, 13, 21] (by kernel_rfl) rfl (AllA.runTo _ rfl rfl rfl (.of rfl rfl) A_12 (AllA.runTo _ rfl rfl rfl (.of rfl rfl) A_19 (AllA.runTo _ rfl rfl rfl (.of rfl rfl) A_22 (AllA.runTo _ rfl rfl rfl (.of rfl rfl) A_25 ?_))))
    exact AllA.nil
   refine AllA.run _ rfl rfl rfl ?_ ?_
   ·refine TieA.all [4, 9, 13, 17] (by kernel_rfl) rfl (AllA.runTo _ rfl rfl rfl (.of rfl rfl) A_14 (AllA.runTo _ rfl rfl rfl (.of rfl rfl) A_21 (AllA.runTo _ rfl rfl rfl (.of rfl rfl) A_24 (AllA.runTo _ rfl rfl rfl (.of rfl rfl) A_25 ?_))))
    exact AllA.nil
   exact AllA.nil
  exact TieO.run 1 rfl (.nil (.leaf ⟨rfl, .of rfl rfl⟩))
 rintro s4 e σ' _ ⟨rfl, hs⟩
 refine TieX.sub hs (TieS.region (.run 2 rfl (.callG [(1000000, 1000000), (1000001, 1000001)] [] (fun v4 => ⟨[(0, .ptr 1000000 0), (3, .t (tI s4.1)), (116, .ptr 1000000 0), (117, .t (tI s4.1)), (118, .tup [])], [(1000000, .box (lset (q10 v4) [(63, .own 1000001)])), (1000001, .rows 79 7 v4.out.Fires.length (v4.out.Fires.map q12))]⟩) (q17 (u17_11 v3 (u16_2 v3.out s4.2)) s4.1) rfl rfl rfl rfl rfl rfl rfl (fun _ => rfl) (fun _ => rfl) (fun _ => rfl) (fun _ => .of rfl rfl) fun v4 hv4 => .nil ?_)))
 exact TieS.leaf ⟨.inr rfl, ⟨[(1000000, 1000000), (1000001, 1000001)], _, _, rfl, rfl, rfl, rfl, rfl⟩⟩
set_option maxRecDepth 100000 in
theorem q59 (x : Int) (low : Int) (high : Int) : TieF Tryz.prog 114 [.t (tI x), .t (tI low), .t (tI high)] (fuel_in x low high) (fun r => .t (tB r)) := by
 refine TieF.intro htab 15 [.tmp 6] Tryz.call114 Tryz.func114 rfl rfl rfl (Nat.le_of_ble_eq_true rfl) fun w0 L => ?_
 refine TieS.seq (.region (.run 1 rfl (.nil (.seq ?_))))
 refine TieS.region (.run 4 rfl (.selAnd (v := decide (x ≤ high)) 4 10 (fun b => ⟨[(14, .t (tB b))], []⟩) rfl ?_ ?_ ?_))
 ·exact TieO.run 4 rfl (.nil (.leaf ⟨rfl, .of rfl rfl⟩))
 ·exact TieO.run 4 rfl (.nil (.leaf ⟨rfl, .of rfl rfl⟩))
 exact TieO.run 1 rfl (.nil (.ret ⟨.inl rfl, rfl⟩))
set_option maxRecDepth 100000 in
theorem q378 (b2 : SBody) : TieF Tryz.prog 113 [A_SBody b2] (q286 b2) (fun r => .t (tB r)) := by
 refine TieF.intro htab 11 [.tmp 2] Tryz.call113 Tryz.func113 rfl rfl rfl (Nat.le_of_ble_eq_true rfl) fun w0 L => ?_
 refine TieS.seq (.region (.run 2 rfl (.nil (.seq ?_))))
 refine TieS.region (.run 2 rfl (.call _ rfl rfl rfl (q59 b2.Film 0 1023) (fun _ => rfl) fun v => .run 1 rfl (.bind 4 (fun b3 => ⟨[(10, .t (tB b3))], []⟩) (TieO.split 6 rfl ?_ ?_) fun b3 _ => ?_)))
 ·exact TieO.run 2 rfl (.call _ rfl rfl rfl (q59 b2.Evaporate 0 1024) (fun _ => rfl) fun v2 => .run 1 rfl (.nil (.leaf ⟨rfl, .of rfl rfl⟩)))
 ·exact TieO.run 4 rfl (.nil (.leaf ⟨rfl, .of rfl rfl⟩))
 exact TieO.run 1 rfl (.nil (.ret ⟨.inl rfl, rfl⟩))
set_option maxRecDepth 100000 in
theorem q292 (b2 : SBody) (film : Int) (inject : Int) : TieF Tryz.prog 115 [A_SBody b2, .t (tI film), .t (tI inject)] (q239 b2 film inject) (fun r => .tup [.t (tI r.1), .t (tI r.2)]) := by
 refine TieF.intro htab 30 [.tmp 6, .tmp 7] Tryz.call115 Tryz.func115 rfl rfl rfl (Nat.le_of_ble_eq_true rfl) fun w0 L => ?_
 refine TieS.seq (.region (.run 3 rfl (.nil (.seq ?_))))
 refine TieS.draw 12 [_, _, _, _, _, _, _, _, _, _, _, _] [(1, .t (tI film)), (2, .t (tI inject)), (3, .ptr 3 0)] [(3, .box [.t (tI b2.Inertia), .t (tI b2.Friction), .t (tI b2.Volume), .t (tI b2.Throttle), .t (tI b2.Film), .t (tI b2.Evaporate), .t (tI b2.Delay)])] mixed (.of rfl rfl) rfl rfl rfl rfl (.cons (.quiet rfl rfl rfl) (.cons (.quiet rfl rfl rfl) (.cons (.quiet rfl rfl rfl) (.cons (.quiet rfl rfl rfl) (.cons (.quiet rfl rfl rfl) (.cons (.quiet rfl rfl rfl) (.cons (.quiet rfl rfl rfl) (.cons (.quiet rfl rfl rfl) (.cons (.quiet rfl rfl rfl) (.cons (.quiet rfl rfl rfl) (.cons (.quiet rfl rfl rfl) (.cons (.quiet rfl rfl rfl) (.nil))))))))))))) (.nil (.seq (.region (.run 6 rfl ?_))))
 refine TieO.nil (.seq (.region (.run 6 rfl (.nil ?_))))
 exact TieS.ret ⟨.inl rfl, rfl⟩
set_option maxRecDepth 100000 in
theorem q481 (b2 : SBody) (film : Int) (inject : Int) : TieF Tryz.prog 27 [A_SBody b2, .t (tI film), .t (tI inject)] (q287 b2 film inject) (fun r => .tup [.t (tI r.1), .t (tI r.2.1), .t (tI r.2.2)]) := by
 refine TieF.intro htab 33 [.tmp 6, .tmp 7, .tmp 8] Tryz.call27 Tryz.func27 rfl rfl rfl (Nat.le_of_ble_eq_true rfl) fun w0 L => ?_
 refine TieS.seq (.region (.run 4 rfl (.nil (.seq ?_))))
 refine TieS.block (.seq (.region (.run 1 rfl (.call _ rfl rfl rfl (q378 b2) (fun _ => rfl) fun v => ?_))))
 refine TieO.run 2 rfl (.nil (.cond rfl ?_ ?_))
 ·exact TieS.seq (.region (.run 3 rfl (.nil (.ret ⟨.inl rfl, rfl⟩))))
 ·refine TieS.seq (.region (.run 1 rfl (.call _ rfl rfl rfl (q59 film 0 1073741824) (fun _ => rfl) fun v2 => .run 2 rfl ?_)))
  refine TieO.bind 4 (fun b3 => ⟨[(1, .t (tI film)), (2, .t (tI inject)), (3, .ptr 3 0), (21, .t (tB b3))], [(3, .box [.t (tI b2.Inertia), .t (tI b2.Friction), .t (tI b2.Volume), .t (tI b2.Throttle), .t (tI b2.Film), .t (tI b2.Evaporate), .t (tI b2.Delay)])]⟩) (TieO.split 17 rfl ?_ ?_) fun b3 _ => ?_
  ·exact TieO.run 4 rfl (.nil (.leaf ⟨rfl, .of rfl rfl⟩))
  ·exact TieO.run 1 rfl (.call _ rfl rfl rfl (q59 inject 0 1048576) (fun _ => rfl) fun v3 => .run 2 rfl (.nil (.leaf ⟨rfl, .of rfl rfl⟩)))
  refine TieO.run 1 rfl (.nil (.cond rfl ?_ ?_))
  ·exact TieS.seq (.region (.run 3 rfl (.nil (.ret ⟨.inl rfl, rfl⟩))))
  ·refine TieS.skip (.endb (.seq (.region (.run 3 rfl ?_))))
   refine TieO.call _ rfl rfl rfl (q292 b2 film inject) (fun _ => rfl) fun r2 => .run 5 rfl (.nil (.seq (.seq ?_)))
   refine TieS.region (.run 2 rfl (.nil (.cond rfl ?_ ?_)))
   ·exact TieS.seq (.region (.run 3 rfl (.nil (.ret ⟨.inl rfl, rfl⟩))))
   ·refine TieS.skip (.seq (.region (.run 5 rfl (.nil ?_))))
    exact TieS.ret ⟨.inl rfl, rfl⟩
set_option maxRecDepth 100000 in
theorem q204 (speed : Int) (charge : Int) : TieF Tryz.prog 131 [.t (tI speed), .t (tI charge)] (q118 speed charge) (fun r => .t (tB r)) := by
 refine TieF.intro htab 11 [.tmp 4] Tryz.call131 Tryz.func131 rfl rfl rfl (Nat.le_of_ble_eq_true rfl) fun w0 L => ?_
 refine TieS.seq (.region (.run 1 rfl (.nil (.seq ?_))))
 refine TieS.region (.run 1 rfl (.call _ rfl rfl rfl (q84 speed 0 12000) (fun _ => rfl) fun v => .run 1 rfl (.bind 3 (fun b2 => ⟨[(10, .t (tB b2))], []⟩) (TieO.split 7 rfl ?_ ?_) fun b2 _ => ?_)))
 ·exact TieO.run 1 rfl (.call _ rfl rfl rfl (q84 charge 0 1048576) (fun _ => rfl) fun v2 => .run 1 rfl (.nil (.leaf ⟨rfl, .of rfl rfl⟩)))
 ·exact TieO.run 3 rfl (.nil (.leaf ⟨rfl, .of rfl rfl⟩))
 exact TieO.run 1 rfl (.nil (.ret ⟨.inl rfl, rfl⟩))
set_option maxRecDepth 100000 in
theorem q354 (s : List SCell) : TieF Tryz.prog 215 [.t (tS q16 s)] (q191 s) (fun r => .t (tS q16 r)) := by
 refine TieF.intro htab 8 [.tmp 2] Tryz.call215 Tryz.func215 rfl rfl rfl (Nat.le_of_ble_eq_true rfl) fun w0 L => ?_
 refine TieS.seq (.region (.run 1 rfl (.nil (.seq ?_))))
 refine TieS.seq (.region (.run 1 rfl (.isNil rfl rfl rfl rfl rfl rfl fun b2 hb2 => .nil ?_)))
 refine TieS.condB rfl (fun hb1 => ?_) (fun _ => ?_)
 ·refine TieX.model (m' := some ([] : List SCell)) (by rw [hb2 hb1]; rfl) (TieS.seq (.region (.run 1 rfl (.nil ?_))))
  exact TieS.ret ⟨.inl rfl, rfl⟩
 ·refine TieS.skip (.seq (.region (.run 2 rfl (.appendY (id := 5) (e' := 0) (l := ([] : List SCell)) (r := s) (tm' := [(0, .t (tS q16 s)), (2, .t (.v (.slice none 0 0))), (3, .t (tS q16 s)), (4, .t (tB b2)), (6, .t (tS q16 s))]) (hp' := []) rfl rfl rfl rfl rfl rfl rfl (fun _ => rfl) (fun _ => rfl) (.inl ⟨rfl, rfl⟩) (.inl rfl) (.of rfl rfl) rfl rfl rfl fun l => ?_))))
  exact TieO.run 1 rfl (.nil (.ret ⟨.inl rfl, rfl⟩))
set_option maxRecDepth 100000 in
theorem q402 (p2 : SProbe) : TieF Tryz.prog 133 [q231 p2] (q268 p2) (fun r => q231 r) := by
 refine TieF.intro htab 8 [.cell 2 41] Tryz.call133 Tryz.func133 rfl rfl rfl (Nat.le_of_ble_eq_true rfl) fun w0 L => ?_
 refine TieS.seq (.region (.run 2 rfl (.nil (.seq ?_))))
 refine TieS.region (.run 2 rfl (.call _ rfl rfl rfl (q354 p2.Cells) (fun _ => rfl) fun v => .run 2 rfl (.nil ?_)))
 exact TieS.seq (.region (.run 2 rfl (.nil (.ret ⟨.inl rfl, rfl⟩))))
set_option maxRecDepth 100000 in
theorem q437 (p2 : SProbe) (millivolts : Int) (speed : Int) (charge : Int) : TieF Tryz.prog 38 [q231 p2, .t (tI millivolts), .t (tI speed), .t (tI charge)] (q247 p2 millivolts speed charge) (fun r => .tup [q231 r.1, .t (tI r.2)]) := by
 refine TieF.intro htab 76 [.cell 8 41, .tmp 9] Tryz.call38 Tryz.func38 rfl rfl rfl (Nat.le_of_ble_eq_true rfl) fun w0 L => ?_
 refine TieS.seq (.region (.run 3 rfl (.nil (.seq ?_))))
 refine TieS.block (.seq (.region (.run 1 rfl (.call _ rfl rfl rfl (q202 p2) (fun _ => rfl) fun v => ?_))))
 refine TieO.run 2 rfl (.nil (.cond rfl ?_ ?_))
 ·exact TieS.seq (.region (.run 3 rfl (.nil (.ret ⟨.inl rfl, rfl⟩))))
 ·refine TieS.seq (.region (.run 2 rfl (.call _ rfl rfl rfl (q204 speed charge) (fun _ => rfl) fun v2 => .run 2 rfl ?_)))
  refine TieO.bind 4 (fun b2 => ⟨[(1, .t (tI millivolts)), (4, .ptr 4 0), (8, .ptr 8 0), (26, .t (tB b2))], [(4, .box [.t (tB p2.Active), .t (tB p2.Rich), .t (tI p2.Factor), .t (tI p2.Wait), .t (tS q16 p2.Cells)]), (8, .box [.t (tB false), .t (tB false), .t (tI 0), .t (tI 0), .t (.v (.slice none 0 0))])]⟩) (TieO.split 22 rfl ?_ ?_) fun b2 _ => ?_
  ·exact TieO.run 4 rfl (.nil (.leaf ⟨rfl, .of rfl rfl⟩))
  ·exact TieO.run 1 rfl (.call _ rfl rfl rfl (q84 millivolts 0 20000) (fun _ => rfl) fun v3 => .run 2 rfl (.nil (.leaf ⟨rfl, .of rfl rfl⟩)))
  refine TieO.run 1 rfl (.nil (.cond rfl ?_ ?_))
  ·exact TieS.seq (.region (.run 3 rfl (.nil (.ret ⟨.inl rfl, rfl⟩))))
  ·refine TieS.skip (.endb (.seq (.region (.run 1 rfl ?_))))
   refine TieO.call _ rfl rfl rfl (q402 p2) (fun _ => rfl) fun v4 => .run 1 rfl (.nil (.seq (.seq ?_)))
   refine TieS.region (.run 3 rfl (.nil (.cond rfl ?_ ?_)))
   ·refine TieS.seq (.region (.run 3 rfl (.selOr (v := decide (millivolts > 600)) 3 35 (fun b => ⟨[(1, .t (tI millivolts)), (4, .ptr 4 0), (8, .ptr 8 0), (38, .t (tB b))], [(4, .box [.t (tB v4.Active), .t (tB v4.Rich), .t (tI v4.Factor), .t (tI v4.Wait), .t (tS q16 v4.Cells)]), (8, .box [.t (tB false), .t (tB false), .t (tI 0), .t (tI 0), .t (.v (.slice none 0 0))])]⟩) rfl ?_ ?_ ?_)))
    ·exact TieO.run 3 rfl (.nil (.leaf ⟨rfl, .of rfl rfl⟩))
    ·exact TieO.run 3 rfl (.nil (.leaf ⟨rfl, .of rfl rfl⟩))
    refine TieO.run 2 rfl (.nil (.seq (.region (.run 4 rfl ?_))))
    refine TieO.nil (.seq (.region (.run 3 rfl (.nil ?_))))
    exact TieS.ret ⟨.inl rfl, rfl⟩
   ·refine TieS.skip (.seq (.region (.run 3 rfl (.bind 7 (fun b3 => ⟨[(4, .ptr 4 0), (8, .ptr 8 0), (53, .t (tB b3))], [(4, .box [.t (tB v4.Active), .t (tB v4.Rich), .t (tI v4.Factor), .t (tI v4.Wait), .t (tS q16 v4.Cells)]), (8, .box [.t (tB false), .t (tB false), .t (tI 0), .t (tI 0), .t (.v (.slice none 0 0))])]⟩) (TieO.split 46 rfl ?_ ?_) fun b3 _ => ?_))))
    ·exact TieO.run 7 rfl (.nil (.leaf ⟨rfl, .of rfl rfl⟩))
    ·refine TieO.run 3 rfl (.selAnd (v := v4.Rich) 3 49 (fun b => ⟨[(4, .ptr 4 0), (8, .ptr 8 0), (46, .t (tB false)), (52, .t (tB b))], [(4, .box [.t (tB v4.Active), .t (tB v4.Rich), .t (tI v4.Factor), .t (tI v4.Wait), .t (tS q16 v4.Cells)]), (8, .box [.t (tB false), .t (tB false), .t (tI 0), .t (tI 0), .t (.v (.slice none 0 0))])]⟩) rfl ?_ ?_ ?_)
     ·exact TieO.run 3 rfl (.nil (.leaf ⟨rfl, .of rfl rfl⟩))
     ·exact TieO.run 3 rfl (.nil (.leaf ⟨rfl, .of rfl rfl⟩))
     exact TieO.run 1 rfl (.nil (.leaf ⟨rfl, .of rfl rfl⟩))
    refine TieO.run 1 rfl (.nil (.seq (.region (.run 1 rfl ?_))))
    refine TieO.nil (.seq (.seq (.region (.run 4 rfl ?_))))
    refine TieO.nil (.bind (Q₁ := fun t e σ' => e = .normal ∧ Sub ⟨[(4, .ptr 4 0), (8, .ptr 8 0), (10, .t (tB b3)), (11, .t (tI t.1))], [(4, .box [.t (tB v4.Active), .t (tB v4.Rich), .t (tI v4.Factor), .t (tI t.2), .t (tS q16 v4.Cells)]), (8, .box [.t (tB false), .t (tB false), .t (tI 0), .t (tI 0), .t (.v (.slice none 0 0))])]⟩ σ') ?_ ?_)
    ·refine TieS.cond rfl ?_ ?_
     ·exact TieS.region (.run 3 rfl (.nil (.leaf ⟨rfl, .of rfl rfl⟩)))
     ·exact TieS.region (.run 6 rfl (.nil (.leaf ⟨rfl, .of rfl rfl⟩)))
    rintro s e σ' _ ⟨rfl, hs⟩
    refine TieX.sub hs (TieS.seq (.seq (.region (.run 1 rfl ?_))))
    refine TieO.nil (.bind (Q₁ := fun t e σ' => e = .normal ∧ Sub ⟨[(4, .ptr 4 0), (8, .ptr 8 0), (10, .t (tB b3)), (11, .t (tI t))], [(4, .box [.t (tB v4.Active), .t (tB v4.Rich), .t (tI v4.Factor), .t (tI s.2), .t (tS q16 v4.Cells)]), (8, .box [.t (tB false), .t (tB false), .t (tI 0), .t (tI 0), .t (.v (.slice none 0 0))])]⟩ σ') ?_ ?_)
    ·refine TieS.cond rfl ?_ ?_
     ·exact TieS.region (.run 3 rfl (.nil (.leaf ⟨rfl, .of rfl rfl⟩)))
     ·exact TieS.skip (.leaf ⟨rfl, .of rfl rfl⟩)
    rintro v_by e σ' _ ⟨rfl, hs⟩
    refine TieX.sub hs (TieS.seq (.region (.run 5 rfl (.call _ rfl rfl rfl (q24 (w64 (v4.Factor + v_by)) 750 1250) (fun _ => rfl) fun v5 => ?_))))
    refine TieO.run 4 rfl (.nil (.seq (.region (.run 3 rfl ?_))))
    exact TieO.nil (.ret ⟨.inl rfl, rfl⟩)
set_option maxRecDepth 100000 in
theorem q303 (x : Int) (thresholds : List Int) : TieF Tryz.prog 259 [.t (tI x), .t (tS Pv.encI thresholds)] (q159 x thresholds) (fun r => .t (tI r)) := by
 refine TieF.intro htab 21 [.tmp 4] Tryz.call259 Tryz.func259 rfl rfl rfl (Nat.le_of_ble_eq_true rfl) fun w0 L => ?_
 refine TieS.seq (.region (.run 1 rfl (.nil (.seq ?_))))
 refine TieS.region (.run 1 rfl (.nil (.seq (.seq ?_))))
 refine TieS.region (.run 3 rfl (.nil (.block (.loop (fun p => ⟨[(0, .t (tI x)), (5, .t (tI p.2)), (8, .t (tS Pv.encI thresholds)), (9, .t (tI (thresholds.length : Int))), (10, .t (tI p.1))], []⟩) (fun b e σ' => match b with | .inl t => e = .exit 0 ∧ Sub ⟨[(5, .t (tI t))], []⟩ σ' | .inr t => False) (.of rfl rfl) ?_ ?_))))
 ·rintro ⟨i, n2⟩
  refine TieS.seq (.region (.run 1 rfl (.nil (.seq ?_))))
  refine TieS.cond rfl ?_ ?_
  ·refine TieS.skip (.seq (TieX.pre fun x2 hx2 => TieX.sub (σ' := ⟨[(0, .t (tI x)), (5, .t (tI n2)), (8, .t (tS Pv.encI thresholds)), (9, .t (tI (thresholds.length : Int))), (10, .t (tI i))], []⟩) (.of rfl rfl) (TieS.bind (Q₁ := fun f e σ' => match f with | .next t => e = .normal ∧ Sub ⟨[(0, .t (tI x)), (5, .t (tI t)), (8, .t (tS Pv.encI thresholds)), (9, .t (tI (thresholds.length : Int))), (10, .t (tI i))], []⟩ σ' | .brk t => e = .exit 0 ∧ Sub ⟨[(5, .t (tI t))], []⟩ σ' | .ret r => False) ?_ ?_)))
   ·refine TieS.block (.seq (.region (.indexH hx2 rfl rfl rfl rfl rfl rfl rfl rfl (fun _ => rfl) (.run 2 rfl ?_))))
    refine TieO.nil (.seq (.region (.run 3 rfl (.nil ?_))))
    refine TieS.cond rfl ?_ ?_
    ·exact TieS.region (.run 3 rfl (.nil (.endb (.leaf ⟨rfl, .of rfl rfl⟩))))
    ·exact TieS.skip (.endb (.leaf ⟨rfl, .of rfl rfl⟩))
   rintro (t | t | r) e σ' _ hq
   ·obtain ⟨rfl, hs⟩ := hq
    exact TieX.sub hs (TieS.region (.run 2 rfl (.nil (.leaf ⟨rfl, .of rfl rfl⟩))))
   ·obtain ⟨rfl, hs⟩ := hq
    exact TieX.exitOut rfl ⟨(fun h => by cases h), rfl, hs⟩
   ·exact hq.elim
  ·exact TieS.exitOut rfl ⟨(fun h => by cases h), rfl, .of rfl rfl⟩
 rintro (n3 | r) e σ' _ hq
 ·obtain ⟨rfl, hs⟩ := hq
  refine TieX.exit rfl (TieX.sub hs ?_)
  exact TieS.seq (.region (.run 2 rfl (.nil (.ret ⟨.inl rfl, rfl⟩))))
 ·exact hq.elim
set_option maxRecDepth 100000 in
theorem q435 (speed : Int) (charge : Int) : TieF Tryz.prog 233 [.t (tI speed), .t (tI charge)] (q332 speed charge) (fun r => .t (tI r)) := by
 refine TieF.intro htab 17 [.tmp 4] Tryz.call233 Tryz.func233 rfl rfl rfl (Nat.le_of_ble_eq_true rfl) fun w0 L => ?_
 refine TieS.seq (.region (.run 1 rfl (.nil (.seq ?_))))
 refine TieS.seq (.region (.run 2 rfl (.call _ rfl rfl rfl (q204 speed charge) (fun _ => rfl) fun v => .run 1 rfl ?_)))
 refine TieO.nil (.cond rfl ?_ ?_)
 ·exact TieS.seq (.region (.run 1 rfl (.nil (.ret ⟨.inl rfl, rfl⟩))))
 ·refine TieS.skip (.seq (.region (.run 2 rfl (.callS _ rfl rfl rfl (q303 speed ([1500, 3500] : List Int)) (fun _ => rfl) (fun _ => rfl) fun v2 => ?_))))
  exact TieO.run 3 rfl (.callS _ rfl rfl rfl (q303 charge ([150000, 350000] : List Int)) (fun _ => rfl) (fun _ => rfl) fun v3 => .run 2 rfl (.nil (.ret ⟨.inl rfl, rfl⟩)))
set_option maxRecDepth 100000 in
theorem q407 (p2 : SProbe) (speed : Int) (charge : Int) : TieF Tryz.prog 172 [q231 p2, .t (tI speed), .t (tI charge)] (q192 p2 speed charge) (fun r => .tup [.t (tI r.1), .t (tI r.2)]) := by
 refine TieF.intro htab 29 [.tmp 6, .tmp 7] Tryz.call172 Tryz.func172 rfl rfl rfl (Nat.le_of_ble_eq_true rfl) fun w0 L => ?_
 refine TieS.seq (.region (.run 3 rfl (.nil (.seq ?_))))
 refine TieS.block (.seq (.region (.run 1 rfl (.call _ rfl rfl rfl (q202 p2) (fun _ => rfl) fun v => ?_))))
 refine TieO.run 2 rfl (.nil (.cond rfl ?_ ?_))
 ·exact TieS.seq (.region (.run 2 rfl (.nil (.ret ⟨.inl rfl, rfl⟩))))
 ·refine TieS.seq (.region (.run 2 rfl (.call _ rfl rfl rfl (q204 speed charge) (fun _ => rfl) fun v2 => .run 2 rfl ?_)))
  refine TieO.nil (.cond rfl ?_ ?_)
  ·exact TieS.seq (.region (.run 2 rfl (.nil (.ret ⟨.inl rfl, rfl⟩))))
  ·refine TieS.skip (.endb (.seq (TieX.pre fun v3 hv3 => TieX.pre fun x hx => ?_)))
   exact TieX.pre fun v4 hv4 => TieS.draw 14 [_, _, _, _, _, _, _, _, _, _, _, _, _, _] [(1, .t (tI speed)), (2, .t (tI charge)), (3, .ptr 3 0)] [(3, .box [.t (tB p2.Active), .t (tB p2.Rich), .t (tI p2.Factor), .t (tI p2.Wait), .t (tS q16 p2.Cells)])] mixed (.of rfl rfl) rfl rfl rfl rfl (.cons (.quiet rfl rfl rfl) (.cons (.quiet rfl rfl rfl) (.cons (.quiet rfl rfl rfl) (.cons (.quiet rfl rfl rfl) (.cons (.quiet rfl rfl rfl) (.cons (.quiet rfl rfl rfl) (.cons (.callV (q435 speed charge) hv3 rfl rfl rfl rfl) (.cons (.index hx rfl rfl rfl rfl rfl rfl (fun _ => rfl)) (.cons (.quiet rfl rfl rfl) (.cons (.quiet rfl rfl rfl) (.cons (.quiet rfl rfl rfl) (.cons (.callV (q24 (w64 (p2.Factor + x.Value)) 700 1300) hv4 rfl rfl rfl rfl) (.cons (.quiet rfl rfl rfl) (.cons (.quiet rfl rfl rfl) (.nil))))))))))))))) (.nil (.ret ⟨.inl rfl, rfl⟩))
set_option maxRecDepth 100000 in
theorem q493 (charge : Int) (factor : Int) : TieF Tryz.prog 173 [.t (tI charge), .t (tI factor)] (q340 charge factor) (fun r => .tup [.t (tI r.1), .t (tI r.2)]) := by
 refine TieF.intro htab 19 [.tmp 4, .tmp 5] Tryz.call173 Tryz.func173 rfl rfl rfl (Nat.le_of_ble_eq_true rfl) fun w0 L => ?_
 refine TieS.seq (.region (.run 2 rfl (.nil (.seq ?_))))
 refine TieS.seq (.region (.run 1 rfl (.call _ rfl rfl rfl (q59 charge 0 1048576) (fun _ => rfl) fun v => .run 2 rfl ?_)))
 refine TieO.bind 4 (fun b2 => ⟨[(0, .t (tI charge)), (1, .t (tI factor)), (13, .t (tB b2))], []⟩) (TieO.split 9 rfl ?_ ?_) fun b2 _ => ?_
 ·exact TieO.run 4 rfl (.nil (.leaf ⟨rfl, .of rfl rfl⟩))
 ·exact TieO.run 1 rfl (.call _ rfl rfl rfl (q59 factor 500 2000) (fun _ => rfl) fun v2 => .run 2 rfl (.nil (.leaf ⟨rfl, .of rfl rfl⟩)))
 refine TieO.nil (.cond rfl ?_ ?_)
 ·exact TieS.seq (.region (.run 2 rfl (.nil (.ret ⟨.inl rfl, rfl⟩))))
 ·refine TieS.skip (.seq (.region (.run 4 rfl (.quo rfl rfl rfl rfl rfl rfl fun q => ?_))))
  exact TieO.run 2 rfl (.nil (.ret ⟨.inl rfl, rfl⟩))
set_option maxRecDepth 100000 in
theorem q486 (n2 : Int) (n3 : Nat) (cs : List (List Tree)) (cmp : Int → Option Int) (h2 : ∀ x0, TieF Tryz.prog n3 ([.t (tI x0)] ++ cs.map T.el) (cmp x0) (fun r => .t (tI r))) : TieF Tryz.prog 234 [.t (tI n2), .fz n3 cs] (q285 n2 cmp) (fun r => .tup [.t (tI r.1), .t (tB r.2)]) := by
 refine TieF.intro htab 35 [.tmp 4, .tmp 5] Tryz.call234 Tryz.func234 rfl rfl rfl (Nat.le_of_ble_eq_true rfl) fun w0 L => ?_
 refine TieS.seq (.region (.run 2 rfl (.nil (.seq ?_))))
 refine TieS.region (.run 3 rfl (.nil (.seq (.block ?_))))
 refine TieS.loop (fun t => ⟨[(0, .t (tI n2)), (1, .fz n3 cs), (4, .t (tI t.1)), (6, .t (tI t.2))], []⟩) (fun b e σ' => match b with | .inl t => e = .exit 0 ∧ Sub ⟨[(0, .t (tI n2)), (1, .fz n3 cs), (4, .t (tI t.1))], []⟩ σ' | .inr t => False) (.of rfl rfl) ?_ ?_
 ·intro s
  refine TieS.seq (.seq (.region (.run 3 rfl (.nil ?_))))
  refine TieS.cond rfl ?_ ?_
  ·refine TieS.skip (.block (.seq (.region (.run 7 rfl ?_))))
   refine TieO.nil (.seq (.region (.run 2 rfl (.call _ rfl rfl rfl (h2 (w64 (bitShr .u64 (IntKind.u64.wrap (w64 (s.1 + s.2))) 1))) (fun _ => rfl) fun v => ?_))))
   refine TieO.run 1 rfl (.nil (.cond rfl ?_ ?_))
   ·exact TieS.region (.run 3 rfl (.nil (.endb (.leaf ⟨rfl, .of rfl rfl⟩))))
   ·exact TieS.region (.run 2 rfl (.nil (.endb (.leaf ⟨rfl, .of rfl rfl⟩))))
  ·exact TieS.exitOut rfl ⟨(fun h => by cases h), rfl, .of rfl rfl⟩
 rintro (s2 | r) e σ' _ hq
 ·obtain ⟨rfl, hs⟩ := hq
  refine TieX.exit rfl (TieX.sub hs ?_)
  refine TieS.seq (.region (.run 5 rfl (.bind 5 (fun b2 => ⟨[(25, .t (tI s2.1)), (34, .t (tB b2))], []⟩) (TieO.split 29 rfl ?_ ?_) fun b2 _ => ?_)))
  ·exact TieO.run 2 rfl (.call _ rfl rfl rfl (h2 s2.1) (fun _ => rfl) fun v2 => .run 2 rfl (.nil (.leaf ⟨rfl, .of rfl rfl⟩)))
  ·exact TieO.run 5 rfl (.nil (.leaf ⟨rfl, .of rfl rfl⟩))
  exact TieO.run 2 rfl (.nil (.ret ⟨.inl rfl, rfl⟩))
 ·exact hq.elim
set_option maxRecDepth 100000 in
theorem q457 (i : Int) (c : SBody) (c2 : Int) (c3 : Int) : TieF Tryz.prog 235 [.t (tI i), .el (q126 c), .el (Pv.encI c2), .el (Pv.encI c3)] (q165 i c c2 c3) (fun r => .t (tI r)) := by
 refine TieF.intro htab 18 [.tmp 5] Tryz.call235 Tryz.func235 rfl rfl rfl (Nat.le_of_ble_eq_true rfl) fun w0 L => ?_
 refine TieS.seq (.region (.run 1 rfl (.nil (.seq ?_))))
 refine TieS.region (.run 3 rfl (.call _ rfl rfl rfl (q292 c c2 i) (fun _ => rfl) fun r2 => .run 5 rfl (.nil ?_)))
 exact TieS.seq (.region (.run 4 rfl (.nil (.ret ⟨.inl rfl, rfl⟩))))
set_option maxRecDepth 100000 in
theorem q482 (b2 : SBody) (film : Int) (mass : Int) : TieF Tryz.prog 174 [A_SBody b2, .t (tI film), .t (tI mass)] (q240 b2 film mass) (fun r => .tup [.t (tI r.1), .t (tI r.2.1), .t (tI r.2.2)]) := by
 refine TieF.intro htab 40 [.tmp 6, .tmp 7, .tmp 8] Tryz.call174 Tryz.func174 rfl rfl rfl (Nat.le_of_ble_eq_true rfl) fun w0 L => ?_
 refine TieS.seq (.region (.run 6 rfl (.nil (.seq ?_))))
 refine TieS.block (.seq (.region (.run 1 rfl (.call _ rfl rfl rfl (q378 b2) (fun _ => rfl) fun v => ?_))))
 refine TieO.run 2 rfl (.nil (.cond rfl ?_ ?_))
 ·exact TieS.seq (.region (.run 3 rfl (.nil (.ret ⟨.inl rfl, rfl⟩))))
 ·refine TieS.seq (.region (.run 1 rfl (.call _ rfl rfl rfl (q59 film 0 1073741824) (fun _ => rfl) fun v2 => .run 2 rfl ?_)))
  refine TieO.bind 4 (fun b3 => ⟨[(3, .ptr 3 0), (4, .ptr 4 0), (5, .ptr 5 0), (21, .t (tB b3))], [(3, .box [.t (tI b2.Inertia), .t (tI b2.Friction), .t (tI b2.Volume), .t (tI b2.Throttle), .t (tI b2.Film), .t (tI b2.Evaporate), .t (tI b2.Delay)]), (4, .box [.t (tI film)]), (5, .box [.t (tI mass)])]⟩) (TieO.split 17 rfl ?_ ?_) fun b3 _ => ?_
  ·exact TieO.run 4 rfl (.nil (.leaf ⟨rfl, .of rfl rfl⟩))
  ·exact TieO.run 1 rfl (.call _ rfl rfl rfl (q59 mass 0 1048576) (fun _ => rfl) fun v3 => .run 2 rfl (.nil (.leaf ⟨rfl, .of rfl rfl⟩)))
  refine TieO.run 1 rfl (.nil (.cond rfl ?_ ?_))
  ·exact TieS.seq (.region (.run 3 rfl (.nil (.ret ⟨.inl rfl, rfl⟩))))
  ·refine TieS.skip (.endb (.seq (.region (.frzBox 3 rfl rfl ?_))))
   refine TieO.frzBox 4 rfl rfl (.frzBox 5 rfl rfl (.run 1 rfl (.sub (σ' := ⟨[(3, .el (q126 b2)), (4, .el (Pv.encI film)), (5, .el (Pv.encI mass)), (13, .t (tB b3)), (21, .t (tB b3)), (23, .fz 235 [q126 b2, Pv.encI film, Pv.encI mass])], []⟩) (.of rfl rfl) (.call _ rfl rfl rfl (q486 1048577 235 [q126 b2, Pv.encI film, Pv.encI mass] (fun x0 => q165 x0 b2 film mass) (fun x0 => q457 x0 b2 film mass)) (fun _ => rfl) fun r2 => ?_))))
   refine TieO.run 4 rfl (.nil (.seq (.seq (.region ?_))))
   refine TieO.run 2 rfl (.nil (.cond rfl ?_ ?_))
   ·exact TieS.seq (.region (.run 3 rfl (.nil (.ret ⟨.inl rfl, rfl⟩))))
   ·refine TieS.skip (.seq (.seq (.region (.run 3 rfl ?_))))
    refine TieO.call _ rfl rfl rfl (q292 b2 film r2.1) (fun _ => rfl) fun r3 => .run 4 rfl (.nil (.seq (.region ?_)))
    refine TieO.run 2 rfl (.nil (.cond rfl ?_ ?_))
    ·exact TieS.seq (.region (.run 3 rfl (.nil (.ret ⟨.inl rfl, rfl⟩))))
    ·refine TieS.skip (.seq (.region (.run 5 rfl (.nil ?_))))
     exact TieS.ret ⟨.inl rfl, rfl⟩
set_option maxRecDepth 100000 in
theorem q455 (y : Int) : TieF Tryz.prog 203 [.t (tI y)] (q278 y) (fun r => .t (tB r)) := by
 refine TieF.intro htab 6 [.tmp 2] Tryz.call203 Tryz.func203 rfl rfl rfl (Nat.le_of_ble_eq_true rfl) fun w0 L => ?_
 refine TieS.seq (.region (.run 1 rfl (.nil (.seq ?_))))
 refine TieS.region (.run 1 rfl (.call _ rfl rfl rfl (q59 y 0 10000) (fun _ => rfl) fun v => .run 2 rfl (.nil ?_)))
 exact TieS.ret ⟨.inl rfl, rfl⟩
set_option maxRecDepth 100000 in
theorem q490 (t2 : STables) (amount : Int) (millivolts : Int) : TieF Tryz.prog 117 [q29 t2, .t (tI amount), .t (tI millivolts)] (q348 t2 amount millivolts) (fun r => .tup [.t (tI r.1), .t (tI r.2)]) := by
 refine TieF.intro htab 32 [.tmp 6, .tmp 7] Tryz.call117 Tryz.func117 rfl rfl rfl (Nat.le_of_ble_eq_true rfl) fun w0 L => ?_
 refine TieS.seq (.region (.run 3 rfl (.nil (.seq ?_))))
 refine TieS.block (.seq (.region (.run 2 rfl (.call _ rfl rfl rfl (q57 t2.Dead) (fun _ => rfl) fun v => ?_))))
 refine TieO.run 2 rfl (.bind 5 (fun b2 => ⟨[(1, .t (tI amount)), (2, .t (tI millivolts)), (3, .ptr 3 0), (18, .t (tB b2))], [(3, .box (q14 t2))]⟩) (TieO.split 13 rfl ?_ ?_) fun b2 _ => ?_)
 ·exact TieO.run 5 rfl (.nil (.leaf ⟨rfl, .of rfl rfl⟩))
 ·exact TieO.run 3 rfl (.call _ rfl rfl rfl (q21 t2.Dead.Y 203 [] q278 q455) (fun _ => rfl) fun v2 => .run 1 rfl (.nil (.leaf ⟨rfl, .of rfl rfl⟩)))
 refine TieO.run 1 rfl (.nil (.cond rfl ?_ ?_))
 ·exact TieS.seq (.region (.run 2 rfl (.nil (.ret ⟨.inl rfl, rfl⟩))))
 ·refine TieS.seq (.region (.run 1 rfl (.call _ rfl rfl rfl (q59 amount 0 1048576) (fun _ => rfl) fun v3 => .run 2 rfl ?_)))
  refine TieO.bind 4 (fun b3 => ⟨[(2, .t (tI millivolts)), (3, .ptr 3 0), (27, .t (tB b3))], [(3, .box (q14 t2))]⟩) (TieO.split 23 rfl ?_ ?_) fun b3 _ => ?_
  ·exact TieO.run 4 rfl (.nil (.leaf ⟨rfl, .of rfl rfl⟩))
  ·exact TieO.run 1 rfl (.call _ rfl rfl rfl (q59 millivolts 0 20000) (fun _ => rfl) fun v4 => .run 2 rfl (.nil (.leaf ⟨rfl, .of rfl rfl⟩)))
  refine TieO.run 1 rfl (.nil (.cond rfl ?_ ?_))
  ·exact TieS.seq (.region (.run 2 rfl (.nil (.ret ⟨.inl rfl, rfl⟩))))
  ·refine TieS.skip (.endb (.seq (.region (.run 3 rfl ?_))))
   exact TieO.call _ rfl rfl rfl (q257 t2.Dead millivolts) (fun _ => rfl) fun v5 => .run 2 rfl (.nil (.ret ⟨.inl rfl, rfl⟩))
set_option maxRecDepth 100000 in
theorem q484 (t2 : STables) (mass : Int) (millivolts : Int) : TieF Tryz.prog 175 [q29 t2, .t (tI mass), .t (tI millivolts)] (q283 t2 mass millivolts) (fun r => .tup [.t (tI r.1), .t (tI r.2)]) := by
 refine TieF.intro htab 34 [.tmp 6, .tmp 7] Tryz.call175 Tryz.func175 rfl rfl rfl (Nat.le_of_ble_eq_true rfl) fun w0 L => ?_
 refine TieS.seq (.region (.run 3 rfl (.nil (.seq ?_))))
 refine TieS.region (.run 3 rfl (.call _ rfl rfl rfl (q490 t2 mass millivolts) (fun _ => rfl) fun r2 => .run 5 rfl (.nil ?_)))
 refine TieS.seq (.seq (.region (.run 3 rfl (.selOr (v := (mass == 0)) 3 20 (fun b => ⟨[(1, .t (tI mass)), (8, .t (tI r2.1)), (9, .t (tI r2.2)), (23, .t (tB b))], []⟩) rfl ?_ ?_ ?_))))
 ·exact TieO.run 3 rfl (.nil (.leaf ⟨rfl, .of rfl rfl⟩))
 ·exact TieO.run 3 rfl (.nil (.leaf ⟨rfl, .of rfl rfl⟩))
 refine TieO.nil (.cond rfl ?_ ?_)
 ·exact TieS.seq (.region (.run 3 rfl (.nil (.ret ⟨.inl rfl, rfl⟩))))
 ·refine TieS.skip (.seq (.region (.run 1 rfl (.call _ rfl rfl rfl (q294 mass 3 2) (fun _ => rfl) fun r3 => ?_))))
  refine TieO.run 5 rfl (.nil (.seq (.region (.run 6 rfl ?_))))
  exact TieO.nil (.ret ⟨.inl rfl, rfl⟩)
set_option maxRecDepth 100000 in
theorem q359 (s : Scontrol_step) : TieG Tryz.prog 85 [.ptr 1000000 0] [(1000000, .box (lset (q10 s) [(63, .own 1000001)])), (1000001, .rows 79 7 s.out.Fires.length (s.out.Fires.map q12))] (q137 s) (fun _ => .tup []) (fun r => [(1000000, .box (lset (q10 r) [(63, .own 1000001)])), (1000001, .rows 79 7 r.out.Fires.length (r.out.Fires.map q12))]) := by
 refine TieG.intro htab 146 [] Tryz.call85 Tryz.func85 rfl rfl rfl (Nat.le_of_ble_eq_true rfl) fun w0 L => ?_
 refine TieS.seq (.region (.run 1 rfl (.nil (.seq ?_))))
 refine TieS.bind (Q₁ := fun t e σ' => e = .normal ∧ Sub ⟨[(0, .ptr 1000000 0), (2, .t (tI t.1))], [(1000000, .box (lset (q10 (u17_3 s (u11_3 s.c t.2))) [(63, .own 1000001)])), (1000001, .rows 79 7 s.out.Fires.length (s.out.Fires.map q12))]⟩ σ') ?_ ?_
 ·refine TieX.pre fun r2 hr2 => TieS.draws 28 (bm 29 0) (bm 29 268435455) ⟨[(0, .ptr 1000000 0), (2, .t (tI 0)), (32, .t (tI r2.2))], [(1000000, .box (lset (q10 (u17_3 s (u11_3 s.c r2.1))) [(63, .own 1000001)])), (1000001, .rows 79 7 s.out.Fires.length (s.out.Fires.map q12))]⟩ mixed (fun _ _ _ h => by cases h.1) rfl rfl rfl rfl ?_ ?_
  ·refine TieA.have_ (fuel₁ := 9) (l₁ := (bm 29 1048575)) (σ₁ := ⟨[(0, .ptr 1000000 0), (2, .t (tI 0)), (10, .ptr 1000000 0), (15, .agg [.t (tB s.c.Probe.Active), .t (tB s.c.Probe.Rich), .t (tI s.c.Probe.Factor), .t (tI s.c.Probe.Wait), .t (tS q16 s.c.Probe.Cells)]), (20, .t (tI s.i.Lambda)), (25, .t (tI s.i.Speed)), (29, .t (tI s.charge))], [(1000000, .box (lset (q10 s) [(63, .own 1000001)])), (1000001, .rows 79 7 s.out.Fires.length (s.out.Fires.map q12))]⟩) ?_ fun A_2 => ?_
   ·refine TieA.all [20] (by kernel_rfl) rfl (AllA.cons (σ₁ := ⟨[(0, .ptr 1000000 0), (2, .t (tI 0)), (10, .ptr 1000000 0), (30, .tup [.agg [.t (tB r2.1.Active), .t (tB r2.1.Rich), .t (tI r2.1.Factor), .t (tI r2.1.Wait), .t (tS q16 r2.1.Cells)], .t (tI r2.2)])], [(1000000, .box (lset (q10 s) [(63, .own 1000001)])), (1000001, .rows 79 7 s.out.Fires.length (s.out.Fires.map q12))]⟩) _ rfl rfl ?_ ?_ ?_)
    ·refine TieO.withH hr2 (TieO.call _ rfl rfl rfl (q437 s.c.Probe s.i.Lambda s.i.Speed s.charge) (fun _ => rfl) (TieO.ifH ?_))
     exact TieO.nil (TieS.leaf ⟨rfl, .of rfl rfl⟩)
    ·refine TieA.mv 21 rfl (.inl rfl) rfl (by kernel_rfl) rfl (.all [22, 23] (by kernel_rfl) rfl (AllA.run _ rfl rfl rfl ?_ ?_))
     ·refine TieA.nP 24 rfl rfl rfl (by kernel_rfl) rfl (.fP 25 rfl rfl rfl (by kernel_rfl) rfl rfl rfl (.fP 26 rfl rfl rfl (by kernel_rfl) rfl rfl rfl (.all [23, 27] (by kernel_rfl) rfl (AllA.run _ rfl rfl rfl ?_ ?_))))
      ·refine TieA.all [27] (by kernel_rfl) rfl (AllA.run _ rfl rfl rfl ?_ ?_)
       ·exact TieA.done (.of rfl rfl)
       exact AllA.nil
      refine AllA.run _ rfl rfl rfl ?_ ?_
      ·refine TieA.all [23] (by kernel_rfl) rfl (AllA.run _ rfl rfl rfl ?_ ?_)
       ·exact TieA.done (.of rfl rfl)
       exact AllA.nil
      exact AllA.nil
     refine AllA.run _ rfl rfl rfl ?_ ?_
     ·refine TieA.all [22] (by kernel_rfl) rfl (AllA.run _ rfl rfl rfl ?_ ?_)
      ·refine TieA.nP 24 rfl rfl rfl (by kernel_rfl) rfl (.fP 25 rfl rfl rfl (by kernel_rfl) rfl rfl rfl (.fP 26 rfl rfl rfl (by kernel_rfl) rfl rfl rfl (.all [27] (by kernel_rfl) rfl (AllA.run _ rfl rfl rfl ?_ ?_))))
       ·exact TieA.done (.of rfl rfl)
       exact AllA.nil
      exact AllA.nil
     exact AllA.nil
    exact AllA.nil
   refine TieA.have_ (fuel₁ := 10) (l₁ := (bm 29 524287)) (σ₁ := ⟨[(0, .ptr 1000000 0), (2, .t (tI 0)), (10, .ptr 1000000 0), (15, .agg [.t (tB s.c.Probe.Active), .t (tB s.c.Probe.Rich), .t (tI s.c.Probe.Factor), .t (tI s.c.Probe.Wait), .t (tS q16 s.c.Probe.Cells)]), (20, .t (tI s.i.Lambda)), (25, .t (tI s.i.Speed)), (28, .ptr 1000000 57)], [(1000000, .box (lset (q10 s) [(63, .own 1000001)])), (1000001, .rows 79 7 s.out.Fires.length (s.out.Fires.map q12))]⟩) ?_ fun A_1 => ?_
   ·exact TieA.all [19] (by kernel_rfl) rfl (AllA.runTo _ rfl rfl rfl (.of rfl rfl) A_2 (AllA.nil))
   refine TieA.have_ (fuel₁ := 10) (l₁ := (bm 29 1015807)) (σ₁ := ⟨[(0, .ptr 1000000 0), (2, .t (tI 0)), (10, .ptr 1000000 0), (15, .agg [.t (tB s.c.Probe.Active), .t (tB s.c.Probe.Rich), .t (tI s.c.Probe.Factor), .t (tI s.c.Probe.Wait), .t (tS q16 s.c.Probe.Cells)]), (20, .t (tI s.i.Lambda)), (24, .ptr 1000000 48), (29, .t (tI s.charge))], [(1000000, .box (lset (q10 s) [(63, .own 1000001)])), (1000001, .rows 79 7 s.out.Fires.length (s.out.Fires.map q12))]⟩) ?_ fun A_3 => ?_
   ·exact TieA.all [15] (by kernel_rfl) rfl (AllA.runTo _ rfl rfl rfl (.of rfl rfl) A_2 (AllA.nil))
   refine TieA.have_ (fuel₁ := 11) (l₁ := (bm 29 491519)) (σ₁ := ⟨[(0, .ptr 1000000 0), (2, .t (tI 0)), (10, .ptr 1000000 0), (15, .agg [.t (tB s.c.Probe.Active), .t (tB s.c.Probe.Rich), .t (tI s.c.Probe.Factor), .t (tI s.c.Probe.Wait), .t (tS q16 s.c.Probe.Cells)]), (20, .t (tI s.i.Lambda)), (24, .ptr 1000000 48), (28, .ptr 1000000 57)], [(1000000, .box (lset (q10 s) [(63, .own 1000001)])), (1000001, .rows 79 7 s.out.Fires.length (s.out.Fires.map q12))]⟩) ?_ fun A_0 => ?_
   ·exact TieA.all [15, 19] (by kernel_rfl) rfl (AllA.runTo _ rfl rfl rfl (.of rfl rfl) A_1 (AllA.runTo _ rfl rfl rfl (.of rfl rfl) A_3 (AllA.nil)))
   refine TieA.have_ (fuel₁ := 10) (l₁ := (bm 29 1047551)) (σ₁ := ⟨[(0, .ptr 1000000 0), (2, .t (tI 0)), (10, .ptr 1000000 0), (15, .agg [.t (tB s.c.Probe.Active), .t (tB s.c.Probe.Rich), .t (tI s.c.Probe.Factor), .t (tI s.c.Probe.Wait), .t (tS q16 s.c.Probe.Cells)]), (19, .ptr 1000000 52), (25, .t (tI s.i.Speed)), (29, .t (tI s.charge))], [(1000000, .box (lset (q10 s) [(63, .own 1000001)])), (1000001, .rows 79 7 s.out.Fires.length (s.out.Fires.map q12))]⟩) ?_ fun A_5 => ?_
   ·exact TieA.all [10] (by kernel_rfl) rfl (AllA.runTo _ rfl rfl rfl (.of rfl rfl) A_2 (AllA.nil))
   refine TieA.have_ (fuel₁ := 11) (l₁ := (bm 29 523263)) (σ₁ := ⟨[(0, .ptr 1000000 0), (2, .t (tI 0)), (10, .ptr 1000000 0), (15, .agg [.t (tB s.c.Probe.Active), .t (tB s.c.Probe.Rich), .t (tI s.c.Probe.Factor), .t (tI s.c.Probe.Wait), .t (tS q16 s.c.Probe.Cells)]), (19, .ptr 1000000 52), (25, .t (tI s.i.Speed)), (28, .ptr 1000000 57)], [(1000000, .box (lset (q10 s) [(63, .own 1000001)])), (1000001, .rows 79 7 s.out.Fires.length (s.out.Fires.map q12))]⟩) ?_ fun A_4 => ?_
   ·exact TieA.all [10, 19] (by kernel_rfl) rfl (AllA.runTo _ rfl rfl rfl (.of rfl rfl) A_1 (AllA.runTo _ rfl rfl rfl (.of rfl rfl) A_5 (AllA.nil)))
   refine TieA.have_ (fuel₁ := 11) (l₁ := (bm 29 1014783)) (σ₁ := ⟨[(0, .ptr 1000000 0), (2, .t (tI 0)), (10, .ptr 1000000 0), (15, .agg [.t (tB s.c.Probe.Active), .t (tB s.c.Probe.Rich), .t (tI s.c.Probe.Factor), .t (tI s.c.Probe.Wait), .t (tS q16 s.c.Probe.Cells)]), (19, .ptr 1000000 52), (24, .ptr 1000000 48), (29, .t (tI s.charge))], [(1000000, .box (lset (q10 s) [(63, .own 1000001)])), (1000001, .rows 79 7 s.out.Fires.length (s.out.Fires.map q12))]⟩) ?_ fun A_6 => ?_
   ·exact TieA.all [10, 15] (by kernel_rfl) rfl (AllA.runTo _ rfl rfl rfl (.of rfl rfl) A_3 (AllA.runTo _ rfl rfl rfl (.of rfl rfl) A_5 (AllA.nil)))
   refine TieA.have_ (fuel₁ := 10) (l₁ := (bm 29 1048543)) (σ₁ := ⟨[(0, .ptr 1000000 0), (2, .t (tI 0)), (10, .ptr 1000000 0), (14, .ptr 1000000 38), (20, .t (tI s.i.Lambda)), (25, .t (tI s.i.Speed)), (29, .t (tI s.charge))], [(1000000, .box (lset (q10 s) [(63, .own 1000001)])), (1000001, .rows 79 7 s.out.Fires.length (s.out.Fires.map q12))]⟩) ?_ fun A_8 => ?_
   ·exact TieA.all [5] (by kernel_rfl) rfl (AllA.runTo _ rfl rfl rfl (.of rfl rfl) A_2 (AllA.nil))
   refine TieA.have_ (fuel₁ := 11) (l₁ := (bm 29 524255)) (σ₁ := ⟨[(0, .ptr 1000000 0), (2, .t (tI 0)), (10, .ptr 1000000 0), (14, .ptr 1000000 38), (20, .t (tI s.i.Lambda)), (25, .t (tI s.i.Speed)), (28, .ptr 1000000 57)], [(1000000, .box (lset (q10 s) [(63, .own 1000001)])), (1000001, .rows 79 7 s.out.Fires.length (s.out.Fires.map q12))]⟩) ?_ fun A_7 => ?_
   ·exact TieA.all [5, 19] (by kernel_rfl) rfl (AllA.runTo _ rfl rfl rfl (.of rfl rfl) A_1 (AllA.runTo _ rfl rfl rfl (.of rfl rfl) A_8 (AllA.nil)))
   refine TieA.have_ (fuel₁ := 11) (l₁ := (bm 29 1015775)) (σ₁ := ⟨[(0, .ptr 1000000 0), (2, .t (tI 0)), (10, .ptr 1000000 0), (14, .ptr 1000000 38), (20, .t (tI s.i.Lambda)), (24, .ptr 1000000 48), (29, .t (tI s.charge))], [(1000000, .box (lset (q10 s) [(63, .own 1000001)])), (1000001, .rows 79 7 s.out.Fires.length (s.out.Fires.map q12))]⟩) ?_ fun A_9 => ?_
   ·exact TieA.all [5, 15] (by kernel_rfl) rfl (AllA.runTo _ rfl rfl rfl (.of rfl rfl) A_3 (AllA.runTo _ rfl rfl rfl (.of rfl rfl) A_8 (AllA.nil)))
   refine TieA.have_ (fuel₁ := 11) (l₁ := (bm 29 1047519)) (σ₁ := ⟨[(0, .ptr 1000000 0), (2, .t (tI 0)), (10, .ptr 1000000 0), (14, .ptr 1000000 38), (19, .ptr 1000000 52), (25, .t (tI s.i.Speed)), (29, .t (tI s.charge))], [(1000000, .box (lset (q10 s) [(63, .own 1000001)])), (1000001, .rows 79 7 s.out.Fires.length (s.out.Fires.map q12))]⟩) ?_ fun A_10 => ?_
   ·exact TieA.all [5, 10] (by kernel_rfl) rfl (AllA.runTo _ rfl rfl rfl (.of rfl rfl) A_5 (AllA.runTo _ rfl rfl rfl (.of rfl rfl) A_8 (AllA.nil)))
   refine TieA.mv 0 rfl (.inl rfl) rfl (by kernel_rfl) rfl (.mv 1 rfl (.inl rfl) rfl (by kernel_rfl) rfl (.nP 2 rfl rfl rfl (by kernel_rfl) rfl (.fP 3 rfl rfl rfl (by kernel_rfl) rfl rfl rfl (.fP 4 rfl rfl rfl (by kernel_rfl) rfl rfl rfl ?_))))
   refine TieA.mv 6 rfl (.inl rfl) rfl (by kernel_rfl) rfl (.nP 7 rfl rfl rfl (by kernel_rfl) rfl (.fP 8 rfl rfl rfl (by kernel_rfl) rfl rfl rfl (.fP 9 rfl rfl rfl (by kernel_rfl) rfl rfl rfl (.mv 11 rfl (.inl rfl) rfl (by kernel_rfl) rfl ?_))))
   refine TieA.nP 12 rfl rfl rfl (by kernel_rfl) rfl (.fP 13 rfl rfl rfl (by kernel_rfl) rfl rfl rfl (.fP 14 rfl rfl rfl (by kernel_rfl) rfl rfl rfl (.mv 16 rfl (.inl rfl) rfl (by kernel_rfl) rfl (.nP 17 rfl rfl rfl (by kernel_rfl) rfl ?_))))
   refine TieA.fP 18 rfl rfl rfl (by kernel_rfl) rfl rfl rfl (.all [5, 10, 15, 19] (by kernel_rfl) rfl (AllA.run _ rfl rfl rfl ?_ ?_))
   ·exact TieA.all [10, 15, 19] (by kernel_rfl) rfl (AllA.runTo _ rfl rfl rfl (.of rfl rfl) A_0 (AllA.runTo _ rfl rfl rfl (.of rfl rfl) A_4 (AllA.runTo _ rfl rfl rfl (.of rfl rfl) A_6 (AllA.nil))))
   refine AllA.run _ rfl rfl rfl ?_ ?_
   ·exact TieA.all [5, 15, 19] (by kernel_rfl) rfl (AllA.runTo _ rfl rfl rfl (.of rfl rfl) A_0 (AllA.runTo _ rfl rfl rfl (.of rfl rfl) A_7 (AllA.runTo _ rfl rfl rfl (.of rfl rfl) A_9 (AllA.nil))))
   refine AllA.run _ rfl rfl rfl ?_ ?_
   ·exact TieA.all [5, 10, 19] (by kernel_rfl) rfl (AllA.runTo _ rfl rfl rfl (.of rfl rfl) A_4 (AllA.runTo _ rfl rfl rfl (.of rfl rfl) A_7 (AllA.runTo _ rfl rfl rfl (.of rfl rfl) A_10 (AllA.nil))))
   refine AllA.run _ rfl rfl rfl ?_ ?_
   ·exact TieA.all [5, 10, 15] (by kernel_rfl) rfl (AllA.runTo _ rfl rfl rfl (.of rfl rfl) A_6 (AllA.runTo _ rfl rfl rfl (.of rfl rfl) A_9 (AllA.runTo _ rfl rfl rfl (.of rfl rfl) A_10 (AllA.nil))))
   exact AllA.nil
  exact TieO.run 1 rfl (.nil (.leaf ⟨rfl, .of rfl rfl⟩))
 rintro s2 e σ' _ ⟨rfl, hs⟩
 refine TieX.sub hs (TieS.seq (.region (.run 2 rfl (.callG [(1000000, 1000000), (1000001, 1000001)] [] (fun v => ⟨[(0, .ptr 1000000 0), (2, .t (tI s2.1)), (36, .ptr 1000000 0), (37, .t (tI s2.1)), (38, .tup [])], [(1000000, .box (lset (q10 v) [(63, .own 1000001)])), (1000001, .rows 79 7 v.out.Fires.length (v.out.Fires.map q12))]⟩) (q17 (u17_3 s (u11_3 s.c s2.2)) s2.1) rfl rfl rfl rfl rfl rfl rfl (fun _ => rfl) (fun _ => rfl) (fun _ => rfl) (fun _ => .of rfl rfl) fun v hv => ?_))))
 refine TieO.nil (.seq (TieX.pre fun r3 hr3 => TieS.draw 20 [_, _, _, _, _, _, _, _, _, _, _, _, _, _, _, _, _, _, _, _] [(0, .ptr 1000000 0)] [(1000000, .box (lset (q10 v) [(63, .own 1000001)])), (1000001, .rows 79 7 v.out.Fires.length (v.out.Fires.map q12))] mixed (.of rfl rfl) rfl rfl rfl rfl (.cons (.quiet rfl rfl rfl) (.cons (.quiet rfl rfl rfl) (.cons (.quiet rfl rfl rfl) (.cons (.quiet rfl rfl rfl) (.cons (.quiet rfl rfl rfl) (.cons (.quiet rfl rfl rfl) (.cons (.quiet rfl rfl rfl) (.cons (.quiet rfl rfl rfl) (.cons (.quiet rfl rfl rfl) (.cons (.quiet rfl rfl rfl) (.cons (.quiet rfl rfl rfl) (.cons (.quiet rfl rfl rfl) (.cons (.quiet rfl rfl rfl) (.cons (.quiet rfl rfl rfl) (.cons (.callV (q407 v.c.Probe v.i.Speed v.charge) hr3 rfl rfl rfl rfl) (.cons (.quiet rfl rfl rfl) (.cons (.quiet rfl rfl rfl) (.cons (.quiet rfl rfl rfl) (.cons (.quiet rfl rfl rfl) (.cons (.quiet rfl rfl rfl) (.nil))))))))))))))))))))) (.nil ?_)))
 refine TieS.seq (.region (.run 2 rfl (.callG [(1000000, 1000000), (1000001, 1000001)] [] (fun v2 => ⟨[(0, .ptr 1000000 0), (2, .t (tI r3.2)), (3, .t (tI r3.1)), (39, .tup [.t (tI r3.1), .t (tI r3.2)]), (40, .ptr 1000000 0), (41, .ptr 1000000 0), (42, .ptr 1000000 33), (43, .ptr 1000000 38), (44, .agg [.t (tB v.c.Probe.Active), .t (tB v.c.Probe.Rich), .t (tI v.c.Probe.Factor), .t (tI v.c.Probe.Wait), .t (tS q16 v.c.Probe.Cells)]), (45, .ptr 1000000 0), (46, .ptr 1000000 0), (47, .ptr 1000000 46), (48, .ptr 1000000 48), (49, .t (tI v.i.Speed)), (50, .ptr 1000000 0), (51, .ptr 1000000 0), (52, .ptr 1000000 57), (53, .t (tI v.charge)), (54, .tup [.t (tI r3.1), .t (tI r3.2)]), (55, .t (tI r3.1)), (56, .t (tI r3.2)), (57, .ptr 1000000 0), (58, .t (tI r3.2)), (59, .tup [])], [(1000000, .box (lset (q10 v2) [(63, .own 1000001)])), (1000001, .rows 79 7 v2.out.Fires.length (v2.out.Fires.map q12))]⟩) (q17 v r3.2) rfl rfl rfl rfl rfl rfl rfl (fun _ => rfl) (fun _ => rfl) (fun _ => rfl) (fun _ => .of rfl rfl) fun v2 hv2 => .nil ?_)))
 refine TieS.seq (.region (.run 4 rfl (.call _ rfl rfl rfl (q493 v2.charge 1000) (fun _ => rfl) fun r4 => .run 5 rfl ?_)))
 refine TieO.nil (.seq (.region (.run 2 rfl (.callG [(1000000, 1000000), (1000001, 1000001)] [] (fun v3 => ⟨[(0, .ptr 1000000 0), (2, .t (tI r4.2)), (3, .t (tI r3.1)), (4, .t (tI r4.1)), (39, .tup [.t (tI r3.1), .t (tI r3.2)]), (40, .ptr 1000000 0), (41, .ptr 1000000 0), (42, .ptr 1000000 33), (43, .ptr 1000000 38), (44, .agg [.t (tB v.c.Probe.Active), .t (tB v.c.Probe.Rich), .t (tI v.c.Probe.Factor), .t (tI v.c.Probe.Wait), .t (tS q16 v.c.Probe.Cells)]), (45, .ptr 1000000 0), (46, .ptr 1000000 0), (47, .ptr 1000000 46), (48, .ptr 1000000 48), (49, .t (tI v.i.Speed)), (50, .ptr 1000000 0), (51, .ptr 1000000 0), (52, .ptr 1000000 57), (53, .t (tI v.charge)), (54, .tup [.t (tI r3.1), .t (tI r3.2)]), (55, .t (tI r3.1)), (56, .t (tI r3.2)), (57, .ptr 1000000 0), (58, .t (tI r3.2)), (59, .tup []), (60, .tup [.t (tI r4.1), .t (tI r4.2)]), (61, .ptr 1000000 0), (62, .ptr 1000000 0), (63, .ptr 1000000 57), (64, .t (tI v2.charge)), (65, .tup [.t (tI r4.1), .t (tI r4.2)]), (66, .t (tI r4.1)), (67, .t (tI r4.2)), (68, .ptr 1000000 0), (69, .t (tI r4.2)), (70, .tup [])], [(1000000, .box (lset (q10 v3) [(63, .own 1000001)])), (1000001, .rows 79 7 v3.out.Fires.length (v3.out.Fires.map q12))]⟩) (q17 v2 r4.2) rfl rfl rfl rfl rfl rfl rfl (fun _ => rfl) (fun _ => rfl) (fun _ => rfl) (fun _ => .of rfl rfl) fun v3 hv3 => ?_))))
 refine TieO.nil (.seq (.region (.run 6 rfl (.nil ?_))))
 refine TieS.seq (TieX.pre fun r5 hr5 => TieS.draw 18 [_, _, _, _, _, _, _, _, _, _, _, _, _, _, _, _, _, _] [(0, .ptr 1000000 0), (4, .t (tI (minI 1048576 (w64 (Int.tdiv (w64 (r4.1 * r3.1)) 1000)))))] [(1000000, .box (lset (q10 v3) [(63, .own 1000001)])), (1000001, .rows 79 7 v3.out.Fires.length (v3.out.Fires.map q12))] mixed (.of rfl rfl) rfl rfl rfl rfl (.cons (.quiet rfl rfl rfl) (.cons (.quiet rfl rfl rfl) (.cons (.quiet rfl rfl rfl) (.cons (.quiet rfl rfl rfl) (.cons (.quiet rfl rfl rfl) (.cons (.quiet rfl rfl rfl) (.cons (.quiet rfl rfl rfl) (.cons (.quiet rfl rfl rfl) (.cons (.quiet rfl rfl rfl) (.cons (.quiet rfl rfl rfl) (.cons (.callV (q482 v3.b v3.c.Film (minI 1048576 (w64 (Int.tdiv (w64 (r4.1 * r3.1)) 1000)))) hr5 rfl rfl rfl rfl) (.cons (.quiet rfl rfl rfl) (.cons (.quiet rfl rfl rfl) (.cons (.quiet rfl rfl rfl) (.cons (.quiet rfl rfl rfl) (.cons (.quiet rfl rfl rfl) (.cons (.quiet rfl rfl rfl) (.cons (.quiet rfl rfl rfl) (.nil))))))))))))))))))) (.nil (.seq ?_)))
 refine TieS.seq (.region (.run 6 rfl (.selOr (v := (r5.2.2 != 0)) 3 96 (fun b => ⟨[(0, .ptr 1000000 0), (5, .t (tI r5.1)), (6, .t (tI r5.2.1)), (99, .t (tB b))], [(1000000, .box (lset (q10 v3) [(63, .own 1000001)])), (1000001, .rows 79 7 v3.out.Fires.length (v3.out.Fires.map q12))]⟩) rfl ?_ ?_ ?_)))
 ·exact TieO.run 3 rfl (.nil (.leaf ⟨rfl, .of rfl rfl⟩))
 ·exact TieO.run 3 rfl (.nil (.leaf ⟨rfl, .of rfl rfl⟩))
 refine TieO.nil (.bind (Q₁ := fun t e σ' => e = .normal ∧ Sub ⟨[(0, .ptr 1000000 0), (5, .t (tI t.1)), (6, .t (tI t.2.1))], [(1000000, .box (lset (q10 t.2.2) [(63, .own 1000001)])), (1000001, .rows 79 7 t.2.2.out.Fires.length (t.2.2.out.Fires.map q12))]⟩ σ') ?_ ?_)
 ·refine TieS.cond rfl ?_ ?_
  ·refine TieS.seq (.region (.run 1 rfl (.nil (.seq ?_))))
   refine TieX.pre fun r6 hr6 => TieS.draw 16 [_, _, _, _, _, _, _, _, _, _, _, _, _, _, _, _] [(0, .ptr 1000000 0), (5, .t (tI 0))] [(1000000, .box (lset (q10 v3) [(63, .own 1000001)])), (1000001, .rows 79 7 v3.out.Fires.length (v3.out.Fires.map q12))] mixed (.of rfl rfl) rfl rfl rfl rfl (.cons (.quiet rfl rfl rfl) (.cons (.quiet rfl rfl rfl) (.cons (.quiet rfl rfl rfl) (.cons (.quiet rfl rfl rfl) (.cons (.quiet rfl rfl rfl) (.cons (.quiet rfl rfl rfl) (.cons (.quiet rfl rfl rfl) (.cons (.quiet rfl rfl rfl) (.cons (.quiet rfl rfl rfl) (.cons (.callV (q481 v3.b v3.c.Film 0) hr6 rfl rfl rfl rfl) (.cons (.quiet rfl rfl rfl) (.cons (.quiet rfl rfl rfl) (.cons (.quiet rfl rfl rfl) (.cons (.quiet rfl rfl rfl) (.cons (.quiet rfl rfl rfl) (.cons (.quiet rfl rfl rfl) (.nil))))))))))))))))) (.nil (.region (.run 2 rfl ?_)))
   exact TieO.callG [(1000000, 1000000), (1000001, 1000001)] [] (fun v4 => ⟨[(0, .ptr 1000000 0), (2, .t (tI r6.2.2)), (5, .t (tI 0)), (6, .t (tI r6.2.1)), (100, .tup [.t (tI r6.1), .t (tI r6.2.1), .t (tI r6.2.2)]), (101, .ptr 1000000 0), (102, .ptr 1000000 0), (103, .ptr 1000000 26), (104, .agg [.t (tI v3.b.Inertia), .t (tI v3.b.Friction), .t (tI v3.b.Volume), .t (tI v3.b.Throttle), .t (tI v3.b.Film), .t (tI v3.b.Evaporate), .t (tI v3.b.Delay)]), (105, .ptr 1000000 0), (106, .ptr 1000000 0), (107, .ptr 1000000 33), (108, .ptr 1000000 43), (109, .t (tI v3.c.Film)), (110, .tup [.t (tI r6.1), .t (tI r6.2.1), .t (tI r6.2.2)]), (111, .t (tI r6.1)), (112, .t (tI r6.2.1)), (113, .t (tI r6.2.2)), (114, .ptr 1000000 0), (115, .t (tI r6.2.2)), (116, .tup [])], [(1000000, .box (lset (q10 v4) [(63, .own 1000001)])), (1000001, .rows 79 7 v4.out.Fires.length (v4.out.Fires.map q12))]⟩) (q17 v3 r6.2.2) rfl rfl rfl rfl rfl rfl rfl (fun _ => rfl) (fun _ => rfl) (fun _ => rfl) (fun _ => .of rfl rfl) fun v4 hv4 => .nil (.leaf ⟨rfl, .of rfl rfl⟩)
  ·exact TieS.skip (.leaf ⟨rfl, .of rfl rfl⟩)
 rintro s3 e σ' _ ⟨rfl, hs⟩
 refine TieX.sub hs (TieS.seq (.region (.run 6 rfl (.nil ?_))))
 refine TieS.seq (.region (.run 2 rfl (.nil (.cond rfl ?_ ?_))))
 ·refine TieS.seq (TieX.pre fun r7 hr7 => TieS.draw 16 [_, _, _, _, _, _, _, _, _, _, _, _, _, _, _, _] [(0, .ptr 1000000 0), (5, .t (tI s3.1))] [(1000000, .box (lset (q10 (u17_11 (u17_4 (u17_3 (u17_2 (u17_1 (u17_0 s3.2.2 (⟨(⟨s3.2.2.t.Air.X, s3.2.2.t.Air.Y, s3.2.2.t.Air.Z⟩ : SMap), (⟨s3.2.2.t.Spark.X, s3.2.2.t.Spark.Y, s3.2.2.t.Spark.Z⟩ : SMap), (⟨s3.2.2.t.Torque.X, s3.2.2.t.Torque.Y, s3.2.2.t.Torque.Z⟩ : SMap), (⟨s3.2.2.t.Wish.X, s3.2.2.t.Wish.Y, s3.2.2.t.Wish.Z⟩ : SMap), (⟨s3.2.2.t.AirTemp.X, s3.2.2.t.AirTemp.Y⟩ : SCurve), (⟨s3.2.2.t.Dwell.X, s3.2.2.t.Dwell.Y⟩ : SCurve), (⟨s3.2.2.t.Dead.X, s3.2.2.t.Dead.Y⟩ : SCurve), (⟨s3.2.2.t.Efficiency.X, s3.2.2.t.Efficiency.Y⟩ : SCurve), (⟨s3.2.2.t.Idle.P, s3.2.2.t.Idle.I, s3.2.2.t.Idle.Low, s3.2.2.t.Idle.High⟩ : SGain)⟩ : STables)) (⟨s3.2.2.e.Order, s3.2.2.e.First⟩ : SEngine)) (⟨s3.2.2.b.Inertia, s3.2.2.b.Friction, s3.2.2.b.Volume, s3.2.2.b.Throttle, s3.2.2.b.Film, s3.2.2.b.Evaporate, s3.2.2.b.Delay⟩ : SBody)) (⟨(⟨s3.2.2.c.Pedal.Value, s3.2.2.c.Pedal.Differ, s3.2.2.c.Pedal.Fault⟩ : SPedal), (⟨s3.2.2.c.Idle.Sum⟩ : SIntegral), s3.2.2.c.Knock, (⟨s3.2.2.c.Probe.Active, s3.2.2.c.Probe.Rich, s3.2.2.c.Probe.Factor, s3.2.2.c.Probe.Wait, s3.2.2.c.Probe.Cells⟩ : SProbe), s3.2.1, (⟨s3.2.2.c.Grant.Torque, s3.2.2.c.Grant.Source⟩ : SGrant)⟩ : SControls)) (⟨s3.2.2.i.Pedal1, s3.2.2.i.Pedal2, s3.2.2.i.Speed, s3.2.2.i.Pressure, s3.2.2.i.AirTemp, s3.2.2.i.Voltage, s3.2.2.i.Lambda, s3.2.2.i.Coolant, s3.2.2.i.Intensity, s3.2.2.i.Requests⟩ : SInputs)) (u16_1 s3.2.2.out []))) [(63, .own 1000001)])), (1000001, .rows 79 7 s3.2.2.out.Fires.length (s3.2.2.out.Fires.map q12))] mixed (.of rfl rfl) rfl rfl rfl rfl (.cons (.quiet rfl rfl rfl) (.cons (.quiet rfl rfl rfl) (.cons (.quiet rfl rfl rfl) (.cons (.quiet rfl rfl rfl) (.cons (.quiet rfl rfl rfl) (.cons (.quiet rfl rfl rfl) (.cons (.quiet rfl rfl rfl) (.cons (.quiet rfl rfl rfl) (.cons (.quiet rfl rfl rfl) (.cons (.quiet rfl rfl rfl) (.cons (.callV (q484 (⟨(⟨s3.2.2.t.Air.X, s3.2.2.t.Air.Y, s3.2.2.t.Air.Z⟩ : SMap), (⟨s3.2.2.t.Spark.X, s3.2.2.t.Spark.Y, s3.2.2.t.Spark.Z⟩ : SMap), (⟨s3.2.2.t.Torque.X, s3.2.2.t.Torque.Y, s3.2.2.t.Torque.Z⟩ : SMap), (⟨s3.2.2.t.Wish.X, s3.2.2.t.Wish.Y, s3.2.2.t.Wish.Z⟩ : SMap), (⟨s3.2.2.t.AirTemp.X, s3.2.2.t.AirTemp.Y⟩ : SCurve), (⟨s3.2.2.t.Dwell.X, s3.2.2.t.Dwell.Y⟩ : SCurve), (⟨s3.2.2.t.Dead.X, s3.2.2.t.Dead.Y⟩ : SCurve), (⟨s3.2.2.t.Efficiency.X, s3.2.2.t.Efficiency.Y⟩ : SCurve), (⟨s3.2.2.t.Idle.P, s3.2.2.t.Idle.I, s3.2.2.t.Idle.Low, s3.2.2.t.Idle.High⟩ : SGain)⟩ : STables) s3.1 s3.2.2.i.Voltage) hr7 rfl rfl rfl rfl) (.cons (.quiet rfl rfl rfl) (.cons (.quiet rfl rfl rfl) (.cons (.quiet rfl rfl rfl) (.cons (.quiet rfl rfl rfl) (.cons (.quiet rfl rfl rfl) (.nil))))))))))))))))) (.nil (.seq ?_)))
  refine TieS.region (.run 2 rfl (.callG [(1000000, 1000000), (1000001, 1000001)] [] (fun v5 => ⟨[(0, .ptr 1000000 0), (5, .t (tI s3.1)), (7, .t (tI r7.1)), (8, .t (tI r7.2)), (124, .tup [.t (tI r7.1), .t (tI r7.2)]), (125, .ptr 1000000 0), (126, .ptr 1000000 0), (127, .ptr 1000000 0), (128, .agg [.t (tS Pv.encI s3.2.2.t.Air.X), .t (tS Pv.encI s3.2.2.t.Air.Y), .t (tS (Pv.encS Pv.encI) s3.2.2.t.Air.Z), .t (tS Pv.encI s3.2.2.t.Spark.X), .t (tS Pv.encI s3.2.2.t.Spark.Y), .t (tS (Pv.encS Pv.encI) s3.2.2.t.Spark.Z), .t (tS Pv.encI s3.2.2.t.Torque.X), .t (tS Pv.encI s3.2.2.t.Torque.Y), .t (tS (Pv.encS Pv.encI) s3.2.2.t.Torque.Z), .t (tS Pv.encI s3.2.2.t.Wish.X), .t (tS Pv.encI s3.2.2.t.Wish.Y), .t (tS (Pv.encS Pv.encI) s3.2.2.t.Wish.Z), .t (tS Pv.encI s3.2.2.t.AirTemp.X), .t (tS Pv.encI s3.2.2.t.AirTemp.Y), .t (tS Pv.encI s3.2.2.t.Dwell.X), .t (tS Pv.encI s3.2.2.t.Dwell.Y), .t (tS Pv.encI s3.2.2.t.Dead.X), .t (tS Pv.encI s3.2.2.t.Dead.Y), .t (tS Pv.encI s3.2.2.t.Efficiency.X), .t (tS Pv.encI s3.2.2.t.Efficiency.Y), .t (tI s3.2.2.t.Idle.P), .t (tI s3.2.2.t.Idle.I), .t (tI s3.2.2.t.Idle.Low), .t (tI s3.2.2.t.Idle.High)]), (129, .t (tI s3.1)), (130, .ptr 1000000 0), (131, .ptr 1000000 0), (132, .ptr 1000000 46), (133, .ptr 1000000 51), (134, .t (tI s3.2.2.i.Voltage)), (135, .tup [.t (tI r7.1), .t (tI r7.2)]), (136, .t (tI r7.1)), (137, .t (tI r7.2)), (138, .ptr 1000000 0), (139, .t (tI r7.2)), (140, .tup [])], [(1000000, .box (lset (q10 v5) [(63, .own 1000001)])), (1000001, .rows 79 7 v5.out.Fires.length (v5.out.Fires.map q12))]⟩) (q17 (u17_11 (u17_4 (u17_3 (u17_2 (u17_1 (u17_0 s3.2.2 (⟨(⟨s3.2.2.t.Air.X, s3.2.2.t.Air.Y, s3.2.2.t.Air.Z⟩ : SMap), (⟨s3.2.2.t.Spark.X, s3.2.2.t.Spark.Y, s3.2.2.t.Spark.Z⟩ : SMap), (⟨s3.2.2.t.Torque.X, s3.2.2.t.Torque.Y, s3.2.2.t.Torque.Z⟩ : SMap), (⟨s3.2.2.t.Wish.X, s3.2.2.t.Wish.Y, s3.2.2.t.Wish.Z⟩ : SMap), (⟨s3.2.2.t.AirTemp.X, s3.2.2.t.AirTemp.Y⟩ : SCurve), (⟨s3.2.2.t.Dwell.X, s3.2.2.t.Dwell.Y⟩ : SCurve), (⟨s3.2.2.t.Dead.X, s3.2.2.t.Dead.Y⟩ : SCurve), (⟨s3.2.2.t.Efficiency.X, s3.2.2.t.Efficiency.Y⟩ : SCurve), (⟨s3.2.2.t.Idle.P, s3.2.2.t.Idle.I, s3.2.2.t.Idle.Low, s3.2.2.t.Idle.High⟩ : SGain)⟩ : STables)) (⟨s3.2.2.e.Order, s3.2.2.e.First⟩ : SEngine)) (⟨s3.2.2.b.Inertia, s3.2.2.b.Friction, s3.2.2.b.Volume, s3.2.2.b.Throttle, s3.2.2.b.Film, s3.2.2.b.Evaporate, s3.2.2.b.Delay⟩ : SBody)) (⟨(⟨s3.2.2.c.Pedal.Value, s3.2.2.c.Pedal.Differ, s3.2.2.c.Pedal.Fault⟩ : SPedal), (⟨s3.2.2.c.Idle.Sum⟩ : SIntegral), s3.2.2.c.Knock, (⟨s3.2.2.c.Probe.Active, s3.2.2.c.Probe.Rich, s3.2.2.c.Probe.Factor, s3.2.2.c.Probe.Wait, s3.2.2.c.Probe.Cells⟩ : SProbe), s3.2.1, (⟨s3.2.2.c.Grant.Torque, s3.2.2.c.Grant.Source⟩ : SGrant)⟩ : SControls)) (⟨s3.2.2.i.Pedal1, s3.2.2.i.Pedal2, s3.2.2.i.Speed, s3.2.2.i.Pressure, s3.2.2.i.AirTemp, s3.2.2.i.Voltage, s3.2.2.i.Lambda, s3.2.2.i.Coolant, s3.2.2.i.Intensity, s3.2.2.i.Requests⟩ : SInputs)) (⟨s3.2.2.out.Throttle, s3.2.2.out.Fires, s3.2.2.out.Torque⟩ : SOutputs)) r7.2) rfl rfl rfl rfl rfl rfl rfl (fun _ => rfl) (fun _ => rfl) (fun _ => rfl) (fun _ => .of rfl rfl) fun v5 hv5 => .nil (.region ?_)))
  exact TieO.run 2 rfl (.call _ rfl rfl rfl (q24 r7.1 200 20000) (fun _ => rfl) fun v6 => .run 3 rfl (.nil (.leaf ⟨.inr rfl, ⟨[(1000000, 1000000), (1000001, 1000001)], _, _, rfl, rfl, rfl, rfl, rfl⟩⟩)))
 ·exact TieS.skip (.leaf ⟨.inr rfl, ⟨[(1000000, 1000000), (1000001, 1000001)], _, _, rfl, rfl, rfl, rfl, rfl⟩⟩)
set_option maxRecDepth 100000 in
theorem q459 (k : SKnock) : TieF Tryz.prog 121 [q237 k] (q164 k) (fun r => .t (tB r)) := by
 refine TieF.intro htab 6 [.tmp 2] Tryz.call121 Tryz.func121 rfl rfl rfl (Nat.le_of_ble_eq_true rfl) fun w0 L => ?_
 refine TieS.seq (.region (.run 2 rfl (.nil (.seq ?_))))
 refine TieS.region (.run 1 rfl (.call _ rfl rfl rfl (q344 k) (fun _ => rfl) fun v => .run 2 rfl (.nil ?_)))
 exact TieS.ret ⟨.inl rfl, rfl⟩
set_option maxRecDepth 100000 in
theorem q449 (n2 : Int) : TieF Tryz.prog 123 [.t (tI n2)] (q210 n2) (fun r => .t (tB r)) := by
 refine TieF.intro htab 6 [.tmp 2] Tryz.call123 Tryz.func123 rfl rfl rfl (Nat.le_of_ble_eq_true rfl) fun w0 L => ?_
 refine TieS.seq (.region (.run 1 rfl (.nil (.seq ?_))))
 refine TieS.region (.run 1 rfl (.call _ rfl rfl rfl (q263 n2) (fun _ => rfl) fun v => .run 2 rfl (.nil ?_)))
 exact TieS.ret ⟨.inl rfl, rfl⟩
set_option maxRecDepth 100000 in
theorem q336 (s : List SKnock) : TieG Tryz.prog 125 [.t (tS q13 s)] [] (q168 s) (fun _ => .own 900000) (fun r => [(900000, .rows 95 3 r.length (r.map q13))]) := by
 refine TieG.intro htab 8 [.tmp 2] Tryz.call125 Tryz.func125 rfl rfl rfl (Nat.le_of_ble_eq_true rfl) fun w0 L => ?_
 refine TieS.seq (.region (.run 1 rfl (.nil (.seq ?_))))
 refine TieS.seq (.region (.run 1 rfl (.isNil rfl rfl rfl rfl rfl rfl fun b2 hb2 => .nil ?_)))
 refine TieS.condB rfl (fun hb1 => ?_) (fun _ => ?_)
 ·refine TieX.model (m' := some ([] : List SKnock)) (by rw [hb2 hb1]; rfl) (TieS.seq (.region (.run 1 rfl (.nil ?_))))
  exact TieX.nilP 2 70000 95 3 [] rfl rfl rfl rfl rfl (TieS.ret ⟨.inl rfl, ⟨[(70000, 900000)], _, _, rfl, rfl, rfl, rfl, rfl⟩⟩)
 ·refine TieS.skip (.seq (.region (.run 2 rfl (.appendY (id := 5) (e' := 0) (l := ([] : List SKnock)) (r := s) (tm' := [(0, .t (tS q13 s)), (2, .t (.v (.slice none 0 0))), (3, .t (tS q13 s)), (4, .t (tB b2)), (6, .t (tS q13 s))]) (hp' := []) rfl rfl rfl rfl rfl rfl rfl (fun _ => rfl) (fun _ => rfl) (.inl ⟨rfl, rfl⟩) (.inl rfl) (.of rfl rfl) rfl rfl rfl fun l => ?_))))
  exact TieO.run 1 rfl (.nil (.ret ⟨.inl rfl, ⟨[(5, 900000)], _, _, rfl, rfl, rfl, rfl, rfl⟩⟩))
set_option maxRecDepth 100000 in
theorem q468 (k : SKnock) (n2 : Int) : TieF Tryz.prog 126 [q237 k, .t (tI n2)] (q248 k n2) (fun r => .tup [q237 r.1, .t (tB r.2)]) := by
 refine TieF.intro htab 42 [.cell 4 95, .tmp 5] Tryz.call126 Tryz.func126 rfl rfl rfl (Nat.le_of_ble_eq_true rfl) fun w0 L => ?_
 refine TieS.seq (.region (.run 3 rfl (.nil (.seq ?_))))
 refine TieS.seq (.region (.run 6 rfl (.nil (.cond rfl ?_ ?_))))
 ·refine TieS.seq (.region (.run 8 rfl (.nil (.seq ?_))))
  exact TieS.region (.run 3 rfl (.nil (.ret ⟨.inl rfl, rfl⟩)))
 ·refine TieS.skip (.seq (.seq (.region (.run 5 rfl ?_))))
  refine TieO.nil (.seq (.region (.run 3 rfl (.nil ?_))))
  refine TieS.bind (Q₁ := fun t e σ' => e = .normal ∧ Sub ⟨[(1, .t (tI n2)), (2, .ptr 2 0), (4, .ptr 4 0)], [(2, .box [.t (tI t.1), .t (tI k.Noise), .t (tI t.2)]), (4, .box [.t (tI 0), .t (tI 0), .t (tI 0)])]⟩ σ') ?_ ?_
  ·refine TieS.cond rfl ?_ ?_
   ·exact TieS.region (.run 8 rfl (.nil (.leaf ⟨rfl, .of rfl rfl⟩)))
   ·exact TieS.skip (.leaf ⟨rfl, .of rfl rfl⟩)
  rintro s e σ' _ ⟨rfl, hs⟩
  refine TieX.sub hs (TieS.seq (TieX.pre fun v hv => TieS.draw 9 [_, _, _, _, _, _, _, _, _] [(1, .t (tI n2)), (2, .ptr 2 0), (4, .ptr 4 0)] [(2, .box [.t (tI s.1), .t (tI k.Noise), .t (tI s.2)]), (4, .box [.t (tI 0), .t (tI 0), .t (tI 0)])] mixed (.of rfl rfl) rfl rfl rfl rfl (.cons (.quiet rfl rfl rfl) (.cons (.quiet rfl rfl rfl) (.cons (.quiet rfl rfl rfl) (.cons (.quiet rfl rfl rfl) (.cons (.quiet rfl rfl rfl) (.cons (.quiet rfl rfl rfl) (.cons (.callV (q178 (w64 (n2 - k.Noise)) 8) hv rfl rfl rfl rfl) (.cons (.quiet rfl rfl rfl) (.cons (.quiet rfl rfl rfl) (.nil)))))))))) (.run 1 rfl ?_)))
  refine TieO.nil (.seq (.region (.run 3 rfl (.nil ?_))))
  exact TieS.ret ⟨.inl rfl, rfl⟩
set_option maxRecDepth 100000 in
theorem q488 (l : List SKnock) (intensities : List Int) : TieF Tryz.prog 33 [.t (tS q13 l), .t (tS Pv.encI intensities)] (q347 l intensities) (fun r => .tup [.t (tS q13 r.1), .t (tI r.2)]) := by
 refine TieF.intro htab 53 [.tmp 4, .tmp 5] Tryz.call33 Tryz.func33 rfl rfl rfl (Nat.le_of_ble_eq_true rfl) fun w0 L => ?_
 refine TieS.seq (.region (.run 2 rfl (.nil (.seq ?_))))
 refine TieS.seq (.region (.run 4 rfl (.selOr (v := decide ((l.length : Int) > 8)) 4 11 (fun b => ⟨[(0, .t (tS q13 l)), (1, .t (tS Pv.encI intensities)), (15, .t (tB b))], []⟩) rfl ?_ ?_ ?_)))
 ·exact TieO.run 4 rfl (.nil (.leaf ⟨rfl, .of rfl rfl⟩))
 ·exact TieO.run 4 rfl (.nil (.leaf ⟨rfl, .of rfl rfl⟩))
 refine TieO.run 1 rfl (.selOr (v := ((intensities.length : Int) != (l.length : Int))) 6 16 (fun b => ⟨[(0, .t (tS q13 l)), (1, .t (tS Pv.encI intensities)), (22, .t (tB b))], []⟩) rfl ?_ ?_ ?_)
 ·exact TieO.run 6 rfl (.nil (.leaf ⟨rfl, .of rfl rfl⟩))
 ·exact TieO.run 6 rfl (.nil (.leaf ⟨rfl, .of rfl rfl⟩))
 refine TieO.run 1 rfl (.bind 3 (fun b2 => ⟨[(0, .t (tS q13 l)), (1, .t (tS Pv.encI intensities)), (26, .t (tB b2))], []⟩) (TieO.split 23 rfl ?_ ?_) fun b2 _ => ?_)
 ·exact TieO.run 3 rfl (.nil (.leaf ⟨rfl, .of rfl rfl⟩))
 ·exact TieO.run 1 rfl (.call _ rfl rfl rfl (q121 l 121 [] q164 q459) (fun _ => rfl) fun v => .run 1 rfl (.nil (.leaf ⟨rfl, .of rfl rfl⟩)))
 refine TieO.nil (.cond rfl ?_ ?_)
 ·exact TieS.seq (.region (.run 2 rfl (.nil (.ret ⟨.inl rfl, rfl⟩))))
 ·refine TieS.skip (.seq (.seq (.region (.run 1 rfl ?_))))
  refine TieO.call _ rfl rfl rfl (q21 intensities 123 [] q210 q449) (fun _ => rfl) fun v2 => .nil (.cond rfl ?_ ?_)
  ·exact TieS.seq (.region (.run 2 rfl (.nil (.ret ⟨.inl rfl, rfl⟩))))
  ·refine TieS.skip (.seq (.region (.run 1 rfl (.callG [] [(900000, 2240)] (fun v3 => ⟨[(0, .t (tS q13 l)), (1, .t (tS Pv.encI intensities)), (26, .t (tB b2)), (27, .t (tS Pv.encI intensities)), (28, .t (tB v2)), (29, .t (tS q13 l)), (30, .own 2240)], [(2240, .rows 95 3 v3.length (v3.map q13))]⟩) (q336 l) rfl rfl rfl rfl rfl rfl rfl (fun _ => rfl) (fun _ => rfl) (fun _ => rfl) (fun _ => .of rfl rfl) fun v3 hv3 => ?_))))
   refine TieO.run 1 rfl (.nil (.seq (.seq (.region ?_))))
   refine TieO.run 3 rfl (.nil (.block (.loop (fun p => ⟨[(0, .t (tS q13 l)), (1, .t (tS Pv.encI intensities)), (6, .own 2240), (32, .t (tI (v3.length : Int))), (33, .t (tI p.1))], [(2240, .rows 95 3 p.2.length (p.2.map q13))]⟩) (fun b e σ' => match b with | .inl t => e = .exit 0 ∧ Sub ⟨[(6, .own 2240)], [(2240, .rows 95 3 t.length (t.map q13))]⟩ σ' | .inr t => False) (.of rfl rfl) ?_ ?_)))
   ·rintro ⟨i, f2⟩
    refine TieS.seq (.region (.run 1 rfl (.nil (.seq ?_))))
    refine TieS.cond rfl ?_ ?_
    ·refine TieS.skip (.seq (TieX.sub (σ' := ⟨[(0, .t (tS q13 l)), (1, .t (tS Pv.encI intensities)), (6, .own 2240), (32, .t (tI (v3.length : Int))), (33, .t (tI i))], [(2240, .rows 95 3 f2.length (f2.map q13))]⟩) (.of rfl rfl) (TieS.bind (Q₁ := fun f e σ' => match f with | .next t => e = .normal ∧ Sub ⟨[(0, .t (tS q13 l)), (1, .t (tS Pv.encI intensities)), (6, .own 2240), (32, .t (tI (v3.length : Int))), (33, .t (tI i))], [(2240, .rows 95 3 t.length (t.map q13))]⟩ σ' | .brk t => e = .exit 0 ∧ Sub ⟨[(6, .own 2240)], [(2240, .rows 95 3 t.length (t.map q13))]⟩ σ' | .ret r => False) ?_ ?_)))
     ·refine TieS.block (.seq (.region (.run 2 rfl (.nil ?_))))
      refine TieS.bind (Q₁ := fun t e σ' => e = .normal ∧ Sub ⟨[(0, .t (tS q13 l)), (1, .t (tS Pv.encI intensities)), (6, .own 2240), (32, .t (tI (v3.length : Int))), (33, .t (tI i))], [(2240, .rows 95 3 t.length (t.map q13))]⟩ σ') ?_ ?_
      ·refine TieX.pre fun x hx => TieX.pre fun x2 hx2 => TieX.pre fun r2 hr2 => TieX.pre fun x3 hx3 => TieX.pre fun l2 hl2 => ?_
       refine TieS.draws 16 (bm 16 0) (bm 16 65535) ⟨[(0, .t (tS q13 l)), (1, .t (tS Pv.encI intensities)), (6, .own 2240), (32, .t (tI (v3.length : Int))), (33, .t (tI i))], [(2240, .rows 95 3 l2.length (l2.map q13))]⟩ mixed (fun _ _ _ h => by cases h.1) rfl rfl rfl rfl ?_ ?_
       ·refine TieA.have_ (fuel₁ := 6) (l₁ := (bm 16 1023)) (σ₁ := ⟨[(0, .t (tS q13 l)), (1, .t (tS Pv.encI intensities)), (6, .own 2240), (32, .t (tI (v3.length : Int))), (33, .t (tI i)), (37, .own 2240), (38, .t (tI i)), (42, .agg [.t (tI x.Retard), .t (tI x.Noise), .t (tI x.Quiet)]), (46, .t (tI x2))], [(2240, .rows 95 3 f2.length (f2.map q13))]⟩) ?_ fun A_1 => ?_
        ·refine TieA.all [10] (by kernel_rfl) rfl (AllA.cons (σ₁ := ⟨[(0, .t (tS q13 l)), (1, .t (tS Pv.encI intensities)), (6, .own 2240), (32, .t (tI (v3.length : Int))), (33, .t (tI i)), (37, .own 2240), (38, .t (tI i)), (47, .tup [.agg [.t (tI r2.1.Retard), .t (tI r2.1.Noise), .t (tI r2.1.Quiet)], .t (tB r2.2)])], [(2240, .rows 95 3 f2.length (f2.map q13))]⟩) _ rfl rfl ?_ ?_ ?_)
         ·refine TieO.withH hr2 (TieO.call _ rfl rfl rfl (q468 x x2) (fun _ => rfl) (TieO.ifH ?_))
          exact TieO.nil (TieS.leaf ⟨rfl, .of rfl rfl⟩)
         ·refine TieA.mv 11 rfl (.inl rfl) rfl (by kernel_rfl) rfl (.all [12, 13] (by kernel_rfl) rfl (AllA.run _ rfl rfl rfl ?_ ?_))
          ·refine TieA.idx 14 _ hx3 rfl rfl rfl rfl rfl rfl (by kernel_rfl) (by kernel_rfl) (by kernel_rfl) rfl rfl rfl rfl rfl rfl (.all [13, 15] (by kernel_rfl) rfl (AllA.run _ rfl rfl rfl ?_ ?_))
           ·refine TieA.all [15] (by kernel_rfl) rfl (AllA.cons (σ₁ := ⟨[(0, .t (tS q13 l)), (1, .t (tS Pv.encI intensities)), (6, .own 2240), (32, .t (tI (v3.length : Int))), (33, .t (tI i))], [(2240, .rows 95 3 l2.length (l2.map q13))]⟩) _ rfl rfl ?_ ?_ ?_)
            ·refine TieO.withH hl2 (TieO.storeY r2.1 [tI r2.1.Retard, tI r2.1.Noise, tI r2.1.Quiet] hx3 rfl rfl rfl rfl rfl rfl rfl rfl rfl rfl rfl rfl (TieO.ifG ?_))
             exact TieO.nil (TieS.leaf ⟨rfl, .of rfl rfl⟩)
            ·exact TieA.done (.of rfl rfl)
            exact AllA.nil
           refine AllA.cons (σ₁ := ⟨[(0, .t (tS q13 l)), (1, .t (tS Pv.encI intensities)), (6, .own 2240), (32, .t (tI (v3.length : Int))), (33, .t (tI i)), (36, .tup [.agg [.t (tI r2.1.Retard), .t (tI r2.1.Noise), .t (tI r2.1.Quiet)], .t (tB r2.2)])], [(2240, .rows 95 3 l2.length (l2.map q13))]⟩) _ rfl rfl ?_ ?_ ?_
           ·refine TieO.withH hl2 (TieO.storeY r2.1 [tI r2.1.Retard, tI r2.1.Noise, tI r2.1.Quiet] hx3 rfl rfl rfl rfl rfl rfl rfl rfl rfl rfl rfl rfl (TieO.ifG ?_))
            exact TieO.nil (TieS.leaf ⟨rfl, .of rfl rfl⟩)
           ·refine TieA.all [13] (by kernel_rfl) rfl (AllA.run _ rfl rfl rfl ?_ ?_)
            ·exact TieA.done (.of rfl rfl)
            exact AllA.nil
           exact AllA.nil
          refine AllA.run _ rfl rfl rfl ?_ ?_
          ·refine TieA.all [12] (by kernel_rfl) rfl (AllA.run _ rfl rfl rfl ?_ ?_)
           ·refine TieA.idx 14 _ hx3 rfl rfl rfl rfl rfl rfl (by kernel_rfl) (by kernel_rfl) (by kernel_rfl) rfl rfl rfl rfl rfl rfl (.all [15] (by kernel_rfl) rfl (AllA.cons (σ₁ := ⟨[(0, .t (tS q13 l)), (1, .t (tS Pv.encI intensities)), (6, .own 2240), (32, .t (tI (v3.length : Int))), (33, .t (tI i))], [(2240, .rows 95 3 l2.length (l2.map q13))]⟩) _ rfl rfl ?_ ?_ ?_))
            ·refine TieO.withH hl2 (TieO.storeY r2.1 [tI r2.1.Retard, tI r2.1.Noise, tI r2.1.Quiet] hx3 rfl rfl rfl rfl rfl rfl rfl rfl rfl rfl rfl rfl (TieO.ifG ?_))
             exact TieO.nil (TieS.leaf ⟨rfl, .of rfl rfl⟩)
            ·exact TieA.done (.of rfl rfl)
            exact AllA.nil
           exact AllA.nil
          exact AllA.nil
         exact AllA.nil
        refine TieA.have_ (fuel₁ := 7) (l₁ := (bm 16 511)) (σ₁ := ⟨[(0, .t (tS q13 l)), (1, .t (tS Pv.encI intensities)), (6, .own 2240), (32, .t (tI (v3.length : Int))), (33, .t (tI i)), (37, .own 2240), (38, .t (tI i)), (42, .agg [.t (tI x.Retard), .t (tI x.Noise), .t (tI x.Quiet)]), (45, .el (Pv.encI x2))], [(2240, .rows 95 3 f2.length (f2.map q13))]⟩) ?_ fun A_0 => ?_
        ·exact TieA.all [9] (by kernel_rfl) rfl (AllA.runTo _ rfl rfl rfl (.of rfl rfl) A_1 (AllA.nil))
        refine TieA.have_ (fuel₁ := 7) (l₁ := (bm 16 991)) (σ₁ := ⟨[(0, .t (tS q13 l)), (1, .t (tS Pv.encI intensities)), (6, .own 2240), (32, .t (tI (v3.length : Int))), (33, .t (tI i)), (37, .own 2240), (38, .t (tI i)), (41, .el (q13 x)), (46, .t (tI x2))], [(2240, .rows 95 3 f2.length (f2.map q13))]⟩) ?_ fun A_3 => ?_
        ·exact TieA.all [5] (by kernel_rfl) rfl (AllA.runTo _ rfl rfl rfl (.of rfl rfl) A_1 (AllA.nil))
        refine TieA.have_ (fuel₁ := 8) (l₁ := (bm 16 479)) (σ₁ := ⟨[(0, .t (tS q13 l)), (1, .t (tS Pv.encI intensities)), (6, .own 2240), (32, .t (tI (v3.length : Int))), (33, .t (tI i)), (37, .own 2240), (38, .t (tI i)), (41, .el (q13 x)), (45, .el (Pv.encI x2))], [(2240, .rows 95 3 f2.length (f2.map q13))]⟩) ?_ fun A_2 => ?_
        ·exact TieA.all [5, 9] (by kernel_rfl) rfl (AllA.runTo _ rfl rfl rfl (.of rfl rfl) A_0 (AllA.runTo _ rfl rfl rfl (.of rfl rfl) A_3 (AllA.nil)))
        refine TieA.mv 0 rfl (.inl rfl) rfl (by kernel_rfl) rfl (.mv 1 rfl (.inl rfl) rfl (by kernel_rfl) rfl (.mv 2 rfl (.inl rfl) rfl (by kernel_rfl) rfl (.mv 3 rfl (.inl rfl) rfl (by kernel_rfl) rfl (.mv 6 rfl (.inl rfl) rfl (by kernel_rfl) rfl ?_))))
        refine TieA.mv 7 rfl (.inl rfl) rfl (by kernel_rfl) rfl (.all [4, 8] (by kernel_rfl) rfl (AllA.cons (σ₁ := ⟨[(0, .t (tS q13 l)), (1, .t (tS Pv.encI intensities)), (6, .own 2240), (32, .t (tI (v3.length : Int))), (33, .t (tI i)), (37, .own 2240), (38, .t (tI i)), (41, .el (q13 x)), (43, .t (tS Pv.encI intensities)), (44, .t (tI i))], [(2240, .rows 95 3 f2.length (f2.map q13))]⟩) _ rfl rfl ?_ ?_ ?_))
        ·exact TieO.indexH hx rfl rfl rfl rfl rfl rfl rfl rfl (fun _ => rfl) (.nil (TieS.leaf ⟨rfl, .of rfl rfl⟩))
        ·refine TieA.all [5, 8] (by kernel_rfl) rfl (AllA.run _ rfl rfl rfl ?_ ?_)
         ·refine TieA.all [8] (by kernel_rfl) rfl (AllA.cons _ rfl rfl ?_ A_0 ?_)
          ·exact TieO.indexH hx2 rfl rfl rfl rfl rfl rfl rfl rfl (fun _ => rfl) (.nil (TieS.leaf ⟨rfl, .of rfl rfl⟩))
          exact AllA.nil
         refine AllA.cons _ rfl rfl ?_ A_2 ?_
         ·exact TieO.indexH hx2 rfl rfl rfl rfl rfl rfl rfl rfl (fun _ => rfl) (.nil (TieS.leaf ⟨rfl, .of rfl rfl⟩))
         exact AllA.nil
        refine AllA.cons (σ₁ := ⟨[(0, .t (tS q13 l)), (1, .t (tS Pv.encI intensities)), (6, .own 2240), (32, .t (tI (v3.length : Int))), (33, .t (tI i)), (37, .own 2240), (38, .t (tI i)), (39, .t (tS q13 l)), (40, .t (tI i)), (45, .el (Pv.encI x2))], [(2240, .rows 95 3 f2.length (f2.map q13))]⟩) _ rfl rfl ?_ ?_ ?_
        ·exact TieO.indexH hx2 rfl rfl rfl rfl rfl rfl rfl rfl (fun _ => rfl) (.nil (TieS.leaf ⟨rfl, .of rfl rfl⟩))
        ·refine TieA.all [4, 9] (by kernel_rfl) rfl (AllA.cons _ rfl rfl ?_ A_2 ?_)
         ·exact TieO.indexH hx rfl rfl rfl rfl rfl rfl rfl rfl (fun _ => rfl) (.nil (TieS.leaf ⟨rfl, .of rfl rfl⟩))
         refine AllA.run _ rfl rfl rfl ?_ ?_
         ·refine TieA.all [4] (by kernel_rfl) rfl (AllA.cons _ rfl rfl ?_ A_3 ?_)
          ·exact TieO.indexH hx rfl rfl rfl rfl rfl rfl rfl rfl (fun _ => rfl) (.nil (TieS.leaf ⟨rfl, .of rfl rfl⟩))
          exact AllA.nil
         exact AllA.nil
        exact AllA.nil
       exact TieO.nil (.leaf ⟨rfl, .of rfl rfl⟩)
      rintro f3 e σ' _ ⟨rfl, hs⟩
      exact TieX.sub hs (TieS.endb (.leaf ⟨rfl, .of rfl rfl⟩))
     rintro (t | t | r) e σ' _ hq
     ·obtain ⟨rfl, hs⟩ := hq
      exact TieX.sub hs (TieS.region (.run 2 rfl (.nil (.leaf ⟨rfl, .of rfl rfl⟩))))
     ·obtain ⟨rfl, hs⟩ := hq
      exact TieX.exitOut rfl ⟨(fun h => by cases h), rfl, hs⟩
     ·exact hq.elim
    ·exact TieS.exitOut rfl ⟨(fun h => by cases h), rfl, .of rfl rfl⟩
   rintro (f4 | r) e σ' _ hq
   ·obtain ⟨rfl, hs⟩ := hq
    refine TieX.exit rfl (TieX.sub hs ?_)
    exact TieS.seq (.region (.run 3 rfl (.nil (.ret ⟨.inl rfl, rfl⟩))))
   ·exact hq.elim
set_option maxRecDepth 100000 in
theorem q421 (a : Int) (b2 : Int) : TieF Tryz.prog 285 [.t (tI a), .t (tI b2)] (q227 a b2) (fun r => .t (tI r)) := by
 refine TieF.intro htab 8 [.tmp 4] Tryz.call285 Tryz.func285 rfl rfl rfl (Nat.le_of_ble_eq_true rfl) fun w0 L => ?_
 refine TieS.seq (.region (.run 1 rfl (.nil (.seq ?_))))
 exact TieS.region (.run 4 rfl (.nil (.ret ⟨.inl rfl, rfl⟩)))
set_option maxRecDepth 100000 in
theorem q461 (l : List Int) : TieF Tryz.prog 261 [.t (tS Pv.encI l)] (q282 l) (fun r => .t (tB r)) := by
 refine TieF.intro htab 5 [.tmp 2] Tryz.call261 Tryz.func261 rfl rfl rfl (Nat.le_of_ble_eq_true rfl) fun w0 L => ?_
 refine TieS.seq (.region (.run 1 rfl (.nil (.seq ?_))))
 refine TieS.region (.run 1 rfl (.call _ rfl rfl rfl (q146 l 285 [] q227 q421) (fun _ => rfl) fun v => .run 1 rfl (.nil ?_)))
 exact TieS.ret ⟨.inl rfl, rfl⟩
set_option maxRecDepth 100000 in
theorem q65 (x : Int) (low : Int) (high : Int) : TieF Tryz.prog 238 [.t (tI x), .t (tI low), .t (tI high)] (q72 x low high) (fun r => .t (tB r)) := by
 refine TieF.intro htab 15 [.tmp 6] Tryz.call238 Tryz.func238 rfl rfl rfl (Nat.le_of_ble_eq_true rfl) fun w0 L => ?_
 refine TieS.seq (.region (.run 1 rfl (.nil (.seq ?_))))
 refine TieS.region (.run 4 rfl (.selAnd (v := decide (x ≤ high)) 4 10 (fun b => ⟨[(14, .t (tB b))], []⟩) rfl ?_ ?_ ?_))
 ·exact TieO.run 4 rfl (.nil (.leaf ⟨rfl, .of rfl rfl⟩))
 ·exact TieO.run 4 rfl (.nil (.leaf ⟨rfl, .of rfl rfl⟩))
 exact TieO.run 1 rfl (.nil (.ret ⟨.inl rfl, rfl⟩))
set_option maxRecDepth 100000 in
theorem q384 (x : Int) (c : Int) (c2 : Int) : TieF Tryz.prog 286 [.t (tI x), .el (Pv.encI c), .el (Pv.encI c2)] (q172 x c c2) (fun r => .t (tB r)) := by
 refine TieF.intro htab 10 [.tmp 4] Tryz.call286 Tryz.func286 rfl rfl rfl (Nat.le_of_ble_eq_true rfl) fun w0 L => ?_
 refine TieS.seq (.region (.run 1 rfl (.nil (.seq ?_))))
 refine TieS.region (.run 3 rfl (.call _ rfl rfl rfl (q65 x c c2) (fun _ => rfl) fun v => .run 2 rfl (.nil ?_)))
 exact TieS.ret ⟨.inl rfl, rfl⟩
set_option maxRecDepth 100000 in
theorem q207 (l : List Int) (low : Int) (high : Int) : TieF Tryz.prog 263 [.t (tS Pv.encI l), .t (tI low), .t (tI high)] (q115 l low high) (fun r => .t (tB r)) := by
 refine TieF.intro htab 10 [.tmp 6] Tryz.call263 Tryz.func263 rfl rfl rfl (Nat.le_of_ble_eq_true rfl) fun w0 L => ?_
 refine TieS.seq (.region (.run 3 rfl (.nil (.seq ?_))))
 refine TieS.region (.run 1 rfl (.frzBox 4 rfl rfl (.frzBox 5 rfl rfl (.run 1 rfl ?_))))
 exact TieO.sub (σ' := ⟨[(0, .t (tS Pv.encI l)), (1, .t (tI low)), (2, .t (tI high)), (4, .el (Pv.encI low)), (5, .el (Pv.encI high)), (6, .t (tB false)), (7, .t (tS Pv.encI l)), (8, .fz 286 [Pv.encI low, Pv.encI high])], []⟩) (.of rfl rfl) (.call _ rfl rfl rfl (q21 l 286 [Pv.encI low, Pv.encI high] (fun x0 => q172 x0 low high) (fun x0 => q384 x0 low high)) (fun _ => rfl) fun v => .run 1 rfl (.nil (.ret ⟨.inl rfl, rfl⟩)))
set_option maxRecDepth 100000 in
theorem q417 (l : List Int) : TieF Tryz.prog 262 [.t (tS Pv.encI l)] (q162 l) (fun r => .t (tB r)) := by
 refine TieF.intro htab 5 [.tmp 2] Tryz.call262 Tryz.func262 rfl rfl rfl (Nat.le_of_ble_eq_true rfl) fun w0 L => ?_
 refine TieS.seq (.region (.run 1 rfl (.nil (.seq ?_))))
 refine TieS.region (.run 1 rfl (.call _ rfl rfl rfl (q207 l (-1280) 3840) (fun _ => rfl) fun v => .run 1 rfl (.nil ?_)))
 exact TieS.ret ⟨.inl rfl, rfl⟩
set_option maxRecDepth 100000 in
theorem q346 (t2 : STables) : TieF Tryz.prog 237 [q29 t2] (q218 t2) (fun r => .t (tB r)) := by
 refine TieF.intro htab 45 [.tmp 2] Tryz.call237 Tryz.func237 rfl rfl rfl (Nat.le_of_ble_eq_true rfl) fun w0 L => ?_
 refine TieS.seq (.region (.run 2 rfl (.nil (.seq ?_))))
 refine TieS.seq (.region (.run 2 rfl (.call _ rfl rfl rfl (q56 t2.Spark) (fun _ => rfl) fun v => .run 2 rfl ?_)))
 refine TieO.bind 5 (fun b2 => ⟨[(1, .ptr 1 0), (12, .t (tB b2))], [(1, .box (q14 t2))]⟩) (TieO.split 7 rfl ?_ ?_) fun b2 _ => ?_
 ·exact TieO.run 5 rfl (.nil (.leaf ⟨rfl, .of rfl rfl⟩))
 ·exact TieO.run 2 rfl (.call _ rfl rfl rfl (q57 t2.Dwell) (fun _ => rfl) fun v2 => .run 2 rfl (.nil (.leaf ⟨rfl, .of rfl rfl⟩)))
 refine TieO.run 1 rfl (.bind 5 (fun b3 => ⟨[(1, .ptr 1 0), (18, .t (tB b3))], [(1, .box (q14 t2))]⟩) (TieO.split 13 rfl ?_ ?_) fun b3 _ => ?_)
 ·exact TieO.run 5 rfl (.nil (.leaf ⟨rfl, .of rfl rfl⟩))
 ·exact TieO.run 2 rfl (.call _ rfl rfl rfl (q57 t2.Efficiency) (fun _ => rfl) fun v3 => .run 2 rfl (.nil (.leaf ⟨rfl, .of rfl rfl⟩)))
 refine TieO.run 1 rfl (.bind 6 (fun b4 => ⟨[(1, .ptr 1 0), (25, .t (tB b4))], [(1, .box (q14 t2))]⟩) (TieO.split 19 rfl ?_ ?_) fun b4 _ => ?_)
 ·exact TieO.run 6 rfl (.nil (.leaf ⟨rfl, .of rfl rfl⟩))
 ·exact TieO.run 3 rfl (.call _ rfl rfl rfl (q461 t2.Efficiency.Y) (fun _ => rfl) fun v4 => .run 2 rfl (.nil (.leaf ⟨rfl, .of rfl rfl⟩)))
 refine TieO.nil (.cond rfl ?_ ?_)
 ·exact TieS.seq (.region (.run 1 rfl (.nil (.ret ⟨.inl rfl, rfl⟩))))
 ·refine TieS.skip (.seq (.region (.run 3 rfl (.call _ rfl rfl rfl (q83 t2.Spark.Z 262 [] q162 q417) (fun _ => rfl) fun v5 => ?_))))
  refine TieO.run 2 rfl (.bind 6 (fun b5 => ⟨[(1, .ptr 1 0), (37, .t (tB b5))], [(1, .box (q14 t2))]⟩) (TieO.split 31 rfl ?_ ?_) fun b5 _ => ?_)
  ·exact TieO.run 3 rfl (.call _ rfl rfl rfl (q207 t2.Dwell.Y 500 10000) (fun _ => rfl) fun v6 => .run 2 rfl (.nil (.leaf ⟨rfl, .of rfl rfl⟩)))
  ·exact TieO.run 6 rfl (.nil (.leaf ⟨rfl, .of rfl rfl⟩))
  refine TieO.run 1 rfl (.bind 6 (fun b6 => ⟨[(44, .t (tB b6))], []⟩) (TieO.split 38 rfl ?_ ?_) fun b6 _ => ?_)
  ·exact TieO.run 3 rfl (.call _ rfl rfl rfl (q207 t2.Efficiency.Y 0 1000) (fun _ => rfl) fun v7 => .run 2 rfl (.nil (.leaf ⟨rfl, .of rfl rfl⟩)))
  ·exact TieO.run 6 rfl (.nil (.leaf ⟨rfl, .of rfl rfl⟩))
  exact TieO.run 1 rfl (.nil (.ret ⟨.inl rfl, rfl⟩))
set_option maxRecDepth 100000 in
theorem q453 (t2 : STables) (millivolts : Int) (ticks : Int) : TieF Tryz.prog 176 [q29 t2, .t (tI millivolts), .t (tI ticks)] (q276 t2 millivolts ticks) (fun r => .tup [.t (tI r.1), .t (tI r.2)]) := by
 refine TieF.intro htab 29 [.tmp 6, .tmp 7] Tryz.call176 Tryz.func176 rfl rfl rfl (Nat.le_of_ble_eq_true rfl) fun w0 L => ?_
 refine TieS.seq (.region (.run 3 rfl (.nil (.seq ?_))))
 refine TieS.block (.seq (.region (.run 1 rfl (.call _ rfl rfl rfl (q346 t2) (fun _ => rfl) fun v => ?_))))
 refine TieO.run 2 rfl (.nil (.cond rfl ?_ ?_))
 ·exact TieS.seq (.region (.run 2 rfl (.nil (.ret ⟨.inl rfl, rfl⟩))))
 ·refine TieS.seq (.region (.run 1 rfl (.call _ rfl rfl rfl (q65 millivolts 0 20000) (fun _ => rfl) fun v2 => .run 2 rfl ?_)))
  refine TieO.bind 4 (fun b2 => ⟨[(1, .t (tI millivolts)), (2, .t (tI ticks)), (3, .ptr 3 0), (20, .t (tB b2))], [(3, .box (q14 t2))]⟩) (TieO.split 16 rfl ?_ ?_) fun b2 _ => ?_
  ·exact TieO.run 4 rfl (.nil (.leaf ⟨rfl, .of rfl rfl⟩))
  ·exact TieO.run 1 rfl (.call _ rfl rfl rfl (q65 ticks 4000 1000000) (fun _ => rfl) fun v3 => .run 2 rfl (.nil (.leaf ⟨rfl, .of rfl rfl⟩)))
  refine TieO.run 1 rfl (.nil (.cond rfl ?_ ?_))
  ·exact TieS.seq (.region (.run 2 rfl (.nil (.ret ⟨.inl rfl, rfl⟩))))
  ·refine TieS.skip (.endb (.seq (.region (.run 3 rfl ?_))))
   exact TieO.call _ rfl rfl rfl (q257 t2.Dwell millivolts) (fun _ => rfl) fun v4 => .run 6 rfl (.nil (.ret ⟨.inl rfl, rfl⟩))
set_option maxRecDepth 100000 in
theorem q465 (t2 : STables) (speed : Int) (charge : Int) : TieF Tryz.prog 239 [q29 t2, .t (tI speed), .t (tI charge)] (q310 t2 speed charge) (fun r => .tup [.t (tI r.1), .t (tI r.2)]) := by
 refine TieF.intro htab 26 [.tmp 6, .tmp 7] Tryz.call239 Tryz.func239 rfl rfl rfl (Nat.le_of_ble_eq_true rfl) fun w0 L => ?_
 refine TieS.seq (.region (.run 3 rfl (.nil (.seq ?_))))
 refine TieS.block (.seq (.region (.run 1 rfl (.call _ rfl rfl rfl (q346 t2) (fun _ => rfl) fun v => ?_))))
 refine TieO.run 2 rfl (.nil (.cond rfl ?_ ?_))
 ·exact TieS.seq (.region (.run 2 rfl (.nil (.ret ⟨.inl rfl, rfl⟩))))
 ·refine TieS.seq (.region (.run 1 rfl (.call _ rfl rfl rfl (q65 speed 0 12000) (fun _ => rfl) fun v2 => .run 2 rfl ?_)))
  refine TieO.bind 4 (fun b2 => ⟨[(1, .t (tI speed)), (2, .t (tI charge)), (3, .ptr 3 0), (20, .t (tB b2))], [(3, .box (q14 t2))]⟩) (TieO.split 16 rfl ?_ ?_) fun b2 _ => ?_
  ·exact TieO.run 4 rfl (.nil (.leaf ⟨rfl, .of rfl rfl⟩))
  ·exact TieO.run 1 rfl (.call _ rfl rfl rfl (q65 charge 0 1048576) (fun _ => rfl) fun v3 => .run 2 rfl (.nil (.leaf ⟨rfl, .of rfl rfl⟩)))
  refine TieO.run 1 rfl (.nil (.cond rfl ?_ ?_))
  ·exact TieS.seq (.region (.run 2 rfl (.nil (.ret ⟨.inl rfl, rfl⟩))))
  ·refine TieS.skip (.endb (.seq (.region (.run 4 rfl ?_))))
   exact TieO.call _ rfl rfl rfl (q148 t2.Spark speed charge) (fun _ => rfl) fun v4 => .run 2 rfl (.nil (.ret ⟨.inl rfl, rfl⟩))
set_option maxRecDepth 100000 in
theorem q463 (t2 : STables) (speed : Int) (charge : Int) (coolant : Int) (retard : Int) : TieF Tryz.prog 177 [q29 t2, .t (tI speed), .t (tI charge), .t (tI coolant), .t (tI retard)] (q277 t2 speed charge coolant retard) (fun r => .tup [.t (tI r.1), .t (tI r.2)]) := by
 refine TieF.intro htab 54 [.tmp 10, .tmp 11] Tryz.call177 Tryz.func177 rfl rfl rfl (Nat.le_of_ble_eq_true rfl) fun w0 L => ?_
 refine TieS.seq (.region (.run 3 rfl (.nil (.seq ?_))))
 refine TieS.region (.run 3 rfl (.call _ rfl rfl rfl (q465 t2 speed charge) (fun _ => rfl) fun r2 => .run 5 rfl (.nil ?_)))
 refine TieS.seq (.block (.seq (.region (.run 3 rfl ?_))))
 refine TieO.nil (.cond rfl ?_ ?_)
 ·exact TieS.seq (.region (.run 3 rfl (.nil (.ret ⟨.inl rfl, rfl⟩))))
 ·refine TieS.seq (.region (.run 1 rfl (.call _ rfl rfl rfl (q65 coolant (-40) 150) (fun _ => rfl) fun v => .run 2 rfl ?_)))
  refine TieO.bind 4 (fun b2 => ⟨[(3, .t (tI coolant)), (4, .t (tI retard)), (12, .t (tI r2.1)), (33, .t (tB b2))], []⟩) (TieO.split 29 rfl ?_ ?_) fun b2 _ => ?_
  ·exact TieO.run 4 rfl (.nil (.leaf ⟨rfl, .of rfl rfl⟩))
  ·exact TieO.run 1 rfl (.call _ rfl rfl rfl (q65 retard 0 1280) (fun _ => rfl) fun v2 => .run 2 rfl (.nil (.leaf ⟨rfl, .of rfl rfl⟩)))
  refine TieO.run 1 rfl (.nil (.cond rfl ?_ ?_))
  ·exact TieS.seq (.region (.run 2 rfl (.nil (.ret ⟨.inl rfl, rfl⟩))))
  ·refine TieS.skip (.endb (.seq (.block (.seq ?_))))
   refine TieS.region (.run 3 rfl (.nil (.cond rfl ?_ ?_)))
   ·refine TieS.region (.run 6 rfl (.nil (.endb (.seq ?_))))
    refine TieS.region (.run 3 rfl (.call _ rfl rfl rfl (q24 (w64 ((w64 (r2.1 + (w64 (2 * (w64 (20 - coolant)))))) - retard)) (-1280) 3840) (fun _ => rfl) fun v3 => .run 2 rfl (.nil ?_)))
    exact TieS.ret ⟨.inl rfl, rfl⟩
   ·refine TieS.seq (.region (.run 3 rfl (.nil (.cond rfl ?_ ?_))))
    ·refine TieS.region (.run 6 rfl (.nil (.endb (.seq ?_))))
     refine TieS.region (.run 3 rfl (.call _ rfl rfl rfl (q24 (w64 ((w64 (r2.1 - (w64 (8 * (w64 (coolant - 100)))))) - retard)) (-1280) 3840) (fun _ => rfl) fun v4 => .run 2 rfl (.nil ?_)))
     exact TieS.ret ⟨.inl rfl, rfl⟩
    ·refine TieS.skip (.endb (.seq (.region (.run 3 rfl ?_))))
     exact TieO.call _ rfl rfl rfl (q24 (w64 (r2.1 - retard)) (-1280) 3840) (fun _ => rfl) fun v5 => .run 2 rfl (.nil (.ret ⟨.inl rfl, rfl⟩))
set_option maxRecDepth 100000 in
theorem q352 (s : Scontrol_step) : TieG Tryz.prog 86 [.ptr 1000000 0] [(1000000, .box (lset (q10 s) [(63, .own 1000001)])), (1000001, .rows 79 7 s.out.Fires.length (s.out.Fires.map q12))] (q120 s) (fun _ => .tup []) (fun r => [(900000, .rows 79 7 r.out.Fires.length (r.out.Fires.map q12)), (1000000, .box (lset (q10 r) [(63, .own 900000)]))]) := by
 refine TieG.intro htab 140 [] Tryz.call86 Tryz.func86 rfl rfl rfl (Nat.le_of_ble_eq_true rfl) fun w0 L => ?_
 refine TieS.seq (.region (.run 1 rfl (.nil (.seq ?_))))
 refine TieS.bind (Q₁ := fun t e σ' => e = .normal ∧ Sub ⟨[(0, .ptr 1000000 0), (2, .t (tI t.1))], [(1000000, .box (lset (q10 (u17_3 s (u11_2 s.c t.2))) [(63, .own 1000001)])), (1000001, .rows 79 7 s.out.Fires.length (s.out.Fires.map q12))]⟩ σ') ?_ ?_
 ·refine TieX.pre fun r2 hr2 => TieS.draws 19 (bm 20 0) (bm 20 524287) ⟨[(0, .ptr 1000000 0), (2, .t (tI 0)), (23, .t (tI r2.2))], [(1000000, .box (lset (q10 (u17_3 s (u11_2 s.c r2.1))) [(63, .own 1000001)])), (1000001, .rows 79 7 s.out.Fires.length (s.out.Fires.map q12))]⟩ mixed (fun _ _ _ h => by cases h.1) rfl rfl rfl rfl ?_ ?_
  ·refine TieA.have_ (fuel₁ := 9) (l₁ := (bm 20 2047)) (σ₁ := ⟨[(0, .ptr 1000000 0), (2, .t (tI 0)), (10, .ptr 1000000 0), (15, .t (tS q13 s.c.Knock)), (20, .t (tS Pv.encI s.i.Intensity))], [(1000000, .box (lset (q10 s) [(63, .own 1000001)])), (1000001, .rows 79 7 s.out.Fires.length (s.out.Fires.map q12))]⟩) ?_ fun A_0 => ?_
   ·refine TieA.all [11] (by kernel_rfl) rfl (AllA.cons (σ₁ := ⟨[(0, .ptr 1000000 0), (2, .t (tI 0)), (10, .ptr 1000000 0), (21, .tup [.t (tS q13 r2.1), .t (tI r2.2)])], [(1000000, .box (lset (q10 s) [(63, .own 1000001)])), (1000001, .rows 79 7 s.out.Fires.length (s.out.Fires.map q12))]⟩) _ rfl rfl ?_ ?_ ?_)
    ·refine TieO.withH hr2 (TieO.call _ rfl rfl rfl (q488 s.c.Knock s.i.Intensity) (fun _ => rfl) (TieO.ifH ?_))
     exact TieO.nil (TieS.leaf ⟨rfl, .of rfl rfl⟩)
    ·refine TieA.mv 12 rfl (.inl rfl) rfl (by kernel_rfl) rfl (.all [13, 14] (by kernel_rfl) rfl (AllA.run _ rfl rfl rfl ?_ ?_))
     ·refine TieA.nP 15 rfl rfl rfl (by kernel_rfl) rfl (.fP 16 rfl rfl rfl (by kernel_rfl) rfl rfl rfl (.fP 17 rfl rfl rfl (by kernel_rfl) rfl rfl rfl (.all [14, 18] (by kernel_rfl) rfl (AllA.run _ rfl rfl rfl ?_ ?_))))
      ·refine TieA.all [18] (by kernel_rfl) rfl (AllA.run _ rfl rfl rfl ?_ ?_)
       ·exact TieA.done (.of rfl rfl)
       exact AllA.nil
      refine AllA.run _ rfl rfl rfl ?_ ?_
      ·refine TieA.all [14] (by kernel_rfl) rfl (AllA.run _ rfl rfl rfl ?_ ?_)
       ·exact TieA.done (.of rfl rfl)
       exact AllA.nil
      exact AllA.nil
     refine AllA.run _ rfl rfl rfl ?_ ?_
     ·refine TieA.all [13] (by kernel_rfl) rfl (AllA.run _ rfl rfl rfl ?_ ?_)
      ·refine TieA.nP 15 rfl rfl rfl (by kernel_rfl) rfl (.fP 16 rfl rfl rfl (by kernel_rfl) rfl rfl rfl (.fP 17 rfl rfl rfl (by kernel_rfl) rfl rfl rfl (.all [18] (by kernel_rfl) rfl (AllA.run _ rfl rfl rfl ?_ ?_))))
       ·exact TieA.done (.of rfl rfl)
       exact AllA.nil
      exact AllA.nil
     exact AllA.nil
    exact AllA.nil
   refine TieA.mv 0 rfl (.inl rfl) rfl (by kernel_rfl) rfl (.mv 1 rfl (.inl rfl) rfl (by kernel_rfl) rfl (.nP 2 rfl rfl rfl (by kernel_rfl) rfl (.fP 3 rfl rfl rfl (by kernel_rfl) rfl rfl rfl (.fP 4 rfl rfl rfl (by kernel_rfl) rfl rfl rfl ?_))))
   refine TieA.mv 6 rfl (.inl rfl) rfl (by kernel_rfl) rfl (.nP 7 rfl rfl rfl (by kernel_rfl) rfl (.fP 8 rfl rfl rfl (by kernel_rfl) rfl rfl rfl (.fP 9 rfl rfl rfl (by kernel_rfl) rfl rfl rfl (.all [5, 10] (by kernel_rfl) rfl ?_))))
   refine AllA.run _ rfl rfl rfl ?_ ?_
   ·exact TieA.all [10] (by kernel_rfl) rfl (AllA.runTo _ rfl rfl rfl (.of rfl rfl) A_0 (AllA.nil))
   refine AllA.run _ rfl rfl rfl ?_ ?_
   ·exact TieA.all [5] (by kernel_rfl) rfl (AllA.runTo _ rfl rfl rfl (.of rfl rfl) A_0 (AllA.nil))
   exact AllA.nil
  exact TieO.run 1 rfl (.nil (.leaf ⟨rfl, .of rfl rfl⟩))
 rintro s2 e σ' _ ⟨rfl, hs⟩
 refine TieX.sub hs (TieS.seq (.region (.run 2 rfl (.callG [(1000000, 1000000), (1000001, 1000001)] [] (fun v => ⟨[(0, .ptr 1000000 0), (2, .t (tI s2.1)), (27, .ptr 1000000 0), (28, .t (tI s2.1)), (29, .tup [])], [(1000000, .box (lset (q10 v) [(63, .own 1000001)])), (1000001, .rows 79 7 v.out.Fires.length (v.out.Fires.map q12))]⟩) (q17 (u17_3 s (u11_2 s.c s2.2)) s2.1) rfl rfl rfl rfl rfl rfl rfl (fun _ => rfl) (fun _ => rfl) (fun _ => rfl) (fun _ => .of rfl rfl) fun v hv => ?_))))
 refine TieO.nil (.seq (.region (.run 6 rfl (.quo rfl rfl rfl rfl rfl rfl fun q => ?_))))
 refine TieO.call _ rfl rfl rfl (q24 q 4000 1000000) (fun _ => rfl) fun v2 => .run 1 rfl (.nil (.seq (TieX.pre fun r3 hr3 => ?_)))
 refine TieS.draw 16 [_, _, _, _, _, _, _, _, _, _, _, _, _, _, _, _] [(0, .ptr 1000000 0), (3, .t (tI v2))] [(1000000, .box (lset (q10 v) [(63, .own 1000001)])), (1000001, .rows 79 7 v.out.Fires.length (v.out.Fires.map q12))] mixed (.of rfl rfl) rfl rfl rfl rfl (.cons (.quiet rfl rfl rfl) (.cons (.quiet rfl rfl rfl) (.cons (.quiet rfl rfl rfl) (.cons (.quiet rfl rfl rfl) (.cons (.quiet rfl rfl rfl) (.cons (.quiet rfl rfl rfl) (.cons (.quiet rfl rfl rfl) (.cons (.quiet rfl rfl rfl) (.cons (.quiet rfl rfl rfl) (.cons (.quiet rfl rfl rfl) (.cons (.callV (q453 v.t v.i.Voltage v2) hr3 rfl rfl rfl rfl) (.cons (.quiet rfl rfl rfl) (.cons (.quiet rfl rfl rfl) (.cons (.quiet rfl rfl rfl) (.cons (.quiet rfl rfl rfl) (.cons (.quiet rfl rfl rfl) (.nil))))))))))))))))) (.nil (.seq (.region (.run 2 rfl ?_))))
 refine TieO.callG [(1000000, 1000000), (1000001, 1000001)] [] (fun v3 => ⟨[(0, .ptr 1000000 0), (2, .t (tI r3.2)), (3, .t (tI v2)), (4, .t (tI r3.1)), (38, .tup [.t (tI r3.1), .t (tI r3.2)]), (39, .ptr 1000000 0), (40, .ptr 1000000 0), (41, .ptr 1000000 0), (42, .agg [.t (tS Pv.encI v.t.Air.X), .t (tS Pv.encI v.t.Air.Y), .t (tS (Pv.encS Pv.encI) v.t.Air.Z), .t (tS Pv.encI v.t.Spark.X), .t (tS Pv.encI v.t.Spark.Y), .t (tS (Pv.encS Pv.encI) v.t.Spark.Z), .t (tS Pv.encI v.t.Torque.X), .t (tS Pv.encI v.t.Torque.Y), .t (tS (Pv.encS Pv.encI) v.t.Torque.Z), .t (tS Pv.encI v.t.Wish.X), .t (tS Pv.encI v.t.Wish.Y), .t (tS (Pv.encS Pv.encI) v.t.Wish.Z), .t (tS Pv.encI v.t.AirTemp.X), .t (tS Pv.encI v.t.AirTemp.Y), .t (tS Pv.encI v.t.Dwell.X), .t (tS Pv.encI v.t.Dwell.Y), .t (tS Pv.encI v.t.Dead.X), .t (tS Pv.encI v.t.Dead.Y), .t (tS Pv.encI v.t.Efficiency.X), .t (tS Pv.encI v.t.Efficiency.Y), .t (tI v.t.Idle.P), .t (tI v.t.Idle.I), .t (tI v.t.Idle.Low), .t (tI v.t.Idle.High)]), (43, .ptr 1000000 0), (44, .ptr 1000000 0), (45, .ptr 1000000 46), (46, .ptr 1000000 51), (47, .t (tI v.i.Voltage)), (48, .t (tI v2)), (49, .tup [.t (tI r3.1), .t (tI r3.2)]), (50, .t (tI r3.1)), (51, .t (tI r3.2)), (52, .ptr 1000000 0), (53, .t (tI r3.2)), (54, .tup [])], [(1000000, .box (lset (q10 v3) [(63, .own 1000001)])), (1000001, .rows 79 7 v3.out.Fires.length (v3.out.Fires.map q12))]⟩) (q17 v r3.2) rfl rfl rfl rfl rfl rfl rfl (fun _ => rfl) (fun _ => rfl) (fun _ => rfl) (fun _ => .of rfl rfl) fun v3 hv3 => .nil (.seq (.seq (.region ?_)))
 refine TieO.run 5 rfl (.nil (.cond rfl ?_ ?_))
 ·exact TieS.ret ⟨.inl rfl, ⟨[(1000000, 1000000), (1000001, 900000)], _, _, rfl, rfl, rfl, rfl, rfl⟩⟩
 ·refine TieS.skip (.seq (.region (.run 7 rfl (.nil ?_))))
  refine TieS.block (TieX.sub (σ' := ⟨[(0, .ptr 1000000 0), (4, .t (tI r3.1)), (65, .t (tI (v3.e.Order.length : Int))), (66, .t (tI 0))], [(1000000, .box (lset (q10 v3) [(63, .own 1000001)])), (1000001, .rows 79 7 v3.out.Fires.length (v3.out.Fires.map q12))]⟩) (.of rfl rfl) (TieX.ren [(1000000, 1000000), (1000001, 3080)] rfl rfl rfl (TieS.loop (fun p => ⟨[(0, .ptr 1000000 0), (4, .t (tI r3.1)), (65, .t (tI (v3.e.Order.length : Int))), (66, .t (tI p.1))], [(3080, .rows 79 7 p.2.out.Fires.length (p.2.out.Fires.map q12)), (1000000, .box (lset (q10 p.2) [(63, .own 3080)]))]⟩) (fun b e σ' => match b with | .inl t => e = .exit 0 ∧ Sub ⟨[], [(3080, .rows 79 7 t.out.Fires.length (t.out.Fires.map q12)), (1000000, .box (lset (q10 t) [(63, .own 3080)]))]⟩ σ' | .inr t => False) (.of rfl rfl) ?_ ?_)))
  ·rintro ⟨i, f2⟩
   refine TieS.seq (.region (.run 1 rfl (.nil (.seq ?_))))
   refine TieS.cond rfl ?_ ?_
   ·refine TieS.skip (.seq (TieX.sub (σ' := ⟨[(0, .ptr 1000000 0), (4, .t (tI r3.1)), (65, .t (tI (v3.e.Order.length : Int))), (66, .t (tI i))], [(3080, .rows 79 7 f2.out.Fires.length (f2.out.Fires.map q12)), (1000000, .box (lset (q10 f2) [(63, .own 3080)]))]⟩) (.of rfl rfl) (TieS.bind (Q₁ := fun f e σ' => match f with | .next t => e = .normal ∧ Sub ⟨[(0, .ptr 1000000 0), (4, .t (tI r3.1)), (65, .t (tI (v3.e.Order.length : Int))), (66, .t (tI i))], [(3080, .rows 79 7 t.out.Fires.length (t.out.Fires.map q12)), (1000000, .box (lset (q10 t) [(63, .own 3080)]))]⟩ σ' | .brk t => e = .exit 0 ∧ Sub ⟨[], [(3080, .rows 79 7 t.out.Fires.length (t.out.Fires.map q12)), (1000000, .box (lset (q10 t) [(63, .own 3080)]))]⟩ σ' | .ret r => False) ?_ ?_)))
    ·refine TieS.block (.seq (.region (.run 2 rfl (.nil ?_))))
     refine TieS.seq (TieX.pre fun x hx => TieX.pre fun r4 hr4 => TieS.draw 33 [_, _, _, _, _, _, _, _, _, _, _, _, _, _, _, _, _, _, _, _, _, _, _, _, _, _, _, _, _, _, _, _, _] [(0, .ptr 1000000 0), (4, .t (tI r3.1)), (5, .t (tI i)), (65, .t (tI (v3.e.Order.length : Int))), (66, .t (tI i))] [(3080, .rows 79 7 f2.out.Fires.length (f2.out.Fires.map q12)), (1000000, .box (lset (q10 f2) [(63, .own 3080)]))] mixed (.of rfl rfl) rfl rfl rfl rfl (.cons (.quiet rfl rfl rfl) (.cons (.quiet rfl rfl rfl) (.cons (.quiet rfl rfl rfl) (.cons (.quiet rfl rfl rfl) (.cons (.quiet rfl rfl rfl) (.cons (.quiet rfl rfl rfl) (.cons (.quiet rfl rfl rfl) (.cons (.quiet rfl rfl rfl) (.cons (.quiet rfl rfl rfl) (.cons (.quiet rfl rfl rfl) (.cons (.quiet rfl rfl rfl) (.cons (.quiet rfl rfl rfl) (.cons (.quiet rfl rfl rfl) (.cons (.quiet rfl rfl rfl) (.cons (.quiet rfl rfl rfl) (.cons (.quiet rfl rfl rfl) (.cons (.quiet rfl rfl rfl) (.cons (.quiet rfl rfl rfl) (.cons (.quiet rfl rfl rfl) (.cons (.quiet rfl rfl rfl) (.cons (.quiet rfl rfl rfl) (.cons (.quiet rfl rfl rfl) (.cons (.quiet rfl rfl rfl) (.cons (.quiet rfl rfl rfl) (.cons (.index hx rfl rfl rfl rfl rfl rfl (fun _ => rfl)) (.cons (.quiet rfl rfl rfl) (.cons (.quiet rfl rfl rfl) (.cons (.callV (q463 f2.t f2.i.Speed f2.charge f2.i.Coolant x.Retard) hr4 rfl rfl rfl rfl) (.cons (.quiet rfl rfl rfl) (.cons (.quiet rfl rfl rfl) (.cons (.quiet rfl rfl rfl) (.cons (.quiet rfl rfl rfl) (.cons (.quiet rfl rfl rfl) (.nil)))))))))))))))))))))))))))))))))) (.nil ?_))
     refine TieS.seq (.region (.run 2 rfl (.callG [(1000000, 1000000), (1000001, 3080)] [] (fun v4 => ⟨[(0, .ptr 1000000 0), (4, .t (tI r3.1)), (5, .t (tI i)), (6, .t (tI r4.1)), (7, .t (tI r4.2)), (65, .t (tI (v3.e.Order.length : Int))), (66, .t (tI i)), (69, .tup [.t (tI r4.1), .t (tI r4.2)]), (70, .ptr 1000000 0), (71, .ptr 1000000 0), (72, .ptr 1000000 0), (73, .agg [.t (tS Pv.encI f2.t.Air.X), .t (tS Pv.encI f2.t.Air.Y), .t (tS (Pv.encS Pv.encI) f2.t.Air.Z), .t (tS Pv.encI f2.t.Spark.X), .t (tS Pv.encI f2.t.Spark.Y), .t (tS (Pv.encS Pv.encI) f2.t.Spark.Z), .t (tS Pv.encI f2.t.Torque.X), .t (tS Pv.encI f2.t.Torque.Y), .t (tS (Pv.encS Pv.encI) f2.t.Torque.Z), .t (tS Pv.encI f2.t.Wish.X), .t (tS Pv.encI f2.t.Wish.Y), .t (tS (Pv.encS Pv.encI) f2.t.Wish.Z), .t (tS Pv.encI f2.t.AirTemp.X), .t (tS Pv.encI f2.t.AirTemp.Y), .t (tS Pv.encI f2.t.Dwell.X), .t (tS Pv.encI f2.t.Dwell.Y), .t (tS Pv.encI f2.t.Dead.X), .t (tS Pv.encI f2.t.Dead.Y), .t (tS Pv.encI f2.t.Efficiency.X), .t (tS Pv.encI f2.t.Efficiency.Y), .t (tI f2.t.Idle.P), .t (tI f2.t.Idle.I), .t (tI f2.t.Idle.Low), .t (tI f2.t.Idle.High)]), (74, .ptr 1000000 0), (75, .ptr 1000000 0), (76, .ptr 1000000 46), (77, .ptr 1000000 48), (78, .t (tI f2.i.Speed)), (79, .ptr 1000000 0), (80, .ptr 1000000 0), (81, .ptr 1000000 57), (82, .t (tI f2.charge)), (83, .ptr 1000000 0), (84, .ptr 1000000 0), (85, .ptr 1000000 46), (86, .ptr 1000000 53), (87, .t (tI f2.i.Coolant)), (88, .ptr 1000000 0), (89, .ptr 1000000 0), (90, .ptr 1000000 33), (91, .ptr 1000000 37), (92, .t (tS q13 f2.c.Knock)), (93, .t (tI i)), (94, .el (q13 x)), (95, .el (List.drop 0 (q13 x))), (96, .t (tI x.Retard)), (97, .tup [.t (tI r4.1), .t (tI r4.2)]), (98, .t (tI r4.1)), (99, .t (tI r4.2)), (100, .ptr 1000000 0), (101, .t (tI r4.2)), (102, .tup [])], [(3080, .rows 79 7 v4.out.Fires.length (v4.out.Fires.map q12)), (1000000, .box (lset (q10 v4) [(63, .own 3080)]))]⟩) (q17 f2 r4.2) rfl rfl rfl rfl rfl rfl rfl (fun _ => rfl) (fun _ => rfl) (fun _ => rfl) (fun _ => .of rfl rfl) fun v4 hv4 => .nil ?_)))
     refine TieS.seq (.region (.run 14 rfl (.nil (.seq ?_))))
     refine TieS.seq (.region (.run 5 rfl (.index rfl rfl rfl rfl rfl rfl rfl rfl (fun _ => rfl) fun x2 hx2 => .run 1 rfl ?_)))
     refine TieO.nil (.bind (Q₁ := fun t e σ' => e = .normal ∧ Sub ⟨[(0, .ptr 1000000 0), (4, .t (tI r3.1)), (8, .ptr 8 0), (65, .t (tI (v3.e.Order.length : Int))), (66, .t (tI i))], [(8, .box [.t (tI (w64 (i + 1))), .t (tI (maxI (-1280) (w64 (r4.1 - v4.late)))), .t (tI (maxI 500 r3.1)), .t (tI 5760), .t (tI t), .t (tI 0), .t (tI 0)]), (3080, .rows 79 7 v4.out.Fires.length (v4.out.Fires.map q12)), (1000000, .box (lset (q10 v4) [(63, .own 3080)]))]⟩ σ') ?_ ?_)
     ·refine TieS.cond rfl ?_ ?_
      ·exact TieS.region (.run 6 rfl (.nil (.leaf ⟨rfl, .of rfl rfl⟩)))
      ·exact TieS.skip (.leaf ⟨rfl, .of rfl rfl⟩)
     rintro f3 e σ' _ ⟨rfl, hs⟩
     refine TieX.sub hs (TieS.bind (Q₁ := fun t e σ' => e = .normal ∧ Sub ⟨[(0, .ptr 1000000 0), (4, .t (tI r3.1)), (65, .t (tI (v3.e.Order.length : Int))), (66, .t (tI i))], [(3080, .rows 79 7 t.length (t.map q12)), (1000000, .box (lset (q10 v4) [(63, .own 3080)]))]⟩ σ') ?_ ?_)
     ·refine TieX.pre fun l hl => TieS.draws 9 (bm 13 0) (bm 13 511) ⟨[(0, .ptr 1000000 0), (4, .t (tI r3.1)), (65, .t (tI (v3.e.Order.length : Int))), (66, .t (tI i)), (127, .ptr 1000000 0), (135, .own 3080)], [(8, .box [.t (tI (w64 (i + 1))), .t (tI (maxI (-1280) (w64 (r4.1 - v4.late)))), .t (tI (maxI 500 r3.1)), .t (tI 5760), .t (tI f3), .t (tI 0), .t (tI 0)]), (134, .rows 79 7 ([(⟨w64 (i + 1), maxI (-1280) (w64 (r4.1 - v4.late)), maxI 500 r3.1, 5760, f3, 0, 0⟩ : SFire)] : List SFire).length (([(⟨w64 (i + 1), maxI (-1280) (w64 (r4.1 - v4.late)), maxI 500 r3.1, 5760, f3, 0, 0⟩ : SFire)] : List SFire).map q12)), (3080, .rows 79 7 l.length (l.map q12)), (1000000, .box (lset (q10 v4) [(63, .any)]))]⟩ mixed (fun _ _ _ h => by cases h.1) rfl rfl rfl rfl ?_ ?_
      ·refine TieA.have_ (fuel₁ := 5) (l₁ := (bm 13 255)) (σ₁ := ⟨[(0, .ptr 1000000 0), (4, .t (tI r3.1)), (65, .t (tI (v3.e.Order.length : Int))), (66, .t (tI i)), (127, .ptr 1000000 0), (132, .own 3080), (134, .own 134)], [(8, .box [.t (tI (w64 (i + 1))), .t (tI (maxI (-1280) (w64 (r4.1 - v4.late)))), .t (tI (maxI 500 r3.1)), .t (tI 5760), .t (tI f3), .t (tI 0), .t (tI 0)]), (134, .rows 79 7 ([(⟨w64 (i + 1), maxI (-1280) (w64 (r4.1 - v4.late)), maxI 500 r3.1, 5760, f3, 0, 0⟩ : SFire)] : List SFire).length (([(⟨w64 (i + 1), maxI (-1280) (w64 (r4.1 - v4.late)), maxI 500 r3.1, 5760, f3, 0, 0⟩ : SFire)] : List SFire).map q12)), (3080, .rows 79 7 v4.out.Fires.length (v4.out.Fires.map q12)), (1000000, .box (lset (q10 v4) [(63, .own 3080)]))]⟩) ?_ fun A_1 => ?_
       ·refine TieA.all [8] (by kernel_rfl) rfl (AllA.cons (σ₁ := ⟨[(0, .ptr 1000000 0), (4, .t (tI r3.1)), (65, .t (tI (v3.e.Order.length : Int))), (66, .t (tI i)), (127, .ptr 1000000 0), (135, .own 3080)], [(8, .box [.t (tI (w64 (i + 1))), .t (tI (maxI (-1280) (w64 (r4.1 - v4.late)))), .t (tI (maxI 500 r3.1)), .t (tI 5760), .t (tI f3), .t (tI 0), .t (tI 0)]), (134, .rows 79 7 ([(⟨w64 (i + 1), maxI (-1280) (w64 (r4.1 - v4.late)), maxI 500 r3.1, 5760, f3, 0, 0⟩ : SFire)] : List SFire).length (([(⟨w64 (i + 1), maxI (-1280) (w64 (r4.1 - v4.late)), maxI 500 r3.1, 5760, f3, 0, 0⟩ : SFire)] : List SFire).map q12)), (3080, .rows 79 7 l.length (l.map q12)), (1000000, .box (lset (q10 v4) [(63, .any)]))]⟩) _ rfl rfl ?_ ?_ ?_)
        ·refine TieO.withH hl (TieO.appendY (id := 3080) (l := v4.out.Fires) (r := ([(⟨w64 (i + 1), maxI (-1280) (w64 (r4.1 - v4.late)), maxI 500 r3.1, 5760, f3, 0, 0⟩ : SFire)] : List SFire)) (tm' := [(0, .ptr 1000000 0), (4, .t (tI r3.1)), (65, .t (tI (v3.e.Order.length : Int))), (66, .t (tI i)), (127, .ptr 1000000 0), (134, .own 134)]) (hp' := [(8, .box [.t (tI (w64 (i + 1))), .t (tI (maxI (-1280) (w64 (r4.1 - v4.late)))), .t (tI (maxI 500 r3.1)), .t (tI 5760), .t (tI f3), .t (tI 0), .t (tI 0)]), (134, .rows 79 7 ([(⟨w64 (i + 1), maxI (-1280) (w64 (r4.1 - v4.late)), maxI 500 r3.1, 5760, f3, 0, 0⟩ : SFire)] : List SFire).length (([(⟨w64 (i + 1), maxI (-1280) (w64 (r4.1 - v4.late)), maxI 500 r3.1, 5760, f3, 0, 0⟩ : SFire)] : List SFire).map q12)), (1000000, .box (lset (q10 v4) [(63, .any)]))]) rfl rfl rfl rfl rfl rfl rfl (fun _ => rfl) (fun _ => rfl) (.inl ⟨rfl, rfl⟩) (.inr ⟨_, rfl, rfl⟩) (.of rfl rfl) rfl rfl rfl (TieO.ifH ?_))
         exact TieO.nil (TieS.leaf ⟨rfl, .of rfl rfl⟩)
        ·exact TieA.done (.of rfl rfl)
        exact AllA.nil
       refine TieA.have_ (fuel₁ := 6) (l₁ := (bm 13 127)) (σ₁ := ⟨[(0, .ptr 1000000 0), (4, .t (tI r3.1)), (65, .t (tI (v3.e.Order.length : Int))), (66, .t (tI i)), (127, .ptr 1000000 0), (132, .own 3080), (133, .agg [.t (tI (w64 (i + 1))), .t (tI (maxI (-1280) (w64 (r4.1 - v4.late)))), .t (tI (maxI 500 r3.1)), .t (tI 5760), .t (tI f3), .t (tI 0), .t (tI 0)])], [(8, .box [.t (tI (w64 (i + 1))), .t (tI (maxI (-1280) (w64 (r4.1 - v4.late)))), .t (tI (maxI 500 r3.1)), .t (tI 5760), .t (tI f3), .t (tI 0), .t (tI 0)]), (3080, .rows 79 7 v4.out.Fires.length (v4.out.Fires.map q12)), (1000000, .box (lset (q10 v4) [(63, .own 3080)]))]⟩) ?_ fun A_0 => ?_
       ·exact TieA.all [7] (by kernel_rfl) rfl (AllA.runTo _ rfl rfl rfl (.of rfl rfl) A_1 (AllA.nil))
       refine TieA.mv 0 rfl (.inl rfl) rfl (by kernel_rfl) rfl (.mv 1 rfl (.inl rfl) rfl (by kernel_rfl) rfl (.nP 2 rfl rfl rfl (by kernel_rfl) rfl (.fP 3 rfl rfl rfl (by kernel_rfl) rfl rfl rfl (.fP 4 rfl rfl rfl (by kernel_rfl) rfl rfl rfl ?_))))
       refine TieA.all [5, 6] (by kernel_rfl) rfl (AllA.run _ rfl rfl rfl ?_ ?_)
       ·exact TieA.all [6] (by kernel_rfl) rfl (AllA.runTo _ rfl rfl rfl (.of rfl rfl) A_0 (AllA.nil))
       refine AllA.run _ rfl rfl rfl ?_ ?_
       ·refine TieA.all [5, 7] (by kernel_rfl) rfl (AllA.runTo _ rfl rfl rfl (.of rfl rfl) A_0 (AllA.run _ rfl rfl rfl ?_ ?_))
        ·exact TieA.all [5] (by kernel_rfl) rfl (AllA.runTo _ rfl rfl rfl (.of rfl rfl) A_1 (AllA.nil))
        exact AllA.nil
       exact AllA.nil
      exact TieO.run 4 rfl (.nil (.leaf ⟨rfl, .of rfl rfl⟩))
     rintro f4 e σ' _ ⟨rfl, hs⟩
     exact TieX.sub hs (TieS.endb (.leaf ⟨rfl, .of rfl rfl⟩))
    rintro (t | t | r) e σ' _ hq
    ·obtain ⟨rfl, hs⟩ := hq
     exact TieX.sub hs (TieS.region (.run 2 rfl (.nil (.leaf ⟨rfl, .of rfl rfl⟩))))
    ·obtain ⟨rfl, hs⟩ := hq
     exact TieX.exitOut rfl ⟨(fun h => by cases h), rfl, hs⟩
    ·exact hq.elim
   ·exact TieS.exitOut rfl ⟨(fun h => by cases h), rfl, .of rfl rfl⟩
  rintro (f5 | r) e σ' _ hq
  ·obtain ⟨rfl, hs⟩ := hq
   refine TieX.exit rfl (TieX.sub hs ?_)
   exact TieS.leaf ⟨.inr rfl, ⟨[(3080, 900000), (1000000, 1000000)], _, _, rfl, rfl, rfl, rfl, rfl⟩⟩
  ·exact hq.elim
set_option maxRecDepth 100000 in
set_option maxHeartbeats 4000000 in
theorem q430 (t2 : STables) (e2 : SEngine) (b2 : SBody) (c : SControls) (i : SInputs) : TieF Tryz.prog 22 [q29 t2, q187 e2, A_SBody b2, q216 c, q395 i] (q141 t2 e2 b2 c i) (fun r => .tup [q216 r.1, q515 r.2.1, .t (tI r.2.2)]) := by
 refine TieF.intro htab 76 [.cell 10 45, .cell 11 65, .tmp 12] Tryz.call22 Tryz.func22 rfl rfl rfl (Nat.le_of_ble_eq_true rfl) fun w0 L => ?_
 refine TieS.seq (.region (.run 8 rfl (.nil (.seq ?_))))
 refine TieS.block (.seq (.region (.run 1 rfl (.call _ rfl rfl rfl (q412 t2) (fun _ => rfl) fun v => ?_))))
 refine TieO.run 2 rfl (.bind 4 (fun b3 => ⟨[(5, .ptr 5 0), (6, .ptr 6 0), (7, .ptr 7 0), (8, .ptr 8 0), (9, .ptr 9 0), (10, .ptr 10 0), (11, .ptr 11 0), (22, .t (tB b3))], [(5, .box (q14 t2)), (6, .box [.t (tS Pv.encI e2.Order), .t (tI e2.First)]), (7, .box [.t (tI b2.Inertia), .t (tI b2.Friction), .t (tI b2.Volume), .t (tI b2.Throttle), .t (tI b2.Film), .t (tI b2.Evaporate), .t (tI b2.Delay)]), (8, .box (q15 c)), (9, .box (q23 i)), (10, .box [.t (tI 0), .t (tI 0), .t (tB false), .t (tI 0), .t (.v (.slice none 0 0)), .t (tB false), .t (tB false), .t (tI 0), .t (tI 0), .t (.v (.slice none 0 0)), .t (tI 0), .t (tI 0), .t (tI 0)]), (11, .box [.t (tI 0), .t (.v (.slice none 0 0)), .t (tI 0)])]⟩) (TieO.split 18 rfl ?_ ?_) fun b3 _ => ?_)
 ·exact TieO.run 4 rfl (.nil (.leaf ⟨rfl, .of rfl rfl⟩))
 ·exact TieO.run 1 rfl (.call _ rfl rfl rfl (q342 b2) (fun _ => rfl) fun v2 => .run 2 rfl (.nil (.leaf ⟨rfl, .of rfl rfl⟩)))
 refine TieO.run 1 rfl (.bind 5 (fun b4 => ⟨[(5, .ptr 5 0), (6, .ptr 6 0), (7, .ptr 7 0), (8, .ptr 8 0), (9, .ptr 9 0), (10, .ptr 10 0), (11, .ptr 11 0), (28, .t (tB b4))], [(5, .box (q14 t2)), (6, .box [.t (tS Pv.encI e2.Order), .t (tI e2.First)]), (7, .box [.t (tI b2.Inertia), .t (tI b2.Friction), .t (tI b2.Volume), .t (tI b2.Throttle), .t (tI b2.Film), .t (tI b2.Evaporate), .t (tI b2.Delay)]), (8, .box (q15 c)), (9, .box (q23 i)), (10, .box [.t (tI 0), .t (tI 0), .t (tB false), .t (tI 0), .t (.v (.slice none 0 0)), .t (tB false), .t (tB false), .t (tI 0), .t (tI 0), .t (.v (.slice none 0 0)), .t (tI 0), .t (tI 0), .t (tI 0)]), (11, .box [.t (tI 0), .t (.v (.slice none 0 0)), .t (tI 0)])]⟩) (TieO.split 23 rfl ?_ ?_) fun b4 _ => ?_)
 ·exact TieO.run 5 rfl (.nil (.leaf ⟨rfl, .of rfl rfl⟩))
 ·exact TieO.run 2 rfl (.call _ rfl rfl rfl (q154 e2 c) (fun _ => rfl) fun v3 => .run 2 rfl (.nil (.leaf ⟨rfl, .of rfl rfl⟩)))
 refine TieO.run 1 rfl (.nil (.cond rfl ?_ ?_))
 ·exact TieS.seq (.region (.run 5 rfl (.nil (.ret ⟨.inl rfl, rfl⟩))))
 ·refine TieS.seq (.region (.run 4 rfl (.call _ rfl rfl rfl (q302 i (e2.Order.length : Int)) (fun _ => rfl) fun v4 => .run 2 rfl ?_)))
  refine TieO.nil (.cond rfl ?_ ?_)
  ·exact TieS.seq (.region (.run 5 rfl (.nil (.ret ⟨.inl rfl, rfl⟩))))
  ·refine TieS.skip (.endb (.seq (.region (.run 8 rfl ?_))))
   refine TieO.nil (.seq (.region (.run 1 rfl (.nilB 46 2388 79 7 [63] rfl rfl rfl rfl rfl ?_))))
   refine TieO.callG [(1000000, 46), (1000001, 2388)] [] (fun v5 => ⟨[(5, .ptr 5 0), (6, .ptr 6 0), (7, .ptr 7 0), (8, .ptr 8 0), (9, .ptr 9 0), (10, .ptr 10 0), (11, .ptr 11 0), (13, .ptr 46 0), (14, .t (tB b4)), (28, .t (tB b4)), (31, .t (tB (!v4))), (32, .agg [.t (tI i.Pedal1), .t (tI i.Pedal2), .t (tI i.Speed), .t (tI i.Pressure), .t (tI i.AirTemp), .t (tI i.Voltage), .t (tI i.Lambda), .t (tI i.Coolant), .t (tS Pv.encI i.Intensity), .t (tS q11 i.Requests)]), (33, .ptr 6 0), (34, .t (tS Pv.encI e2.Order)), (35, .t (tI (e2.Order.length : Int))), (36, .t (tB v4)), (37, .t (tB (!v4))), (40, .agg [.t (tS Pv.encI t2.Air.X), .t (tS Pv.encI t2.Air.Y), .t (tS (Pv.encS Pv.encI) t2.Air.Z), .t (tS Pv.encI t2.Spark.X), .t (tS Pv.encI t2.Spark.Y), .t (tS (Pv.encS Pv.encI) t2.Spark.Z), .t (tS Pv.encI t2.Torque.X), .t (tS Pv.encI t2.Torque.Y), .t (tS (Pv.encS Pv.encI) t2.Torque.Z), .t (tS Pv.encI t2.Wish.X), .t (tS Pv.encI t2.Wish.Y), .t (tS (Pv.encS Pv.encI) t2.Wish.Z), .t (tS Pv.encI t2.AirTemp.X), .t (tS Pv.encI t2.AirTemp.Y), .t (tS Pv.encI t2.Dwell.X), .t (tS Pv.encI t2.Dwell.Y), .t (tS Pv.encI t2.Dead.X), .t (tS Pv.encI t2.Dead.Y), .t (tS Pv.encI t2.Efficiency.X), .t (tS Pv.encI t2.Efficiency.Y), .t (tI t2.Idle.P), .t (tI t2.Idle.I), .t (tI t2.Idle.Low), .t (tI t2.Idle.High)]), (41, .agg [.t (tS Pv.encI e2.Order), .t (tI e2.First)]), (42, .agg [.t (tI b2.Inertia), .t (tI b2.Friction), .t (tI b2.Volume), .t (tI b2.Throttle), .t (tI b2.Film), .t (tI b2.Evaporate), .t (tI b2.Delay)]), (43, .agg [.t (tI c.Pedal.Value), .t (tI c.Pedal.Differ), .t (tB c.Pedal.Fault), .t (tI c.Idle.Sum), .t (tS q13 c.Knock), .t (tB c.Probe.Active), .t (tB c.Probe.Rich), .t (tI c.Probe.Factor), .t (tI c.Probe.Wait), .t (tS q16 c.Probe.Cells), .t (tI c.Film), .t (tI c.Grant.Torque), .t (tI c.Grant.Source)]), (44, .agg [.t (tI i.Pedal1), .t (tI i.Pedal2), .t (tI i.Speed), .t (tI i.Pressure), .t (tI i.AirTemp), .t (tI i.Voltage), .t (tI i.Lambda), .t (tI i.Coolant), .t (tS Pv.encI i.Intensity), .t (tS q11 i.Requests)]), (45, .agg [.t (tS Pv.encI t2.Air.X), .t (tS Pv.encI t2.Air.Y), .t (tS (Pv.encS Pv.encI) t2.Air.Z), .t (tS Pv.encI t2.Spark.X), .t (tS Pv.encI t2.Spark.Y), .t (tS (Pv.encS Pv.encI) t2.Spark.Z), .t (tS Pv.encI t2.Torque.X), .t (tS Pv.encI t2.Torque.Y), .t (tS (Pv.encS Pv.encI) t2.Torque.Z), .t (tS Pv.encI t2.Wish.X), .t (tS Pv.encI t2.Wish.Y), .t (tS (Pv.encS Pv.encI) t2.Wish.Z), .t (tS Pv.encI t2.AirTemp.X), .t (tS Pv.encI t2.AirTemp.Y), .t (tS Pv.encI t2.Dwell.X), .t (tS Pv.encI t2.Dwell.Y), .t (tS Pv.encI t2.Dead.X), .t (tS Pv.encI t2.Dead.Y), .t (tS Pv.encI t2.Efficiency.X), .t (tS Pv.encI t2.Efficiency.Y), .t (tI t2.Idle.P), .t (tI t2.Idle.I), .t (tI t2.Idle.Low), .t (tI t2.Idle.High), .t (tS Pv.encI e2.Order), .t (tI e2.First), .t (tI b2.Inertia), .t (tI b2.Friction), .t (tI b2.Volume), .t (tI b2.Throttle), .t (tI b2.Film), .t (tI b2.Evaporate), .t (tI b2.Delay), .t (tI c.Pedal.Value), .t (tI c.Pedal.Differ), .t (tB c.Pedal.Fault), .t (tI c.Idle.Sum), .t (tS q13 c.Knock), .t (tB c.Probe.Active), .t (tB c.Probe.Rich), .t (tI c.Probe.Factor), .t (tI c.Probe.Wait), .t (tS q16 c.Probe.Cells), .t (tI c.Film), .t (tI c.Grant.Torque), .t (tI c.Grant.Source), .t (tI i.Pedal1), .t (tI i.Pedal2), .t (tI i.Speed), .t (tI i.Pressure), .t (tI i.AirTemp), .t (tI i.Voltage), .t (tI i.Lambda), .t (tI i.Coolant), .t (tS Pv.encI i.Intensity), .t (tS q11 i.Requests), .t (tI 0), .t (tI 0), .t (tI 0), .t (tI 0), .t (.v (.slice none 0 0)), .t (tI 0), .t (tI 0), .t (.v (.slice none 0 0)), .t (tI 0), .t (tI 0)]), (46, .ptr 46 0), (47, .ptr 46 0), (48, .tup [])], [(5, .box (q14 t2)), (6, .box [.t (tS Pv.encI e2.Order), .t (tI e2.First)]), (7, .box [.t (tI b2.Inertia), .t (tI b2.Friction), .t (tI b2.Volume), .t (tI b2.Throttle), .t (tI b2.Film), .t (tI b2.Evaporate), .t (tI b2.Delay)]), (8, .box (q15 c)), (9, .box (q23 i)), (10, .box [.t (tI 0), .t (tI 0), .t (tB false), .t (tI 0), .t (.v (.slice none 0 0)), .t (tB false), .t (tB false), .t (tI 0), .t (tI 0), .t (.v (.slice none 0 0)), .t (tI 0), .t (tI 0), .t (tI 0)]), (11, .box [.t (tI 0), .t (.v (.slice none 0 0)), .t (tI 0)]), (46, .box (lset (q10 v5) [(63, .own 2388)])), (2388, .rows 79 7 v5.out.Fires.length (v5.out.Fires.map q12))]⟩) (q337 (⟨t2, e2, b2, c, i, 0, 0, 0, 0, ([] : List Bool), 0, (⟨0, ([] : List SFire), 0⟩ : SOutputs), 0⟩ : Scontrol_step)) rfl rfl rfl rfl rfl rfl rfl (fun _ => rfl) (fun _ => rfl) (fun _ => rfl) (fun _ => .of rfl rfl) fun v5 hv5 => .nil (.seq (.region (.run 1 rfl ?_)))
   refine TieO.callG [(1000000, 46), (1000001, 2388)] [] (fun v6 => ⟨[(5, .ptr 5 0), (6, .ptr 6 0), (7, .ptr 7 0), (8, .ptr 8 0), (9, .ptr 9 0), (10, .ptr 10 0), (11, .ptr 11 0), (13, .ptr 46 0), (14, .t (tB b4)), (28, .t (tB b4)), (31, .t (tB (!v4))), (32, .agg [.t (tI i.Pedal1), .t (tI i.Pedal2), .t (tI i.Speed), .t (tI i.Pressure), .t (tI i.AirTemp), .t (tI i.Voltage), .t (tI i.Lambda), .t (tI i.Coolant), .t (tS Pv.encI i.Intensity), .t (tS q11 i.Requests)]), (33, .ptr 6 0), (34, .t (tS Pv.encI e2.Order)), (35, .t (tI (e2.Order.length : Int))), (36, .t (tB v4)), (37, .t (tB (!v4))), (40, .agg [.t (tS Pv.encI t2.Air.X), .t (tS Pv.encI t2.Air.Y), .t (tS (Pv.encS Pv.encI) t2.Air.Z), .t (tS Pv.encI t2.Spark.X), .t (tS Pv.encI t2.Spark.Y), .t (tS (Pv.encS Pv.encI) t2.Spark.Z), .t (tS Pv.encI t2.Torque.X), .t (tS Pv.encI t2.Torque.Y), .t (tS (Pv.encS Pv.encI) t2.Torque.Z), .t (tS Pv.encI t2.Wish.X), .t (tS Pv.encI t2.Wish.Y), .t (tS (Pv.encS Pv.encI) t2.Wish.Z), .t (tS Pv.encI t2.AirTemp.X), .t (tS Pv.encI t2.AirTemp.Y), .t (tS Pv.encI t2.Dwell.X), .t (tS Pv.encI t2.Dwell.Y), .t (tS Pv.encI t2.Dead.X), .t (tS Pv.encI t2.Dead.Y), .t (tS Pv.encI t2.Efficiency.X), .t (tS Pv.encI t2.Efficiency.Y), .t (tI t2.Idle.P), .t (tI t2.Idle.I), .t (tI t2.Idle.Low), .t (tI t2.Idle.High)]), (41, .agg [.t (tS Pv.encI e2.Order), .t (tI e2.First)]), (42, .agg [.t (tI b2.Inertia), .t (tI b2.Friction), .t (tI b2.Volume), .t (tI b2.Throttle), .t (tI b2.Film), .t (tI b2.Evaporate), .t (tI b2.Delay)]), (43, .agg [.t (tI c.Pedal.Value), .t (tI c.Pedal.Differ), .t (tB c.Pedal.Fault), .t (tI c.Idle.Sum), .t (tS q13 c.Knock), .t (tB c.Probe.Active), .t (tB c.Probe.Rich), .t (tI c.Probe.Factor), .t (tI c.Probe.Wait), .t (tS q16 c.Probe.Cells), .t (tI c.Film), .t (tI c.Grant.Torque), .t (tI c.Grant.Source)]), (44, .agg [.t (tI i.Pedal1), .t (tI i.Pedal2), .t (tI i.Speed), .t (tI i.Pressure), .t (tI i.AirTemp), .t (tI i.Voltage), .t (tI i.Lambda), .t (tI i.Coolant), .t (tS Pv.encI i.Intensity), .t (tS q11 i.Requests)]), (45, .agg [.t (tS Pv.encI t2.Air.X), .t (tS Pv.encI t2.Air.Y), .t (tS (Pv.encS Pv.encI) t2.Air.Z), .t (tS Pv.encI t2.Spark.X), .t (tS Pv.encI t2.Spark.Y), .t (tS (Pv.encS Pv.encI) t2.Spark.Z), .t (tS Pv.encI t2.Torque.X), .t (tS Pv.encI t2.Torque.Y), .t (tS (Pv.encS Pv.encI) t2.Torque.Z), .t (tS Pv.encI t2.Wish.X), .t (tS Pv.encI t2.Wish.Y), .t (tS (Pv.encS Pv.encI) t2.Wish.Z), .t (tS Pv.encI t2.AirTemp.X), .t (tS Pv.encI t2.AirTemp.Y), .t (tS Pv.encI t2.Dwell.X), .t (tS Pv.encI t2.Dwell.Y), .t (tS Pv.encI t2.Dead.X), .t (tS Pv.encI t2.Dead.Y), .t (tS Pv.encI t2.Efficiency.X), .t (tS Pv.encI t2.Efficiency.Y), .t (tI t2.Idle.P), .t (tI t2.Idle.I), .t (tI t2.Idle.Low), .t (tI t2.Idle.High), .t (tS Pv.encI e2.Order), .t (tI e2.First), .t (tI b2.Inertia), .t (tI b2.Friction), .t (tI b2.Volume), .t (tI b2.Throttle), .t (tI b2.Film), .t (tI b2.Evaporate), .t (tI b2.Delay), .t (tI c.Pedal.Value), .t (tI c.Pedal.Differ), .t (tB c.Pedal.Fault), .t (tI c.Idle.Sum), .t (tS q13 c.Knock), .t (tB c.Probe.Active), .t (tB c.Probe.Rich), .t (tI c.Probe.Factor), .t (tI c.Probe.Wait), .t (tS q16 c.Probe.Cells), .t (tI c.Film), .t (tI c.Grant.Torque), .t (tI c.Grant.Source), .t (tI i.Pedal1), .t (tI i.Pedal2), .t (tI i.Speed), .t (tI i.Pressure), .t (tI i.AirTemp), .t (tI i.Voltage), .t (tI i.Lambda), .t (tI i.Coolant), .t (tS Pv.encI i.Intensity), .t (tS q11 i.Requests), .t (tI 0), .t (tI 0), .t (tI 0), .t (tI 0), .t (.v (.slice none 0 0)), .t (tI 0), .t (tI 0), .t (.v (.slice none 0 0)), .t (tI 0), .t (tI 0)]), (46, .ptr 46 0), (47, .ptr 46 0), (48, .tup []), (49, .ptr 46 0), (50, .tup [])], [(5, .box (q14 t2)), (6, .box [.t (tS Pv.encI e2.Order), .t (tI e2.First)]), (7, .box [.t (tI b2.Inertia), .t (tI b2.Friction), .t (tI b2.Volume), .t (tI b2.Throttle), .t (tI b2.Film), .t (tI b2.Evaporate), .t (tI b2.Delay)]), (8, .box (q15 c)), (9, .box (q23 i)), (10, .box [.t (tI 0), .t (tI 0), .t (tB false), .t (tI 0), .t (.v (.slice none 0 0)), .t (tB false), .t (tB false), .t (tI 0), .t (tI 0), .t (.v (.slice none 0 0)), .t (tI 0), .t (tI 0), .t (tI 0)]), (11, .box [.t (tI 0), .t (.v (.slice none 0 0)), .t (tI 0)]), (46, .box (lset (q10 v6) [(63, .own 2388)])), (2388, .rows 79 7 v6.out.Fires.length (v6.out.Fires.map q12))]⟩) (q314 v5) rfl rfl rfl rfl rfl rfl rfl (fun _ => rfl) (fun _ => rfl) (fun _ => rfl) (fun _ => .of rfl rfl) fun v6 hv6 => .nil (.seq (.region (.run 1 rfl ?_)))
   refine TieO.callG [(1000000, 46), (1000001, 2388)] [] (fun v7 => ⟨[(5, .ptr 5 0), (6, .ptr 6 0), (7, .ptr 7 0), (8, .ptr 8 0), (9, .ptr 9 0), (10, .ptr 10 0), (11, .ptr 11 0), (13, .ptr 46 0), (14, .t (tB b4)), (28, .t (tB b4)), (31, .t (tB (!v4))), (32, .agg [.t (tI i.Pedal1), .t (tI i.Pedal2), .t (tI i.Speed), .t (tI i.Pressure), .t (tI i.AirTemp), .t (tI i.Voltage), .t (tI i.Lambda), .t (tI i.Coolant), .t (tS Pv.encI i.Intensity), .t (tS q11 i.Requests)]), (33, .ptr 6 0), (34, .t (tS Pv.encI e2.Order)), (35, .t (tI (e2.Order.length : Int))), (36, .t (tB v4)), (37, .t (tB (!v4))), (40, .agg [.t (tS Pv.encI t2.Air.X), .t (tS Pv.encI t2.Air.Y), .t (tS (Pv.encS Pv.encI) t2.Air.Z), .t (tS Pv.encI t2.Spark.X), .t (tS Pv.encI t2.Spark.Y), .t (tS (Pv.encS Pv.encI) t2.Spark.Z), .t (tS Pv.encI t2.Torque.X), .t (tS Pv.encI t2.Torque.Y), .t (tS (Pv.encS Pv.encI) t2.Torque.Z), .t (tS Pv.encI t2.Wish.X), .t (tS Pv.encI t2.Wish.Y), .t (tS (Pv.encS Pv.encI) t2.Wish.Z), .t (tS Pv.encI t2.AirTemp.X), .t (tS Pv.encI t2.AirTemp.Y), .t (tS Pv.encI t2.Dwell.X), .t (tS Pv.encI t2.Dwell.Y), .t (tS Pv.encI t2.Dead.X), .t (tS Pv.encI t2.Dead.Y), .t (tS Pv.encI t2.Efficiency.X), .t (tS Pv.encI t2.Efficiency.Y), .t (tI t2.Idle.P), .t (tI t2.Idle.I), .t (tI t2.Idle.Low), .t (tI t2.Idle.High)]), (41, .agg [.t (tS Pv.encI e2.Order), .t (tI e2.First)]), (42, .agg [.t (tI b2.Inertia), .t (tI b2.Friction), .t (tI b2.Volume), .t (tI b2.Throttle), .t (tI b2.Film), .t (tI b2.Evaporate), .t (tI b2.Delay)]), (43, .agg [.t (tI c.Pedal.Value), .t (tI c.Pedal.Differ), .t (tB c.Pedal.Fault), .t (tI c.Idle.Sum), .t (tS q13 c.Knock), .t (tB c.Probe.Active), .t (tB c.Probe.Rich), .t (tI c.Probe.Factor), .t (tI c.Probe.Wait), .t (tS q16 c.Probe.Cells), .t (tI c.Film), .t (tI c.Grant.Torque), .t (tI c.Grant.Source)]), (44, .agg [.t (tI i.Pedal1), .t (tI i.Pedal2), .t (tI i.Speed), .t (tI i.Pressure), .t (tI i.AirTemp), .t (tI i.Voltage), .t (tI i.Lambda), .t (tI i.Coolant), .t (tS Pv.encI i.Intensity), .t (tS q11 i.Requests)]), (45, .agg [.t (tS Pv.encI t2.Air.X), .t (tS Pv.encI t2.Air.Y), .t (tS (Pv.encS Pv.encI) t2.Air.Z), .t (tS Pv.encI t2.Spark.X), .t (tS Pv.encI t2.Spark.Y), .t (tS (Pv.encS Pv.encI) t2.Spark.Z), .t (tS Pv.encI t2.Torque.X), .t (tS Pv.encI t2.Torque.Y), .t (tS (Pv.encS Pv.encI) t2.Torque.Z), .t (tS Pv.encI t2.Wish.X), .t (tS Pv.encI t2.Wish.Y), .t (tS (Pv.encS Pv.encI) t2.Wish.Z), .t (tS Pv.encI t2.AirTemp.X), .t (tS Pv.encI t2.AirTemp.Y), .t (tS Pv.encI t2.Dwell.X), .t (tS Pv.encI t2.Dwell.Y), .t (tS Pv.encI t2.Dead.X), .t (tS Pv.encI t2.Dead.Y), .t (tS Pv.encI t2.Efficiency.X), .t (tS Pv.encI t2.Efficiency.Y), .t (tI t2.Idle.P), .t (tI t2.Idle.I), .t (tI t2.Idle.Low), .t (tI t2.Idle.High), .t (tS Pv.encI e2.Order), .t (tI e2.First), .t (tI b2.Inertia), .t (tI b2.Friction), .t (tI b2.Volume), .t (tI b2.Throttle), .t (tI b2.Film), .t (tI b2.Evaporate), .t (tI b2.Delay), .t (tI c.Pedal.Value), .t (tI c.Pedal.Differ), .t (tB c.Pedal.Fault), .t (tI c.Idle.Sum), .t (tS q13 c.Knock), .t (tB c.Probe.Active), .t (tB c.Probe.Rich), .t (tI c.Probe.Factor), .t (tI c.Probe.Wait), .t (tS q16 c.Probe.Cells), .t (tI c.Film), .t (tI c.Grant.Torque), .t (tI c.Grant.Source), .t (tI i.Pedal1), .t (tI i.Pedal2), .t (tI i.Speed), .t (tI i.Pressure), .t (tI i.AirTemp), .t (tI i.Voltage), .t (tI i.Lambda), .t (tI i.Coolant), .t (tS Pv.encI i.Intensity), .t (tS q11 i.Requests), .t (tI 0), .t (tI 0), .t (tI 0), .t (tI 0), .t (.v (.slice none 0 0)), .t (tI 0), .t (tI 0), .t (.v (.slice none 0 0)), .t (tI 0), .t (tI 0)]), (46, .ptr 46 0), (47, .ptr 46 0), (48, .tup []), (49, .ptr 46 0), (50, .tup []), (51, .ptr 46 0), (52, .tup [])], [(5, .box (q14 t2)), (6, .box [.t (tS Pv.encI e2.Order), .t (tI e2.First)]), (7, .box [.t (tI b2.Inertia), .t (tI b2.Friction), .t (tI b2.Volume), .t (tI b2.Throttle), .t (tI b2.Film), .t (tI b2.Evaporate), .t (tI b2.Delay)]), (8, .box (q15 c)), (9, .box (q23 i)), (10, .box [.t (tI 0), .t (tI 0), .t (tB false), .t (tI 0), .t (.v (.slice none 0 0)), .t (tB false), .t (tB false), .t (tI 0), .t (tI 0), .t (.v (.slice none 0 0)), .t (tI 0), .t (tI 0), .t (tI 0)]), (11, .box [.t (tI 0), .t (.v (.slice none 0 0)), .t (tI 0)]), (46, .box (lset (q10 v7) [(63, .own 2388)])), (2388, .rows 79 7 v7.out.Fires.length (v7.out.Fires.map q12))]⟩) (q349 v6) rfl rfl rfl rfl rfl rfl rfl (fun _ => rfl) (fun _ => rfl) (fun _ => rfl) (fun _ => .of rfl rfl) fun v7 hv7 => .nil (.seq (.region (.run 1 rfl ?_)))
   refine TieO.callG [(1000000, 46), (1000001, 2388)] [] (fun v8 => ⟨[(5, .ptr 5 0), (6, .ptr 6 0), (7, .ptr 7 0), (8, .ptr 8 0), (9, .ptr 9 0), (10, .ptr 10 0), (11, .ptr 11 0), (13, .ptr 46 0), (14, .t (tB b4)), (28, .t (tB b4)), (31, .t (tB (!v4))), (32, .agg [.t (tI i.Pedal1), .t (tI i.Pedal2), .t (tI i.Speed), .t (tI i.Pressure), .t (tI i.AirTemp), .t (tI i.Voltage), .t (tI i.Lambda), .t (tI i.Coolant), .t (tS Pv.encI i.Intensity), .t (tS q11 i.Requests)]), (33, .ptr 6 0), (34, .t (tS Pv.encI e2.Order)), (35, .t (tI (e2.Order.length : Int))), (36, .t (tB v4)), (37, .t (tB (!v4))), (40, .agg [.t (tS Pv.encI t2.Air.X), .t (tS Pv.encI t2.Air.Y), .t (tS (Pv.encS Pv.encI) t2.Air.Z), .t (tS Pv.encI t2.Spark.X), .t (tS Pv.encI t2.Spark.Y), .t (tS (Pv.encS Pv.encI) t2.Spark.Z), .t (tS Pv.encI t2.Torque.X), .t (tS Pv.encI t2.Torque.Y), .t (tS (Pv.encS Pv.encI) t2.Torque.Z), .t (tS Pv.encI t2.Wish.X), .t (tS Pv.encI t2.Wish.Y), .t (tS (Pv.encS Pv.encI) t2.Wish.Z), .t (tS Pv.encI t2.AirTemp.X), .t (tS Pv.encI t2.AirTemp.Y), .t (tS Pv.encI t2.Dwell.X), .t (tS Pv.encI t2.Dwell.Y), .t (tS Pv.encI t2.Dead.X), .t (tS Pv.encI t2.Dead.Y), .t (tS Pv.encI t2.Efficiency.X), .t (tS Pv.encI t2.Efficiency.Y), .t (tI t2.Idle.P), .t (tI t2.Idle.I), .t (tI t2.Idle.Low), .t (tI t2.Idle.High)]), (41, .agg [.t (tS Pv.encI e2.Order), .t (tI e2.First)]), (42, .agg [.t (tI b2.Inertia), .t (tI b2.Friction), .t (tI b2.Volume), .t (tI b2.Throttle), .t (tI b2.Film), .t (tI b2.Evaporate), .t (tI b2.Delay)]), (43, .agg [.t (tI c.Pedal.Value), .t (tI c.Pedal.Differ), .t (tB c.Pedal.Fault), .t (tI c.Idle.Sum), .t (tS q13 c.Knock), .t (tB c.Probe.Active), .t (tB c.Probe.Rich), .t (tI c.Probe.Factor), .t (tI c.Probe.Wait), .t (tS q16 c.Probe.Cells), .t (tI c.Film), .t (tI c.Grant.Torque), .t (tI c.Grant.Source)]), (44, .agg [.t (tI i.Pedal1), .t (tI i.Pedal2), .t (tI i.Speed), .t (tI i.Pressure), .t (tI i.AirTemp), .t (tI i.Voltage), .t (tI i.Lambda), .t (tI i.Coolant), .t (tS Pv.encI i.Intensity), .t (tS q11 i.Requests)]), (45, .agg [.t (tS Pv.encI t2.Air.X), .t (tS Pv.encI t2.Air.Y), .t (tS (Pv.encS Pv.encI) t2.Air.Z), .t (tS Pv.encI t2.Spark.X), .t (tS Pv.encI t2.Spark.Y), .t (tS (Pv.encS Pv.encI) t2.Spark.Z), .t (tS Pv.encI t2.Torque.X), .t (tS Pv.encI t2.Torque.Y), .t (tS (Pv.encS Pv.encI) t2.Torque.Z), .t (tS Pv.encI t2.Wish.X), .t (tS Pv.encI t2.Wish.Y), .t (tS (Pv.encS Pv.encI) t2.Wish.Z), .t (tS Pv.encI t2.AirTemp.X), .t (tS Pv.encI t2.AirTemp.Y), .t (tS Pv.encI t2.Dwell.X), .t (tS Pv.encI t2.Dwell.Y), .t (tS Pv.encI t2.Dead.X), .t (tS Pv.encI t2.Dead.Y), .t (tS Pv.encI t2.Efficiency.X), .t (tS Pv.encI t2.Efficiency.Y), .t (tI t2.Idle.P), .t (tI t2.Idle.I), .t (tI t2.Idle.Low), .t (tI t2.Idle.High), .t (tS Pv.encI e2.Order), .t (tI e2.First), .t (tI b2.Inertia), .t (tI b2.Friction), .t (tI b2.Volume), .t (tI b2.Throttle), .t (tI b2.Film), .t (tI b2.Evaporate), .t (tI b2.Delay), .t (tI c.Pedal.Value), .t (tI c.Pedal.Differ), .t (tB c.Pedal.Fault), .t (tI c.Idle.Sum), .t (tS q13 c.Knock), .t (tB c.Probe.Active), .t (tB c.Probe.Rich), .t (tI c.Probe.Factor), .t (tI c.Probe.Wait), .t (tS q16 c.Probe.Cells), .t (tI c.Film), .t (tI c.Grant.Torque), .t (tI c.Grant.Source), .t (tI i.Pedal1), .t (tI i.Pedal2), .t (tI i.Speed), .t (tI i.Pressure), .t (tI i.AirTemp), .t (tI i.Voltage), .t (tI i.Lambda), .t (tI i.Coolant), .t (tS Pv.encI i.Intensity), .t (tS q11 i.Requests), .t (tI 0), .t (tI 0), .t (tI 0), .t (tI 0), .t (.v (.slice none 0 0)), .t (tI 0), .t (tI 0), .t (.v (.slice none 0 0)), .t (tI 0), .t (tI 0)]), (46, .ptr 46 0), (47, .ptr 46 0), (48, .tup []), (49, .ptr 46 0), (50, .tup []), (51, .ptr 46 0), (52, .tup []), (53, .ptr 46 0), (54, .tup [])], [(5, .box (q14 t2)), (6, .box [.t (tS Pv.encI e2.Order), .t (tI e2.First)]), (7, .box [.t (tI b2.Inertia), .t (tI b2.Friction), .t (tI b2.Volume), .t (tI b2.Throttle), .t (tI b2.Film), .t (tI b2.Evaporate), .t (tI b2.Delay)]), (8, .box (q15 c)), (9, .box (q23 i)), (10, .box [.t (tI 0), .t (tI 0), .t (tB false), .t (tI 0), .t (.v (.slice none 0 0)), .t (tB false), .t (tB false), .t (tI 0), .t (tI 0), .t (.v (.slice none 0 0)), .t (tI 0), .t (tI 0), .t (tI 0)]), (11, .box [.t (tI 0), .t (.v (.slice none 0 0)), .t (tI 0)]), (46, .box (lset (q10 v8) [(63, .own 2388)])), (2388, .rows 79 7 v8.out.Fires.length (v8.out.Fires.map q12))]⟩) (q359 v7) rfl rfl rfl rfl rfl rfl rfl (fun _ => rfl) (fun _ => rfl) (fun _ => rfl) (fun _ => .of rfl rfl) fun v8 hv8 => .nil (.seq (.region (.run 1 rfl ?_)))
   refine TieO.callG [(1000000, 46), (1000001, 2388)] [(900000, 2448)] (fun v9 => ⟨[(5, .ptr 5 0), (6, .ptr 6 0), (7, .ptr 7 0), (8, .ptr 8 0), (9, .ptr 9 0), (10, .ptr 10 0), (11, .ptr 11 0), (13, .ptr 46 0), (14, .t (tB b4)), (28, .t (tB b4)), (31, .t (tB (!v4))), (32, .agg [.t (tI i.Pedal1), .t (tI i.Pedal2), .t (tI i.Speed), .t (tI i.Pressure), .t (tI i.AirTemp), .t (tI i.Voltage), .t (tI i.Lambda), .t (tI i.Coolant), .t (tS Pv.encI i.Intensity), .t (tS q11 i.Requests)]), (33, .ptr 6 0), (34, .t (tS Pv.encI e2.Order)), (35, .t (tI (e2.Order.length : Int))), (36, .t (tB v4)), (37, .t (tB (!v4))), (40, .agg [.t (tS Pv.encI t2.Air.X), .t (tS Pv.encI t2.Air.Y), .t (tS (Pv.encS Pv.encI) t2.Air.Z), .t (tS Pv.encI t2.Spark.X), .t (tS Pv.encI t2.Spark.Y), .t (tS (Pv.encS Pv.encI) t2.Spark.Z), .t (tS Pv.encI t2.Torque.X), .t (tS Pv.encI t2.Torque.Y), .t (tS (Pv.encS Pv.encI) t2.Torque.Z), .t (tS Pv.encI t2.Wish.X), .t (tS Pv.encI t2.Wish.Y), .t (tS (Pv.encS Pv.encI) t2.Wish.Z), .t (tS Pv.encI t2.AirTemp.X), .t (tS Pv.encI t2.AirTemp.Y), .t (tS Pv.encI t2.Dwell.X), .t (tS Pv.encI t2.Dwell.Y), .t (tS Pv.encI t2.Dead.X), .t (tS Pv.encI t2.Dead.Y), .t (tS Pv.encI t2.Efficiency.X), .t (tS Pv.encI t2.Efficiency.Y), .t (tI t2.Idle.P), .t (tI t2.Idle.I), .t (tI t2.Idle.Low), .t (tI t2.Idle.High)]), (41, .agg [.t (tS Pv.encI e2.Order), .t (tI e2.First)]), (42, .agg [.t (tI b2.Inertia), .t (tI b2.Friction), .t (tI b2.Volume), .t (tI b2.Throttle), .t (tI b2.Film), .t (tI b2.Evaporate), .t (tI b2.Delay)]), (43, .agg [.t (tI c.Pedal.Value), .t (tI c.Pedal.Differ), .t (tB c.Pedal.Fault), .t (tI c.Idle.Sum), .t (tS q13 c.Knock), .t (tB c.Probe.Active), .t (tB c.Probe.Rich), .t (tI c.Probe.Factor), .t (tI c.Probe.Wait), .t (tS q16 c.Probe.Cells), .t (tI c.Film), .t (tI c.Grant.Torque), .t (tI c.Grant.Source)]), (44, .agg [.t (tI i.Pedal1), .t (tI i.Pedal2), .t (tI i.Speed), .t (tI i.Pressure), .t (tI i.AirTemp), .t (tI i.Voltage), .t (tI i.Lambda), .t (tI i.Coolant), .t (tS Pv.encI i.Intensity), .t (tS q11 i.Requests)]), (45, .agg [.t (tS Pv.encI t2.Air.X), .t (tS Pv.encI t2.Air.Y), .t (tS (Pv.encS Pv.encI) t2.Air.Z), .t (tS Pv.encI t2.Spark.X), .t (tS Pv.encI t2.Spark.Y), .t (tS (Pv.encS Pv.encI) t2.Spark.Z), .t (tS Pv.encI t2.Torque.X), .t (tS Pv.encI t2.Torque.Y), .t (tS (Pv.encS Pv.encI) t2.Torque.Z), .t (tS Pv.encI t2.Wish.X), .t (tS Pv.encI t2.Wish.Y), .t (tS (Pv.encS Pv.encI) t2.Wish.Z), .t (tS Pv.encI t2.AirTemp.X), .t (tS Pv.encI t2.AirTemp.Y), .t (tS Pv.encI t2.Dwell.X), .t (tS Pv.encI t2.Dwell.Y), .t (tS Pv.encI t2.Dead.X), .t (tS Pv.encI t2.Dead.Y), .t (tS Pv.encI t2.Efficiency.X), .t (tS Pv.encI t2.Efficiency.Y), .t (tI t2.Idle.P), .t (tI t2.Idle.I), .t (tI t2.Idle.Low), .t (tI t2.Idle.High), .t (tS Pv.encI e2.Order), .t (tI e2.First), .t (tI b2.Inertia), .t (tI b2.Friction), .t (tI b2.Volume), .t (tI b2.Throttle), .t (tI b2.Film), .t (tI b2.Evaporate), .t (tI b2.Delay), .t (tI c.Pedal.Value), .t (tI c.Pedal.Differ), .t (tB c.Pedal.Fault), .t (tI c.Idle.Sum), .t (tS q13 c.Knock), .t (tB c.Probe.Active), .t (tB c.Probe.Rich), .t (tI c.Probe.Factor), .t (tI c.Probe.Wait), .t (tS q16 c.Probe.Cells), .t (tI c.Film), .t (tI c.Grant.Torque), .t (tI c.Grant.Source), .t (tI i.Pedal1), .t (tI i.Pedal2), .t (tI i.Speed), .t (tI i.Pressure), .t (tI i.AirTemp), .t (tI i.Voltage), .t (tI i.Lambda), .t (tI i.Coolant), .t (tS Pv.encI i.Intensity), .t (tS q11 i.Requests), .t (tI 0), .t (tI 0), .t (tI 0), .t (tI 0), .t (.v (.slice none 0 0)), .t (tI 0), .t (tI 0), .t (.v (.slice none 0 0)), .t (tI 0), .t (tI 0)]), (46, .ptr 46 0), (47, .ptr 46 0), (48, .tup []), (49, .ptr 46 0), (50, .tup []), (51, .ptr 46 0), (52, .tup []), (53, .ptr 46 0), (54, .tup []), (55, .ptr 46 0), (56, .tup [])], [(5, .box (q14 t2)), (6, .box [.t (tS Pv.encI e2.Order), .t (tI e2.First)]), (7, .box [.t (tI b2.Inertia), .t (tI b2.Friction), .t (tI b2.Volume), .t (tI b2.Throttle), .t (tI b2.Film), .t (tI b2.Evaporate), .t (tI b2.Delay)]), (8, .box (q15 c)), (9, .box (q23 i)), (10, .box [.t (tI 0), .t (tI 0), .t (tB false), .t (tI 0), .t (.v (.slice none 0 0)), .t (tB false), .t (tB false), .t (tI 0), .t (tI 0), .t (.v (.slice none 0 0)), .t (tI 0), .t (tI 0), .t (tI 0)]), (11, .box [.t (tI 0), .t (.v (.slice none 0 0)), .t (tI 0)]), (46, .box (lset (q10 v9) [(63, .own 2448)])), (2448, .rows 79 7 v9.out.Fires.length (v9.out.Fires.map q12))]⟩) (q352 v8) rfl rfl rfl rfl rfl rfl rfl (fun _ => rfl) (fun _ => rfl) (fun _ => rfl) (fun _ => .of rfl rfl) fun v9 hv9 => .nil (.seq (.seq (.region ?_)))
   refine TieO.run 5 rfl (.nil (.cond rfl ?_ ?_))
   ·refine TieS.seq (.bind (Q₁ := fun t e σ' => e = .normal ∧ Sub ⟨[(10, .ptr 10 0), (11, .ptr 11 0), (12, .t (tI t))], [(10, .box [.t (tI 0), .t (tI 0), .t (tB false), .t (tI 0), .t (.v (.slice none 0 0)), .t (tB false), .t (tB false), .t (tI 0), .t (tI 0), .t (.v (.slice none 0 0)), .t (tI 0), .t (tI 0), .t (tI 0)]), (11, .box [.t (tI 0), .t (.v (.slice none 0 0)), .t (tI 0)])]⟩ σ') ?_ ?_)
    ·refine TieS.draws 8 (bm 9 0) (bm 9 255) ⟨[(10, .ptr 10 0), (11, .ptr 11 0), (67, .t (tI v9.fail))], [(5, .box (q14 t2)), (6, .box [.t (tS Pv.encI e2.Order), .t (tI e2.First)]), (7, .box [.t (tI b2.Inertia), .t (tI b2.Friction), .t (tI b2.Volume), .t (tI b2.Throttle), .t (tI b2.Film), .t (tI b2.Evaporate), .t (tI b2.Delay)]), (8, .box (q15 c)), (9, .box (q23 i)), (10, .box [.t (tI 0), .t (tI 0), .t (tB false), .t (tI 0), .t (.v (.slice none 0 0)), .t (tB false), .t (tB false), .t (tI 0), .t (tI 0), .t (.v (.slice none 0 0)), .t (tI 0), .t (tI 0), .t (tI 0)]), (11, .box [.t (tI 0), .t (.v (.slice none 0 0)), .t (tI 0)]), (46, .box (lset (q10 v9) [(63, .own 2448)])), (2448, .rows 79 7 v9.out.Fires.length (v9.out.Fires.map q12))]⟩ mixed (fun _ _ _ h => by cases h.1) rfl rfl rfl rfl ?_ ?_
     ·refine TieA.have_ (fuel₁ := 2) (l₁ := (bm 9 127)) (σ₁ := ⟨[(10, .ptr 10 0), (11, .ptr 11 0), (63, .agg [.t (tI 0), .t (.v (.slice none 0 0)), .t (tI 0)]), (67, .t (tI v9.fail))], [(5, .box (q14 t2)), (6, .box [.t (tS Pv.encI e2.Order), .t (tI e2.First)]), (7, .box [.t (tI b2.Inertia), .t (tI b2.Friction), .t (tI b2.Volume), .t (tI b2.Throttle), .t (tI b2.Film), .t (tI b2.Evaporate), .t (tI b2.Delay)]), (8, .box (q15 c)), (9, .box (q23 i)), (10, .box [.t (tI 0), .t (tI 0), .t (tB false), .t (tI 0), .t (.v (.slice none 0 0)), .t (tB false), .t (tB false), .t (tI 0), .t (tI 0), .t (.v (.slice none 0 0)), .t (tI 0), .t (tI 0), .t (tI 0)]), (11, .box [.t (tI 0), .t (.v (.slice none 0 0)), .t (tI 0)]), (46, .box (lset (q10 v9) [(63, .own 2448)])), (2448, .rows 79 7 v9.out.Fires.length (v9.out.Fires.map q12))]⟩) ?_ fun A_2 => ?_
      ·refine TieA.all [7] (by kernel_rfl) rfl (AllA.run _ rfl rfl rfl ?_ ?_)
       ·exact TieA.done (.of rfl rfl)
       exact AllA.nil
      refine TieA.have_ (fuel₁ := 3) (l₁ := (bm 9 63)) (σ₁ := ⟨[(10, .ptr 10 0), (11, .ptr 11 0), (62, .agg [.t (tI 0), .t (tI 0), .t (tB false), .t (tI 0), .t (.v (.slice none 0 0)), .t (tB false), .t (tB false), .t (tI 0), .t (tI 0), .t (.v (.slice none 0 0)), .t (tI 0), .t (tI 0), .t (tI 0)]), (63, .agg [.t (tI 0), .t (.v (.slice none 0 0)), .t (tI 0)]), (67, .t (tI v9.fail))], [(5, .box (q14 t2)), (6, .box [.t (tS Pv.encI e2.Order), .t (tI e2.First)]), (7, .box [.t (tI b2.Inertia), .t (tI b2.Friction), .t (tI b2.Volume), .t (tI b2.Throttle), .t (tI b2.Film), .t (tI b2.Evaporate), .t (tI b2.Delay)]), (8, .box (q15 c)), (9, .box (q23 i)), (10, .box [.t (tI 0), .t (tI 0), .t (tB false), .t (tI 0), .t (.v (.slice none 0 0)), .t (tB false), .t (tB false), .t (tI 0), .t (tI 0), .t (.v (.slice none 0 0)), .t (tI 0), .t (tI 0), .t (tI 0)]), (11, .box [.t (tI 0), .t (.v (.slice none 0 0)), .t (tI 0)]), (46, .box (lset (q10 v9) [(63, .own 2448)])), (2448, .rows 79 7 v9.out.Fires.length (v9.out.Fires.map q12))]⟩) ?_ fun A_1 => ?_
      ·exact TieA.all [6] (by kernel_rfl) rfl (AllA.runTo _ rfl rfl rfl (.of rfl rfl) A_2 (AllA.nil))
      refine TieA.have_ (fuel₁ := 3) (l₁ := (bm 9 95)) (σ₁ := ⟨[(10, .ptr 10 0), (11, .ptr 11 0), (63, .agg [.t (tI 0), .t (.v (.slice none 0 0)), .t (tI 0)]), (66, .ptr 46 65)], [(5, .box (q14 t2)), (6, .box [.t (tS Pv.encI e2.Order), .t (tI e2.First)]), (7, .box [.t (tI b2.Inertia), .t (tI b2.Friction), .t (tI b2.Volume), .t (tI b2.Throttle), .t (tI b2.Film), .t (tI b2.Evaporate), .t (tI b2.Delay)]), (8, .box (q15 c)), (9, .box (q23 i)), (10, .box [.t (tI 0), .t (tI 0), .t (tB false), .t (tI 0), .t (.v (.slice none 0 0)), .t (tB false), .t (tB false), .t (tI 0), .t (tI 0), .t (.v (.slice none 0 0)), .t (tI 0), .t (tI 0), .t (tI 0)]), (11, .box [.t (tI 0), .t (.v (.slice none 0 0)), .t (tI 0)]), (46, .box (lset (q10 v9) [(63, .own 2448)])), (2448, .rows 79 7 v9.out.Fires.length (v9.out.Fires.map q12))]⟩) ?_ fun A_3 => ?_
      ·refine TieA.all [5, 7] (by kernel_rfl) rfl (AllA.runTo _ rfl rfl rfl (.of rfl rfl) A_2 (AllA.run _ rfl rfl rfl ?_ ?_))
       ·refine TieA.all [5] (by kernel_rfl) rfl (AllA.run _ rfl rfl rfl ?_ ?_)
        ·exact TieA.done (.of rfl rfl)
        exact AllA.nil
       exact AllA.nil
      refine TieA.have_ (fuel₁ := 4) (l₁ := (bm 9 31)) (σ₁ := ⟨[(10, .ptr 10 0), (11, .ptr 11 0), (62, .agg [.t (tI 0), .t (tI 0), .t (tB false), .t (tI 0), .t (.v (.slice none 0 0)), .t (tB false), .t (tB false), .t (tI 0), .t (tI 0), .t (.v (.slice none 0 0)), .t (tI 0), .t (tI 0), .t (tI 0)]), (63, .agg [.t (tI 0), .t (.v (.slice none 0 0)), .t (tI 0)]), (66, .ptr 46 65)], [(5, .box (q14 t2)), (6, .box [.t (tS Pv.encI e2.Order), .t (tI e2.First)]), (7, .box [.t (tI b2.Inertia), .t (tI b2.Friction), .t (tI b2.Volume), .t (tI b2.Throttle), .t (tI b2.Film), .t (tI b2.Evaporate), .t (tI b2.Delay)]), (8, .box (q15 c)), (9, .box (q23 i)), (10, .box [.t (tI 0), .t (tI 0), .t (tB false), .t (tI 0), .t (.v (.slice none 0 0)), .t (tB false), .t (tB false), .t (tI 0), .t (tI 0), .t (.v (.slice none 0 0)), .t (tI 0), .t (tI 0), .t (tI 0)]), (11, .box [.t (tI 0), .t (.v (.slice none 0 0)), .t (tI 0)]), (46, .box (lset (q10 v9) [(63, .own 2448)])), (2448, .rows 79 7 v9.out.Fires.length (v9.out.Fires.map q12))]⟩) ?_ fun A_0 => ?_
      ·exact TieA.all [5, 6] (by kernel_rfl) rfl (AllA.runTo _ rfl rfl rfl (.of rfl rfl) A_1 (AllA.runTo _ rfl rfl rfl (.of rfl rfl) A_3 (AllA.nil)))
      refine TieA.have_ (fuel₁ := 3) (l₁ := (bm 9 125)) (σ₁ := ⟨[(10, .ptr 10 0), (11, .ptr 11 0), (67, .t (tI v9.fail))], [(5, .box (q14 t2)), (6, .box [.t (tS Pv.encI e2.Order), .t (tI e2.First)]), (7, .box [.t (tI b2.Inertia), .t (tI b2.Friction), .t (tI b2.Volume), .t (tI b2.Throttle), .t (tI b2.Film), .t (tI b2.Evaporate), .t (tI b2.Delay)]), (8, .box (q15 c)), (9, .box (q23 i)), (10, .box [.t (tI 0), .t (tI 0), .t (tB false), .t (tI 0), .t (.v (.slice none 0 0)), .t (tB false), .t (tB false), .t (tI 0), .t (tI 0), .t (.v (.slice none 0 0)), .t (tI 0), .t (tI 0), .t (tI 0)]), (11, .box [.t (tI 0), .t (.v (.slice none 0 0)), .t (tI 0)]), (46, .box (lset (q10 v9) [(63, .own 2448)])), (2448, .rows 79 7 v9.out.Fires.length (v9.out.Fires.map q12))]⟩) ?_ fun A_5 => ?_
      ·exact TieA.all [1] (by kernel_rfl) rfl (AllA.runTo _ rfl rfl rfl (.of rfl rfl) A_2 (AllA.nil))
      refine TieA.have_ (fuel₁ := 4) (l₁ := (bm 9 61)) (σ₁ := ⟨[(10, .ptr 10 0), (11, .ptr 11 0), (62, .agg [.t (tI 0), .t (tI 0), .t (tB false), .t (tI 0), .t (.v (.slice none 0 0)), .t (tB false), .t (tB false), .t (tI 0), .t (tI 0), .t (.v (.slice none 0 0)), .t (tI 0), .t (tI 0), .t (tI 0)]), (67, .t (tI v9.fail))], [(5, .box (q14 t2)), (6, .box [.t (tS Pv.encI e2.Order), .t (tI e2.First)]), (7, .box [.t (tI b2.Inertia), .t (tI b2.Friction), .t (tI b2.Volume), .t (tI b2.Throttle), .t (tI b2.Film), .t (tI b2.Evaporate), .t (tI b2.Delay)]), (8, .box (q15 c)), (9, .box (q23 i)), (10, .box [.t (tI 0), .t (tI 0), .t (tB false), .t (tI 0), .t (.v (.slice none 0 0)), .t (tB false), .t (tB false), .t (tI 0), .t (tI 0), .t (.v (.slice none 0 0)), .t (tI 0), .t (tI 0), .t (tI 0)]), (11, .box [.t (tI 0), .t (.v (.slice none 0 0)), .t (tI 0)]), (46, .box (lset (q10 v9) [(63, .own 2448)])), (2448, .rows 79 7 v9.out.Fires.length (v9.out.Fires.map q12))]⟩) ?_ fun A_4 => ?_
      ·exact TieA.all [1, 6] (by kernel_rfl) rfl (AllA.runTo _ rfl rfl rfl (.of rfl rfl) A_1 (AllA.runTo _ rfl rfl rfl (.of rfl rfl) A_5 (AllA.nil)))
      refine TieA.have_ (fuel₁ := 4) (l₁ := (bm 9 62)) (σ₁ := ⟨[(10, .ptr 10 0), (11, .ptr 11 0), (63, .agg [.t (tI 0), .t (.v (.slice none 0 0)), .t (tI 0)]), (67, .t (tI v9.fail))], [(5, .box (q14 t2)), (6, .box [.t (tS Pv.encI e2.Order), .t (tI e2.First)]), (7, .box [.t (tI b2.Inertia), .t (tI b2.Friction), .t (tI b2.Volume), .t (tI b2.Throttle), .t (tI b2.Film), .t (tI b2.Evaporate), .t (tI b2.Delay)]), (8, .box (q15 c)), (9, .box (q23 i)), (10, .box [.t (tI 0), .t (tI 0), .t (tB false), .t (tI 0), .t (.v (.slice none 0 0)), .t (tB false), .t (tB false), .t (tI 0), .t (tI 0), .t (.v (.slice none 0 0)), .t (tI 0), .t (tI 0), .t (tI 0)]), (11, .box [.t (tI 0), .t (.v (.slice none 0 0)), .t (tI 0)]), (46, .box (lset (q10 v9) [(63, .own 2448)])), (2448, .rows 79 7 v9.out.Fires.length (v9.out.Fires.map q12))]⟩) ?_ fun A_6 => ?_
      ·exact TieA.all [0] (by kernel_rfl) rfl (AllA.runTo _ rfl rfl rfl (.of rfl rfl) A_1 (AllA.nil))
      refine TieA.mv 2 rfl (.inl rfl) rfl (by kernel_rfl) rfl (.nP 3 rfl rfl rfl (by kernel_rfl) rfl (.fP 4 rfl rfl rfl (by kernel_rfl) rfl rfl rfl (.all [0, 1, 5] (by kernel_rfl) rfl (AllA.run _ rfl rfl rfl ?_ ?_))))
      ·refine TieA.all [1, 5, 6] (by kernel_rfl) rfl (AllA.runTo _ rfl rfl rfl (.of rfl rfl) A_0 (AllA.runTo _ rfl rfl rfl (.of rfl rfl) A_4 (AllA.run _ rfl rfl rfl ?_ ?_)))
       ·exact TieA.all [1, 5] (by kernel_rfl) rfl (AllA.runTo _ rfl rfl rfl (.of rfl rfl) A_3 (AllA.runTo _ rfl rfl rfl (.of rfl rfl) A_5 (AllA.nil)))
       exact AllA.nil
      refine AllA.run _ rfl rfl rfl ?_ ?_
      ·exact TieA.all [0, 5] (by kernel_rfl) rfl (AllA.runTo _ rfl rfl rfl (.of rfl rfl) A_0 (AllA.runTo _ rfl rfl rfl (.of rfl rfl) A_6 (AllA.nil)))
      refine AllA.run _ rfl rfl rfl ?_ ?_
      ·exact TieA.all [0, 1] (by kernel_rfl) rfl (AllA.runTo _ rfl rfl rfl (.of rfl rfl) A_4 (AllA.runTo _ rfl rfl rfl (.of rfl rfl) A_6 (AllA.nil)))
      exact AllA.nil
     exact TieO.run 1 rfl (.nil (.leaf ⟨rfl, .of rfl rfl⟩))
    rintro v10 e σ' _ ⟨rfl, hs⟩
    exact TieX.sub hs (TieS.ret ⟨.inl rfl, rfl⟩)
   ·refine TieS.skip (.seq (.bind (Q₁ := fun t e σ' => e = .normal ∧ Sub ⟨[(10, .ptr 10 0), (11, .ptr 11 0), (12, .t (tI t.1))], [(10, .box (q15 t.2.1)), (11, .box [.t (tI t.2.2.Throttle), .own 2448, .t (tI t.2.2.Torque)]), (2448, .rows 79 7 t.2.2.Fires.length (t.2.2.Fires.map q12))]⟩ σ') ?_ ?_))
    ·refine TieS.draws 9 (bm 11 0) (bm 11 511) ⟨[(10, .ptr 10 0), (11, .ptr 11 0), (75, .agg [.t (tI v9.out.Throttle), .own 2448, .t (tI v9.out.Torque)])], [(5, .box (q14 t2)), (6, .box [.t (tS Pv.encI e2.Order), .t (tI e2.First)]), (7, .box [.t (tI b2.Inertia), .t (tI b2.Friction), .t (tI b2.Volume), .t (tI b2.Throttle), .t (tI b2.Film), .t (tI b2.Evaporate), .t (tI b2.Delay)]), (8, .box (q15 c)), (9, .box (q23 i)), (10, .box (q15 v9.c)), (11, .box [.t (tI 0), .t (.v (.slice none 0 0)), .t (tI 0)]), (46, .box (lset (q10 v9) [(63, .own 2448)])), (2448, .rows 79 7 v9.out.Fires.length (v9.out.Fires.map q12))]⟩ mixed (fun _ _ _ h => by cases h.1) rfl rfl rfl rfl ?_ ?_
     ·refine TieA.have_ (fuel₁ := 3) (l₁ := (bm 11 255)) (σ₁ := ⟨[(10, .ptr 10 0), (11, .ptr 11 0), (71, .agg [.t (tI v9.c.Pedal.Value), .t (tI v9.c.Pedal.Differ), .t (tB v9.c.Pedal.Fault), .t (tI v9.c.Idle.Sum), .t (tS q13 v9.c.Knock), .t (tB v9.c.Probe.Active), .t (tB v9.c.Probe.Rich), .t (tI v9.c.Probe.Factor), .t (tI v9.c.Probe.Wait), .t (tS q16 v9.c.Probe.Cells), .t (tI v9.c.Film), .t (tI v9.c.Grant.Torque), .t (tI v9.c.Grant.Source)]), (75, .agg [.t (tI v9.out.Throttle), .own 2448, .t (tI v9.out.Torque)])], [(5, .box (q14 t2)), (6, .box [.t (tS Pv.encI e2.Order), .t (tI e2.First)]), (7, .box [.t (tI b2.Inertia), .t (tI b2.Friction), .t (tI b2.Volume), .t (tI b2.Throttle), .t (tI b2.Film), .t (tI b2.Evaporate), .t (tI b2.Delay)]), (8, .box (q15 c)), (9, .box (q23 i)), (10, .box [.t (tI 0), .t (tI 0), .t (tB false), .t (tI 0), .t (.v (.slice none 0 0)), .t (tB false), .t (tB false), .t (tI 0), .t (tI 0), .t (.v (.slice none 0 0)), .t (tI 0), .t (tI 0), .t (tI 0)]), (11, .box [.t (tI 0), .t (.v (.slice none 0 0)), .t (tI 0)]), (46, .box (lset (q10 v9) [(63, .own 2448)])), (2448, .rows 79 7 v9.out.Fires.length (v9.out.Fires.map q12))]⟩) ?_ fun A_0 => ?_
      ·refine TieA.all [8] (by kernel_rfl) rfl (AllA.run _ rfl rfl rfl ?_ ?_)
       ·exact TieA.done (.of rfl rfl)
       exact AllA.nil
      refine TieA.mv 0 rfl (.inl rfl) rfl (by kernel_rfl) rfl (.nP 1 rfl rfl rfl (by kernel_rfl) rfl (.fP 2 rfl rfl rfl (by kernel_rfl) rfl rfl rfl (.mv 4 rfl (.inl rfl) rfl (by kernel_rfl) rfl (.nP 5 rfl rfl rfl (by kernel_rfl) rfl ?_))))
      refine TieA.fP 6 rfl rfl rfl (by kernel_rfl) rfl rfl rfl (.all [3, 7] (by kernel_rfl) rfl (AllA.run _ rfl rfl rfl ?_ ?_))
      ·refine TieA.all [7, 8] (by kernel_rfl) rfl (AllA.runTo _ rfl rfl rfl (.of rfl rfl) A_0 (AllA.run _ rfl rfl rfl ?_ ?_))
       ·refine TieA.all [7] (by kernel_rfl) rfl (AllA.run _ rfl rfl rfl ?_ ?_)
        ·exact TieA.done (.of rfl rfl)
        exact AllA.nil
       exact AllA.nil
      refine AllA.run _ rfl rfl rfl ?_ ?_
      ·exact TieA.all [3] (by kernel_rfl) rfl (AllA.runTo _ rfl rfl rfl (.of rfl rfl) A_0 (AllA.nil))
      exact AllA.nil
     exact TieO.run 2 rfl (.nil (.leaf ⟨rfl, .of rfl rfl⟩))
    rintro s e σ' _ ⟨rfl, hs⟩
    exact TieX.sub hs (TieS.ret ⟨.inl rfl, rfl⟩)
end Go.Proofs.YtalanclpiojanaaGreat
