/- This file joins: Ties, printed by gen.py: each function of the loaded program computes its model. What the arguments are known to be. Printed by law.py. What the arguments of the rows hold. Printed by law.py. Part Xg: loops by invariants, lists. Plain Lean. Part Xk: slices.SortStableFunc, as it computes: that it sorts, and keeps the order of equals. Plain Lean. (The functions are those that gen2.py prints for an instance, with a type in the element's place.) Maps: surface.Valid and its reference answer alike. Plain Lean. Plain Lean: axes, and maps that are valid. Plain Lean: curves that are valid. Plain Lean: tables of the torque that are valid. Plain Lean: the tables of the control that are valid, and what the references say of them. Plain Lean: what arith's quotients are. Plain Lean: what sort.Search finds, whatever the predicate; axes and their segments. Plain Lean: interpolation between nodes, and in maps. Plain Lean: the value of a map. Plain Lean: curves. Plain Lean: the tables of the torque, and the torque. Plain Lean: what air and torque answer for valid tables. The events' functions, as they compute. Plain Lean. Plain Lean: the states of the control. -/
import Derived.Test.YtalanclpiojanaaGreatControlRunsH
import Derived.Test.YtalanclpiojanaaGreatProg
import Derived.KernelRfl
set_option linter.unusedSimpArgs false
set_option linter.unusedVariables false
namespace Go.Proofs.YtalanclpiojanaaGreat
open Go Go.Pv Go.Proofs
set_option maxRecDepth 100000 in
theorem q80 (x : Int) (low : Int) (high : Int) : TieF Tryz.prog 120 [.t (tI x), .t (tI low), .t (tI high)] (q82 x low high) (fun r => .t (tB r)) := by
 refine TieF.intro htab 15 [.tmp 6] Tryz.call120 Tryz.func120 rfl rfl rfl (Nat.le_of_ble_eq_true rfl) fun w0 L => ?_
 refine TieS.seq (.region (.run 1 rfl (.nil (.seq ?_))))
 refine TieS.region (.run 4 rfl (.selAnd (v := decide (x ≤ high)) 4 10 (fun b => ⟨[(14, .t (tB b))], []⟩) rfl ?_ ?_ ?_))
 ·exact TieO.run 4 rfl (.nil (.leaf ⟨rfl, .of rfl rfl⟩))
 ·exact TieO.run 4 rfl (.nil (.leaf ⟨rfl, .of rfl rfl⟩))
 exact TieO.run 1 rfl (.nil (.ret ⟨.inl rfl, rfl⟩))
set_option maxRecDepth 100000 in
theorem q374 (e2 : SEngine) (f2 : SFire) : TieF Tryz.prog 31 [q187 e2, A_SFire f2] (q158 e2 f2) (fun r => .t (tB r)) := by
 refine TieF.intro htab 66 [.tmp 4] Tryz.call31 Tryz.func31 rfl rfl rfl (Nat.le_of_ble_eq_true rfl) fun w0 L => ?_
 refine TieS.seq (.region (.run 3 rfl (.nil (.seq ?_))))
 refine TieS.seq (.region (.run 1 rfl (.call _ rfl rfl rfl (q150 e2) (fun _ => rfl) fun v => .run 2 rfl ?_)))
 refine TieO.bind 7 (fun b2 => ⟨[(3, .ptr 3 0), (15, .t (tB b2))], [(3, .box [.t (tI f2.Cylinder), .t (tI f2.Spark), .t (tI f2.Dwell), .t (tI f2.End), .t (tI f2.Inject), .t (tI f2.Gap), .t (tI f2.Extra)])]⟩) (TieO.split 8 rfl ?_ ?_) fun b2 _ => ?_
 ·exact TieO.run 7 rfl (.nil (.leaf ⟨rfl, .of rfl rfl⟩))
 ·exact TieO.run 4 rfl (.call _ rfl rfl rfl (q182 e2.Order f2.Cylinder) (fun _ => rfl) fun v2 => .run 2 rfl (.nil (.leaf ⟨rfl, .of rfl rfl⟩)))
 refine TieO.run 1 rfl (.bind 5 (fun b3 => ⟨[(3, .ptr 3 0), (21, .t (tB b3))], [(3, .box [.t (tI f2.Cylinder), .t (tI f2.Spark), .t (tI f2.Dwell), .t (tI f2.End), .t (tI f2.Inject), .t (tI f2.Gap), .t (tI f2.Extra)])]⟩) (TieO.split 16 rfl ?_ ?_) fun b3 _ => ?_)
 ·exact TieO.run 5 rfl (.nil (.leaf ⟨rfl, .of rfl rfl⟩))
 ·exact TieO.run 2 rfl (.call _ rfl rfl rfl (q80 f2.Spark (-1280) 3840) (fun _ => rfl) fun v3 => .run 2 rfl (.nil (.leaf ⟨rfl, .of rfl rfl⟩)))
 refine TieO.run 1 rfl (.bind 5 (fun b4 => ⟨[(3, .ptr 3 0), (27, .t (tB b4))], [(3, .box [.t (tI f2.Cylinder), .t (tI f2.Spark), .t (tI f2.Dwell), .t (tI f2.End), .t (tI f2.Inject), .t (tI f2.Gap), .t (tI f2.Extra)])]⟩) (TieO.split 22 rfl ?_ ?_) fun b4 _ => ?_)
 ·exact TieO.run 5 rfl (.nil (.leaf ⟨rfl, .of rfl rfl⟩))
 ·exact TieO.run 2 rfl (.call _ rfl rfl rfl (q80 f2.Dwell 500 10000) (fun _ => rfl) fun v4 => .run 2 rfl (.nil (.leaf ⟨rfl, .of rfl rfl⟩)))
 refine TieO.run 1 rfl (.bind 5 (fun b5 => ⟨[(3, .ptr 3 0), (33, .t (tB b5))], [(3, .box [.t (tI f2.Cylinder), .t (tI f2.Spark), .t (tI f2.Dwell), .t (tI f2.End), .t (tI f2.Inject), .t (tI f2.Gap), .t (tI f2.Extra)])]⟩) (TieO.split 28 rfl ?_ ?_) fun b5 _ => ?_)
 ·exact TieO.run 5 rfl (.nil (.leaf ⟨rfl, .of rfl rfl⟩))
 ·exact TieO.run 2 rfl (.call _ rfl rfl rfl (q80 f2.End 0 23040) (fun _ => rfl) fun v5 => .run 2 rfl (.nil (.leaf ⟨rfl, .of rfl rfl⟩)))
 refine TieO.nil (.cond rfl ?_ ?_)
 ·exact TieS.seq (.region (.run 1 rfl (.nil (.ret ⟨.inl rfl, rfl⟩))))
 ·refine TieS.skip (.seq (.seq (.region (.run 4 rfl ?_))))
  refine TieO.bind 5 (fun b6 => ⟨[(3, .ptr 3 0), (42, .t (tB b6))], [(3, .box [.t (tI f2.Cylinder), .t (tI f2.Spark), .t (tI f2.Dwell), .t (tI f2.End), .t (tI f2.Inject), .t (tI f2.Gap), .t (tI f2.Extra)])]⟩) (TieO.split 37 rfl ?_ ?_) fun b6 _ => ?_
  ·exact TieO.run 2 rfl (.call _ rfl rfl rfl (q80 f2.Inject 200 20000) (fun _ => rfl) fun v6 => .run 2 rfl (.nil (.leaf ⟨rfl, .of rfl rfl⟩)))
  ·exact TieO.run 5 rfl (.nil (.leaf ⟨rfl, .of rfl rfl⟩))
  refine TieO.nil (.cond rfl ?_ ?_)
  ·exact TieS.seq (.region (.run 1 rfl (.nil (.ret ⟨.inl rfl, rfl⟩))))
  ·refine TieS.skip (.seq (.region (.run 4 rfl (.selAnd (v := (f2.Extra == 0)) 4 46 (fun b => ⟨[(3, .ptr 3 0), (50, .t (tB b))], [(3, .box [.t (tI f2.Cylinder), .t (tI f2.Spark), .t (tI f2.Dwell), .t (tI f2.End), .t (tI f2.Inject), .t (tI f2.Gap), .t (tI f2.Extra)])]⟩) rfl ?_ ?_ ?_))))
   ·exact TieO.run 4 rfl (.nil (.leaf ⟨rfl, .of rfl rfl⟩))
   ·exact TieO.run 4 rfl (.nil (.leaf ⟨rfl, .of rfl rfl⟩))
   refine TieO.run 1 rfl (.bind 14 (fun b9 => ⟨[(65, .t (tB b9))], []⟩) (TieO.split 51 rfl ?_ ?_) fun b9 _ => ?_)
   ·exact TieO.run 14 rfl (.nil (.leaf ⟨rfl, .of rfl rfl⟩))
   ·refine TieO.run 4 rfl (.bind 4 (fun b7 => ⟨[(3, .ptr 3 0), (51, .t (tB false)), (59, .t (tB b7))], [(3, .box [.t (tI f2.Cylinder), .t (tI f2.Spark), .t (tI f2.Dwell), .t (tI f2.End), .t (tI f2.Inject), .t (tI f2.Gap), .t (tI f2.Extra)])]⟩) (TieO.split 55 rfl ?_ ?_) fun b7 _ => ?_)
    ·exact TieO.run 2 rfl (.call _ rfl rfl rfl (q80 f2.Gap 200 20000) (fun _ => rfl) fun v7 => .run 1 rfl (.nil (.leaf ⟨rfl, .of rfl rfl⟩)))
    ·exact TieO.run 4 rfl (.nil (.leaf ⟨rfl, .of rfl rfl⟩))
    refine TieO.run 1 rfl (.bind 4 (fun b8 => ⟨[(51, .t (tB false)), (64, .t (tB b8))], []⟩) (TieO.split 60 rfl ?_ ?_) fun b8 _ => ?_)
    ·exact TieO.run 2 rfl (.call _ rfl rfl rfl (q80 f2.Extra 200 20000) (fun _ => rfl) fun v8 => .run 1 rfl (.nil (.leaf ⟨rfl, .of rfl rfl⟩)))
    ·exact TieO.run 4 rfl (.nil (.leaf ⟨rfl, .of rfl rfl⟩))
    exact TieO.run 1 rfl (.nil (.leaf ⟨rfl, .of rfl rfl⟩))
   exact TieO.run 1 rfl (.nil (.ret ⟨.inl rfl, rfl⟩))
set_option maxRecDepth 100000 in
theorem q266 (t2 : STables) (e2 : SEngine) (b2 : SBody) (l : List SInputs) : TieF Tryz.prog 8 [q29 t2, q187 e2, A_SBody b2, .t (tS q22 l)] (q79 t2 e2 b2 l) (fun r => .t (tB r)) := by
 refine TieF.intro htab 154 [.tmp 8] Tryz.call8 Tryz.func8 rfl rfl rfl (Nat.le_of_ble_eq_true rfl) fun w0 L => ?_
 refine TieS.seq (.region (.run 4 rfl (.nil (.seq ?_))))
 refine TieS.seq (.region (.call _ rfl rfl rfl (q353) (fun _ => rfl) fun v => .run 1 rfl (.nil ?_)))
 refine TieS.cond rfl ?_ ?_
 ·exact TieS.seq (.region (.run 1 rfl (.nil (.ret ⟨.inl rfl, rfl⟩))))
 ·refine TieS.skip (.seq (.seq (.region (.run 1 rfl ?_))))
  refine TieO.call _ rfl rfl rfl (q369 t2) (fun _ => rfl) fun v2 => .run 2 rfl (.selOr (v := decide ((e2.Order.length : Int) > 40)) 5 23 (fun b => ⟨[(3, .t (tS q22 l)), (4, .ptr 4 0), (5, .ptr 5 0), (6, .ptr 6 0), (28, .t (tB b))], [(4, .box (q14 t2)), (5, .box [.t (tS Pv.encI e2.Order), .t (tI e2.First)]), (6, .box [.t (tI b2.Inertia), .t (tI b2.Friction), .t (tI b2.Volume), .t (tI b2.Throttle), .t (tI b2.Film), .t (tI b2.Evaporate), .t (tI b2.Delay)])]⟩) rfl ?_ ?_ ?_)
  ·exact TieO.run 5 rfl (.nil (.leaf ⟨rfl, .of rfl rfl⟩))
  ·exact TieO.run 5 rfl (.nil (.leaf ⟨rfl, .of rfl rfl⟩))
  refine TieO.run 1 rfl (.selOr (v := decide ((l.length : Int) > 20)) 4 29 (fun b => ⟨[(3, .t (tS q22 l)), (4, .ptr 4 0), (5, .ptr 5 0), (6, .ptr 6 0), (33, .t (tB b))], [(4, .box (q14 t2)), (5, .box [.t (tS Pv.encI e2.Order), .t (tI e2.First)]), (6, .box [.t (tI b2.Inertia), .t (tI b2.Friction), .t (tI b2.Volume), .t (tI b2.Throttle), .t (tI b2.Film), .t (tI b2.Evaporate), .t (tI b2.Delay)])]⟩) rfl ?_ ?_ ?_)
  ·exact TieO.run 4 rfl (.nil (.leaf ⟨rfl, .of rfl rfl⟩))
  ·exact TieO.run 4 rfl (.nil (.leaf ⟨rfl, .of rfl rfl⟩))
  refine TieO.nil (.cond rfl ?_ ?_)
  ·exact TieS.seq (.region (.run 1 rfl (.nil (.ret ⟨.inl rfl, rfl⟩))))
  ·refine TieS.skip (.seq (.region (.run 1 rfl (.call _ rfl rfl rfl (q339 e2) (fun _ => rfl) fun r2 => ?_))))
   refine TieO.run 6 rfl (.nil (.seq (.seq (.region ?_))))
   refine TieO.run 2 rfl (.nil (.cond rfl ?_ ?_))
   ·refine TieS.seq (.region (.run 3 rfl (.bind 4 (fun b3 => ⟨[(47, .t (tB b3))], []⟩) (TieO.split 43 rfl ?_ ?_) fun b3 _ => ?_)))
    ·exact TieO.run 1 rfl (.call _ rfl rfl rfl (q150 e2) (fun _ => rfl) fun v3 => .run 2 rfl (.nil (.leaf ⟨rfl, .of rfl rfl⟩)))
    ·exact TieO.run 4 rfl (.nil (.leaf ⟨rfl, .of rfl rfl⟩))
    exact TieO.run 1 rfl (.nil (.ret ⟨.inl rfl, rfl⟩))
   ·refine TieS.skip (.seq (.seq (.region (.run 3 rfl ?_))))
    refine TieO.nil (.block (.loop (fun p => ⟨[(4, .ptr 4 0), (5, .ptr 5 0), (6, .ptr 6 0), (9, .ptr 9 0), (48, .t (tS q22 l)), (49, .t (tI (l.length : Int))), (50, .t (tI p.1))], [(4, .box (q14 t2)), (5, .box [.t (tS Pv.encI e2.Order), .t (tI e2.First)]), (6, .box [.t (tI b2.Inertia), .t (tI b2.Friction), .t (tI b2.Volume), .t (tI b2.Throttle), .t (tI b2.Film), .t (tI b2.Evaporate), .t (tI b2.Delay)]), (9, .box (q15 p.2))]⟩) (fun b e σ' => match b with | .inl t => e = .exit 0 ∧ Sub ⟨[], []⟩ σ' | .inr t => e = .ret ∧ retT tab σ' [.tmp 8] = some (((fun r => .t (tB r)) : Bool → T) t)) (.of rfl rfl) ?_ ?_))
    ·rintro ⟨i, f2⟩
     refine TieS.seq (.region (.run 1 rfl (.nil (.seq ?_))))
     refine TieS.cond rfl ?_ ?_
     ·refine TieS.skip (.seq (TieX.pre fun x hx => TieX.sub (σ' := ⟨[(4, .ptr 4 0), (5, .ptr 5 0), (6, .ptr 6 0), (9, .ptr 9 0), (48, .t (tS q22 l)), (49, .t (tI (l.length : Int))), (50, .t (tI i))], [(4, .box (q14 t2)), (5, .box [.t (tS Pv.encI e2.Order), .t (tI e2.First)]), (6, .box [.t (tI b2.Inertia), .t (tI b2.Friction), .t (tI b2.Volume), .t (tI b2.Throttle), .t (tI b2.Film), .t (tI b2.Evaporate), .t (tI b2.Delay)]), (9, .box (q15 f2))]⟩) (.of rfl rfl) (TieS.bind (Q₁ := fun f e σ' => match f with | .next t => e = .normal ∧ Sub ⟨[(4, .ptr 4 0), (5, .ptr 5 0), (6, .ptr 6 0), (9, .ptr 9 0), (48, .t (tS q22 l)), (49, .t (tI (l.length : Int))), (50, .t (tI i))], [(4, .box (q14 t2)), (5, .box [.t (tS Pv.encI e2.Order), .t (tI e2.First)]), (6, .box [.t (tI b2.Inertia), .t (tI b2.Friction), .t (tI b2.Volume), .t (tI b2.Throttle), .t (tI b2.Film), .t (tI b2.Evaporate), .t (tI b2.Delay)]), (9, .box (q15 t))]⟩ σ' | .brk t => e = .exit 0 ∧ Sub ⟨[], []⟩ σ' | .ret t => e = .ret ∧ retT tab σ' [.tmp 8] = some (((fun r => .t (tB r)) : Bool → T) t)) ?_ ?_)))
      ·refine TieS.block (.seq (.region (.indexH hx rfl rfl rfl rfl rfl rfl rfl rfl (fun _ => rfl) (.run 3 rfl ?_))))
       refine TieO.nil (.seq (.seq (.region (.run 5 rfl ?_))))
       refine TieO.selOr (v := decide ((x.Requests.length : Int) > 40)) 5 58 (fun b => ⟨[(4, .ptr 4 0), (5, .ptr 5 0), (6, .ptr 6 0), (9, .ptr 9 0), (12, .ptr 12 0), (48, .t (tS q22 l)), (49, .t (tI (l.length : Int))), (50, .t (tI i)), (63, .t (tB b))], [(4, .box (q14 t2)), (5, .box [.t (tS Pv.encI e2.Order), .t (tI e2.First)]), (6, .box [.t (tI b2.Inertia), .t (tI b2.Friction), .t (tI b2.Volume), .t (tI b2.Throttle), .t (tI b2.Film), .t (tI b2.Evaporate), .t (tI b2.Delay)]), (9, .box (q15 f2)), (12, .box (q23 x))]⟩) rfl ?_ ?_ ?_
       ·exact TieO.run 5 rfl (.nil (.leaf ⟨rfl, .of rfl rfl⟩))
       ·exact TieO.run 5 rfl (.nil (.leaf ⟨rfl, .of rfl rfl⟩))
       refine TieO.nil (.cond rfl ?_ ?_)
       ·exact TieS.seq (.region (.run 1 rfl (.nil (.ret ⟨rfl, rfl⟩))))
       ·refine TieS.skip (.seq (.region (.run 5 rfl (.call _ rfl rfl rfl (q430 t2 e2 b2 f2 x) (fun _ => rfl) fun r3 => ?_))))
        refine TieO.run 9 rfl (.nil (.seq (.seq (.region ?_))))
        refine TieO.run 2 rfl (.nil (.cond rfl ?_ ?_))
        ·refine TieS.seq (.region (.run 3 rfl (.bind 11 (fun b5 => ⟨[(89, .t (tB b5))], []⟩) (TieO.split 78 rfl ?_ ?_) fun b5 _ => ?_)))
         ·exact TieO.run 11 rfl (.nil (.leaf ⟨rfl, .of rfl rfl⟩))
         ·refine TieO.run 3 rfl (.bind 7 (fun b4 => ⟨[(78, .t (tB false)), (88, .t (tB b4))], []⟩) (TieO.split 81 rfl ?_ ?_) fun b4 _ => ?_)
          ·exact TieO.run 4 rfl (.call _ rfl rfl rfl (q302 x (e2.Order.length : Int)) (fun _ => rfl) fun v4 => .run 2 rfl (.nil (.leaf ⟨rfl, .of rfl rfl⟩)))
          ·exact TieO.run 7 rfl (.nil (.leaf ⟨rfl, .of rfl rfl⟩))
          exact TieO.run 1 rfl (.nil (.leaf ⟨rfl, .of rfl rfl⟩))
         exact TieO.run 1 rfl (.nil (.ret ⟨rfl, rfl⟩))
        ·refine TieS.skip (.seq (.seq (.region (.run 2 rfl ?_))))
         refine TieO.call _ rfl rfl rfl (q154 e2 (u11_5 (u11_3 (u11_1 (u11_0 r3.1 (⟨r3.1.Pedal.Value, r3.1.Pedal.Differ, r3.1.Pedal.Fault⟩ : SPedal)) (⟨r3.1.Idle.Sum⟩ : SIntegral)) (⟨r3.1.Probe.Active, r3.1.Probe.Rich, r3.1.Probe.Factor, r3.1.Probe.Wait, r3.1.Probe.Cells⟩ : SProbe)) (⟨r3.1.Grant.Torque, r3.1.Grant.Source⟩ : SGrant))) (fun _ => rfl) fun v5 => .run 2 rfl (.selOr (v := ((r3.2.1.Fires.length : Int) != (e2.Order.length : Int))) 8 94 (fun b => ⟨[(4, .ptr 4 0), (5, .ptr 5 0), (6, .ptr 6 0), (9, .ptr 9 0), (13, .ptr 13 0), (14, .ptr 14 0), (48, .t (tS q22 l)), (49, .t (tI (l.length : Int))), (50, .t (tI i)), (102, .t (tB b))], [(4, .box (q14 t2)), (5, .box [.t (tS Pv.encI e2.Order), .t (tI e2.First)]), (6, .box [.t (tI b2.Inertia), .t (tI b2.Friction), .t (tI b2.Volume), .t (tI b2.Throttle), .t (tI b2.Film), .t (tI b2.Evaporate), .t (tI b2.Delay)]), (9, .box (q15 f2)), (13, .box (q15 r3.1)), (14, .box [.t (tI r3.2.1.Throttle), .t (tS q12 r3.2.1.Fires), .t (tI r3.2.1.Torque)])]⟩) rfl ?_ ?_ ?_)
         ·exact TieO.run 8 rfl (.nil (.leaf ⟨rfl, .of rfl rfl⟩))
         ·exact TieO.run 8 rfl (.nil (.leaf ⟨rfl, .of rfl rfl⟩))
         refine TieO.run 1 rfl (.selOr (v := decide (r3.2.1.Throttle < 0)) 4 103 (fun b => ⟨[(4, .ptr 4 0), (5, .ptr 5 0), (6, .ptr 6 0), (9, .ptr 9 0), (13, .ptr 13 0), (14, .ptr 14 0), (48, .t (tS q22 l)), (49, .t (tI (l.length : Int))), (50, .t (tI i)), (107, .t (tB b))], [(4, .box (q14 t2)), (5, .box [.t (tS Pv.encI e2.Order), .t (tI e2.First)]), (6, .box [.t (tI b2.Inertia), .t (tI b2.Friction), .t (tI b2.Volume), .t (tI b2.Throttle), .t (tI b2.Film), .t (tI b2.Evaporate), .t (tI b2.Delay)]), (9, .box (q15 f2)), (13, .box (q15 r3.1)), (14, .box [.t (tI r3.2.1.Throttle), .t (tS q12 r3.2.1.Fires), .t (tI r3.2.1.Torque)])]⟩) rfl ?_ ?_ ?_)
         ·exact TieO.run 4 rfl (.nil (.leaf ⟨rfl, .of rfl rfl⟩))
         ·exact TieO.run 4 rfl (.nil (.leaf ⟨rfl, .of rfl rfl⟩))
         refine TieO.run 1 rfl (.selOr (v := decide (r3.2.1.Throttle > 1000)) 4 108 (fun b => ⟨[(4, .ptr 4 0), (5, .ptr 5 0), (6, .ptr 6 0), (9, .ptr 9 0), (13, .ptr 13 0), (14, .ptr 14 0), (48, .t (tS q22 l)), (49, .t (tI (l.length : Int))), (50, .t (tI i)), (112, .t (tB b))], [(4, .box (q14 t2)), (5, .box [.t (tS Pv.encI e2.Order), .t (tI e2.First)]), (6, .box [.t (tI b2.Inertia), .t (tI b2.Friction), .t (tI b2.Volume), .t (tI b2.Throttle), .t (tI b2.Film), .t (tI b2.Evaporate), .t (tI b2.Delay)]), (9, .box (q15 f2)), (13, .box (q15 r3.1)), (14, .box [.t (tI r3.2.1.Throttle), .t (tS q12 r3.2.1.Fires), .t (tI r3.2.1.Torque)])]⟩) rfl ?_ ?_ ?_)
         ·exact TieO.run 4 rfl (.nil (.leaf ⟨rfl, .of rfl rfl⟩))
         ·exact TieO.run 4 rfl (.nil (.leaf ⟨rfl, .of rfl rfl⟩))
         refine TieO.run 1 rfl (.selOr (v := decide (r3.2.1.Torque < 0)) 4 113 (fun b => ⟨[(4, .ptr 4 0), (5, .ptr 5 0), (6, .ptr 6 0), (9, .ptr 9 0), (13, .ptr 13 0), (14, .ptr 14 0), (48, .t (tS q22 l)), (49, .t (tI (l.length : Int))), (50, .t (tI i)), (117, .t (tB b))], [(4, .box (q14 t2)), (5, .box [.t (tS Pv.encI e2.Order), .t (tI e2.First)]), (6, .box [.t (tI b2.Inertia), .t (tI b2.Friction), .t (tI b2.Volume), .t (tI b2.Throttle), .t (tI b2.Film), .t (tI b2.Evaporate), .t (tI b2.Delay)]), (9, .box (q15 f2)), (13, .box (q15 r3.1)), (14, .box [.t (tI r3.2.1.Throttle), .t (tS q12 r3.2.1.Fires), .t (tI r3.2.1.Torque)])]⟩) rfl ?_ ?_ ?_)
         ·exact TieO.run 4 rfl (.nil (.leaf ⟨rfl, .of rfl rfl⟩))
         ·exact TieO.run 4 rfl (.nil (.leaf ⟨rfl, .of rfl rfl⟩))
         refine TieO.run 1 rfl (.selOr (v := decide (r3.2.1.Torque > (maxI 0 r3.1.Grant.Torque))) 8 118 (fun b => ⟨[(4, .ptr 4 0), (5, .ptr 5 0), (6, .ptr 6 0), (9, .ptr 9 0), (13, .ptr 13 0), (14, .ptr 14 0), (48, .t (tS q22 l)), (49, .t (tI (l.length : Int))), (50, .t (tI i)), (126, .t (tB b))], [(4, .box (q14 t2)), (5, .box [.t (tS Pv.encI e2.Order), .t (tI e2.First)]), (6, .box [.t (tI b2.Inertia), .t (tI b2.Friction), .t (tI b2.Volume), .t (tI b2.Throttle), .t (tI b2.Film), .t (tI b2.Evaporate), .t (tI b2.Delay)]), (9, .box (q15 f2)), (13, .box (q15 r3.1)), (14, .box [.t (tI r3.2.1.Throttle), .t (tS q12 r3.2.1.Fires), .t (tI r3.2.1.Torque)])]⟩) rfl ?_ ?_ ?_)
         ·exact TieO.run 8 rfl (.nil (.leaf ⟨rfl, .of rfl rfl⟩))
         ·exact TieO.run 8 rfl (.nil (.leaf ⟨rfl, .of rfl rfl⟩))
         refine TieO.nil (.cond rfl ?_ ?_)
         ·exact TieS.seq (.region (.run 1 rfl (.nil (.ret ⟨rfl, rfl⟩))))
         ·refine TieS.skip (.seq (.seq (.region (.run 4 rfl ?_))))
          refine TieO.nil (.block (.loop (fun p => ⟨[(4, .ptr 4 0), (5, .ptr 5 0), (6, .ptr 6 0), (9, .ptr 9 0), (13, .ptr 13 0), (48, .t (tS q22 l)), (49, .t (tI (l.length : Int))), (50, .t (tI i)), (128, .t (tS q12 r3.2.1.Fires)), (129, .t (tI (r3.2.1.Fires.length : Int))), (130, .t (tI p.1))], [(4, .box (q14 t2)), (5, .box [.t (tS Pv.encI e2.Order), .t (tI e2.First)]), (6, .box [.t (tI b2.Inertia), .t (tI b2.Friction), .t (tI b2.Volume), .t (tI b2.Throttle), .t (tI b2.Film), .t (tI b2.Evaporate), .t (tI b2.Delay)]), (9, .box (q15 f2)), (13, .box (q15 r3.1))]⟩) (fun b e σ' => match b with | .inl t => e = .exit 2 ∧ Sub ⟨[(4, .ptr 4 0), (5, .ptr 5 0), (6, .ptr 6 0), (9, .ptr 9 0), (13, .ptr 13 0), (48, .t (tS q22 l)), (49, .t (tI (l.length : Int))), (50, .t (tI i))], [(4, .box (q14 t2)), (5, .box [.t (tS Pv.encI e2.Order), .t (tI e2.First)]), (6, .box [.t (tI b2.Inertia), .t (tI b2.Friction), .t (tI b2.Volume), .t (tI b2.Throttle), .t (tI b2.Film), .t (tI b2.Evaporate), .t (tI b2.Delay)]), (9, .box (q15 f2)), (13, .box (q15 r3.1))]⟩ σ' | .inr t => e = .ret ∧ retT tab σ' [.tmp 8] = some (((fun r => .t (tB r)) : Bool → T) t)) (.of rfl rfl) ?_ ?_))
          ·rintro ⟨i2, s⟩
           refine TieS.seq (.region (.run 1 rfl (.nil (.seq ?_))))
           refine TieS.cond rfl ?_ ?_
           ·refine TieS.skip (.seq (TieX.sub (σ' := ⟨[(4, .ptr 4 0), (5, .ptr 5 0), (6, .ptr 6 0), (9, .ptr 9 0), (13, .ptr 13 0), (48, .t (tS q22 l)), (49, .t (tI (l.length : Int))), (50, .t (tI i)), (128, .t (tS q12 r3.2.1.Fires)), (129, .t (tI (r3.2.1.Fires.length : Int))), (130, .t (tI i2))], [(4, .box (q14 t2)), (5, .box [.t (tS Pv.encI e2.Order), .t (tI e2.First)]), (6, .box [.t (tI b2.Inertia), .t (tI b2.Friction), .t (tI b2.Volume), .t (tI b2.Throttle), .t (tI b2.Film), .t (tI b2.Evaporate), .t (tI b2.Delay)]), (9, .box (q15 f2)), (13, .box (q15 r3.1))]⟩) (.of rfl rfl) (TieS.bind (Q₁ := fun f e σ' => match f with | .next t => e = .normal ∧ Sub ⟨[(4, .ptr 4 0), (5, .ptr 5 0), (6, .ptr 6 0), (9, .ptr 9 0), (13, .ptr 13 0), (48, .t (tS q22 l)), (49, .t (tI (l.length : Int))), (50, .t (tI i)), (128, .t (tS q12 r3.2.1.Fires)), (129, .t (tI (r3.2.1.Fires.length : Int))), (130, .t (tI i2))], [(4, .box (q14 t2)), (5, .box [.t (tS Pv.encI e2.Order), .t (tI e2.First)]), (6, .box [.t (tI b2.Inertia), .t (tI b2.Friction), .t (tI b2.Volume), .t (tI b2.Throttle), .t (tI b2.Film), .t (tI b2.Evaporate), .t (tI b2.Delay)]), (9, .box (q15 f2)), (13, .box (q15 r3.1))]⟩ σ' | .brk t => e = .exit 2 ∧ Sub ⟨[(4, .ptr 4 0), (5, .ptr 5 0), (6, .ptr 6 0), (9, .ptr 9 0), (13, .ptr 13 0), (48, .t (tS q22 l)), (49, .t (tI (l.length : Int))), (50, .t (tI i))], [(4, .box (q14 t2)), (5, .box [.t (tS Pv.encI e2.Order), .t (tI e2.First)]), (6, .box [.t (tI b2.Inertia), .t (tI b2.Friction), .t (tI b2.Volume), .t (tI b2.Throttle), .t (tI b2.Film), .t (tI b2.Evaporate), .t (tI b2.Delay)]), (9, .box (q15 f2)), (13, .box (q15 r3.1))]⟩ σ' | .ret t => e = .ret ∧ retT tab σ' [.tmp 8] = some (((fun r => .t (tB r)) : Bool → T) t)) ?_ ?_)))
            ·refine TieS.block (.seq (.region (.run 1 rfl (.index rfl rfl rfl rfl rfl rfl rfl rfl (fun _ => rfl) fun x2 hx2 => ?_))))
             refine TieO.run 4 rfl (.nil (.seq (.region (.run 6 rfl ?_))))
             refine TieO.bind 5 (fun b6 => ⟨[(4, .ptr 4 0), (5, .ptr 5 0), (6, .ptr 6 0), (9, .ptr 9 0), (13, .ptr 13 0), (17, .ptr 17 0), (48, .t (tS q22 l)), (49, .t (tI (l.length : Int))), (50, .t (tI i)), (128, .t (tS q12 r3.2.1.Fires)), (129, .t (tI (r3.2.1.Fires.length : Int))), (130, .t (tI i2)), (145, .t (tB b6))], [(4, .box (q14 t2)), (5, .box [.t (tS Pv.encI e2.Order), .t (tI e2.First)]), (6, .box [.t (tI b2.Inertia), .t (tI b2.Friction), .t (tI b2.Volume), .t (tI b2.Throttle), .t (tI b2.Film), .t (tI b2.Evaporate), .t (tI b2.Delay)]), (9, .box (q15 f2)), (13, .box (q15 r3.1)), (17, .box [.t (tI x2.Cylinder), .t (tI x2.Spark), .t (tI x2.Dwell), .t (tI x2.End), .t (tI x2.Inject), .t (tI x2.Gap), .t (tI x2.Extra)])]⟩) (TieO.split 140 rfl ?_ ?_) fun b6 _ => ?_
             ·exact TieO.run 5 rfl (.nil (.leaf ⟨rfl, .of rfl rfl⟩))
             ·exact TieO.run 2 rfl (.call _ rfl rfl rfl (q374 e2 x2) (fun _ => rfl) fun v6 => .run 2 rfl (.nil (.leaf ⟨rfl, .of rfl rfl⟩)))
             refine TieO.run 1 rfl (.selOr (v := (x2.Extra != 0)) 4 146 (fun b => ⟨[(4, .ptr 4 0), (5, .ptr 5 0), (6, .ptr 6 0), (9, .ptr 9 0), (13, .ptr 13 0), (48, .t (tS q22 l)), (49, .t (tI (l.length : Int))), (50, .t (tI i)), (128, .t (tS q12 r3.2.1.Fires)), (129, .t (tI (r3.2.1.Fires.length : Int))), (130, .t (tI i2)), (150, .t (tB b))], [(4, .box (q14 t2)), (5, .box [.t (tS Pv.encI e2.Order), .t (tI e2.First)]), (6, .box [.t (tI b2.Inertia), .t (tI b2.Friction), .t (tI b2.Volume), .t (tI b2.Throttle), .t (tI b2.Film), .t (tI b2.Evaporate), .t (tI b2.Delay)]), (9, .box (q15 f2)), (13, .box (q15 r3.1))]⟩) rfl ?_ ?_ ?_)
             ·exact TieO.run 4 rfl (.nil (.leaf ⟨rfl, .of rfl rfl⟩))
             ·exact TieO.run 4 rfl (.nil (.leaf ⟨rfl, .of rfl rfl⟩))
             refine TieO.nil (.cond rfl ?_ ?_)
             ·exact TieS.seq (.region (.run 1 rfl (.nil (.ret ⟨rfl, rfl⟩))))
             ·exact TieS.skip (.endb (.leaf ⟨rfl, .of rfl rfl⟩))
            rintro (t | t | t) e σ' _ hq
            ·obtain ⟨rfl, hs⟩ := hq
             exact TieX.sub hs (TieS.region (.run 2 rfl (.nil (.leaf ⟨rfl, .of rfl rfl⟩))))
            ·obtain ⟨rfl, hs⟩ := hq
             exact TieX.exitOut rfl ⟨(fun h => by cases h), rfl, hs⟩
            ·obtain ⟨rfl, hs⟩ := hq
             exact TieX.ret ⟨(fun h => by cases h), rfl, hs⟩
           ·exact TieS.exitOut rfl ⟨(fun h => by cases h), rfl, .of rfl rfl⟩
          rintro (s2 | r4) e σ' _ hq
          ·obtain ⟨rfl, hs⟩ := hq
           refine TieX.exit rfl (TieX.sub hs ?_)
           exact TieS.region (.run 2 rfl (.nil (.endb (.leaf ⟨rfl, .of rfl rfl⟩))))
          ·obtain ⟨rfl, hs⟩ := hq
           exact TieX.ret ⟨rfl, hs⟩
      rintro (t | t | t) e σ' _ hq
      ·obtain ⟨rfl, hs⟩ := hq
       exact TieX.sub hs (TieS.region (.run 2 rfl (.nil (.leaf ⟨rfl, .of rfl rfl⟩))))
      ·obtain ⟨rfl, hs⟩ := hq
       exact TieX.exitOut rfl ⟨(fun h => by cases h), rfl, hs⟩
      ·obtain ⟨rfl, hs⟩ := hq
       exact TieX.ret ⟨(fun h => by cases h), rfl, hs⟩
     ·exact TieS.exitOut rfl ⟨(fun h => by cases h), rfl, .of rfl rfl⟩
    rintro (f3 | r5) e σ' _ hq
    ·obtain ⟨rfl, hs⟩ := hq
     refine TieX.exit rfl (TieX.sub hs ?_)
     exact TieS.seq (.region (.run 1 rfl (.nil (.ret ⟨.inl rfl, rfl⟩))))
    ·obtain ⟨rfl, hs⟩ := hq
     exact TieX.ret ⟨.inl rfl, hs⟩
end Go.Proofs.YtalanclpiojanaaGreat
namespace Go.Pv
open Go
structure wf_SMap (x : SMap) : Prop where
  X : (wfL (fun n => (Lit.int .i64 n).wf = true)) x.X
  Y : (wfL (fun n => (Lit.int .i64 n).wf = true)) x.Y
  Z : (wfL (wfL (fun n => (Lit.int .i64 n).wf = true))) x.Z
structure wf_SCurve (x : SCurve) : Prop where
  X : (wfL (fun n => (Lit.int .i64 n).wf = true)) x.X
  Y : (wfL (fun n => (Lit.int .i64 n).wf = true)) x.Y
structure wf_SGain (x : SGain) : Prop where
  P : (fun n => (Lit.int .i64 n).wf = true) x.P
  I : (fun n => (Lit.int .i64 n).wf = true) x.I
  Low : (fun n => (Lit.int .i64 n).wf = true) x.Low
  High : (fun n => (Lit.int .i64 n).wf = true) x.High
structure wf_STables (x : STables) : Prop where
  Air : wf_SMap x.Air
  Spark : wf_SMap x.Spark
  Torque : wf_SMap x.Torque
  Wish : wf_SMap x.Wish
  AirTemp : wf_SCurve x.AirTemp
  Dwell : wf_SCurve x.Dwell
  Dead : wf_SCurve x.Dead
  Efficiency : wf_SCurve x.Efficiency
  Idle : wf_SGain x.Idle
structure wf_SEngine (x : SEngine) : Prop where
  Order : (wfL (fun n => (Lit.int .i64 n).wf = true)) x.Order
  First : (fun n => (Lit.int .i64 n).wf = true) x.First
structure wf_SPedal (x : SPedal) : Prop where
  Value : (fun n => (Lit.int .i64 n).wf = true) x.Value
  Differ : (fun n => (Lit.int .i64 n).wf = true) x.Differ
  Fault : (fun _ => True) x.Fault
structure wf_SIntegral (x : SIntegral) : Prop where
  Sum : (fun n => (Lit.int .i64 n).wf = true) x.Sum
structure wf_SKnock (x : SKnock) : Prop where
  Retard : (fun n => (Lit.int .i64 n).wf = true) x.Retard
  Noise : (fun n => (Lit.int .i64 n).wf = true) x.Noise
  Quiet : (fun n => (Lit.int .i64 n).wf = true) x.Quiet
structure wf_SCell (x : SCell) : Prop where
  Value : (fun n => (Lit.int .i64 n).wf = true) x.Value
  Count : (fun n => (Lit.int .i64 n).wf = true) x.Count
structure wf_SProbe (x : SProbe) : Prop where
  Active : (fun _ => True) x.Active
  Rich : (fun _ => True) x.Rich
  Factor : (fun n => (Lit.int .i64 n).wf = true) x.Factor
  Wait : (fun n => (Lit.int .i64 n).wf = true) x.Wait
  Cells : (wfL wf_SCell) x.Cells
structure wf_SGrant (x : SGrant) : Prop where
  Torque : (fun n => (Lit.int .i64 n).wf = true) x.Torque
  Source : (fun n => (Lit.int .i64 n).wf = true) x.Source
structure wf_SControls (x : SControls) : Prop where
  Pedal : wf_SPedal x.Pedal
  Idle : wf_SIntegral x.Idle
  Knock : (wfL wf_SKnock) x.Knock
  Probe : wf_SProbe x.Probe
  Film : (fun n => (Lit.int .i64 n).wf = true) x.Film
  Grant : wf_SGrant x.Grant
structure wf_SRequest (x : SRequest) : Prop where
  Source : (fun n => (Lit.int .i64 n).wf = true) x.Source
  Kind : (fun n => (Lit.int .i64 n).wf = true) x.Kind
  Torque : (fun n => (Lit.int .i64 n).wf = true) x.Torque
  Priority : (fun n => (Lit.int .i64 n).wf = true) x.Priority
structure wf_SInputs (x : SInputs) : Prop where
  Pedal1 : (fun n => (Lit.int .i64 n).wf = true) x.Pedal1
  Pedal2 : (fun n => (Lit.int .i64 n).wf = true) x.Pedal2
  Speed : (fun n => (Lit.int .i64 n).wf = true) x.Speed
  Pressure : (fun n => (Lit.int .i64 n).wf = true) x.Pressure
  AirTemp : (fun n => (Lit.int .i64 n).wf = true) x.AirTemp
  Voltage : (fun n => (Lit.int .i64 n).wf = true) x.Voltage
  Lambda : (fun n => (Lit.int .i64 n).wf = true) x.Lambda
  Coolant : (fun n => (Lit.int .i64 n).wf = true) x.Coolant
  Intensity : (wfL (fun n => (Lit.int .i64 n).wf = true)) x.Intensity
  Requests : (wfL wf_SRequest) x.Requests
structure wf_SBody (x : SBody) : Prop where
  Inertia : (fun n => (Lit.int .i64 n).wf = true) x.Inertia
  Friction : (fun n => (Lit.int .i64 n).wf = true) x.Friction
  Volume : (fun n => (Lit.int .i64 n).wf = true) x.Volume
  Throttle : (fun n => (Lit.int .i64 n).wf = true) x.Throttle
  Film : (fun n => (Lit.int .i64 n).wf = true) x.Film
  Evaporate : (fun n => (Lit.int .i64 n).wf = true) x.Evaporate
  Delay : (fun n => (Lit.int .i64 n).wf = true) x.Delay
end Go.Pv
namespace Go.Proofs.YtalanclpiojanaaGreat
open Go Go.Pv Go.Proofs
theorem reads_3 : Reads Tryz.prog 3 Pv.encI (fun n => (Lit.int .i64 n).wf = true) := reads_int Tryz.underlying3 (fun _ => rfl)
theorem reads_22 : Reads Tryz.prog 22 (Pv.encS Pv.encI) (wfL (fun n => (Lit.int .i64 n).wf = true)) := reads_slice (sz := 1) Tryz.underlying22 reads_3 (by kernel_rfl) (by decide) (fun _ => rfl)
theorem reads_23 : Reads Tryz.prog 23 (Pv.encS (Pv.encS Pv.encI)) (wfL (wfL (fun n => (Lit.int .i64 n).wf = true))) := reads_slice (sz := 1) Tryz.underlying23 reads_22 (by kernel_rfl) (by decide) (fun _ => rfl)
theorem reads_25 : Reads Tryz.prog 25 q78 wf_SMap := by
  intro H e w fuel cs x h
  obtain ⟨xs, n, _, rfl, hl, hlen, hf⟩ := DataW.trod_struct Tryz.underlying25 h
  obtain ⟨y0, w0, r0⟩ := field_of hlen hf 0 rfl reads_22
  obtain ⟨y1, w1, r1⟩ := field_of hlen hf 1 rfl reads_22
  obtain ⟨y2, w2, r2⟩ := field_of hlen hf 2 rfl reads_23
  exact ⟨⟨y0, y1, y2⟩, ⟨w0, w1, w2⟩, rtl_cons (o := 0) (o' := 1) r0 (by kernel_rfl) (rtl_cons (o := 1) (o' := 2) r1 (by kernel_rfl) (rtl_cons (o := 2) (o' := 3) r2 (by kernel_rfl) (rtl_nil (hl.trans (by kernel_rfl)))))⟩
theorem reads_27 : Reads Tryz.prog 27 q60 wf_SCurve := by
  intro H e w fuel cs x h
  obtain ⟨xs, n, _, rfl, hl, hlen, hf⟩ := DataW.trod_struct Tryz.underlying27 h
  obtain ⟨y0, w0, r0⟩ := field_of hlen hf 0 rfl reads_22
  obtain ⟨y1, w1, r1⟩ := field_of hlen hf 1 rfl reads_22
  exact ⟨⟨y0, y1⟩, ⟨w0, w1⟩, rtl_cons (o := 0) (o' := 1) r0 (by kernel_rfl) (rtl_cons (o := 1) (o' := 2) r1 (by kernel_rfl) (rtl_nil (hl.trans (by kernel_rfl))))⟩
theorem reads_29 : Reads Tryz.prog 29 q531 wf_SGain := by
  intro H e w fuel cs x h
  obtain ⟨xs, n, _, rfl, hl, hlen, hf⟩ := DataW.trod_struct Tryz.underlying29 h
  obtain ⟨y0, w0, r0⟩ := field_of hlen hf 0 rfl reads_3
  obtain ⟨y1, w1, r1⟩ := field_of hlen hf 1 rfl reads_3
  obtain ⟨y2, w2, r2⟩ := field_of hlen hf 2 rfl reads_3
  obtain ⟨y3, w3, r3⟩ := field_of hlen hf 3 rfl reads_3
  exact ⟨⟨y0, y1, y2, y3⟩, ⟨w0, w1, w2, w3⟩, rtl_cons (o := 0) (o' := 1) r0 (by kernel_rfl) (rtl_cons (o := 1) (o' := 2) r1 (by kernel_rfl) (rtl_cons (o := 2) (o' := 3) r2 (by kernel_rfl) (rtl_cons (o := 3) (o' := 4) r3 (by kernel_rfl) (rtl_nil (hl.trans (by kernel_rfl))))))⟩
theorem reads_31 : Reads Tryz.prog 31 q28 wf_STables := by
  intro H e w fuel cs x h
  obtain ⟨xs, n, _, rfl, hl, hlen, hf⟩ := DataW.trod_struct Tryz.underlying31 h
  obtain ⟨y0, w0, r0⟩ := field_of hlen hf 0 rfl reads_25
  obtain ⟨y1, w1, r1⟩ := field_of hlen hf 1 rfl reads_25
  obtain ⟨y2, w2, r2⟩ := field_of hlen hf 2 rfl reads_25
  obtain ⟨y3, w3, r3⟩ := field_of hlen hf 3 rfl reads_25
  obtain ⟨y4, w4, r4⟩ := field_of hlen hf 4 rfl reads_27
  obtain ⟨y5, w5, r5⟩ := field_of hlen hf 5 rfl reads_27
  obtain ⟨y6, w6, r6⟩ := field_of hlen hf 6 rfl reads_27
  obtain ⟨y7, w7, r7⟩ := field_of hlen hf 7 rfl reads_27
  obtain ⟨y8, w8, r8⟩ := field_of hlen hf 8 rfl reads_29
  exact ⟨⟨y0, y1, y2, y3, y4, y5, y6, y7, y8⟩, ⟨w0, w1, w2, w3, w4, w5, w6, w7, w8⟩, rtl_cons (o := 0) (o' := 3) r0 (by kernel_rfl) (rtl_cons (o := 3) (o' := 6) r1 (by kernel_rfl) (rtl_cons (o := 6) (o' := 9) r2 (by kernel_rfl) (rtl_cons (o := 9) (o' := 12) r3 (by kernel_rfl) (rtl_cons (o := 12) (o' := 14) r4 (by kernel_rfl) (rtl_cons (o := 14) (o' := 16) r5 (by kernel_rfl) (rtl_cons (o := 16) (o' := 18) r6 (by kernel_rfl) (rtl_cons (o := 18) (o' := 20) r7 (by kernel_rfl) (rtl_cons (o := 20) (o' := 24) r8 (by kernel_rfl) (rtl_nil (hl.trans (by kernel_rfl)))))))))))⟩
theorem arg_31 : ArgOk Tryz.prog 31 (fun x => q29 x) wf_STables := arg_struct Tryz.underlying31 reads_31 (fun _ => rfl)
theorem reads_33 : Reads Tryz.prog 33 q508 wf_SEngine := by
  intro H e w fuel cs x h
  obtain ⟨xs, n, _, rfl, hl, hlen, hf⟩ := DataW.trod_struct Tryz.underlying33 h
  obtain ⟨y0, w0, r0⟩ := field_of hlen hf 0 rfl reads_22
  obtain ⟨y1, w1, r1⟩ := field_of hlen hf 1 rfl reads_3
  exact ⟨⟨y0, y1⟩, ⟨w0, w1⟩, rtl_cons (o := 0) (o' := 1) r0 (by kernel_rfl) (rtl_cons (o := 1) (o' := 2) r1 (by kernel_rfl) (rtl_nil (hl.trans (by kernel_rfl))))⟩
theorem arg_33 : ArgOk Tryz.prog 33 (fun x => q187 x) wf_SEngine := arg_struct Tryz.underlying33 reads_33 (fun _ => rfl)
theorem reads_4 : Reads Tryz.prog 4 Pv.encB (fun _ => True) := reads_bool Tryz.underlying4 (fun _ => rfl)
theorem reads_35 : Reads Tryz.prog 35 q516 wf_SPedal := by
  intro H e w fuel cs x h
  obtain ⟨xs, n, _, rfl, hl, hlen, hf⟩ := DataW.trod_struct Tryz.underlying35 h
  obtain ⟨y0, w0, r0⟩ := field_of hlen hf 0 rfl reads_3
  obtain ⟨y1, w1, r1⟩ := field_of hlen hf 1 rfl reads_3
  obtain ⟨y2, w2, r2⟩ := field_of hlen hf 2 rfl reads_4
  exact ⟨⟨y0, y1, y2⟩, ⟨w0, w1, w2⟩, rtl_cons (o := 0) (o' := 1) r0 (by kernel_rfl) (rtl_cons (o := 1) (o' := 2) r1 (by kernel_rfl) (rtl_cons (o := 2) (o' := 3) r2 (by kernel_rfl) (rtl_nil (hl.trans (by kernel_rfl)))))⟩
theorem reads_37 : Reads Tryz.prog 37 q489 wf_SIntegral := by
  intro H e w fuel cs x h
  obtain ⟨xs, n, _, rfl, hl, hlen, hf⟩ := DataW.trod_struct Tryz.underlying37 h
  obtain ⟨y0, w0, r0⟩ := field_of hlen hf 0 rfl reads_3
  exact ⟨⟨y0⟩, ⟨w0⟩, rtl_cons (o := 0) (o' := 1) r0 (by kernel_rfl) (rtl_nil (hl.trans (by kernel_rfl)))⟩
theorem reads_95 : Reads Tryz.prog 95 q13 wf_SKnock := by
  intro H e w fuel cs x h
  obtain ⟨xs, n, _, rfl, hl, hlen, hf⟩ := DataW.trod_struct Tryz.underlying95 h
  obtain ⟨y0, w0, r0⟩ := field_of hlen hf 0 rfl reads_3
  obtain ⟨y1, w1, r1⟩ := field_of hlen hf 1 rfl reads_3
  obtain ⟨y2, w2, r2⟩ := field_of hlen hf 2 rfl reads_3
  exact ⟨⟨y0, y1, y2⟩, ⟨w0, w1, w2⟩, rtl_cons (o := 0) (o' := 1) r0 (by kernel_rfl) (rtl_cons (o := 1) (o' := 2) r1 (by kernel_rfl) (rtl_cons (o := 2) (o' := 3) r2 (by kernel_rfl) (rtl_nil (hl.trans (by kernel_rfl)))))⟩
theorem reads_38 : Reads Tryz.prog 38 (Pv.encS q13) (wfL wf_SKnock) := reads_slice (sz := 3) Tryz.underlying38 reads_95 (by kernel_rfl) (by decide) (fun _ => rfl)
theorem reads_105 : Reads Tryz.prog 105 q16 wf_SCell := by
  intro H e w fuel cs x h
  obtain ⟨xs, n, _, rfl, hl, hlen, hf⟩ := DataW.trod_struct Tryz.underlying105 h
  obtain ⟨y0, w0, r0⟩ := field_of hlen hf 0 rfl reads_3
  obtain ⟨y1, w1, r1⟩ := field_of hlen hf 1 rfl reads_3
  exact ⟨⟨y0, y1⟩, ⟨w0, w1⟩, rtl_cons (o := 0) (o' := 1) r0 (by kernel_rfl) (rtl_cons (o := 1) (o' := 2) r1 (by kernel_rfl) (rtl_nil (hl.trans (by kernel_rfl))))⟩
theorem reads_39 : Reads Tryz.prog 39 (Pv.encS q16) (wfL wf_SCell) := reads_slice (sz := 2) Tryz.underlying39 reads_105 (by kernel_rfl) (by decide) (fun _ => rfl)
theorem reads_41 : Reads Tryz.prog 41 q518 wf_SProbe := by
  intro H e w fuel cs x h
  obtain ⟨xs, n, _, rfl, hl, hlen, hf⟩ := DataW.trod_struct Tryz.underlying41 h
  obtain ⟨y0, w0, r0⟩ := field_of hlen hf 0 rfl reads_4
  obtain ⟨y1, w1, r1⟩ := field_of hlen hf 1 rfl reads_4
  obtain ⟨y2, w2, r2⟩ := field_of hlen hf 2 rfl reads_3
  obtain ⟨y3, w3, r3⟩ := field_of hlen hf 3 rfl reads_3
  obtain ⟨y4, w4, r4⟩ := field_of hlen hf 4 rfl reads_39
  exact ⟨⟨y0, y1, y2, y3, y4⟩, ⟨w0, w1, w2, w3, w4⟩, rtl_cons (o := 0) (o' := 1) r0 (by kernel_rfl) (rtl_cons (o := 1) (o' := 2) r1 (by kernel_rfl) (rtl_cons (o := 2) (o' := 3) r2 (by kernel_rfl) (rtl_cons (o := 3) (o' := 4) r3 (by kernel_rfl) (rtl_cons (o := 4) (o' := 5) r4 (by kernel_rfl) (rtl_nil (hl.trans (by kernel_rfl)))))))⟩
theorem reads_43 : Reads Tryz.prog 43 q521 wf_SGrant := by
  intro H e w fuel cs x h
  obtain ⟨xs, n, _, rfl, hl, hlen, hf⟩ := DataW.trod_struct Tryz.underlying43 h
  obtain ⟨y0, w0, r0⟩ := field_of hlen hf 0 rfl reads_3
  obtain ⟨y1, w1, r1⟩ := field_of hlen hf 1 rfl reads_3
  exact ⟨⟨y0, y1⟩, ⟨w0, w1⟩, rtl_cons (o := 0) (o' := 1) r0 (by kernel_rfl) (rtl_cons (o := 1) (o' := 2) r1 (by kernel_rfl) (rtl_nil (hl.trans (by kernel_rfl))))⟩
theorem reads_45 : Reads Tryz.prog 45 q487 wf_SControls := by
  intro H e w fuel cs x h
  obtain ⟨xs, n, _, rfl, hl, hlen, hf⟩ := DataW.trod_struct Tryz.underlying45 h
  obtain ⟨y0, w0, r0⟩ := field_of hlen hf 0 rfl reads_35
  obtain ⟨y1, w1, r1⟩ := field_of hlen hf 1 rfl reads_37
  obtain ⟨y2, w2, r2⟩ := field_of hlen hf 2 rfl reads_38
  obtain ⟨y3, w3, r3⟩ := field_of hlen hf 3 rfl reads_41
  obtain ⟨y4, w4, r4⟩ := field_of hlen hf 4 rfl reads_3
  obtain ⟨y5, w5, r5⟩ := field_of hlen hf 5 rfl reads_43
  exact ⟨⟨y0, y1, y2, y3, y4, y5⟩, ⟨w0, w1, w2, w3, w4, w5⟩, rtl_cons (o := 0) (o' := 3) r0 (by kernel_rfl) (rtl_cons (o := 3) (o' := 4) r1 (by kernel_rfl) (rtl_cons (o := 4) (o' := 5) r2 (by kernel_rfl) (rtl_cons (o := 5) (o' := 10) r3 (by kernel_rfl) (rtl_cons (o := 10) (o' := 11) r4 (by kernel_rfl) (rtl_cons (o := 11) (o' := 13) r5 (by kernel_rfl) (rtl_nil (hl.trans (by kernel_rfl))))))))⟩
theorem arg_45 : ArgOk Tryz.prog 45 (fun x => q216 x) wf_SControls := arg_struct Tryz.underlying45 reads_45 (fun _ => rfl)
theorem reads_73 : Reads Tryz.prog 73 q11 wf_SRequest := by
  intro H e w fuel cs x h
  obtain ⟨xs, n, _, rfl, hl, hlen, hf⟩ := DataW.trod_struct Tryz.underlying73 h
  obtain ⟨y0, w0, r0⟩ := field_of hlen hf 0 rfl reads_3
  obtain ⟨y1, w1, r1⟩ := field_of hlen hf 1 rfl reads_3
  obtain ⟨y2, w2, r2⟩ := field_of hlen hf 2 rfl reads_3
  obtain ⟨y3, w3, r3⟩ := field_of hlen hf 3 rfl reads_3
  exact ⟨⟨y0, y1, y2, y3⟩, ⟨w0, w1, w2, w3⟩, rtl_cons (o := 0) (o' := 1) r0 (by kernel_rfl) (rtl_cons (o := 1) (o' := 2) r1 (by kernel_rfl) (rtl_cons (o := 2) (o' := 3) r2 (by kernel_rfl) (rtl_cons (o := 3) (o' := 4) r3 (by kernel_rfl) (rtl_nil (hl.trans (by kernel_rfl))))))⟩
theorem reads_46 : Reads Tryz.prog 46 (Pv.encS q11) (wfL wf_SRequest) := reads_slice (sz := 4) Tryz.underlying46 reads_73 (by kernel_rfl) (by decide) (fun _ => rfl)
theorem reads_48 : Reads Tryz.prog 48 q22 wf_SInputs := by
  intro H e w fuel cs x h
  obtain ⟨xs, n, _, rfl, hl, hlen, hf⟩ := DataW.trod_struct Tryz.underlying48 h
  obtain ⟨y0, w0, r0⟩ := field_of hlen hf 0 rfl reads_3
  obtain ⟨y1, w1, r1⟩ := field_of hlen hf 1 rfl reads_3
  obtain ⟨y2, w2, r2⟩ := field_of hlen hf 2 rfl reads_3
  obtain ⟨y3, w3, r3⟩ := field_of hlen hf 3 rfl reads_3
  obtain ⟨y4, w4, r4⟩ := field_of hlen hf 4 rfl reads_3
  obtain ⟨y5, w5, r5⟩ := field_of hlen hf 5 rfl reads_3
  obtain ⟨y6, w6, r6⟩ := field_of hlen hf 6 rfl reads_3
  obtain ⟨y7, w7, r7⟩ := field_of hlen hf 7 rfl reads_3
  obtain ⟨y8, w8, r8⟩ := field_of hlen hf 8 rfl reads_22
  obtain ⟨y9, w9, r9⟩ := field_of hlen hf 9 rfl reads_46
  exact ⟨⟨y0, y1, y2, y3, y4, y5, y6, y7, y8, y9⟩, ⟨w0, w1, w2, w3, w4, w5, w6, w7, w8, w9⟩, rtl_cons (o := 0) (o' := 1) r0 (by kernel_rfl) (rtl_cons (o := 1) (o' := 2) r1 (by kernel_rfl) (rtl_cons (o := 2) (o' := 3) r2 (by kernel_rfl) (rtl_cons (o := 3) (o' := 4) r3 (by kernel_rfl) (rtl_cons (o := 4) (o' := 5) r4 (by kernel_rfl) (rtl_cons (o := 5) (o' := 6) r5 (by kernel_rfl) (rtl_cons (o := 6) (o' := 7) r6 (by kernel_rfl) (rtl_cons (o := 7) (o' := 8) r7 (by kernel_rfl) (rtl_cons (o := 8) (o' := 9) r8 (by kernel_rfl) (rtl_cons (o := 9) (o' := 10) r9 (by kernel_rfl) (rtl_nil (hl.trans (by kernel_rfl))))))))))))⟩
theorem arg_48 : ArgOk Tryz.prog 48 (fun x => q395 x) wf_SInputs := arg_struct Tryz.underlying48 reads_48 (fun _ => rfl)
theorem arg_3 : ArgOk Tryz.prog 3 (fun x => .t (tI x)) (fun n => (Lit.int .i64 n).wf = true) := arg_int Tryz.underlying3 reads_3 (fun _ => rfl) (fun _ => rfl)
theorem reads_62 : Reads Tryz.prog 62 q126 wf_SBody := by
  intro H e w fuel cs x h
  obtain ⟨xs, n, _, rfl, hl, hlen, hf⟩ := DataW.trod_struct Tryz.underlying62 h
  obtain ⟨y0, w0, r0⟩ := field_of hlen hf 0 rfl reads_3
  obtain ⟨y1, w1, r1⟩ := field_of hlen hf 1 rfl reads_3
  obtain ⟨y2, w2, r2⟩ := field_of hlen hf 2 rfl reads_3
  obtain ⟨y3, w3, r3⟩ := field_of hlen hf 3 rfl reads_3
  obtain ⟨y4, w4, r4⟩ := field_of hlen hf 4 rfl reads_3
  obtain ⟨y5, w5, r5⟩ := field_of hlen hf 5 rfl reads_3
  obtain ⟨y6, w6, r6⟩ := field_of hlen hf 6 rfl reads_3
  exact ⟨⟨y0, y1, y2, y3, y4, y5, y6⟩, ⟨w0, w1, w2, w3, w4, w5, w6⟩, rtl_cons (o := 0) (o' := 1) r0 (by kernel_rfl) (rtl_cons (o := 1) (o' := 2) r1 (by kernel_rfl) (rtl_cons (o := 2) (o' := 3) r2 (by kernel_rfl) (rtl_cons (o := 3) (o' := 4) r3 (by kernel_rfl) (rtl_cons (o := 4) (o' := 5) r4 (by kernel_rfl) (rtl_cons (o := 5) (o' := 6) r5 (by kernel_rfl) (rtl_cons (o := 6) (o' := 7) r6 (by kernel_rfl) (rtl_nil (hl.trans (by kernel_rfl)))))))))⟩
theorem arg_62 : ArgOk Tryz.prog 62 (fun x => A_SBody x) wf_SBody := arg_struct Tryz.underlying62 reads_62 (fun _ => rfl)
theorem reads_85 : Reads Tryz.prog 85 (Pv.encS q22) (wfL wf_SInputs) := reads_slice (sz := 10) Tryz.underlying85 reads_48 (by kernel_rfl) (by decide) (fun _ => rfl)
theorem arg_85 : ArgOk Tryz.prog 85 (fun x => .t (tS q22 x)) (wfL wf_SInputs) := arg_slice Tryz.underlying85 reads_85 (fun _ => rfl)
end Go.Proofs.YtalanclpiojanaaGreat
namespace Go.Pv
open Go.RowKit
theorem stepsN_inv {S R : Type} (f : Int → S → Option (Fl S R)) (I : Nat → S → Prop) : ∀ (k i : Nat) (s : S), I i s → (∀ j, i ≤ j → j < i + k → ∀ s, I j s → ∃ s', f (j : Int) s = some (.next s') ∧ I (j + 1) s') → ∃ s', stepsN f k (i : Int) s = some (.inl s') ∧ I (i + k) s'
  | 0, i, s, h, _ => ⟨s, rfl, h⟩
  | k + 1, i, s, h, st => by
    obtain ⟨s1, h1, h2⟩ := st i (Nat.le_refl _) (by omega) s h
    obtain ⟨s2, h3, h4⟩ := stepsN_inv f I k (i + 1) s1 h2 (fun j a b => st j (by omega) (by omega))
    refine ⟨s2, ?_, by rw [show i + (k + 1) = i + 1 + k by omega]; exact h4⟩
    simp only [stepsN, h1, Option.bind_some]
    exact h3
theorem rangeN_inv {S R : Type} (n : Nat) (hn : n ≤ 9223372036854775807) (f : Int → S → Option (Fl S R)) (I : Nat → S → Prop) (s : S) (h : I 0 s) (st : ∀ j, j < n → ∀ s, I j s → ∃ s', f (j : Int) s = some (.next s') ∧ I (j + 1) s') : ∃ s', rangeN (n : Int) f s = some (.inl s') ∧ I n s' := by
  obtain ⟨s', h1, h2⟩ := stepsN_inv f I n 0 s h (fun j _ b => st j (by omega))
  refine ⟨s', ?_, by simpa using h2⟩
  rw [rangeN_steps _ hn]
  exact h1
theorem setM_nat {α : Type} (l : List α) (i : Nat) (y : α) (h : i < l.length) : setM l (i : Int) y = some (l.set i y) := by
  unfold setM; rw [if_pos ⟨by omega, by omega⟩]; rfl
theorem getI_get {α : Type} (l : List α) (i : Nat) (h : i < l.length) : getI l (i : Int) = some l[i] := by rw [getI_nat, List.getElem?_eq_getElem h]
theorem makeM_nat {α : Type} (n : Nat) (h : n ≤ 1073741824) (z : α) : makeM (n : Int) z = some (List.replicate n z) := by
  unfold makeM; rw [if_pos ⟨by omega, by omega⟩]; rfl
theorem appendM_ok {α : Type} (l r : List α) (h : l.length + r.length ≤ 1073741824) : appendM l r = some (l ++ r) := by
  unfold appendM; rw [if_pos h]
end Go.Pv
set_option linter.unusedSimpArgs false
namespace Go.Pv
open Go
noncomputable def g_insertionSortCmpFunc_b2 {α : Type} (a : Int) (cmp : α → α → Option Int) (s2 : Int × List α) : Option ((Int × List α) ⊕ ((Int × List α) ⊕ Empty)) :=
  Option.bind (bif (decide (s2.1 > a)) then (Option.bind (getI s2.2 s2.1) fun x => Option.bind (getI s2.2 (w64 (s2.1 - 1))) fun x2 => Option.bind (cmp x x2) fun v => some (decide (v < 0))) else (some false)) fun (v2 : Bool) => bif v2 then (Option.bind (Option.bind (getI s2.2 (w64 (s2.1 - 1))) fun x3 => Option.bind (getI s2.2 s2.1) fun x4 => Option.bind (setM s2.2 s2.1 x3) fun l => Option.bind (getI l (w64 (s2.1 - 1))) fun _ => Option.bind (setM l (w64 (s2.1 - 1)) x4) fun l2 => some l2) fun (f2 : List α) => some (.inl (w64 (s2.1 - 1), f2))) else (some (.inr (.inl (s2.1, s2.2))))
noncomputable def g_insertionSortCmpFunc_b1 {α : Type} (a : Int) (b2 : Int) (cmp : α → α → Option Int) (s : Int × List α) : Option ((Int × List α) ⊕ ((Int × List α) ⊕ Empty)) :=
  bif (decide (s.1 < b2)) then (Option.bind (loopM (g_insertionSortCmpFunc_b2 a cmp) (s.1, s.2)) fun (t : (Int × List α) ⊕ Empty) => match t with | .inl s3 => (some (.inl (w64 (s.1 + 1), s3.2))) | .inr r => r.elim) else (some (.inr (.inl (s.1, s.2))))
noncomputable def g_insertionSortCmpFunc {α : Type} (data : List α) (a : Int) (b2 : Int) (cmp : α → α → Option Int) : Option (List α) :=
  Option.bind (loopM (g_insertionSortCmpFunc_b1 a b2 cmp) (w64 (a + 1), data)) fun (t : (Int × List α) ⊕ Empty) => match t with | .inl s4 => (some s4.2) | .inr r => r.elim
noncomputable def g_swapRangeCmpFunc_b1 {α : Type} (a : Int) (b2 : Int) (n2 : Int) (s : Int × List α) : Option ((Int × List α) ⊕ ((Int × List α) ⊕ Empty)) :=
  bif (decide (s.1 < n2)) then (Option.bind (Option.bind (getI s.2 (w64 (b2 + s.1))) fun x => Option.bind (getI s.2 (w64 (a + s.1))) fun x2 => Option.bind (setM s.2 (w64 (a + s.1)) x) fun l => Option.bind (getI l (w64 (b2 + s.1))) fun _ => Option.bind (setM l (w64 (b2 + s.1)) x2) fun l2 => some l2) fun (f2 : List α) => some (.inl (w64 (s.1 + 1), f2))) else (some (.inr (.inl (s.1, s.2))))
noncomputable def g_swapRangeCmpFunc {α : Type} (data : List α) (a : Int) (b2 : Int) (n2 : Int) (_ : α → α → Option Int) : Option (List α) :=
  Option.bind (loopM (g_swapRangeCmpFunc_b1 a b2 n2) (0, data)) fun (t : (Int × List α) ⊕ Empty) => match t with | .inl s2 => (some s2.2) | .inr r => r.elim
noncomputable def g_rotateCmpFunc_b1 {α : Type} (m2 : Int) (cmp : α → α → Option Int) (s : Int × Int × List α) : Option ((Int × Int × List α) ⊕ ((Int × Int × List α) ⊕ Empty)) :=
  bif (s.1 != s.2.1) then (bif (decide (s.1 > s.2.1)) then (Option.bind (g_swapRangeCmpFunc s.2.2 (w64 (m2 - s.1)) m2 s.2.1 cmp) fun v => some (.inl (w64 (s.1 - s.2.1), s.2.1, v))) else (Option.bind (g_swapRangeCmpFunc s.2.2 (w64 (m2 - s.1)) (w64 ((w64 (m2 + s.2.1)) - s.1)) s.1 cmp) fun v2 => some (.inl (s.1, w64 (s.2.1 - s.1), v2)))) else (some (.inr (.inl (s.1, s.2.1, s.2.2))))
noncomputable def g_rotateCmpFunc {α : Type} (data : List α) (a : Int) (m2 : Int) (b2 : Int) (cmp : α → α → Option Int) : Option (List α) :=
  Option.bind (loopM (g_rotateCmpFunc_b1 m2 cmp) (w64 (m2 - a), w64 (b2 - m2), data)) fun (t : (Int × Int × List α) ⊕ Empty) => match t with | .inl s2 => (Option.bind (g_swapRangeCmpFunc s2.2.2 (w64 (m2 - s2.1)) m2 s2.1 cmp) fun v3 => some v3) | .inr r => r.elim
noncomputable def g_symMergeCmpFunc_b1 {α : Type} (data : List α) (a : Int) (cmp : α → α → Option Int) (s : Int × Int) : Option ((Int × Int) ⊕ ((Int × Int) ⊕ Empty)) :=
  bif (decide (s.1 < s.2)) then (Option.bind (getI data (w64 (bitShr .u64 (IntKind.u64.wrap (w64 (s.1 + s.2))) 1))) fun x => Option.bind (getI data a) fun x2 => Option.bind (cmp x x2) fun v => bif (decide (v < 0)) then (some (.inl (w64 ((w64 (bitShr .u64 (IntKind.u64.wrap (w64 (s.1 + s.2))) 1)) + 1), s.2))) else (some (.inl (s.1, w64 (bitShr .u64 (IntKind.u64.wrap (w64 (s.1 + s.2))) 1))))) else (some (.inr (.inl (s.1, s.2))))
noncomputable def g_symMergeCmpFunc_b2 {α : Type} (s2 : Int × Int) (s3 : Int × List α) : Option ((Int × List α) ⊕ ((Int × List α) ⊕ Empty)) :=
  bif (decide (s3.1 < (w64 (s2.1 - 1)))) then (Option.bind (Option.bind (getI s3.2 (w64 (s3.1 + 1))) fun x3 => Option.bind (getI s3.2 s3.1) fun x4 => Option.bind (setM s3.2 s3.1 x3) fun l => Option.bind (getI l (w64 (s3.1 + 1))) fun _ => Option.bind (setM l (w64 (s3.1 + 1)) x4) fun l2 => some l2) fun (f2 : List α) => some (.inl (w64 (s3.1 + 1), f2))) else (some (.inr (.inl (s3.1, s3.2))))
noncomputable def g_symMergeCmpFunc_b3 {α : Type} (data : List α) (m2 : Int) (cmp : α → α → Option Int) (s5 : Int × Int) : Option ((Int × Int) ⊕ ((Int × Int) ⊕ Empty)) :=
  bif (decide (s5.1 < s5.2)) then (Option.bind (getI data m2) fun x6 => Option.bind (getI data (w64 (bitShr .u64 (IntKind.u64.wrap (w64 (s5.1 + s5.2))) 1))) fun x7 => Option.bind (cmp x6 x7) fun v2 => bif (!(decide (v2 < 0))) then (some (.inl (w64 ((w64 (bitShr .u64 (IntKind.u64.wrap (w64 (s5.1 + s5.2))) 1)) + 1), s5.2))) else (some (.inl (s5.1, w64 (bitShr .u64 (IntKind.u64.wrap (w64 (s5.1 + s5.2))) 1))))) else (some (.inr (.inl (s5.1, s5.2))))
noncomputable def g_symMergeCmpFunc_b4 {α : Type} (s6 : Int × Int) (s7 : Int × List α) : Option ((Int × List α) ⊕ ((Int × List α) ⊕ Empty)) :=
  bif (decide (s7.1 > s6.1)) then (Option.bind (Option.bind (getI s7.2 (w64 (s7.1 - 1))) fun x8 => Option.bind (getI s7.2 s7.1) fun x9 => Option.bind (setM s7.2 s7.1 x8) fun l3 => Option.bind (getI l3 (w64 (s7.1 - 1))) fun _ => Option.bind (setM l3 (w64 (s7.1 - 1)) x9) fun l4 => some l4) fun (f3 : List α) => some (.inl (w64 (s7.1 - 1), f3))) else (some (.inr (.inl (s7.1, s7.2))))
noncomputable def g_symMergeCmpFunc_b5 {α : Type} (data : List α) (a : Int) (m2 : Int) (b2 : Int) (cmp : α → α → Option Int) (s10 : Int × Int) : Option ((Int × Int) ⊕ ((Int × Int) ⊕ Empty)) :=
  bif (decide (s10.1 < s10.2)) then (Option.bind (getI data (w64 ((w64 ((w64 ((w64 (bitShr .u64 (IntKind.u64.wrap (w64 (a + b2))) 1)) + m2)) - 1)) - (w64 (bitShr .u64 (IntKind.u64.wrap (w64 (s10.1 + s10.2))) 1))))) fun x11 => Option.bind (getI data (w64 (bitShr .u64 (IntKind.u64.wrap (w64 (s10.1 + s10.2))) 1))) fun x12 => Option.bind (cmp x11 x12) fun v3 => bif (!(decide (v3 < 0))) then (some (.inl (w64 ((w64 (bitShr .u64 (IntKind.u64.wrap (w64 (s10.1 + s10.2))) 1)) + 1), s10.2))) else (some (.inl (s10.1, w64 (bitShr .u64 (IntKind.u64.wrap (w64 (s10.1 + s10.2))) 1))))) else (some (.inr (.inl (s10.1, s10.2))))
noncomputable def g_symMergeCmpFunc_s {α : Type} (rc : List α → Int → Int → Int → (α → α → Option Int) → Option (List α)) (data : List α) (a : Int) (m2 : Int) (b2 : Int) (cmp : α → α → Option Int) : Option (List α) :=
  bif ((w64 (m2 - a)) == 1) then (Option.bind (loopM (g_symMergeCmpFunc_b1 data a cmp) (m2, b2)) fun (t : (Int × Int) ⊕ Empty) => match t with | .inl s2 => (Option.bind (loopM (g_symMergeCmpFunc_b2 s2) (a, data)) fun (t : (Int × List α) ⊕ Empty) => match t with | .inl s4 => (some s4.2) | .inr r => r.elim) | .inr r => r.elim) else (bif ((w64 (b2 - m2)) == 1) then (Option.bind (loopM (g_symMergeCmpFunc_b3 data m2 cmp) (a, m2)) fun (t : (Int × Int) ⊕ Empty) => match t with | .inl s6 => (Option.bind (loopM (g_symMergeCmpFunc_b4 s6) (m2, data)) fun (t : (Int × List α) ⊕ Empty) => match t with | .inl s8 => (some s8.2) | .inr r => r.elim) | .inr r => r.elim) else (Option.bind (bif (decide (m2 > (w64 (bitShr .u64 (IntKind.u64.wrap (w64 (a + b2))) 1)))) then (some (w64 ((w64 ((w64 (bitShr .u64 (IntKind.u64.wrap (w64 (a + b2))) 1)) + m2)) - b2), w64 (bitShr .u64 (IntKind.u64.wrap (w64 (a + b2))) 1))) else (some (a, m2))) fun (s9 : Int × Int) => Option.bind (loopM (g_symMergeCmpFunc_b5 data a m2 b2 cmp) (s9.1, s9.2)) fun (t : (Int × Int) ⊕ Empty) => match t with | .inl s11 => (Option.bind (bif ((decide (s11.1 < m2)) && (decide (m2 < (w64 ((w64 ((w64 (bitShr .u64 (IntKind.u64.wrap (w64 (a + b2))) 1)) + m2)) - s11.1))))) then (Option.bind (g_rotateCmpFunc data s11.1 m2 (w64 ((w64 ((w64 (bitShr .u64 (IntKind.u64.wrap (w64 (a + b2))) 1)) + m2)) - s11.1)) cmp) fun v4 => some v4) else (some data)) fun (f4 : List α) => Option.bind (bif ((decide (a < s11.1)) && (decide (s11.1 < (w64 (bitShr .u64 (IntKind.u64.wrap (w64 (a + b2))) 1))))) then (Option.bind (rc f4 a s11.1 (w64 (bitShr .u64 (IntKind.u64.wrap (w64 (a + b2))) 1)) cmp) fun v5 => some v5) else (some f4)) fun (f5 : List α) => bif ((decide ((w64 (bitShr .u64 (IntKind.u64.wrap (w64 (a + b2))) 1)) < (w64 ((w64 ((w64 (bitShr .u64 (IntKind.u64.wrap (w64 (a + b2))) 1)) + m2)) - s11.1)))) && (decide ((w64 ((w64 ((w64 (bitShr .u64 (IntKind.u64.wrap (w64 (a + b2))) 1)) + m2)) - s11.1)) < b2))) then (Option.bind (rc f5 (w64 (bitShr .u64 (IntKind.u64.wrap (w64 (a + b2))) 1)) (w64 ((w64 ((w64 (bitShr .u64 (IntKind.u64.wrap (w64 (a + b2))) 1)) + m2)) - s11.1)) b2 cmp) fun v6 => some v6) else (some f5)) | .inr r => r.elim))
noncomputable def g_symMergeCmpFunc {α : Type} : Nat → List α → Int → Int → Int → (α → α → Option Int) → Option (List α)
  | 0 => fun _ _ _ _ _ => none
  | fu + 1 => g_symMergeCmpFunc_s (g_symMergeCmpFunc fu)
noncomputable def g_stableCmpFunc_b1 {α : Type} (n2 : Int) (cmp : α → α → Option Int) (s : Int × Int × List α) : Option ((Int × Int × List α) ⊕ ((Int × Int × List α) ⊕ Empty)) :=
  bif (decide (s.2.1 ≤ n2)) then (Option.bind (g_insertionSortCmpFunc s.2.2 s.1 s.2.1 cmp) fun v => some (.inl (s.2.1, w64 (s.2.1 + 20), v))) else (some (.inr (.inl (s.1, s.2.1, s.2.2))))
noncomputable def g_stableCmpFunc_b3 {α : Type} (n2 : Int) (cmp : α → α → Option Int) (s3 : Int × List α) (s4 : Int × Int × List α) : Option ((Int × Int × List α) ⊕ ((Int × Int × List α) ⊕ Empty)) :=
  bif (decide (s4.2.1 ≤ n2)) then (Option.bind (g_symMergeCmpFunc 64 s4.2.2 s4.1 (w64 (s4.1 + s3.1)) s4.2.1 cmp) fun v3 => some (.inl (s4.2.1, w64 (s4.2.1 + (w64 (2 * s3.1))), v3))) else (some (.inr (.inl (s4.1, s4.2.1, s4.2.2))))
noncomputable def g_stableCmpFunc_b2 {α : Type} (n2 : Int) (cmp : α → α → Option Int) (s3 : Int × List α) : Option ((Int × List α) ⊕ ((Int × List α) ⊕ Empty)) :=
  bif (decide (s3.1 < n2)) then (Option.bind (loopM (g_stableCmpFunc_b3 n2 cmp s3) (0, w64 (2 * s3.1), s3.2)) fun (t : (Int × Int × List α) ⊕ Empty) => match t with | .inl s5 => (bif (decide ((w64 (s5.1 + s3.1)) < n2)) then (Option.bind (g_symMergeCmpFunc 64 s5.2.2 s5.1 (w64 (s5.1 + s3.1)) n2 cmp) fun v4 => some (.inl (w64 (s3.1 * 2), v4))) else (some (.inl (w64 (s3.1 * 2), s5.2.2)))) | .inr r => r.elim) else (some (.inr (.inl (s3.1, s3.2))))
noncomputable def g_stableCmpFunc {α : Type} (data : List α) (n2 : Int) (cmp : α → α → Option Int) : Option (List α) :=
  Option.bind (loopM (g_stableCmpFunc_b1 n2 cmp) (0, 20, data)) fun (t : (Int × Int × List α) ⊕ Empty) => match t with | .inl s2 => (Option.bind (g_insertionSortCmpFunc s2.2.2 s2.1 n2 cmp) fun v2 => Option.bind (loopM (g_stableCmpFunc_b2 n2 cmp) (20, v2)) fun (t : (Int × List α) ⊕ Empty) => match t with | .inl s6 => (some s6.2) | .inr r => r.elim) | .inr r => r.elim
noncomputable def g_SortStableFunc {α : Type} (x : List α) (cmp : α → α → Option Int) : Option (List α) :=
  Option.bind (g_stableCmpFunc x (x.length : Int) cmp) fun v => some v
section
variable {α β : Type}
theorem getI_mid (P : List α) (x : α) (R : List α) {i : Int} (h : i = (P.length : Int)) : getI (P ++ x :: R) i = some x := by
  subst h; rw [getI_nat, List.getElem?_append_right (Nat.le_refl _), Nat.sub_self]; rfl
theorem setM_mid (P : List α) (x y : α) (R : List α) {i : Int} (h : i = (P.length : Int)) : setM (P ++ x :: R) i y = some (P ++ y :: R) := by
  subst h; rw [setM_nat _ _ _ (by simp), List.set_append_right _ _ (Nat.le_refl _), Nat.sub_self]; rfl
theorem swap2 (P : List α) (x : α) (M : List α) (y : α) (Q : List α) {i j : Int} (hi : i = (P.length : Int)) (hj : j = (P.length : Int) + 1 + (M.length : Int)) (k : List α → Option β) :
    (Option.bind (Option.bind (getI (P ++ x :: (M ++ y :: Q)) j) fun u => Option.bind (getI (P ++ x :: (M ++ y :: Q)) i) fun v => Option.bind (setM (P ++ x :: (M ++ y :: Q)) i u) fun l => Option.bind (getI l j) fun _ => Option.bind (setM l j v) fun l2 => some l2) k) = k (P ++ y :: (M ++ x :: Q)) := by
  have e : ∀ z w : α, P ++ z :: (M ++ w :: Q) = (P ++ z :: M) ++ w :: Q := fun z w => by simp
  have hj2 : ∀ z : α, j = ((P ++ z :: M).length : Int) := fun z => by rw [List.length_append, List.length_cons]; omega
  have g1 : getI (P ++ x :: (M ++ y :: Q)) j = some y := by rw [e]; exact getI_mid _ _ _ (hj2 x)
  have g3 : getI (P ++ y :: (M ++ y :: Q)) j = some y := by rw [e]; exact getI_mid _ _ _ (hj2 y)
  have s2 : setM (P ++ y :: (M ++ y :: Q)) j x = some (P ++ y :: (M ++ x :: Q)) := by rw [e, e]; exact setM_mid _ _ _ _ (hj2 y)
  rw [g1, Option.bind_some, getI_mid _ _ _ hi, Option.bind_some, setM_mid _ _ _ _ hi, Option.bind_some, g3, Option.bind_some, s2]
  rfl
theorem swap3 (P : List α) (x y : α) (Q : List α) {i j : Int} (hi : i = (P.length : Int)) (hj : j = (P.length : Int) + 1) (k : List α → Option β) :
    (Option.bind (Option.bind (getI (P ++ x :: y :: Q) i) fun u => Option.bind (getI (P ++ x :: y :: Q) j) fun v => Option.bind (setM (P ++ x :: y :: Q) j u) fun l => Option.bind (getI l i) fun _ => Option.bind (setM l i v) fun l2 => some l2) k) = k (P ++ y :: x :: Q) := by
  have e : ∀ z w : α, P ++ z :: w :: Q = (P ++ [z]) ++ w :: Q := fun z w => by simp
  have hj2 : ∀ z : α, j = ((P ++ [z]).length : Int) := fun z => by rw [List.length_append, List.length_singleton]; omega
  have g1 : getI (P ++ x :: y :: Q) j = some y := by rw [e]; exact getI_mid _ _ _ (hj2 x)
  have s1 : setM (P ++ x :: y :: Q) j x = some (P ++ x :: x :: Q) := by rw [e, e]; exact setM_mid _ _ _ _ (hj2 x)
  rw [getI_mid _ _ _ hi, Option.bind_some, g1, Option.bind_some, s1, Option.bind_some, getI_mid _ _ _ hi, Option.bind_some, setM_mid _ _ _ _ hi]
  rfl
theorem swr_loop (n a b : Int) : ∀ (X Y P M Q : List α) (i : Int), X.length = Y.length → a + i = (P.length : Int) → b + i = (P.length : Int) + (X.length : Int) + (M.length : Int) → n = i + (X.length : Int) → 0 ≤ i → 0 ≤ a → 0 ≤ b → P.length + X.length + M.length + Y.length ≤ 1073741824 →
    loopM (g_swapRangeCmpFunc_b1 a b n) (i, P ++ (X ++ (M ++ (Y ++ Q)))) = some (.inl (n, P ++ (Y ++ (M ++ (X ++ Q)))))
  | [], Y, P, M, Q, i, hl, _, _, hn, _, _, _, _ => by
    have : Y = [] := List.length_eq_zero_iff.1 hl.symm
    subst this
    refine loopM_out ?_
    unfold g_swapRangeCmpFunc_b1
    simp only [List.length_nil] at hn
    rw [show decide (i < n) = false from decide_eq_false (by omega)]
    have : i = n := by omega
    subst this
    rfl
  | x :: X, [], P, M, Q, i, hl, _, _, _, _, _, _, _ => by simp at hl
  | x :: X, y :: Y, P, M, Q, i, hl, ha, hb, hn, h0, ha0, hb0, hN => by
    simp only [List.length_cons] at hl hb hn hN
    have e1 : P ++ (x :: X ++ (M ++ (y :: Y ++ Q))) = P ++ x :: ((X ++ M) ++ y :: (Y ++ Q)) := by simp
    have e2 : P ++ y :: ((X ++ M) ++ x :: (Y ++ Q)) = (P ++ [y]) ++ (X ++ ((M ++ [x]) ++ (Y ++ Q))) := by simp
    have e3 : P ++ (y :: Y ++ (M ++ (x :: X ++ Q))) = (P ++ [y]) ++ (Y ++ ((M ++ [x]) ++ (X ++ Q))) := by simp
    rw [e1, e3, ← swr_loop n a b X Y (P ++ [y]) (M ++ [x]) Q (i + 1) (by omega) (by rw [List.length_append, List.length_singleton]; omega) (by simp only [List.length_append, List.length_singleton]; omega) (by omega) (by omega) ha0 hb0 (by rw [List.length_append, List.length_append]; simp only [List.length_singleton]; omega), ← e2]
    refine loopM_next ?_
    unfold g_swapRangeCmpFunc_b1
    simp only
    rw [show decide (i < n) = true from decide_eq_true (by omega), w64_of (n := b + i) (by omega) (by omega), w64_of (n := a + i) (by omega) (by omega), w64_of (n := i + 1) (by omega) (by omega)]
    simp only [cond_true]
    rw [swap2 P x (X ++ M) y (Y ++ Q) ha (by rw [List.length_append]; omega)]
theorem swapRange_eq (cmp : α → α → Option Int) (P X M Y Q : List α) {a b n : Int} (hl : X.length = Y.length) (ha : a = (P.length : Int)) (hb : b = (P.length : Int) + (X.length : Int) + (M.length : Int)) (hn : n = (X.length : Int)) (hN : P.length + X.length + M.length + Y.length ≤ 1073741824) :
    g_swapRangeCmpFunc (P ++ (X ++ (M ++ (Y ++ Q)))) a b n cmp = some (P ++ (Y ++ (M ++ (X ++ Q)))) := by
  unfold g_swapRangeCmpFunc
  rw [swr_loop n a b X Y P M Q 0 hl (by omega) (by omega) (by omega) (by omega) (by omega) (by omega) hN]
  rfl
theorem rot_loop (cmp : α → α → Option Int) (m : Int) : ∀ (k : Nat) (P X Y Q : List α), X.length + Y.length ≤ k → 0 < X.length → 0 < Y.length → m = (P.length : Int) + (X.length : Int) → P.length + X.length + Y.length + Q.length ≤ 1073741824 →
    ∃ P' X' Y' Q', loopM (g_rotateCmpFunc_b1 m cmp) ((X.length : Int), (Y.length : Int), P ++ (X ++ (Y ++ Q))) = some (.inl ((X'.length : Int), (Y'.length : Int), P' ++ (X' ++ (Y' ++ Q')))) ∧ X'.length = Y'.length ∧ m = (P'.length : Int) + (X'.length : Int) ∧ P' ++ (Y' ++ (X' ++ Q')) = P ++ (Y ++ (X ++ Q)) ∧ P'.length + X'.length + Y'.length + Q'.length = P.length + X.length + Y.length + Q.length
  | 0, P, X, Y, Q, hk, hx, _, _, _ => by omega
  | k + 1, P, X, Y, Q, hk, hx, hy, hm, hN => by
    rcases Nat.lt_trichotomy X.length Y.length with h | h | h
    · -- the left one is shorter
      obtain ⟨Y1, Y2, rfl, h2⟩ : ∃ Y1 Y2, Y = Y1 ++ Y2 ∧ Y2.length = X.length := ⟨Y.take (Y.length - X.length), Y.drop (Y.length - X.length), by rw [List.take_append_drop], by rw [List.length_drop]; omega⟩
      rw [List.length_append] at hk h hy hN
      obtain ⟨P', X', Y', Q', r1, r2, r3, r4, r5⟩ := rot_loop cmp m k P Y2 Y1 (X ++ Q) (by omega) (by omega) (by omega) (by omega) (by rw [List.length_append]; omega)
      refine ⟨P', X', Y', Q', ?_, r2, r3, ?_, by rw [List.length_append] at *; omega⟩
      · rw [← r1]
        refine loopM_next ?_
        unfold g_rotateCmpFunc_b1
        simp only [List.length_append]
        rw [show ((X.length : Int) != ((Y1.length + Y2.length : Nat) : Int)) = true by simp; omega, show decide ((X.length : Int) > ((Y1.length + Y2.length : Nat) : Int)) = false from decide_eq_false (by omega)]
        simp only [cond_true, cond_false]
        rw [w64_of (n := m - (X.length : Int)) (by omega) (by omega), w64_of (n := m + ((Y1.length + Y2.length : Nat) : Int)) (by omega) (by omega), w64_of (n := m + ((Y1.length + Y2.length : Nat) : Int) - (X.length : Int)) (by omega) (by omega), w64_of (n := ((Y1.length + Y2.length : Nat) : Int) - (X.length : Int)) (by omega) (by omega)]
        rw [show P ++ (X ++ (Y1 ++ Y2 ++ Q)) = P ++ (X ++ (Y1 ++ (Y2 ++ Q))) by simp, swapRange_eq cmp P X Y1 Y2 Q h2.symm (by omega) (by omega) rfl (by omega)]
        simp only [Option.bind_some]
        rw [show ((Y1.length + Y2.length : Nat) : Int) - (X.length : Int) = (Y1.length : Int) by omega, h2]
      · rw [r4]; simp
    · refine ⟨P, X, Y, Q, ?_, h, hm, rfl, rfl⟩
      refine loopM_out ?_
      unfold g_rotateCmpFunc_b1
      simp only
      rw [show ((X.length : Int) != (Y.length : Int)) = false by simp; omega]
      rfl
    · obtain ⟨X1, X2, rfl, h2⟩ : ∃ X1 X2, X = X1 ++ X2 ∧ X1.length = Y.length := ⟨X.take Y.length, X.drop Y.length, by rw [List.take_append_drop], by rw [List.length_take]; omega⟩
      rw [List.length_append] at hk h hx hN hm
      obtain ⟨P', X', Y', Q', r1, r2, r3, r4, r5⟩ := rot_loop cmp m k (P ++ Y) X2 X1 Q (by omega) (by omega) (by omega) (by rw [List.length_append]; omega) (by rw [List.length_append]; omega)
      refine ⟨P', X', Y', Q', ?_, r2, r3, ?_, by rw [List.length_append] at *; omega⟩
      · rw [← r1]
        refine loopM_next ?_
        unfold g_rotateCmpFunc_b1
        simp only [List.length_append]
        rw [show (((X1.length + X2.length : Nat) : Int) != (Y.length : Int)) = true by simp; omega, show decide (((X1.length + X2.length : Nat) : Int) > (Y.length : Int)) = true from decide_eq_true (by omega)]
        simp only [cond_true, cond_false]
        rw [w64_of (n := m - ((X1.length + X2.length : Nat) : Int)) (by omega) (by omega), w64_of (n := ((X1.length + X2.length : Nat) : Int) - (Y.length : Int)) (by omega) (by omega)]
        rw [show P ++ (X1 ++ X2 ++ (Y ++ Q)) = P ++ (X1 ++ (X2 ++ (Y ++ Q))) by simp, swapRange_eq cmp P X1 X2 Y Q h2 (by omega) (by omega) (by omega) (by omega)]
        simp only [Option.bind_some]
        rw [show ((X1.length + X2.length : Nat) : Int) - (Y.length : Int) = (X2.length : Int) by omega, h2]
        simp
      · rw [r4]; simp
theorem rotate_eq (cmp : α → α → Option Int) (P X Y Q : List α) {a m b : Int} (hx : 0 < X.length) (hy : 0 < Y.length) (ha : a = (P.length : Int)) (hm : m = (P.length : Int) + (X.length : Int)) (hb : b = m + (Y.length : Int)) (hN : P.length + X.length + Y.length + Q.length ≤ 1073741824) :
    g_rotateCmpFunc (P ++ (X ++ (Y ++ Q))) a m b cmp = some (P ++ (Y ++ (X ++ Q))) := by
  unfold g_rotateCmpFunc
  rw [w64_of (n := m - a) (by omega) (by omega), w64_of (n := b - m) (by omega) (by omega), show m - a = (X.length : Int) by omega, show b - m = (Y.length : Int) by omega]
  obtain ⟨P', X', Y', Q', r1, r2, r3, r4, r5⟩ := rot_loop cmp m (X.length + Y.length) P X Y Q (Nat.le_refl _) hx hy hm hN
  rw [r1]
  simp only [Option.bind_some]
  rw [w64_of (n := m - (X'.length : Int)) (by omega) (by omega)]
  have := swapRange_eq cmp P' X' [] Y' Q' (a := m - (X'.length : Int)) (b := m) (n := (X'.length : Int)) r2 (by omega) (by simp only [List.length_nil]; omega) rfl (by simp only [List.length_nil]; omega)
  simp only [List.nil_append] at this
  rw [this, Option.bind_some, r4]
end
section
variable {α : Type} {D : α → Prop} {g : α → α → Option Int}
structure SW (D : α → Prop) (g : α → α → Option Int) : Prop where
  ans : ∀ x y, D x → D y → ∃ c, g x y = some c
  asym : ∀ x y, D x → D y → ltM g x y = true → ltM g y x = false
  ntrans : ∀ x y z, D x → D y → D z → ltM g x y = false → ltM g y z = false → ltM g x z = false
theorem SW.cmp (h : SW D g) {x y : α} (hx : D x) (hy : D y) : ∃ c, g x y = some c ∧ decide (c < 0) = ltM g x y := by
  obtain ⟨c, hc⟩ := h.ans x y hx hy
  exact ⟨c, hc, by unfold ltM; rw [hc]; rfl⟩
abbrev AllD (D : α → Prop) (l : List α) : Prop := ∀ x ∈ l, D x
def eqv (g : α → α → Option Int) (x y : α) : Bool := !ltM g x y && !ltM g y x
structure Sta (D : α → Prop) (g : α → α → Option Int) (l r : List α) : Prop where
  perm : r.Perm l
  same : ∀ x, D x → r.filter (eqv g x) = l.filter (eqv g x)
abbrev Srt (g : α → α → Option Int) (l : List α) : Prop := l.Pairwise fun x y => ltM g y x = false
theorem Sta.refl (l : List α) : Sta D g l l := ⟨.refl _, fun _ _ => rfl⟩
theorem Sta.trans {l r s : List α} (h : Sta D g l r) (k : Sta D g r s) : Sta D g l s := ⟨k.perm.trans h.perm, fun x hx => (k.same x hx).trans (h.same x hx)⟩
theorem Sta.app {A A' B B' : List α} (h : Sta D g A A') (k : Sta D g B B') : Sta D g (A ++ B) (A' ++ B') :=
  ⟨h.perm.append k.perm, fun x hx => by rw [List.filter_append, List.filter_append, h.same x hx, k.same x hx]⟩
theorem Sta.len {l r : List α} (h : Sta D g l r) : r.length = l.length := h.perm.length_eq
theorem Sta.all {l r : List α} (h : Sta D g l r) (hl : AllD D l) : AllD D r := fun x hx => hl x (h.perm.mem_iff.1 hx)
theorem Sta.swap (hs : SW D g) {A B : List α} (hA : AllD D A) (hB : AllD D B) (h : ∀ a ∈ A, ∀ b ∈ B, ltM g b a = true) : Sta D g (A ++ B) (B ++ A) := by
  refine ⟨List.perm_append_comm, fun x hx => ?_⟩
  rw [List.filter_append, List.filter_append]
  by_cases he : ∃ a ∈ A, eqv g x a = true
  · obtain ⟨a, ha, hxa⟩ := he
    have : B.filter (eqv g x) = [] := by
      rw [List.filter_eq_nil_iff]
      intro b hb hxb
      unfold eqv at hxa hxb
      simp only [Bool.and_eq_true, Bool.not_eq_true'] at hxa hxb
      have := hs.ntrans b x a (hB b hb) hx (hA a ha) hxb.2 hxa.1
      rw [h a ha b hb] at this
      cases this
    rw [this, List.nil_append, List.append_nil]
  · have : A.filter (eqv g x) = [] := by
      rw [List.filter_eq_nil_iff]
      intro a ha hxa
      exact he ⟨a, ha, hxa⟩
    rw [this, List.nil_append, List.append_nil]
theorem Srt.app {A B : List α} (hA : Srt g A) (hB : Srt g B) (h : ∀ a ∈ A, ∀ b ∈ B, ltM g b a = false) : Srt g (A ++ B) := List.pairwise_append.2 ⟨hA, hB, h⟩
theorem SW.irr (hs : SW D g) {x : α} (hx : D x) : ltM g x x = false := by
  cases h : ltM g x x
  · rfl
  · have := hs.asym x x hx hx h; rw [h] at this; cases this
theorem ins_inner (hs : SW D g) (a : Int) : ∀ (n : Nat) (R1 : List α), R1.length = n → ∀ (P : List α) (x : α) (R2 Q : List α), a = (P.length : Int) → AllD D R1 → D x → AllD D R2 → Srt g (R1 ++ R2) → (∀ r ∈ R2, ltM g x r = true) → P.length + R1.length ≤ 1073741824 →
    ∃ (j : Int) (R' : List α), loopM (g_insertionSortCmpFunc_b2 a g) ((P.length : Int) + (R1.length : Int), P ++ (R1 ++ x :: (R2 ++ Q))) = some (.inl (j, P ++ (R' ++ Q))) ∧ Srt g R' ∧ Sta D g (R1 ++ x :: R2) R' := by
  intro n
  induction n with
  | zero =>
    intro R1 h1 P x R2 Q ha _ hx hR2 hsrt hlt hN
    have : R1 = [] := List.length_eq_zero_iff.1 h1
    subst this
    refine ⟨(P.length : Int) + ((0 : Nat) : Int), x :: R2, loopM_out ?_, ?_, Sta.refl _⟩
    · unfold g_insertionSortCmpFunc_b2
      simp only [List.length_nil]
      rw [show decide ((P.length : Int) + ((0 : Nat) : Int) > a) = false from decide_eq_false (by omega)]
      rfl
    · rw [Srt, List.pairwise_cons]
      exact ⟨fun r hr => hs.asym x r hx (hR2 r hr) (hlt r hr), by simpa using hsrt⟩
  | succ n ih =>
    intro R1 h1 P x R2 Q ha hR1 hx hR2 hsrt hlt hN
    have hne : R1 ≠ [] := by intro h; subst h; simp at h1
    obtain ⟨S, y, rfl⟩ : ∃ S y, R1 = S ++ [y] := ⟨R1.dropLast, R1.getLast hne, (List.dropLast_concat_getLast hne).symm⟩
    rw [List.length_append, List.length_singleton] at h1 hN
    have hy : D y := hR1 y (by simp)
    have hS : AllD D S := fun z hz => hR1 z (by simp [hz])
    obtain ⟨c, hc, hcl⟩ := hs.cmp hx hy
    have e1 : P ++ (S ++ [y] ++ x :: (R2 ++ Q)) = (P ++ S) ++ y :: x :: (R2 ++ Q) := by simp
    have e2 : P ++ (S ++ [y] ++ x :: (R2 ++ Q)) = (P ++ S ++ [y]) ++ x :: (R2 ++ Q) := by simp
    have hj : (P.length : Int) + (((S ++ [y]).length : Nat) : Int) = (P.length : Int) + (S.length : Int) + 1 := by rw [List.length_append, List.length_singleton]; omega
    have hb : g_insertionSortCmpFunc_b2 a g ((P.length : Int) + (((S ++ [y]).length : Nat) : Int), P ++ (S ++ [y] ++ x :: (R2 ++ Q))) = some (bif ltM g x y then .inl ((P.length : Int) + (S.length : Int), P ++ (S ++ x :: (y :: R2 ++ Q))) else .inr (.inl ((P.length : Int) + (S.length : Int) + 1, P ++ (S ++ [y] ++ x :: (R2 ++ Q))))) := by
      unfold g_insertionSortCmpFunc_b2
      simp only
      rw [hj, w64_of (n := (P.length : Int) + (S.length : Int) + 1 - 1) (by omega) (by omega), show (P.length : Int) + (S.length : Int) + 1 - 1 = (P.length : Int) + (S.length : Int) by omega]
      rw [show decide ((P.length : Int) + (S.length : Int) + 1 > a) = true from decide_eq_true (by omega)]
      have g1 : getI (P ++ (S ++ [y] ++ x :: (R2 ++ Q))) ((P.length : Int) + (S.length : Int) + 1) = some x := by rw [e2]; exact getI_mid _ _ _ (by simp only [List.length_append, List.length_singleton]; omega)
      have g2 : getI (P ++ (S ++ [y] ++ x :: (R2 ++ Q))) ((P.length : Int) + (S.length : Int)) = some y := by rw [e1]; exact getI_mid _ _ _ (by simp only [List.length_append]; omega)
      have sw := swap3 (P ++ S) y x (R2 ++ Q) (i := (P.length : Int) + (S.length : Int)) (j := (P.length : Int) + (S.length : Int) + 1) (by simp only [List.length_append]; omega) (by simp only [List.length_append]; omega) (fun (f2 : List α) => some (Sum.inl ((P.length : Int) + (S.length : Int), f2) : (Int × List α) ⊕ ((Int × List α) ⊕ Empty)))
      rw [← e1] at sw
      simp only [cond_true]
      rw [sw, g1, Option.bind_some, g2, Option.bind_some, hc, Option.bind_some, hcl, Option.bind_some]
      cases ltM g x y
      · rfl
      · simp
    cases hxy : ltM g x y
    · rw [hxy] at hb
      refine ⟨(P.length : Int) + (S.length : Int) + 1, S ++ [y] ++ x :: R2, ?_, ?_, Sta.refl _⟩
      · rw [loopM_out hb]; simp
      · have h2 := List.pairwise_append.1 hsrt
        refine Srt.app h2.1 ?_ fun p hp q hq => ?_
        · rw [Srt, List.pairwise_cons]
          exact ⟨fun r hr => hs.asym x r hx (hR2 r hr) (hlt r hr), h2.2.1⟩
        · rcases List.mem_cons.1 hq with rfl | hq
          · rcases List.mem_append.1 hp with hp | hp
            · have h3 := (List.pairwise_append.1 h2.1).2.2 p hp y (by simp)
              exact hs.ntrans q y p hx hy (hS p hp) hxy h3
            · rw [List.mem_singleton] at hp; subst hp; exact hxy
          · exact h2.2.2 p hp q hq
    · rw [hxy] at hb
      rw [loopM_next hb]
      obtain ⟨j, R', r1, r2, r3⟩ := ih S (by omega) P x (y :: R2) Q ha hS hx (fun z hz => by rcases List.mem_cons.1 hz with rfl | hz; exact hy; exact hR2 z hz) (by simpa using hsrt) (fun r hr => by
        rcases List.mem_cons.1 hr with rfl | hr
        · exact hxy
        · exact hlt r hr) (by omega)
      refine ⟨j, R', r1, r2, Sta.trans ?_ r3⟩
      have h4 : Sta D g ([y] ++ [x]) ([x] ++ [y]) := Sta.swap hs (fun z hz => by simp at hz; subst hz; exact hy) (fun z hz => by simp at hz; subst hz; exact hx) (fun p hp q hq => by simp at hp hq; subst hp; subst hq; exact hxy)
      have h5 := Sta.app (Sta.refl (D := D) (g := g) S) (Sta.app h4 (Sta.refl R2))
      simpa using h5
theorem ins_outer (hs : SW D g) (a b : Int) (P Q : List α) (ha : a = (P.length : Int)) : ∀ (T R : List α), b = (P.length : Int) + (R.length : Int) + (T.length : Int) → AllD D R → AllD D T → Srt g R → P.length + R.length + T.length ≤ 1073741824 →
    ∃ R', loopM (g_insertionSortCmpFunc_b1 a b g) ((P.length : Int) + (R.length : Int), P ++ (R ++ (T ++ Q))) = some (.inl (b, P ++ (R' ++ Q))) ∧ Srt g R' ∧ Sta D g (R ++ T) R'
  | [], R, hb, _, _, hR, _ => by
    refine ⟨R, loopM_out ?_, hR, by rw [List.append_nil]; exact Sta.refl _⟩
    unfold g_insertionSortCmpFunc_b1
    simp only [List.length_nil] at hb
    simp only
    rw [show decide ((P.length : Int) + (R.length : Int) < b) = false from decide_eq_false (by omega), show (P.length : Int) + (R.length : Int) = b by omega]
    simp
  | x :: T, R, hb, dR, dT, hR, hN => by
    simp only [List.length_cons] at hb hN
    obtain ⟨j, R1, r1, r2, r3⟩ := ins_inner hs a R.length R rfl P x [] (T ++ Q) ha dR (dT x (List.mem_cons_self ..)) (fun z hz => by cases hz) (by rw [List.append_nil]; exact hR) (fun z hz => by cases hz) (by omega)
    have hl : R1.length = R.length + 1 := by have := r3.len; simpa using this
    obtain ⟨R', s1, s2, s3⟩ := ins_outer hs a b P Q ha T R1 (by omega) (r3.all (fun z hz => by
      rcases List.mem_append.1 hz with hz | hz
      · exact dR z hz
      · simp at hz; subst hz; exact dT z (by simp))) (fun z hz => dT z (by simp [hz])) r2 (by omega)
    refine ⟨R', ?_, s2, Sta.trans ?_ s3⟩
    · rw [← s1]
      refine loopM_next ?_
      unfold g_insertionSortCmpFunc_b1
      simp only
      rw [show decide ((P.length : Int) + (R.length : Int) < b) = true from decide_eq_true (by omega), w64_of (n := (P.length : Int) + (R.length : Int) + 1) (by omega) (by omega)]
      simp only [cond_true]
      have e : P ++ (R ++ (x :: T ++ Q)) = P ++ (R ++ x :: ([] ++ (T ++ Q))) := by simp
      rw [e, r1]
      simp only [Option.bind_some]
      rw [hl, show (P.length : Int) + ((R.length + 1 : Nat) : Int) = (P.length : Int) + (R.length : Int) + 1 by omega]
    · have := Sta.app r3 (Sta.refl (D := D) (g := g) T)
      simpa using this
theorem insertion_eq (hs : SW D g) (P A Q : List α) {a b : Int} (ha : a = (P.length : Int)) (hb : b = (P.length : Int) + (A.length : Int)) (dA : AllD D A) (hN : P.length + A.length ≤ 1073741824) :
    ∃ R, g_insertionSortCmpFunc (P ++ (A ++ Q)) a b g = some (P ++ (R ++ Q)) ∧ Srt g R ∧ Sta D g A R := by
  unfold g_insertionSortCmpFunc
  rw [w64_of (n := a + 1) (by omega) (by omega)]
  cases A with
  | nil =>
    refine ⟨[], ?_, .nil, Sta.refl _⟩
    simp only [List.length_nil] at hb
    have : g_insertionSortCmpFunc_b1 a b g (a + 1, P ++ ([] ++ Q)) = some (.inr (.inl (a + 1, P ++ ([] ++ Q)))) := by
      unfold g_insertionSortCmpFunc_b1
      simp only
      rw [show decide (a + 1 < b) = false from decide_eq_false (by omega)]
      rfl
    rw [loopM_out this]; rfl
  | cons x T =>
    simp only [List.length_cons] at hb hN
    obtain ⟨R', s1, s2, s3⟩ := ins_outer hs a b P Q ha T [x] (by simp only [List.length_singleton]; omega) (fun z hz => by simp at hz; subst hz; exact dA z (by simp)) (fun z hz => dA z (by simp [hz])) (by simp) (by simp only [List.length_singleton]; omega)
    refine ⟨R', ?_, s2, s3⟩
    simp only [List.length_singleton] at s1
    rw [show a + 1 = (P.length : Int) + ((1 : Nat) : Int) by omega]
    have e : P ++ (x :: T ++ Q) = P ++ ([x] ++ (T ++ Q)) := by simp
    rw [e, s1]
    rfl
theorem bin_loop {mb : Int × Int → Option ((Int × Int) ⊕ ((Int × Int) ⊕ Empty))} (q : Int → Bool) (lo hi : Int)
    (hstep : ∀ i j, lo ≤ i → i < j → j ≤ hi → mb (i, j) = some (.inl (bif q ((i + j) / 2) then ((i + j) / 2 + 1, j) else (i, (i + j) / 2)))) (hstop : ∀ i, lo ≤ i → i ≤ hi → mb (i, i) = some (.inr (.inl (i, i)))) :
    ∀ (k : Nat) (i j : Int), (j - i).toNat ≤ k → lo ≤ i → i ≤ j → j ≤ hi → (i = lo ∨ q (i - 1) = true) → (j = hi ∨ q j = false) → ∃ s, loopM mb (i, j) = some (.inl (s, s)) ∧ lo ≤ s ∧ s ≤ hi ∧ (s = lo ∨ q (s - 1) = true) ∧ (s = hi ∨ q s = false)
  | 0, i, j, hk, h1, h2, h3, h4, h5 => by
    have : i = j := by omega
    subst this
    exact ⟨i, loopM_out (hstop i h1 h3), h1, h3, h4, h5⟩
  | k + 1, i, j, hk, h1, h2, h3, h4, h5 => by
    rcases Int.lt_or_eq_of_le h2 with h | h
    · have hst := hstep i j h1 h h3
      cases hq : q ((i + j) / 2)
      · rw [hq] at hst
        rw [loopM_next hst]
        exact bin_loop q lo hi hstep hstop k i ((i + j) / 2) (by omega) h1 (by omega) (by omega) h4 (.inr hq)
      · rw [hq] at hst
        rw [loopM_next hst]
        exact bin_loop q lo hi hstep hstop k ((i + j) / 2 + 1) j (by omega) (by omega) (by omega) h3 (.inr (by rw [Int.add_sub_cancel]; exact hq)) h5
    · subst h
      exact ⟨i, loopM_out (hstop i h1 h3), h1, h3, h4, h5⟩
end
section
variable {α : Type} {D : α → Prop} {g : α → α → Option Int}
def atI (l : List α) (h : Int) (p : α → Bool) : Bool := match getI l h with | some z => p z | none => false
theorem atI_of {l : List α} {h : Int} {z : α} (e : getI l h = some z) (p : α → Bool) : atI l h p = p z := by unfold atI; rw [e]
theorem getI_seg (P A Q : List α) (t : Nat) (h : t < A.length) {i : Int} (hi : i = (P.length : Int) + (t : Int)) : getI (P ++ (A ++ Q)) i = some A[t] := by
  subst hi
  rw [show (P.length : Int) + (t : Int) = ((P.length + t : Nat) : Int) by omega, getI_nat, List.getElem?_append_right (by omega), Nat.add_sub_cancel_left, List.getElem?_append_left h, List.getElem?_eq_getElem h]
theorem shiftR (s : Int × Int) : ∀ (B P : List α) (x : α) (R : List α), s.1 - 1 = (P.length : Int) + (B.length : Int) → P.length + B.length ≤ 1073741824 →
    loopM (g_symMergeCmpFunc_b2 s) ((P.length : Int), P ++ x :: (B ++ R)) = some (.inl ((P.length : Int) + (B.length : Int), P ++ (B ++ x :: R)))
  | [], P, x, R, hs, hN => by
    refine loopM_out ?_
    unfold g_symMergeCmpFunc_b2
    simp only [List.length_nil] at hs ⊢
    rw [w64_of (n := s.1 - 1) (by omega) (by omega), show decide ((P.length : Int) < s.1 - 1) = false from decide_eq_false (by omega), show (P.length : Int) + ((0 : Nat) : Int) = (P.length : Int) by omega]
    rfl
  | y :: B, P, x, R, hs, hN => by
    simp only [List.length_cons] at hs hN
    have ih := shiftR s B (P ++ [y]) x R (by simp only [List.length_append, List.length_singleton]; omega) (by simp only [List.length_append, List.length_singleton]; omega)
    have e : loopM (g_symMergeCmpFunc_b2 s) ((P.length : Int), P ++ x :: (y :: B ++ R)) = loopM (g_symMergeCmpFunc_b2 s) (((P ++ [y]).length : Int), (P ++ [y]) ++ x :: (B ++ R)) := by
      refine loopM_next ?_
      unfold g_symMergeCmpFunc_b2
      simp only
      rw [w64_of (n := s.1 - 1) (by omega) (by omega), w64_of (n := (P.length : Int) + 1) (by omega) (by omega), show decide ((P.length : Int) < s.1 - 1) = true from decide_eq_true (by omega)]
      simp only [cond_true]
      have sw := swap2 P x [] y (B ++ R) (i := (P.length : Int)) (j := (P.length : Int) + 1) rfl (by simp only [List.length_nil]; omega) (fun (f2 : List α) => some (Sum.inl ((P.length : Int) + 1, f2) : (Int × List α) ⊕ ((Int × List α) ⊕ Empty)))
      simp only [List.nil_append] at sw
      rw [show x :: (y :: B ++ R) = x :: y :: (B ++ R) from rfl, sw]
      simp
    rw [e, ih]
    have hl : (((P ++ [y]).length : Nat) : Int) + (B.length : Int) = (P.length : Int) + (((y :: B).length : Nat) : Int) := by
      simp only [List.length_append, List.length_cons, List.length_nil]; omega
    rw [hl, show P ++ [y] ++ (B ++ x :: R) = P ++ (y :: B ++ x :: R) by simp]
theorem shiftL (s : Int × Int) : ∀ (n : Nat) (A : List α), A.length = n → ∀ (P : List α) (x : α) (R : List α), s.1 = (P.length : Int) → P.length + A.length ≤ 1073741824 →
    loopM (g_symMergeCmpFunc_b4 s) ((P.length : Int) + (A.length : Int), P ++ (A ++ x :: R)) = some (.inl ((P.length : Int), P ++ x :: (A ++ R))) := by
  intro n
  induction n with
  | zero =>
    intro A hA P x R hs hN
    have : A = [] := List.length_eq_zero_iff.1 hA
    subst this
    refine loopM_out ?_
    unfold g_symMergeCmpFunc_b4
    simp only [List.length_nil]
    rw [show decide ((P.length : Int) + ((0 : Nat) : Int) > s.1) = false from decide_eq_false (by omega), show (P.length : Int) + ((0 : Nat) : Int) = (P.length : Int) by omega]
    rfl
  | succ n ih =>
    intro A hA P x R hs hN
    have hne : A ≠ [] := by intro h; subst h; simp at hA
    obtain ⟨S, y, rfl⟩ : ∃ S y, A = S ++ [y] := ⟨A.dropLast, A.getLast hne, (List.dropLast_concat_getLast hne).symm⟩
    rw [List.length_append, List.length_singleton] at hA hN
    have ih' := ih S (by omega) P x (y :: R) hs (by omega)
    have e : loopM (g_symMergeCmpFunc_b4 s) ((P.length : Int) + (((S ++ [y]).length : Nat) : Int), P ++ ((S ++ [y]) ++ x :: R)) = loopM (g_symMergeCmpFunc_b4 s) ((P.length : Int) + (S.length : Int), P ++ (S ++ x :: y :: R)) := by
      refine loopM_next ?_
      have hj : (P.length : Int) + (((S ++ [y]).length : Nat) : Int) = (P.length : Int) + (S.length : Int) + 1 := by rw [List.length_append, List.length_singleton]; omega
      unfold g_symMergeCmpFunc_b4
      simp only
      rw [hj, w64_of (n := (P.length : Int) + (S.length : Int) + 1 - 1) (by omega) (by omega), show (P.length : Int) + (S.length : Int) + 1 - 1 = (P.length : Int) + (S.length : Int) by omega, show decide ((P.length : Int) + (S.length : Int) + 1 > s.1) = true from decide_eq_true (by omega)]
      simp only [cond_true]
      have e1 : P ++ (S ++ [y] ++ x :: R) = (P ++ S) ++ y :: x :: R := by simp
      have sw := swap3 (P ++ S) y x R (i := (P.length : Int) + (S.length : Int)) (j := (P.length : Int) + (S.length : Int) + 1) (by simp only [List.length_append]; omega) (by simp only [List.length_append]; omega) (fun (f2 : List α) => some (Sum.inl ((P.length : Int) + (S.length : Int), f2) : (Int × List α) ⊕ ((Int × List α) ⊕ Empty)))
      rw [e1, sw]
      simp
    rw [e, ih']
    simp
theorem srt_get {A : List α} (h : Srt g A) {i j : Nat} (hi : i < A.length) (hj : j < A.length) (hij : i < j) : ltM g A[j] A[i] = false := by
  rw [Srt, List.pairwise_iff_getElem] at h
  exact h i j hi hj hij
theorem sym_left (hs : SW D g) (P : List α) (x : α) (B Q : List α) {a m b : Int} (ha : a = (P.length : Int)) (hm : m = a + 1) (hb : b = m + (B.length : Int)) (dx : D x) (dB : AllD D B) (sB : Srt g B) (hN : P.length + B.length ≤ 1000000000) :
    ∃ R, (Option.bind (loopM (g_symMergeCmpFunc_b1 (P ++ x :: (B ++ Q)) a g) (m, b)) fun (t : (Int × Int) ⊕ Empty) => match t with | .inl s2 => (Option.bind (loopM (g_symMergeCmpFunc_b2 s2) (a, P ++ x :: (B ++ Q))) fun (t : (Int × List α) ⊕ Empty) => match t with | .inl s4 => (some s4.2) | .inr r => r.elim) | .inr r => r.elim) = some (P ++ (R ++ Q)) ∧ Srt g R ∧ Sta D g (x :: B) R := by
  have ga : getI (P ++ x :: (B ++ Q)) a = some x := getI_mid _ _ _ ha
  have gB : ∀ (t : Nat) (ht : t < B.length) (i : Int), i = m + (t : Int) → getI (P ++ x :: (B ++ Q)) i = some B[t] := fun t ht i hi => by
    have e : P ++ x :: (B ++ Q) = (P ++ [x]) ++ (B ++ Q) := by simp
    rw [e]
    exact getI_seg _ _ _ t ht (by simp only [List.length_append, List.length_singleton]; omega)
  obtain ⟨s, k1, k2, k3, k4, k5⟩ := bin_loop (mb := g_symMergeCmpFunc_b1 (P ++ x :: (B ++ Q)) a g) (fun h => atI (P ++ x :: (B ++ Q)) h fun z => ltM g z x) m b (fun i j h1 h2 h3 => by
    have hg := gB ((i + j) / 2 - m).toNat (by omega) ((i + j) / 2) (by omega)
    rw [atI_of hg]
    unfold g_symMergeCmpFunc_b1
    simp only
    rw [show decide (i < j) = true from decide_eq_true h2, half_eq (x := i + j) (by omega) (by omega), w64_of (n := (i + j) / 2 + 1) (by omega) (by omega)]
    simp only [cond_true]
    obtain ⟨c, hc, hcl⟩ := hs.cmp (dB _ (List.getElem_mem (show ((i + j) / 2 - m).toNat < B.length by omega))) dx
    rw [hg, Option.bind_some, ga, Option.bind_some, hc, Option.bind_some, hcl]
    cases ltM g (B[((i + j) / 2 - m).toNat]'(by omega)) x <;> rfl) (fun i h1 h2 => by
    unfold g_symMergeCmpFunc_b1
    simp only
    rw [show decide (i < i) = false from decide_eq_false (by omega)]
    rfl) (b - m).toNat m b (Nat.le_refl _) (by omega) (by omega) (by omega) (.inl rfl) (.inl rfl)
  rw [k1]
  simp only [Option.bind_some]
  obtain ⟨B1, B2, rfl, hB1⟩ : ∃ B1 B2, B = B1 ++ B2 ∧ B1.length = (s - m).toNat := ⟨B.take (s - m).toNat, B.drop (s - m).toNat, by rw [List.take_append_drop], by rw [List.length_take]; omega⟩
  rw [List.length_append] at hb hN
  have lo : ∀ z ∈ B1, ltM g z x = true := fun z hz => by
    obtain ⟨t, ht, rfl⟩ := List.mem_iff_getElem.1 hz
    have hlast : ltM g (B1[B1.length - 1]'(by omega)) x = true := by
      rcases k4 with k4 | k4
      · omega
      · rw [atI_of (gB (B1.length - 1) (by rw [List.length_append]; omega) (s - 1) (by omega)), List.getElem_append_left (by omega)] at k4
        exact k4
    by_cases e : t = B1.length - 1
    · subst e; exact hlast
    · have h1 := srt_get (List.pairwise_append.1 sB).1 (i := t) (j := B1.length - 1) ht (by omega) (by omega)
      cases h2 : ltM g B1[t] x
      · have := hs.ntrans _ _ _ (dB _ (List.mem_append_left _ (List.getElem_mem (show B1.length - 1 < B1.length by omega)))) (dB _ (List.mem_append_left _ hz)) dx h1 h2
        rw [hlast] at this; cases this
      · rfl
  have hi : ∀ z ∈ B2, ltM g z x = false := fun z hz => by
    obtain ⟨t, ht, rfl⟩ := List.mem_iff_getElem.1 hz
    have hfirst : ltM g (B2[0]'(by omega)) x = false := by
      rcases k5 with k5 | k5
      · omega
      · rw [atI_of (gB B1.length (by rw [List.length_append]; omega) s (by omega)), List.getElem_append_right (Nat.le_refl _)] at k5
        simpa using k5
    by_cases e : t = 0
    · subst e; exact hfirst
    · have h1 := srt_get (List.pairwise_append.1 sB).2.1 (i := 0) (j := t) (by omega) ht (by omega)
      exact hs.ntrans _ _ _ (dB _ (List.mem_append_right _ hz)) (dB _ (List.mem_append_right _ (List.getElem_mem (show 0 < B2.length by omega)))) dx h1 hfirst
  have dB1 : AllD D B1 := fun z hz => dB z (List.mem_append_left _ hz)
  have dB2 : AllD D B2 := fun z hz => dB z (List.mem_append_right _ hz)
  refine ⟨B1 ++ x :: B2, ?_, ?_, ?_⟩
  · have h1 := shiftR (s, s) B1 P x (B2 ++ Q) (by simp only; omega) (by omega)
    rw [ha, List.append_assoc, h1]
    simp
  · refine Srt.app (List.pairwise_append.1 sB).1 ?_ fun p hp q hq => ?_
    · rw [Srt, List.pairwise_cons]
      exact ⟨hi, (List.pairwise_append.1 sB).2.1⟩
    · rcases List.mem_cons.1 hq with rfl | hq
      · exact hs.asym _ _ (dB1 p hp) dx (lo p hp)
      · exact (List.pairwise_append.1 sB).2.2 p hp q hq
  · have h1 : Sta D g ([x] ++ B1) (B1 ++ [x]) := Sta.swap hs (fun z hz => by simp at hz; subst hz; exact dx) dB1 (fun p hp q hq => by simp at hp; subst hp; exact lo q hq)
    have := Sta.app h1 (Sta.refl (D := D) (g := g) B2)
    simpa using this
theorem sym_right (hs : SW D g) (P : List α) (x : α) (A Q : List α) {a m : Int} (ha : a = (P.length : Int)) (hm : m = a + (A.length : Int)) (dx : D x) (dA : AllD D A) (sA : Srt g A) (hN : P.length + A.length ≤ 1000000000) :
    ∃ R, (Option.bind (loopM (g_symMergeCmpFunc_b3 (P ++ (A ++ x :: Q)) m g) (a, m)) fun (t : (Int × Int) ⊕ Empty) => match t with | .inl s6 => (Option.bind (loopM (g_symMergeCmpFunc_b4 s6) (m, P ++ (A ++ x :: Q))) fun (t : (Int × List α) ⊕ Empty) => match t with | .inl s8 => (some s8.2) | .inr r => r.elim) | .inr r => r.elim) = some (P ++ (R ++ Q)) ∧ Srt g R ∧ Sta D g (A ++ [x]) R := by
  have gm : getI (P ++ (A ++ x :: Q)) m = some x := by
    have e : P ++ (A ++ x :: Q) = (P ++ A) ++ x :: Q := by simp
    rw [e]
    exact getI_mid _ _ _ (by simp only [List.length_append]; omega)
  have gA : ∀ (t : Nat) (ht : t < A.length) (i : Int), i = a + (t : Int) → getI (P ++ (A ++ x :: Q)) i = some A[t] := fun t ht i hi => getI_seg _ _ _ t ht (by omega)
  obtain ⟨s, k1, k2, k3, k4, k5⟩ := bin_loop (mb := g_symMergeCmpFunc_b3 (P ++ (A ++ x :: Q)) m g) (fun h => atI (P ++ (A ++ x :: Q)) h fun z => !ltM g x z) a m (fun i j h1 h2 h3 => by
    have hg := gA ((i + j) / 2 - a).toNat (by omega) ((i + j) / 2) (by omega)
    rw [atI_of hg]
    unfold g_symMergeCmpFunc_b3
    simp only
    rw [show decide (i < j) = true from decide_eq_true h2, half_eq (x := i + j) (by omega) (by omega), w64_of (n := (i + j) / 2 + 1) (by omega) (by omega)]
    simp only [cond_true]
    obtain ⟨c, hc, hcl⟩ := hs.cmp dx (dA _ (List.getElem_mem (show ((i + j) / 2 - a).toNat < A.length by omega)))
    rw [gm, Option.bind_some, hg, Option.bind_some, hc, Option.bind_some, hcl]
    cases ltM g x (A[((i + j) / 2 - a).toNat]'(by omega)) <;> rfl) (fun i h1 h2 => by
    unfold g_symMergeCmpFunc_b3
    simp only
    rw [show decide (i < i) = false from decide_eq_false (by omega)]
    rfl) (m - a).toNat a m (Nat.le_refl _) (by omega) (by omega) (by omega) (.inl rfl) (.inl rfl)
  rw [k1]
  simp only [Option.bind_some]
  obtain ⟨A1, A2, rfl, hA1⟩ : ∃ A1 A2, A = A1 ++ A2 ∧ A1.length = (s - a).toNat := ⟨A.take (s - a).toNat, A.drop (s - a).toNat, by rw [List.take_append_drop], by rw [List.length_take]; omega⟩
  rw [List.length_append] at hm hN
  have dA1 : AllD D A1 := fun z hz => dA z (List.mem_append_left _ hz)
  have dA2 : AllD D A2 := fun z hz => dA z (List.mem_append_right _ hz)
  have lo : ∀ z ∈ A1, ltM g x z = false := fun z hz => by
    obtain ⟨t, ht, rfl⟩ := List.mem_iff_getElem.1 hz
    have hlast : ltM g x (A1[A1.length - 1]'(by omega)) = false := by
      rcases k4 with k4 | k4
      · omega
      · rw [atI_of (gA (A1.length - 1) (by rw [List.length_append]; omega) (s - 1) (by omega)), List.getElem_append_left (by omega)] at k4
        simpa using k4
    by_cases e : t = A1.length - 1
    · subst e; exact hlast
    · have h1 := srt_get (List.pairwise_append.1 sA).1 (i := t) (j := A1.length - 1) ht (by omega) (by omega)
      exact hs.ntrans _ _ _ dx (dA1 _ (List.getElem_mem (show A1.length - 1 < A1.length by omega))) (dA1 _ hz) hlast h1
  have hi : ∀ z ∈ A2, ltM g x z = true := fun z hz => by
    obtain ⟨t, ht, rfl⟩ := List.mem_iff_getElem.1 hz
    have hfirst : ltM g x (A2[0]'(by omega)) = true := by
      rcases k5 with k5 | k5
      · omega
      · rw [atI_of (gA A1.length (by rw [List.length_append]; omega) s (by omega)), List.getElem_append_right (Nat.le_refl _)] at k5
        simpa using k5
    by_cases e : t = 0
    · subst e; exact hfirst
    · have h1 := srt_get (List.pairwise_append.1 sA).2.1 (i := 0) (j := t) (by omega) ht (by omega)
      cases h2 : ltM g x A2[t]
      · have := hs.ntrans _ _ _ dx (dA2 _ hz) (dA2 _ (List.getElem_mem (show 0 < A2.length by omega))) h2 h1
        rw [hfirst] at this; cases this
      · rfl
  refine ⟨A1 ++ x :: A2, ?_, ?_, ?_⟩
  · have h1 := shiftL (s, s) A2.length A2 rfl (P ++ A1) x Q (by simp only [List.length_append]; omega) (by simp only [List.length_append]; omega)
    have e1 : P ++ (A1 ++ A2 ++ x :: Q) = (P ++ A1) ++ (A2 ++ x :: Q) := by simp
    rw [e1, show m = (((P ++ A1).length : Nat) : Int) + (A2.length : Int) by simp only [List.length_append]; omega, h1]
    simp
  · refine Srt.app (List.pairwise_append.1 sA).1 ?_ fun p hp q hq => ?_
    · rw [Srt, List.pairwise_cons]
      exact ⟨fun z hz => hs.asym _ _ dx (dA2 z hz) (hi z hz), (List.pairwise_append.1 sA).2.1⟩
    · rcases List.mem_cons.1 hq with rfl | hq
      · exact lo p hp
      · exact (List.pairwise_append.1 sA).2.2 p hp q hq
  · have h1 : Sta D g (A2 ++ [x]) ([x] ++ A2) := Sta.swap hs dA2 (fun z hz => by simp at hz; subst hz; exact dx) (fun p hp q hq => by simp at hq; subst hq; exact hi p hp)
    have := Sta.app (Sta.refl (D := D) (g := g) A1) h1
    simpa using this
end
section
variable {α : Type} {D : α → Prop} {g : α → α → Option Int}
theorem symMerge_eq (hs : SW D g) : ∀ (fu : Nat) (P A B Q : List α) (a m b : Int), a = (P.length : Int) → m = a + (A.length : Int) → b = m + (B.length : Int) → 0 < A.length → 0 < B.length → A.length + B.length ≤ 2 ^ fu → AllD D A → AllD D B → Srt g A → Srt g B → P.length + A.length + B.length + Q.length ≤ 1000000000 →
    ∃ R, g_symMergeCmpFunc fu (P ++ (A ++ (B ++ Q))) a m b g = some (P ++ (R ++ Q)) ∧ Srt g R ∧ Sta D g (A ++ B) R := by
  intro fu
  induction fu with
  | zero => intro P A B Q a m b _ _ _ h1 h2 h3; exfalso; simp at h3; omega
  | succ fu ih =>
    intro P A B Q a m b ha hm hb hA hB hsz dA dB sA sB hN
    rw [show g_symMergeCmpFunc (α := α) (fu + 1) = g_symMergeCmpFunc_s (g_symMergeCmpFunc fu) from rfl]
    unfold g_symMergeCmpFunc_s
    rw [w64_of (n := m - a) (by omega) (by omega), w64_of (n := b - m) (by omega) (by omega), half_eq (x := a + b) (by omega) (by omega)]
    by_cases hA1 : A.length = 1
    · -- one element at the left
      obtain ⟨x, rfl⟩ : ∃ x, A = [x] := List.length_eq_one_iff.1 hA1
      rw [show (m - a == 1) = true by simp; simp only [List.length_singleton] at hm; omega]
      simp only [cond_true]
      obtain ⟨R, r1, r2, r3⟩ := sym_left hs P x B Q (a := a) (m := m) (b := b) ha (by simp only [List.length_singleton] at hm; omega) hb (dA x (by simp)) dB sB (by omega)
      exact ⟨R, r1, r2, r3⟩
    · rw [show (m - a == 1) = false by simp; omega]
      simp only [cond_false]
      by_cases hB1 : B.length = 1
      · obtain ⟨x, rfl⟩ : ∃ x, B = [x] := List.length_eq_one_iff.1 hB1
        rw [show (b - m == 1) = true by simp; simp only [List.length_singleton] at hb; omega]
        simp only [cond_true]
        exact sym_right hs P x A Q (a := a) (m := m) ha hm (dB x (by simp)) dA sA (by omega)
      · rw [show (b - m == 1) = false by simp; omega]
        simp only [cond_false]
        generalize hmid : (a + b) / 2 = mid
        rw [w64_of (n := mid + m) (by omega) (by omega), w64_of (n := mid + m - b) (by omega) (by omega)]
        have hL : (P ++ (A ++ (B ++ Q))) = P ++ ((A ++ B) ++ Q) := by simp
        have gA : ∀ (t : Nat) (ht : t < A.length) (i : Int), i = a + (t : Int) → getI (P ++ (A ++ (B ++ Q))) i = some A[t] := fun t ht i hi => getI_seg _ _ _ t ht (by omega)
        have gB : ∀ (t : Nat) (ht : t < B.length) (i : Int), i = m + (t : Int) → getI (P ++ (A ++ (B ++ Q))) i = some B[t] := fun t ht i hi => by
          have e : P ++ (A ++ (B ++ Q)) = (P ++ A) ++ (B ++ Q) := by simp
          rw [e]
          exact getI_seg _ _ _ t ht (by simp only [List.length_append]; omega)
        obtain ⟨lo, hi, hpair, hlo1, hlohi, hhi1, hcase⟩ : ∃ lo hi : Int, (bif decide (m > mid) then some (mid + m - b, mid) else some (a, m)) = some (lo, hi) ∧ a ≤ lo ∧ lo ≤ hi ∧ hi ≤ m ∧ ((m > mid ∧ lo = mid + m - b ∧ hi = mid) ∨ (m ≤ mid ∧ lo = a ∧ hi = m)) := by
          by_cases h : m > mid
          · exact ⟨mid + m - b, mid, by rw [decide_eq_true h]; rfl, by omega, by omega, by omega, .inl ⟨h, rfl, rfl⟩⟩
          · exact ⟨a, m, by rw [decide_eq_false h]; rfl, by omega, by omega, by omega, .inr ⟨by omega, rfl, rfl⟩⟩
        rw [hpair]
        simp only [Option.bind_some]
        obtain ⟨s, k1, k2, k3, k4, k5⟩ := bin_loop (mb := g_symMergeCmpFunc_b5 (P ++ (A ++ (B ++ Q))) a m b g) (fun h => atI (P ++ (A ++ (B ++ Q))) h fun x => atI (P ++ (A ++ (B ++ Q))) (mid + m - 1 - h) fun y => !ltM g y x) lo hi (fun i j h1 h2 h3 => by
          have hg := gA ((i + j) / 2 - a).toNat (by omega) ((i + j) / 2) (by omega)
          have hg2 := gB (mid + m - 1 - (i + j) / 2 - m).toNat (by omega) (mid + m - 1 - (i + j) / 2) (by omega)
          rw [atI_of hg, atI_of hg2]
          unfold g_symMergeCmpFunc_b5
          simp only
          rw [show decide (i < j) = true from decide_eq_true h2, half_eq (x := i + j) (by omega) (by omega), half_eq (x := a + b) (by omega) (by omega), hmid, w64_of (n := (i + j) / 2 + 1) (by omega) (by omega), w64_of (n := mid + m) (by omega) (by omega), w64_of (n := mid + m - 1) (by omega) (by omega), w64_of (n := mid + m - 1 - (i + j) / 2) (by omega) (by omega)]
          simp only [cond_true]
          obtain ⟨c, hc, hcl⟩ := hs.cmp (dB _ (List.getElem_mem (show (mid + m - 1 - (i + j) / 2 - m).toNat < B.length by omega))) (dA _ (List.getElem_mem (show ((i + j) / 2 - a).toNat < A.length by omega)))
          rw [hg2, Option.bind_some, hg, Option.bind_some, hc, Option.bind_some, hcl]
          cases ltM g (B[(mid + m - 1 - (i + j) / 2 - m).toNat]'(by omega)) (A[((i + j) / 2 - a).toNat]'(by omega)) <;> rfl) (fun i h1 h2 => by
          unfold g_symMergeCmpFunc_b5
          simp only
          rw [show decide (i < i) = false from decide_eq_false (by omega)]
          rfl) (hi - lo).toNat lo hi (Nat.le_refl _) (by omega) (by omega) (by omega) (.inl rfl) (.inl rfl)
        rw [k1]
        simp only [Option.bind_some]
        rw [w64_of (n := mid + m - s) (by omega) (by omega)]
        have hs1 : a ≤ s ∧ s ≤ m ∧ m ≤ mid + m - s ∧ mid + m - s ≤ b := by omega
        obtain ⟨A1, A2, rfl, hA1⟩ : ∃ A1 A2, A = A1 ++ A2 ∧ A1.length = (s - a).toNat := ⟨A.take (s - a).toNat, A.drop (s - a).toNat, by rw [List.take_append_drop], by rw [List.length_take]; omega⟩
        obtain ⟨B1, B2, rfl, hB1⟩ : ∃ B1 B2, B = B1 ++ B2 ∧ B1.length = (mid - s).toNat := ⟨B.take (mid - s).toNat, B.drop (mid - s).toNat, by rw [List.take_append_drop], by rw [List.length_take]; omega⟩
        rw [List.length_append] at hm hb hA hB
        rw [List.length_append, List.length_append] at hsz hN
        have dA1 : AllD D A1 := fun z hz => dA z (List.mem_append_left _ hz)
        have dA2 : AllD D A2 := fun z hz => dA z (List.mem_append_right _ hz)
        have dB1 : AllD D B1 := fun z hz => dB z (List.mem_append_left _ hz)
        have dB2 : AllD D B2 := fun z hz => dB z (List.mem_append_right _ hz)
        obtain ⟨sA1, sA2, sA12⟩ := List.pairwise_append.1 sA
        obtain ⟨sB1, sB2, sB12⟩ := List.pairwise_append.1 sB
        -- what the search has found
        have lt1 : ∀ x ∈ A2, ∀ y ∈ B1, ltM g y x = true := fun x hx y hy => by
          obtain ⟨t, ht, rfl⟩ := List.mem_iff_getElem.1 hx
          obtain ⟨u, hu, rfl⟩ := List.mem_iff_getElem.1 hy
          have hbase : ltM g (B1[B1.length - 1]'(by omega)) (A2[0]'(by omega)) = true := by
            rcases k5 with k5 | k5
            · omega
            · rw [atI_of (gA A1.length (by rw [List.length_append]; omega) s (by omega)), atI_of (gB (B1.length - 1) (by rw [List.length_append]; omega) (mid + m - 1 - s) (by omega)), List.getElem_append_right (Nat.le_refl _), List.getElem_append_left (by omega)] at k5
              simpa using k5
          have h1 : ltM g (A2[t]) (A2[0]'(by omega)) = false := by
            by_cases e : t = 0
            · subst e; exact hs.irr (dA2 _ hx)
            · exact srt_get sA2 (by omega) ht (by omega)
          have h2 : ltM g (B1[B1.length - 1]'(by omega)) (B1[u]) = false := by
            by_cases e : u = B1.length - 1
            · subst e; exact hs.irr (dB1 _ hy)
            · exact srt_get sB1 hu (by omega) (by omega)
          have dl : D (B1[B1.length - 1]'(by omega)) := dB1 _ (List.getElem_mem (by omega))
          have df : D (A2[0]'(by omega)) := dA2 _ (List.getElem_mem (by omega))
          cases h3 : ltM g B1[u] A2[t]
          · have h4 := hs.ntrans _ _ _ (dB1 _ hy) (dA2 _ hx) df h3 h1
            have h5 := hs.ntrans _ _ _ dl (dB1 _ hy) df h2 h4
            rw [hbase] at h5; cases h5
          · rfl
        have lt2 : ∀ x ∈ A1, ∀ y ∈ B2, ltM g y x = false := fun x hx y hy => by
          obtain ⟨t, ht, rfl⟩ := List.mem_iff_getElem.1 hx
          obtain ⟨u, hu, rfl⟩ := List.mem_iff_getElem.1 hy
          have hbase : ltM g (B2[0]'(by omega)) (A1[A1.length - 1]'(by omega)) = false := by
            rcases k4 with k4 | k4
            · omega
            · rw [atI_of (gA (A1.length - 1) (by rw [List.length_append]; omega) (s - 1) (by omega)), atI_of (gB B1.length (by rw [List.length_append]; omega) (mid + m - 1 - (s - 1)) (by omega)), List.getElem_append_right (Nat.le_refl _), List.getElem_append_left (by omega)] at k4
              simpa using k4
          have dl : D (A1[A1.length - 1]'(by omega)) := dA1 _ (List.getElem_mem (by omega))
          have df : D (B2[0]'(by omega)) := dB2 _ (List.getElem_mem (by omega))
          have h1 : ltM g (A1[A1.length - 1]'(by omega)) (A1[t]) = false := by
            by_cases e : t = A1.length - 1
            · subst e; exact hs.irr (dA1 _ hx)
            · exact srt_get sA1 ht (by omega) (by omega)
          have h2 : ltM g (B2[u]) (B2[0]'(by omega)) = false := by
            by_cases e : u = 0
            · subst e; exact hs.irr (dB2 _ hy)
            · exact srt_get sB2 (by omega) hu (by omega)
          exact hs.ntrans _ _ _ (dB2 _ hy) dl (dA1 _ hx) (hs.ntrans _ _ _ (dB2 _ hy) df dl h2 hbase) h1
        -- the turn
        have hrot : (Option.bind (bif (decide (s < m) && decide (m < mid + m - s)) then (Option.bind (g_rotateCmpFunc (P ++ (A1 ++ A2 ++ (B1 ++ B2 ++ Q))) s m (mid + m - s) g) fun v4 => some v4) else (some (P ++ (A1 ++ A2 ++ (B1 ++ B2 ++ Q))))) : (List α → Option (List α)) → Option (List α)) = fun k => k (P ++ (A1 ++ (B1 ++ (A2 ++ (B2 ++ Q))))) := by
          funext k
          by_cases h : s < m ∧ m < mid + m - s
          · rw [decide_eq_true h.1, decide_eq_true h.2]
            have e : P ++ (A1 ++ A2 ++ (B1 ++ B2 ++ Q)) = (P ++ A1) ++ (A2 ++ (B1 ++ (B2 ++ Q))) := by simp
            rw [e, rotate_eq g (P ++ A1) A2 B1 (B2 ++ Q) (by omega) (by omega) (by simp only [List.length_append]; omega) (by simp only [List.length_append]; omega) (by omega) (by simp only [List.length_append]; omega)]
            simp
          · have e : P ++ (A1 ++ A2 ++ (B1 ++ B2 ++ Q)) = P ++ (A1 ++ (B1 ++ (A2 ++ (B2 ++ Q)))) := by
              by_cases h2 : A2 = []
              · subst h2; simp
              · have : B1 = [] := by
                  have h3 : 0 < A2.length := List.length_pos_iff.2 h2
                  exact List.length_eq_zero_iff.1 (by omega)
                subst this; simp
            rw [show (decide (s < m) && decide (m < mid + m - s)) = false by rw [Bool.and_eq_false_iff, decide_eq_false_iff_not, decide_eq_false_iff_not]; omega, e]
            rfl
        rw [hrot]
        dsimp only
        -- the left half
        obtain ⟨R1, rec1, sR1, tR1⟩ : ∃ R1, (Option.bind (bif (decide (a < s) && decide (s < mid)) then (Option.bind (g_symMergeCmpFunc fu (P ++ (A1 ++ (B1 ++ (A2 ++ (B2 ++ Q))))) a s mid g) fun v5 => some v5) else (some (P ++ (A1 ++ (B1 ++ (A2 ++ (B2 ++ Q))))))) : (List α → Option (List α)) → Option (List α)) = (fun k => k (P ++ (R1 ++ (A2 ++ (B2 ++ Q))))) ∧ Srt g R1 ∧ Sta D g (A1 ++ B1) R1 := by
          by_cases h : a < s ∧ s < mid
          · obtain ⟨R1, r1, r2, r3⟩ := ih P A1 B1 (A2 ++ (B2 ++ Q)) a s mid ha (by omega) (by omega) (by omega) (by omega) (by rw [Nat.pow_succ] at hsz; omega) dA1 dB1 sA1 sB1 (by simp only [List.length_append]; omega)
            refine ⟨R1, ?_, r2, r3⟩
            funext k
            rw [decide_eq_true h.1, decide_eq_true h.2]
            simp only [Bool.and_self, cond_true]
            rw [r1]
            rfl
          · refine ⟨A1 ++ B1, ?_, ?_, Sta.refl _⟩
            · funext k
              rw [show (decide (a < s) && decide (s < mid)) = false by rw [Bool.and_eq_false_iff, decide_eq_false_iff_not, decide_eq_false_iff_not]; omega]
              simp
            · by_cases h2 : A1 = []
              · subst h2; simpa using sB1
              · have : B1 = [] := by
                  have h3 : 0 < A1.length := List.length_pos_iff.2 h2
                  exact List.length_eq_zero_iff.1 (by omega)
                subst this; rw [List.append_nil]; exact sA1
        rw [rec1]
        dsimp only
        have lR1 : R1.length = A1.length + B1.length := by have := tR1.len; simpa using this
        -- the right half
        obtain ⟨R2, rec2, sR2, tR2⟩ : ∃ R2, (bif (decide (mid < mid + m - s) && decide (mid + m - s < b)) then (Option.bind (g_symMergeCmpFunc fu (P ++ (R1 ++ (A2 ++ (B2 ++ Q)))) mid (mid + m - s) b g) fun v6 => some v6) else (some (P ++ (R1 ++ (A2 ++ (B2 ++ Q)))))) = some (P ++ (R1 ++ R2 ++ Q)) ∧ Srt g R2 ∧ Sta D g (A2 ++ B2) R2 := by
          by_cases h : mid < mid + m - s ∧ mid + m - s < b
          · obtain ⟨R2, r1, r2, r3⟩ := ih (P ++ R1) A2 B2 Q mid (mid + m - s) b (by simp only [List.length_append]; omega) (by omega) (by omega) (by omega) (by omega) (by rw [Nat.pow_succ] at hsz; omega) dA2 dB2 sA2 sB2 (by simp only [List.length_append]; omega)
            refine ⟨R2, ?_, r2, r3⟩
            rw [decide_eq_true h.1, decide_eq_true h.2]
            simp only [Bool.and_self, cond_true]
            rw [show P ++ (R1 ++ (A2 ++ (B2 ++ Q))) = (P ++ R1) ++ (A2 ++ (B2 ++ Q)) by simp, r1]
            simp
          · refine ⟨A2 ++ B2, ?_, ?_, Sta.refl _⟩
            · rw [show (decide (mid < mid + m - s) && decide (mid + m - s < b)) = false by rw [Bool.and_eq_false_iff, decide_eq_false_iff_not, decide_eq_false_iff_not]; omega]
              simp
            · by_cases h2 : A2 = []
              · subst h2; simpa using sB2
              · have : B2 = [] := by
                  have h3 : 0 < A2.length := List.length_pos_iff.2 h2
                  exact List.length_eq_zero_iff.1 (by omega)
                subst this; rw [List.append_nil]; exact sA2
        refine ⟨R1 ++ R2, rec2, Srt.app sR1 sR2 fun p hp q hq => ?_, ?_⟩
        · have hp' := tR1.perm.mem_iff.1 hp
          have hq' := tR2.perm.mem_iff.1 hq
          rcases List.mem_append.1 hp' with hp' | hp' <;> rcases List.mem_append.1 hq' with hq' | hq'
          · exact sA12 p hp' q hq'
          · exact lt2 p hp' q hq'
          · exact hs.asym _ _ (dB1 p hp') (dA2 q hq') (lt1 q hq' p hp')
          · exact sB12 p hp' q hq'
        · have h1 : Sta D g (A2 ++ B1) (B1 ++ A2) := Sta.swap hs dA2 dB1 lt1
          have h2 := Sta.app (Sta.refl (D := D) (g := g) A1) (Sta.app h1 (Sta.refl B2))
          have h3 := Sta.app tR1 tR2
          refine Sta.trans ?_ h3
          have e1 : A1 ++ (A2 ++ B1 ++ B2) = A1 ++ A2 ++ (B1 ++ B2) := by simp
          have e2 : A1 ++ (B1 ++ A2 ++ B2) = A1 ++ B1 ++ (A2 ++ B2) := by simp
          rw [e1, e2] at h2
          exact h2
end
section
variable {α : Type} {D : α → Prop} {g : α → α → Option Int}
theorem le64 {n : Nat} (h : n ≤ 4000000000) : n ≤ 2 ^ 64 := Nat.le_trans h (by decide)
theorem le25 {n : Nat} (h : n ≤ 400000000) : n ≤ 20 * 2 ^ 25 := Nat.le_trans h (by decide)
structure Runs (D : α → Prop) (g : α → α → Option Int) (bs : Nat) (L : List α) (Bs : List (List α)) (T : List α) : Prop where
  eq : L = Bs.flatten ++ T
  blk : ∀ B ∈ Bs, B.length = bs ∧ Srt g B
  rest : T.length < bs
theorem flatten_len {bs : Nat} : ∀ {Bs : List (List α)}, (∀ B ∈ Bs, B.length = bs ∧ Srt g B) → Bs.flatten.length = Bs.length * bs
  | [], _ => by simp
  | B :: Bs, h => by
    rw [List.flatten_cons, List.length_append, flatten_len fun X hX => h X (List.mem_cons_of_mem _ hX), (h B (List.mem_cons_self ..)).1, List.length_cons, Nat.succ_mul]; omega
theorem st1_loop (hs : SW D g) (n : Int) : ∀ (k : Nat) (L P : List α), L.length ≤ k → n = (P.length : Int) + (L.length : Int) → AllD D L → P.length + L.length ≤ 1000000000 →
    ∃ (Bs : List (List α)) (T : List α) (a' b' : Int), loopM (g_stableCmpFunc_b1 n g) ((P.length : Int), (P.length : Int) + 20, P ++ L) = some (.inl (a', b', P ++ (Bs.flatten ++ T))) ∧ a' = (P.length : Int) + (Bs.flatten.length : Int) ∧ (∀ B ∈ Bs, B.length = 20 ∧ Srt g B) ∧ T.length < 20 ∧ Sta D g L (Bs.flatten ++ T)
  | 0, L, P, hk, hn, dL, hN => by
    refine ⟨[], L, (P.length : Int), (P.length : Int) + 20, loopM_out ?_, by simp, by simp, by omega, Sta.refl L⟩
    unfold g_stableCmpFunc_b1
    simp only
    rw [show decide ((P.length : Int) + 20 ≤ n) = false from decide_eq_false (by omega)]
    simp
  | k + 1, L, P, hk, hn, dL, hN => by
    by_cases h : 20 ≤ L.length
    · obtain ⟨A, L', rfl, hA⟩ : ∃ A L', L = A ++ L' ∧ A.length = 20 := ⟨L.take 20, L.drop 20, by rw [List.take_append_drop], by rw [List.length_take]; omega⟩
      rw [List.length_append] at hk hn hN
      have dA : AllD D A := fun z hz => dL z (List.mem_append_left _ hz)
      obtain ⟨R, r1, r2, r3⟩ := insertion_eq hs P A L' (a := (P.length : Int)) (b := (P.length : Int) + 20) rfl (by omega) dA (by omega)
      have hR : R.length = 20 := by rw [r3.len, hA]
      obtain ⟨Bs, T, a', b', s1, s2, s3, s4, s5⟩ := st1_loop hs n k L' (P ++ R) (by omega) (by rw [List.length_append]; omega) (fun z hz => dL z (List.mem_append_right _ hz)) (by rw [List.length_append]; omega)
      refine ⟨R :: Bs, T, a', b', ?_, ?_, ?_, s4, ?_⟩
      · have e : loopM (g_stableCmpFunc_b1 n g) ((P.length : Int), (P.length : Int) + 20, P ++ (A ++ L')) = loopM (g_stableCmpFunc_b1 n g) (((P ++ R).length : Int), ((P ++ R).length : Int) + 20, (P ++ R) ++ L') := by
          refine loopM_next ?_
          unfold g_stableCmpFunc_b1
          simp only
          rw [show decide ((P.length : Int) + 20 ≤ n) = true from decide_eq_true (by omega), w64_of (n := (P.length : Int) + 20 + 20) (by omega) (by omega)]
          simp only [cond_true]
          rw [r1, Option.bind_some, List.length_append, hR, List.append_assoc, show ((P.length + 20 : Nat) : Int) = (P.length : Int) + 20 by omega]
        rw [e, s1]
        simp
      · rw [List.flatten_cons, List.length_append, hR]
        rw [List.length_append, hR] at s2
        omega
      · intro B hB
        rcases List.mem_cons.1 hB with rfl | hB
        · exact ⟨hR, r2⟩
        · exact s3 B hB
      · have := Sta.app r3 s5
        simpa using this
    · refine ⟨[], L, (P.length : Int), (P.length : Int) + 20, loopM_out ?_, by simp, by simp, by omega, Sta.refl L⟩
      unfold g_stableCmpFunc_b1
      simp only
      rw [show decide ((P.length : Int) + 20 ≤ n) = false from decide_eq_false (by omega)]
      simp
theorem st3_loop (hs : SW D g) (n : Int) (bs : Nat) (s3 : Int × List α) (hbs : s3.1 = (bs : Int)) (h0 : 0 < bs) (hb1 : bs ≤ 1000000000) : ∀ (k : Nat) (Bs : List (List α)), Bs.length ≤ k → ∀ (P T : List α), n = (P.length : Int) + (Bs.flatten.length : Int) + (T.length : Int) → AllD D Bs.flatten → AllD D T → (∀ B ∈ Bs, B.length = bs ∧ Srt g B) → T.length < bs → P.length + Bs.flatten.length + T.length ≤ 1000000000 →
    ∃ (Bs' R : List (List α)) (a' b' : Int), loopM (g_stableCmpFunc_b3 n g s3) ((P.length : Int), (P.length : Int) + 2 * (bs : Int), P ++ (Bs.flatten ++ T)) = some (.inl (a', b', P ++ (Bs'.flatten ++ (R.flatten ++ T)))) ∧ a' = (P.length : Int) + (Bs'.flatten.length : Int) ∧ (∀ B ∈ Bs', B.length = 2 * bs ∧ Srt g B) ∧ (R = [] ∨ ∃ A, R = [A] ∧ A.length = bs ∧ Srt g A) ∧ Sta D g Bs.flatten (Bs'.flatten ++ R.flatten) := by
  intro k
  induction k with
  | zero =>
    intro Bs hk P T hn dB dT hB hT hN
    have : Bs = [] := List.length_eq_zero_iff.1 (by omega)
    subst this
    simp only [List.flatten_nil, List.length_nil, List.nil_append] at *
    refine ⟨[], [], (P.length : Int), (P.length : Int) + 2 * (bs : Int), loopM_out ?_, by simp, by simp, .inl rfl, Sta.refl _⟩
    unfold g_stableCmpFunc_b3
    simp only
    rw [show decide ((P.length : Int) + 2 * (bs : Int) ≤ n) = false from decide_eq_false (by omega)]
    simp
  | succ k ih =>
    intro Bs hk P T hn dB dT hB hT hN
    match Bs with
    | [] =>
      simp only [List.flatten_nil, List.length_nil, List.nil_append] at *
      refine ⟨[], [], (P.length : Int), (P.length : Int) + 2 * (bs : Int), loopM_out ?_, by simp, by simp, .inl rfl, Sta.refl _⟩
      unfold g_stableCmpFunc_b3
      simp only
      rw [show decide ((P.length : Int) + 2 * (bs : Int) ≤ n) = false from decide_eq_false (by omega)]
      simp
    | [A] =>
      have hA := hB A (by simp)
      simp only [List.flatten_cons, List.flatten_nil, List.append_nil] at *
      refine ⟨[], [A], (P.length : Int), (P.length : Int) + 2 * (bs : Int), loopM_out ?_, by simp, by simp, .inr ⟨A, rfl, hA⟩, by simpa using Sta.refl A⟩
      unfold g_stableCmpFunc_b3
      simp only
      rw [show decide ((P.length : Int) + 2 * (bs : Int) ≤ n) = false from decide_eq_false (by omega)]
      simp
    | A :: B :: Bs =>
      have hA := hB A (by simp)
      have hB' := hB B (by simp)
      simp only [List.flatten_cons, List.length_append, List.length_cons] at hn hN hk
      have dA : AllD D A := fun z hz => dB z (by simp [hz])
      have dB1 : AllD D B := fun z hz => dB z (by simp [hz])
      have dBs : AllD D Bs.flatten := fun z hz => dB z (by simp only [List.flatten_cons, List.mem_append]; exact .inr (.inr hz))
      obtain ⟨R, r1, r2, r3⟩ := symMerge_eq hs 64 P A B (Bs.flatten ++ T) (P.length : Int) ((P.length : Int) + (bs : Int)) ((P.length : Int) + 2 * (bs : Int)) rfl (by omega) (by omega) (by omega) (by omega) (le64 (by omega)) dA dB1 hA.2 hB'.2 (by rw [List.length_append]; omega)
      have hR : R.length = 2 * bs := by have := r3.len; rw [List.length_append] at this; omega
      obtain ⟨Bs', R', a', b', s1, s2, s4, s5, s6⟩ := ih Bs (by omega) (P ++ R) T (by rw [List.length_append]; omega) dBs dT (fun X hX => hB X (by simp [hX])) hT (by rw [List.length_append]; omega)
      refine ⟨R :: Bs', R', a', b', ?_, ?_, ?_, s5, ?_⟩
      · have e : loopM (g_stableCmpFunc_b3 n g s3) ((P.length : Int), (P.length : Int) + 2 * (bs : Int), P ++ ((A :: B :: Bs).flatten ++ T)) = loopM (g_stableCmpFunc_b3 n g s3) (((P ++ R).length : Int), ((P ++ R).length : Int) + 2 * (bs : Int), (P ++ R) ++ (Bs.flatten ++ T)) := by
          refine loopM_next ?_
          unfold g_stableCmpFunc_b3
          simp only
          rw [hbs, show decide ((P.length : Int) + 2 * (bs : Int) ≤ n) = true from decide_eq_true (by omega), w64_of (n := (P.length : Int) + (bs : Int)) (by omega) (by omega), w64_of (n := 2 * (bs : Int)) (by omega) (by omega), w64_of (n := (P.length : Int) + 2 * (bs : Int) + 2 * (bs : Int)) (by omega) (by omega)]
          simp only [cond_true]
          rw [show P ++ ((A :: B :: Bs).flatten ++ T) = P ++ (A ++ (B ++ (Bs.flatten ++ T))) by simp, r1, Option.bind_some, List.length_append, hR, List.append_assoc, show ((P.length + 2 * bs : Nat) : Int) = (P.length : Int) + 2 * (bs : Int) by omega]
        rw [e, s1]
        simp
      · rw [List.flatten_cons, List.length_append, hR]
        rw [List.length_append, hR] at s2
        omega
      · intro X hX
        rcases List.mem_cons.1 hX with rfl | hX
        · exact ⟨hR, r2⟩
        · exact s4 X hX
      · have := Sta.app r3 s6
        simpa using this
theorem st2_loop (hs : SW D g) (n : Int) : ∀ (k bs : Nat) (L : List α) (Bs : List (List α)) (T : List α), n = (L.length : Int) → L.length ≤ bs * 2 ^ k → 0 < bs → bs ≤ 1000000000 → L.length ≤ 400000000 → AllD D L → Runs D g bs L Bs T → Srt g T →
    ∃ c R, loopM (g_stableCmpFunc_b2 n g) ((bs : Int), L) = some (.inl (c, R)) ∧ Srt g R ∧ Sta D g L R := by
  have stop : ∀ (bs : Nat) (L : List α) (Bs : List (List α)) (T : List α), n = (L.length : Int) → L.length ≤ bs → Runs D g bs L Bs T → Srt g T → ∃ c R, loopM (g_stableCmpFunc_b2 n g) ((bs : Int), L) = some (.inl (c, R)) ∧ Srt g R ∧ Sta D g L R := by
    intro bs L Bs T hn hl hr hT
    refine ⟨(bs : Int), L, loopM_out ?_, ?_, Sta.refl _⟩
    · unfold g_stableCmpFunc_b2
      simp only
      rw [show decide ((bs : Int) < n) = false from decide_eq_false (by omega)]
      rfl
    · have he := hr.eq
      have hfl := flatten_len (g := g) hr.blk
      match Bs, hr, he, hfl with
      | [], _, he, _ => rw [he]; simpa using hT
      | [A], hr, he, _ =>
        have hA := hr.blk A (by simp)
        have hlen : L.length = A.length + T.length := by rw [he]; simp
        have : T = [] := List.length_eq_zero_iff.1 (by omega)
        subst this
        rw [he]; simpa using hA.2
      | A :: B :: Bs, hr, he, hfl =>
        exfalso
        have hA := hr.blk A (by simp)
        have hB := hr.blk B (by simp)
        have hlen : L.length = A.length + (B.length + Bs.flatten.length) + T.length := by rw [he]; simp; omega
        have := hr.rest
        omega
  intro k
  induction k with
  | zero =>
    intro bs L Bs T hn hl _ _ _ _ hr hT
    exact stop bs L Bs T hn (by simpa using hl) hr hT
  | succ k ih =>
    intro bs L Bs T hn hl h0 hb1 hL1 dL hr hT
    by_cases hlt : L.length ≤ bs
    · exact stop bs L Bs T hn hlt hr hT
    · have he := hr.eq
      have hlen : L.length = Bs.flatten.length + T.length := by rw [he, List.length_append]
      have dB : AllD D Bs.flatten := fun z hz => dL z (by rw [he]; exact List.mem_append_left _ hz)
      have dT : AllD D T := fun z hz => dL z (by rw [he]; exact List.mem_append_right _ hz)
      obtain ⟨Bs', R, a', b', s1, s2, s3, s4, s5⟩ := st3_loop hs n bs ((bs : Int), L) rfl h0 hb1 Bs.length Bs (Nat.le_refl _) [] T (by simp only [List.length_nil]; omega) dB dT hr.blk hr.rest (by simp only [List.length_nil]; omega)
      simp only [List.length_nil, List.nil_append] at s1 s2
      rw [← he, show ((0 : Nat) : Int) + 2 * (bs : Int) = 2 * (bs : Int) by omega, show ((0 : Nat) : Int) = 0 from rfl] at s1
      have l5 := s5.len
      rw [List.length_append] at l5
      have hfin : ∃ T', g_stableCmpFunc_b2 n g ((bs : Int), L) = some (.inl (((2 * bs : Nat) : Int), Bs'.flatten ++ T')) ∧ Srt g T' ∧ T'.length < 2 * bs ∧ Sta D g (R.flatten ++ T) T' := by
        have body : ∀ X : List α, (bif decide (w64 (a' + (bs : Int)) < n) then (Option.bind (g_symMergeCmpFunc 64 (Bs'.flatten ++ (R.flatten ++ T)) a' (w64 (a' + (bs : Int))) n g) fun v4 => (some (.inl (w64 ((bs : Int) * 2), v4)) : Option ((Int × List α) ⊕ ((Int × List α) ⊕ Empty)))) else (some (.inl (w64 ((bs : Int) * 2), Bs'.flatten ++ (R.flatten ++ T))))) = some (.inl (((2 * bs : Nat) : Int), X)) → g_stableCmpFunc_b2 n g ((bs : Int), L) = some (.inl (((2 * bs : Nat) : Int), X)) := fun X hX => by
          unfold g_stableCmpFunc_b2
          simp only
          rw [show decide ((bs : Int) < n) = true from decide_eq_true (by omega), w64_of (n := 2 * (bs : Int)) (by omega) (by omega)]
          simp only [cond_true]
          rw [s1]
          exact hX
        rcases s4 with rfl | ⟨A, rfl, hA, hsA⟩
        · simp only [List.flatten_nil, List.nil_append, List.length_nil] at *
          refine ⟨T, body _ ?_, hT, by have := hr.rest; omega, Sta.refl _⟩
          rw [w64_of (n := a' + (bs : Int)) (by omega) (by omega), w64_of (n := (bs : Int) * 2) (by omega) (by omega), show decide (a' + (bs : Int) < n) = false from decide_eq_false (by have := hr.rest; omega)]
          rw [show (bs : Int) * 2 = ((2 * bs : Nat) : Int) by omega]
          rfl
        · simp only [List.flatten_cons, List.flatten_nil, List.append_nil] at *
          by_cases hT0 : T = []
          · subst hT0
            simp only [List.append_nil, List.length_nil] at *
            refine ⟨A, body _ ?_, hsA, by omega, Sta.refl _⟩
            rw [w64_of (n := a' + (bs : Int)) (by omega) (by omega), w64_of (n := (bs : Int) * 2) (by omega) (by omega), show decide (a' + (bs : Int) < n) = false from decide_eq_false (by omega)]
            rw [show (bs : Int) * 2 = ((2 * bs : Nat) : Int) by omega]
            rfl
          · have hTp : 0 < T.length := List.length_pos_iff.2 hT0
            have hrr := hr.rest
            have dA : AllD D A := s5.all dB |> fun h z hz => h z (List.mem_append_right _ hz)
            obtain ⟨R', r1, r2, r3⟩ := symMerge_eq hs 64 Bs'.flatten A T [] a' (a' + (bs : Int)) n (by omega) (by omega) (by omega) (by omega) hTp (le64 (by omega)) dA dT hsA hT (by simp only [List.length_nil]; omega)
            simp only [List.append_nil] at r1
            refine ⟨R', body _ ?_, r2, by have := r3.len; rw [List.length_append] at this; omega, r3⟩
            rw [w64_of (n := a' + (bs : Int)) (by omega) (by omega), w64_of (n := (bs : Int) * 2) (by omega) (by omega), show decide (a' + (bs : Int) < n) = true from decide_eq_true (by omega)]
            simp only [cond_true]
            rw [r1, show (bs : Int) * 2 = ((2 * bs : Nat) : Int) by omega]
            rfl
      obtain ⟨T', f1, f2, f3, f4⟩ := hfin
      have hst : Sta D g L (Bs'.flatten ++ T') := by
        have h1 := Sta.app s5 (Sta.refl (D := D) (g := g) T)
        rw [← he] at h1
        refine Sta.trans h1 ?_
        rw [List.append_assoc]
        exact Sta.app (Sta.refl _) f4
      have hl2 := hst.len
      obtain ⟨c, R2, g1, g2, g3⟩ := ih (2 * bs) (Bs'.flatten ++ T') Bs' T' (by omega) (by rw [hl2]; rw [Nat.pow_succ] at hl; rw [Nat.mul_comm 2 bs, Nat.mul_assoc, Nat.mul_comm 2]; exact hl) (by omega) (by omega) (by omega) (hst.all dL) ⟨rfl, s3, f3⟩ f2
      exact ⟨c, R2, by rw [loopM_next f1, g1], g2, hst.trans g3⟩
theorem stable_eq (hs : SW D g) (l : List α) (dl : AllD D l) (hN : l.length ≤ 400000000) : ∃ r, g_SortStableFunc l g = some r ∧ Srt g r ∧ Sta D g l r := by
  unfold g_SortStableFunc g_stableCmpFunc
  obtain ⟨Bs, T, a', b', s1, s2, s3, s4, s5⟩ := st1_loop hs (l.length : Int) l.length l [] (Nat.le_refl _) (by simp) dl (by simp only [List.length_nil]; omega)
  simp only [List.length_nil, List.nil_append] at s1 s2
  rw [show ((0 : Nat) : Int) + 20 = 20 from rfl, show ((0 : Nat) : Int) = 0 from rfl] at s1
  rw [s1]
  simp only [Option.bind_some]
  have hl5 := s5.len
  rw [List.length_append] at hl5
  have dall := s5.all dl
  obtain ⟨R, r1, r2, r3⟩ := insertion_eq hs Bs.flatten T [] (a := a') (b := (l.length : Int)) (by omega) (by omega) (fun z hz => dall z (List.mem_append_right _ hz)) (by omega)
  simp only [List.append_nil] at r1
  rw [r1]
  simp only [Option.bind_some]
  have hst : Sta D g l (Bs.flatten ++ R) := s5.trans (Sta.app (Sta.refl _) r3)
  have hRl := r3.len
  have hll := hst.len
  obtain ⟨c, R2, g1, g2, g3⟩ := st2_loop hs (l.length : Int) 25 20 (Bs.flatten ++ R) Bs R (by omega) (le25 (by omega)) (by omega) (by omega) (by omega) (hst.all dl) ⟨rfl, s3, by omega⟩ r2
  rw [show (20 : Int) = ((20 : Nat) : Int) from rfl, g1]
  exact ⟨R2, rfl, g2, hst.trans g3⟩
theorem srt_uniq (hs : SW D g) : ∀ {r s : List α}, AllD D r → AllD D s → Srt g r → Srt g s → (∀ x, D x → r.filter (eqv g x) = s.filter (eqv g x)) → r = s
  | [], [], _, _, _, _, _ => rfl
  | [], y :: s, _, ds, _, _, h => by
    have dy := ds y (by simp)
    have := h y dy
    rw [List.filter_nil, List.filter_cons_of_pos (by unfold eqv; rw [hs.irr dy]; rfl)] at this
    cases this
  | x :: r, [], dr, _, _, _, h => by
    have dx := dr x (by simp)
    have := h x dx
    rw [List.filter_nil, List.filter_cons_of_pos (by unfold eqv; rw [hs.irr dx]; rfl)] at this
    cases this
  | x :: r, y :: s, dr, ds, sr, ss, h => by
    have dx := dr x (by simp)
    have dy := ds y (by simp)
    have exx : eqv g x x = true := by unfold eqv; rw [hs.irr dx]; rfl
    have eyy : eqv g y y = true := by unfold eqv; rw [hs.irr dy]; rfl
    rw [Srt, List.pairwise_cons] at sr ss
    have hx := h x dx
    have hy := h y dy
    have mx : x ∈ (y :: s).filter (eqv g x) := by rw [← hx, List.filter_cons_of_pos exx]; exact List.mem_cons_self ..
    have my : y ∈ (x :: r).filter (eqv g y) := by rw [hy, List.filter_cons_of_pos eyy]; exact List.mem_cons_self ..
    have m1 := (List.mem_filter.1 mx).1
    have m2 := (List.mem_filter.1 my).1
    have exy : eqv g x y = true := by
      have a1 : ltM g x y = false := by
        rcases List.mem_cons.1 m1 with e | m1
        · rw [e]; exact hs.irr dy
        · exact ss.1 x m1
      have a2 : ltM g y x = false := by
        rcases List.mem_cons.1 m2 with e | m2
        · rw [e]; exact hs.irr dx
        · exact sr.1 y m2
      unfold eqv; rw [a1, a2]; rfl
    have hxy : x = y := by
      rw [List.filter_cons_of_pos exx, List.filter_cons_of_pos exy] at hx
      exact (List.cons.inj hx).1
    subst hxy
    rw [srt_uniq hs (fun z hz => dr z (by simp [hz])) (fun z hz => ds z (by simp [hz])) sr.2 ss.2 fun z dz => by
      have := h z dz
      rw [List.filter_cons, List.filter_cons] at this
      split at this
      · exact (List.cons.inj this).2
      · exact this]
end
end Go.Pv
set_option linter.unusedSimpArgs false
namespace Go.Pv
open Go
def elB (n : Int) : Bool := decide (n ≥ -1073741824) && decide (n ≤ 1073741824)
theorem q445 (n : Int) : q119 n = some (elB n) := rfl
def axP (l : List Int) (i : Nat) : Bool := match l[i]? with
  | none => false
  | some x => elB x && (i == 0 || (match l[i - 1]? with | none => false | some y => decide (y < x)))
def axB (l : List Int) : Bool := !(decide ((l.length : Int) < 2) || decide ((l.length : Int) > 32)) && (List.range' 0 l.length).all (axP l)
theorem q566 (k : Nat) (h : k < 1000000) : w64 (((k + 1 : Nat) : Int) - 1) = (k : Int) := by rw [w64_of (by omega) (by omega)]; omega
theorem obs {α : Type} (o : Option α) : (o.bind fun b => some b) = o := by cases o <;> rfl
theorem q536 (l : List Int) (j : Nat) (hj : j < l.length) (hl : l.length ≤ 32) :
    (Option.bind (getI l j) fun x => Option.bind (q119 x) fun v => Option.bind (bif (!v) then (some true) else (Option.bind (bif (decide ((j : Int) > 0)) then (Option.bind (getI l (w64 (j - 1))) fun x2 => some (decide (x ≤ x2))) else (some false)) fun b2 => some b2)) fun b3 => some b3) = some (!axP l j) := by
  rw [getI_nat, List.getElem?_eq_getElem hj]
  simp only [Option.bind_some, q445]
  unfold axP
  rw [List.getElem?_eq_getElem hj]
  simp only
  cases elB l[j]
  · rfl
  · simp only [Bool.not_true, cond_false, Bool.true_and]
    cases j with
    | zero => rfl
    | succ k =>
      have e : decide (((k + 1 : Nat) : Int) > 0) = true := by rw [decide_eq_true_eq]; omega
      have hk : k < l.length := by omega
      rw [e, q566 k (by omega), getI_nat, List.getElem?_eq_getElem hk]
      simp only [cond_true, Option.bind_some, Nat.add_sub_cancel, List.getElem?_eq_getElem hk, Option.some.injEq]
      rw [Bool.eq_iff_iff]
      simp
theorem axis_eq (l : List Int) : q188 l = some (axB l) := by
  unfold q188 axB
  cases h : (decide ((l.length : Int) < 2) || decide ((l.length : Int) > 32))
  · have hl : l.length ≤ 32 := by simp at h; omega
    have k := stepsN_all (f := q254 l) (p := axP l) (r := false) l.length 0 (fun j _ hj => by
      have s := q536 l j (by omega) hl
      unfold q254
      rw [getI_nat, List.getElem?_eq_getElem (by omega)] at s ⊢
      simp only [Option.bind_some, q445] at s ⊢
      simp only [obs] at s ⊢
      rw [s]
      cases axP l j <;> rfl)
    rw [rangeN_steps _ (by omega)]
    rw [show ((0 : Nat) : Int) = 0 from rfl] at k
    rw [k]
    cases (List.range' 0 l.length).all (axP l) <;> rfl
  · rfl
theorem q535 (z : Int) : q94 z = some (!elB z) := rfl
theorem q280 (l : List Int) (hn : l.length ≤ 9223372036854775807) : q19 l q94 = some (l.any fun z => !elB z) :=
  index_any l hn q94 _ (fun y _ => q535 y)
def rowB (m : SMap) (x : List Int) : Bool := !((x.length : Int) != (m.Y.length : Int)) && !(x.any fun z => !elB z)
def mapB (m : SMap) : Bool := axB m.X && axB m.Y && !((m.Z.length : Int) != (m.X.length : Int)) && m.Z.all (rowB m)
theorem axB_len {l : List Int} (h : axB l = true) : 2 ≤ l.length ∧ l.length ≤ 32 := by
  unfold axB at h
  simp at h
  omega
theorem q62 (m : SMap) : q50 m = some (mapB m) := by
  unfold q50 mapB
  rw [axis_eq, axis_eq]
  simp only [Option.bind_some]
  cases h1 : axB m.X
  · rfl
  · cases h2 : axB m.Y
    · rfl
    · have l1 := axB_len h1
      have l2 := axB_len h2
      simp only [Bool.not_true, cond_false, Option.bind_some, Bool.false_or, Bool.and_true, Bool.true_and]
      cases h3 : ((m.Z.length : Int) != (m.X.length : Int))
      · have l3 : m.Z.length = m.X.length := by simp at h3; omega
        rw [rangeM_steps _ (by omega), stepsL_all (p := rowB m) (r := false)]
        · simp only [cond_false, Bool.not_false, Bool.true_and, Option.bind_some]
          cases m.Z.all (rowB m) <;> rfl
        · intro i y hy
          unfold q322 rowB
          cases h4 : ((y.length : Int) != (m.Y.length : Int))
          · have l4 : y.length = m.Y.length := by simp at h4; omega
            rw [q280 y (by omega)]
            simp only [cond_false, Option.bind_some, Bool.not_false, Bool.true_and]
            cases (y.any fun z => !elB z) <;> rfl
          · rfl
      · rfl
end Go.Pv
set_option linter.unusedSimpArgs false
namespace Go.Pv
open Go
structure Axis (l : List Int) : Prop where
  two : 2 ≤ l.length
  most : l.length ≤ 32
  el : ∀ i (h : i < l.length), -1073741824 ≤ l[i] ∧ l[i] ≤ 1073741824
  asc : ∀ i (h : i + 1 < l.length), l[i] < l[i + 1]
theorem axis_of {l : List Int} (h : axB l = true) : Axis l := by
  obtain ⟨h2, h3⟩ := axB_len h
  unfold axB at h
  rw [Bool.and_eq_true, List.all_eq_true] at h
  have hp : ∀ i (hi : i < l.length), axP l i = true := fun i hi => h.2 i (by rw [List.mem_range']; exact ⟨i, hi, by omega⟩)
  refine ⟨h2, h3, fun i hi => ?_, fun i hi => ?_⟩
  · have := hp i hi
    unfold axP at this
    rw [List.getElem?_eq_getElem hi] at this
    simp [elB] at this
    omega
  · have := hp (i + 1) hi
    unfold axP at this
    rw [List.getElem?_eq_getElem hi, Nat.add_sub_cancel, List.getElem?_eq_getElem (by omega : i < l.length)] at this
    simp at this
    exact this.2
theorem Axis.lt {l : List Int} (h : Axis l) : ∀ (j i : Nat) (hj : j < l.length) (hi : i < j), l[i] < l[j]
  | 0, _, _, hi => absurd hi (by omega)
  | j + 1, i, hj, hi => by
    rcases Nat.lt_or_ge i j with h1 | h1
    · exact Int.lt_trans (h.lt j i (by omega) h1) (h.asc j hj)
    · have : i = j := by omega
      subst this
      exact h.asc i hj
theorem Axis.le {l : List Int} (h : Axis l) (j i : Nat) (hj : j < l.length) (hi : i ≤ j) : l[i] ≤ l[j] := by
  rcases Nat.lt_or_ge i j with h1 | h1
  · exact Int.le_of_lt (h.lt j i hj h1)
  · have : i = j := by omega
    subst this
    exact Int.le_refl _
def lim (l : List Int) (x : Int) : Int := min (max x (l.headD 0)) (l.getLastD 0)
theorem q338 (l : List Int) (h : 0 < l.length) : l.headD 0 = l[0] := by cases l with
  | nil => simp at h
  | cons a l => rfl
theorem q249 (l : List Int) (h : 0 < l.length) : l.getLastD 0 = l[l.length - 1] := by
  cases l with
  | nil => simp at h
  | cons a l => rw [List.getLastD_cons, ← List.getLast_eq_getElem (List.cons_ne_nil a l), List.getLast_eq_getLastD]
theorem q520 {l : List Int} (h : Axis l) (x : Int) : l.headD 0 ≤ lim l x ∧ lim l x ≤ l.getLastD 0 := by
  have h2 := h.two
  have := h.le (l.length - 1) 0 (by omega) (by omega)
  unfold lim
  rw [q338 l (by omega), q249 l (by omega)]
  omega
def SegAt (l : List Int) (v : Int) (i : Nat) : Prop := ∃ h : i + 1 < l.length, l[i] ≤ v ∧ v ≤ l[i + 1] ∧ (i + 2 = l.length ∨ v < l[i + 1])
def nd (l : List Int) (i : Nat) : Int := l.getD i 0
def zz (m : SMap) (i j : Nat) : Int := (m.Z.getD i []).getD j 0
theorem nd_get {l : List Int} {i : Nat} (h : i < l.length) : nd l i = l[i] := by unfold nd; rw [List.getD_eq_getElem?_getD, List.getElem?_eq_getElem h]; rfl
theorem zz_get {m : SMap} {i j : Nat} (h : i < m.Z.length) (h2 : j < m.Z[i].length) : zz m i j = m.Z[i][j] := by
  unfold zz
  have e : m.Z.getD i [] = m.Z[i] := by rw [List.getD_eq_getElem?_getD, List.getElem?_eq_getElem h]; rfl
  rw [e, List.getD_eq_getElem?_getD, List.getElem?_eq_getElem h2]; rfl
structure MapOk (m : SMap) : Prop where
  x : Axis m.X
  y : Axis m.Y
  zl : m.Z.length = m.X.length
  rl : ∀ i (h : i < m.Z.length), m.Z[i].length = m.Y.length
  el : ∀ i j, i < m.X.length → j < m.Y.length → -1073741824 ≤ zz m i j ∧ zz m i j ≤ 1073741824
theorem mapOk {m : SMap} (h : mapB m = true) : MapOk m := by
  unfold mapB at h
  simp only [Bool.and_eq_true, Bool.not_eq_true', List.all_eq_true] at h
  obtain ⟨⟨⟨hx, hy⟩, hz⟩, hr⟩ := h
  have lz : m.Z.length = m.X.length := by simp at hz; omega
  have len : ∀ r ∈ m.Z, r.length = m.Y.length ∧ ∀ z ∈ r, -1073741824 ≤ z ∧ z ≤ 1073741824 := by
    intro r hrm
    have := hr r hrm
    unfold rowB at this
    simp [elB] at this
    refine ⟨by omega, fun z hz => ?_⟩
    have := this.2 z hz
    omega
  refine ⟨axis_of hx, axis_of hy, lz, fun i hi => (len _ (List.getElem_mem hi)).1, fun i j hi hj => ?_⟩
  have hiz : i < m.Z.length := by omega
  have := len _ (List.getElem_mem hiz)
  have hj' : j < m.Z[i].length := by omega
  rw [zz_get hiz hj']
  exact this.2 _ (List.getElem_mem hj')
theorem axB_iff {l : List Int} : axB l = true ↔ Axis l := by
  refine ⟨axis_of, fun h => ?_⟩
  have h2 := h.two
  have h3 := h.most
  unfold axB
  rw [Bool.and_eq_true, List.all_eq_true]
  refine ⟨by simp; omega, fun i hi => ?_⟩
  rw [List.mem_range'] at hi
  obtain ⟨j, hj, rfl⟩ := hi
  have hj' : 0 + 1 * j = j := by omega
  rw [hj']
  unfold axP
  rw [List.getElem?_eq_getElem hj]
  have e := h.el j hj
  cases j with
  | zero => simp [elB]; omega
  | succ k =>
    have a := h.asc k hj
    rw [Nat.add_sub_cancel, List.getElem?_eq_getElem (by omega : k < l.length)]
    simp [elB]; omega
theorem q163 {a b : Bool} (h : a = true ↔ b = true) : a = b := Bool.eq_iff_iff.2 h
end Go.Pv
set_option linter.unusedSimpArgs false
namespace Go.Pv
open Go
theorem q88 (l : List Int) (hn : l.length ≤ 9223372036854775807) (f : Int → Option Bool) (p : Int → Bool) (h : ∀ y ∈ l, f y = some (p y)) : q19 l f = some (l.any p) :=
  index_any l hn f p h
theorem far_el (n : Int) : q128 n = some (!elB n) := by
  unfold q128 elB
  rw [Option.some.injEq, Bool.eq_iff_iff]
  simp only [Bool.or_eq_true, Bool.not_eq_true', Bool.and_eq_false_iff, decide_eq_true_eq, decide_eq_false_iff_not]
  omega
theorem q549 (l : List Int) : q305 l = some (axB l) := by
  unfold q305
  cases h : (decide ((l.length : Int) < 2) || decide ((l.length : Int) > 32))
  · have hl : 2 ≤ l.length ∧ l.length ≤ 32 := by simp at h; omega
    rw [cond_false, q88 l (by omega) q128 _ (fun y _ => far_el y)]
    simp only [Option.bind_some]
    cases hf : (l.any fun n => !elB n)
    · have hall : ∀ i (hi : i < l.length), -1073741824 ≤ l[i] ∧ l[i] ≤ 1073741824 := fun i hi => by
        rw [List.any_eq_false] at hf
        have := hf _ (List.getElem_mem hi)
        simp [elB] at this
        omega
      have e : w64 ((l.length : Int) - 1) = ((l.length - 1 : Nat) : Int) := by rw [w64_of (by omega) (by omega)]; omega
      have k := stepsN_all (f := q295 l) (p := fun j => decide (nd l j < nd l (j + 1))) (r := false) (l.length - 1) 0 (fun j _ hj => by
        unfold q295
        rw [w64_of (by omega) (by omega), show (j : Int) + 1 = ((j + 1 : Nat) : Int) from rfl, getI_get l j (by omega), Option.bind_some, getI_get l (j + 1) (by omega), Option.bind_some, nd_get (by omega), nd_get (by omega)]
        by_cases q : l[j] < l[j + 1]
        · rw [decide_eq_true q, decide_eq_false (by omega)]; rfl
        · rw [decide_eq_false q, decide_eq_true (by omega)]; rfl)
      rw [show ((0 : Nat) : Int) = 0 from rfl] at k
      rw [cond_false, e, rangeN_steps _ (by omega), k]
      have : ((List.range' 0 (l.length - 1)).all fun j => decide (nd l j < nd l (j + 1))) = axB l := by
        apply q163
        rw [axB_iff, List.all_eq_true]
        constructor
        · intro q
          refine ⟨hl.1, hl.2, hall, fun i hi => ?_⟩
          have := q i (by rw [List.mem_range']; exact ⟨i, by omega, by omega⟩)
          rw [decide_eq_true_eq, nd_get (by omega), nd_get hi] at this
          exact this
        · intro q i hi
          rw [List.mem_range'] at hi
          obtain ⟨j, hj, rfl⟩ := hi
          rw [show 0 + 1 * j = j by omega, decide_eq_true_eq, nd_get (by omega), nd_get (by omega)]
          exact q.asc j (by omega)
      rw [this]
      cases axB l <;> rfl
    · have : axB l = false := by
        cases q : axB l
        · rfl
        · have := (axB_iff.1 q).el
          rw [List.any_eq_true] at hf
          obtain ⟨z, hz, hz2⟩ := hf
          obtain ⟨i, hi, rfl⟩ := List.mem_iff_getElem.1 hz
          have := this i hi
          simp [elB] at hz2
          omega
      rw [this]
      rfl
  · unfold axB
    rw [h]
    rfl
def curB (c : SCurve) : Bool := ((c.X.length : Int) == (c.Y.length : Int)) && axB c.X && !(c.Y.any fun n => !elB n)
theorem q68 (c : SCurve) : q58 c = some (curB c) := by
  unfold q58 curB
  cases h : ((c.X.length : Int) == (c.Y.length : Int))
  · rfl
  · rw [cond_true, q549]
    simp only [Option.bind_some, Bool.true_and]
    cases h2 : axB c.X
    · rfl
    · have := axB_len h2
      have hl : c.Y.length = c.X.length := by simp at h; omega
      rw [cond_true, q88 c.Y (by omega) q128 _ (fun y _ => far_el y)]
      rfl
structure CurOk (c : SCurve) : Prop where
  x : Axis c.X
  yl : c.Y.length = c.X.length
  el : ∀ i, i < c.X.length → -1073741824 ≤ nd c.Y i ∧ nd c.Y i ≤ 1073741824
theorem curOk {c : SCurve} (h : curB c = true) : CurOk c := by
  unfold curB at h
  simp only [Bool.and_eq_true, Bool.not_eq_true', List.any_eq_false] at h
  obtain ⟨⟨h1, h2⟩, h3⟩ := h
  have hl : c.Y.length = c.X.length := by simp at h1; omega
  refine ⟨axis_of h2, hl, fun i hi => ?_⟩
  rw [nd_get (by omega)]
  have := h3 _ (List.getElem_mem (by omega : i < c.Y.length))
  simp [elB] at this
  omega
end Go.Pv
set_option linter.unusedSimpArgs false
namespace Go.Pv
open Go
theorem q439 {mb : Int → Option (Int ⊕ (Int ⊕ Bool))} (bad : Nat → Bool) : ∀ (k : Nat), (∀ i : Nat, i < k → mb ((i + 1 : Nat) : Int) = some (bif bad i then .inr (.inr false) else .inl (i : Int))) → (∀ i : Int, i ≤ 0 → mb i = some (.inr (.inl i))) →
    ∃ t : Int ⊕ Bool, loopM mb (k : Int) = some t ∧ (match t with | .inl _ => ∀ i, i < k → bad i = false | .inr r => r = false ∧ ∃ i, i < k ∧ bad i = true)
  | 0, _, h0 => ⟨.inl 0, loopM_out (h0 0 (Int.le_refl _)), fun i hi => absurd hi (by omega)⟩
  | k + 1, h, h0 => by
    have h1 := h k (by omega)
    cases hb : bad k
    · rw [hb] at h1
      obtain ⟨t, a, b⟩ := q439 bad k (fun i hi => h i (by omega)) h0
      refine ⟨t, by rw [loopM_next h1]; exact a, ?_⟩
      cases t with
      | inl i =>
        exact fun i hi => by
          rcases Nat.lt_or_ge i k with q | q
          · exact b i q
          · have : i = k := by omega
            subst this; exact hb
      | inr r => exact ⟨b.1, b.2.imp fun i hi => ⟨by omega, hi.2⟩⟩
    · rw [hb] at h1
      exact ⟨.inr false, loopM_out h1, rfl, k, by omega, hb⟩
def ascB (l : List Int) : Bool := (List.range' 0 (l.length - 1)).all fun j => decide (nd l j ≤ nd l (j + 1))
def descB (l : List Int) : Bool := (List.range' 0 (l.length - 1)).all fun j => decide (nd l (j + 1) ≤ nd l j)
theorem q185 {n : Nat} {p : Nat → Bool} : (List.range' 0 n).all p = true ↔ ∀ i, i < n → p i = true := by
  rw [List.all_eq_true]
  constructor
  · exact fun h i hi => h i (by rw [List.mem_range']; exact ⟨i, hi, by omega⟩)
  · intro h i hi
    rw [List.mem_range'] at hi
    obtain ⟨j, hj, rfl⟩ := hi
    rw [show 0 + 1 * j = j by omega]
    exact h j hj
theorem q428 {l : List Int} (h : l.length ≤ 9223372036854775807) (h0 : 0 < l.length) : w64 ((l.length : Int) - 1) = ((l.length - 1 : Nat) : Int) := by rw [w64_of (by omega) (by omega)]; omega
theorem q425 (l : List Int) (h : l.length ≤ 9223372036854775807) : q74 l = some (ascB l) := by
  have h0 : ∀ i : Int, i ≤ 0 → q55 l i = some (.inr (.inl i)) := fun i hi => by
    unfold q55
    rw [decide_eq_false (by omega)]; rfl
  unfold q74
  rcases Nat.eq_zero_or_pos l.length with hz | hz
  · have e : w64 ((l.length : Int) - 1) = -1 := by rw [hz]; decide
    rw [e, loopM_out (h0 (-1) (by omega))]
    unfold ascB
    rw [hz]; rfl
  · rw [q428 h hz]
    obtain ⟨t, a, b⟩ := q439 (mb := q55 l) (fun i => decide (nd l (i + 1) < nd l i)) (l.length - 1) (fun i hi => by
      unfold q55
      rw [decide_eq_true (by omega), cond_true, getI_get l (i + 1) (by omega), Option.bind_some, w64_of (by omega) (by omega), show ((i + 1 : Nat) : Int) - 1 = (i : Int) by omega, getI_get l i (by omega), Option.bind_some, nd_get (by omega), nd_get (by omega)]
      have e : q256 l[i + 1] l[i] = some (decide (l[i + 1] < l[i])) := by
        unfold q256 q229
        simp
      rw [e, Option.bind_some]
      cases decide (l[i + 1] < l[i]) <;> rfl) h0
    rw [a]
    cases t with
    | inl i =>
      have : ascB l = true := q185.2 fun i hi => by
        have := b i hi
        rw [decide_eq_false_iff_not] at this
        rw [decide_eq_true_eq]; omega
      rw [this]; rfl
    | inr r =>
      obtain ⟨rfl, i, hi, q⟩ := b
      have : ascB l = false := by
        cases z : ascB l
        · rfl
        · have := q185.1 z i hi
          rw [decide_eq_true_eq] at this q
          omega
      rw [this]; rfl
theorem q474 (l : List Int) (h : l.length ≤ 9223372036854775807) (hb : ∀ i, i < l.length → -1073741824 ≤ nd l i ∧ nd l i ≤ 1073741824) : q41 l q67 = some (descB l) := by
  have h0 : ∀ i : Int, i ≤ 0 → q42 l q67 i = some (.inr (.inl i)) := fun i hi => by
    unfold q42
    rw [decide_eq_false (by omega)]; rfl
  unfold q41
  rcases Nat.eq_zero_or_pos l.length with hz | hz
  · have e : w64 ((l.length : Int) - 1) = -1 := by rw [hz]; decide
    rw [e, loopM_out (h0 (-1) (by omega))]
    unfold descB
    rw [hz]; rfl
  · rw [q428 h hz]
    obtain ⟨t, a, b⟩ := q439 (mb := q42 l q67) (fun i => decide (nd l i < nd l (i + 1))) (l.length - 1) (fun i hi => by
      unfold q42
      rw [decide_eq_true (by omega), cond_true, getI_get l (i + 1) (by omega), Option.bind_some, w64_of (by omega) (by omega), show ((i + 1 : Nat) : Int) - 1 = (i : Int) by omega, getI_get l i (by omega), Option.bind_some, ← nd_get (by omega), ← nd_get (by omega)]
      have b1 := hb i (by omega)
      have b2 := hb (i + 1) (by omega)
      have e : q67 (nd l (i + 1)) (nd l i) = some (nd l i - nd l (i + 1)) := by
        unfold q67
        rw [w64_of (by omega) (by omega)]
      rw [e, Option.bind_some]
      by_cases q : nd l i < nd l (i + 1)
      · rw [decide_eq_true q, decide_eq_true (by omega)]; rfl
      · rw [decide_eq_false q, decide_eq_false (by omega)]; rfl) h0
    rw [a]
    cases t with
    | inl i =>
      have : descB l = true := q185.2 fun i hi => by
        have := b i hi
        rw [decide_eq_false_iff_not] at this
        rw [decide_eq_true_eq]; omega
      rw [this]; rfl
    | inr r =>
      obtain ⟨rfl, i, hi, q⟩ := b
      have : descB l = false := by
        cases z : descB l
        · rfl
        · have := q185.1 z i hi
          rw [decide_eq_true_eq] at this q
          omega
      rw [this]; rfl
def inR (lo hi x : Int) : Bool := decide (x ≥ lo) && decide (x ≤ hi)
theorem q460 (l : List Int) (h : l.length ≤ 9223372036854775807) (lo hi : Int) : q144 l lo hi = some (!l.all (inR lo hi)) := by
  unfold q144
  rw [q88 l h (fun x0 => q153 x0 lo hi) (fun x => !inR lo hi x) (fun y _ => rfl)]
  have : (l.any fun x => !inR lo hi x) = !l.all (inR lo hi) := by rw [List.any_eq_not_all_not]; simp
  rw [this]; rfl
def torB (t : STables) : Bool := mapB t.Torque && curB t.Efficiency && t.Efficiency.Y.all (inR 0 1000) && descB t.Efficiency.Y && t.Torque.Z.all fun r => r.all (inR 0 10000) && ascB r
theorem q245 (t : STables) : q142 t = some (torB t) := by
  unfold q142 torB
  rw [q62]
  cases h1 : mapB t.Torque
  · rfl
  · have hm := mapOk h1
    simp only [Option.bind_some, Bool.not_true, cond_false, Bool.true_and, q68]
    cases h2 : curB t.Efficiency
    · rfl
    · have hc := curOk h2
      have l1 := hc.x.most
      have l2 := hc.yl
      simp only [Option.bind_some, Bool.not_true, cond_false, Bool.true_and]
      rw [q460 _ (by omega)]
      cases h3 : t.Efficiency.Y.all (inR 0 1000)
      · rfl
      · simp only [Option.bind_some, Bool.not_true, cond_false, Bool.true_and]
        rw [q474 _ (by omega) (fun i hi => hc.el i (by omega))]
        cases h4 : descB t.Efficiency.Y
        · rfl
        · simp only [Option.bind_some, Bool.not_true, cond_false, Bool.true_and]
          have k : q31 t.Torque.Z q107 = some (t.Torque.Z.any fun r => !(r.all (inR 0 10000) && ascB r)) :=
            index_any t.Torque.Z (by have := hm.zl; have := hm.x.most; omega) q107 _ (fun r hr => by
              obtain ⟨i, hi, rfl⟩ := List.mem_iff_getElem.1 hr
              have lr : t.Torque.Z[i].length ≤ 32 := by rw [hm.rl i hi]; exact hm.y.most
              unfold q107
              rw [q460 _ (by omega), Option.bind_some, q425 _ (by omega)]
              cases t.Torque.Z[i].all (inR 0 10000) <;> cases ascB t.Torque.Z[i] <;> rfl)
          rw [k, Option.bind_some, List.any_eq_not_all_not]
          simp
end Go.Pv
set_option linter.unusedSimpArgs false
namespace Go.Pv
open Go
theorem asc_le {l : List Int} (h : ascB l = true) : ∀ (j i : Nat), i ≤ j → j < l.length → nd l i ≤ nd l j
  | 0, i, hi, _ => by have : i = 0 := by omega
                      subst this; exact Int.le_refl _
  | j + 1, i, hi, hj => by
    rcases Nat.lt_or_ge i (j + 1) with q | q
    · have a := asc_le h j i (by omega) (by omega)
      have b := q185.1 h j (by omega)
      rw [decide_eq_true_eq] at b
      omega
    · have : i = j + 1 := by omega
      subst this; exact Int.le_refl _
def airRow (r : List Int) : Bool := r.all (inR 0 1048576) && ascB r
def airB (t : STables) : Bool := mapB t.Air && curB t.AirTemp && t.Air.Z.all airRow && t.AirTemp.Y.all (inR 100 3000)
theorem q40 (x lo hi : Int) : q37 x lo hi = some (inR lo hi x) := rfl
theorem q511 {r : List Int} (h0 : 0 < r.length) (ha : ascB r = true) : (inR 0 1048576 (nd r 0) && inR 0 1048576 (nd r (r.length - 1))) = r.all (inR 0 1048576) := by
  apply q163
  rw [Bool.and_eq_true, List.all_eq_true]
  unfold inR
  constructor
  · rintro ⟨a, b⟩ x hx
    obtain ⟨i, hi, rfl⟩ := List.mem_iff_getElem.1 hx
    have u := asc_le ha i 0 (by omega) hi
    have v := asc_le ha (r.length - 1) i (by omega) (by omega)
    rw [nd_get hi] at u v
    rw [Bool.and_eq_true, decide_eq_true_eq, decide_eq_true_eq] at *
    omega
  · intro h
    rw [nd_get h0, nd_get (by omega : r.length - 1 < r.length)]
    exact ⟨h _ (List.getElem_mem _), h _ (List.getElem_mem _)⟩
theorem q326 (t : STables) : q241 t = some (airB t) := by
  unfold q241 airB
  rw [q62]
  cases h1 : mapB t.Air
  · rfl
  · have hm := mapOk h1
    simp only [Option.bind_some, Bool.not_true, cond_false, Bool.true_and, q68]
    cases h2 : curB t.AirTemp
    · rfl
    · have hc := curOk h2
      have l1 := hc.x.most
      have l2 := hc.yl
      have zl := hm.zl
      have xm := hm.x.most
      have ym := hm.y.most
      have y2 := hm.y.two
      simp only [Option.bind_some, Bool.not_true, cond_false, Bool.true_and]
      rw [rangeM_steps _ (by omega), stepsL_all (p := airRow) (r := false)]
      · cases h3 : t.Air.Z.all airRow
        · rfl
        · rw [cond_true, Option.bind_some]
          simp only
          rw [q88 _ (by omega) q281 (fun y => !inR 100 3000 y) (fun y _ => rfl), Option.bind_some, List.any_eq_not_all_not, Bool.not_not]
          simp only [Bool.not_not, Bool.true_and]
      · intro i r hr
        obtain ⟨k, hk, rfl⟩ := List.mem_iff_getElem.1 hr
        have rl := hm.rl k hk
        unfold q392 airRow
        rw [q425 _ (by omega), Option.bind_some]
        cases h4 : ascB t.Air.Z[k]
        · rw [Bool.and_false]; rfl
        · have g0 : getI t.Air.Z[k] 0 = some (t.Air.Z[k][0]'(by omega)) := getI_get _ 0 (by omega)
          rw [Bool.not_true, cond_false, Bool.and_true, g0, q428 (by omega) (by omega), getI_get _ _ (by omega : t.Air.Z[k].length - 1 < t.Air.Z[k].length), ← nd_get, ← nd_get, ← q511 (by omega) h4]
          simp only [Option.bind_some, q40]
          cases inR 0 1048576 (nd t.Air.Z[k] 0) <;> cases inR 0 1048576 (nd t.Air.Z[k] (t.Air.Z[k].length - 1)) <;> rfl
def sparkB (t : STables) : Bool := mapB t.Spark && curB t.Dwell && (t.Spark.Z.all fun r => r.all (inR (-1280) 3840)) && t.Dwell.Y.all (inR 500 10000)
def gainB (g : SGain) : Bool := ((((((decide (g.P ≥ 0)) && (decide (g.P ≤ 65536))) && (decide (g.I ≥ 0))) && (decide (g.I ≤ 65536))) && (decide (g.Low ≥ (-1073741824)))) && (decide (g.Low ≤ g.High))) && (decide (g.High ≤ 1073741824))
def ctlB (t : STables) : Bool := airB t && sparkB t && torB t && (curB t.Dead && t.Dead.Y.all (inR 0 10000)) && mapB t.Wish && gainB t.Idle
theorem q197 (l : List Int) (h : l.length ≤ 9223372036854775807) (lo hi : Int) : q135 l lo hi = some (l.all (inR lo hi)) := by
  unfold q135
  rw [q88 l h (fun x0 => q224 x0 lo hi) (fun x => !inR lo hi x) (fun y _ => rfl), Option.bind_some, List.any_eq_not_all_not, Bool.not_not]
  simp only [Bool.not_not]
theorem q333 (t : STables) : q228 t = some (ctlB t) := by
  unfold q228 ctlB sparkB
  rw [q326, q245, q62, q62, q68, q68, show q63 t.Idle = some (gainB t.Idle) from rfl]
  simp only [Option.bind_some]
  cases airB t
  · rfl
  cases torB t
  · simp only [Bool.not_true, Bool.not_false, cond_false, cond_true, Option.bind_some, Bool.and_false, Bool.false_and]
  cases h1 : mapB t.Spark
  · rfl
  cases mapB t.Wish
  · simp only [Bool.not_true, Bool.not_false, cond_false, cond_true, Option.bind_some, Bool.and_false, Bool.false_and]
  cases h2 : curB t.Dwell
  · rfl
  cases h3 : curB t.Dead
  · simp only [Bool.not_true, Bool.not_false, cond_false, cond_true, Option.bind_some, Bool.and_false, Bool.false_and]
  have hm := mapOk h1
  have zl := hm.zl
  have xm := hm.x.most
  have ym := hm.y.most
  have a1 := (curOk h2).x.most
  have a2 := (curOk h2).yl
  have b1 := (curOk h3).x.most
  have b2 := (curOk h3).yl
  simp only [Bool.not_true, Bool.not_false, cond_false, cond_true, Option.bind_some, Bool.true_and, Bool.and_true]
  rw [rangeM_steps _ (by omega), stepsL_all (p := fun r => r.all (inR (-1280) 3840)) (r := false)]
  · rw [q197 _ (by omega), q197 _ (by omega)]
    cases t.Spark.Z.all fun r => r.all (inR (-1280) 3840)
    · rfl
    · cases t.Dwell.Y.all (inR 500 10000) <;> cases t.Dead.Y.all (inR 0 10000) <;> rfl
  · intro i r hr
    obtain ⟨k, hk, rfl⟩ := List.mem_iff_getElem.1 hr
    have rl := hm.rl k hk
    unfold q330
    rw [q197 _ (by omega), Option.bind_some]
    cases t.Spark.Z[k].all (inR (-1280) 3840) <;> rfl
end Go.Pv
set_option linter.unusedSimpArgs false
namespace Go.Pv
open Go
theorem md_pos (v : Bool) (q q' : Int) (f : Int → Option (Int × Int)) (h : (bif v then some (IntKind.u64.wrap (q + 1)) else some q) = some q') (h0 : 0 ≤ q') (h1 : q' < 9223372036854775808) :
    (Option.bind (some v) fun v4 => Option.bind (bif v4 then (some (IntKind.u64.wrap (q + 1))) else (some q)) fun (q : Int) => bif (false && (decide (q ≤ 9223372036854775808))) then f q else (bif ((!false) && (decide (q < 9223372036854775808))) then (some (w64 q, 0)) else (some (0, 9)))) = some (q', 0) := by
  have e : decide (q' < 9223372036854775808) = true := decide_eq_true h1
  rw [Option.bind_some, h, Option.bind_some, Bool.false_and, cond_false, Bool.not_false, Bool.true_and, e, cond_true, w64_of (by omega) (by omega)]
theorem u64_of {n : Int} (h0 : 0 ≤ n) (h1 : n < 18446744073709551616) : IntKind.u64.wrap n = n := by
  unfold IntKind.wrap
  simp only [IntKind.bits, IntKind.signed]
  simp only [show (2 : Int) ^ 64 = 18446744073709551616 from rfl, Bool.false_and, Bool.false_eq_true, if_false]
  omega
theorem q64 (x lo hi : Int) : q27 x lo hi = some (minI (maxI x lo) hi) := rfl
theorem q325 (n : Int) (h0 : -9223372036854775808 ≤ n) (h1 : n ≤ 9223372036854775807) : q96 n = some (n.natAbs : Int) := by
  unfold q96
  by_cases h : n < 0
  · simp only [h, decide_true, cond_true, Option.some.injEq]
    rw [w64_of (n := n + 1) (by omega) (by omega), w64_of (n := 0 - (n + 1)) (by omega) (by omega), u64_of (n := 0 - (n + 1)) (by omega) (by omega), u64_of (by omega) (by omega)]
    omega
  · simp only [h, decide_false, cond_false, Option.some.injEq]
    rw [u64_of (by omega) (by omega)]
    omega
theorem q568 (lo y : Nat) (h0 : lo < 18446744073709551616) (h1 : 0 < y) : q176 0 lo y = some (((lo / y : Nat) : Int), ((lo % y : Nat) : Int)) := by
  unfold q176
  have e1 : ((y : Int) == 0) = false := by
    have : ¬ (y : Int) = 0 := by omega
    simpa using this
  have e2 : decide ((y : Int) ≤ 0) = false := by simp; omega
  have e3 : ¬ (y : Int) = 0 := by omega
  simp only [e1, e2, cond_false, Option.bind_some, quoM, remM, if_neg e3]
  have q1 : (lo : Int).tdiv y = ((lo / y : Nat) : Int) := rfl
  have q2 : (lo : Int).tmod y = ((lo % y : Nat) : Int) := rfl
  have q3 : lo / y ≤ lo := Nat.div_le_self _ _
  rw [q1, q2]
  generalize lo / y = q at q3 ⊢
  rw [u64_of (by omega) (by omega), show ((0 : Int) == 0) = true from rfl, cond_true]
theorem q406 (a c mode : Int) (ha0 : -9223372036854775808 ≤ a) (ha1 : a ≤ 9223372036854775807) (hc0 : 0 < c) (hc1 : c ≤ 9223372036854775807) (hm : mode = 1 ∨ mode = 2) :
    q246 a 1 c mode = some (if mode = 1 then a / c else -((-a) / c), 0) := by
  unfold q246
  have m1 : ((decide (mode < 1)) || (decide (mode > 3))) = false := by
    rcases hm with rfl | rfl <;> rfl
  have c0 : (c == 0) = false := by
    have : ¬ c = 0 := by omega
    simpa using this
  rw [m1, c0, q325 a ha0 ha1, q325 1 (by omega) (by omega), q325 c (by omega) hc1]
  obtain ⟨m, hm'⟩ : ∃ m : Nat, a.natAbs = m := ⟨_, rfl⟩
  obtain ⟨k, rfl⟩ : ∃ k : Nat, c = k := ⟨c.toNat, by omega⟩
  have hk : 0 < k := by omega
  have hml : m ≤ 9223372036854775808 := by omega
  rw [hm']
  simp only [cond_false, Option.bind_some, q173, mul64M]
  rw [if_pos (by omega)]
  simp only [Option.bind_some]
  have e1 : (m : Int) * ((Int.natAbs 1 : Nat) : Int) / 18446744073709551616 = 0 := by
    have : ((Int.natAbs 1 : Nat) : Int) = 1 := rfl
    rw [this]; omega
  have e2 : (m : Int) * ((Int.natAbs 1 : Nat) : Int) % 18446744073709551616 = (m : Int) := by
    have : ((Int.natAbs 1 : Nat) : Int) = 1 := rfl
    rw [this]; omega
  have e3 : (((Int.natAbs (k : Int)) : Nat) : Int) = (k : Int) := by omega
  have e4 : decide ((0 : Int) ≥ (k : Int)) = false := decide_eq_false (by omega)
  rw [e1, e2, e3, e4, show (0 : Int) = 0 from rfl, q568 m k (by omega) hk]
  have q1 : m / k ≤ m := Nat.div_le_self _ _
  have q2 : m % k < k := Nat.mod_lt _ hk
  have q3 : k * (m / k) + m % k = m := Nat.div_add_mod m k
  generalize m / k = q at q1 q3 ⊢
  generalize m % k = r at q2 q3 ⊢
  have q4 : (m : Int) = (q : Int) * (k : Int) + (r : Int) := by rw [← q3, Int.natCast_add, Int.natCast_mul, Int.mul_comm]
  have hqk : r = 0 → 0 < m → 0 < q := fun h0 h1 => by
    rcases Nat.eq_zero_or_pos q with h | h
    · rw [h, h0] at q3; omega
    · exact h
  have hql : 0 < r → q < 9223372036854775808 := fun h0 => by
    rcases Nat.lt_or_ge q 9223372036854775808 with h | h
    · exact h
    · have : k * q ≥ 1 * 9223372036854775808 := Nat.mul_le_mul (by omega) h
      omega
  have hql2 : 0 < r → m ≤ 9223372036854775807 → q < 9223372036854775807 := fun h0 h1 => by
    rcases Nat.lt_or_ge q 9223372036854775807 with h | h
    · exact h
    · have : k * q ≥ 1 * 9223372036854775807 := Nat.mul_le_mul (by omega) h
      omega
  have e5 : decide ((q : Int) > 9223372036854775808) = false := decide_eq_false (by omega)
  simp only [cond_false, Option.bind_some, e5]
  have d1 : decide ((1 : Int) < 0) = false := rfl
  have d2 : decide ((k : Int) < 0) = false := decide_eq_false (by omega)
  rw [d1, d2]
  have fl0 : (m : Int) / (k : Int) = (q : Int) := by
    rw [q4, Int.add_comm, Int.add_mul_ediv_right _ _ (by omega), Int.ediv_eq_zero_of_lt (by omega) (by omega)]; omega
  have fl1 : (-(m : Int)) / (k : Int) = if r = 0 then -(q : Int) else -(q : Int) - 1 := by
    split
    · rename_i h
      have : -(m : Int) = (-(q : Int)) * (k : Int) := by rw [q4, Int.neg_mul, h]; omega
      rw [this, Int.mul_ediv_cancel _ (by omega)]
    · rename_i h
      have e : -(m : Int) = ((k : Int) - (r : Int)) + (-(q : Int) - 1) * (k : Int) := by
        rw [q4, Int.sub_mul, Int.neg_mul]; omega
      rw [e, Int.add_mul_ediv_right _ _ (by omega), Int.ediv_eq_zero_of_lt (by omega) (by omega)]; omega
  clear q3 q4
  by_cases hn : a < 0
  · have ha : a = -(m : Int) := by omega
    have e6 : decide (a < 0) = true := decide_eq_true hn
    have n1 : (!(!true == false) == false) = true := by decide
    rw [e6, n1]
    rcases hm with rfl | rfl
    · -- down, of a negative number
      have r1 : q116 (r : Int) (k : Int) true 1 = some (decide ((r : Int) > 0)) := rfl
      rw [if_pos rfl, ha, fl1, r1]
      by_cases hr : r = 0
      · have r2 : decide ((r : Int) > 0) = false := decide_eq_false (by omega)
        have hpos := hqk hr (by omega)
        have r3 : decide ((q : Int) ≤ 9223372036854775808) = true := decide_eq_true (by omega)
        rw [if_pos hr, r2]
        simp only [Option.bind_some, cond_false, r3]
        rw [u64_of (n := (q : Int) - 1) (by omega) (by omega), w64_of (n := (q : Int) - 1) (by omega) (by omega), w64_of (n := 0 - ((q : Int) - 1)) (by omega) (by omega), w64_of (n := 0 - ((q : Int) - 1) - 1) (by omega) (by omega)]
        simp only [Bool.true_and, Bool.not_false, cond_true, Bool.not_true, Bool.false_and, cond_false]
        rw [show 0 - ((q : Int) - 1) - 1 = -(q : Int) by omega]
      · have r2 : decide ((r : Int) > 0) = true := decide_eq_true (by omega)
        have hlt := hql (by omega)
        have r3 : decide ((q : Int) + 1 ≤ 9223372036854775808) = true := decide_eq_true (by omega)
        rw [if_neg hr, r2]
        simp only [Option.bind_some, cond_true]
        rw [u64_of (n := (q : Int) + 1) (by omega) (by omega), r3, show (q : Int) + 1 - 1 = q by omega]
        rw [u64_of (n := (q : Int)) (by omega) (by omega), w64_of (n := (q : Int)) (by omega) (by omega), w64_of (n := 0 - (q : Int)) (by omega) (by omega), w64_of (n := 0 - (q : Int) - 1) (by omega) (by omega)]
        simp only [Bool.true_and, Bool.not_false, cond_true, Bool.not_true, Bool.false_and, cond_false]
        rw [show 0 - (q : Int) - 1 = -(q : Int) - 1 by omega]
    · -- up, of a negative number
      have r1 : q116 (r : Int) (k : Int) true 2 = some false := rfl
      rw [if_neg (by decide), ha, Int.neg_neg, fl0, r1]
      have r3 : decide ((q : Int) ≤ 9223372036854775808) = true := decide_eq_true (by omega)
      simp only [Option.bind_some, cond_false, r3]
      rcases Nat.eq_zero_or_pos q with hz | hz
      · have w1 : IntKind.u64.wrap (((0 : Nat) : Int) - 1) = 18446744073709551615 := by decide
        have w2 : w64 18446744073709551615 = -1 := by decide
        have w3 : w64 (0 - -1) = 1 := by decide
        have w4 : w64 (1 - 1) = 0 := by decide
        rw [hz, w1, w2, w3, w4]
        rfl
      · rw [u64_of (n := (q : Int) - 1) (by omega) (by omega), w64_of (n := (q : Int) - 1) (by omega) (by omega), w64_of (n := 0 - ((q : Int) - 1)) (by omega) (by omega), w64_of (n := 0 - ((q : Int) - 1) - 1) (by omega) (by omega)]
        simp only [Bool.true_and, Bool.not_false, cond_true, Bool.not_true, Bool.false_and, cond_false]
        rw [show 0 - ((q : Int) - 1) - 1 = -(q : Int) by omega]
  · have ha : a = (m : Int) := by omega
    have e6 : decide (a < 0) = false := decide_eq_false hn
    have n1 : (!(!false == false) == false) = false := by decide
    rw [e6, n1]
    rcases hm with rfl | rfl
    · have r1 : q116 (r : Int) (k : Int) false 1 = some false := rfl
      rw [if_pos rfl, ha, fl0, r1]
      exact md_pos false q q _ rfl (by omega) (by omega)
    · have r1 : q116 (r : Int) (k : Int) false 2 = some (decide ((r : Int) > 0)) := rfl
      rw [if_neg (by decide), ha, fl1, r1]
      by_cases hr : r = 0
      · have r2 : decide ((r : Int) > 0) = false := decide_eq_false (by omega)
        rw [if_pos hr, r2, Int.neg_neg]
        exact md_pos false q q _ rfl (by omega) (by omega)
      · have r2 : decide ((r : Int) > 0) = true := decide_eq_true (by omega)
        have hlt := hql2 (by omega) (by omega)
        rw [if_neg hr, r2, show -(-(q : Int) - 1) = (q : Int) + 1 by omega]
        exact md_pos true q (q + 1) _ (by rw [cond_true, u64_of (by omega) (by omega)]) (by omega) (by omega)
theorem q370 (a c : Int) (ha0 : -9223372036854775808 ≤ a) (ha1 : a ≤ 9223372036854775807) (hc0 : 0 < c) (hc1 : c ≤ 9223372036854775807) : q134 a c = some (a / c) := by
  unfold q134 q180
  rw [q406 a c 1 ha0 ha1 hc0 hc1 (.inl rfl)]
  rfl
end Go.Pv
set_option linter.unusedSimpArgs false
namespace Go.Pv
open Go
theorem q133 (n : Nat) (hn : n ≤ 2305843009213693951) (f : Int → Option Bool) (p : Nat → Bool) (hf : ∀ i, i < n → f (i : Int) = some (p i)) :
    ∃ k : Nat, k ≤ n ∧ q46 (n : Int) f = some (k : Int) ∧ (0 < k → p (k - 1) = false) ∧ (k < n → p k = true) := by
  have key : ∀ (m i j : Nat), j - i ≤ m → i ≤ j → j ≤ n → (0 < i → p (i - 1) = false) → (j < n → p j = true) →
      ∃ k : Nat, k ≤ n ∧ loopM (q69 f) ((i : Int), (j : Int)) = some (.inl ((k : Int), (k : Int))) ∧ (0 < k → p (k - 1) = false) ∧ (k < n → p k = true) := by
    intro m
    induction m with
    | zero =>
      intro i j hm hij hjn h1 h2
      have : i = j := by omega
      subst this
      refine ⟨i, hjn, loopM_out ?_, h1, h2⟩
      unfold q69
      rw [show decide (((i : Int), (i : Int)).1 < ((i : Int), (i : Int)).2) = false from decide_eq_false (by simp)]
      rfl
    | succ m ih =>
      intro i j hm hij hjn h1 h2
      rcases Nat.lt_or_ge i j with hlt | hge
      · have hh : w64 (bitShr .u64 (IntKind.u64.wrap (w64 ((i : Int) + (j : Int)))) 1) = (((i + j) / 2 : Nat) : Int) := by
          rw [half_eq (by omega) (by omega)]; omega
        have hi : (i + j) / 2 < n := by omega
        have hb : q69 f ((i : Int), (j : Int)) = some (bif p ((i + j) / 2) then .inl ((i : Int), (((i + j) / 2 : Nat) : Int)) else .inl ((((i + j) / 2 + 1 : Nat) : Int), (j : Int))) := by
          unfold q69
          rw [show decide (((i : Int), (j : Int)).1 < ((i : Int), (j : Int)).2) = true from decide_eq_true (by show (i : Int) < (j : Int); omega)]
          simp only [cond_true, hh, hf _ hi, Option.bind_some]
          cases p ((i + j) / 2)
          · simp only [Bool.not_false, cond_true, cond_false]
            rw [w64_of (by omega) (by omega)]; rfl
          · rfl
        cases hp : p ((i + j) / 2)
        · rw [hp] at hb
          rw [loopM_next hb]
          exact ih ((i + j) / 2 + 1) j (by omega) (by omega) hjn (fun _ => by simpa using hp) h2
        · rw [hp] at hb
          rw [loopM_next hb]
          exact ih i ((i + j) / 2) (by omega) (by omega) (by omega) h1 (fun _ => hp)
      · have : i = j := by omega
        subst this
        exact ih i i (by omega) (Nat.le_refl _) hjn h1 h2
  obtain ⟨k, a, b, c, d⟩ := key n 0 n (by omega) (Nat.zero_le _) (Nat.le_refl _) (fun h => absurd h (by omega)) (fun h => absurd h (by omega))
  refine ⟨k, a, ?_, c, d⟩
  unfold q46
  rw [show ((0 : Nat) : Int) = 0 from rfl] at b
  rw [b]
  rfl
end Go.Pv
set_option linter.unusedSimpArgs false
namespace Go.Pv
open Go
theorem minI_eq (a b : Int) : minI a b = min a b := by unfold minI; split <;> omega
theorem maxI_eq (a b : Int) : maxI a b = max a b := by unfold maxI; split <;> omega
def itp (x0 x1 y0 y1 x : Int) : Int := y0 + ((x - x0) * (y1 - y0)) / (x1 - x0)
theorem q250 {x0 x1 y0 y1 x lo hi : Int} (h0 : x0 ≤ x) (h1 : x ≤ x1) (h : x0 < x1) (a0 : lo ≤ y0) (a1 : y0 ≤ hi) (b0 : lo ≤ y1) (b1 : y1 ≤ hi) : lo ≤ itp x0 x1 y0 y1 x ∧ itp x0 x1 y0 y1 x ≤ hi := by
  unfold itp
  have hd : 0 < x1 - x0 := by omega
  have e : 0 ≤ x - x0 := by omega
  have e2 : x - x0 ≤ x1 - x0 := by omega
  constructor
  · have : lo - y0 ≤ ((x - x0) * (y1 - y0)) / (x1 - x0) := by
      rw [Int.le_ediv_iff_mul_le hd]
      have m1 : (x - x0) * (lo - y0) ≤ (x - x0) * (y1 - y0) := Int.mul_le_mul_of_nonneg_left (by omega) e
      have m2 : (x1 - x0) * (lo - y0) ≤ (x - x0) * (lo - y0) := Int.mul_le_mul_of_nonpos_right e2 (by omega)
      rw [Int.mul_comm (lo - y0)]
      omega
    omega
  · have : ((x - x0) * (y1 - y0)) / (x1 - x0) ≤ hi - y0 := by
      have m1 : (x - x0) * (y1 - y0) ≤ (x - x0) * (hi - y0) := Int.mul_le_mul_of_nonneg_left (by omega) e
      have m2 : (x - x0) * (hi - y0) ≤ (x1 - x0) * (hi - y0) := Int.mul_le_mul_of_nonneg_right e2 (by omega)
      have := Int.ediv_le_ediv hd (Int.le_trans m1 m2)
      rw [Int.mul_ediv_cancel_left _ (by omega)] at this
      exact this
    omega
theorem q569 (x0 x1 y0 y1 : Int) : itp x0 x1 y0 y1 x0 = y0 := by
  unfold itp; rw [Int.sub_self, Int.zero_mul, Int.zero_ediv, Int.add_zero]
theorem q525 {x0 x1 y0 y1 : Int} (h : x0 < x1) : itp x0 x1 y0 y1 x1 = y1 := by
  unfold itp; rw [Int.mul_ediv_cancel_left _ (by omega)]; omega
theorem prod31 {a b : Int} (a0 : 0 ≤ a) (a1 : a ≤ 2147483648) (b0 : -2147483648 ≤ b) (b1 : b ≤ 2147483648) : -4611686018427387904 ≤ a * b ∧ a * b ≤ 4611686018427387904 := by
  constructor
  · have m1 : a * (-2147483648) ≤ a * b := Int.mul_le_mul_of_nonneg_left b0 a0
    omega
  · have m1 : a * b ≤ a * 2147483648 := Int.mul_le_mul_of_nonneg_left b1 a0
    omega
theorem q456 {x0 x1 y0 y1 x : Int} (h0 : x0 ≤ x) (h1 : x ≤ x1) (h : x0 < x1) (hx0 : -1073741824 ≤ x0) (hx1 : x1 ≤ 1073741824) (a0 : -1073741824 ≤ y0) (a1 : y0 ≤ 1073741824) (b0 : -1073741824 ≤ y1) (b1 : y1 ≤ 1073741824) :
    q123 x0 x1 y0 y1 x = some (itp x0 x1 y0 y1 x) := by
  have hb := q250 (lo := -1073741824) (hi := 1073741824) h0 h1 h a0 a1 b0 b1
  have hp := prod31 (a := x - x0) (b := y1 - y0) (by omega) (by omega) (by omega) (by omega)
  unfold q123
  rw [w64_of (n := x - x0) (by omega) (by omega), w64_of (n := y1 - y0) (by omega) (by omega), w64_of (n := x1 - x0) (by omega) (by omega), w64_of (n := (x - x0) * (y1 - y0)) (by omega) (by omega),
    q370 _ _ (by omega) (by omega) (by omega) (by omega), Option.bind_some]
  unfold itp at hb ⊢
  rw [w64_of (by omega) (by omega)]
theorem q371 {l : List Int} (h : Axis l) (x : Int) : ∃ i : Nat, SegAt l (lim l x) i ∧ q95 l x = some ((i : Int), lim l x) := by
  have h2 := h.two
  have h3 := h.most
  have hb := q520 h x
  rw [q338 l (by omega), q249 l (by omega)] at hb
  obtain ⟨k, k1, k2, k3, k4⟩ := q133 l.length (by omega) (fun x0 => q100 x0 l (lim l x)) (fun i => decide (l.getD i 0 > lim l x)) (fun i hi => by
    unfold q100
    rw [getI_get l i hi, List.getD_eq_getElem?_getD, List.getElem?_eq_getElem hi]; rfl)
  have gd : ∀ i (hi : i < l.length), l.getD i 0 = l[i] := fun i hi => by rw [List.getD_eq_getElem?_getD, List.getElem?_eq_getElem hi]; rfl
  have hk0 : 0 < k := by
    rcases Nat.eq_zero_or_pos k with h0 | h0
    · have := k4 (by omega)
      rw [decide_eq_true_eq, gd k (by omega)] at this
      subst h0
      omega
    · exact h0
  have hlow := k3 hk0
  rw [decide_eq_false_iff_not, gd (k - 1) (by omega)] at hlow
  have hseg : q95 l x = some (((min (k - 1) (l.length - 2) : Nat) : Int), lim l x) := by
    unfold q95
    have e1 : getI l 0 = some (l.headD 0) := by
      have := getI_get l 0 (by omega)
      rw [q338 l (by omega)]; exact this
    have e2 : getI l (w64 ((l.length : Int) - 1)) = some (l.getLastD 0) := by
      rw [w64_of (by omega) (by omega), show (l.length : Int) - 1 = ((l.length - 1 : Nat) : Int) by omega, getI_get l _ (by omega), q249 l (by omega)]
    have e3 : minI (maxI x (l.headD 0)) (l.getLastD 0) = lim l x := by rw [minI_eq, maxI_eq]; rfl
    rw [e1, e2, Option.bind_some, Option.bind_some, q64, Option.bind_some, e3, k2, Option.bind_some, w64_of (by omega) (by omega), w64_of (by omega) (by omega), minI_eq]
    congr 2
    omega
  rcases Nat.lt_or_ge k l.length with hk | hk
  · have hhi := k4 hk
    rw [decide_eq_true_eq, gd k hk] at hhi
    have e : min (k - 1) (l.length - 2) = k - 1 := by omega
    rw [e] at hseg
    refine ⟨k - 1, ⟨by omega, by omega, ?_, .inr ?_⟩, hseg⟩
    · simp only [Nat.sub_add_cancel (show 1 ≤ k from hk0)]; omega
    · simp only [Nat.sub_add_cancel (show 1 ≤ k from hk0)]; omega
  · have e : min (k - 1) (l.length - 2) = l.length - 2 := by omega
    rw [e] at hseg
    have hl : k - 1 = l.length - 1 := by omega
    have hlow' : ¬ l[l.length - 1] > lim l x := by simpa only [hl] using hlow
    have hs : l.length - 2 + 1 = l.length - 1 := by omega
    refine ⟨l.length - 2, ⟨by omega, ?_, ?_, .inl (by omega)⟩, hseg⟩
    · have := h.le (l.length - 1) (l.length - 2) (by omega) (by omega)
      omega
    · simp only [hs]; omega
end Go.Pv
set_option linter.unusedSimpArgs false
namespace Go.Pv
open Go
def along (m : SMap) (i : Nat) (v : Int) (j : Nat) : Int := itp (nd m.X i) (nd m.X (i + 1)) (zz m i j) (zz m (i + 1) j) v
def atV (m : SMap) (i j : Nat) (v w : Int) : Int := itp (nd m.Y j) (nd m.Y (j + 1)) (along m i v j) (along m i v (j + 1)) w
theorem SegAt.nd {l : List Int} {v : Int} {i : Nat} (h : SegAt l v i) (ha : Axis l) : i + 1 < l.length ∧ nd l i ≤ v ∧ v ≤ nd l (i + 1) ∧ nd l i < nd l (i + 1) ∧ -1073741824 ≤ Pv.nd l i ∧ Pv.nd l (i + 1) ≤ 1073741824 := by
  obtain ⟨h0, h1, h2, _⟩ := h
  rw [nd_get (by omega : i < l.length), nd_get h0]
  exact ⟨h0, h1, h2, ha.asc i h0, (ha.el i (by omega)).1, (ha.el (i + 1) h0).2⟩
theorem q397 {m : SMap} (h : MapOk m) {i j : Nat} {v lo hi : Int} (hi' : SegAt m.X v i) (a0 : lo ≤ zz m i j) (a1 : zz m i j ≤ hi) (b0 : lo ≤ zz m (i + 1) j) (b1 : zz m (i + 1) j ≤ hi) :
    lo ≤ along m i v j ∧ along m i v j ≤ hi := by
  obtain ⟨k0, k1, k2, k3, _, _⟩ := hi'.nd h.x
  exact q250 k1 k2 k3 a0 a1 b0 b1
theorem q522 {m : SMap} (h : MapOk m) {i j : Nat} {v w lo hi : Int} (hi' : SegAt m.X v i) (hj' : SegAt m.Y w j) (hz : ∀ i j, i < m.X.length → j < m.Y.length → lo ≤ zz m i j ∧ zz m i j ≤ hi) :
    lo ≤ atV m i j v w ∧ atV m i j v w ≤ hi := by
  obtain ⟨k0, k1, k2, k3, _, _⟩ := hi'.nd h.x
  obtain ⟨l0, l1, l2, l3, _, _⟩ := hj'.nd h.y
  have a := fun j hj => q397 h (j := j) hi' (hz i j (by omega) hj).1 (hz i j (by omega) hj).2 (hz (i + 1) j (by omega) hj).1 (hz (i + 1) j (by omega) hj).2
  exact q250 l1 l2 l3 (a j (by omega)).1 (a j (by omega)).2 (a (j + 1) (by omega)).1 (a (j + 1) (by omega)).2
theorem at1_eq {m : SMap} (h : MapOk m) {i j : Nat} {v : Int} (hi : SegAt m.X v i) (hj : j < m.Y.length) : q183 (j : Int) m (i : Int) v = some (along m i v j) := by
  obtain ⟨k0, k1, k2, k3, k4, k5⟩ := hi.nd h.x
  have lx := h.x.most
  have hz0 : i < m.Z.length := by have := h.zl; omega
  have hz1 : i + 1 < m.Z.length := by have := h.zl; omega
  have r0 := h.rl i hz0
  have r1 := h.rl (i + 1) hz1
  unfold q183
  rw [w64_of (by omega) (by omega), show (i : Int) + 1 = ((i + 1 : Nat) : Int) from rfl, getI_get m.X i (by omega), Option.bind_some, getI_get m.X (i + 1) k0, Option.bind_some, getI_get m.Z i hz0, Option.bind_some, getI_get _ j (by omega),
    Option.bind_some, getI_get m.Z (i + 1) hz1, Option.bind_some, getI_get _ j (by omega), Option.bind_some, ← nd_get (by omega : i < m.X.length), ← nd_get k0, ← zz_get hz0 (by omega), ← zz_get hz1 (by omega)]
  rw [q456 k1 k2 k3 k4 k5 (h.el i j (by omega) hj).1 (h.el i j (by omega) hj).2 (h.el (i + 1) j k0 hj).1 (h.el (i + 1) j k0 hj).2]
  rfl
theorem at_eq {m : SMap} (h : MapOk m) (x y : Int) : ∃ i j, SegAt m.X (lim m.X x) i ∧ SegAt m.Y (lim m.Y y) j ∧ q308 m x y = some (atV m i j (lim m.X x) (lim m.Y y)) := by
  obtain ⟨i, hi, ei⟩ := q371 h.x x
  obtain ⟨j, hj, ej⟩ := q371 h.y y
  refine ⟨i, j, hi, hj, ?_⟩
  obtain ⟨k0, k1, k2, k3, k4, k5⟩ := hi.nd h.x
  obtain ⟨l0, l1, l2, l3, l4, l5⟩ := hj.nd h.y
  have ly := h.y.most
  have a := fun j hj => q397 h (j := j) hi (h.el i j (by omega) hj).1 (h.el i j (by omega) hj).2 (h.el (i + 1) j (by omega) hj).1 (h.el (i + 1) j (by omega) hj).2
  unfold q308
  rw [ei, ej]
  simp only [Option.bind_some]
  rw [w64_of (by omega) (by omega), show (j : Int) + 1 = ((j + 1 : Nat) : Int) from rfl, getI_get m.Y j (by omega), Option.bind_some, getI_get m.Y (j + 1) l0, Option.bind_some, at1_eq h hi (by omega), Option.bind_some, at1_eq h hi l0, Option.bind_some,
    ← nd_get (by omega : j < m.Y.length), ← nd_get l0, q456 l1 l2 l3 l4 l5 (a j (by omega)).1 (a j (by omega)).2 (a (j + 1) l0).1 (a (j + 1) l0).2]
  rfl
theorem At_eq {m : SMap} (h : mapB m = true) (x y : Int) : ∃ i j, SegAt m.X (lim m.X x) i ∧ SegAt m.Y (lim m.Y y) j ∧ q85 m x y = some (atV m i j (lim m.X x) (lim m.Y y)) := by
  obtain ⟨i, j, hi, hj, e⟩ := at_eq (mapOk h) x y
  refine ⟨i, j, hi, hj, ?_⟩
  unfold q85
  rw [q62, h]
  simp only [Option.bind_some, Bool.not_true, cond_false]
  rw [e]
  rfl
end Go.Pv
set_option linter.unusedSimpArgs false
namespace Go.Pv
open Go
def cuV (c : SCurve) (i : Nat) (v : Int) : Int := itp (nd c.X i) (nd c.X (i + 1)) (nd c.Y i) (nd c.Y (i + 1)) v
theorem q512 {l : List Int} (h : Axis l) (x : Int) : ∃ i, SegAt l (lim l x) i := by
  obtain ⟨i, hi, _⟩ := q371 h x
  exact ⟨i, hi⟩
theorem lim_nd {l : List Int} (h : Axis l) (x : Int) : lim l x = min (max x (nd l 0)) (nd l (l.length - 1)) := by
  have h2 := h.two
  unfold lim
  rw [q338 l (by omega), q249 l (by omega), nd_get (by omega), nd_get (by omega)]
theorem Axis.nlt {l : List Int} (h : Axis l) {i j : Nat} (h1 : i < j) (h2 : j < l.length) : nd l i < nd l j := by rw [nd_get h2, nd_get (by omega)]; exact h.lt j i h2 h1
theorem Axis.nle {l : List Int} (h : Axis l) {i j : Nat} (h1 : i ≤ j) (h2 : j < l.length) : nd l i ≤ nd l j := by rw [nd_get h2, nd_get (by omega)]; exact h.le j i h2 h1
theorem q503 {l : List Int} (h : Axis l) {v : Int} {i : Nat} (hi : SegAt l v i) (f : Nat → Int) {c : Nat} (hc : c < l.length) (e : v = nd l c) : itp (nd l i) (nd l (i + 1)) (f i) (f (i + 1)) v = f c := by
  obtain ⟨k0, k1, k2, k3, _, _⟩ := hi.nd h
  subst e
  have c1 : i ≤ c := by
    rcases Nat.lt_or_ge c i with q | q
    · have := h.nlt q (by omega); omega
    · exact q
  have c2 : c ≤ i + 1 := by
    rcases Nat.lt_or_ge (i + 1) c with q | q
    · have := h.nlt q hc; omega
    · exact q
  rcases (show c = i ∨ c = i + 1 by omega) with rfl | rfl
  · exact q569 ..
  · exact q525 k3
theorem q564 {c : SCurve} (h : CurOk c) (x : Int) : ∃ i, SegAt c.X (lim c.X x) i ∧ q273 c x = some (cuV c i (lim c.X x)) := by
  obtain ⟨i, hi⟩ := q512 h.x x
  refine ⟨i, hi, ?_⟩
  have h2 := h.x.two
  have h3 := h.x.most
  have hyl := h.yl
  have hl := lim_nd h.x x
  have h0l := h.x.nlt (i := 0) (j := c.X.length - 1) (by omega) (by omega)
  have gx0 : getI c.X 0 = some (nd c.X 0) := by have := getI_get c.X 0 (by omega); rw [nd_get (by omega)]; exact this
  have gy0 : getI c.Y 0 = some (nd c.Y 0) := by have := getI_get c.Y 0 (by omega); rw [nd_get (by omega)]; exact this
  have ew : w64 ((c.X.length : Int) - 1) = ((c.X.length - 1 : Nat) : Int) := by rw [w64_of (by omega) (by omega)]; omega
  have gxl : getI c.X ((c.X.length - 1 : Nat) : Int) = some (nd c.X (c.X.length - 1)) := by rw [getI_get _ _ (by omega), nd_get (by omega)]
  have gyl : getI c.Y ((c.X.length - 1 : Nat) : Int) = some (nd c.Y (c.X.length - 1)) := by rw [getI_get _ _ (by omega), nd_get (by omega)]
  unfold q273
  rw [gx0, Option.bind_some]
  by_cases q0 : x ≤ nd c.X 0
  · have e := q503 h.x hi (fun j => nd c.Y j) (c := 0) (by omega) (by omega)
    rw [decide_eq_true q0, cond_true, gy0]
    unfold cuV
    rw [e]; rfl
  · rw [decide_eq_false q0, cond_false, ew, gxl, Option.bind_some]
    by_cases q1 : x ≥ nd c.X (c.X.length - 1)
    · have e := q503 h.x hi (fun j => nd c.Y j) (c := c.X.length - 1) (by omega) (by omega)
      rw [decide_eq_true q1, cond_true, gyl]
      unfold cuV
      rw [e]; rfl
    · have elim : lim c.X x = x := by omega
      rw [elim] at hi ⊢
      obtain ⟨k0, k1, k2, k3, k4, k5⟩ := hi.nd h.x
      obtain ⟨k, r1, r2, r3, r4⟩ := q133 c.X.length (by omega) (fun x0 => q125 x0 c x) (fun i => decide (nd c.X i > x)) (fun j hj => by
        unfold q125
        rw [getI_get c.X j hj, nd_get hj]; rfl)
      have hk : k = i + 1 := by
        have hkl : k < c.X.length := by
          rcases Nat.lt_or_ge k c.X.length with q | q
          · exact q
          · have := r3 (by omega)
            rw [decide_eq_false_iff_not, show k - 1 = c.X.length - 1 by omega] at this
            omega
        have a1 := r4 hkl
        rw [decide_eq_true_eq] at a1
        have hk0 : 0 < k := by
          rcases Nat.eq_zero_or_pos k with q | q
          · subst q; omega
          · exact q
        have a2 := r3 hk0
        rw [decide_eq_false_iff_not] at a2
        have b1 : i < k := by
          rcases Nat.lt_or_ge i k with q | q
          · exact q
          · have := h.x.nle q (by omega); omega
        have b2 : k - 1 ≤ i := by
          rcases Nat.lt_or_ge i (k - 1) with q | q
          · have := h.x.nle (i := i + 1) (j := k - 1) (by omega) (by omega)
            have hseg := hi.2
            obtain ⟨hh, s1, s2, s3⟩ := hi
            rcases s3 with s3 | s3
            · omega
            · rw [← nd_get hh] at s3; omega
          · exact q
        omega
      have es : q225 c x = some (i : Int) := by
        unfold q225
        rw [r2, Option.bind_some, w64_of (by omega) (by omega), hk]
        congr 1; omega
      have hb := q250 (lo := -1073741824) (hi := 1073741824) k1 k2 k3 (h.el i (by omega)).1 (h.el i (by omega)).2 (h.el (i + 1) k0).1 (h.el (i + 1) k0).2
      have y0 := h.el i (by omega)
      have y1 := h.el (i + 1) k0
      have hp := prod31 (a := x - nd c.X i) (b := nd c.Y (i + 1) - nd c.Y i) (by omega) (by omega) (by omega) (by omega)
      rw [decide_eq_false q1, cond_false, es, Option.bind_some, w64_of (n := (i : Int) + 1) (by omega) (by omega), show (i : Int) + 1 = ((i + 1 : Nat) : Int) from rfl, getI_get c.Y i (by omega), Option.bind_some, getI_get c.X i (by omega), Option.bind_some,
        getI_get c.Y (i + 1) (by omega), Option.bind_some, getI_get c.X (i + 1) k0, Option.bind_some, ← nd_get, ← nd_get, ← nd_get, ← nd_get]
      rw [w64_of (n := x - nd c.X i) (by omega) (by omega), w64_of (n := nd c.Y (i + 1) - nd c.Y i) (by omega) (by omega), w64_of (n := nd c.X (i + 1) - nd c.X i) (by omega) (by omega), w64_of (n := (x - nd c.X i) * (nd c.Y (i + 1) - nd c.Y i)) (by omega) (by omega),
        q370 _ _ (by omega) (by omega) (by omega) (by omega), Option.bind_some]
      unfold cuV
      unfold itp at hb ⊢
      rw [w64_of (by omega) (by omega)]
theorem q444 {c : SCurve} (h : CurOk c) {v : Int} {i : Nat} {lo hi : Int} (hs : SegAt c.X v i) (hy : ∀ j, j < c.X.length → lo ≤ nd c.Y j ∧ nd c.Y j ≤ hi) : lo ≤ cuV c i v ∧ cuV c i v ≤ hi := by
  obtain ⟨k0, k1, k2, k3, k4, k5⟩ := hs.nd h.x
  exact q250 k1 k2 k3 (hy i (by omega)).1 (hy i (by omega)).2 (hy (i + 1) k0).1 (hy (i + 1) k0).2
theorem q364 {c : SCurve} (h : curB c = true) (x : Int) : ∃ i, SegAt c.X (lim c.X x) i ∧ q136 c x = some (cuV c i (lim c.X x)) := by
  obtain ⟨i, hi, e⟩ := q564 (curOk h) x
  refine ⟨i, hi, ?_⟩
  unfold q136
  rw [q68, h]
  simp only [Option.bind_some, Bool.not_true, cond_false]
  rw [e]
  rfl
end Go.Pv
set_option linter.unusedSimpArgs false
namespace Go.Pv
open Go
structure TorOk (t : STables) : Prop where
  m : MapOk t.Torque
  c : CurOk t.Efficiency
  e : ∀ i, i < t.Efficiency.X.length → 0 ≤ nd t.Efficiency.Y i ∧ nd t.Efficiency.Y i ≤ 1000
  ed : ∀ i, i + 1 < t.Efficiency.X.length → nd t.Efficiency.Y (i + 1) ≤ nd t.Efficiency.Y i
  z : ∀ i j, i < t.Torque.X.length → j < t.Torque.Y.length → 0 ≤ zz t.Torque i j ∧ zz t.Torque i j ≤ 10000
  za : ∀ i j, i < t.Torque.X.length → j + 1 < t.Torque.Y.length → zz t.Torque i j ≤ zz t.Torque i (j + 1)
theorem zz_row {m : SMap} {i j : Nat} (h : i < m.Z.length) : zz m i j = nd m.Z[i] j := by
  have e : m.Z.getD i [] = m.Z[i] := by rw [List.getD_eq_getElem?_getD, List.getElem?_eq_getElem h]; rfl
  unfold zz nd
  rw [e]
theorem torOk {t : STables} (h : torB t = true) : TorOk t := by
  unfold torB at h
  simp only [Bool.and_eq_true] at h
  obtain ⟨⟨⟨⟨h1, h2⟩, h3⟩, h4⟩, h5⟩ := h
  have hm := mapOk h1
  have hc := curOk h2
  rw [List.all_eq_true] at h3 h5
  have zl := hm.zl
  have yl := hc.yl
  refine ⟨hm, hc, fun i hi => ?_, fun i hi => ?_, fun i j hi hj => ?_, fun i j hi hj => ?_⟩
  · rw [nd_get (by omega)]
    have := h3 _ (List.getElem_mem (by omega : i < t.Efficiency.Y.length))
    simp [inR] at this; omega
  · have := q185.1 h4 i (by omega)
    rw [decide_eq_true_eq] at this
    exact this
  · have hz : i < t.Torque.Z.length := by omega
    have := h5 _ (List.getElem_mem hz)
    rw [Bool.and_eq_true, List.all_eq_true] at this
    have lr := hm.rl i hz
    have := this.1 _ (List.getElem_mem (by omega : j < t.Torque.Z[i].length))
    rw [zz_row hz, nd_get (by omega)]
    simp [inR] at this; omega
  · have hz : i < t.Torque.Z.length := by omega
    have := h5 _ (List.getElem_mem hz)
    rw [Bool.and_eq_true] at this
    have lr := hm.rl i hz
    have := q185.1 this.2 j (by omega)
    rw [decide_eq_true_eq] at this
    rw [zz_row hz, zz_row hz]
    exact this
theorem q506 {t : STables} (h : torB t = true) : mapB t.Torque = true := by
  unfold torB at h
  simp only [Bool.and_eq_true] at h
  exact h.1.1.1.1
theorem q502 {t : STables} (h : torB t = true) : curB t.Efficiency = true := by
  unfold torB at h
  simp only [Bool.and_eq_true] at h
  exact h.1.1.1.2
theorem q524 {t : STables} (h : torB t = true) (late : Int) : ∃ e, q136 t.Efficiency late = some e ∧ 0 ≤ e ∧ e ≤ 1000 ∧
    ∀ o f c, 0 ≤ o → o ≤ 10000 → 0 ≤ f → f ≤ c → 1 ≤ c → c ≤ 8 → q97 t o late f c = some ((o * e * f) / (1000 * c)) := by
  obtain ⟨i, hi, e⟩ := q364 (q502 h) late
  have hb := q444 (torOk h).c hi (torOk h).e
  refine ⟨_, e, hb.1, hb.2, fun o f c o0 o1 f0 f1 c0 c1 => ?_⟩
  generalize cuV t.Efficiency i (lim t.Efficiency.X late) = v at hb e
  have p0 : 0 ≤ o * v := Int.mul_nonneg o0 hb.1
  have p1 : o * v ≤ 10000 * 1000 := Int.mul_le_mul o1 hb.2 hb.1 (by omega)
  have q0 : 0 ≤ o * v * f := Int.mul_nonneg p0 f0
  have q1 : o * v * f ≤ 10000 * 1000 * 8 := Int.mul_le_mul p1 (by omega) f0 (by omega)
  unfold q97
  rw [e, Option.bind_some, w64_of (n := o * v) (by omega) (by omega), w64_of (n := o * v * f) (by omega) (by omega), w64_of (n := 1000 * c) (by omega) (by omega)]
  unfold quoM
  rw [if_neg (by omega), Option.bind_some, Int.tdiv_eq_ediv_of_nonneg q0]
  have r0 : 0 ≤ o * v * f / (1000 * c) := Int.ediv_nonneg q0 (by omega)
  have r1 : o * v * f / (1000 * c) ≤ o * v * f := Int.ediv_le_self _ q0
  have := w64_of (n := o * v * f / (1000 * c)) (by omega) (by omega)
  unfold w64 at this
  rw [this]
end Go.Pv
set_option linter.unusedSimpArgs false
namespace Go.Pv
open Go
noncomputable def sAt (m : SMap) (x y : Int) : Int := (q85 m x y).getD 0
noncomputable def cAt (c : SCurve) (x : Int) : Int := (q136 c x).getD 0
theorem sAt_eq {m : SMap} (h : mapB m = true) (x y : Int) : q85 m x y = some (sAt m x y) := by
  obtain ⟨i, j, _, _, e⟩ := At_eq h x y
  unfold sAt; rw [e]; rfl
theorem cAt_eq {c : SCurve} (h : curB c = true) (x : Int) : q136 c x = some (cAt c x) := by
  obtain ⟨i, _, e⟩ := q364 h x
  unfold cAt; rw [e]; rfl
theorem q366 {m : SMap} (h : mapB m = true) (x y : Int) {lo hi : Int} (hz : ∀ i j, i < m.X.length → j < m.Y.length → lo ≤ zz m i j ∧ zz m i j ≤ hi) : lo ≤ sAt m x y ∧ sAt m x y ≤ hi := by
  obtain ⟨i, j, a, b, e⟩ := At_eq h x y
  have := q522 (mapOk h) a b hz
  unfold sAt; rw [e]; exact this
theorem q363 {c : SCurve} (h : curB c = true) (x : Int) {lo hi : Int} (hy : ∀ j, j < c.X.length → lo ≤ nd c.Y j ∧ nd c.Y j ≤ hi) : lo ≤ cAt c x ∧ cAt c x ≤ hi := by
  obtain ⟨i, a, e⟩ := q364 h x
  have := q444 (curOk h) a hy
  unfold cAt; rw [e]; exact this
theorem inR_iff {lo hi x : Int} : inR lo hi x = true ↔ lo ≤ x ∧ x ≤ hi := by
  unfold inR
  rw [Bool.and_eq_true, decide_eq_true_eq, decide_eq_true_eq]
theorem z_in {m : SMap} (h : mapB m = true) {lo hi : Int} (hz : ∀ r ∈ m.Z, r.all (inR lo hi) = true) : ∀ i j, i < m.X.length → j < m.Y.length → lo ≤ zz m i j ∧ zz m i j ≤ hi := by
  intro i j hi' hj
  have k := mapOk h
  have hiz : i < m.Z.length := by have := k.zl; omega
  have hjz : j < m.Z[i].length := by have := k.rl i hiz; omega
  have := hz _ (List.getElem_mem hiz)
  rw [List.all_eq_true] at this
  have := this _ (List.getElem_mem hjz)
  rw [zz_get hiz hjz]
  exact inR_iff.1 this
theorem y_in {c : SCurve} (h : curB c = true) {lo hi : Int} (hy : c.Y.all (inR lo hi) = true) : ∀ j, j < c.X.length → lo ≤ nd c.Y j ∧ nd c.Y j ≤ hi := by
  intro j hj
  have k := curOk h
  have hjy : j < c.Y.length := by have := k.yl; omega
  rw [List.all_eq_true] at hy
  rw [nd_get hjy]
  exact inR_iff.1 (hy _ (List.getElem_mem hjy))
structure AirOk (t : STables) : Prop where
  m : mapB t.Air = true
  c : curB t.AirTemp = true
  z : ∀ i j, i < t.Air.X.length → j < t.Air.Y.length → 0 ≤ zz t.Air i j ∧ zz t.Air i j ≤ 1048576
  y : ∀ j, j < t.AirTemp.X.length → 100 ≤ nd t.AirTemp.Y j ∧ nd t.AirTemp.Y j ≤ 3000
theorem airOk {t : STables} (h : airB t = true) : AirOk t := by
  unfold airB at h
  simp only [Bool.and_eq_true] at h
  obtain ⟨⟨⟨h1, h2⟩, h3⟩, h4⟩ := h
  refine ⟨h1, h2, z_in h1 fun r hr => ?_, y_in h2 h4⟩
  have := List.all_eq_true.1 h3 r hr
  unfold airRow at this
  rw [Bool.and_eq_true] at this
  exact this.1
noncomputable def chV (t : STables) (s p q : Int) : Int := min 1048576 (sAt t.Air s p * cAt t.AirTemp q / 1000)
theorem prod_le {a b A B : Int} (a0 : 0 ≤ a) (a1 : a ≤ A) (b0 : 0 ≤ b) (b1 : b ≤ B) : 0 ≤ a * b ∧ a * b ≤ A * B := ⟨Int.mul_nonneg a0 b0, Int.mul_le_mul a1 b1 b0 (by omega)⟩
theorem ch_eq {t : STables} (h : airB t = true) (s p q : Int) : q251 t s p q = some (chV t s p q) ∧ 0 ≤ chV t s p q ∧ chV t s p q ≤ 1048576 := by
  have k := airOk h
  have b1 := q366 k.m s p k.z
  have b2 := q363 k.c q k.y
  have b3 := prod_le (A := 1048576) (B := 3000) b1.1 b1.2 (by omega) b2.2
  unfold q251 chV
  rw [sAt_eq k.m, cAt_eq k.c]
  simp only [Option.bind_some]
  rw [w64_of (by omega) (by omega), q370 _ _ (by omega) (by omega) (by omega) (by omega)]
  simp only [Option.bind_some, minI_eq]
  exact ⟨trivial, by omega, by omega⟩
theorem in_true {lo hi x : Int} (h0 : lo ≤ x) (h1 : x ≤ hi) : inR lo hi x = true := inR_iff.2 ⟨h0, h1⟩
theorem q504 {t : STables} (h : airB t = true) {s p q : Int} (s0 : 0 ≤ s ∧ s ≤ 12000) (p0 : 50 ≤ p ∧ p ≤ 3000) (q0 : -40 ≤ q ∧ q ≤ 150) : q311 t s p q = some (chV t s p q, 0) := by
  unfold q311
  rw [q326, h, q40, q40, q40, in_true s0.1 s0.2, in_true p0.1 p0.2, in_true q0.1 q0.2, (ch_eq h s p q).1]
  rfl
structure PrOk (t : STables) (s w q p e : Int) : Prop where
  out : e = 0 ∨ e = 2 ∨ e = 7
  ran : e = 2 ↔ ¬ (0 ≤ w ∧ w ≤ 1048576)
  fit : e = 0 → 50 ≤ p ∧ p ≤ 3000 ∧ w ≤ chV t s p q
  low : e = 0 → 50 < p → chV t s (p - 1) q < w
  big : e = 7 → chV t s 3000 q < w
theorem q509 {t : STables} (h : airB t = true) {s w q : Int} (s0 : 0 ≤ s ∧ s ≤ 12000) (q0 : -40 ≤ q ∧ q ≤ 150) : ∃ p e, q186 t s w q = some (p, e) ∧ PrOk t s w q p e := by
  unfold q186
  rw [q326, h, q40, q40, q40, in_true s0.1 s0.2, in_true q0.1 q0.2]
  simp only [Option.bind_some, Bool.not_true, cond_false]
  cases hw : inR 0 1048576 w
  · have hw2 : ¬ (0 ≤ w ∧ w ≤ 1048576) := fun h2 => by rw [inR_iff.2 h2] at hw; cases hw
    exact ⟨0, 2, rfl, .inr (.inl rfl), ⟨fun _ => hw2, fun _ => rfl⟩, fun h => (by cases h), fun h => (by cases h), fun h => (by cases h)⟩
  · have hw2 := inR_iff.1 hw
    simp only [Bool.not_true, cond_false]
    obtain ⟨k, k1, k2, k3, k4⟩ := q133 2951 (by omega) (fun x0 => q108 x0 t s q w) (fun i => decide (chV t s (50 + (i : Int)) q ≥ w)) (fun i hi => by
      unfold q108
      rw [w64_of (by omega) (by omega), (ch_eq h s _ q).1]
      rfl)
    have k2' : q46 2951 (fun x0 => q108 x0 t s q w) = some (k : Int) := k2
    rw [k2']
    simp only [Option.bind_some]
    rw [w64_of (n := 50 + (k : Int)) (by omega) (by omega)]
    by_cases hk : k = 2951
    · subst hk
      refine ⟨0, 7, rfl, .inr (.inr rfl), ⟨fun h => (by cases h), fun h => absurd hw2 h⟩, fun h => (by cases h), fun h => (by cases h), fun _ => ?_⟩
      have := k3 (by omega)
      rw [decide_eq_false_iff_not] at this
      have e : (50 : Int) + ((2951 - 1 : Nat) : Int) = 3000 := by omega
      rw [e] at this
      omega
    · have h4 := k4 (by omega)
      rw [decide_eq_true_eq] at h4
      rw [decide_eq_false (show ¬ (50 + (k : Int) > 3000) by omega)]
      refine ⟨50 + (k : Int), 0, rfl, .inl rfl, ⟨fun h => (by cases h), fun h => absurd hw2 h⟩, fun _ => ⟨by omega, by omega, by omega⟩, fun _ hp => ?_, fun h => (by cases h)⟩
      have h3 := k3 (by omega)
      rw [decide_eq_false_iff_not] at h3
      have e : (50 : Int) + ((k - 1 : Nat) : Int) = 50 + (k : Int) - 1 := by omega
      rw [e] at h3
      omega
def rpmV (s : Int) : Int := -((-(s * 65536 * 23040)) / 60000000)
theorem q513 {s : Int} (s0 : 0 ≤ s ∧ s ≤ 12000) : 0 ≤ rpmV s ∧ rpmV s ≤ 310000 := by unfold rpmV; omega
def flowV (s p : Int) : Int := rpmV s * p / 1024
theorem flow_eq {s p : Int} (s0 : 0 ≤ s ∧ s ≤ 12000) (p0 : 50 ≤ p ∧ p ≤ 3000) : q368 s p = some (flowV s p, 0) ∧ 0 ≤ flowV s p ∧ flowV s p ≤ 930000000 := by
  have r := q513 s0
  have b := prod_le (B := 3000) r.1 r.2 (show 0 ≤ p by omega) p0.2
  unfold q368 q270 q180
  rw [q40, q40, in_true s0.1 s0.2, in_true p0.1 p0.2]
  rw [show ((decide (s < 0)) || (decide (s > 20000))) = false by rw [Bool.or_eq_false_iff]; exact ⟨decide_eq_false (by omega), decide_eq_false (by omega)⟩]
  rw [w64_of (n := s * 65536) (by omega) (by omega), w64_of (n := s * 65536 * 23040) (by omega) (by omega), q406 _ _ 2 (by omega) (by omega) (by omega) (by omega) (.inr rfl)]
  simp only [Option.bind_some, Bool.not_true, cond_false]
  rw [if_neg (by decide)]
  have er : -((-(s * 65536 * 23040)) / 60000000) = rpmV s := rfl
  unfold flowV
  rw [er, w64_of (n := rpmV s * p) (by omega) (by omega), Int.tdiv_eq_ediv_of_nonneg b.1, w64_of (by omega) (by omega)]
  exact ⟨rfl, by omega, by omega⟩
structure BodyOk (b : SBody) : Prop where
  i : 100 ≤ b.Inertia ∧ b.Inertia ≤ 1048576
  f : 0 ≤ b.Friction ∧ b.Friction ≤ 65536
  t : 0 ≤ b.Throttle ∧ b.Throttle ≤ 65536
  v : 1 ≤ b.Volume ∧ b.Volume ≤ 65536
  fi : 0 ≤ b.Film ∧ b.Film ≤ 1023
  ev : 1 ≤ b.Evaporate ∧ b.Evaporate ≤ 1024
  de : 0 ≤ b.Delay ∧ b.Delay ≤ 20
def bodyB (b : SBody) : Bool := inR 100 1048576 b.Inertia && inR 0 65536 b.Friction && inR 0 65536 b.Throttle && inR 1 65536 b.Volume && inR 0 1023 b.Film && inR 1 1024 b.Evaporate && inR 0 20 b.Delay
theorem body_eq (b : SBody) : q213 b = some (bodyB b) := by
  unfold q213 bodyB
  have e : ∀ x lo hi, q75 x lo hi = some (inR lo hi x) := fun _ _ _ => rfl
  simp only [e, Option.bind_some]
  cases inR 100 1048576 b.Inertia <;> cases inR 0 65536 b.Friction <;> cases inR 0 65536 b.Throttle <;> cases inR 1 65536 b.Volume <;> cases inR 0 1023 b.Film <;> cases inR 1 1024 b.Evaporate <;> rfl
theorem bodyOk {b : SBody} (h : bodyB b = true) : BodyOk b := by
  unfold bodyB at h
  simp only [Bool.and_eq_true, inR_iff] at h
  obtain ⟨⟨⟨⟨⟨⟨h1, h2⟩, h3⟩, h4⟩, h5⟩, h6⟩, h7⟩ := h
  exact ⟨h1, h2, h3, h4, h5, h6, h7⟩
structure ThOk (b : SBody) (f p n e : Int) : Prop where
  out : e = 0 ∨ e = 7
  fit : e = 0 → 0 ≤ n ∧ n ≤ 1000 ∧ f ≤ b.Throttle * n * (1013 - p) / 1000
  low : e = 0 → 0 < n → b.Throttle * (n - 1) * (1013 - p) / 1000 < f
  big : e = 7 → b.Throttle * 1000 * (1013 - p) / 1000 < f
theorem q510 {b : SBody} (h : bodyB b = true) {f p : Int} (f0 : 0 ≤ f ∧ f ≤ 1099511627776) (p0 : 50 ≤ p ∧ p ≤ 1013) : ∃ n e, q190 b f p = some (n, e) ∧ ThOk b f p n e := by
  have kb := (bodyOk h).t
  have v : ∀ k : Nat, k ≤ 1000 → (w64 (Int.tdiv (w64 ((w64 (b.Throttle * (k : Int))) * (w64 (1013 - p)))) 1000)) = b.Throttle * (k : Int) * (1013 - p) / 1000 := by
    intro k hk
    have b1 := prod_le (A := 65536) (B := 1000) kb.1 kb.2 (show 0 ≤ (k : Int) by omega) (by omega)
    have b2 := prod_le (A := 65536000) (B := 1000) b1.1 (by omega) (show 0 ≤ 1013 - p by omega) (by omega)
    rw [w64_of (n := b.Throttle * (k : Int)) (by omega) (by omega), w64_of (n := 1013 - p) (by omega) (by omega), w64_of (n := b.Throttle * (k : Int) * (1013 - p)) (by omega) (by omega), Int.tdiv_eq_ediv_of_nonneg b2.1, w64_of (by omega) (by omega)]
  unfold q190
  rw [body_eq, h, q40, q40, in_true f0.1 f0.2, in_true p0.1 p0.2]
  simp only [Option.bind_some, Bool.not_true, cond_false]
  obtain ⟨k, k1, k2, k3, k4⟩ := q133 1001 (by omega) (fun x0 => q104 x0 b p f) (fun i => decide (b.Throttle * (i : Int) * (1013 - p) / 1000 ≥ f)) (fun i hi => by
    unfold q104
    rw [v i (by omega)])
  have k2' : q46 1001 (fun x0 => q104 x0 b p f) = some (k : Int) := k2
  rw [k2']
  simp only [Option.bind_some]
  by_cases hk : k = 1001
  · subst hk
    refine ⟨0, 7, rfl, .inr rfl, fun h => (by cases h), fun h => (by cases h), fun _ => ?_⟩
    have := k3 (by omega)
    rw [decide_eq_false_iff_not] at this
    have e : ((1001 - 1 : Nat) : Int) = 1000 := by omega
    rw [e] at this
    omega
  · have h4 := k4 (by omega)
    rw [decide_eq_true_eq] at h4
    rw [decide_eq_false (show ¬ ((k : Int) > 1000) by omega)]
    refine ⟨(k : Int), 0, rfl, .inl rfl, fun _ => ⟨by omega, by omega, by omega⟩, fun _ hp => ?_, fun h => (by cases h)⟩
    have h3 := k3 (by omega)
    rw [decide_eq_false_iff_not] at h3
    have e : ((k - 1 : Nat) : Int) = (k : Int) - 1 := by omega
    rw [e] at h3
    omega
noncomputable def optV (t : STables) (s c : Int) : Int := sAt t.Torque s c
noncomputable def torV (t : STables) (o l f n : Int) : Int := o * cAt t.Efficiency l * f / (1000 * n)
theorem q132 (x lo hi : Int) : q35 x lo hi = some (inR lo hi x) := rfl
theorem opt_eq {t : STables} (h : torB t = true) {s c : Int} (s0 : 0 ≤ s ∧ s ≤ 12000) (c0 : 0 ≤ c ∧ c ≤ 1048576) : q140 t s c = some (optV t s c, 0) ∧ 0 ≤ optV t s c ∧ optV t s c ≤ 10000 := by
  have k := q506 h
  have b := q366 k s c (torOk h).z
  refine ⟨?_, b.1, b.2⟩
  unfold q140
  rw [q245, h, q132, q132, in_true s0.1 s0.2, in_true c0.1 c0.2, sAt_eq k]
  rfl
theorem tor_eq {t : STables} (h : torB t = true) {o l f n : Int} (o0 : 0 ≤ o ∧ o ≤ 10000) (f0 : 0 ≤ f ∧ f ≤ n) (n0 : 1 ≤ n ∧ n ≤ 8) : q97 t o l f n = some (torV t o l f n) ∧ 0 ≤ torV t o l f n ∧ torV t o l f n ≤ 10000 := by
  obtain ⟨e, h1, h2, h3, h4⟩ := q524 h l
  unfold torV cAt
  rw [h4 o f n o0.1 o0.2 f0.1 f0.2 n0.1 n0.2, h1]
  have b1 := prod_le (A := 10000) (B := 1000) o0.1 o0.2 h2 h3
  have b2 := prod_le (A := 10000000) b1.1 (by omega) f0.1 f0.2
  refine ⟨rfl, Int.ediv_nonneg b2.1 (by omega), ?_⟩
  have : o * e * f / (1000 * n) ≤ 10000000 * n / (1000 * n) := Int.ediv_le_ediv (by omega) b2.2
  rw [show 10000000 * n = 10000 * (1000 * n) by omega, Int.mul_ediv_cancel _ (by omega)] at this
  exact this
theorem q541 {t : STables} (h : torB t = true) {s w : Int} (s0 : 0 ≤ s ∧ s ≤ 12000) : ∃ c e, q161 t s w = some (c, e) ∧ (e = 0 ∨ e = 7) ∧
    (e = 0 → nd t.Torque.Y 0 ≤ c ∧ c ≤ nd t.Torque.Y (t.Torque.Y.length - 1) ∧ w ≤ sAt t.Torque s c ∧ (nd t.Torque.Y 0 < c → sAt t.Torque s (c - 1) < w)) ∧ (e = 7 → sAt t.Torque s (nd t.Torque.Y (t.Torque.Y.length - 1)) < w) := by
  have k := q506 h
  have ky := (mapOk k).y
  have y2 := ky.two
  have ym := ky.most
  have e0 := ky.el 0 (by omega)
  have e1 := ky.el (t.Torque.Y.length - 1) (by omega)
  have le := ky.le (t.Torque.Y.length - 1) 0 (by omega) (by omega)
  rw [← nd_get (by omega : 0 < t.Torque.Y.length)] at e0 le
  rw [← nd_get (by omega : t.Torque.Y.length - 1 < t.Torque.Y.length)] at e1 le
  have g0 : getI t.Torque.Y 0 = some (nd t.Torque.Y 0) := by have := getI_get t.Torque.Y 0 (by omega); rw [nd_get (by omega)]; exact this
  have ew : w64 ((t.Torque.Y.length : Int) - 1) = ((t.Torque.Y.length - 1 : Nat) : Int) := by rw [w64_of (by omega) (by omega)]; omega
  have gl : getI t.Torque.Y ((t.Torque.Y.length - 1 : Nat) : Int) = some (nd t.Torque.Y (t.Torque.Y.length - 1)) := by rw [getI_get _ _ (by omega), nd_get (by omega)]
  unfold q161
  rw [q245, h, q132, in_true s0.1 s0.2]
  simp only [Option.bind_some, Bool.not_true, cond_false]
  rw [g0, ew]
  simp only [Option.bind_some]
  rw [gl]
  simp only [Option.bind_some]
  generalize nd t.Torque.Y 0 = a at *
  generalize nd t.Torque.Y (t.Torque.Y.length - 1) = b at *
  rw [w64_of (n := b - a) (by omega) (by omega), w64_of (n := b - a + 1) (by omega) (by omega)]
  obtain ⟨n, hn⟩ : ∃ n : Nat, b - a + 1 = n := ⟨(b - a + 1).toNat, by omega⟩
  rw [hn]
  obtain ⟨j, k1, k2, k3, k4⟩ := q133 n (by omega) (fun x0 => q130 x0 t s a w) (fun i => decide (sAt t.Torque s (a + (i : Int)) ≥ w)) (fun i hi => by
    unfold q130
    rw [w64_of (by omega) (by omega), sAt_eq k]; rfl)
  rw [k2]
  simp only [Option.bind_some]
  by_cases hj : j = n
  · subst hj
    refine ⟨0, 7, by simp, .inr rfl, fun h => (by cases h), fun _ => ?_⟩
    have := k3 (by omega)
    rw [decide_eq_false_iff_not, show a + ((j - 1 : Nat) : Int) = b by omega] at this
    omega
  · have : ((j : Int) == (n : Int)) = false := by
      rw [beq_eq_false_iff_ne]; omega
    rw [this, w64_of (n := a + (j : Int)) (by omega) (by omega)]
    have h4 := k4 (by omega)
    rw [decide_eq_true_eq] at h4
    refine ⟨a + (j : Int), 0, rfl, .inl rfl, fun _ => ⟨by omega, by omega, by omega, fun hp => ?_⟩, fun h => (by cases h)⟩
    have h3 := k3 (by omega)
    rw [decide_eq_false_iff_not, show a + ((j - 1 : Nat) : Int) = a + (j : Int) - 1 by omega] at h3
    omega
structure ShOk (t : STables) (o w n f l : Int) : Prop where
  f0 : 0 ≤ f
  f1 : f ≤ n
  l0 : 0 ≤ l
  l1 : l ≤ 2560
  fit : f = 0 ∨ torV t o 2560 f n ≤ w
  more : f < n → w < torV t o 2560 (f + 1) n
  late : l < 2560 → torV t o l f n ≤ w
  less : 0 < l → w < torV t o (l - 1) f n
theorem q552 (t : STables) (o l n : Int) : torV t o l 0 n = 0 := by unfold torV; rw [Int.mul_zero, Int.zero_ediv]
theorem ShOk.most {t : STables} {o w n f l : Int} (h : ShOk t o w n f l) (hw : 0 ≤ w) : torV t o l f n ≤ w := by
  by_cases hl : l < 2560
  · exact h.late hl
  · have : l = 2560 := by have := h.l1; omega
    subst this
    rcases h.fit with h0 | h0
    · rw [h0, q552]; exact hw
    · exact h0
theorem q450 {t : STables} (h : torB t = true) {o w n : Int} (o0 : 0 ≤ o ∧ o ≤ 10000) (n0 : 1 ≤ n ∧ n ≤ 8) : ∀ k : Nat, (k : Int) ≤ n → ((k : Int) < n → w < torV t o 2560 ((k : Int) + 1) n) →
    ∃ f, loopM (q124 t w n (o, 0)) (k : Int) = some (.inl f) ∧ 0 ≤ f ∧ f ≤ n ∧ (f = 0 ∨ torV t o 2560 f n ≤ w) ∧ (f < n → w < torV t o 2560 (f + 1) n)
  | 0, _, hm => ⟨0, loopM_out (by unfold q124; rfl), Int.le_refl _, by omega, .inl rfl, hm⟩
  | k + 1, hk, hm => by
    have he := (tor_eq h (l := 2560) (f := ((k + 1 : Nat) : Int)) o0 ⟨by omega, hk⟩ n0).1
    have hb : q124 t w n (o, 0) ((k + 1 : Nat) : Int) = some (bif decide (torV t o 2560 ((k + 1 : Nat) : Int) n ≤ w) then .inr (.inl ((k + 1 : Nat) : Int)) else .inl (k : Int)) := by
      unfold q124
      rw [decide_eq_true (show ((k + 1 : Nat) : Int) > 0 by omega), he, w64_of (by omega) (by omega), show ((k + 1 : Nat) : Int) - 1 = (k : Int) by omega]
      simp only [cond_true, Option.bind_some]
      cases decide (torV t o 2560 ((k + 1 : Nat) : Int) n ≤ w) <;> rfl
    by_cases hc : torV t o 2560 ((k + 1 : Nat) : Int) n ≤ w
    · rw [decide_eq_true hc] at hb
      exact ⟨_, loopM_out hb, by omega, hk, .inr hc, hm⟩
    · rw [decide_eq_false hc] at hb
      rw [loopM_next hb]
      exact q450 h o0 n0 k (by omega) (fun _ => by rw [show (k : Int) + 1 = ((k + 1 : Nat) : Int) by omega]; omega)
theorem q559 {t : STables} (h : torB t = true) {s c w n : Int} (s0 : 0 ≤ s ∧ s ≤ 12000) (c0 : 0 ≤ c ∧ c ≤ 1048576) (w0 : 0 ≤ w) (n0 : 1 ≤ n ∧ n ≤ 8) : ∃ f l, q112 t s c w n = some (f, l, 0) ∧ ShOk t (optV t s c) w n f l := by
  obtain ⟨h1, h2⟩ := opt_eq h s0 c0
  unfold q112
  rw [h1]
  simp only [Option.bind_some]
  rw [show (((0 : Int) != 0) = false) from rfl, q132, in_true n0.1 n0.2, decide_eq_false (show ¬ w < 0 by omega)]
  simp only [cond_false, Option.bind_some, Bool.not_true, Bool.or_self]
  generalize optV t s c = o at h2
  obtain ⟨k, hk⟩ : ∃ k : Nat, n = k := ⟨n.toNat, by omega⟩
  obtain ⟨f, f1, f2, f3, f4, f5⟩ := q450 h (w := w) h2 n0 k (by omega) (fun h => by omega)
  rw [← hk] at f1
  rw [f1]
  simp only [Option.bind_some]
  obtain ⟨j, k1, k2, k3, k4⟩ := q133 2560 (by omega) (fun x0 => q106 x0 t o f n w) (fun i => decide (torV t o (i : Int) f n ≤ w)) (fun i hi => by
    unfold q106
    rw [(tor_eq h h2 ⟨f2, f3⟩ n0).1]; rfl)
  have k2' : q46 2560 (fun x0 => q106 x0 t o f n w) = some (j : Int) := k2
  rw [k2']
  refine ⟨f, (j : Int), rfl, f2, f3, by omega, by omega, f4, f5, fun hl => ?_, fun hl => ?_⟩
  · have := k4 (by omega)
    rwa [decide_eq_true_eq] at this
  · have := k3 (by omega)
    rw [decide_eq_false_iff_not, show ((j - 1 : Nat) : Int) = (j : Int) - 1 by omega] at this
    omega
theorem q526 {t : STables} (h : torB t = true) {s c l f n : Int} (s0 : 0 ≤ s ∧ s ≤ 12000) (c0 : 0 ≤ c ∧ c ≤ 1048576) (l0 : 0 ≤ l ∧ l ≤ 2560) (f0 : 0 ≤ f ∧ f ≤ n) (n0 : 1 ≤ n ∧ n ≤ 8) : q226 t s c l f n = some (torV t (optV t s c) l f n, 0) := by
  obtain ⟨h1, h2⟩ := opt_eq h s0 c0
  unfold q226
  rw [h1]
  simp only [Option.bind_some]
  rw [show (((0 : Int) != 0) = false) from rfl, q132, q132, q132, in_true l0.1 l0.2, in_true n0.1 n0.2, in_true f0.1 f0.2, (tor_eq h h2 f0 n0).1]
  rfl
def patB (n f i : Int) : Bool := decide ((i + 1) * f / n > i * f / n)
theorem quoE {a b : Int} (ha : 0 ≤ a) (hb : 0 < b) (hm : a ≤ 9223372036854775807) : quoM .i64 a b = some (a / b) := by
  have h1 : a / b ≤ a := Int.ediv_le_self _ ha
  have h2 : 0 ≤ a / b := Int.ediv_nonneg ha (by omega)
  unfold quoM
  rw [if_neg (by omega), Int.tdiv_eq_ediv_of_nonneg ha]
  have := w64_of (n := a / b) (by omega) (by omega)
  unfold w64 at this
  rw [this]
theorem q514 {n : Nat} {f : Int} (n0 : 1 ≤ n ∧ n ≤ 8) (f0 : 0 ≤ f ∧ f ≤ n) : q196 (n : Int) f 0 = some ((List.range n).map (fun i : Nat => patB n f (i : Int)), 0) := by
  unfold q196
  rw [q132, q132, q132, in_true (by omega) (by omega), in_true f0.1 f0.2]
  simp only [Option.bind_some, Bool.not_true, cond_false]
  rw [show inR 0 1099511627776 0 = true from rfl, makeM_nat n (by omega)]
  simp only [Option.bind_some, Bool.not_true, cond_false]
  obtain ⟨u, e, hu⟩ := rangeN_inv (List.replicate n false).length (by simp; omega) (q208 (n : Int) f 0) (fun i u => u.length = n ∧ ∀ j, j < i → u[j]? = some (patB n f (j : Int))) (List.replicate n false) ⟨by simp, fun j hj => by omega⟩ (fun j hj u hu => by
    simp only [List.length_replicate] at hj
    obtain ⟨hl, hg⟩ := hu
    unfold q208
    have m1 := prod_le (A := 9) (B := 8) (show 0 ≤ (j : Int) + 1 by omega) (by omega) f0.1 (by omega)
    have m2 := prod_le (A := 9) (B := 8) (show 0 ≤ (j : Int) by omega) (by omega) f0.1 (by omega)
    have er : remM (w64 ((j : Int) + 0)) (n : Int) = some (j : Int) := by
      unfold remM
      rw [if_neg (by omega), Int.add_zero, w64_of (by omega) (by omega), Int.tmod_eq_emod_of_nonneg (by omega), Int.emod_eq_of_lt (by omega) (by omega)]
    rw [er]
    simp only [Option.bind_some]
    rw [w64_of (n := (j : Int) + 1) (by omega) (by omega), w64_of (n := ((j : Int) + 1) * f) (by omega) (by omega), w64_of (n := (j : Int) * f) (by omega) (by omega), quoE m1.1 (by omega) (by omega), quoE m2.1 (by omega) (by omega)]
    simp only [Option.bind_some]
    rw [getI_get _ _ (by omega)]
    simp only [Option.bind_some]
    rw [setM_nat _ _ _ (by omega)]
    refine ⟨_, rfl, by simp [hl], fun i hi => ?_⟩
    rcases Nat.lt_or_ge i j with h | h
    · rw [List.getElem?_set_ne (by omega)]; exact hg i h
    · have : i = j := by omega
      subst this
      rw [List.getElem?_set_self (by omega)]; rfl)
  rw [e]
  simp only [List.length_replicate] at hu
  have : u = (List.range n).map (fun i : Nat => patB n f (i : Int)) := by
    apply List.ext_getElem?
    intro i
    rcases Nat.lt_or_ge i n with h | h
    · rw [hu.2 i h, List.getElem?_map, List.getElem?_range h]; rfl
    · rw [List.getElem?_eq_none (by omega), List.getElem?_eq_none (by simp; omega)]
  rw [this]
  rfl
end Go.Pv
set_option linter.unusedSimpArgs false
namespace Go.Pv.Ev
open Go Go.Pv
theorem dec_of {p : Prop} [Decidable p] {b : Bool} (h : p ↔ b = true) : decide p = b := by
  cases b
  · exact decide_eq_false fun hp => Bool.noConfusion (h.1 hp)
  · exact decide_eq_true (h.2 rfl)
theorem q350 {α : Type} [DecidableEq α] : ∀ {l m : List α}, l.Nodup → (∀ x ∈ l, x ∈ m) → m.length ≤ l.length → l.Perm m
  | [], m, _, _, h => by
    have : m = [] := List.length_eq_zero_iff.1 (Nat.le_zero.1 h)
    rw [this]
  | x :: l, m, hn, hs, hl => by
    have hx : x ∈ m := hs x (List.mem_cons_self ..)
    have hp := List.perm_cons_erase hx
    rw [List.nodup_cons] at hn
    have hlen := hp.length_eq
    simp only [List.length_cons] at hlen hl
    refine (List.Perm.cons x (q350 hn.2 (fun y hy => ?_) (by omega))).trans hp.symm
    have hne : y ≠ x := fun h => hn.1 (h ▸ hy)
    exact (List.mem_erase_of_ne hne).2 (hs y (List.mem_cons_of_mem _ hy))
theorem q530 {l : List Int} : (∀ k, k < l.length → ((k : Int) + 1) ∈ l) ↔ (∀ x ∈ l, 1 ≤ x ∧ x ≤ l.length) ∧ l.Nodup := by
  have hN : ((List.range l.length).map (fun k : Nat => (k : Int) + 1)).Nodup := by
    unfold List.Nodup
    rw [List.pairwise_map]
    exact List.Pairwise.imp (fun {a b} h => by omega) List.pairwise_lt_range
  have hm : ∀ x : Int, x ∈ (List.range l.length).map (fun k : Nat => (k : Int) + 1) ↔ 1 ≤ x ∧ x ≤ l.length := by
    intro x
    rw [List.mem_map]
    constructor
    · rintro ⟨k, hk, rfl⟩
      rw [List.mem_range] at hk
      omega
    · intro h
      exact ⟨(x - 1).toNat, by rw [List.mem_range]; omega, by omega⟩
  constructor
  · intro h
    have hp : ((List.range l.length).map (fun k : Nat => (k : Int) + 1)).Perm l := q350 hN (fun x hx => by
      rw [List.mem_map] at hx
      obtain ⟨k, hk, rfl⟩ := hx
      exact h k (List.mem_range.1 hk)) (by simp)
    exact ⟨fun x hx => (hm x).1 (hp.mem_iff.2 hx), hp.nodup_iff.1 hN⟩
  · rintro ⟨h1, h2⟩ k hk
    have hp : l.Perm ((List.range l.length).map (fun k : Nat => (k : Int) + 1)) := q350 h2 (fun x hx => (hm x).2 (h1 x hx)) (by simp)
    exact hp.mem_iff.2 ((hm _).2 (by omega))
def idx (v : Int) : List Int → Nat → Int
  | [], _ => -1
  | x :: l, i => bif v == x then (i : Int) else idx v l (i + 1)
theorem q501 (v : Int) : ∀ (l : List Int) (i : Nat), (idx v l i = -1 ∧ v ∉ l) ∨ ∃ k : Nat, idx v l i = ((i + k : Nat) : Int) ∧ l[k]? = some v
  | [], i => .inl ⟨rfl, by simp⟩
  | x :: l, i => by
    unfold idx
    cases h : v == x
    · have hne : v ≠ x := by simpa using h
      rcases q501 v l (i + 1) with ⟨h1, h2⟩ | ⟨k, h1, h2⟩
      · exact .inl ⟨h1, by simp [hne, h2]⟩
      · exact .inr ⟨k + 1, by simp only [cond_false]; rw [h1]; omega, by simpa using h2⟩
    · have : v = x := by simpa using h
      exact .inr ⟨0, by simp, by simp [this]⟩
theorem idx_mem (v : Int) (l : List Int) : decide (idx v l 0 ≥ 0) = decide (v ∈ l) := by
  rcases q501 v l 0 with ⟨h1, h2⟩ | ⟨k, h1, h2⟩
  · rw [h1]; simp [h2]
  · rw [h1]; simp [List.mem_of_getElem? h2]
theorem q477 (v : Int) : ∀ (l : List Int) (i : Nat), (Option.bind (stepsL (fun (i : Int) x (_ : Unit) => bif (v == x) then (some (Fl.ret i)) else (some (Fl.next ()))) l (i : Int) ()) fun (t : Unit ⊕ Int) => match t with | .inl _ => (some (-1)) | .inr r2 => some r2) = some (idx v l i)
  | [], i => rfl
  | x :: l, i => by
    simp only [stepsL, idx]
    cases v == x
    · simpa using q477 v l (i + 1)
    · rfl
theorem q555 (s : List Int) (v : Int) (h : s.length ≤ 9223372036854775807) : q138 s v = some (idx v s 0) := by
  unfold q138
  have : rangeN (s.length : Int) (q253 s v) () = stepsL (fun (i : Int) x (_ : Unit) => bif (v == x) then (some (Fl.ret i)) else (some (Fl.next ()))) s 0 () := rangeN_list s h _ ()
  rw [this]
  exact q477 v s 0
theorem q280 (s : List Int) (v : Int) (h : s.length ≤ 9223372036854775807) : q77 s v = some (decide (v ∈ s)) := by
  unfold q77
  rw [q555 s v h, Option.bind_some, idx_mem]
def engP (e : SEngine) : Prop := 1 ≤ e.Order.length ∧ e.Order.length ≤ 8 ∧ 0 ≤ e.First ∧ e.First < 46080 ∧ (∀ x ∈ e.Order, 1 ≤ x ∧ x ≤ (e.Order.length : Int)) ∧ e.Order.Nodup
instance (e : SEngine) : Decidable (engP e) := by unfold engP; infer_instance
theorem q543 {e : SEngine} (h : (((decide ((e.Order.length : Int) < 1)) || (decide ((e.Order.length : Int) > 8))) || !((decide (e.First ≥ 0)) && (decide (e.First < 46080)))) = true) : ¬ engP e := by
  rintro ⟨h1, h2, h3, h4, _⟩
  simp only [Bool.or_eq_true, Bool.not_eq_true', Bool.and_eq_false_iff, decide_eq_true_eq, decide_eq_false_iff_not] at h
  omega
theorem q556 {e : SEngine} (h : (((decide ((e.Order.length : Int) < 1)) || (decide ((e.Order.length : Int) > 8))) || !((decide (e.First ≥ 0)) && (decide (e.First < 46080)))) = false) : 1 ≤ e.Order.length ∧ e.Order.length ≤ 8 ∧ 0 ≤ e.First ∧ e.First < 46080 := by
  simp only [Bool.or_eq_false_iff, Bool.not_eq_false', Bool.and_eq_true, decide_eq_true_eq, decide_eq_false_iff_not] at h
  omega
theorem all_range' {n : Nat} {p : Nat → Bool} : (List.range' 0 n).all p = true ↔ ∀ k, k < n → p k = true := by
  rw [List.all_eq_true]
  constructor
  · intro h k hk
    exact h k (by rw [List.mem_range'_1]; omega)
  · intro h k hk
    rw [List.mem_range'_1] at hk
    exact h k (by omega)
theorem q62 (e : SEngine) : q110 e = some (decide (engP e)) := by
  unfold q110 q331
  have hb : (Option.bind (bif ((decide ((e.Order.length : Int) < 1)) || (decide ((e.Order.length : Int) > 8))) then (some true) else (Option.bind (some ((decide (e.First ≥ 0)) && (decide (e.First < 46080)))) fun v => some (!v))) : (Bool → Option Bool) → Option Bool) = fun k => k (((decide ((e.Order.length : Int) < 1)) || (decide ((e.Order.length : Int) > 8))) || !((decide (e.First ≥ 0)) && (decide (e.First < 46080)))) := by
    funext k
    cases ((decide ((e.Order.length : Int) < 1)) || (decide ((e.Order.length : Int) > 8))) <;> rfl
  rw [hb]
  cases hh : (((decide ((e.Order.length : Int) < 1)) || (decide ((e.Order.length : Int) > 8))) || !((decide (e.First ≥ 0)) && (decide (e.First < 46080))))
  · obtain ⟨h1, h2, h3, h4⟩ := q556 hh
    have k := loopM_all (mb := q174 e) (fun i => (i : Int) + 1) (p := fun i => decide (((i : Int) + 1) ∈ e.Order)) (b0 := .inl ((e.Order.length : Int) + 1)) (b1 := .inr false) e.Order.length (by
      unfold q174
      rw [show decide ((e.Order.length : Int) + 1 ≤ (e.Order.length : Int)) = false by simp; omega]; rfl) (fun k hk => by
      unfold q174
      simp only [show decide ((k : Int) + 1 ≤ (e.Order.length : Int)) = true by simp; omega, cond_true, q280 e.Order _ (by omega), Option.bind_some, w64_of (n := (k : Int) + 1 + 1) (by omega) (by omega)]
      cases decide (((k : Int) + 1) ∈ e.Order) <;> rfl)
    simp only [show ((0 : Nat) : Int) + 1 = 1 from rfl] at k
    simp only [cond_false]
    rw [k]
    have hP : engP e ↔ (List.range' 0 e.Order.length).all (fun i => decide (((i : Int) + 1) ∈ e.Order)) = true := by
      rw [all_range']
      simp only [decide_eq_true_eq]
      rw [q530]
      unfold engP
      constructor
      · rintro ⟨_, _, _, _, h5, h6⟩; exact ⟨h5, h6⟩
      · rintro ⟨h5, h6⟩; exact ⟨h1, h2, h3, h4, h5, h6⟩
    rw [dec_of hP]
    cases (List.range' 0 e.Order.length).all (fun i => decide (((i : Int) + 1) ∈ e.Order)) <;> rfl
  · simp only [cond_true]
    rw [decide_eq_false (q543 hh)]
end Go.Pv.Ev
set_option linter.unusedSimpArgs false
namespace Go.Pv
open Go
def k0 : SKnock := ⟨0, 100, 0⟩
def zeroC : SControls := ⟨⟨0, 0, false⟩, ⟨0⟩, [], ⟨false, false, 0, 0, []⟩, 0, ⟨0, 0⟩⟩
def probe0 : SProbe := ⟨false, false, 1000, 0, List.replicate 9 ⟨0, 0⟩⟩
def newC (n : Nat) : SControls := ⟨⟨0, 0, false⟩, ⟨0⟩, List.replicate n k0, probe0, 0, ⟨0, -1⟩⟩
theorem q540 (n : Nat) (h1 : 1 ≤ n) (h8 : n ≤ 8) : q102 [k0] (n : Int) = some (List.replicate n k0) := by
  have key : loopM q198 (1, copyL (List.replicate n ⟨0, 0, 0⟩) [k0]) = some (.inl ((n : Int), List.replicate n k0)) := by
    have : n = 1 ∨ n = 2 ∨ n = 3 ∨ n = 4 ∨ n = 5 ∨ n = 6 ∨ n = 7 ∨ n = 8 := by omega
    rcases this with rfl | rfl | rfl | rfl | rfl | rfl | rfl | rfl
    · exact loopM_out (by rfl)
    · exact (loopM_next (s' := (2, [k0, k0])) (by rfl)).trans (loopM_out (by rfl))
    · exact (loopM_next (s' := (2, [k0, k0, ⟨0, 0, 0⟩])) (by rfl)).trans ((loopM_next (s' := (3, [k0, k0, k0])) (by rfl)).trans (loopM_out (by rfl)))
    · exact (loopM_next (s' := (2, [k0, k0, ⟨0, 0, 0⟩, ⟨0, 0, 0⟩])) (by rfl)).trans ((loopM_next (s' := (4, [k0, k0, k0, k0])) (by rfl)).trans (loopM_out (by rfl)))
    · exact (loopM_next (s' := (2, [k0, k0, ⟨0, 0, 0⟩, ⟨0, 0, 0⟩, ⟨0, 0, 0⟩])) (by rfl)).trans ((loopM_next (s' := (4, [k0, k0, k0, k0, ⟨0, 0, 0⟩])) (by rfl)).trans ((loopM_next (s' := (5, [k0, k0, k0, k0, k0])) (by rfl)).trans (loopM_out (by rfl))))
    · exact (loopM_next (s' := (2, [k0, k0, ⟨0, 0, 0⟩, ⟨0, 0, 0⟩, ⟨0, 0, 0⟩, ⟨0, 0, 0⟩])) (by rfl)).trans ((loopM_next (s' := (4, [k0, k0, k0, k0, ⟨0, 0, 0⟩, ⟨0, 0, 0⟩])) (by rfl)).trans ((loopM_next (s' := (6, [k0, k0, k0, k0, k0, k0])) (by rfl)).trans (loopM_out (by rfl))))
    · exact (loopM_next (s' := (2, [k0, k0, ⟨0, 0, 0⟩, ⟨0, 0, 0⟩, ⟨0, 0, 0⟩, ⟨0, 0, 0⟩, ⟨0, 0, 0⟩])) (by rfl)).trans ((loopM_next (s' := (4, [k0, k0, k0, k0, ⟨0, 0, 0⟩, ⟨0, 0, 0⟩, ⟨0, 0, 0⟩])) (by rfl)).trans ((loopM_next (s' := (7, [k0, k0, k0, k0, k0, k0, k0])) (by rfl)).trans (loopM_out (by rfl))))
    · exact (loopM_next (s' := (2, [k0, k0, ⟨0, 0, 0⟩, ⟨0, 0, 0⟩, ⟨0, 0, 0⟩, ⟨0, 0, 0⟩, ⟨0, 0, 0⟩, ⟨0, 0, 0⟩])) (by rfl)).trans ((loopM_next (s' := (4, [k0, k0, k0, k0, ⟨0, 0, 0⟩, ⟨0, 0, 0⟩, ⟨0, 0, 0⟩, ⟨0, 0, 0⟩])) (by rfl)).trans ((loopM_next (s' := (8, [k0, k0, k0, k0, k0, k0, k0, k0])) (by rfl)).trans (loopM_out (by rfl))))
  have a1 : q298 (IntKind.u64.wrap (([k0] : List SKnock).length : Int)) (IntKind.u64.wrap (n : Int)) = some (0, (n : Int)) := by
    have : n = 1 ∨ n = 2 ∨ n = 3 ∨ n = 4 ∨ n = 5 ∨ n = 6 ∨ n = 7 ∨ n = 8 := by omega
    rcases this with rfl | rfl | rfl | rfl | rfl | rfl | rfl | rfl <;> rfl
  have a2 : makeM (w64 (n : Int)) (⟨0, 0, 0⟩ : SKnock) = some (List.replicate n ⟨0, 0, 0⟩) := by
    have : n = 1 ∨ n = 2 ∨ n = 3 ∨ n = 4 ∨ n = 5 ∨ n = 6 ∨ n = 7 ∨ n = 8 := by omega
    rcases this with rfl | rfl | rfl | rfl | rfl | rfl | rfl | rfl <;> rfl
  have a3 : (((min ([k0] : List SKnock).length (List.replicate n (⟨0, 0, 0⟩ : SKnock)).length : Nat) : Int)) = 1 := by rw [List.length_replicate, List.length_singleton]; omega
  unfold q102
  rw [decide_eq_false (by omega), cond_false, Option.bind_some, a1, Option.bind_some]
  simp only
  rw [decide_eq_false (by omega : ¬ (0 : Int) > 0), decide_eq_false (by omega), Bool.or_false, cond_false, Option.bind_some, a2, Option.bind_some, a3, key]
  rfl
theorem q533 : q351 = some probe0 := rfl
theorem q357 (e : SEngine) : q220 e = some (bif decide (Ev.engP e) then (newC e.Order.length, 0) else (zeroC, 1)) := by
  unfold q220
  rw [Ev.q62, Option.bind_some]
  by_cases h : Ev.engP e
  · rw [decide_eq_true h, Bool.not_true, cond_false]
    have h1 := h.1
    have h8 := h.2.1
    have : q345 (e.Order.length : Int) = some (List.replicate e.Order.length k0, 0) := by
      unfold q345
      rw [decide_eq_false (by omega), decide_eq_false (by omega), Bool.or_false, cond_false, show ([(⟨0, 100, 0⟩ : SKnock)] : List SKnock) = [k0] from rfl, q540 _ h1 h8]
      rfl
    rw [this, q533]
    rfl
  · rw [decide_eq_false h]; rfl
def pedB (p : SPedal) : Bool := decide (0 ≤ p.Value ∧ p.Value ≤ 1000 ∧ 0 ≤ p.Differ ∧ p.Differ ≤ 3 ∧ (p.Fault = true ↔ p.Differ = 3) ∧ (p.Fault = true → p.Value ≤ 200))
theorem ped_eq (p : SPedal) : q209 p = some (pedB p) := by
  obtain ⟨v, d, f⟩ := p
  unfold q209 pedB
  cases f
  · simp only [cond_false, Option.bind_some, Option.some.injEq]
    apply q163
    by_cases q : d = 3 <;> simp [q] <;> omega
  · simp only [cond_true, Option.bind_some, Option.some.injEq]
    apply q163
    by_cases q : d = 3 <;> simp [q] <;> omega
def cellB (c : SCell) : Bool := inR (-100) 100 c.Value && inR 0 1000 c.Count
def mixB (p : SProbe) : Bool := inR 750 1250 p.Factor && inR 0 1000 p.Wait && decide (p.Cells.length = 9) && (p.Active || (decide (p.Factor = 1000) && decide (p.Wait = 0) && !p.Rich)) && p.Cells.all cellB
theorem q565 (c : SCell) : q73 c = some (!cellB c) := by
  unfold q73 cellB
  rw [show q54 c.Value (-100) 100 = some (inR (-100) 100 c.Value) from rfl, show q54 c.Count 0 1000 = some (inR 0 1000 c.Count) from rfl]
  cases inR (-100) 100 c.Value <;> rfl
theorem mix_eq (p : SProbe) : q117 p = some (mixB p) := by
  unfold q117 mixB
  rw [show q54 p.Factor 750 1250 = some (inR 750 1250 p.Factor) from rfl, show q54 p.Wait 0 1000 = some (inR 0 1000 p.Wait) from rfl, Option.bind_some]
  cases inR 750 1250 p.Factor
  · rfl
  cases inR 0 1000 p.Wait
  · rfl
  by_cases h9 : p.Cells.length = 9
  · have : ((p.Cells.length : Int) != 9) = false := by simp; omega
    have k : q103 p.Cells q73 = some (p.Cells.any fun c => !cellB c) := index_any p.Cells (by omega) q73 _ (fun c _ => q565 c)
    rw [this, k, decide_eq_true h9, List.any_eq_not_all_not]
    simp only [Bool.not_true, Bool.not_false, cond_false, cond_true, Option.bind_some, Bool.true_and, Bool.or_false, Bool.not_not]
    cases p.Active
    · have e : ((p.Factor != 1000 || p.Wait != 0) || p.Rich) = !(decide (p.Factor = 1000) && decide (p.Wait = 0) && !p.Rich) := by
        cases p.Rich <;> by_cases a : p.Factor = 1000 <;> by_cases b : p.Wait = 0 <;> simp [a, b]
      simp only [Bool.not_false, cond_true, Option.bind_some, Bool.false_or]
      rw [e]
      cases (decide (p.Factor = 1000) && decide (p.Wait = 0) && !p.Rich) <;> rfl
    · rfl
  · have : ((p.Cells.length : Int) != 9) = true := by simp; omega
    rw [this, decide_eq_false h9]
    rfl
def knB (k : SKnock) : Bool := inR 0 960 k.Retard && inR 0 4095 k.Noise && decide (k.Quiet ≥ 0) && decide (k.Quiet ≤ 99)
theorem kn_eq (k : SKnock) : q214 k = some (knB k) := by
  unfold q214 knB
  rw [show q179 k.Noise = some (inR 0 4095 k.Noise) from rfl, show (decide (k.Retard ≥ 0) && decide (k.Retard ≤ 960)) = inR 0 960 k.Retard from rfl]
  have e : decide (k.Quiet < 100) = decide (k.Quiet ≤ 99) := by apply q163; rw [decide_eq_true_eq, decide_eq_true_eq]; omega
  rw [e]
  cases inR 0 960 k.Retard <;> rfl
def goodB (e : SEngine) (c : SControls) : Bool := decide (Ev.engP e) && pedB c.Pedal && mixB c.Probe && decide (c.Knock.length = e.Order.length) && c.Knock.all knB && inR (-4398046511104) 4398046511104 c.Idle.Sum && inR 0 1073741824 c.Film && inR (-5000) 10000 c.Grant.Torque && inR (-1) 15 c.Grant.Source
theorem good_eq (e : SEngine) (c : SControls) : q86 e c = some (goodB e c) := by
  unfold q86 goodB
  rw [Ev.q62, ped_eq, mix_eq]
  simp only [Option.bind_some]
  by_cases h : Ev.engP e
  · rw [decide_eq_true h]
    cases pedB c.Pedal
    · rfl
    cases mixB c.Probe
    · rfl
    by_cases hl : c.Knock.length = e.Order.length
    · have : ((c.Knock.length : Int) != (e.Order.length : Int)) = false := by simp; omega
      have h8 := h.2.1
      have k : q44 c.Knock q105 = some (c.Knock.any fun k => !knB k) := index_any c.Knock (by omega) q105 _ (fun k _ => by unfold q105; rw [kn_eq]; rfl)
      rw [this, decide_eq_true hl, k, List.any_eq_not_all_not]
      simp only [Bool.not_true, Bool.not_false, cond_false, cond_true, Option.bind_some, Bool.true_and, Bool.or_false, Bool.not_not]
      rw [show q33 c.Idle.Sum (-4398046511104) 4398046511104 = some (inR (-4398046511104) 4398046511104 c.Idle.Sum) from rfl, show q33 c.Film 0 1073741824 = some (inR 0 1073741824 c.Film) from rfl,
        show q33 c.Grant.Torque (-5000) 10000 = some (inR (-5000) 10000 c.Grant.Torque) from rfl, show q33 c.Grant.Source (-1) 15 = some (inR (-1) 15 c.Grant.Source) from rfl]
      cases c.Knock.all knB
      · rfl
      cases inR (-4398046511104) 4398046511104 c.Idle.Sum
      · rfl
      cases inR 0 1073741824 c.Film
      · rfl
      cases inR (-5000) 10000 c.Grant.Torque <;> rfl
    · have : ((c.Knock.length : Int) != (e.Order.length : Int)) = true := by simp; omega
      rw [this, decide_eq_false hl]; rfl
  · rw [decide_eq_false h]; rfl
def reqB (r : SRequest) : Bool := decide (0 ≤ r.Source ∧ r.Source ≤ 15 ∧ 0 ≤ r.Priority ∧ r.Priority ≤ 15 ∧ -5000 ≤ r.Torque ∧ r.Torque ≤ 10000 ∧ (r.Kind = 1 ∨ (r.Source ≤ 1 ∧ (r.Kind = 2 ∨ r.Kind = 3))))
theorem req_eq (r : SRequest) : q98 r = some (reqB r) := by
  obtain ⟨s, k, t, p⟩ := r
  unfold q98 reqB q66
  simp only
  cases hb : ((((decide (s < 0)) || (decide (s > 15))) || (decide (p < 0))) || (decide (p > 15)))
  · rw [cond_false, Option.bind_some, Option.bind_some]
    cases ht : (decide (t ≥ -5000) && decide (t ≤ 10000))
    · rw [Bool.not_false, cond_true, Option.some.injEq]
      symm; rw [decide_eq_false_iff_not]
      simp at hb ht; omega
    · rw [Bool.not_true, cond_false]
      simp at hb ht
      by_cases q : k = 1
      · subst q
        simp; omega
      · have : (k == 1) = false := by simp; exact q
        rw [this, cond_false]
        by_cases z : s ≤ 1
        · rw [decide_eq_true z, cond_true, Option.bind_some, Option.bind_some, Option.some.injEq]
          apply q163
          simp; omega
        · rw [decide_eq_false z, cond_false, Option.bind_some, Option.bind_some, Option.some.injEq]
          symm; rw [decide_eq_false_iff_not]; omega
  · rw [cond_true, Option.bind_some, cond_true, Option.some.injEq]
    symm; rw [decide_eq_false_iff_not]
    simp at hb; omega
def askB (i : SInputs) (n : Int) : Bool := inR 1 8 n && decide ((i.Intensity.length : Int) = n) && decide (i.Requests.length ≤ 30) && inR 0 12000 i.Speed && inR 50 3000 i.Pressure && inR (-40) 150 i.AirTemp && inR (-40) 150 i.Coolant && inR 0 20000 i.Voltage && inR 0 20000 i.Lambda && i.Intensity.all (inR 0 4095) && i.Requests.all reqB
theorem ctl_in (x lo hi : Int) : q33 x lo hi = some (inR lo hi x) := rfl
theorem ask_eq (i : SInputs) (n : Int) : q160 i n = some (askB i n) := by
  unfold q160 askB
  simp only [ctl_in, Option.bind_some]
  cases hn : inR 1 8 n
  · rfl
  have hn' : 1 ≤ n ∧ n ≤ 8 := by unfold inR at hn; simp at hn; omega
  by_cases hl : (i.Intensity.length : Int) = n
  · by_cases hr : i.Requests.length ≤ 30
    · have k : q39 i.Requests q90 = some (i.Requests.any fun k => !reqB k) := index_any i.Requests (by omega) q90 _ (fun k _ => by unfold q90; rw [req_eq]; rfl)
      have h1 : ((i.Intensity.length : Int) != n) = false := by simp; exact hl
      rw [h1, decide_eq_false (by omega), decide_eq_true hl, decide_eq_true hr, k, q197 _ (by omega), List.any_eq_not_all_not]
      simp only [Bool.not_true, Bool.not_false, cond_false, cond_true, Option.bind_some, Bool.true_and, Bool.or_false, Bool.not_not]
      cases inR 0 12000 i.Speed
      · rfl
      cases inR 50 3000 i.Pressure
      · rfl
      cases inR (-40) 150 i.AirTemp
      · rfl
      cases inR (-40) 150 i.Coolant
      · rfl
      cases inR 0 20000 i.Voltage
      · rfl
      cases inR 0 20000 i.Lambda
      · rfl
      cases i.Intensity.all (inR 0 4095) <;> rfl
    · rw [decide_eq_true (by omega : (i.Requests.length : Int) > 30), decide_eq_false hr, Bool.or_true, Bool.and_false]; rfl
  · have h1 : ((i.Intensity.length : Int) != n) = true := by simp; exact hl
    rw [h1, decide_eq_false hl]; rfl
end Go.Pv
