/- This file joins: Ties, printed by gen.py: each function of the loaded program computes its model. What the arguments are known to be. Printed by law.py. What the arguments of the rows hold. Printed by law.py. Part Xg: loops by invariants, lists. Plain Lean. The events' functions, as they compute. Plain Lean. The events' functions, as they compute. Plain Lean. Plan and its reference, as they compute. Plain Lean. The reference's Plan; the examples. Plain Lean. Plain Lean: events that are valid, and distances of angles. Part Xk: slices.SortStableFunc, as it computes: that it sorts, and keeps the order of equals. Plain Lean. (The functions are those that gen2.py prints for an instance, with a type in the element's place.) Plain Lean: what timer's functions compute, and their references. Plain Lean: schedulers that are valid; the program's and the reference's Valid. Plain Lean: the reference's quotient rounded down, which divides bit by bit. -/
import Derived.Test.YtldhbjpnlehpgaaGreatSchedulerSafeH
import Derived.Test.YtldhbjpnlehpgaaGreatProg
import Derived.KernelRfl
set_option linter.unusedSimpArgs false
set_option linter.unusedVariables false
namespace Go.Proofs.YtldhbjpnlehpgaaGreat
open Go Go.Pv Go.Proofs
set_option maxRecDepth 100000 in
set_option maxHeartbeats 4000000 in
theorem q386 (s : SScheduler) (e2 : SEngine) (l : List SFire) (cylinder : Int) (kind : Int) : TieF Tryz.prog 6 [q22 s, q52 e2, .t (tS q14 l), .t (tI cylinder), .t (tI kind)] (q253 s e2 l cylinder kind) (fun r => .t (tB r)) := by
 refine TieF.intro htab 214 [.tmp 10] Tryz.call6 Tryz.func6 rfl rfl rfl (Nat.le_of_ble_eq_true rfl) fun w0 L => ?_
 refine TieS.seq (.region (.run 3 rfl (.nil (.seq ?_))))
 refine TieS.seq (.region (.call _ rfl rfl rfl (q222) (fun _ => rfl) fun v => .run 1 rfl (.nil ?_)))
 refine TieS.cond rfl ?_ ?_
 ·exact TieS.seq (.region (.run 1 rfl (.nil (.ret ⟨.inl rfl, rfl⟩))))
 ·refine TieS.skip (.seq (.seq (.region (.run 1 rfl ?_))))
  refine TieO.call _ rfl rfl rfl (q220 s) (fun _ => rfl) fun v2 => .run 1 rfl (.selOr (v := decide ((e2.Order.length : Int) > 20)) 5 25 (fun b => ⟨[(2, .t (tS q14 l)), (3, .t (tI cylinder)), (4, .t (tI kind)), (5, .ptr 5 0), (6, .ptr 6 0), (30, .t (tB b))], [(5, .box (q10 s)), (6, .box [.t (tS Pv.encI e2.Order), .t (tI e2.First)])]⟩) rfl ?_ ?_ ?_)
  ·exact TieO.run 5 rfl (.nil (.leaf ⟨rfl, .of rfl rfl⟩))
  ·exact TieO.run 5 rfl (.nil (.leaf ⟨rfl, .of rfl rfl⟩))
  refine TieO.run 1 rfl (.selOr (v := decide ((l.length : Int) > 20)) 4 31 (fun b => ⟨[(2, .t (tS q14 l)), (3, .t (tI cylinder)), (4, .t (tI kind)), (5, .ptr 5 0), (6, .ptr 6 0), (35, .t (tB b))], [(5, .box (q10 s)), (6, .box [.t (tS Pv.encI e2.Order), .t (tI e2.First)])]⟩) rfl ?_ ?_ ?_)
  ·exact TieO.run 4 rfl (.nil (.leaf ⟨rfl, .of rfl rfl⟩))
  ·exact TieO.run 4 rfl (.nil (.leaf ⟨rfl, .of rfl rfl⟩))
  refine TieO.nil (.cond rfl ?_ ?_)
  ·exact TieS.seq (.region (.run 1 rfl (.nil (.ret ⟨.inl rfl, rfl⟩))))
  ·refine TieS.skip (.seq (.region (.run 1 rfl (.call _ rfl rfl rfl (q280 e2) (fun _ => rfl) fun r2 => ?_))))
   refine TieO.run 6 rfl (.nil (.seq (.region (.run 3 rfl ?_))))
   refine TieO.call _ rfl rfl rfl (q313 e2 cylinder kind) (fun _ => rfl) fun r3 => .run 5 rfl (.nil (.seq (.seq ?_)))
   refine TieS.region (.run 1 rfl (.call _ rfl rfl rfl (q74 e2) (fun _ => rfl) fun v3 => .run 1 rfl (.nil ?_)))
   refine TieS.bind (Q₁ := fun t e σ' => match t with | .inl t => e = .normal ∧ Sub ⟨[(2, .t (tS q14 l)), (5, .ptr 5 0)], [(5, .box (q10 s))]⟩ σ' | .inr t => e = .ret ∧ retT tab σ' [.tmp 10] = some (((fun r => .t (tB r)) : Bool → T) t)) ?_ ?_
   ·refine TieS.cond rfl ?_ ?_
    ·refine TieS.seq (.region (.run 3 rfl (.bind 5 (fun b2 => ⟨[(2, .t (tS q14 l)), (5, .ptr 5 0), (13, .t (tI r3.1)), (14, .t (tI r3.2)), (58, .t (tB b2))], [(5, .box (q10 s))]⟩) (TieO.split 53 rfl ?_ ?_) fun b2 _ => ?_)))
     ·exact TieO.run 5 rfl (.nil (.leaf ⟨rfl, .of rfl rfl⟩))
     ·exact TieO.run 2 rfl (.call _ rfl rfl rfl (q32 (u7_2 (u7_1 (u7_0 r2.1 (⟨r2.1.Engine.Order, r2.1.Engine.First⟩ : SEngine)) (⟨r2.1.Clock.Valid, r2.1.Clock.At, r2.1.Clock.Angle, r2.1.Clock.Period, r2.1.Clock.Space, r2.1.Clock.Ahead⟩ : SClock)) (⟨r2.1.Timer.Now, r2.1.Timer.Channels⟩ : STimer)) (⟨(⟨([] : List Int), 0⟩ : SEngine), (⟨false, 0, 0, 0, 0, 0⟩ : SClock), (⟨0, ([] : List SChannel)⟩ : STimer), ([] : List SFire), ([] : List SJob), false⟩ : SScheduler)) (fun _ => rfl) fun v4 => .run 2 rfl (.nil (.leaf ⟨rfl, .of rfl rfl⟩)))
     refine TieO.run 1 rfl (.selOr (v := (r3.2 != 1)) 3 59 (fun b => ⟨[(2, .t (tS q14 l)), (5, .ptr 5 0), (13, .t (tI r3.1)), (62, .t (tB b))], [(5, .box (q10 s))]⟩) rfl ?_ ?_ ?_)
     ·exact TieO.run 3 rfl (.nil (.leaf ⟨rfl, .of rfl rfl⟩))
     ·exact TieO.run 3 rfl (.nil (.leaf ⟨rfl, .of rfl rfl⟩))
     refine TieO.run 1 rfl (.selOr (v := (r3.1 != 0)) 3 63 (fun b => ⟨[(2, .t (tS q14 l)), (5, .ptr 5 0), (66, .t (tB b))], [(5, .box (q10 s))]⟩) rfl ?_ ?_ ?_)
     ·exact TieO.run 3 rfl (.nil (.leaf ⟨rfl, .of rfl rfl⟩))
     ·exact TieO.run 3 rfl (.nil (.leaf ⟨rfl, .of rfl rfl⟩))
     refine TieO.nil (.cond rfl ?_ ?_)
     ·exact TieS.seq (.region (.run 1 rfl (.nil (.ret ⟨rfl, rfl⟩))))
     ·exact TieS.skip (.leaf ⟨rfl, .of rfl rfl⟩)
    ·refine TieS.seq (.seq (.bind (Q₁ := fun t e σ' => e = .normal ∧ Sub ⟨[(2, .t (tS q14 l)), (3, .t (tI cylinder)), (4, .t (tI kind)), (5, .ptr 5 0), (6, .ptr 6 0), (13, .t (tI r3.1)), (14, .t (tI r3.2)), (87, .t (tB t))], [(5, .box (q10 s)), (6, .box [.t (tS Pv.encI e2.Order), .t (tI e2.First)])]⟩ σ') ?_ ?_))
     ·refine TieX.split (fun hg => ?_) (fun hg2 => ?_)
      ·exact TieS.draw 21 [_, _, _, _, _, _, _, _, _, _, _, _, _, _, _, _, _, _, _, _, _] [(2, .t (tS q14 l)), (3, .t (tI cylinder)), (4, .t (tI kind)), (5, .ptr 5 0), (6, .ptr 6 0), (11, .ptr 11 0), (12, .t (tI r2.2)), (13, .t (tI r3.1)), (14, .t (tI r3.2))] [(5, .box (q10 s)), (6, .box [.t (tS Pv.encI e2.Order), .t (tI e2.First)]), (11, .box (q10 r2.1))] mixed (.of rfl rfl) rfl rfl rfl rfl (.cons (.quiet rfl rfl rfl) (.cons (.quiet rfl rfl rfl) (.cons (.cast (congrArg T.B hg) (.quiet rfl rfl rfl)) (.cons (.skip rfl) (.cons (.skip rfl) (.cons (.skip rfl) (.cons (.quiet rfl rfl rfl) (.cons (.quiet rfl rfl rfl) (.cons (.skip rfl) (.cons (.skip rfl) (.cons (.skip rfl) (.cons (.skip rfl) (.cons (.skip rfl) (.cons (.skip rfl) (.cons (.skip rfl) (.cons (.skip rfl) (.cons (.skip rfl) (.cons (.skip rfl) (.cons (.skip rfl) (.cons (.skip rfl) (.cons (.quiet rfl rfl rfl) (.nil)))))))))))))))))))))) (.nil (.leaf ⟨rfl, .of rfl rfl⟩))
      ·refine TieX.pre fun v5 hv5 => TieX.split (fun hg3 => ?_) (fun hg4 => ?_)
       ·exact TieS.draw 21 [_, _, _, _, _, _, _, _, _, _, _, _, _, _, _, _, _, _, _, _, _] [(2, .t (tS q14 l)), (3, .t (tI cylinder)), (4, .t (tI kind)), (5, .ptr 5 0), (6, .ptr 6 0), (11, .ptr 11 0), (12, .t (tI r2.2)), (13, .t (tI r3.1)), (14, .t (tI r3.2))] [(5, .box (q10 s)), (6, .box [.t (tS Pv.encI e2.Order), .t (tI e2.First)]), (11, .box (q10 r2.1))] mixed (.of rfl rfl) rfl rfl rfl rfl (.cons (.quiet rfl rfl rfl) (.cons (.quiet rfl rfl rfl) (.cons (.cast (congrArg T.B hg2) (.quiet rfl rfl rfl)) (.cons (.quiet rfl rfl rfl) (.cons (.callV (q39 (u7_2 (u7_1 (u7_0 r2.1 (⟨r2.1.Engine.Order, r2.1.Engine.First⟩ : SEngine)) (⟨r2.1.Clock.Valid, r2.1.Clock.At, r2.1.Clock.Angle, r2.1.Clock.Period, r2.1.Clock.Space, r2.1.Clock.Ahead⟩ : SClock)) (⟨r2.1.Timer.Now, r2.1.Timer.Channels⟩ : STimer))) hv5 rfl rfl rfl rfl) (.cons (.quiet rfl rfl rfl) (.cons (.quiet rfl rfl rfl) (.cons (.cast (congrArg T.B hg3) (.quiet rfl rfl rfl)) (.cons (.skip rfl) (.cons (.skip rfl) (.cons (.skip rfl) (.cons (.skip rfl) (.cons (.skip rfl) (.cons (.skip rfl) (.cons (.skip rfl) (.cons (.skip rfl) (.cons (.skip rfl) (.cons (.skip rfl) (.cons (.skip rfl) (.cons (.skip rfl) (.cons (.quiet rfl rfl rfl) (.nil)))))))))))))))))))))) (.nil (.leaf ⟨rfl, .of rfl rfl⟩))
       ·refine TieX.pre fun l2 hl2 => TieX.pre fun v6 hv6 => TieX.pre fun v7 hv7 => TieS.draw 21 [_, _, _, _, _, _, _, _, _, _, _, _, _, _, _, _, _, _, _, _, _] [(2, .t (tS q14 l)), (3, .t (tI cylinder)), (4, .t (tI kind)), (5, .ptr 5 0), (6, .ptr 6 0), (11, .ptr 11 0), (12, .t (tI r2.2)), (13, .t (tI r3.1)), (14, .t (tI r3.2))] [(5, .box (q10 s)), (6, .box [.t (tS Pv.encI e2.Order), .t (tI e2.First)]), (11, .box (q10 r2.1))] mixed (.of rfl rfl) rfl rfl rfl rfl (.cons (.quiet rfl rfl rfl) (.cons (.quiet rfl rfl rfl) (.cons (.cast (congrArg T.B hg2) (.quiet rfl rfl rfl)) (.cons (.quiet rfl rfl rfl) (.cons (.callV (q39 (u7_2 (u7_1 (u7_0 r2.1 (⟨r2.1.Engine.Order, r2.1.Engine.First⟩ : SEngine)) (⟨r2.1.Clock.Valid, r2.1.Clock.At, r2.1.Clock.Angle, r2.1.Clock.Period, r2.1.Clock.Space, r2.1.Clock.Ahead⟩ : SClock)) (⟨r2.1.Timer.Now, r2.1.Timer.Channels⟩ : STimer))) hv5 rfl rfl rfl rfl) (.cons (.quiet rfl rfl rfl) (.cons (.quiet rfl rfl rfl) (.cons (.cast (congrArg T.B hg4) (.quiet rfl rfl rfl)) (.cons (.quiet rfl rfl rfl) (.cons (.quiet rfl rfl rfl) (.cons (.quiet rfl rfl rfl) (.cons (.quiet rfl rfl rfl) (.cons (.quiet rfl rfl rfl) (.cons (.quiet rfl rfl rfl) (.cons (.makeV (enc := q11) (z := (⟨false, 0, false, false⟩ : SChannel)) hl2 rfl rfl rfl rfl rfl rfl rfl rfl) (.cons (.quiet rfl rfl rfl) (.cons (.quiet rfl rfl rfl) (.cons (.callV (TieG.toF (q164 (⟨e2, (⟨false, 0, 0, 0, 0, 0⟩ : SClock), (⟨0, l2⟩ : STimer), ([] : List SFire), ([] : List SJob), false⟩ : SScheduler)) (fun _ => rfl)) hv6 rfl rfl rfl rfl) (.cons (.callV (q32 (u7_2 (u7_1 (u7_0 r2.1 (⟨r2.1.Engine.Order, r2.1.Engine.First⟩ : SEngine)) (⟨r2.1.Clock.Valid, r2.1.Clock.At, r2.1.Clock.Angle, r2.1.Clock.Period, r2.1.Clock.Space, r2.1.Clock.Ahead⟩ : SClock)) (⟨r2.1.Timer.Now, r2.1.Timer.Channels⟩ : STimer)) v6) hv7 rfl rfl rfl rfl) (.cons (.quiet rfl rfl rfl) (.cons (.quiet rfl rfl rfl) (.nil)))))))))))))))))))))) (.nil ?_)
        exact TieS.leaf ⟨rfl, .of rfl rfl⟩
     rintro v8 e σ' _ ⟨rfl, hs⟩
     refine TieX.sub hs (TieS.cond rfl ?_ ?_)
     ·exact TieS.seq (.region (.run 1 rfl (.nil (.ret ⟨rfl, rfl⟩))))
     ·refine TieS.skip (.block (.seq (.region (.run 3 rfl ?_))))
      refine TieO.selOr (v := decide (cylinder > (e2.Order.length : Int))) 6 91 (fun b => ⟨[(2, .t (tS q14 l)), (3, .t (tI cylinder)), (4, .t (tI kind)), (5, .ptr 5 0), (13, .t (tI r3.1)), (14, .t (tI r3.2)), (97, .t (tB b))], [(5, .box (q10 s))]⟩) rfl ?_ ?_ ?_
      ·exact TieO.run 6 rfl (.nil (.leaf ⟨rfl, .of rfl rfl⟩))
      ·exact TieO.run 6 rfl (.nil (.leaf ⟨rfl, .of rfl rfl⟩))
      refine TieO.run 1 rfl (.nil (.cond rfl ?_ ?_))
      ·refine TieS.seq (.region (.run 3 rfl (.selOr (v := (r3.1 != 0)) 3 100 (fun b => ⟨[(2, .t (tS q14 l)), (5, .ptr 5 0), (103, .t (tB b))], [(5, .box (q10 s))]⟩) rfl ?_ ?_ ?_)))
       ·exact TieO.run 3 rfl (.nil (.leaf ⟨rfl, .of rfl rfl⟩))
       ·exact TieO.run 3 rfl (.nil (.leaf ⟨rfl, .of rfl rfl⟩))
       refine TieO.nil (.cond rfl ?_ ?_)
       ·exact TieS.seq (.region (.run 1 rfl (.nil (.ret ⟨rfl, rfl⟩))))
       ·exact TieS.skip (.endb (.leaf ⟨rfl, .of rfl rfl⟩))
      ·refine TieS.seq (.region (.run 3 rfl (.selOr (v := decide (kind > 4)) 3 107 (fun b => ⟨[(2, .t (tS q14 l)), (3, .t (tI cylinder)), (4, .t (tI kind)), (5, .ptr 5 0), (13, .t (tI r3.1)), (14, .t (tI r3.2)), (110, .t (tB b))], [(5, .box (q10 s))]⟩) rfl ?_ ?_ ?_)))
       ·exact TieO.run 3 rfl (.nil (.leaf ⟨rfl, .of rfl rfl⟩))
       ·exact TieO.run 3 rfl (.nil (.leaf ⟨rfl, .of rfl rfl⟩))
       refine TieO.run 1 rfl (.nil (.cond rfl ?_ ?_))
       ·refine TieS.seq (.region (.run 3 rfl (.selOr (v := (r3.1 != 0)) 3 113 (fun b => ⟨[(2, .t (tS q14 l)), (5, .ptr 5 0), (116, .t (tB b))], [(5, .box (q10 s))]⟩) rfl ?_ ?_ ?_)))
        ·exact TieO.run 3 rfl (.nil (.leaf ⟨rfl, .of rfl rfl⟩))
        ·exact TieO.run 3 rfl (.nil (.leaf ⟨rfl, .of rfl rfl⟩))
        refine TieO.nil (.cond rfl ?_ ?_)
        ·exact TieS.seq (.region (.run 1 rfl (.nil (.ret ⟨rfl, rfl⟩))))
        ·exact TieS.skip (.endb (.leaf ⟨rfl, .of rfl rfl⟩))
       ·refine TieS.seq (.region (.run 3 rfl (.bind 7 (fun b3 => ⟨[(2, .t (tS q14 l)), (5, .ptr 5 0), (127, .t (tB b3))], [(5, .box (q10 s))]⟩) (TieO.split 120 rfl ?_ ?_) fun b3 _ => ?_)))
        ·exact TieO.run 7 rfl (.nil (.leaf ⟨rfl, .of rfl rfl⟩))
        ·exact TieO.run 4 rfl (.call _ rfl rfl rfl (q202 (⟨0, kind, cylinder, 0⟩ : SEvent)) (fun _ => rfl) fun v9 => .run 2 rfl (.nil (.leaf ⟨rfl, .of rfl rfl⟩)))
        refine TieO.run 1 rfl (.nil (.cond rfl ?_ ?_))
        ·exact TieS.seq (.region (.run 1 rfl (.nil (.ret ⟨rfl, rfl⟩))))
        ·exact TieS.skip (.endb (.leaf ⟨rfl, .of rfl rfl⟩))
   rintro (s2 | r7) e σ' _ hq
   ·obtain ⟨rfl, hs⟩ := hq
    refine TieX.sub hs (TieS.seq (.region (.run 1 rfl (.call _ rfl rfl rfl (q221 s) (fun _ => rfl) fun v10 => ?_))))
    refine TieO.run 1 rfl (.nil (.seq (.region (.run 2 rfl ?_))))
    refine TieO.call _ rfl rfl rfl (q269 s l) (fun _ => rfl) fun r4 => .run 6 rfl (.nil (.seq (.region ?_)))
    refine TieO.run 1 rfl (.call _ rfl rfl rfl (q329 s) (fun _ => rfl) fun r5 => .run 6 rfl (.nil (.seq ?_)))
    refine TieS.seq (.region (.run 1 rfl (.call _ rfl rfl rfl (q39 s) (fun _ => rfl) fun v11 => .run 2 rfl ?_)))
    refine TieO.nil (.cond rfl ?_ ?_)
    ·exact TieS.seq (.region (.run 1 rfl (.nil (.ret ⟨.inl rfl, rfl⟩))))
    ·refine TieS.skip (.seq (.seq (.region (.run 2 rfl ?_))))
     refine TieO.nil (.cond rfl ?_ ?_)
     ·refine TieS.seq (.region (.run 3 rfl (.bind 4 (fun b4 => ⟨[(18, .ptr 18 0), (19, .t (tI r5.2)), (153, .t (tB b4))], [(18, .box (q10 r5.1))]⟩) (TieO.split 149 rfl ?_ ?_) fun b4 _ => ?_)))
      ·exact TieO.run 2 rfl (.call _ rfl rfl rfl (q32 (u7_2 (u7_1 (u7_0 r4.1 (⟨r4.1.Engine.Order, r4.1.Engine.First⟩ : SEngine)) (⟨r4.1.Clock.Valid, r4.1.Clock.At, r4.1.Clock.Angle, r4.1.Clock.Period, r4.1.Clock.Space, r4.1.Clock.Ahead⟩ : SClock)) (⟨r4.1.Timer.Now, r4.1.Timer.Channels⟩ : STimer)) (⟨(⟨([] : List Int), 0⟩ : SEngine), (⟨false, 0, 0, 0, 0, 0⟩ : SClock), (⟨0, ([] : List SChannel)⟩ : STimer), ([] : List SFire), ([] : List SJob), false⟩ : SScheduler)) (fun _ => rfl) fun v12 => .run 1 rfl (.nil (.leaf ⟨rfl, .of rfl rfl⟩)))
      ·exact TieO.run 4 rfl (.nil (.leaf ⟨rfl, .of rfl rfl⟩))
      refine TieO.run 1 rfl (.selAnd (v := (r5.2 == 1)) 3 154 (fun b => ⟨[(18, .ptr 18 0), (157, .t (tB b))], [(18, .box (q10 r5.1))]⟩) rfl ?_ ?_ ?_)
      ·exact TieO.run 3 rfl (.nil (.leaf ⟨rfl, .of rfl rfl⟩))
      ·exact TieO.run 3 rfl (.nil (.leaf ⟨rfl, .of rfl rfl⟩))
      refine TieO.run 1 rfl (.bind 4 (fun b5 => ⟨[(162, .t (tB b5))], []⟩) (TieO.split 158 rfl ?_ ?_) fun b5 _ => ?_)
      ·exact TieO.run 2 rfl (.call _ rfl rfl rfl (q32 (u7_2 (u7_1 (u7_0 r5.1 (⟨r5.1.Engine.Order, r5.1.Engine.First⟩ : SEngine)) (⟨r5.1.Clock.Valid, r5.1.Clock.At, r5.1.Clock.Angle, r5.1.Clock.Period, r5.1.Clock.Space, r5.1.Clock.Ahead⟩ : SClock)) (⟨r5.1.Timer.Now, r5.1.Timer.Channels⟩ : STimer)) (⟨(⟨([] : List Int), 0⟩ : SEngine), (⟨false, 0, 0, 0, 0, 0⟩ : SClock), (⟨0, ([] : List SChannel)⟩ : STimer), ([] : List SFire), ([] : List SJob), false⟩ : SScheduler)) (fun _ => rfl) fun v13 => .run 1 rfl (.nil (.leaf ⟨rfl, .of rfl rfl⟩)))
      ·exact TieO.run 4 rfl (.nil (.leaf ⟨rfl, .of rfl rfl⟩))
      exact TieO.run 1 rfl (.nil (.ret ⟨.inl rfl, rfl⟩))
     ·refine TieS.skip (.seq (.region (.run 1 rfl (.call _ rfl rfl rfl (TieG.toF (q164 s) (fun _ => rfl)) (fun _ => rfl) fun v14 => ?_))))
      refine TieO.run 2 rfl (.nil (.seq (.region (.run 3 rfl ?_))))
      refine TieO.nil (.seq (.seq (.region (.run 3 rfl ?_))))
      refine TieO.call _ rfl rfl rfl (q212 s.Engine l) (fun _ => rfl) fun v15 => .run 1 rfl (.nil (.bind (Q₁ := fun t e σ' => match t with | .inl t => e = .normal ∧ Sub ⟨[(5, .ptr 5 0), (18, .ptr 18 0), (19, .t (tI r5.2)), (20, .ptr 20 0)], [(5, .box (q10 s)), (18, .box (q10 r5.1)), (20, .box (q10 (u7_3 v14 l)))]⟩ σ' | .inr t => e = .ret ∧ retT tab σ' [.tmp 10] = some (((fun r => .t (tB r)) : Bool → T) t)) ?_ ?_))
      ·refine TieS.cond rfl ?_ ?_
       ·refine TieS.seq (.region (.run 3 rfl (.bind 5 (fun b6 => ⟨[(5, .ptr 5 0), (18, .ptr 18 0), (19, .t (tI r5.2)), (20, .ptr 20 0), (179, .t (tB b6))], [(5, .box (q10 s)), (18, .box (q10 r5.1)), (20, .box (q10 (u7_3 v14 l)))]⟩) (TieO.split 174 rfl ?_ ?_) fun b6 _ => ?_)))
        ·exact TieO.run 5 rfl (.nil (.leaf ⟨rfl, .of rfl rfl⟩))
        ·exact TieO.run 2 rfl (.call _ rfl rfl rfl (q32 (u7_2 (u7_1 (u7_0 r4.1 (⟨r4.1.Engine.Order, r4.1.Engine.First⟩ : SEngine)) (⟨r4.1.Clock.Valid, r4.1.Clock.At, r4.1.Clock.Angle, r4.1.Clock.Period, r4.1.Clock.Space, r4.1.Clock.Ahead⟩ : SClock)) (⟨r4.1.Timer.Now, r4.1.Timer.Channels⟩ : STimer)) (⟨(⟨([] : List Int), 0⟩ : SEngine), (⟨false, 0, 0, 0, 0, 0⟩ : SClock), (⟨0, ([] : List SChannel)⟩ : STimer), ([] : List SFire), ([] : List SJob), false⟩ : SScheduler)) (fun _ => rfl) fun v16 => .run 2 rfl (.nil (.leaf ⟨rfl, .of rfl rfl⟩)))
        refine TieO.nil (.cond rfl ?_ ?_)
        ·exact TieS.seq (.region (.run 1 rfl (.nil (.ret ⟨rfl, rfl⟩))))
        ·exact TieS.skip (.leaf ⟨rfl, .of rfl rfl⟩)
       ·refine TieS.seq (.region (.run 3 rfl (.bind 5 (fun b7 => ⟨[(5, .ptr 5 0), (18, .ptr 18 0), (19, .t (tI r5.2)), (20, .ptr 20 0), (187, .t (tB b7))], [(5, .box (q10 s)), (18, .box (q10 r5.1)), (20, .box (q10 (u7_3 v14 l)))]⟩) (TieO.split 182 rfl ?_ ?_) fun b7 _ => ?_)))
        ·exact TieO.run 5 rfl (.nil (.leaf ⟨rfl, .of rfl rfl⟩))
        ·exact TieO.run 2 rfl (.call _ rfl rfl rfl (q32 (u7_2 (u7_1 (u7_0 r4.1 (⟨r4.1.Engine.Order, r4.1.Engine.First⟩ : SEngine)) (⟨r4.1.Clock.Valid, r4.1.Clock.At, r4.1.Clock.Angle, r4.1.Clock.Period, r4.1.Clock.Space, r4.1.Clock.Ahead⟩ : SClock)) (⟨r4.1.Timer.Now, r4.1.Timer.Channels⟩ : STimer)) (u7_3 v14 l)) (fun _ => rfl) fun v17 => .run 2 rfl (.nil (.leaf ⟨rfl, .of rfl rfl⟩)))
        refine TieO.nil (.cond rfl ?_ ?_)
        ·exact TieS.seq (.region (.run 1 rfl (.nil (.ret ⟨rfl, rfl⟩))))
        ·exact TieS.skip (.leaf ⟨rfl, .of rfl rfl⟩)
      rintro (s3 | r6) e σ' _ hq
      ·obtain ⟨rfl, hs⟩ := hq
       refine TieX.sub hs (TieS.seq (.seq (.region (.run 4 rfl ?_))))
       refine TieO.bind 5 (fun b8 => ⟨[(5, .ptr 5 0), (18, .ptr 18 0), (19, .t (tI r5.2)), (20, .ptr 20 0), (196, .t (tB b8))], [(5, .box (q10 s)), (18, .box (q10 r5.1)), (20, .box (q10 (u7_3 v14 l)))]⟩) (TieO.split 191 rfl ?_ ?_) fun b8 _ => ?_
       ·exact TieO.run 5 rfl (.nil (.leaf ⟨rfl, .of rfl rfl⟩))
       ·exact TieO.run 3 rfl (.call _ rfl rfl rfl (q46 s.Timer.Channels 32 [] q83 q215) (fun _ => rfl) fun v18 => .run 1 rfl (.nil (.leaf ⟨rfl, .of rfl rfl⟩)))
       refine TieO.nil (.cond rfl ?_ ?_)
       ·refine TieS.seq (.region (.run 3 rfl (.bind 4 (fun b9 => ⟨[(203, .t (tB b9))], []⟩) (TieO.split 199 rfl ?_ ?_) fun b9 _ => ?_)))
        ·exact TieO.run 2 rfl (.call _ rfl rfl rfl (q32 (u7_2 (u7_1 (u7_0 r5.1 (⟨r5.1.Engine.Order, r5.1.Engine.First⟩ : SEngine)) (⟨r5.1.Clock.Valid, r5.1.Clock.At, r5.1.Clock.Angle, r5.1.Clock.Period, r5.1.Clock.Space, r5.1.Clock.Ahead⟩ : SClock)) (⟨r5.1.Timer.Now, r5.1.Timer.Channels⟩ : STimer)) (⟨(⟨([] : List Int), 0⟩ : SEngine), (⟨false, 0, 0, 0, 0, 0⟩ : SClock), (⟨0, ([] : List SChannel)⟩ : STimer), ([] : List SFire), ([] : List SJob), false⟩ : SScheduler)) (fun _ => rfl) fun v19 => .run 1 rfl (.nil (.leaf ⟨rfl, .of rfl rfl⟩)))
        ·exact TieO.run 4 rfl (.nil (.leaf ⟨rfl, .of rfl rfl⟩))
        exact TieO.run 1 rfl (.nil (.ret ⟨.inl rfl, rfl⟩))
       ·refine TieS.skip (.seq (.region (.run 1 rfl (.call _ rfl rfl rfl (TieG.toF (q164 s) (fun _ => rfl)) (fun _ => rfl) fun v20 => ?_))))
        refine TieO.run 1 rfl (.nil (.seq (.region (.run 2 rfl ?_))))
        refine TieO.nil (.seq (.region (.run 3 rfl (.bind 4 (fun b10 => ⟨[(213, .t (tB b10))], []⟩) (TieO.split 209 rfl ?_ ?_) fun b10 _ => ?_))))
        ·exact TieO.run 2 rfl (.call _ rfl rfl rfl (q32 (u7_2 (u7_1 (u7_0 r5.1 (⟨r5.1.Engine.Order, r5.1.Engine.First⟩ : SEngine)) (⟨r5.1.Clock.Valid, r5.1.Clock.At, r5.1.Clock.Angle, r5.1.Clock.Period, r5.1.Clock.Space, r5.1.Clock.Ahead⟩ : SClock)) (⟨r5.1.Timer.Now, r5.1.Timer.Channels⟩ : STimer)) (u7_5 v20 false)) (fun _ => rfl) fun v21 => .run 1 rfl (.nil (.leaf ⟨rfl, .of rfl rfl⟩)))
        ·exact TieO.run 4 rfl (.nil (.leaf ⟨rfl, .of rfl rfl⟩))
        exact TieO.run 1 rfl (.nil (.ret ⟨.inl rfl, rfl⟩))
      ·obtain ⟨rfl, hs⟩ := hq
       exact TieX.ret ⟨.inl rfl, hs⟩
   ·obtain ⟨rfl, hs⟩ := hq
    exact TieX.ret ⟨.inl rfl, hs⟩
set_option maxRecDepth 100000 in
set_option maxHeartbeats 4000000 in
theorem q404 (t2 : STimer) (channel : Int) (level : Bool) : TieF Tryz.prog 78 [q64 t2, .t (tI channel), .t (tB level)] (q262 t2 channel level) (fun r => .tup [q64 r.1, .t (tS q15 r.2.1), .t (tI r.2.2)]) := by
 refine TieF.intro htab 43 [.cell 6 29, .tmp 7, .tmp 8] Tryz.call78 Tryz.func78 rfl rfl rfl (Nat.le_of_ble_eq_true rfl) fun w0 L => ?_
 refine TieS.seq (.region (.run 4 rfl (.nil (.seq ?_))))
 refine TieS.region (.run 2 rfl (.callG [] [(900000, 2112)] (fun r2 => ⟨[(0, .agg [.t (tI t2.Now), .t (tS q11 t2.Channels)]), (1, .t (tI channel)), (2, .t (tB level)), (3, .ptr 3 0), (6, .ptr 6 0), (7, .t (.v (.slice none 0 0))), (8, .t (tI 0)), (12, .agg [.t (tI t2.Now), .t (tS q11 t2.Channels)]), (13, .t (tI channel)), (14, .tup [.agg [.t (tI r2.1.Now), .own 2112], .t (tI r2.2)])], [(3, .box [.t (tI t2.Now), .t (tS q11 t2.Channels)]), (6, .box [.t (tI 0), .t (.v (.slice none 0 0))]), (2112, .rs 74 4 r2.1.Channels q11)]⟩) (q191 t2 channel) rfl rfl rfl rfl rfl rfl rfl (fun _ => rfl) (fun _ => rfl) (fun _ => rfl) (fun _ => .of rfl rfl) fun r2 hr2 => .run 6 rfl (.nil ?_)))
 refine TieS.seq (.seq (.region (.run 2 rfl (.nil ?_))))
 refine TieS.cond rfl ?_ ?_
 ·exact TieS.seq (.region (.run 5 rfl (.nil (.ret ⟨.inl rfl, rfl⟩))))
 ·refine TieS.skip (.seq (.region (.run 5 rfl (.indexO rfl rfl rfl rfl rfl rfl rfl rfl rfl rfl fun x hx => ?_))))
  refine TieO.storeY (⟨false, 0, false, level⟩ : SChannel) [tB false, tI 0, tB false, tB level] hx rfl rfl rfl rfl rfl rfl rfl rfl rfl rfl rfl rfl fun l hl => .nil (.seq (.seq (.region ?_)))
  refine TieO.run 3 rfl (.index rfl rfl rfl rfl rfl rfl rfl rfl (fun _ => rfl) fun x2 hx2 => .run 4 rfl (.nil (.cond rfl ?_ ?_)))
  ·exact TieS.seq (.region (.run 4 rfl (.nil (.ret ⟨.inl rfl, rfl⟩))))
  ·refine TieS.skip (.seq (.bind (Q₁ := fun t e σ' => e = .normal ∧ Sub ⟨[(6, .ptr 6 0), (7, .own 42), (8, .t (tI 0))], [(6, .box [.t (tI t.2.Now), .own 2112]), (42, .rs 52 3 t.1 q15), (2112, .rs 74 4 t.2.Channels q11)]⟩ σ') ?_ ?_))
   ·refine TieS.draws 8 (bm 10 0) (bm 10 255) ⟨[(6, .ptr 6 0), (7, .t (.v (.slice none 0 0))), (8, .t (tI 0)), (42, .own 42)], [(3, .box [.t (tI t2.Now), .t (tS q11 t2.Channels)]), (6, .box [.t (tI r2.1.Now), .own 2112]), (9, .box [.t (tI r2.1.Now), .own 2112]), (42, .rs 52 3 ([(⟨t2.Now, channel, level⟩ : SSwitch)] : List SSwitch) q15), (2112, .rs 74 4 l q11)]⟩ mixed (fun _ _ _ h => by cases h.1) rfl rfl rfl rfl ?_ ?_
    ·refine TieA.have_ (fuel₁ := 3) (l₁ := (bm 10 127)) (σ₁ := ⟨[(6, .ptr 6 0), (7, .t (.v (.slice none 0 0))), (8, .t (tI 0)), (36, .agg [.t (tI r2.1.Now), .own 2112]), (42, .own 42)], [(3, .box [.t (tI t2.Now), .t (tS q11 t2.Channels)]), (6, .box [.t (tI 0), .t (.v (.slice none 0 0))]), (9, .box [.t (tI r2.1.Now), .own 2112]), (42, .rs 52 3 ([(⟨t2.Now, channel, level⟩ : SSwitch)] : List SSwitch) q15), (2112, .rs 74 4 l q11)]⟩) ?_ fun A_2 => ?_
     ·refine TieA.all [7] (by kernel_rfl) rfl (AllA.run _ rfl rfl rfl ?_ ?_)
      ·exact TieA.done (.of rfl rfl)
      exact AllA.nil
     refine TieA.have_ (fuel₁ := 3) (l₁ := (bm 10 191)) (σ₁ := ⟨[(6, .ptr 6 0), (7, .t (.v (.slice none 0 0))), (8, .t (tI 0)), (41, .agg [.t (tI t2.Now), .t (tI channel), .t (tB level)])], [(3, .box [.t (tI t2.Now), .t (tS q11 t2.Channels)]), (6, .box [.t (tI r2.1.Now), .own 2112]), (9, .box [.t (tI r2.1.Now), .own 2112]), (2112, .rs 74 4 l q11)]⟩) ?_ fun A_3 => ?_
     ·refine TieA.all [6] (by kernel_rfl) rfl (AllA.run _ rfl rfl rfl ?_ ?_)
      ·exact TieA.done (.of rfl rfl)
      exact AllA.nil
     refine TieA.have_ (fuel₁ := 4) (l₁ := (bm 10 63)) (σ₁ := ⟨[(6, .ptr 6 0), (7, .t (.v (.slice none 0 0))), (8, .t (tI 0)), (36, .agg [.t (tI r2.1.Now), .own 2112]), (41, .agg [.t (tI t2.Now), .t (tI channel), .t (tB level)])], [(3, .box [.t (tI t2.Now), .t (tS q11 t2.Channels)]), (6, .box [.t (tI 0), .t (.v (.slice none 0 0))]), (9, .box [.t (tI r2.1.Now), .own 2112]), (2112, .rs 74 4 l q11)]⟩) ?_ fun A_1 => ?_
     ·exact TieA.all [6, 7] (by kernel_rfl) rfl (AllA.runTo _ rfl rfl rfl (.of rfl rfl) A_2 (AllA.runTo _ rfl rfl rfl (.of rfl rfl) A_3 (AllA.nil)))
     refine TieA.have_ (fuel₁ := 4) (l₁ := (bm 10 159)) (σ₁ := ⟨[(6, .ptr 6 0), (7, .t (.v (.slice none 0 0))), (8, .t (tI 0)), (38, .t (tI t2.Now)), (39, .t (tI channel)), (40, .t (tB level))], [(3, .box [.t (tI t2.Now), .t (tS q11 t2.Channels)]), (6, .box [.t (tI r2.1.Now), .own 2112]), (9, .box [.t (tI r2.1.Now), .own 2112]), (2112, .rs 74 4 l q11)]⟩) ?_ fun A_4 => ?_
     ·exact TieA.all [5] (by kernel_rfl) rfl (AllA.runTo _ rfl rfl rfl (.of rfl rfl) A_3 (AllA.nil))
     refine TieA.have_ (fuel₁ := 5) (l₁ := (bm 10 31)) (σ₁ := ⟨[(6, .ptr 6 0), (7, .t (.v (.slice none 0 0))), (8, .t (tI 0)), (36, .agg [.t (tI r2.1.Now), .own 2112]), (38, .t (tI t2.Now)), (39, .t (tI channel)), (40, .t (tB level))], [(3, .box [.t (tI t2.Now), .t (tS q11 t2.Channels)]), (6, .box [.t (tI 0), .t (.v (.slice none 0 0))]), (9, .box [.t (tI r2.1.Now), .own 2112]), (2112, .rs 74 4 l q11)]⟩) ?_ fun A_0 => ?_
     ·exact TieA.all [5, 7] (by kernel_rfl) rfl (AllA.runTo _ rfl rfl rfl (.of rfl rfl) A_1 (AllA.runTo _ rfl rfl rfl (.of rfl rfl) A_4 (AllA.nil)))
     refine TieA.fP 1 rfl rfl rfl (by kernel_rfl) rfl rfl rfl (.mv 3 rfl (.inl rfl) rfl (by kernel_rfl) rfl (.mv 4 rfl (.inl rfl) rfl (by kernel_rfl) rfl (.all [0, 2] (by kernel_rfl) rfl (AllA.run _ rfl rfl rfl ?_ ?_))))
     ·refine TieA.all [2, 7] (by kernel_rfl) rfl (AllA.runTo _ rfl rfl rfl (.of rfl rfl) A_0 (AllA.run _ rfl rfl rfl ?_ ?_))
      ·exact TieA.all [2] (by kernel_rfl) rfl (AllA.runTo _ rfl rfl rfl (.of rfl rfl) A_4 (AllA.nil))
      exact AllA.nil
     refine AllA.run _ rfl rfl rfl ?_ ?_
     ·refine TieA.all [0, 5] (by kernel_rfl) rfl (AllA.runTo _ rfl rfl rfl (.of rfl rfl) A_0 (AllA.run _ rfl rfl rfl ?_ ?_))
      ·refine TieA.all [0, 6] (by kernel_rfl) rfl (AllA.runTo _ rfl rfl rfl (.of rfl rfl) A_1 (AllA.run _ rfl rfl rfl ?_ ?_))
       ·exact TieA.all [0] (by kernel_rfl) rfl (AllA.runTo _ rfl rfl rfl (.of rfl rfl) A_2 (AllA.nil))
       exact AllA.nil
      exact AllA.nil
     exact AllA.nil
    exact TieO.run 2 rfl (.nil (.leaf ⟨rfl, .of rfl rfl⟩))
   rintro s e σ' _ ⟨rfl, hs⟩
   exact TieX.sub hs (TieS.ret ⟨.inl rfl, rfl⟩)
set_option maxRecDepth 100000 in
theorem q391 (t2 : STimer) (channel : Int) : TieF Tryz.prog 79 [q64 t2, .t (tI channel)] (q243 t2 channel) (fun r => .tup [q64 r.1, .t (tI r.2)]) := by
 refine TieF.intro htab 30 [.cell 4 29, .tmp 5] Tryz.call79 Tryz.func79 rfl rfl rfl (Nat.le_of_ble_eq_true rfl) fun w0 L => ?_
 refine TieS.seq (.region (.run 3 rfl (.nil (.seq ?_))))
 refine TieS.region (.run 2 rfl (.callG [] [(900000, 2088)] (fun r2 => ⟨[(0, .agg [.t (tI t2.Now), .t (tS q11 t2.Channels)]), (1, .t (tI channel)), (2, .ptr 2 0), (4, .ptr 4 0), (5, .t (tI 0)), (9, .agg [.t (tI t2.Now), .t (tS q11 t2.Channels)]), (10, .t (tI channel)), (11, .tup [.agg [.t (tI r2.1.Now), .own 2088], .t (tI r2.2)])], [(2, .box [.t (tI t2.Now), .t (tS q11 t2.Channels)]), (4, .box [.t (tI 0), .t (.v (.slice none 0 0))]), (2088, .rs 74 4 r2.1.Channels q11)]⟩) (q191 t2 channel) rfl rfl rfl rfl rfl rfl rfl (fun _ => rfl) (fun _ => rfl) (fun _ => rfl) (fun _ => .of rfl rfl) fun r2 hr2 => .run 6 rfl (.nil ?_)))
 refine TieS.seq (.seq (.region (.run 2 rfl (.nil ?_))))
 refine TieS.cond rfl ?_ ?_
 ·exact TieS.seq (.region (.run 4 rfl (.nil (.ret ⟨.inl rfl, rfl⟩))))
 ·refine TieS.skip (.seq (TieX.pre fun x hx => TieX.pre fun x2 hx2 => TieS.draw 11 [_, _, _, _, _, _, _, _, _, _, _] [(1, .t (tI channel)), (2, .ptr 2 0), (4, .ptr 4 0), (6, .ptr 6 0)] [(2, .box [.t (tI t2.Now), .t (tS q11 t2.Channels)]), (4, .box [.t (tI 0), .t (.v (.slice none 0 0))]), (6, .box [.t (tI r2.1.Now), .own 2088]), (2088, .rs 74 4 r2.1.Channels q11)] mixed (.of rfl rfl) rfl rfl rfl rfl (.cons (.quiet rfl rfl rfl) (.cons (.quiet rfl rfl rfl) (.cons (.quiet rfl rfl rfl) (.cons (.quiet rfl rfl rfl) (.cons (.quiet rfl rfl rfl) (.cons (.quiet rfl rfl rfl) (.cons (.index hx rfl rfl rfl rfl rfl rfl (fun _ => rfl)) (.cons (.quiet rfl rfl rfl) (.cons (.quiet rfl rfl rfl) (.cons (.quiet rfl rfl rfl) (.cons (.indexO (sz := 4) hx2 rfl rfl rfl rfl rfl rfl rfl rfl) (.nil)))))))))))) ?_))
  refine TieO.storeY (u2_2 (u2_1 (u2_0 x false) 0) false) [tB false, tI 0, tB false, tB x.Level] hx2 rfl rfl rfl rfl rfl rfl rfl rfl rfl rfl rfl rfl fun l hl => .nil (.seq (.region (.run 3 rfl ?_)))
  exact TieO.nil (.ret ⟨.inl rfl, rfl⟩)
set_option maxRecDepth 100000 in
theorem q343 (j : SJob) (c : Int) : TieF Tryz.prog 81 [A_SJob j, .el (Pv.encI c)] (q189 j c) (fun r => .t (tB r)) := by
 refine TieF.intro htab 9 [.tmp 3] Tryz.call81 Tryz.func81 rfl rfl rfl (Nat.le_of_ble_eq_true rfl) fun w0 L => ?_
 refine TieS.seq (.region (.run 2 rfl (.nil (.seq ?_))))
 exact TieX.pre fun v hv => TieS.draw 6 [_, _, _, _, _, _] [(1, .el (Pv.encI c)), (2, .ptr 2 0)] [(2, .box [.t (tI j.Event.Angle), .t (tI j.Event.Kind), .t (tI j.Event.Cylinder), .t (tI j.Event.Pulse), .t (tI j.Left), .t (tB j.Armed), .t (tI j.At)])] mixed (.of rfl rfl) rfl rfl rfl rfl (.cons (.quiet rfl rfl rfl) (.cons (.quiet rfl rfl rfl) (.cons (.callV (q44 j.Event) hv rfl rfl rfl rfl) (.cons (.quiet rfl rfl rfl) (.cons (.quiet rfl rfl rfl) (.cons (.quiet rfl rfl rfl) (.nil))))))) (.nil (.ret ⟨.inl rfl, rfl⟩))
abbrev x33_0 : List T := [.t (.v (.slice none 0 0)), .t (tI 0), .t (tB false), .t (tI 0), .t (tI 0), .t (tI 0), .t (tI 0), .t (tI 0), .t (tI 0), .t (.v (.slice none 0 0)), .t (.v (.slice none 0 0)), .t (.v (.slice none 0 0)), .t (tB false)]
abbrev x33_1 (x : SChannel) : List T := [.t (tB x.Armed), .t (tI x.At), .t (tB x.Next), .t (tB x.Level)]
set_option maxRecDepth 100000 in
set_option maxHeartbeats 4000000 in
theorem q369 (s : SScheduler) : TieG Tryz.prog 33 [q22 s] [] (q225 s) (fun r => .tup [q22 r.1, .own 900000, .t (tI r.2.2)]) (fun r => [(900000, .rs 52 3 r.2.1 q15)]) := by
 refine TieG.intro htab 123 [.cell 2 33, .tmp 3, .tmp 4] Tryz.call33 Tryz.func33 rfl rfl rfl (Nat.le_of_ble_eq_true rfl) fun w0 L => ?_
 refine TieS.seq (.region (.run 4 rfl (.nil (.seq ?_))))
 refine TieS.seq (.region (.run 1 rfl (.call _ rfl rfl rfl (q39 s) (fun _ => rfl) fun v => .run 1 rfl ?_)))
 refine TieO.nil (.cond rfl ?_ ?_)
 ·refine TieS.seq (.region (.run 4 rfl (.nil (TieX.nilP 3 70000 52 3 [] rfl rfl rfl rfl rfl ?_))))
  exact TieS.ret ⟨.inl rfl, ⟨[(70000, 900000)], _, _, rfl, rfl, rfl, rfl, rfl⟩⟩
 ·refine TieS.skip (.seq (.region (.run 1 rfl (.call _ rfl rfl rfl (TieG.toF (q86 s) (fun _ => rfl)) (fun _ => rfl) fun v2 => ?_))))
  refine TieO.run 2 rfl (.nil (.seq (.seq (.region ?_))))
  refine TieO.run 2 rfl (.nil (.cond rfl ?_ ?_))
  ·refine TieS.seq (.region (.run 4 rfl (.nil (TieX.nilP 3 70000 52 3 [] rfl rfl rfl rfl rfl ?_))))
   exact TieS.ret ⟨.inl rfl, ⟨[(70000, 900000)], _, _, rfl, rfl, rfl, rfl, rfl⟩⟩
  ·refine TieS.skip (.seq (.region (.run 4 rfl (.nil ?_))))
   refine TieS.seq (.region (.run 4 rfl (.nil (.seq ?_))))
   refine TieS.region (.run 1 rfl (.nil (.seq (.seq ?_))))
   refine TieS.region (.run 5 rfl (.nil (.block (TieX.nilP 7 2528 52 3 [] rfl rfl rfl rfl rfl ?_))))
   refine TieX.nilB 5 2944 85 7 [11] rfl rfl rfl rfl rfl (TieS.loop (fun p => ⟨[(1, .ptr 1 0), (2, .ptr 2 0), (5, .ptr 5 0), (6, .t (tI s.Timer.Now)), (7, .own 2528), (34, .t (tS q11 s.Timer.Channels)), (35, .t (tI (s.Timer.Channels.length : Int))), (36, .t (tI p.1))], [(1, .box (q10 s)), (2, .box x33_0), (5, .box (lset (q10 (u7_5 (u7_2 v2 p.2.2.1) true)) [(11, .own 2944)])), (2528, .rs 52 3 p.2.1 q15), (2944, .rs 85 7 p.2.2.2 q13)]⟩) (fun b e σ' => match b with | .inl t => e = .exit 0 ∧ Sub ⟨[(2, .ptr 2 0), (5, .ptr 5 0), (7, .own 2528)], [(2, .box x33_0), (5, .box (lset (q10 (u7_5 (u7_2 v2 t.2.1) true)) [(11, .own 2944)])), (2528, .rs 52 3 t.1 q15), (2944, .rs 85 7 t.2.2 q13)]⟩ σ' | .inr t => False) (.of rfl rfl) ?_ ?_)
   ·rintro ⟨i, s2⟩
    refine TieS.seq (.region (.run 1 rfl (.nil (.seq ?_))))
    refine TieS.cond rfl ?_ ?_
    ·refine TieS.skip (.seq (TieX.sub (σ' := ⟨[(1, .ptr 1 0), (2, .ptr 2 0), (5, .ptr 5 0), (6, .t (tI s.Timer.Now)), (7, .own 2528), (34, .t (tS q11 s.Timer.Channels)), (35, .t (tI (s.Timer.Channels.length : Int))), (36, .t (tI i))], [(1, .box (q10 s)), (2, .box x33_0), (5, .box (lset (q10 (u7_5 (u7_2 v2 s2.2.1) true)) [(11, .own 2944)])), (2528, .rs 52 3 s2.1 q15), (2944, .rs 85 7 s2.2.2 q13)]⟩) (.of rfl rfl) (TieS.bind (Q₁ := fun f e σ' => match f with | .next t => e = .normal ∧ Sub ⟨[(1, .ptr 1 0), (2, .ptr 2 0), (5, .ptr 5 0), (6, .t (tI s.Timer.Now)), (7, .own 2528), (34, .t (tS q11 s.Timer.Channels)), (35, .t (tI (s.Timer.Channels.length : Int))), (36, .t (tI i))], [(1, .box (q10 s)), (2, .box x33_0), (5, .box (lset (q10 (u7_5 (u7_2 v2 t.2.1) true)) [(11, .own 2944)])), (2528, .rs 52 3 t.1 q15), (2944, .rs 85 7 t.2.2 q13)]⟩ σ' | .brk t => e = .exit 0 ∧ Sub ⟨[(2, .ptr 2 0), (5, .ptr 5 0), (7, .own 2528)], [(2, .box x33_0), (5, .box (lset (q10 (u7_5 (u7_2 v2 t.2.1) true)) [(11, .own 2944)])), (2528, .rs 52 3 t.1 q15), (2944, .rs 85 7 t.2.2 q13)]⟩ σ' | .ret r => False) ?_ ?_)))
     ·refine TieS.block (.seq (.region (.run 1 rfl (.index rfl rfl rfl rfl rfl rfl rfl rfl (fun _ => rfl) fun x hx => ?_))))
      refine TieO.run 5 rfl (.nil (.seq (.region (.run 4 rfl ?_))))
      refine TieO.nil (.seq (.seq (.region (.run 3 rfl ?_))))
      refine TieO.bind 7 (fun b2 => ⟨[(1, .ptr 1 0), (2, .ptr 2 0), (5, .ptr 5 0), (6, .t (tI s.Timer.Now)), (7, .own 2528), (8, .ptr 8 0), (9, .ptr 9 0), (34, .t (tS q11 s.Timer.Channels)), (35, .t (tI (s.Timer.Channels.length : Int))), (36, .t (tI i)), (53, .t (tB b2))], [(1, .box (q10 s)), (2, .box x33_0), (5, .box (lset (q10 (u7_5 (u7_2 v2 s2.2.1) true)) [(11, .own 2944)])), (8, .box [.t (tI i)]), (9, .box (x33_1 x)), (2528, .rs 52 3 s2.1 q15), (2944, .rs 85 7 s2.2.2 q13)]⟩) (TieO.split 46 rfl ?_ ?_) fun b2 _ => ?_
      ·refine TieO.run 3 rfl (.selOr (v := (s.Timer.Now == 1099511627776)) 3 49 (fun b => ⟨[(1, .ptr 1 0), (2, .ptr 2 0), (5, .ptr 5 0), (6, .t (tI s.Timer.Now)), (7, .own 2528), (8, .ptr 8 0), (9, .ptr 9 0), (34, .t (tS q11 s.Timer.Channels)), (35, .t (tI (s.Timer.Channels.length : Int))), (36, .t (tI i)), (46, .t (tB true)), (52, .t (tB b))], [(1, .box (q10 s)), (2, .box x33_0), (5, .box (lset (q10 (u7_5 (u7_2 v2 s2.2.1) true)) [(11, .own 2944)])), (8, .box [.t (tI i)]), (9, .box (x33_1 x)), (2528, .rs 52 3 s2.1 q15), (2944, .rs 85 7 s2.2.2 q13)]⟩) rfl ?_ ?_ ?_)
       ·exact TieO.run 3 rfl (.nil (.leaf ⟨rfl, .of rfl rfl⟩))
       ·exact TieO.run 3 rfl (.nil (.leaf ⟨rfl, .of rfl rfl⟩))
       exact TieO.run 1 rfl (.nil (.leaf ⟨rfl, .of rfl rfl⟩))
      ·exact TieO.run 7 rfl (.nil (.leaf ⟨rfl, .of rfl rfl⟩))
      refine TieO.nil (.cond rfl ?_ ?_)
      ·refine TieS.seq (.region (.run 3 rfl (.call _ rfl rfl rfl (q404 s2.2.1 i false) (fun _ => rfl) fun r2 => .run 8 rfl ?_)))
       refine TieO.nil (.seq (.region (.run 3 rfl (.nil ?_))))
       refine TieS.seq (.region (.run 2 rfl (.appendY (id := 2528) (e' := 0) (l := s2.1) (r := r2.2.1) (tm' := [(1, .ptr 1 0), (2, .ptr 2 0), (5, .ptr 5 0), (6, .t (tI s.Timer.Now)), (8, .ptr 8 0), (9, .ptr 9 0), (11, .ptr 11 0), (12, .t (tS q15 r2.2.1)), (13, .t (tI r2.2.2)), (34, .t (tS q11 s.Timer.Channels)), (35, .t (tI (s.Timer.Channels.length : Int))), (36, .t (tI i)), (53, .t (tB b2)), (54, .tup [.agg [.t (tI r2.1.Now), .t (tS q11 r2.1.Channels)], .t (tS q15 r2.2.1), .t (tI r2.2.2)]), (55, .ptr 5 8), (56, .agg [.t (tI s2.2.1.Now), .t (tS q11 s2.2.1.Channels)]), (57, .t (tI i)), (58, .tup [.agg [.t (tI r2.1.Now), .t (tS q11 r2.1.Channels)], .t (tS q15 r2.2.1), .t (tI r2.2.2)]), (59, .agg [.t (tI r2.1.Now), .t (tS q11 r2.1.Channels)]), (60, .t (tS q15 r2.2.1)), (61, .t (tI r2.2.2)), (62, .agg [.t (tI r2.1.Now), .t (tS q11 r2.1.Channels)]), (63, .ptr 5 8), (65, .t (tS q15 r2.2.1))]) (hp' := [(1, .box (q10 s)), (2, .box x33_0), (5, .box (lset (q10 (u7_5 (u7_2 v2 r2.1) true)) [(11, .own 2944)])), (8, .box [.t (tI i)]), (9, .box (x33_1 x)), (11, .box [.t (tI r2.1.Now), .t (tS q11 r2.1.Channels)]), (2944, .rs 85 7 s2.2.2 q13)]) rfl rfl rfl rfl rfl rfl rfl (fun _ => rfl) (fun _ => rfl) (.inl ⟨rfl, rfl⟩) (.inl rfl) (.of rfl rfl) rfl rfl rfl fun l => .run 1 rfl ?_)))
       exact TieO.nil (.exit rfl (.leaf ⟨rfl, .of rfl rfl⟩))
      ·refine TieS.skip (.seq (.region (.run 3 rfl (.call _ rfl rfl rfl (q391 s2.2.1 i) (fun _ => rfl) fun r3 => ?_))))
       refine TieO.run 6 rfl (.nil (.seq (.region (.run 3 rfl ?_))))
       refine TieO.nil (.seq (.seq (.region (.run 3 rfl ?_))))
       refine TieO.nil (.cond rfl ?_ ?_)
       ·exact TieS.exit rfl (.leaf ⟨rfl, .of rfl rfl⟩)
       ·refine TieS.skip (.seq (.region (.run 2 rfl (.frzBox 8 rfl rfl ?_))))
        refine TieO.run 1 rfl (.sub (σ' := ⟨[(1, .ptr 1 0), (2, .ptr 2 0), (5, .ptr 5 0), (6, .t (tI s.Timer.Now)), (7, .own 2528), (8, .el (Pv.encI i)), (9, .ptr 9 0), (14, .ptr 14 0), (15, .t (tI r3.2)), (34, .t (tS q11 s.Timer.Channels)), (35, .t (tI (s.Timer.Channels.length : Int))), (36, .t (tI i)), (53, .t (tB b2)), (67, .tup [.agg [.t (tI r3.1.Now), .t (tS q11 r3.1.Channels)], .t (tI r3.2)]), (68, .ptr 5 8), (69, .agg [.t (tI s2.2.1.Now), .t (tS q11 s2.2.1.Channels)]), (70, .t (tI i)), (71, .tup [.agg [.t (tI r3.1.Now), .t (tS q11 r3.1.Channels)], .t (tI r3.2)]), (72, .agg [.t (tI r3.1.Now), .t (tS q11 r3.1.Channels)]), (73, .t (tI r3.2)), (74, .agg [.t (tI r3.1.Now), .t (tS q11 r3.1.Channels)]), (75, .ptr 5 8), (76, .ptr 9 3), (77, .t (tB x.Level)), (78, .t (tB (!x.Level))), (79, .ptr 1 11), (80, .t (tS q13 s.Jobs)), (81, .fz 81 [Pv.encI i])], [(1, .box (q10 s)), (2, .box x33_0), (5, .box (lset (q10 (u7_5 (u7_2 v2 r3.1) true)) [(11, .own 2944)])), (9, .box (x33_1 x)), (14, .box [.t (tI r3.1.Now), .t (tS q11 r3.1.Channels)]), (2528, .rs 52 3 s2.1 q15), (2944, .rs 85 7 s2.2.2 q13)]⟩) (.of rfl rfl) (.call _ rfl rfl rfl (q80 s.Jobs 81 [Pv.encI i] (fun x0 => q189 x0 i) (fun x0 => q343 x0 i)) (fun _ => rfl) fun v3 => .run 1 rfl (.nil ?_)))
        refine TieS.seq (.region (.run 3 rfl (.index rfl rfl rfl rfl rfl rfl rfl rfl (fun _ => rfl) fun x2 hx2 => .run 3 rfl ?_)))
        refine TieO.nil (.seq (.seq (.region (.run 4 rfl ?_))))
        refine TieO.selOr (v := decide (x2.At > (w64 (s.Timer.Now + 5000)))) 6 91 (fun b => ⟨[(1, .ptr 1 0), (2, .ptr 2 0), (5, .ptr 5 0), (6, .t (tI s.Timer.Now)), (7, .own 2528), (8, .el (Pv.encI i)), (14, .ptr 14 0), (17, .ptr 17 0), (34, .t (tS q11 s.Timer.Channels)), (35, .t (tI (s.Timer.Channels.length : Int))), (36, .t (tI i)), (97, .t (tB b))], [(1, .box (q10 s)), (2, .box x33_0), (5, .box (lset (q10 (u7_5 (u7_2 v2 r3.1) true)) [(11, .own 2944)])), (14, .box [.t (tI r3.1.Now), .t (tS q11 r3.1.Channels)]), (17, .box [.t (tI x2.Event.Angle), .t (tI x2.Event.Kind), .t (tI x2.Event.Cylinder), .t (tI x2.Event.Pulse), .t (tI x2.Left), .t (tB x2.Armed), .t (tI x2.At)]), (2528, .rs 52 3 s2.1 q15), (2944, .rs 85 7 s2.2.2 q13)]⟩) rfl ?_ ?_ ?_
        ·exact TieO.run 6 rfl (.nil (.leaf ⟨rfl, .of rfl rfl⟩))
        ·exact TieO.run 6 rfl (.nil (.leaf ⟨rfl, .of rfl rfl⟩))
        refine TieO.nil (.bind (Q₁ := fun t e σ' => e = .normal ∧ Sub ⟨[(1, .ptr 1 0), (2, .ptr 2 0), (5, .ptr 5 0), (6, .t (tI s.Timer.Now)), (7, .own 2528), (8, .el (Pv.encI i)), (14, .ptr 14 0), (17, .ptr 17 0), (34, .t (tS q11 s.Timer.Channels)), (35, .t (tI (s.Timer.Channels.length : Int))), (36, .t (tI i))], [(1, .box (q10 s)), (2, .box x33_0), (5, .box (lset (q10 (u7_5 (u7_2 v2 r3.1) true)) [(11, .own 2944)])), (14, .box [.t (tI r3.1.Now), .t (tS q11 r3.1.Channels)]), (17, .box [.t (tI x2.Event.Angle), .t (tI x2.Event.Kind), .t (tI x2.Event.Cylinder), .t (tI x2.Event.Pulse), .t (tI x2.Left), .t (tB x2.Armed), .t (tI t)]), (2528, .rs 52 3 s2.1 q15), (2944, .rs 85 7 s2.2.2 q13)]⟩ σ') ?_ ?_)
        ·refine TieS.cond rfl ?_ ?_
         ·exact TieS.region (.run 5 rfl (.nil (.leaf ⟨rfl, .of rfl rfl⟩)))
         ·exact TieS.skip (.leaf ⟨rfl, .of rfl rfl⟩)
        rintro f2 e σ' _ ⟨rfl, hs⟩
        refine TieX.sub hs (TieS.seq (.region (.run 2 rfl (.nil ?_))))
        refine TieS.seq (.region (.run 5 rfl (.call _ rfl rfl rfl (q272 r3.1 i f2 false) (fun _ => rfl) fun r4 => .run 4 rfl ?_)))
        refine TieO.nil (.seq (.region (.run 3 rfl (.nil ?_))))
        refine TieS.region (.run 4 rfl (.appendY (id := 2944) (l := s2.2.2) (r := ([(u6_3 (u6_2 x2 true) f2)] : List SJob)) (tm' := [(1, .ptr 1 0), (2, .ptr 2 0), (5, .ptr 5 0), (6, .t (tI s.Timer.Now)), (7, .own 2528), (8, .el (Pv.encI i)), (14, .ptr 14 0), (17, .ptr 17 0), (34, .t (tS q11 s.Timer.Channels)), (35, .t (tI (s.Timer.Channels.length : Int))), (36, .t (tI i)), (102, .ptr 17 5), (103, .tup [.agg [.t (tI r4.1.Now), .t (tS q11 r4.1.Channels)], .t (tI r4.2)]), (104, .ptr 5 8), (105, .agg [.t (tI r3.1.Now), .t (tS q11 r3.1.Channels)]), (106, .t (tI i)), (107, .ptr 17 6), (108, .t (tI f2)), (109, .tup [.agg [.t (tI r4.1.Now), .t (tS q11 r4.1.Channels)], .t (tI r4.2)]), (110, .agg [.t (tI r4.1.Now), .t (tS q11 r4.1.Channels)]), (111, .t (tI r4.2)), (112, .agg [.t (tI r4.1.Now), .t (tS q11 r4.1.Channels)]), (113, .ptr 5 8), (114, .ptr 5 11), (116, .agg [.t (tI x2.Event.Angle), .t (tI x2.Event.Kind), .t (tI x2.Event.Cylinder), .t (tI x2.Event.Pulse), .t (tI x2.Left), .t (tB true), .t (tI f2)]), (117, .own 117)]) (hp' := [(1, .box (q10 s)), (2, .box x33_0), (5, .box (lset (q10 (u7_5 (u7_2 v2 r4.1) true)) [(11, .any)])), (14, .box [.t (tI r4.1.Now), .t (tS q11 r4.1.Channels)]), (17, .box [.t (tI x2.Event.Angle), .t (tI x2.Event.Kind), .t (tI x2.Event.Cylinder), .t (tI x2.Event.Pulse), .t (tI x2.Left), .t (tB true), .t (tI f2)]), (117, .rs 85 7 ([(u6_3 (u6_2 x2 true) f2)] : List SJob) q13), (2528, .rs 52 3 s2.1 q15)]) rfl rfl rfl rfl rfl rfl rfl (fun _ => rfl) (fun _ => rfl) (.inl ⟨rfl, rfl⟩) (.inr ⟨_, rfl, rfl⟩) (.of rfl rfl) rfl rfl rfl fun l2 => .run 2 rfl (.nil ?_)))
        exact TieS.endb (.leaf ⟨rfl, .of rfl rfl⟩)
     rintro (t | t | r) e σ' _ hq
     ·obtain ⟨rfl, hs⟩ := hq
      exact TieX.sub hs (TieS.region (.run 2 rfl (.nil (.leaf ⟨rfl, .of rfl rfl⟩))))
     ·obtain ⟨rfl, hs⟩ := hq
      exact TieX.exitOut rfl ⟨(fun h => by cases h), rfl, hs⟩
     ·exact hq.elim
    ·exact TieS.exitOut rfl ⟨(fun h => by cases h), rfl, .of rfl rfl⟩
   rintro (s3 | r) e σ' _ hq
   ·obtain ⟨rfl, hs⟩ := hq
    refine TieX.exit rfl (TieX.sub hs ?_)
    refine TieS.seq (.region (.run 5 rfl (.nil (TieX.frz 2944 rfl ?_))))
    exact TieS.ret ⟨.inl rfl, ⟨[(2528, 900000)], _, _, rfl, rfl, rfl, rfl, rfl⟩⟩
   ·exact hq.elim
abbrev x35_0 : List T := [.t (.v (.slice none 0 0)), .t (tI 0), .t (tB false), .t (tI 0), .t (tI 0), .t (tI 0), .t (tI 0), .t (tI 0), .t (tI 0), .t (.v (.slice none 0 0)), .t (.v (.slice none 0 0)), .t (.v (.slice none 0 0)), .t (tB false)]
set_option maxRecDepth 100000 in
set_option maxHeartbeats 4000000 in
theorem q315 (s : SScheduler) (v_to : Int) : TieF Tryz.prog 35 [q22 s, .t (tI v_to)] (q124 s v_to) (fun r => .tup [q22 r.1, .t (tS q15 r.2.1), .t (tI r.2.2)]) := by
 refine TieF.intro htab 31 [.cell 4 33, .tmp 5, .tmp 6] Tryz.call35 Tryz.func35 rfl rfl rfl (Nat.le_of_ble_eq_true rfl) fun w0 L => ?_
 refine TieS.seq (.region (.run 4 rfl (.nil (.seq ?_))))
 refine TieS.block (.seq (.region (.run 1 rfl (.call _ rfl rfl rfl (q39 s) (fun _ => rfl) fun v => ?_))))
 refine TieO.run 2 rfl (.nil (.cond rfl ?_ ?_))
 ·exact TieS.seq (.region (.run 4 rfl (.nil (.ret ⟨.inl rfl, rfl⟩))))
 ·refine TieS.seq (.region (.run 6 rfl (.nil (.cond rfl ?_ ?_))))
  ·exact TieS.seq (.region (.run 4 rfl (.nil (.ret ⟨.inl rfl, rfl⟩))))
  ·refine TieS.seq (.region (.run 3 rfl (.nil (.cond rfl ?_ ?_))))
   ·exact TieS.seq (.region (.run 4 rfl (.nil (.ret ⟨.inl rfl, rfl⟩))))
   ·refine TieS.skip (.endb (.seq (.region (.run 1 rfl ?_))))
    refine TieO.callG [] [(900000, 2208)] (fun v2 => ⟨[(0, .agg [.t (tS Pv.encI s.Engine.Order), .t (tI s.Engine.First), .t (tB s.Clock.Valid), .t (tI s.Clock.At), .t (tI s.Clock.Angle), .t (tI s.Clock.Period), .t (tI s.Clock.Space), .t (tI s.Clock.Ahead), .t (tI s.Timer.Now), .t (tS q11 s.Timer.Channels), .t (tS q14 s.Next), .t (tS q13 s.Jobs), .t (tB s.Cut)]), (1, .t (tI v_to)), (2, .ptr 2 0), (4, .ptr 4 0), (5, .t (.v (.slice none 0 0))), (6, .t (tI 0)), (9, .t (tB (!v))), (10, .agg [.t (tS Pv.encI s.Engine.Order), .t (tI s.Engine.First), .t (tB s.Clock.Valid), .t (tI s.Clock.At), .t (tI s.Clock.Angle), .t (tI s.Clock.Period), .t (tI s.Clock.Space), .t (tI s.Clock.Ahead), .t (tI s.Timer.Now), .t (tS q11 s.Timer.Channels), .t (tS q14 s.Next), .t (tS q13 s.Jobs), .t (tB s.Cut)]), (11, .t (tB v)), (12, .t (tB (!v))), (14, .t (tB (decide (v_to < s.Timer.Now)))), (15, .t (tI v_to)), (16, .ptr 2 8), (17, .ptr 2 8), (18, .t (tI s.Timer.Now)), (19, .t (tB (decide (v_to < s.Timer.Now)))), (21, .t (tB (decide (v_to > 1099511627776)))), (22, .t (tI v_to)), (23, .t (tB (decide (v_to > 1099511627776)))), (25, .agg [.t (tS Pv.encI s.Engine.Order), .t (tI s.Engine.First), .t (tB s.Clock.Valid), .t (tI s.Clock.At), .t (tI s.Clock.Angle), .t (tI s.Clock.Period), .t (tI s.Clock.Space), .t (tI s.Clock.Ahead), .t (tI s.Timer.Now), .t (tS q11 s.Timer.Channels), .t (tS q14 s.Next), .t (tS q13 s.Jobs), .t (tB s.Cut)]), (26, .agg [.t (tS Pv.encI v2.Engine.Order), .t (tI v2.Engine.First), .t (tB v2.Clock.Valid), .t (tI v2.Clock.At), .t (tI v2.Clock.Angle), .t (tI v2.Clock.Period), .t (tI v2.Clock.Space), .t (tI v2.Clock.Ahead), .t (tI v2.Timer.Now), .t (tS q11 v2.Timer.Channels), .t (tS q14 v2.Next), .own 2208, .t (tB v2.Cut)])], [(2, .box (q10 s)), (4, .box x35_0), (2208, .rs 85 7 v2.Jobs q13)]⟩) (q86 s) rfl rfl rfl rfl rfl rfl rfl (fun _ => rfl) (fun _ => rfl) (fun _ => rfl) (fun _ => .of rfl rfl) fun v2 hv2 => .run 2 rfl (.nil (.seq (.region ?_)))
    refine TieO.run 1 rfl (.callG [(1000000, 7), (1000001, 2208)] [(900000, 2224)] (fun r2 => ⟨[(0, .agg [.t (tS Pv.encI s.Engine.Order), .t (tI s.Engine.First), .t (tB s.Clock.Valid), .t (tI s.Clock.At), .t (tI s.Clock.Angle), .t (tI s.Clock.Period), .t (tI s.Clock.Space), .t (tI s.Clock.Ahead), .t (tI s.Timer.Now), .t (tS q11 s.Timer.Channels), .t (tS q14 s.Next), .t (tS q13 s.Jobs), .t (tB s.Cut)]), (1, .t (tI v_to)), (2, .ptr 2 0), (4, .ptr 4 0), (5, .t (.v (.slice none 0 0))), (6, .t (tI 0)), (7, .ptr 7 0), (9, .t (tB (!v))), (10, .agg [.t (tS Pv.encI s.Engine.Order), .t (tI s.Engine.First), .t (tB s.Clock.Valid), .t (tI s.Clock.At), .t (tI s.Clock.Angle), .t (tI s.Clock.Period), .t (tI s.Clock.Space), .t (tI s.Clock.Ahead), .t (tI s.Timer.Now), .t (tS q11 s.Timer.Channels), .t (tS q14 s.Next), .t (tS q13 s.Jobs), .t (tB s.Cut)]), (11, .t (tB v)), (12, .t (tB (!v))), (14, .t (tB (decide (v_to < s.Timer.Now)))), (15, .t (tI v_to)), (16, .ptr 2 8), (17, .ptr 2 8), (18, .t (tI s.Timer.Now)), (19, .t (tB (decide (v_to < s.Timer.Now)))), (21, .t (tB (decide (v_to > 1099511627776)))), (22, .t (tI v_to)), (23, .t (tB (decide (v_to > 1099511627776)))), (25, .agg [.t (tS Pv.encI s.Engine.Order), .t (tI s.Engine.First), .t (tB s.Clock.Valid), .t (tI s.Clock.At), .t (tI s.Clock.Angle), .t (tI s.Clock.Period), .t (tI s.Clock.Space), .t (tI s.Clock.Ahead), .t (tI s.Timer.Now), .t (tS q11 s.Timer.Channels), .t (tS q14 s.Next), .t (tS q13 s.Jobs), .t (tB s.Cut)]), (27, .t (tI v_to)), (28, .t (tS q15 r2.1))], [(2, .box (q10 s)), (4, .box x35_0), (7, .box (lset (q10 r2.2) [(11, .own 2224)])), (2224, .rs 85 7 r2.2.Jobs q13)]⟩) (q263 v2 v_to) rfl rfl rfl rfl rfl rfl rfl (fun _ => rfl) (fun _ => rfl) (fun _ => rfl) (fun _ => .of rfl rfl) fun r2 hr2 => .run 1 rfl (.nil (.seq ?_)))
    exact TieS.region (.run 5 rfl (.nil (.ret ⟨.inl rfl, rfl⟩)))
set_option maxRecDepth 100000 in
theorem q256 (s : List SSwitch) (n2 : Nat) (cs : List (List Tree)) (f2 : SSwitch → Option Bool) (h2 : ∀ x0, TieF Tryz.prog n2 ([q172 x0] ++ cs.map T.el) (f2 x0) (fun r => .t (tB r))) : TieF Tryz.prog 84 [.t (tS q15 s), .fz n2 cs] (q135 s f2) (fun r => .t (tI r)) := by
 refine TieF.intro htab 19 [.tmp 4] Tryz.call84 Tryz.func84 rfl rfl rfl (Nat.le_of_ble_eq_true rfl) fun w0 L => ?_
 refine TieS.seq (.region (.run 1 rfl (.nil (.seq ?_))))
 refine TieS.seq (.region (.run 3 rfl (.nil (.block ?_))))
 refine TieS.loop (fun p => ⟨[(0, .t (tS q15 s)), (1, .fz n2 cs), (7, .t (tI (s.length : Int))), (8, .t (tI p.1))], []⟩) (fun b e σ' => match b with | .inl t => e = .exit 0 ∧ Sub ⟨[], []⟩ σ' | .inr t => e = .ret ∧ retT tab σ' [.tmp 4] = some (((fun r => .t (tI r)) : Int → T) t)) (.of rfl rfl) ?_ ?_
 ·rintro ⟨i, s2⟩
  refine TieS.seq (.region (.run 1 rfl (.nil (.seq ?_))))
  refine TieS.cond rfl ?_ ?_
  ·refine TieS.skip (.seq (TieX.sub (σ' := ⟨[(0, .t (tS q15 s)), (1, .fz n2 cs), (7, .t (tI (s.length : Int))), (8, .t (tI i))], []⟩) (.of rfl rfl) (TieS.bind (Q₁ := fun f e σ' => match f with | .next t => e = .normal ∧ Sub ⟨[(0, .t (tS q15 s)), (1, .fz n2 cs), (7, .t (tI (s.length : Int))), (8, .t (tI i))], []⟩ σ' | .brk t => e = .exit 0 ∧ Sub ⟨[], []⟩ σ' | .ret t => e = .ret ∧ retT tab σ' [.tmp 4] = some (((fun r => .t (tI r)) : Int → T) t)) ?_ ?_)))
   ·refine TieS.block (.seq (.region (.run 2 rfl (.nil ?_))))
    refine TieS.seq (.region (.run 3 rfl (.index rfl rfl rfl rfl rfl rfl rfl rfl (fun _ => rfl) fun x hx => .run 1 rfl ?_)))
    refine TieO.call _ rfl rfl rfl (h2 x) (fun _ => rfl) fun v => .nil (.cond rfl ?_ ?_)
    ·exact TieS.seq (.region (.run 2 rfl (.nil (.ret ⟨rfl, rfl⟩))))
    ·exact TieS.skip (.endb (.leaf ⟨rfl, .of rfl rfl⟩))
   rintro (t | t | t) e σ' _ hq
   ·obtain ⟨rfl, hs⟩ := hq
    exact TieX.sub hs (TieS.region (.run 2 rfl (.nil (.leaf ⟨rfl, .of rfl rfl⟩))))
   ·obtain ⟨rfl, hs⟩ := hq
    exact TieX.exitOut rfl ⟨(fun h => by cases h), rfl, hs⟩
   ·obtain ⟨rfl, hs⟩ := hq
    exact TieX.ret ⟨(fun h => by cases h), rfl, hs⟩
  ·exact TieS.exitOut rfl ⟨(fun h => by cases h), rfl, .of rfl rfl⟩
 rintro (s3 | r2) e σ' _ hq
 ·obtain ⟨rfl, hs⟩ := hq
  refine TieX.exit rfl (TieX.sub hs ?_)
  exact TieS.seq (.region (.run 1 rfl (.nil (.ret ⟨.inl rfl, rfl⟩))))
 ·obtain ⟨rfl, hs⟩ := hq
  exact TieX.ret ⟨.inl rfl, hs⟩
set_option maxRecDepth 100000 in
theorem q238 (s : List SSwitch) (n2 : Nat) (cs : List (List Tree)) (f2 : SSwitch → Option Bool) (h2 : ∀ x0, TieF Tryz.prog n2 ([q172 x0] ++ cs.map T.el) (f2 x0) (fun r => .t (tB r))) : TieF Tryz.prog 36 [.t (tS q15 s), .fz n2 cs] (q33 s f2) (fun r => .t (tB r)) := by
 refine TieF.intro htab 9 [.tmp 4] Tryz.call36 Tryz.func36 rfl rfl rfl (Nat.le_of_ble_eq_true rfl) fun w0 L => ?_
 refine TieS.seq (.region (.run 1 rfl (.nil (.seq ?_))))
 refine TieS.region (.run 2 rfl (.call _ rfl rfl rfl (q256 s n2 cs f2 h2) (fun _ => rfl) fun v => .run 2 rfl (.nil ?_)))
 exact TieS.ret ⟨.inl rfl, rfl⟩
set_option maxRecDepth 100000 in
theorem q227 (x : SSwitch) : TieF Tryz.prog 37 [q172 x] (q28 x) (fun r => .t (tB r)) := by
 refine TieF.intro htab 5 [.tmp 2] Tryz.call37 Tryz.func37 rfl rfl rfl (Nat.le_of_ble_eq_true rfl) fun w0 L => ?_
 refine TieS.seq (.region (.run 2 rfl (.nil (.seq ?_))))
 exact TieS.region (.run 3 rfl (.nil (.ret ⟨.inl rfl, rfl⟩)))
set_option maxRecDepth 100000 in
theorem q234 (c : SChannel) : TieF Tryz.prog 38 [q174 c] (q41 c) (fun r => .t (tB r)) := by
 refine TieF.intro htab 5 [.tmp 2] Tryz.call38 Tryz.func38 rfl rfl rfl (Nat.le_of_ble_eq_true rfl) fun w0 L => ?_
 refine TieS.seq (.region (.run 2 rfl (.nil (.seq ?_))))
 exact TieS.region (.run 3 rfl (.nil (.ret ⟨.inl rfl, rfl⟩)))
abbrev x7_0 (c : SClock) : List T := [.t (tB c.Valid), .t (tI c.At), .t (tI c.Angle), .t (tI c.Period), .t (tI c.Space), .t (tI c.Ahead)]
set_option maxRecDepth 100000 in
set_option maxHeartbeats 4000000 in
theorem q240 (s : SScheduler) (c : SClock) (wait : Int) : TieF Tryz.prog 7 [q22 s, q194 c, .t (tI wait)] (q72 s c wait) (fun r => .t (tB r)) := by
 refine TieF.intro htab 141 [.tmp 6] Tryz.call7 Tryz.func7 rfl rfl rfl (Nat.le_of_ble_eq_true rfl) fun w0 L => ?_
 refine TieS.seq (.region (.run 3 rfl (.nil (.seq ?_))))
 refine TieS.seq (.region (.call _ rfl rfl rfl (q222) (fun _ => rfl) fun v => .run 1 rfl (.nil ?_)))
 refine TieS.cond rfl ?_ ?_
 ·exact TieS.seq (.region (.run 1 rfl (.nil (.ret ⟨.inl rfl, rfl⟩))))
 ·refine TieS.skip (.seq (.seq (.region (.run 1 rfl ?_))))
  refine TieO.call _ rfl rfl rfl (q220 s) (fun _ => rfl) fun v2 => .run 1 rfl (.bind 4 (fun b2 => ⟨[(2, .t (tI wait)), (3, .ptr 3 0), (4, .ptr 4 0), (27, .t (tB b2))], [(3, .box (q10 s)), (4, .box (x7_0 c))]⟩) (TieO.split 23 rfl ?_ ?_) fun b2 _ => ?_)
  ·exact TieO.run 4 rfl (.nil (.leaf ⟨rfl, .of rfl rfl⟩))
  ·exact TieO.run 1 rfl (.call _ rfl rfl rfl (q221 s) (fun _ => rfl) fun v3 => .run 2 rfl (.nil (.leaf ⟨rfl, .of rfl rfl⟩)))
  refine TieO.run 1 rfl (.selOr (v := decide (wait < 0)) 3 28 (fun b => ⟨[(2, .t (tI wait)), (3, .ptr 3 0), (4, .ptr 4 0), (31, .t (tB b))], [(3, .box (q10 s)), (4, .box (x7_0 c))]⟩) rfl ?_ ?_ ?_)
  ·exact TieO.run 3 rfl (.nil (.leaf ⟨rfl, .of rfl rfl⟩))
  ·exact TieO.run 3 rfl (.nil (.leaf ⟨rfl, .of rfl rfl⟩))
  refine TieO.run 1 rfl (.selOr (v := decide (wait > 1048576)) 3 32 (fun b => ⟨[(2, .t (tI wait)), (3, .ptr 3 0), (4, .ptr 4 0), (35, .t (tB b))], [(3, .box (q10 s)), (4, .box (x7_0 c))]⟩) rfl ?_ ?_ ?_)
  ·exact TieO.run 3 rfl (.nil (.leaf ⟨rfl, .of rfl rfl⟩))
  ·exact TieO.run 3 rfl (.nil (.leaf ⟨rfl, .of rfl rfl⟩))
  refine TieO.nil (.cond rfl ?_ ?_)
  ·exact TieS.seq (.region (.run 1 rfl (.nil (.ret ⟨.inl rfl, rfl⟩))))
  ·refine TieS.skip (.seq (.region (.run 4 rfl (.nil ?_))))
   refine TieS.seq (.region (.run 1 rfl (.callG [] [(900000, 2328)] (fun r2 => ⟨[(2, .t (tI wait)), (3, .ptr 3 0), (4, .ptr 4 0), (7, .t (tI s.Timer.Now)), (35, .t (tB ((b2 || (decide (wait < 0))) || (decide (wait > 1048576))))), (36, .ptr 3 8), (37, .ptr 3 8), (38, .t (tI s.Timer.Now)), (40, .agg [.t (tS Pv.encI s.Engine.Order), .t (tI s.Engine.First), .t (tB s.Clock.Valid), .t (tI s.Clock.At), .t (tI s.Clock.Angle), .t (tI s.Clock.Period), .t (tI s.Clock.Space), .t (tI s.Clock.Ahead), .t (tI s.Timer.Now), .t (tS q11 s.Timer.Channels), .t (tS q14 s.Next), .t (tS q13 s.Jobs), .t (tB s.Cut)]), (41, .tup [.agg [.t (tS Pv.encI r2.1.Engine.Order), .t (tI r2.1.Engine.First), .t (tB r2.1.Clock.Valid), .t (tI r2.1.Clock.At), .t (tI r2.1.Clock.Angle), .t (tI r2.1.Clock.Period), .t (tI r2.1.Clock.Space), .t (tI r2.1.Clock.Ahead), .t (tI r2.1.Timer.Now), .t (tS q11 r2.1.Timer.Channels), .t (tS q14 r2.1.Next), .t (tS q13 r2.1.Jobs), .t (tB r2.1.Cut)], .own 2328, .t (tI r2.2.2)])], [(3, .box (q10 s)), (4, .box (x7_0 c)), (2328, .rs 52 3 r2.2.1 q15)]⟩) (q369 s) rfl rfl rfl rfl rfl rfl rfl (fun _ => rfl) (fun _ => rfl) (fun _ => rfl) (fun _ => .of rfl rfl) fun r2 hr2 => .run 7 rfl ?_)))
   refine TieO.nil (.seq (.seq (.region (.run 3 rfl ?_))))
   refine TieO.selOr (v := (!r2.1.Cut)) 4 47 (fun b => ⟨[(2, .t (tI wait)), (3, .ptr 3 0), (4, .ptr 4 0), (7, .t (tI s.Timer.Now)), (8, .own 2328), (51, .t (tB b))], [(3, .box (q10 r2.1)), (4, .box (x7_0 c)), (2328, .rs 52 3 r2.2.1 q15)]⟩) rfl ?_ ?_ ?_
   ·exact TieO.run 4 rfl (.nil (.leaf ⟨rfl, .of rfl rfl⟩))
   ·exact TieO.run 4 rfl (.nil (.leaf ⟨rfl, .of rfl rfl⟩))
   refine TieO.run 1 rfl (.selOr (v := (r2.1.Timer.Now != s.Timer.Now)) 6 52 (fun b => ⟨[(2, .t (tI wait)), (3, .ptr 3 0), (4, .ptr 4 0), (7, .t (tI s.Timer.Now)), (8, .own 2328), (58, .t (tB b))], [(3, .box (q10 r2.1)), (4, .box (x7_0 c)), (2328, .rs 52 3 r2.2.1 q15)]⟩) rfl ?_ ?_ ?_)
   ·exact TieO.run 6 rfl (.nil (.leaf ⟨rfl, .of rfl rfl⟩))
   ·exact TieO.run 6 rfl (.nil (.leaf ⟨rfl, .of rfl rfl⟩))
   refine TieO.nil (.cond rfl ?_ ?_)
   ·exact TieS.seq (.region (.run 1 rfl (.nil (.ret ⟨.inl rfl, rfl⟩))))
   ·refine TieS.skip (.seq (.seq (.region (.run 5 rfl ?_))))
    refine TieO.nil (.block (.loop (fun p => ⟨[(2, .t (tI wait)), (3, .ptr 3 0), (4, .ptr 4 0), (7, .t (tI s.Timer.Now)), (8, .own 2328), (61, .t (tS q11 r2.1.Timer.Channels)), (62, .t (tI (r2.1.Timer.Channels.length : Int))), (63, .t (tI p.1))], [(3, .box (q10 r2.1)), (4, .box (x7_0 c)), (2328, .rs 52 3 r2.2.1 q15)]⟩) (fun b e σ' => match b with | .inl t => e = .exit 0 ∧ Sub ⟨[(2, .t (tI wait)), (3, .ptr 3 0), (4, .ptr 4 0), (7, .t (tI s.Timer.Now)), (8, .own 2328)], [(3, .box (q10 r2.1)), (4, .box (x7_0 c)), (2328, .rs 52 3 r2.2.1 q15)]⟩ σ' | .inr t => e = .ret ∧ retT tab σ' [.tmp 6] = some (((fun r => .t (tB r)) : Bool → T) t)) (.of rfl rfl) ?_ ?_))
    ·rintro ⟨i, s2⟩
     refine TieS.seq (.region (.run 1 rfl (.nil (.seq ?_))))
     refine TieS.cond rfl ?_ ?_
     ·refine TieS.skip (.seq (TieX.sub (σ' := ⟨[(2, .t (tI wait)), (3, .ptr 3 0), (4, .ptr 4 0), (7, .t (tI s.Timer.Now)), (8, .own 2328), (61, .t (tS q11 r2.1.Timer.Channels)), (62, .t (tI (r2.1.Timer.Channels.length : Int))), (63, .t (tI i))], [(3, .box (q10 r2.1)), (4, .box (x7_0 c)), (2328, .rs 52 3 r2.2.1 q15)]⟩) (.of rfl rfl) (TieS.bind (Q₁ := fun f e σ' => match f with | .next t => e = .normal ∧ Sub ⟨[(2, .t (tI wait)), (3, .ptr 3 0), (4, .ptr 4 0), (7, .t (tI s.Timer.Now)), (8, .own 2328), (61, .t (tS q11 r2.1.Timer.Channels)), (62, .t (tI (r2.1.Timer.Channels.length : Int))), (63, .t (tI i))], [(3, .box (q10 r2.1)), (4, .box (x7_0 c)), (2328, .rs 52 3 r2.2.1 q15)]⟩ σ' | .brk t => e = .exit 0 ∧ Sub ⟨[(2, .t (tI wait)), (3, .ptr 3 0), (4, .ptr 4 0), (7, .t (tI s.Timer.Now)), (8, .own 2328)], [(3, .box (q10 r2.1)), (4, .box (x7_0 c)), (2328, .rs 52 3 r2.2.1 q15)]⟩ σ' | .ret t => e = .ret ∧ retT tab σ' [.tmp 6] = some (((fun r => .t (tB r)) : Bool → T) t)) ?_ ?_)))
      ·refine TieS.block (.seq (.region (.run 1 rfl (.index rfl rfl rfl rfl rfl rfl rfl rfl (fun _ => rfl) fun x hx => ?_))))
       refine TieO.run 4 rfl (.nil (.seq (.region (.run 4 rfl ?_))))
       refine TieO.selAnd (v := x.Level) 3 71 (fun b => ⟨[(2, .t (tI wait)), (3, .ptr 3 0), (4, .ptr 4 0), (7, .t (tI s.Timer.Now)), (8, .own 2328), (61, .t (tS q11 r2.1.Timer.Channels)), (62, .t (tI (r2.1.Timer.Channels.length : Int))), (63, .t (tI i)), (74, .t (tB b))], [(3, .box (q10 r2.1)), (4, .box (x7_0 c)), (2328, .rs 52 3 r2.2.1 q15)]⟩) rfl ?_ ?_ ?_
       ·exact TieO.run 3 rfl (.nil (.leaf ⟨rfl, .of rfl rfl⟩))
       ·exact TieO.run 3 rfl (.nil (.leaf ⟨rfl, .of rfl rfl⟩))
       refine TieO.nil (.cond rfl ?_ ?_)
       ·exact TieS.seq (.region (.run 1 rfl (.nil (.ret ⟨rfl, rfl⟩))))
       ·exact TieS.skip (.endb (.leaf ⟨rfl, .of rfl rfl⟩))
      rintro (t | t | t) e σ' _ hq
      ·obtain ⟨rfl, hs⟩ := hq
       exact TieX.sub hs (TieS.region (.run 2 rfl (.nil (.leaf ⟨rfl, .of rfl rfl⟩))))
      ·obtain ⟨rfl, hs⟩ := hq
       exact TieX.exitOut rfl ⟨(fun h => by cases h), rfl, hs⟩
      ·obtain ⟨rfl, hs⟩ := hq
       exact TieX.ret ⟨(fun h => by cases h), rfl, hs⟩
     ·exact TieS.exitOut rfl ⟨(fun h => by cases h), rfl, .of rfl rfl⟩
    rintro (s3 | r6) e σ' _ hq
    ·obtain ⟨rfl, hs⟩ := hq
     refine TieX.exit rfl (TieX.sub hs ?_)
     refine TieS.seq (.region (.run 6 rfl (.nil (.seq ?_))))
     refine TieS.seq (.region (.run 1 rfl (.call _ rfl rfl rfl (q188 c) (fun _ => rfl) fun v4 => .run 1 rfl ?_)))
     refine TieO.selAnd (v := c.Valid) 3 83 (fun b => ⟨[(3, .ptr 3 0), (4, .ptr 4 0), (7, .t (tI s.Timer.Now)), (8, .own 2328), (12, .t (tI (minI (w64 (s.Timer.Now + (maxI 5000 wait))) 1099511627776))), (86, .t (tB b))], [(3, .box (q10 r2.1)), (4, .box (x7_0 c)), (2328, .rs 52 3 r2.2.1 q15)]⟩) rfl ?_ ?_ ?_
     ·exact TieO.run 3 rfl (.nil (.leaf ⟨rfl, .of rfl rfl⟩))
     ·exact TieO.run 3 rfl (.nil (.leaf ⟨rfl, .of rfl rfl⟩))
     refine TieO.run 1 rfl (.selAnd (v := decide (c.At ≥ s.Timer.Now)) 5 87 (fun b => ⟨[(3, .ptr 3 0), (4, .ptr 4 0), (7, .t (tI s.Timer.Now)), (8, .own 2328), (12, .t (tI (minI (w64 (s.Timer.Now + (maxI 5000 wait))) 1099511627776))), (92, .t (tB b))], [(3, .box (q10 r2.1)), (4, .box (x7_0 c)), (2328, .rs 52 3 r2.2.1 q15)]⟩) rfl ?_ ?_ ?_)
     ·exact TieO.run 5 rfl (.nil (.leaf ⟨rfl, .of rfl rfl⟩))
     ·exact TieO.run 5 rfl (.nil (.leaf ⟨rfl, .of rfl rfl⟩))
     refine TieO.run 1 rfl (.selAnd (v := decide (c.At ≤ (minI (w64 (s.Timer.Now + (maxI 5000 wait))) 1099511627776))) 5 93 (fun b => ⟨[(3, .ptr 3 0), (4, .ptr 4 0), (7, .t (tI s.Timer.Now)), (8, .own 2328), (12, .t (tI (minI (w64 (s.Timer.Now + (maxI 5000 wait))) 1099511627776))), (98, .t (tB b))], [(3, .box (q10 r2.1)), (4, .box (x7_0 c)), (2328, .rs 52 3 r2.2.1 q15)]⟩) rfl ?_ ?_ ?_)
     ·exact TieO.run 5 rfl (.nil (.leaf ⟨rfl, .of rfl rfl⟩))
     ·exact TieO.run 5 rfl (.nil (.leaf ⟨rfl, .of rfl rfl⟩))
     refine TieO.nil (.bind (Q₁ := fun t e σ' => match t with | .inl t => e = .normal ∧ Sub ⟨[(3, .ptr 3 0), (7, .t (tI s.Timer.Now)), (8, .own 2328), (12, .t (tI (minI (w64 (s.Timer.Now + (maxI 5000 wait))) 1099511627776)))], [(3, .box (q10 t.1)), (2328, .rs 52 3 t.2 q15)]⟩ σ' | .inr t => e = .ret ∧ retT tab σ' [.tmp 6] = some (((fun r => .t (tB r)) : Bool → T) t)) ?_ ?_)
     ·refine TieS.cond rfl ?_ ?_
      ·refine TieS.seq (.region (.run 2 rfl (.call _ rfl rfl rfl (q186 (u7_2 (u7_1 (u7_0 r2.1 (⟨r2.1.Engine.Order, r2.1.Engine.First⟩ : SEngine)) (⟨r2.1.Clock.Valid, r2.1.Clock.At, r2.1.Clock.Angle, r2.1.Clock.Period, r2.1.Clock.Space, r2.1.Clock.Ahead⟩ : SClock)) (⟨r2.1.Timer.Now, r2.1.Timer.Channels⟩ : STimer)) c) (fun _ => rfl) fun r3 => .run 8 rfl ?_)))
       refine TieO.nil (.seq (.seq (.region (.run 2 rfl ?_))))
       refine TieO.nil (.cond rfl ?_ ?_)
       ·exact TieS.seq (.region (.run 1 rfl (.nil (.ret ⟨rfl, rfl⟩))))
       ·refine TieS.skip (.bind (Q₁ := fun t e σ' => e = .normal ∧ Sub ⟨[(3, .ptr 3 0), (7, .t (tI s.Timer.Now)), (8, .own 2328), (12, .t (tI (minI (w64 (s.Timer.Now + (maxI 5000 wait))) 1099511627776)))], [(3, .box (q10 t.1)), (2328, .rs 52 3 t.2 q15)]⟩ σ') ?_ ?_)
        ·refine TieX.pre fun l hl => TieS.draws 4 (bm 6 0) (bm 6 15) ⟨[(3, .ptr 3 0), (7, .t (tI s.Timer.Now)), (12, .t (tI (minI (w64 (s.Timer.Now + (maxI 5000 wait))) 1099511627776))), (108, .agg [.t (tS Pv.encI r3.1.Engine.Order), .t (tI r3.1.Engine.First), .t (tB r3.1.Clock.Valid), .t (tI r3.1.Clock.At), .t (tI r3.1.Clock.Angle), .t (tI r3.1.Clock.Period), .t (tI r3.1.Clock.Space), .t (tI r3.1.Clock.Ahead), .t (tI r3.1.Timer.Now), .t (tS q11 r3.1.Timer.Channels), .t (tS q14 r3.1.Next), .t (tS q13 r3.1.Jobs), .t (tB r3.1.Cut)]), (111, .own 2328)], [(3, .box (q10 r2.1)), (4, .box (x7_0 c)), (13, .box (q10 r3.1)), (2328, .rs 52 3 l q15)]⟩ mixed (fun _ _ _ h => by cases h.1) rfl rfl rfl rfl ?_ ?_
         ·refine TieA.mv 1 rfl (.inl rfl) rfl (by kernel_rfl) rfl (.mv 2 rfl (.inl rfl) rfl (by kernel_rfl) rfl (.all [0, 3] (by kernel_rfl) rfl (AllA.run _ rfl rfl rfl ?_ ?_)))
          ·refine TieA.all [3] (by kernel_rfl) rfl (AllA.cons (σ₁ := ⟨[(3, .ptr 3 0), (7, .t (tI s.Timer.Now)), (12, .t (tI (minI (w64 (s.Timer.Now + (maxI 5000 wait))) 1099511627776))), (108, .agg [.t (tS Pv.encI r3.1.Engine.Order), .t (tI r3.1.Engine.First), .t (tB r3.1.Clock.Valid), .t (tI r3.1.Clock.At), .t (tI r3.1.Clock.Angle), .t (tI r3.1.Clock.Period), .t (tI r3.1.Clock.Space), .t (tI r3.1.Clock.Ahead), .t (tI r3.1.Timer.Now), .t (tS q11 r3.1.Timer.Channels), .t (tS q14 r3.1.Next), .t (tS q13 r3.1.Jobs), .t (tB r3.1.Cut)]), (111, .own 2328)], [(3, .box (q10 r2.1)), (4, .box (x7_0 c)), (13, .box (q10 r3.1)), (2328, .rs 52 3 l q15)]⟩) _ rfl rfl ?_ ?_ ?_)
           ·refine TieO.withH hl (TieO.appendY (id := 2328) (e' := 0) (l := r2.2.1) (r := r3.2.1) (tm' := [(3, .ptr 3 0), (7, .t (tI s.Timer.Now)), (12, .t (tI (minI (w64 (s.Timer.Now + (maxI 5000 wait))) 1099511627776))), (108, .agg [.t (tS Pv.encI r3.1.Engine.Order), .t (tI r3.1.Engine.First), .t (tB r3.1.Clock.Valid), .t (tI r3.1.Clock.At), .t (tI r3.1.Clock.Angle), .t (tI r3.1.Clock.Period), .t (tI r3.1.Clock.Space), .t (tI r3.1.Clock.Ahead), .t (tI r3.1.Timer.Now), .t (tS q11 r3.1.Timer.Channels), .t (tS q14 r3.1.Next), .t (tS q13 r3.1.Jobs), .t (tB r3.1.Cut)]), (110, .t (tS q15 r3.2.1))]) (hp' := [(3, .box (q10 r2.1)), (4, .box (x7_0 c)), (13, .box (q10 r3.1))]) rfl rfl rfl rfl rfl rfl rfl (fun _ => rfl) (fun _ => rfl) (.inl ⟨rfl, rfl⟩) (.inl rfl) (.of rfl rfl) rfl rfl rfl (TieO.ifH ?_))
            exact TieO.nil (TieS.leaf ⟨rfl, .of rfl rfl⟩)
           ·exact TieA.done (.of rfl rfl)
           exact AllA.nil
          refine AllA.cons (σ₁ := ⟨[(3, .ptr 3 0), (7, .t (tI s.Timer.Now)), (12, .t (tI (minI (w64 (s.Timer.Now + (maxI 5000 wait))) 1099511627776))), (13, .ptr 13 0), (111, .own 2328)], [(3, .box (q10 r2.1)), (4, .box (x7_0 c)), (13, .box (q10 r3.1)), (2328, .rs 52 3 l q15)]⟩) _ rfl rfl ?_ ?_ ?_
          ·refine TieO.withH hl (TieO.appendY (id := 2328) (e' := 0) (l := r2.2.1) (r := r3.2.1) (tm' := [(3, .ptr 3 0), (4, .ptr 4 0), (7, .t (tI s.Timer.Now)), (12, .t (tI (minI (w64 (s.Timer.Now + (maxI 5000 wait))) 1099511627776))), (13, .ptr 13 0), (14, .t (tS q15 r3.2.1)), (15, .t (tI r3.2.2)), (98, .t (tB (((v4 && c.Valid) && (decide (c.At ≥ s.Timer.Now))) && (decide (c.At ≤ (minI (w64 (s.Timer.Now + (maxI 5000 wait))) 1099511627776)))))), (99, .tup [.agg [.t (tS Pv.encI r3.1.Engine.Order), .t (tI r3.1.Engine.First), .t (tB r3.1.Clock.Valid), .t (tI r3.1.Clock.At), .t (tI r3.1.Clock.Angle), .t (tI r3.1.Clock.Period), .t (tI r3.1.Clock.Space), .t (tI r3.1.Clock.Ahead), .t (tI r3.1.Timer.Now), .t (tS q11 r3.1.Timer.Channels), .t (tS q14 r3.1.Next), .t (tS q13 r3.1.Jobs), .t (tB r3.1.Cut)], .t (tS q15 r3.2.1), .t (tI r3.2.2)]), (100, .agg [.t (tS Pv.encI r2.1.Engine.Order), .t (tI r2.1.Engine.First), .t (tB r2.1.Clock.Valid), .t (tI r2.1.Clock.At), .t (tI r2.1.Clock.Angle), .t (tI r2.1.Clock.Period), .t (tI r2.1.Clock.Space), .t (tI r2.1.Clock.Ahead), .t (tI r2.1.Timer.Now), .t (tS q11 r2.1.Timer.Channels), .t (tS q14 r2.1.Next), .t (tS q13 r2.1.Jobs), .t (tB r2.1.Cut)]), (101, .agg [.t (tB c.Valid), .t (tI c.At), .t (tI c.Angle), .t (tI c.Period), .t (tI c.Space), .t (tI c.Ahead)]), (102, .tup [.agg [.t (tS Pv.encI r3.1.Engine.Order), .t (tI r3.1.Engine.First), .t (tB r3.1.Clock.Valid), .t (tI r3.1.Clock.At), .t (tI r3.1.Clock.Angle), .t (tI r3.1.Clock.Period), .t (tI r3.1.Clock.Space), .t (tI r3.1.Clock.Ahead), .t (tI r3.1.Timer.Now), .t (tS q11 r3.1.Timer.Channels), .t (tS q14 r3.1.Next), .t (tS q13 r3.1.Jobs), .t (tB r3.1.Cut)], .t (tS q15 r3.2.1), .t (tI r3.2.2)]), (103, .agg [.t (tS Pv.encI r3.1.Engine.Order), .t (tI r3.1.Engine.First), .t (tB r3.1.Clock.Valid), .t (tI r3.1.Clock.At), .t (tI r3.1.Clock.Angle), .t (tI r3.1.Clock.Period), .t (tI r3.1.Clock.Space), .t (tI r3.1.Clock.Ahead), .t (tI r3.1.Timer.Now), .t (tS q11 r3.1.Timer.Channels), .t (tS q14 r3.1.Next), .t (tS q13 r3.1.Jobs), .t (tB r3.1.Cut)]), (104, .t (tS q15 r3.2.1)), (105, .t (tI r3.2.2)), (106, .t (tI r3.2.2)), (107, .t (tB (r3.2.2 != 0))), (110, .t (tS q15 r3.2.1))]) (hp' := [(3, .box (q10 r2.1)), (4, .box (x7_0 c)), (13, .box (q10 r3.1))]) rfl rfl rfl rfl rfl rfl rfl (fun _ => rfl) (fun _ => rfl) (.inl ⟨rfl, rfl⟩) (.inl rfl) (.of rfl rfl) rfl rfl rfl (TieO.ifH ?_))
           exact TieO.nil (TieS.leaf ⟨rfl, .of rfl rfl⟩)
          ·refine TieA.all [0] (by kernel_rfl) rfl (AllA.run _ rfl rfl rfl ?_ ?_)
           ·exact TieA.done (.of rfl rfl)
           exact AllA.nil
          exact AllA.nil
         exact TieO.run 2 rfl (.nil (.leaf ⟨rfl, .of rfl rfl⟩))
        rintro s4 e σ' _ ⟨rfl, hs⟩
        exact TieX.sub hs (TieS.leaf ⟨rfl, .of rfl rfl⟩)
      ·exact TieS.skip (.leaf ⟨rfl, .of rfl rfl⟩)
     rintro (s5 | r5) e σ' _ hq
     ·obtain ⟨rfl, hs⟩ := hq
      refine TieX.sub hs (TieS.seq (.region (.run 2 rfl (.call _ rfl rfl rfl (q315 (u7_2 (u7_1 (u7_0 s5.1 (⟨s5.1.Engine.Order, s5.1.Engine.First⟩ : SEngine)) (⟨s5.1.Clock.Valid, s5.1.Clock.At, s5.1.Clock.Angle, s5.1.Clock.Period, s5.1.Clock.Space, s5.1.Clock.Ahead⟩ : SClock)) (⟨s5.1.Timer.Now, s5.1.Timer.Channels⟩ : STimer)) (minI (w64 (s.Timer.Now + (maxI 5000 wait))) 1099511627776)) (fun _ => rfl) fun r4 => ?_))))
      refine TieO.run 8 rfl (.nil (.seq (.seq (.region ?_))))
      refine TieO.run 3 rfl (.bind 10 (fun b3 => ⟨[(8, .own 2328), (16, .ptr 16 0), (17, .t (tS q15 r4.2.1)), (131, .t (tB b3))], [(16, .box (q10 r4.1)), (2328, .rs 52 3 s5.2 q15)]⟩) (TieO.split 121 rfl ?_ ?_) fun b3 _ => ?_)
      ·exact TieO.run 10 rfl (.nil (.leaf ⟨rfl, .of rfl rfl⟩))
      ·refine TieO.run 5 rfl (.selAnd (v := decide ((w64 (s.Timer.Now + 5000)) ≤ 1099511627776)) 4 126 (fun b => ⟨[(8, .own 2328), (16, .ptr 16 0), (17, .t (tS q15 r4.2.1)), (121, .t (tB false)), (130, .t (tB b))], [(16, .box (q10 r4.1)), (2328, .rs 52 3 s5.2 q15)]⟩) rfl ?_ ?_ ?_)
       ·exact TieO.run 4 rfl (.nil (.leaf ⟨rfl, .of rfl rfl⟩))
       ·exact TieO.run 4 rfl (.nil (.leaf ⟨rfl, .of rfl rfl⟩))
       exact TieO.run 1 rfl (.nil (.leaf ⟨rfl, .of rfl rfl⟩))
      refine TieO.nil (.cond rfl ?_ ?_)
      ·exact TieS.seq (.region (.run 1 rfl (.nil (.ret ⟨.inl rfl, rfl⟩))))
      ·refine TieS.skip (.seq (.seq (.region (.run 2 rfl ?_))))
       refine TieO.appendY (id := 2328) (e' := 0) (l := s5.2) (r := r4.2.1) (tm' := [(16, .ptr 16 0), (17, .t (tS q15 r4.2.1)), (131, .t (tB b3)), (133, .t (tS q15 r4.2.1))]) (hp' := [(16, .box (q10 r4.1))]) rfl rfl rfl rfl rfl rfl rfl (fun _ => rfl) (fun _ => rfl) (.inl ⟨rfl, rfl⟩) (.inl rfl) (.of rfl rfl) rfl rfl rfl fun l2 => .callS _ rfl rfl rfl (q238 l2 37 [] q28 q227) (fun _ => rfl) (fun _ => rfl) fun v5 => .nil (.cond rfl ?_ ?_)
       ·exact TieS.seq (.region (.run 1 rfl (.nil (.ret ⟨.inl rfl, rfl⟩))))
       ·refine TieS.skip (.seq (.region (.run 3 rfl (.call _ rfl rfl rfl (q46 r4.1.Timer.Channels 38 [] q41 q234) (fun _ => rfl) fun v6 => ?_))))
        exact TieO.run 2 rfl (.nil (.ret ⟨.inl rfl, rfl⟩))
     ·obtain ⟨rfl, hs⟩ := hq
      exact TieX.ret ⟨.inl rfl, hs⟩
    ·obtain ⟨rfl, hs⟩ := hq
     exact TieX.ret ⟨.inl rfl, hs⟩
end Go.Proofs.YtldhbjpnlehpgaaGreat
namespace Go.Pv
open Go
structure wf_SEngine (x : SEngine) : Prop where
  Order : (wfL (fun n => (Lit.int .i64 n).wf = true)) x.Order
  First : (fun n => (Lit.int .i64 n).wf = true) x.First
structure wf_SClock (x : SClock) : Prop where
  Valid : (fun _ => True) x.Valid
  At : (fun n => (Lit.int .i64 n).wf = true) x.At
  Angle : (fun n => (Lit.int .i64 n).wf = true) x.Angle
  Period : (fun n => (Lit.int .i64 n).wf = true) x.Period
  Space : (fun n => (Lit.int .i64 n).wf = true) x.Space
  Ahead : (fun n => (Lit.int .i64 n).wf = true) x.Ahead
structure wf_SChannel (x : SChannel) : Prop where
  Armed : (fun _ => True) x.Armed
  At : (fun n => (Lit.int .i64 n).wf = true) x.At
  Next : (fun _ => True) x.Next
  Level : (fun _ => True) x.Level
structure wf_STimer (x : STimer) : Prop where
  Now : (fun n => (Lit.int .i64 n).wf = true) x.Now
  Channels : (wfL wf_SChannel) x.Channels
structure wf_SFire (x : SFire) : Prop where
  Cylinder : (fun n => (Lit.int .i64 n).wf = true) x.Cylinder
  Spark : (fun n => (Lit.int .i64 n).wf = true) x.Spark
  Dwell : (fun n => (Lit.int .i64 n).wf = true) x.Dwell
  End : (fun n => (Lit.int .i64 n).wf = true) x.End
  Inject : (fun n => (Lit.int .i64 n).wf = true) x.Inject
  Gap : (fun n => (Lit.int .i64 n).wf = true) x.Gap
  Extra : (fun n => (Lit.int .i64 n).wf = true) x.Extra
structure wf_SEvent (x : SEvent) : Prop where
  Angle : (fun n => (Lit.int .i64 n).wf = true) x.Angle
  Kind : (fun n => (Lit.int .i64 n).wf = true) x.Kind
  Cylinder : (fun n => (Lit.int .i64 n).wf = true) x.Cylinder
  Pulse : (fun n => (Lit.int .i64 n).wf = true) x.Pulse
structure wf_SJob (x : SJob) : Prop where
  Event : wf_SEvent x.Event
  Left : (fun n => (Lit.int .i64 n).wf = true) x.Left
  Armed : (fun _ => True) x.Armed
  At : (fun n => (Lit.int .i64 n).wf = true) x.At
structure wf_SScheduler (x : SScheduler) : Prop where
  Engine : wf_SEngine x.Engine
  Clock : wf_SClock x.Clock
  Timer : wf_STimer x.Timer
  Next : (wfL wf_SFire) x.Next
  Jobs : (wfL wf_SJob) x.Jobs
  Cut : (fun _ => True) x.Cut
structure wf_SWheel (x : SWheel) : Prop where
  Teeth : (fun n => (Lit.int .i64 n).wf = true) x.Teeth
  Missing : (fun n => (Lit.int .i64 n).wf = true) x.Missing
end Go.Pv
namespace Go.Proofs.YtldhbjpnlehpgaaGreat
open Go Go.Pv Go.Proofs
theorem reads_3 : Reads Tryz.prog 3 Pv.encI (fun n => (Lit.int .i64 n).wf = true) := reads_int Tryz.underlying3 (fun _ => rfl)
theorem reads_22 : Reads Tryz.prog 22 (Pv.encS Pv.encI) (wfL (fun n => (Lit.int .i64 n).wf = true)) := reads_slice (sz := 1) Tryz.underlying22 reads_3 (by kernel_rfl) (by decide) (fun _ => rfl)
theorem reads_24 : Reads Tryz.prog 24 q17 wf_SEngine := by
  intro H e w fuel cs x h
  obtain ⟨xs, n, _, rfl, hl, hlen, hf⟩ := DataW.trod_struct Tryz.underlying24 h
  obtain ⟨y0, w0, r0⟩ := field_of hlen hf 0 rfl reads_22
  obtain ⟨y1, w1, r1⟩ := field_of hlen hf 1 rfl reads_3
  exact ⟨⟨y0, y1⟩, ⟨w0, w1⟩, rtl_cons (o := 0) (o' := 1) r0 (by kernel_rfl) (rtl_cons (o := 1) (o' := 2) r1 (by kernel_rfl) (rtl_nil (hl.trans (by kernel_rfl))))⟩
theorem reads_4 : Reads Tryz.prog 4 Pv.encB (fun _ => True) := reads_bool Tryz.underlying4 (fun _ => rfl)
theorem reads_26 : Reads Tryz.prog 26 q466 wf_SClock := by
  intro H e w fuel cs x h
  obtain ⟨xs, n, _, rfl, hl, hlen, hf⟩ := DataW.trod_struct Tryz.underlying26 h
  obtain ⟨y0, w0, r0⟩ := field_of hlen hf 0 rfl reads_4
  obtain ⟨y1, w1, r1⟩ := field_of hlen hf 1 rfl reads_3
  obtain ⟨y2, w2, r2⟩ := field_of hlen hf 2 rfl reads_3
  obtain ⟨y3, w3, r3⟩ := field_of hlen hf 3 rfl reads_3
  obtain ⟨y4, w4, r4⟩ := field_of hlen hf 4 rfl reads_3
  obtain ⟨y5, w5, r5⟩ := field_of hlen hf 5 rfl reads_3
  exact ⟨⟨y0, y1, y2, y3, y4, y5⟩, ⟨w0, w1, w2, w3, w4, w5⟩, rtl_cons (o := 0) (o' := 1) r0 (by kernel_rfl) (rtl_cons (o := 1) (o' := 2) r1 (by kernel_rfl) (rtl_cons (o := 2) (o' := 3) r2 (by kernel_rfl) (rtl_cons (o := 3) (o' := 4) r3 (by kernel_rfl) (rtl_cons (o := 4) (o' := 5) r4 (by kernel_rfl) (rtl_cons (o := 5) (o' := 6) r5 (by kernel_rfl) (rtl_nil (hl.trans (by kernel_rfl))))))))⟩
theorem reads_74 : Reads Tryz.prog 74 q11 wf_SChannel := by
  intro H e w fuel cs x h
  obtain ⟨xs, n, _, rfl, hl, hlen, hf⟩ := DataW.trod_struct Tryz.underlying74 h
  obtain ⟨y0, w0, r0⟩ := field_of hlen hf 0 rfl reads_4
  obtain ⟨y1, w1, r1⟩ := field_of hlen hf 1 rfl reads_3
  obtain ⟨y2, w2, r2⟩ := field_of hlen hf 2 rfl reads_4
  obtain ⟨y3, w3, r3⟩ := field_of hlen hf 3 rfl reads_4
  exact ⟨⟨y0, y1, y2, y3⟩, ⟨w0, w1, w2, w3⟩, rtl_cons (o := 0) (o' := 1) r0 (by kernel_rfl) (rtl_cons (o := 1) (o' := 2) r1 (by kernel_rfl) (rtl_cons (o := 2) (o' := 3) r2 (by kernel_rfl) (rtl_cons (o := 3) (o' := 4) r3 (by kernel_rfl) (rtl_nil (hl.trans (by kernel_rfl))))))⟩
theorem reads_27 : Reads Tryz.prog 27 (Pv.encS q11) (wfL wf_SChannel) := reads_slice (sz := 4) Tryz.underlying27 reads_74 (by kernel_rfl) (by decide) (fun _ => rfl)
theorem reads_29 : Reads Tryz.prog 29 q209 wf_STimer := by
  intro H e w fuel cs x h
  obtain ⟨xs, n, _, rfl, hl, hlen, hf⟩ := DataW.trod_struct Tryz.underlying29 h
  obtain ⟨y0, w0, r0⟩ := field_of hlen hf 0 rfl reads_3
  obtain ⟨y1, w1, r1⟩ := field_of hlen hf 1 rfl reads_27
  exact ⟨⟨y0, y1⟩, ⟨w0, w1⟩, rtl_cons (o := 0) (o' := 1) r0 (by kernel_rfl) (rtl_cons (o := 1) (o' := 2) r1 (by kernel_rfl) (rtl_nil (hl.trans (by kernel_rfl))))⟩
theorem reads_55 : Reads Tryz.prog 55 q14 wf_SFire := by
  intro H e w fuel cs x h
  obtain ⟨xs, n, _, rfl, hl, hlen, hf⟩ := DataW.trod_struct Tryz.underlying55 h
  obtain ⟨y0, w0, r0⟩ := field_of hlen hf 0 rfl reads_3
  obtain ⟨y1, w1, r1⟩ := field_of hlen hf 1 rfl reads_3
  obtain ⟨y2, w2, r2⟩ := field_of hlen hf 2 rfl reads_3
  obtain ⟨y3, w3, r3⟩ := field_of hlen hf 3 rfl reads_3
  obtain ⟨y4, w4, r4⟩ := field_of hlen hf 4 rfl reads_3
  obtain ⟨y5, w5, r5⟩ := field_of hlen hf 5 rfl reads_3
  obtain ⟨y6, w6, r6⟩ := field_of hlen hf 6 rfl reads_3
  exact ⟨⟨y0, y1, y2, y3, y4, y5, y6⟩, ⟨w0, w1, w2, w3, w4, w5, w6⟩, rtl_cons (o := 0) (o' := 1) r0 (by kernel_rfl) (rtl_cons (o := 1) (o' := 2) r1 (by kernel_rfl) (rtl_cons (o := 2) (o' := 3) r2 (by kernel_rfl) (rtl_cons (o := 3) (o' := 4) r3 (by kernel_rfl) (rtl_cons (o := 4) (o' := 5) r4 (by kernel_rfl) (rtl_cons (o := 5) (o' := 6) r5 (by kernel_rfl) (rtl_cons (o := 6) (o' := 7) r6 (by kernel_rfl) (rtl_nil (hl.trans (by kernel_rfl)))))))))⟩
theorem reads_30 : Reads Tryz.prog 30 (Pv.encS q14) (wfL wf_SFire) := reads_slice (sz := 7) Tryz.underlying30 reads_55 (by kernel_rfl) (by decide) (fun _ => rfl)
theorem reads_68 : Reads Tryz.prog 68 q16 wf_SEvent := by
  intro H e w fuel cs x h
  obtain ⟨xs, n, _, rfl, hl, hlen, hf⟩ := DataW.trod_struct Tryz.underlying68 h
  obtain ⟨y0, w0, r0⟩ := field_of hlen hf 0 rfl reads_3
  obtain ⟨y1, w1, r1⟩ := field_of hlen hf 1 rfl reads_3
  obtain ⟨y2, w2, r2⟩ := field_of hlen hf 2 rfl reads_3
  obtain ⟨y3, w3, r3⟩ := field_of hlen hf 3 rfl reads_3
  exact ⟨⟨y0, y1, y2, y3⟩, ⟨w0, w1, w2, w3⟩, rtl_cons (o := 0) (o' := 1) r0 (by kernel_rfl) (rtl_cons (o := 1) (o' := 2) r1 (by kernel_rfl) (rtl_cons (o := 2) (o' := 3) r2 (by kernel_rfl) (rtl_cons (o := 3) (o' := 4) r3 (by kernel_rfl) (rtl_nil (hl.trans (by kernel_rfl))))))⟩
theorem reads_85 : Reads Tryz.prog 85 q13 wf_SJob := by
  intro H e w fuel cs x h
  obtain ⟨xs, n, _, rfl, hl, hlen, hf⟩ := DataW.trod_struct Tryz.underlying85 h
  obtain ⟨y0, w0, r0⟩ := field_of hlen hf 0 rfl reads_68
  obtain ⟨y1, w1, r1⟩ := field_of hlen hf 1 rfl reads_3
  obtain ⟨y2, w2, r2⟩ := field_of hlen hf 2 rfl reads_4
  obtain ⟨y3, w3, r3⟩ := field_of hlen hf 3 rfl reads_3
  exact ⟨⟨y0, y1, y2, y3⟩, ⟨w0, w1, w2, w3⟩, rtl_cons (o := 0) (o' := 4) r0 (by kernel_rfl) (rtl_cons (o := 4) (o' := 5) r1 (by kernel_rfl) (rtl_cons (o := 5) (o' := 6) r2 (by kernel_rfl) (rtl_cons (o := 6) (o' := 7) r3 (by kernel_rfl) (rtl_nil (hl.trans (by kernel_rfl))))))⟩
theorem reads_31 : Reads Tryz.prog 31 (Pv.encS q13) (wfL wf_SJob) := reads_slice (sz := 7) Tryz.underlying31 reads_85 (by kernel_rfl) (by decide) (fun _ => rfl)
theorem reads_33 : Reads Tryz.prog 33 q49 wf_SScheduler := by
  intro H e w fuel cs x h
  obtain ⟨xs, n, _, rfl, hl, hlen, hf⟩ := DataW.trod_struct Tryz.underlying33 h
  obtain ⟨y0, w0, r0⟩ := field_of hlen hf 0 rfl reads_24
  obtain ⟨y1, w1, r1⟩ := field_of hlen hf 1 rfl reads_26
  obtain ⟨y2, w2, r2⟩ := field_of hlen hf 2 rfl reads_29
  obtain ⟨y3, w3, r3⟩ := field_of hlen hf 3 rfl reads_30
  obtain ⟨y4, w4, r4⟩ := field_of hlen hf 4 rfl reads_31
  obtain ⟨y5, w5, r5⟩ := field_of hlen hf 5 rfl reads_4
  exact ⟨⟨y0, y1, y2, y3, y4, y5⟩, ⟨w0, w1, w2, w3, w4, w5⟩, rtl_cons (o := 0) (o' := 2) r0 (by kernel_rfl) (rtl_cons (o := 2) (o' := 8) r1 (by kernel_rfl) (rtl_cons (o := 8) (o' := 10) r2 (by kernel_rfl) (rtl_cons (o := 10) (o' := 11) r3 (by kernel_rfl) (rtl_cons (o := 11) (o' := 12) r4 (by kernel_rfl) (rtl_cons (o := 12) (o' := 13) r5 (by kernel_rfl) (rtl_nil (hl.trans (by kernel_rfl))))))))⟩
theorem arg_33 : ArgOk Tryz.prog 33 (fun x => q22 x) wf_SScheduler := arg_struct Tryz.underlying33 reads_33 (fun _ => rfl)
theorem arg_26 : ArgOk Tryz.prog 26 (fun x => q194 x) wf_SClock := arg_struct Tryz.underlying26 reads_26 (fun _ => rfl)
theorem arg_24 : ArgOk Tryz.prog 24 (fun x => q52 x) wf_SEngine := arg_struct Tryz.underlying24 reads_24 (fun _ => rfl)
theorem reads_46 : Reads Tryz.prog 46 q465 wf_SWheel := by
  intro H e w fuel cs x h
  obtain ⟨xs, n, _, rfl, hl, hlen, hf⟩ := DataW.trod_struct Tryz.underlying46 h
  obtain ⟨y0, w0, r0⟩ := field_of hlen hf 0 rfl reads_3
  obtain ⟨y1, w1, r1⟩ := field_of hlen hf 1 rfl reads_3
  exact ⟨⟨y0, y1⟩, ⟨w0, w1⟩, rtl_cons (o := 0) (o' := 1) r0 (by kernel_rfl) (rtl_cons (o := 1) (o' := 2) r1 (by kernel_rfl) (rtl_nil (hl.trans (by kernel_rfl))))⟩
theorem arg_46 : ArgOk Tryz.prog 46 (fun x => q518 x) wf_SWheel := arg_struct Tryz.underlying46 reads_46 (fun _ => rfl)
theorem arg_3 : ArgOk Tryz.prog 3 (fun x => .t (tI x)) (fun n => (Lit.int .i64 n).wf = true) := arg_int Tryz.underlying3 reads_3 (fun _ => rfl) (fun _ => rfl)
theorem reads_5 : Reads Tryz.prog 5 enc_u8 (fun n => (Lit.int .u8 n).wf = true) := reads_int Tryz.underlying5 (fun _ => rfl)
theorem arg_5 : ArgOk Tryz.prog 5 (fun x => .t (tK .u8 x)) (fun n => (Lit.int .u8 n).wf = true) := arg_int Tryz.underlying5 reads_5 (fun _ => rfl) (fun _ => rfl)
theorem arg_30 : ArgOk Tryz.prog 30 (fun x => .t (tS q14 x)) (wfL wf_SFire) := arg_slice Tryz.underlying30 reads_30 (fun _ => rfl)
end Go.Proofs.YtldhbjpnlehpgaaGreat
namespace Go.Pv
open Go.RowKit
theorem stepsN_inv {S R : Type} (f : Int → S → Option (Fl S R)) (I : Nat → S → Prop) : ∀ (k i : Nat) (s : S), I i s → (∀ j, i ≤ j → j < i + k → ∀ s, I j s → ∃ s', f (j : Int) s = some (.next s') ∧ I (j + 1) s') → ∃ s', stepsN f k (i : Int) s = some (.inl s') ∧ I (i + k) s'
  | 0, i, s, h, _ => ⟨s, rfl, h⟩
  | k + 1, i, s, h, st => by
    obtain ⟨s1, h1, h2⟩ := st i (Nat.le_refl _) (by omega) s h
    obtain ⟨s2, h3, h4⟩ := stepsN_inv f I k (i + 1) s1 h2 (fun j a b => st j (by omega) (by omega))
    refine ⟨s2, ?_, by rw [show i + (k + 1) = i + 1 + k by omega]; exact h4⟩
    simp only [stepsN, h1, Option.bind_some]
    exact h3
theorem rangeN_inv {S R : Type} (n : Nat) (hn : n ≤ 9223372036854775807) (f : Int → S → Option (Fl S R)) (I : Nat → S → Prop) (s : S) (h : I 0 s) (st : ∀ j, j < n → ∀ s, I j s → ∃ s', f (j : Int) s = some (.next s') ∧ I (j + 1) s') : ∃ s', rangeN (n : Int) f s = some (.inl s') ∧ I n s' := by
  obtain ⟨s', h1, h2⟩ := stepsN_inv f I n 0 s h (fun j _ b => st j (by omega))
  refine ⟨s', ?_, by simpa using h2⟩
  rw [rangeN_steps _ hn]
  exact h1
theorem loopM_inv {S B : Type} {mb : S → Option (S ⊕ B)} (I : Nat → S → Prop) (J : B → Prop) : ∀ (n k : Nat) (s : S), I k s → (∀ j, k ≤ j → j < k + n → ∀ s, I j s → ∃ s', mb s = some (.inl s') ∧ I (j + 1) s') → (∀ s, I (k + n) s → ∃ b, mb s = some (.inr b) ∧ J b) → ∃ b, loopM mb s = some b ∧ J b
  | 0, k, s, h, _, e => by
    obtain ⟨b, h1, h2⟩ := e s h
    exact ⟨b, loopM_out h1, h2⟩
  | n + 1, k, s, h, st, e => by
    obtain ⟨s', h1, h2⟩ := st k (Nat.le_refl _) (by omega) s h
    rw [loopM_next h1]
    exact loopM_inv I J n (k + 1) s' h2 (fun j a b => st j (by omega) (by omega)) (by rw [show k + 1 + n = k + (n + 1) by omega]; exact e)
theorem setM_nat {α : Type} (l : List α) (i : Nat) (y : α) (h : i < l.length) : setM l (i : Int) y = some (l.set i y) := by
  unfold setM; rw [if_pos ⟨by omega, by omega⟩]; rfl
theorem getI_get {α : Type} (l : List α) (i : Nat) (h : i < l.length) : getI l (i : Int) = some l[i] := by rw [getI_nat, List.getElem?_eq_getElem h]
theorem makeM_nat {α : Type} (n : Nat) (h : n ≤ 1073741824) (z : α) : makeM (n : Int) z = some (List.replicate n z) := by
  unfold makeM; rw [if_pos ⟨by omega, by omega⟩]; rfl
theorem appendM_ok {α : Type} (l r : List α) (h : l.length + r.length ≤ 1073741824) : appendM l r = some (l ++ r) := by
  unfold appendM; rw [if_pos h]
theorem copyL_same {α : Type} (l r : List α) (h : l.length = r.length) : copyL l r = r := by
  unfold copyL; rw [h, List.take_length, ← h, List.drop_length, List.append_nil]
end Go.Pv
set_option linter.unusedSimpArgs false
namespace Go.Pv.Ev
open Go Go.Pv
theorem bsome {α : Type} (c : Bool) (x y : α) : (bif c then some x else some y) = some (bif c then x else y) := by cases c <;> rfl
theorem dec_of {p : Prop} [Decidable p] {b : Bool} (h : p ↔ b = true) : decide p = b := by
  cases b
  · exact decide_eq_false fun hp => Bool.noConfusion (h.1 hp)
  · exact decide_eq_true (h.2 rfl)
theorem q301 {α : Type} [DecidableEq α] : ∀ {l m : List α}, l.Nodup → (∀ x ∈ l, x ∈ m) → m.length ≤ l.length → l.Perm m
  | [], m, _, _, h => by
    have : m = [] := List.length_eq_zero_iff.1 (Nat.le_zero.1 h)
    rw [this]
  | x :: l, m, hn, hs, hl => by
    have hx : x ∈ m := hs x (List.mem_cons_self ..)
    have hp := List.perm_cons_erase hx
    rw [List.nodup_cons] at hn
    have hlen := hp.length_eq
    simp only [List.length_cons] at hlen hl
    refine (List.Perm.cons x (q301 hn.2 (fun y hy => ?_) (by omega))).trans hp.symm
    have hne : y ≠ x := fun h => hn.1 (h ▸ hy)
    exact (List.mem_erase_of_ne hne).2 (hs y (List.mem_cons_of_mem _ hy))
theorem q413 {l : List Int} : l.Nodup ↔ ∀ i (h : i < l.length), l[i] ∉ l.take i := by
  unfold List.Nodup
  rw [List.pairwise_iff_getElem]
  constructor
  · intro hp i hi hm
    obtain ⟨j, hj, e⟩ := List.mem_iff_getElem.1 hm
    rw [List.length_take] at hj
    rw [List.getElem_take] at e
    exact hp j i (by omega) hi (by omega) e
  · intro hp i j hi hj hij e
    exact hp j hj (List.mem_iff_getElem.2 ⟨i, by rw [List.length_take]; omega, by rw [List.getElem_take]; exact e⟩)
theorem q487 {l : List Int} : (∀ k, k < l.length → ((k : Int) + 1) ∈ l) ↔ (∀ x ∈ l, 1 ≤ x ∧ x ≤ l.length) ∧ l.Nodup := by
  have hN : ((List.range l.length).map (fun k : Nat => (k : Int) + 1)).Nodup := by
    unfold List.Nodup
    rw [List.pairwise_map]
    exact List.Pairwise.imp (fun {a b} h => by omega) List.pairwise_lt_range
  have hm : ∀ x : Int, x ∈ (List.range l.length).map (fun k : Nat => (k : Int) + 1) ↔ 1 ≤ x ∧ x ≤ l.length := by
    intro x
    rw [List.mem_map]
    constructor
    · rintro ⟨k, hk, rfl⟩
      rw [List.mem_range] at hk
      omega
    · intro h
      exact ⟨(x - 1).toNat, by rw [List.mem_range]; omega, by omega⟩
  constructor
  · intro h
    have hp : ((List.range l.length).map (fun k : Nat => (k : Int) + 1)).Perm l := q301 hN (fun x hx => by
      rw [List.mem_map] at hx
      obtain ⟨k, hk, rfl⟩ := hx
      exact h k (List.mem_range.1 hk)) (by simp)
    exact ⟨fun x hx => (hm x).1 (hp.mem_iff.2 hx), hp.nodup_iff.1 hN⟩
  · rintro ⟨h1, h2⟩ k hk
    have hp : l.Perm ((List.range l.length).map (fun k : Nat => (k : Int) + 1)) := q301 h2 (fun x hx => (hm x).2 (h1 x hx)) (by simp)
    exact hp.mem_iff.2 ((hm _).2 (by omega))
def idx (v : Int) : List Int → Nat → Int
  | [], _ => -1
  | x :: l, i => bif v == x then (i : Int) else idx v l (i + 1)
theorem q396 (v : Int) : ∀ (l : List Int) (i : Nat), (idx v l i = -1 ∧ v ∉ l) ∨ ∃ k : Nat, idx v l i = ((i + k : Nat) : Int) ∧ l[k]? = some v
  | [], i => .inl ⟨rfl, by simp⟩
  | x :: l, i => by
    unfold idx
    cases h : v == x
    · have hne : v ≠ x := by simpa using h
      rcases q396 v l (i + 1) with ⟨h1, h2⟩ | ⟨k, h1, h2⟩
      · exact .inl ⟨h1, by simp [hne, h2]⟩
      · exact .inr ⟨k + 1, by simp only [cond_false]; rw [h1]; omega, by simpa using h2⟩
    · have : v = x := by simpa using h
      exact .inr ⟨0, by simp, by simp [this]⟩
theorem idx_mem (v : Int) (l : List Int) : decide (idx v l 0 ≥ 0) = decide (v ∈ l) := by
  rcases q396 v l 0 with ⟨h1, h2⟩ | ⟨k, h1, h2⟩
  · rw [h1]; simp [h2]
  · rw [h1]; simp [List.mem_of_getElem? h2]
theorem q426 (v : Int) : ∀ (l : List Int) (i : Nat), (Option.bind (stepsL (fun (i : Int) x (_ : Unit) => bif (v == x) then (some (Fl.ret i)) else (some (Fl.next ()))) l (i : Int) ()) fun (t : Unit ⊕ Int) => match t with | .inl _ => (some (-1)) | .inr r2 => some r2) = some (idx v l i)
  | [], i => rfl
  | x :: l, i => by
    simp only [stepsL, idx]
    cases v == x
    · simpa using q426 v l (i + 1)
    · rfl
theorem q289 (s : List Int) (v : Int) (h : s.length ≤ 9223372036854775807) : q122 s v = some (idx v s 0) := by
  unfold q122
  have : rangeN (s.length : Int) (q244 s v) () = stepsL (fun (i : Int) x (_ : Unit) => bif (v == x) then (some (Fl.ret i)) else (some (Fl.next ()))) s 0 () := rangeN_list s h _ ()
  rw [this]
  exact q426 v s 0
theorem q380 (s : List Int) (v : Int) (h : s.length ≤ 9223372036854775807) : q85 s v = some (decide (v ∈ s)) := by
  unfold q85
  rw [q289 s v h, Option.bind_some, idx_mem]
def engP (e : SEngine) : Prop := 1 ≤ e.Order.length ∧ e.Order.length ≤ 8 ∧ 0 ≤ e.First ∧ e.First < 46080 ∧ (∀ x ∈ e.Order, 1 ≤ x ∧ x ≤ (e.Order.length : Int)) ∧ e.Order.Nodup
instance (e : SEngine) : Decidable (engP e) := by unfold engP; infer_instance
theorem q459 {e : SEngine} (h : (((decide ((e.Order.length : Int) < 1)) || (decide ((e.Order.length : Int) > 8))) || !((decide (e.First ≥ 0)) && (decide (e.First < 46080)))) = true) : ¬ engP e := by
  rintro ⟨h1, h2, h3, h4, _⟩
  simp only [Bool.or_eq_true, Bool.not_eq_true', Bool.and_eq_false_iff, decide_eq_true_eq, decide_eq_false_iff_not] at h
  omega
theorem q454 {e : SEngine} (h : (((decide ((e.Order.length : Int) < 1)) || (decide ((e.Order.length : Int) > 8))) || !((decide (e.First ≥ 0)) && (decide (e.First < 46080)))) = false) : 1 ≤ e.Order.length ∧ e.Order.length ≤ 8 ∧ 0 ≤ e.First ∧ e.First < 46080 := by
  simp only [Bool.or_eq_false_iff, Bool.not_eq_false', Bool.and_eq_true, decide_eq_true_eq, decide_eq_false_iff_not] at h
  omega
theorem all_range' {n : Nat} {p : Nat → Bool} : (List.range' 0 n).all p = true ↔ ∀ k, k < n → p k = true := by
  rw [List.all_eq_true]
  constructor
  · intro h k hk
    exact h k (by rw [List.mem_range'_1]; omega)
  · intro h k hk
    rw [List.mem_range'_1] at hk
    exact h k (by omega)
theorem q288 (e : SEngine) : q69 e = some (decide (engP e)) := by
  unfold q69 q168
  have hb : (Option.bind (bif ((decide ((e.Order.length : Int) < 1)) || (decide ((e.Order.length : Int) > 8))) then (some true) else (Option.bind (some ((decide (e.First ≥ 0)) && (decide (e.First < 46080)))) fun v => some (!v))) : (Bool → Option Bool) → Option Bool) = fun k => k (((decide ((e.Order.length : Int) < 1)) || (decide ((e.Order.length : Int) > 8))) || !((decide (e.First ≥ 0)) && (decide (e.First < 46080)))) := by
    funext k
    cases ((decide ((e.Order.length : Int) < 1)) || (decide ((e.Order.length : Int) > 8))) <;> rfl
  rw [hb]
  cases hh : (((decide ((e.Order.length : Int) < 1)) || (decide ((e.Order.length : Int) > 8))) || !((decide (e.First ≥ 0)) && (decide (e.First < 46080))))
  · obtain ⟨h1, h2, h3, h4⟩ := q454 hh
    have k := loopM_all (mb := q193 e) (fun i => (i : Int) + 1) (p := fun i => decide (((i : Int) + 1) ∈ e.Order)) (b0 := .inl ((e.Order.length : Int) + 1)) (b1 := .inr false) e.Order.length (by
      unfold q193
      rw [show decide ((e.Order.length : Int) + 1 ≤ (e.Order.length : Int)) = false by simp; omega]; rfl) (fun k hk => by
      unfold q193
      simp only [show decide ((k : Int) + 1 ≤ (e.Order.length : Int)) = true by simp; omega, cond_true, q380 e.Order _ (by omega), Option.bind_some, w64_of (n := (k : Int) + 1 + 1) (by omega) (by omega)]
      cases decide (((k : Int) + 1) ∈ e.Order) <;> rfl)
    simp only [show ((0 : Nat) : Int) + 1 = 1 from rfl] at k
    simp only [cond_false]
    rw [k]
    have hP : engP e ↔ (List.range' 0 e.Order.length).all (fun i => decide (((i : Int) + 1) ∈ e.Order)) = true := by
      rw [all_range']
      simp only [decide_eq_true_eq]
      rw [q487]
      unfold engP
      constructor
      · rintro ⟨_, _, _, _, h5, h6⟩; exact ⟨h5, h6⟩
      · rintro ⟨h5, h6⟩; exact ⟨h1, h2, h3, h4, h5, h6⟩
    rw [dec_of hP]
    cases (List.range' 0 e.Order.length).all (fun i => decide (((i : Int) + 1) ∈ e.Order)) <;> rfl
  · simp only [cond_true]
    rw [decide_eq_false (q459 hh)]
theorem q355 (e : SEngine) : q145 e = some (decide (engP e)) := by
  unfold q145 q110
  have hb : (Option.bind (bif ((decide ((e.Order.length : Int) < 1)) || (decide ((e.Order.length : Int) > 8))) then (some true) else (Option.bind (some ((decide (e.First ≥ 0)) && (decide (e.First < 46080)))) fun v => some (!v))) : (Bool → Option Bool) → Option Bool) = fun k => k (((decide ((e.Order.length : Int) < 1)) || (decide ((e.Order.length : Int) > 8))) || !((decide (e.First ≥ 0)) && (decide (e.First < 46080)))) := by
    funext k
    cases ((decide ((e.Order.length : Int) < 1)) || (decide ((e.Order.length : Int) > 8))) <;> rfl
  rw [hb]
  cases hh : (((decide ((e.Order.length : Int) < 1)) || (decide ((e.Order.length : Int) > 8))) || !((decide (e.First ≥ 0)) && (decide (e.First < 46080))))
  · obtain ⟨h1, h2, h3, h4⟩ := q454 hh
    have k := loopM_all (mb := q118 e) (fun i => (i : Int)) (p := fun i => decide (1 ≤ e.Order.getD i 0 ∧ e.Order.getD i 0 ≤ (e.Order.length : Int)) && (e.Order.take i).all fun y => !(y == e.Order.getD i 0)) (b0 := .inl (e.Order.length : Int)) (b1 := .inr false) e.Order.length (by
      unfold q118
      rw [show decide ((e.Order.length : Int) < (e.Order.length : Int)) = false by simp]; rfl) (fun k hk => by
      have hg : e.Order.getD k 0 = e.Order[k] := by simp [List.getD, List.getElem?_eq_getElem hk]
      have hlt : (e.Order.take k).length = k := by rw [List.length_take]; omega
      have k2 := loopM_allL (mb := q116 e (k : Int) e.Order[k]) (fun i => (i : Int)) (p := fun y => !(y == e.Order[k])) (b0 := .inl (k : Int)) (b1 := .inr false) (e.Order.take k) (by
        rw [hlt]
        unfold q116
        rw [show decide ((k : Int) < (k : Int)) = false by simp]; rfl) (fun j y hy => by
        have hj : j < k := by have := (List.getElem?_eq_some_iff.1 hy).1; omega
        have hy2 : e.Order[j]? = some y := by rw [← hy, List.getElem?_take, if_pos hj]
        unfold q116
        simp only [show decide ((j : Int) < (k : Int)) = true by simp; omega, cond_true, getI_nat, hy2, Option.bind_some, w64_of (n := (j : Int) + 1) (by omega) (by omega)]
        cases y == e.Order[k] <;> rfl)
      rw [show ((0 : Nat) : Int) = 0 from rfl] at k2
      unfold q118
      simp only [show decide ((k : Int) < (e.Order.length : Int)) = true by simp; omega, cond_true, getI_get _ _ hk, Option.bind_some, hg, w64_of (n := (k : Int) + 1) (by omega) (by omega), k2]
      have e1 : (Option.bind (bif (decide (e.Order[k] < 1)) then (some true) else (some (decide (e.Order[k] > (e.Order.length : Int))))) : (Bool → Option (Int ⊕ (Int ⊕ Bool))) → Option (Int ⊕ (Int ⊕ Bool))) = fun f => f (!decide (1 ≤ e.Order[k] ∧ e.Order[k] ≤ (e.Order.length : Int))) := by
        funext f
        have : (!decide (1 ≤ e.Order[k] ∧ e.Order[k] ≤ (e.Order.length : Int))) = (decide (e.Order[k] < 1) || decide (e.Order[k] > (e.Order.length : Int))) := by
          rw [Bool.eq_iff_iff]; simp only [Bool.not_eq_true', decide_eq_false_iff_not, Bool.or_eq_true, decide_eq_true_eq]; omega
        rw [this]
        cases decide (e.Order[k] < 1) <;> rfl
      rw [e1]
      cases decide (1 ≤ e.Order[k] ∧ e.Order[k] ≤ (e.Order.length : Int))
      · rfl
      · simp only [Bool.not_true, cond_false, Bool.true_and]
        cases (e.Order.take k).all fun y => !(y == e.Order[k]) <;> rfl)
    simp only [show ((0 : Nat) : Int) = 0 from rfl] at k
    simp only [cond_false]
    rw [k]
    have hP : engP e ↔ (List.range' 0 e.Order.length).all (fun i => decide (1 ≤ e.Order.getD i 0 ∧ e.Order.getD i 0 ≤ (e.Order.length : Int)) && (e.Order.take i).all fun y => !(y == e.Order.getD i 0)) = true := by
      rw [all_range']
      unfold engP
      rw [q413]
      have hg : ∀ k (hk : k < e.Order.length), e.Order.getD k 0 = e.Order[k] := fun k hk => by simp [List.getD, List.getElem?_eq_getElem hk]
      constructor
      · rintro ⟨_, _, _, _, h5, h6⟩ k hk
        rw [hg k hk, Bool.and_eq_true, decide_eq_true_eq, List.all_eq_true]
        refine ⟨h5 _ (List.getElem_mem hk), fun y hy => ?_⟩
        simp only [Bool.not_eq_true', beq_eq_false_iff_ne]
        exact fun h => h6 k hk (h ▸ hy)
      · intro h
        refine ⟨h1, h2, h3, h4, fun x hx => ?_, fun k hk hm => ?_⟩
        · obtain ⟨k, hk, rfl⟩ := List.mem_iff_getElem.1 hx
          have := h k hk
          rw [hg k hk, Bool.and_eq_true, decide_eq_true_eq] at this
          exact this.1
        · have := h k hk
          rw [hg k hk, Bool.and_eq_true, List.all_eq_true] at this
          have := this.2 _ hm
          simp at this
    rw [dec_of hP]
    cases (List.range' 0 e.Order.length).all (fun i => decide (1 ≤ e.Order.getD i 0 ∧ e.Order.getD i 0 ≤ (e.Order.length : Int)) && (e.Order.take i).all fun y => !(y == e.Order.getD i 0)) <;> rfl
  · simp only [cond_true]
    rw [decide_eq_false (q459 hh)]
end Go.Pv.Ev
set_option linter.unusedSimpArgs false
namespace Go.Pv.Ev
open Go Go.Pv
theorem q545 (e : SEngine) (c : Int) (h : e.Order.length ≤ 1000000) : q143 e c = some (idx c e.Order 0) := by
  unfold q143
  have key : ∀ (r : List Int) (i : Nat), e.Order.drop i = r → (Option.bind (loopM (q55 e c) (i : Int)) fun (t : Int ⊕ Int) => match t with | .inl _ => (some (-1)) | .inr r2 => some r2) = some (idx c r i) := by
    intro r
    induction r with
    | nil =>
      intro i hd
      have hi : e.Order.length ≤ i := by simpa using hd
      have : q55 e c (i : Int) = some (.inr (.inl (i : Int))) := by
        unfold q55
        rw [show decide ((i : Int) < (e.Order.length : Int)) = false by simp; omega]; rfl
      rw [loopM_out this]; rfl
    | cons y r ih =>
      intro i hd
      have hi : i < e.Order.length := by
        have := congrArg List.length hd; simp at this; omega
      have hy : e.Order[i]? = some y := by rw [← List.head?_drop, hd]; rfl
      have hb : q55 e c (i : Int) = some (bif c == y then .inr (.inr (i : Int)) else .inl ((i + 1 : Nat) : Int)) := by
        unfold q55
        rw [show decide ((i : Int) < (e.Order.length : Int)) = true by simp; omega, getI_nat, hy, w64_of (n := (i : Int) + 1) (by omega) (by omega)]
        simp only [cond_true, Option.bind_some]
        rw [show (y == c) = (c == y) from BEq.comm]
        cases c == y <;> rfl
      unfold idx
      cases hc : c == y
      · rw [hc] at hb
        rw [loopM_next hb, ih (i + 1) (by rw [← List.drop_drop, hd]; rfl)]
        rfl
      · rw [hc] at hb
        rw [loopM_out hb]; rfl
  exact key e.Order 0 rfl
def cen (e : SEngine) (c : Int) : Int := (e.First + maxI (idx c e.Order 0) 0 * 46080 / (e.Order.length : Int)) % 46080
theorem q432 (e : SEngine) (c : Int) : 0 ≤ cen e c ∧ cen e c < 46080 := by unfold cen; omega
theorem quo_eq {a b : Int} (ha : 0 ≤ a) (hb : 0 < b) (hm : a ≤ 9223372036854775807) : quoM .i64 a b = some (a / b) := by
  have h1 : a / b ≤ a := Int.ediv_le_self _ ha
  have h2 : 0 ≤ a / b := Int.ediv_nonneg ha (by omega)
  unfold quoM
  rw [if_neg (by omega), Int.tdiv_eq_ediv_of_nonneg ha]
  exact congrArg some (w64_of (by omega) (by omega))
theorem q435 (e : SEngine) (c : Int) (h : engP e) : q180 e c = some (cen e c, decide (c ∈ e.Order)) := by
  obtain ⟨h1, h2, h3, h4, h5, h6⟩ := h
  unfold q180
  rw [q289 _ _ (by omega)]
  simp only [Option.bind_some]
  have hm : 0 ≤ maxI (idx c e.Order 0) 0 ∧ maxI (idx c e.Order 0) 0 < 8 := by
    rcases q396 c e.Order 0 with ⟨e1, _⟩ | ⟨k, e1, e2⟩
    · rw [e1]; decide
    · have := (List.getElem?_eq_some_iff.1 e2).1
      rw [e1]; unfold maxI; split <;> omega
  rw [w64_of (by omega) (by omega), quo_eq (by omega) (by omega) (by omega)]
  simp only [Option.bind_some]
  have hq : 0 ≤ maxI (idx c e.Order 0) 0 * 46080 / (e.Order.length : Int) := Int.ediv_nonneg (by omega) (by omega)
  have hq2 : maxI (idx c e.Order 0) 0 * 46080 / (e.Order.length : Int) ≤ maxI (idx c e.Order 0) 0 * 46080 := Int.ediv_le_self _ (by omega)
  rw [w64_of (by omega) (by omega), Int.tmod_eq_emod_of_nonneg (by omega), idx_mem]
  rfl
theorem q480 (e : SEngine) (c : Int) : q226 e c = some (bif !decide (engP e) then (0, 1) else bif !decide (c ∈ e.Order) then (0, 7) else (cen e c, 0)) := by
  unfold q226
  rw [q288]
  cases hd : decide (engP e)
  · rfl
  · simp only [Option.bind_some, Bool.not_true, cond_false]
    rw [q435 e c (of_decide_eq_true hd)]
    simp only [Option.bind_some]
    cases decide (c ∈ e.Order) <;> rfl
def fireP (e : SEngine) (f : SFire) : Prop := f.Cylinder ∈ e.Order ∧ (-1280 ≤ f.Spark ∧ f.Spark ≤ 3840) ∧ (500 ≤ f.Dwell ∧ f.Dwell ≤ 10000) ∧ (0 ≤ f.End ∧ f.End ≤ 23040) ∧ (f.Inject = 0 ∨ (200 ≤ f.Inject ∧ f.Inject ≤ 20000)) ∧
  ((f.Gap = 0 ∧ f.Extra = 0) ∨ (f.Inject ≠ 0 ∧ (200 ≤ f.Gap ∧ f.Gap ≤ 20000) ∧ (200 ≤ f.Extra ∧ f.Extra ≤ 20000)))
instance (e : SEngine) (f : SFire) : Decidable (fireP e f) := by unfold fireP; infer_instance
theorem fire_eq (e : SEngine) (f : SFire) : q136 e f = some (decide (engP e) && decide (fireP e f)) := by
  unfold q136 q60
  rw [q288]
  cases hd : decide (engP e)
  · rfl
  · obtain ⟨h1, h2, _⟩ := of_decide_eq_true hd
    simp only [Option.bind_some, Bool.not_true, cond_false, q380 e.Order f.Cylinder (by omega), bsome, Bool.true_and]
    rw [Option.some.injEq, Bool.eq_iff_iff, decide_eq_true_eq]
    unfold fireP
    simp only [Bool.cond_true_left, Bool.cond_false_left, Bool.cond_true_right, Bool.cond_false_right, Bool.or_eq_true, Bool.and_eq_true, Bool.not_eq_true', Bool.or_eq_false_iff, Bool.and_eq_false_iff, Bool.not_eq_false', decide_eq_true_eq, decide_eq_false_iff_not, bne_iff_ne, bne_eq_false_iff_eq, beq_iff_eq, beq_eq_false_iff_ne, ne_eq, ge_iff_le]
    by_cases hm : f.Cylinder ∈ e.Order
    · simp only [hm, true_and, not_true_eq_false, false_or]
      omega
    · simp only [hm, false_and, not_false_eq_true, true_or, iff_false, not_and]
theorem q530 (e : SEngine) (f : SFire) (h : engP e) : q163 e f = some (decide (fireP e f)) := by
  obtain ⟨h1, h2, _⟩ := h
  unfold q163 q107
  rw [q545 e _ (by omega)]
  have hm := idx_mem f.Cylinder e.Order
  have hm2 : (idx f.Cylinder e.Order 0 ≥ 0) ↔ f.Cylinder ∈ e.Order := decide_eq_decide.1 hm
  simp only [Option.bind_some, bsome]
  rw [Option.some.injEq, Bool.eq_iff_iff, decide_eq_true_eq]
  unfold fireP
  rw [← hm2]
  simp only [Bool.cond_true_left, Bool.cond_false_left, Bool.cond_true_right, Bool.cond_false_right, Bool.or_eq_true, Bool.and_eq_true, Bool.not_eq_true', Bool.or_eq_false_iff, Bool.and_eq_false_iff, Bool.not_eq_false', decide_eq_true_eq, decide_eq_false_iff_not, bne_iff_ne, bne_eq_false_iff_eq, beq_iff_eq, beq_eq_false_iff_ne, ne_eq, ge_iff_le]
  omega
def pul (f : SFire) : Int := bif f.Inject == 0 then 0 else bif f.Extra == 0 then 1 else 2
theorem q501 (f : SFire) : q177 f = some (pul f) := by
  unfold q177 pul
  cases f.Inject == 0 <;> cases f.Extra == 0 <;> rfl
end Go.Pv.Ev
set_option linter.unusedSimpArgs false
namespace Go.Pv.Ev
open Go Go.Pv
theorem q406 {R : Type} (f : Int → Unit → Option (Fl Unit R)) (p : Nat → Bool) (r : R) : ∀ (k i : Nat), (∀ j, i ≤ j → j < i + k → f (j : Int) () = some (bif p j then .ret r else .next ())) → stepsN f k (i : Int) () = some (bif (List.range' i k).any p then .inr r else .inl ())
  | 0, i, _ => rfl
  | k + 1, i, h => by
    rw [List.range'_succ, List.any_cons]
    simp only [stepsN, h i (Nat.le_refl _) (by omega), Option.bind_some]
    cases hp : p i
    · exact q406 f p r k (i + 1) fun j a b => h j (by omega) (by omega)
    · rfl
theorem q473 {R : Type} (n : Nat) (hn : n ≤ 9223372036854775807) (f : Int → Unit → Option (Fl Unit R)) (p : Nat → Bool) (r : R) (h : ∀ j, j < n → f (j : Int) () = some (bif p j then .ret r else .next ())) : rangeN (n : Int) f () = some (bif (List.range' 0 n).any p then .inr r else .inl ()) := by
  rw [rangeN_steps _ hn]
  exact q406 f p r n 0 fun j _ b => h j (by omega)
theorem all_not {α : Type} (l : List α) (p : α → Bool) : (l.all fun x => !p x) = !l.any p := by
  induction l with
  | nil => rfl
  | cons x l ih => rw [List.all_cons, List.any_cons, ih]; cases p x <;> rfl
theorem q476 (a : Int) : (0 ≤ a ∧ a.tmod 46080 = a % 46080) ∨ (a < 0 ∧ a.tmod 46080 = -((-a) % 46080)) := by
  rcases Int.lt_or_le a 0 with h | h
  · refine .inr ⟨h, ?_⟩
    have : a.tmod 46080 = (- -a).tmod 46080 := by rw [Int.neg_neg]
    rw [this, Int.neg_tmod, Int.tmod_eq_emod_of_nonneg (by omega)]
  · exact .inl ⟨h, Int.tmod_eq_emod_of_nonneg h⟩
theorem mod_eq (a : Int) (h1 : -1000000000000000 ≤ a) (h2 : a ≤ 1000000000000000) : q268 a 46080 = some (a % 46080) := by
  unfold q268 remM
  simp only [show ((46080 : Int) == 0) = false from rfl, show ((46080 : Int) == -1) = false from rfl, Bool.or_self, cond_false, show ¬ (46080 : Int) = 0 from by decide, if_false, Option.bind_some, show decide ((46080 : Int) < 0) = false from rfl]
  rcases q476 a with ⟨h, e⟩ | ⟨h, e⟩
  · rw [e]
    have : decide (a % 46080 < 0) = false := by simp; omega
    rw [this]
    simp
  · rw [e]
    rcases Int.lt_or_eq_of_le (show 0 ≤ (-a) % 46080 by omega) with hq | hq
    · have h3 : decide (-(-a % 46080) < 0) = true := by simp; omega
      have h4 : (-(-a % 46080) != 0) = true := by simp; omega
      rw [h3, h4]
      simp only [show (true == false) = false from rfl, Bool.not_false, Bool.and_self, cond_true]
      rw [w64_of (by omega) (by omega)]
      congr 1; omega
    · rw [← hq]
      simp only [show ((-0 : Int) != 0) = false from rfl, Bool.false_and, cond_false]
      congr 1; omega
def trn (d ticks : Int) : Int := d * 23040 / ticks
theorem q297 {d ticks : Int} (h0 : 0 ≤ d) (h1 : d ≤ 20000) (ht : 4000 ≤ ticks) : 0 ≤ trn d ticks ∧ trn d ticks ≤ 460800000 := by
  have h2 : d * 23040 / ticks ≤ d * 23040 := Int.ediv_le_self _ (by omega)
  exact ⟨Int.ediv_nonneg (by omega) (by omega), by unfold trn; omega⟩
theorem turn_eq {d ticks : Int} (h0 : 0 ≤ d) (h1 : d ≤ 20000) (ht : 4000 ≤ ticks) : q48 d ticks = some (trn d ticks) := by
  unfold q48
  rw [w64_of (by omega) (by omega), quo_eq (by omega) (by omega) (by omega)]
  rfl
def mn (x : Int) : Int := minI x 23040
theorem q520 {x : Int} (h : 0 ≤ x) : 0 ≤ mn x ∧ mn x ≤ 23040 := by
  unfold mn minI; split <;> omega
def offs (f : SFire) (t : Int) : List (Int × Int × Int) :=
  [(-f.Spark, 2, 0), (-f.Spark - mn (trn f.Dwell t), 1, 0)] ++ (bif decide (pul f > 0) then [(-f.End, 4, 1), (-f.End - trn f.Inject t, 3, 1)] else []) ++ (bif decide (pul f > 1) then [(-f.End + trn f.Gap t, 3, 2), (-f.End + trn f.Gap t + trn f.Extra t, 4, 2)] else [])
def evF (e : SEngine) (f : SFire) (o : Int × Int × Int) : SEvent := ⟨(cen e f.Cylinder + o.1) % 46080, o.2.1, f.Cylinder, o.2.2⟩
def evs (e : SEngine) (t : Int) (f : SFire) : List SEvent := (offs f t).map (evF e f)
def long (t : Int) (f : SFire) : Bool := decide (trn f.Inject t > 23040) || decide (trn f.Gap t > 23040) || decide (trn f.Extra t > 23040)
theorem q205 (f : SFire) : pul f = 0 ∨ pul f = 1 ∨ pul f = 2 := by
  unfold pul; cases f.Inject == 0 <;> cases f.Extra == 0 <;> simp
theorem q529 (f : SFire) (t : Int) : (offs f t).length ≤ 6 := by
  rcases q205 f with h | h | h <;> simp [offs, h]
theorem evs_len (e : SEngine) (t : Int) (f : SFire) : (evs e t f).length ≤ 6 := by
  unfold evs; rw [List.length_map]; exact q529 f t
theorem plan3 (a k p : Int) (c : List SEvent) (x : SFire) (h1 : -1000000000000000 ≤ a) (h2 : a ≤ 1000000000000000) (hc : c.length ≤ 100000) : q73 a k p c x = some (c ++ [⟨a % 46080, k, x.Cylinder, p⟩]) := by
  unfold q73
  rw [mod_eq a h1 h2]
  simp only [Option.bind_some]
  rw [appendM_ok _ _ (by simp only [List.length_singleton]; omega)]
  rfl
theorem q463 {e : SEngine} {f : SFire} (h : fireP e f) : (0 ≤ f.Dwell ∧ f.Dwell ≤ 20000) ∧ (0 ≤ f.Inject ∧ f.Inject ≤ 20000) ∧ (0 ≤ f.Gap ∧ f.Gap ≤ 20000) ∧ (0 ≤ f.Extra ∧ f.Extra ≤ 20000) ∧ (-1280 ≤ f.Spark ∧ f.Spark ≤ 3840) ∧ (0 ≤ f.End ∧ f.End ≤ 23040) := by
  unfold fireP at h
  obtain ⟨_, h⟩ := h
  omega
theorem step_eq (e : SEngine) (t i : Int) (x : SFire) (c : List SEvent) (he : engP e) (hx : fireP e x) (ht : 4000 ≤ t) (hc : c.length ≤ 1000) :
    q211 e t i x c = some (bif long t x then .ret ([], 2) else .next (c ++ evs e t x)) := by
  obtain ⟨⟨d0, d1⟩, ⟨i0, i1⟩, ⟨g0, g1⟩, ⟨x0, x1⟩, ⟨s0, s1⟩, n0, n1⟩ := q463 hx
  obtain ⟨c0, c1⟩ := q432 e x.Cylinder
  have td := q520 (q297 d0 d1 ht).1
  have ti := q297 i0 i1 ht
  have tg := q297 g0 g1 ht
  have tx := q297 x0 x1 ht
  unfold q211
  rw [q435 e _ he, turn_eq d0 d1 ht, turn_eq i0 i1 ht, turn_eq g0 g1 ht, turn_eq x0 x1 ht, q501]
  simp only [Option.bind_some]
  rw [show minI (trn x.Dwell t) 23040 = mn (trn x.Dwell t) from rfl]
  have hl : decide (maxI (maxI (trn x.Inject t) (trn x.Gap t)) (trn x.Extra t) > 23040) = long t x := by
    rw [Bool.eq_iff_iff]
    unfold long
    simp only [Bool.or_eq_true, decide_eq_true_eq]
    unfold maxI
    split <;> split <;> omega
  rw [hl]
  unfold evs offs
  simp only [List.map_append, List.map_cons, List.map_nil, evF]
  generalize hC : cen e x.Cylinder = C at *
  generalize hD : mn (trn x.Dwell t) = D at *
  generalize hI : trn x.Inject t = A at *
  generalize hG : trn x.Gap t = G at *
  generalize hX : trn x.Extra t = B at *
  rw [w64_of (n := C - x.Spark) (by omega) (by omega), w64_of (n := C - x.Spark - D) (by omega) (by omega), w64_of (n := C - x.End) (by omega) (by omega), w64_of (n := C - x.End - A) (by omega) (by omega), w64_of (n := C - x.End + G) (by omega) (by omega), w64_of (n := C - x.End + G + B) (by omega) (by omega)]
  rw [plan3 _ _ _ c _ (by omega) (by omega) (by omega)]
  simp only [Option.bind_some]
  rw [plan3 _ _ _ _ _ (by omega) (by omega) (by simp only [List.length_append, List.length_singleton]; omega)]
  simp only [Option.bind_some]
  cases long t x
  · simp only [cond_false]
    rcases q205 x with hp | hp | hp
    · rw [hp]
      simp only [show decide ((0 : Int) > 0) = false from rfl, show decide ((0 : Int) > 1) = false from rfl, cond_false, Option.bind_some, List.map_nil, List.append_nil, List.append_assoc, List.cons_append, List.nil_append]
      rw [show C - x.Spark - D = C + (-x.Spark - D) by omega, show C - x.Spark = C + -x.Spark by omega]
    · rw [hp]
      simp only [show decide ((1 : Int) > 0) = true from rfl, show decide ((1 : Int) > 1) = false from rfl, cond_false, cond_true, Option.bind_some]
      rw [plan3 _ _ _ _ _ (by omega) (by omega) (by simp only [List.length_append, List.length_singleton]; omega)]
      simp only [Option.bind_some]
      rw [plan3 _ _ _ _ _ (by omega) (by omega) (by simp only [List.length_append, List.length_singleton]; omega)]
      simp only [evF, hC, Option.bind_some, List.map_cons, List.map_nil, List.append_nil, List.append_assoc, List.cons_append, List.nil_append]
      rw [show C - x.Spark - D = C + (-x.Spark - D) by omega, show C - x.Spark = C + -x.Spark by omega, show C - x.End - A = C + (-x.End - A) by omega, show C - x.End = C + -x.End by omega]
    · rw [hp]
      simp only [show decide ((2 : Int) > 0) = true from rfl, show decide ((2 : Int) > 1) = true from rfl, cond_false, cond_true, Option.bind_some]
      rw [plan3 _ _ _ _ _ (by omega) (by omega) (by simp only [List.length_append, List.length_singleton]; omega)]
      simp only [Option.bind_some]
      rw [plan3 _ _ _ _ _ (by omega) (by omega) (by simp only [List.length_append, List.length_singleton]; omega)]
      simp only [Option.bind_some]
      rw [plan3 _ _ _ _ _ (by omega) (by omega) (by simp only [List.length_append, List.length_singleton]; omega)]
      simp only [Option.bind_some]
      rw [plan3 _ _ _ _ _ (by omega) (by omega) (by simp only [List.length_append, List.length_singleton]; omega)]
      simp only [evF, hC, Option.bind_some, List.map_cons, List.map_nil, List.append_nil, List.append_assoc, List.cons_append, List.nil_append]
      rw [show C - x.Spark - D = C + (-x.Spark - D) by omega, show C - x.Spark = C + -x.Spark by omega, show C - x.End - A = C + (-x.End - A) by omega, show C - x.End + G + B = C + (-x.End + G + B) by omega, show C - x.End + G = C + (-x.End + G) by omega, show C - x.End = C + -x.End by omega]
  · rfl
theorem q458 (e : SEngine) (t : Int) (he : engP e) (ht : 4000 ≤ t) : ∀ (l : List SFire) (i : Int) (c : List SEvent), (∀ x ∈ l, fireP e x) → c.length + 6 * l.length ≤ 1000 →
    stepsL (q211 e t) l i c = some (bif l.any (long t) then .inr ([], 2) else .inl (c ++ l.flatMap (evs e t)))
  | [], i, c, _, _ => by simp [stepsL]
  | x :: l, i, c, hx, hc => by
    rw [List.length_cons] at hc
    simp only [stepsL, step_eq e t i x c he (hx x (List.mem_cons_self ..)) ht (by omega), Option.bind_some, List.any_cons]
    cases long t x
    · simp only [cond_false, Bool.false_or, List.flatMap_cons]
      have := evs_len e t x
      rw [← List.append_assoc]
      exact q458 e t he ht l (i + 1) _ (fun y hy => hx y (List.mem_cons_of_mem _ hy)) (by rw [List.length_append]; omega)
    · rfl
def ltE (a b : SEvent) : Bool := decide (a.Angle < b.Angle ∨ (a.Angle = b.Angle ∧ (a.Cylinder < b.Cylinder ∨ (a.Cylinder = b.Cylinder ∧ (a.Kind < b.Kind ∨ (a.Kind = b.Kind ∧ a.Pulse < b.Pulse))))))
def cmp3 (x y : Int) : Int := if x < y then -1 else if x > y then 1 else 0
theorem q402 (x y : Int) : q29 x y = some (cmp3 x y) := by
  unfold q29 q184 cmp3
  have h : ∀ z : Int, (z != z) = false := fun z => by simp
  rw [h, h]
  simp only [Option.bind_some, cond_false]
  by_cases h1 : x < y
  · rw [decide_eq_true h1, if_pos h1]; rfl
  · rw [decide_eq_false h1, if_neg h1]
    by_cases h2 : x > y
    · rw [decide_eq_true h2, if_pos h2]; rfl
    · rw [decide_eq_false h2, if_neg h2]; rfl
def first4 (a b c d : Int) : Int := bif a != 0 then a else bif b != 0 then b else bif c != 0 then c else d
theorem or_eq (a b c d : Int) : q105 [a, b, c, d] = some (first4 a b c d) := by
  unfold q105 first4
  rw [rangeM_steps _ (by simp)]
  simp only [stepsL, q139]
  cases ha : a != 0
  · cases hb : b != 0
    · cases hc : c != 0
      · cases hd : d != 0
        · have : d = 0 := by simpa using hd
          rw [this]; rfl
        · rfl
      · rfl
    · rfl
  · rfl
theorem q441 (a b : SEvent) : q113 a b = some (first4 (cmp3 a.Angle b.Angle) (cmp3 a.Cylinder b.Cylinder) (cmp3 a.Kind b.Kind) (cmp3 a.Pulse b.Pulse)) := by
  unfold q113
  simp only [q402, Option.bind_some, or_eq]
theorem q210 (x y : Int) : (x < y ∧ cmp3 x y = -1) ∨ (x = y ∧ cmp3 x y = 0) ∨ (y < x ∧ cmp3 x y = 1) := by
  unfold cmp3
  split
  · exact .inl ⟨by assumption, rfl⟩
  · split
    · exact .inr (.inr ⟨by omega, rfl⟩)
    · exact .inr (.inl ⟨by omega, rfl⟩)
theorem q133 (a b : SEvent) : ltM q113 a b = ltE a b := by
  unfold ltM ltE
  rw [q441, Option.getD_some, decide_eq_decide]
  unfold first4
  rcases q210 a.Angle b.Angle with ⟨h1, e1⟩ | ⟨h1, e1⟩ | ⟨h1, e1⟩ <;> rw [e1]
  · simp; omega
  · rcases q210 a.Cylinder b.Cylinder with ⟨h2, e2⟩ | ⟨h2, e2⟩ | ⟨h2, e2⟩ <;> rw [e2]
    · simp; omega
    · rcases q210 a.Kind b.Kind with ⟨h3, e3⟩ | ⟨h3, e3⟩ | ⟨h3, e3⟩ <;> rw [e3]
      · simp; omega
      · rcases q210 a.Pulse b.Pulse with ⟨h4, e4⟩ | ⟨h4, e4⟩ | ⟨h4, e4⟩ <;> rw [e4] <;> simp <;> omega
      · simp; omega
    · simp; omega
  · simp; omega
theorem ltE_irr (x : SEvent) : ltE x x = false := by unfold ltE; simp
theorem q481 {x y z : SEvent} (h1 : ltE x y = true) (h2 : ltE y z = true) : ltE x z = true := by
  unfold ltE at *; simp only [decide_eq_true_eq] at *; omega
theorem q420 {x y z : SEvent} (h1 : ltE x y = false) (h2 : ltE y z = false) : ltE x z = false := by
  unfold ltE at *; simp only [decide_eq_false_iff_not] at *; omega
theorem q442 {x y : SEvent} (h1 : ltE x y = false) (h2 : ltE y x = false) : x = y := by
  unfold ltE at *; simp only [decide_eq_false_iff_not] at *
  refine SEvent.ext ?_ ?_ ?_ ?_ <;> omega
theorem q524 {x y : SEvent} (h : ltE x y = true) : ltE y x = false := by
  unfold ltE at *; simp only [decide_eq_false_iff_not, decide_eq_true_eq] at *; omega
abbrev Asc (l : List SEvent) : Prop := l.Pairwise fun a b => ltE b a = false
theorem uniqE : ∀ {l m : List SEvent}, Asc l → Asc m → l.Perm m → l = m
  | [], m, _, _, hp => hp.nil_eq
  | x :: l, [], _, _, hp => by have := hp.length_eq; simp at this
  | x :: l, y :: m, hl, hm, hp => by
    have hxy : x = y := by
      have h1 : x ∈ y :: m := hp.mem_iff.1 (List.mem_cons_self ..)
      have h2 : y ∈ x :: l := hp.mem_iff.2 (List.mem_cons_self ..)
      rcases List.mem_cons.1 h1 with h1 | h1
      · exact h1
      · rcases List.mem_cons.1 h2 with h2 | h2
        · exact h2.symm
        · exact q442 ((List.pairwise_cons.1 hm).1 x h1) ((List.pairwise_cons.1 hl).1 y h2)
    subst hxy
    rw [uniqE (List.pairwise_cons.1 hl).2 (List.pairwise_cons.1 hm).2 (List.Perm.cons_inv hp)]
def srt (l : List SEvent) : List SEvent := l.mergeSort fun x y => !ltE y x
theorem q443 (l : List SEvent) : (srt l).Perm l := List.mergeSort_perm _ _
theorem srt_asc (l : List SEvent) : Asc (srt l) := by
  have := List.pairwise_mergeSort (le := fun x y => !ltE y x) (fun a b c h1 h2 => by
    simp only [Bool.not_eq_true'] at *
    exact q420 h2 h1) (fun a b => by
    cases h : ltE b a
    · rfl
    · simp [q524 h]) l
  exact this.imp fun h => by simpa using h
theorem sort_eq (l : List SEvent) (h : l.length ≤ 1000000) : q103 l q113 = some (srt l) := by
  unfold q103 srt
  have e : (fun x y => !ltM q113 y x) = fun x y => !ltE y x := by funext x y; rw [q133]
  rw [sortM_ok ⟨by omega, fun x _ y _ => ⟨_, q441 x y⟩, fun x _ => by rw [q133, ltE_irr], fun x _ y _ z _ => by rw [q133, q133, q133]; exact q481,
    fun x _ y _ z _ => by rw [q133, q133, q133]; exact q420, fun x _ y _ => by rw [q133, q133]; exact q442⟩, e]
def dupAt (l : List SFire) (i : Nat) : Bool := match l[i]? with | some x => (l.take i).any fun g => g.Cylinder == x.Cylinder | none => false
def dupB (l : List SFire) : Bool := (List.range' 0 l.length).any (dupAt l)
def tickB (t : Int) : Bool := decide (t ≥ 4000) && decide (t ≤ 1000000)
def badF (e : SEngine) (l : List SFire) : Bool := l.any fun f => !decide (fireP e f)
def planV (e : SEngine) (l : List SFire) (t : Int) : List SEvent × Int :=
  bif !decide (engP e) then ([], 1) else bif badF e l then ([], 1) else bif !tickB t then ([], 2) else bif dupB l then ([], 8) else bif l.any (long t) then ([], 2) else (srt (l.flatMap (evs e t)), 0)
theorem q549 (e : SEngine) (t : Int) (l : List SFire) : (l.flatMap (evs e t)).length ≤ 6 * l.length := by
  induction l with
  | nil => simp
  | cons x l ih =>
    have := evs_len e t x
    rw [List.flatMap_cons, List.length_append, List.length_cons]; omega
theorem q467 {e : SEngine} {l : List SFire} (h : badF e l = false) : ∀ x ∈ l, fireP e x := by
  intro x hx
  unfold badF at h
  rw [List.any_eq_false] at h
  simpa using h x hx
theorem plan_eq (e : SEngine) (l : List SFire) (t : Int) (hl : l.length ≤ 100) : q261 e l t = some (planV e l t) := by
  unfold q261 planV
  rw [q288]
  cases hd : decide (engP e)
  · rfl
  · have he := of_decide_eq_true hd
    simp only [Option.bind_some, Bool.not_true, cond_false]
    have k := index_any l (by omega) (fun x0 => q140 x0 e) (fun f => !decide (fireP e f)) (fun y _ => by unfold q140; rw [fire_eq, hd]; rfl)
    have k' : q27 l (fun x0 => q140 x0 e) = some (badF e l) := k
    rw [k']
    simp only [Option.bind_some]
    cases hb : badF e l
    · have hf := q467 hb
      simp only [cond_false]
      unfold q60 tickB
      simp only [Option.bind_some]
      cases ht : (decide (t ≥ 4000) && decide (t ≤ 1000000))
      · rfl
      · simp only [Bool.not_true, cond_false]
        have ht1 : 4000 ≤ t := by simp at ht; omega
        rw [q473 l.length (by omega) (q258 l) (dupAt l) ([], 8) (fun j hj => by
          unfold q258 dupAt
          have hs : sliceM l 0 (j : Int) = some (l.take j) := by
            unfold sliceM
            rw [if_pos ⟨by omega, by omega, by omega⟩]
            simp
          rw [getI_get _ _ hj, List.getElem?_eq_getElem hj, hs]
          simp only [Option.bind_some]
          have k2 := index_any (l.take j) (by rw [List.length_take]; omega) (fun x0 => q182 x0 l[j]) (fun g => g.Cylinder == l[j].Cylinder) (fun y _ => rfl)
          have k3 : q27 (l.take j) (fun x0 => q182 x0 l[j]) = some ((l.take j).any fun g => g.Cylinder == l[j].Cylinder) := k2
          rw [k3]
          simp only [Option.bind_some]
          cases (l.take j).any fun g => g.Cylinder == l[j].Cylinder <;> rfl)]
        rw [show (List.range' 0 l.length).any (dupAt l) = dupB l from rfl]
        cases dupB l
        · simp only [cond_false, Option.bind_some]
          rw [rangeM_steps _ (by omega), q458 e t he ht1 l 0 [] hf (by simp; omega)]
          cases l.any (long t)
          · simp only [cond_false, Option.bind_some, List.nil_append]
            have := q549 e t l
            rw [sort_eq _ (by omega)]
            rfl
          · rfl
        · rfl
    · rfl
end Go.Pv.Ev
set_option linter.unusedSimpArgs false
namespace Go.Pv.Ev
open Go Go.Pv
end Go.Pv.Ev
set_option linter.unusedSimpArgs false
namespace Go.Pv
open Go
namespace Ev
def evP (x : SEvent) : Prop := (0 ≤ x.Angle ∧ x.Angle < 46080) ∧ (1 ≤ x.Kind ∧ x.Kind ≤ 4) ∧ (1 ≤ x.Cylinder ∧ x.Cylinder ≤ 8) ∧ (0 ≤ x.Pulse ∧ x.Pulse ≤ 2)
instance (x : SEvent) : Decidable (evP x) := by unfold evP; infer_instance
def badE (l : List SEvent) : Bool := decide ((l.length : Int) > 1000) || l.any fun x => !decide (evP x)
theorem list_eq (l : List SEvent) : q123 l = some (!badE l) := by
  unfold q123 badE
  cases hl : decide ((l.length : Int) > 1000)
  · have hl := of_decide_eq_false hl
    simp only [cond_false, Bool.false_or]
    have k := loopM_allL (mb := q128 l) (fun i => (i : Int)) (p := fun x => decide (evP x)) (b0 := .inl (l.length : Int)) (b1 := .inr false) l (by
      unfold q128
      rw [show decide ((l.length : Int) < (l.length : Int)) = false by simp]; rfl) (fun j y hy => by
      have hj := (List.getElem?_eq_some_iff.1 hy).1
      unfold q128 q110
      rw [show decide ((j : Int) < (l.length : Int)) = true from decide_eq_true (by omega), getI_nat, hy, w64_of (n := (j : Int) + 1) (by omega) (by omega)]
      simp only [cond_true, Option.bind_some]
      have : (((((((!((decide (y.Angle ≥ 0)) && (decide (y.Angle < 46080)))) || (decide (y.Kind < 1))) || (decide (y.Kind > 4))) || (decide (y.Cylinder < 1))) || (decide (y.Cylinder > 8))) || (decide (y.Pulse < 0))) || (decide (y.Pulse > 2))) = !decide (evP y) := by
        rw [Bool.eq_iff_iff, Bool.not_eq_true', decide_eq_false_iff_not]
        unfold evP
        simp only [Bool.or_eq_true, Bool.and_eq_true, Bool.not_eq_true', Bool.and_eq_false_iff, decide_eq_true_eq, decide_eq_false_iff_not, ge_iff_le]
        omega
      rw [this]
      cases decide (evP y) <;> rfl)
    rw [show ((0 : Nat) : Int) = 0 from rfl] at k
    rw [k]
    have hb : (l.any fun x => !decide (evP x)) = !l.all fun x => decide (evP x) := by rw [List.any_eq_not_all_not]; simp
    rw [hb]
    cases l.all fun x => decide (evP x) <;> rfl
  · rfl
def angB (a : Int) : Bool := decide (a ≥ 0) && decide (a < 46080)
theorem q232 {a : Int} : angB a = true ↔ 0 ≤ a ∧ a < 46080 := by unfold angB; simp
def dst (a b : Int) : Int := (b - a) % 46080
theorem q546 (a b : Int) : q65 a b = some (bif angB a && angB b then dst a b else -1) := by
  unfold q65 q168
  simp only [Option.bind_some]
  have e : ∀ a : Int, (decide (a ≥ 0) && decide (a < 46080)) = angB a := fun _ => rfl
  rw [e, e]
  cases ha : angB a
  · rfl
  · cases hb : angB b
    · rfl
    · have ha := q232.1 ha
      have hb := q232.1 hb
      simp only [Bool.not_true, cond_false, Option.bind_some, Bool.and_self, cond_true]
      rw [w64_of (n := b - a) (by omega) (by omega), mod_eq _ (by omega) (by omega)]
      rfl
theorem dist_in {a b : Int} (ha : angB a = true) (hb : angB b = true) : q65 a b = some (dst a b) := by rw [q546, ha, hb]; rfl
end Ev
end Go.Pv
set_option linter.unusedSimpArgs false
namespace Go.Pv
open Go
section
variable {α β : Type}
end
section
variable {α : Type} {D : α → Prop} {g : α → α → Option Int}
structure SW (D : α → Prop) (g : α → α → Option Int) : Prop where
  ans : ∀ x y, D x → D y → ∃ c, g x y = some c
  asym : ∀ x y, D x → D y → ltM g x y = true → ltM g y x = false
  ntrans : ∀ x y z, D x → D y → D z → ltM g x y = false → ltM g y z = false → ltM g x z = false
theorem SW.cmp (h : SW D g) {x y : α} (hx : D x) (hy : D y) : ∃ c, g x y = some c ∧ decide (c < 0) = ltM g x y := by
  obtain ⟨c, hc⟩ := h.ans x y hx hy
  exact ⟨c, hc, by unfold ltM; rw [hc]; rfl⟩
abbrev AllD (D : α → Prop) (l : List α) : Prop := ∀ x ∈ l, D x
def eqv (g : α → α → Option Int) (x y : α) : Bool := !ltM g x y && !ltM g y x
structure Sta (D : α → Prop) (g : α → α → Option Int) (l r : List α) : Prop where
  perm : r.Perm l
  same : ∀ x, D x → r.filter (eqv g x) = l.filter (eqv g x)
theorem Sta.swap (hs : SW D g) {A B : List α} (hA : AllD D A) (hB : AllD D B) (h : ∀ a ∈ A, ∀ b ∈ B, ltM g b a = true) : Sta D g (A ++ B) (B ++ A) := by
  refine ⟨List.perm_append_comm, fun x hx => ?_⟩
  rw [List.filter_append, List.filter_append]
  by_cases he : ∃ a ∈ A, eqv g x a = true
  · obtain ⟨a, ha, hxa⟩ := he
    have : B.filter (eqv g x) = [] := by
      rw [List.filter_eq_nil_iff]
      intro b hb hxb
      unfold eqv at hxa hxb
      simp only [Bool.and_eq_true, Bool.not_eq_true'] at hxa hxb
      have := hs.ntrans b x a (hB b hb) hx (hA a ha) hxb.2 hxa.1
      rw [h a ha b hb] at this
      cases this
    rw [this, List.nil_append, List.append_nil]
  · have : A.filter (eqv g x) = [] := by
      rw [List.filter_eq_nil_iff]
      intro a ha hxa
      exact he ⟨a, ha, hxa⟩
    rw [this, List.nil_append, List.append_nil]
end
section
variable {α : Type} {D : α → Prop} {g : α → α → Option Int}
end
section
variable {α : Type} {D : α → Prop} {g : α → α → Option Int}
end
section
variable {α : Type} {D : α → Prop} {g : α → α → Option Int}
end
end Go.Pv
set_option linter.unusedSimpArgs false
namespace Go.Pv
open Go
namespace Tm
abbrev MAXT : Int := 1099511627776
abbrev tz : STimer := ⟨0, []⟩
def chB (now : Int) (c : SChannel) : Bool := !(bif c.Armed then (decide (c.At ≤ now) || decide (c.At > 1099511627776)) else ((c.At != 0) || c.Next))
def headB (t : STimer) : Bool := (((decide (t.Now < 0)) || (decide (t.Now > 1099511627776))) || (decide ((t.Channels.length : Int) < 1))) || (decide ((t.Channels.length : Int) > 16))
def timB (t : STimer) : Bool := !headB t && t.Channels.all (chB t.Now)
theorem q353 {t : STimer} (h : headB t = false) : 1 ≤ t.Channels.length ∧ t.Channels.length ≤ 16 ∧ 0 ≤ t.Now ∧ t.Now ≤ 1099511627776 := by
  unfold headB at h
  simp only [Bool.or_eq_false_iff, decide_eq_false_iff_not] at h
  omega
theorem q456 {t : STimer} (h : 1 ≤ t.Channels.length ∧ t.Channels.length ≤ 16 ∧ 0 ≤ t.Now ∧ t.Now ≤ 1099511627776) : headB t = false := by
  unfold headB
  simp only [Bool.or_eq_false_iff, decide_eq_false_iff_not]
  omega
theorem q196 {t : STimer} (h : timB t = true) : 1 ≤ t.Channels.length ∧ t.Channels.length ≤ 16 ∧ 0 ≤ t.Now ∧ t.Now ≤ 1099511627776 := by
  unfold timB at h
  simp only [Bool.and_eq_true, Bool.not_eq_true'] at h
  exact q353 h.1
theorem tvalid (t : STimer) : q185 t = some (timB t) := by
  unfold q185 timB
  cases hh : headB t
  · unfold headB at hh
    rw [hh]
    have hl := q353 (t := t) hh
    have k := index_any t.Channels (by omega) (fun c => q138 c t) (fun c => !chB t.Now c) (fun y _ => by unfold q138 chB; cases y.Armed <;> simp)
    have e2 : (t.Channels.any fun z => !chB t.Now z) = !t.Channels.all (chB t.Now) := by rw [List.any_eq_not_all_not]; simp
    rw [e2] at k
    simp only [cond_false, Bool.not_false, Bool.true_and]
    have : q24 t.Channels (fun x0 => q138 x0 t) = some (!t.Channels.all (chB t.Now)) := k
    rw [this]
    simp
  · unfold headB at hh
    rw [hh]; rfl
theorem rvalid (t : STimer) : q142 t = some (timB t) := by
  unfold q142 timB
  cases hh : headB t
  · unfold headB at hh
    rw [hh]
    have hl := q353 (t := t) hh
    have k := loopM_allL (mb := q119 t) (fun i => (i : Int)) (p := chB t.Now) (b0 := .inl (t.Channels.length : Int)) (b1 := .inr false) t.Channels (by simp [q119]) (fun j y hy => by
      have hj := (List.getElem?_eq_some_iff.1 hy).1
      unfold q119
      have e : decide ((j : Int) < (t.Channels.length : Int)) = true := by simp; omega
      rw [e, getI_nat, hy, w64_of (n := (j : Int) + 1) (by omega) (by omega)]
      unfold chB
      simp only [Option.bind_some, cond_true]
      cases y.Armed <;> cases (decide (y.At ≤ t.Now) || decide (y.At > 1099511627776)) <;> cases ((y.At != 0) || y.Next) <;> rfl)
    rw [show ((0 : Nat) : Int) = 0 from rfl] at k
    simp only [cond_false, Bool.not_false, Bool.true_and]
    rw [k]
    cases t.Channels.all (chB t.Now) <;> rfl
  · unfold headB at hh
    rw [hh]; rfl
def badC (t : STimer) (ch : Int) : Bool := (decide (ch < 0)) || (decide (ch ≥ (t.Channels.length : Int)))
theorem q254 (t : STimer) (ch : Int) : q156 t ch = some (bif !timB t then (tz, 1) else bif badC t ch then (tz, 2) else (t, 0)) := by
  unfold q156
  rw [tvalid]
  cases h : timB t
  · rfl
  · have hl := q196 h
    simp only [Option.bind_some, Bool.not_true, cond_false]
    cases hb : badC t ch
    · unfold badC at hb
      rw [hb]
      simp only [cond_false]
      rw [makeM_nat _ (by omega)]
      simp only [Option.bind_some]
      rw [copyL_same _ _ (by simp)]
    · unfold badC at hb
      rw [hb]; rfl
theorem arm_eq (t : STimer) (ch at_ : Int) (lvl : Bool) : ∀ j : Nat, ch = (j : Int) → (hj : j < t.Channels.length) → timB t = true →
    q267 t ch at_ lvl = some (bif decide (at_ ≤ t.Now) then (tz, 16) else bif decide (at_ > MAXT) then (tz, 2) else (⟨t.Now, t.Channels.set j ⟨true, at_, lvl, t.Channels[j].Level⟩⟩, 0)) := by
  rintro j rfl hj h
  unfold q267
  have hb : badC t (j : Int) = false := by unfold badC; simp; omega
  rw [q254, h, hb]
  simp only [Bool.not_true, cond_false, Option.bind_some, bne_self_eq_false]
  cases decide (at_ ≤ t.Now)
  · simp only [cond_false]
    unfold MAXT
    cases decide (at_ > 1099511627776)
    · simp only [cond_false, getI_get _ _ hj, Option.bind_some, setM_nat _ _ _ hj]
    · rfl
  · rfl
theorem q436 (t : STimer) (ch : Int) : ∀ j : Nat, ch = (j : Int) → (hj : j < t.Channels.length) → timB t = true →
    q243 t ch = some (⟨t.Now, t.Channels.set j ⟨false, 0, false, t.Channels[j].Level⟩⟩, 0) := by
  rintro j rfl hj h
  unfold q243
  have hb : badC t (j : Int) = false := by unfold badC; simp; omega
  rw [q254, h, hb]
  simp only [Bool.not_true, cond_false, Option.bind_some, bne_self_eq_false, getI_get _ _ hj, setM_nat _ _ _ hj]
theorem q506 (t : STimer) (ch : Int) (lvl : Bool) : ∀ j : Nat, ch = (j : Int) → (hj : j < t.Channels.length) → timB t = true →
    q262 t ch lvl = some (⟨t.Now, t.Channels.set j ⟨false, 0, false, lvl⟩⟩, bif t.Channels[j].Level == lvl then [] else [⟨t.Now, (j : Int), lvl⟩], 0) := by
  rintro j rfl hj h
  unfold q262
  have hb : badC t (j : Int) = false := by unfold badC; simp; omega
  rw [q254, h, hb]
  simp only [Bool.not_true, cond_false, Option.bind_some, bne_self_eq_false, getI_get _ _ hj, setM_nat _ _ _ hj]
  cases (t.Channels[j].Level == lvl) <;> rfl
theorem copy_eq (t : STimer) (h : t.Channels.length ≤ 1000) : q127 t = some t := by
  unfold q127
  rw [appendM_ok _ _ (by simp; omega)]
  rfl
def due (v_to : Int) (c : SChannel) : Bool := !((!c.Armed) || (decide (c.At > v_to)))
def swC (v_to : Int) (i : Nat) (c : SChannel) : List SSwitch := bif due v_to c && !(c.Next == c.Level) then [⟨c.At, (i : Int), c.Next⟩] else []
def advC (v_to : Int) (c : SChannel) : SChannel := bif due v_to c then ⟨false, 0, false, c.Next⟩ else c
def swsF (v_to : Int) : Nat → List SChannel → List SSwitch
  | _, [] => []
  | i, c :: r => swC v_to i c ++ swsF v_to (i + 1) r
theorem swC_len (v_to : Int) (i : Nat) (c : SChannel) : (swC v_to i c).length ≤ 1 := by
  unfold swC; cases (due v_to c && !(c.Next == c.Level)) <;> simp
theorem q324 (v_to : Int) : ∀ (l : List SChannel) (i : Nat), (swsF v_to i l).length ≤ l.length
  | [], _ => Nat.le_refl _
  | c :: r, i => by
    have := q324 v_to r (i + 1)
    have := swC_len v_to i c
    simp only [swsF, List.length_append, List.length_cons]; omega
theorem q295 (v_to : Int) : ∀ (l : List SChannel) (i : Nat) (c : SChannel), swsF v_to i (l ++ [c]) = swsF v_to i l ++ swC v_to (i + l.length) c
  | [], i, c => by simp [swsF]
  | x :: l, i, c => by
    simp only [List.cons_append, swsF, List.append_assoc, List.append_cancel_left_eq, List.length_cons]
    rw [q295 v_to l (i + 1) c, show i + 1 + l.length = i + (l.length + 1) by omega]
theorem q388 {v_to : Int} {s : SSwitch} : ∀ {l : List SChannel} {i : Nat}, s ∈ swsF v_to i l → ∃ j c, l[j]? = some c ∧ due v_to c = true ∧ (c.Next == c.Level) = false ∧ s = ⟨c.At, ((i + j : Nat) : Int), c.Next⟩
  | [], i, h => by simp [swsF] at h
  | c :: r, i, h => by
    simp only [swsF, List.mem_append] at h
    rcases h with h | h
    · unfold swC at h
      cases hd : (due v_to c && !(c.Next == c.Level)) <;> rw [hd] at h
      · simp at h
      · simp only [cond_true, List.mem_singleton] at h
        simp only [Bool.and_eq_true, Bool.not_eq_true'] at hd
        exact ⟨0, c, rfl, hd.1, hd.2, by simpa using h⟩
    · obtain ⟨j, c', h1, h2, h3, h4⟩ := q388 h
      exact ⟨j + 1, c', by simpa using h1, h2, h3, by rw [h4, show i + 1 + j = i + (j + 1) by omega]⟩
theorem q460 {v_to : Int} : ∀ {l : List SChannel} {i j : Nat} {c : SChannel}, l[j]? = some c → due v_to c = true → (c.Next == c.Level) = false → (⟨c.At, ((i + j : Nat) : Int), c.Next⟩ : SSwitch) ∈ swsF v_to i l
  | [], i, j, c, h, _, _ => by simp at h
  | x :: r, i, 0, c, h, hd, hn => by
    simp only [List.getElem?_cons_zero, Option.some.injEq] at h; subst h
    simp [swsF, swC, hd, hn]
  | x :: r, i, j + 1, c, h, hd, hn => by
    simp only [List.getElem?_cons_succ] at h
    have := q460 (i := i + 1) h hd hn
    simp only [swsF, List.mem_append]
    right
    rw [show i + (j + 1) = i + 1 + j by omega]; exact this
theorem q390 {v_to : Int} : ∀ (l : List SChannel) (i : Nat), (swsF v_to i l).Pairwise (fun a b => a.Channel < b.Channel)
  | [], _ => .nil
  | c :: r, i => by
    simp only [swsF]
    rw [List.pairwise_append]
    refine ⟨?_, q390 r (i + 1), fun a ha b hb => ?_⟩
    · unfold swC; cases (due v_to c && !(c.Next == c.Level)) <;> simp
    · have h1 : a.Channel = (i : Int) := by
        unfold swC at ha
        cases hd : (due v_to c && !(c.Next == c.Level)) <;> rw [hd] at ha
        · simp at ha
        · simp at ha; rw [ha]
      obtain ⟨j, c', _, _, _, h4⟩ := q388 hb
      rw [h1, h4]; simp only; omega
def ltS (a b : SSwitch) : Bool := decide (a.At < b.At ∨ (a.At = b.At ∧ a.Channel < b.Channel))
theorem cmp_eq (x y : Int) : q29 x y = some (if x < y then -1 else if x > y then 1 else 0) := by
  unfold q29 q184
  simp only [Option.bind_some, bne_self_eq_false, cond_false]
  by_cases h1 : x < y
  · simp [h1]
  · by_cases h2 : x > y <;> simp [h1, h2]
theorem or_eq (v v2 : Int) : q105 [v, v2] = some (if v ≠ 0 then v else v2) := by
  unfold q105
  rw [rangeM_steps _ (by simp)]
  by_cases h1 : v = 0
  · by_cases h2 : v2 = 0
    · simp [stepsL, q139, h1, h2]
    · have h3 : (v2 != 0) = true := by simpa using h2
      simp [stepsL, q139, h1, h3]
  · have h3 : (v != 0) = true := by simpa using h1
    simp [stepsL, q139, h1, h3]
theorem cmpS (a b : SSwitch) : ∃ c, q66 a b = some c ∧ (decide (c < 0)) = ltS a b := by
  unfold q66
  rw [cmp_eq, cmp_eq]
  simp only [Option.bind_some, or_eq]
  refine ⟨_, rfl, ?_⟩
  unfold ltS
  rw [Bool.eq_iff_iff]
  simp only [decide_eq_true_eq]
  by_cases h1 : a.At < b.At
  · simp [h1]
  · by_cases h2 : a.At > b.At
    · simp [h1, h2]; omega
    · have : a.At = b.At := by omega
      by_cases h3 : a.Channel < b.Channel
      · simp [this, h3]
      · by_cases h4 : a.Channel > b.Channel <;> simp [this, h3, h4] <;> omega
theorem ltM_eq (a b : SSwitch) : ltM q66 a b = ltS a b := by
  obtain ⟨c, h1, h2⟩ := cmpS a b
  unfold ltM; rw [h1]; exact h2
theorem sortS (l : List SSwitch) (hl : l.length ≤ 100) (hd : ∀ x ∈ l, ∀ y ∈ l, x.Channel = y.Channel → x = y) : q96 l q66 = some (l.mergeSort fun x y => !ltS y x) := by
  unfold q96
  have e : (fun x y => !ltM q66 y x) = fun x y => !ltS y x := by funext x y; rw [ltM_eq]
  rw [sortM_ok ⟨by omega, fun x _ y _ => by obtain ⟨c, h, _⟩ := cmpS x y; exact ⟨c, h⟩, fun x _ => by rw [ltM_eq]; unfold ltS; simp, fun x _ y _ z _ => by rw [ltM_eq, ltM_eq, ltM_eq]; unfold ltS; simp only [decide_eq_true_eq]; omega,
    fun x _ y _ z _ => by rw [ltM_eq, ltM_eq, ltM_eq]; unfold ltS; simp only [decide_eq_false_iff_not]; omega,
    fun x hx y hy => by rw [ltM_eq, ltM_eq]; unfold ltS; simp only [decide_eq_false_iff_not]; intro a b; exact hd x hx y hy (by omega)⟩, e]
def advS (v_to : Int) (l : List SChannel) : List SSwitch := (swsF v_to 0 l).mergeSort fun x y => !ltS y x
theorem q516 {R : SSwitch → SSwitch → Prop} {l : List SSwitch} (h : l.Pairwise R) (hR : ∀ a b, R a b → a.Channel ≠ b.Channel) : ∀ x ∈ l, ∀ y ∈ l, x.Channel = y.Channel → x = y := by
  induction h with
  | nil => intro x hx; simp at hx
  | cons h1 _ ih =>
    intro x hx y hy e
    rcases List.mem_cons.1 hx with hx1 | hx1
    · rcases List.mem_cons.1 hy with hy1 | hy1
      · rw [hx1, hy1]
      · rw [hx1] at e; exact absurd e (hR _ _ (h1 y hy1))
    · rcases List.mem_cons.1 hy with hy1 | hy1
      · rw [hy1] at e; exact absurd e.symm (hR _ _ (h1 x hx1))
      · exact ih x hx1 y hy1 e
theorem adv_eq (t : STimer) (v_to : Int) : q178 t v_to = some (bif !timB t then (tz, [], 1) else bif decide (v_to < t.Now) then (tz, [], 16) else bif decide (v_to > MAXT) then (tz, [], 2) else (⟨v_to, t.Channels.map (advC v_to)⟩, advS v_to t.Channels, 0)) := by
  unfold q178
  rw [q254]
  cases h : timB t
  · rfl
  · have hl := q196 h
    have hb : badC t 0 = false := by unfold badC; simp only [Bool.or_eq_false_iff, decide_eq_false_iff_not]; omega
    rw [hb]
    simp only [Bool.not_true, cond_false, Option.bind_some, bne_self_eq_false]
    unfold MAXT
    cases decide (v_to < t.Now)
    · simp only [cond_false]
      cases decide (v_to > 1099511627776)
      · simp only [cond_false]
        obtain ⟨s, h1, h2⟩ := rangeN_inv (R := Empty) t.Channels.length (by omega) (q235 t v_to) (fun i s => s.1 = swsF v_to 0 (t.Channels.take i) ∧ s.2 = (t.Channels.take i).map (advC v_to) ++ t.Channels.drop i) ([], t.Channels) ⟨by simp [swsF], by simp⟩ (fun j hj s ⟨i1, i2⟩ => by
          have htk : t.Channels.take (j + 1) = t.Channels.take j ++ [t.Channels[j]] := List.take_succ_eq_append_getElem hj
          have hdr : t.Channels.drop j = t.Channels[j] :: t.Channels.drop (j + 1) := List.drop_eq_getElem_cons hj
          have hlt : (t.Channels.take j).length = j := by simp; omega
          unfold q235
          rw [getI_get _ _ hj]
          simp only [Option.bind_some]
          cases hc : ((!t.Channels[j].Armed) || (decide (t.Channels[j].At > v_to)))
          · have hdue : due v_to t.Channels[j] = true := by unfold due; rw [hc]; rfl
            have hlen2 : j < s.2.length := by rw [i2]; simp; omega
            have hlen1 : s.1.length ≤ 16 := by
              rw [i1]; have := q324 v_to (t.Channels.take j) 0; simp at this; omega
            have hset : s.2.set j ⟨false, 0, false, t.Channels[j].Next⟩ = (t.Channels.take (j + 1)).map (advC v_to) ++ t.Channels.drop (j + 1) := by
              rw [i2, List.set_append_right _ _ (by simp; omega), hdr, htk]
              simp only [List.length_map, hlt, Nat.sub_self, List.set_cons_zero, List.map_append, List.map_cons, List.map_nil, List.append_assoc, List.singleton_append]
              unfold advC; rw [hdue]; rfl
            simp only [cond_false]
            cases hn : (t.Channels[j].Next == t.Channels[j].Level)
            · simp only [Bool.not_false, cond_true]
              rw [appendM_ok _ _ (by simp; omega)]
              simp only [Option.bind_some, getI_get _ _ hlen2, setM_nat _ _ _ hlen2]
              refine ⟨_, rfl, ?_, hset⟩
              simp only
              rw [htk, q295, ← i1, hlt, Nat.zero_add]
              unfold swC; rw [hdue, hn]; rfl
            · simp only [Bool.not_true, cond_false]
              simp only [Option.bind_some, getI_get _ _ hlen2, setM_nat _ _ _ hlen2]
              refine ⟨_, rfl, ?_, hset⟩
              simp only
              rw [htk, q295, ← i1, hlt, Nat.zero_add]
              unfold swC; rw [hdue, hn]; simp
          · have hdue : due v_to t.Channels[j] = false := by unfold due; rw [hc]; rfl
            simp only [cond_true]
            refine ⟨_, rfl, ?_, ?_⟩
            · simp only
              rw [htk, q295, ← i1]
              unfold swC; rw [hdue]; simp
            · simp only
              rw [i2, hdr, htk]
              simp only [List.map_append, List.map_cons, List.map_nil, List.append_assoc, List.singleton_append]
              unfold advC; rw [hdue]; rfl)
        rw [h1]
        obtain ⟨i1, i2⟩ := h2
        rw [List.take_length] at i1
        rw [List.take_length, List.drop_length, List.append_nil] at i2
        simp only [Option.bind_some]
        rw [i1, i2, sortS _ (by have := q324 v_to t.Channels 0; omega) (q516 (q390 t.Channels 0) (fun a b h => by omega))]
        rfl
      · rfl
    · rfl
theorem q270 (v_to : Int) (l : List SChannel) : (advS v_to l).Perm (swsF v_to 0 l) := List.mergeSort_perm _ _
theorem q382 (v_to : Int) (l : List SChannel) : (advS v_to l).Pairwise (fun a b => ltS a b = true) := by
  have h1 : (advS v_to l).Pairwise (fun a b => (!ltS b a) = true) := List.pairwise_mergeSort (le := fun x y => !ltS y x) (fun a b c => by simp only [Bool.not_eq_true']; unfold ltS; simp only [decide_eq_false_iff_not]; omega) (fun a b => by simp only [Bool.or_eq_true, Bool.not_eq_true']; unfold ltS; simp only [decide_eq_false_iff_not]; omega) _
  have h2 : (advS v_to l).Pairwise (fun a b => a.Channel ≠ b.Channel) := by
    have h3 : (swsF v_to 0 l).Pairwise (fun a b => a.Channel ≠ b.Channel) := (q390 l 0).imp fun h => by omega
    exact (List.Perm.pairwise_iff (fun h => Ne.symm h) (q270 v_to l)).2 h3
  refine (h1.and h2).imp fun {a b} h => ?_
  obtain ⟨h3, h4⟩ := h
  simp only [Bool.not_eq_true'] at h3
  unfold ltS at h3 ⊢
  simp only [decide_eq_false_iff_not, decide_eq_true_eq] at h3 ⊢
  omega
theorem q527 {v_to : Int} {l : List SChannel} {s : SSwitch} : s ∈ advS v_to l ↔ ∃ (j : Nat) (c : SChannel), l[j]? = some c ∧ due v_to c = true ∧ (c.Next == c.Level) = false ∧ s = ⟨c.At, (j : Int), c.Next⟩ := by
  rw [(q270 v_to l).mem_iff]
  constructor
  · intro h; obtain ⟨j, c, h1, h2, h3, h4⟩ := q388 h; exact ⟨j, c, h1, h2, h3, by simpa using h4⟩
  · rintro ⟨j, c, h1, h2, h3, rfl⟩; have := q460 (i := 0) h1 h2 h3; simpa using this
theorem q447 (v_to : Int) (l : List SChannel) : (advS v_to l).length ≤ l.length := by
  rw [(q270 v_to l).length_eq]; exact q324 v_to l 0
theorem q526 {t : STimer} {v_to : Int} (h : timB t = true) (h1 : ¬ v_to < t.Now) (h2 : ¬ v_to > 1099511627776) : timB ⟨v_to, t.Channels.map (advC v_to)⟩ = true := by
  have hl := q196 h
  unfold timB at h ⊢
  simp only [Bool.and_eq_true, Bool.not_eq_true', List.all_eq_true] at h ⊢
  refine ⟨q456 (by simp; omega), fun c hc => ?_⟩
  simp only [List.mem_map] at hc
  obtain ⟨c0, hc0, rfl⟩ := hc
  have h3 := h.2 c0 hc0
  unfold advC due
  unfold chB at h3 ⊢
  cases ha : c0.Armed
  · rw [ha] at h3; simp only [Bool.not_false, Bool.true_or, Bool.not_true, cond_false, ha] at h3 ⊢; exact h3
  · rw [ha] at h3
    simp only [Bool.not_true, Bool.false_or] at h3 ⊢
    by_cases h4 : c0.At > v_to
    · simp only [h4, decide_true, Bool.not_true, cond_false, ha, cond_true] at h3 ⊢
      simp at h3 ⊢; omega
    · simp [h4]
theorem new_eq (n : Nat) (h1 : 1 ≤ n) (h2 : n ≤ 16) : q293 (n : Int) = some (⟨0, List.replicate n ⟨false, 0, false, false⟩⟩, 0) := by
  unfold q293
  have : ((decide ((n : Int) < 1)) || (decide ((n : Int) > 16))) = false := by simp; omega
  rw [this, makeM_nat _ (by omega)]
  rfl
theorem q365 {now : Int} {c : SChannel} (h : chB now c = true) (ha : c.Armed = true) : now < c.At ∧ c.At ≤ 1099511627776 := by
  unfold chB at h; rw [ha] at h
  simp at h; omega
def nxS (s : Int × Bool) (c : SChannel) : Int × Bool := bif c.Armed && ((!s.2) || decide (c.At < s.1)) then (c.At, true) else s
def nxV (l : List SChannel) : Int × Bool := l.foldl nxS (0, false)
theorem q488 (l : List SChannel) (h : l.length ≤ 1000) (s : Int × Bool) : rangeM l q274 s = some (.inl (l.foldl nxS s)) := by
  rw [rangeM_steps _ (by omega)]
  refine stepsL_fold l 0 s fun i s y _ => ?_
  unfold q274 nxS
  cases y.Armed <;> cases ((!s.2) || decide (y.At < s.1)) <;> rfl
theorem next_eq (t : STimer) : q283 t = some (bif timB t then nxV t.Channels else (0, false)) := by
  unfold q283
  rw [tvalid]
  cases h : timB t
  · rfl
  · have hl := q196 h
    simp only [Option.bind_some, Bool.not_true, cond_false, cond_true]
    rw [q488 _ (by omega)]
    rfl
theorem nx_spec : ∀ (l : List SChannel) (s : Int × Bool), (∀ c ∈ l, c.Armed = true → (l.foldl nxS s).2 = true ∧ (l.foldl nxS s).1 ≤ c.At) ∧ (s.2 = true → (l.foldl nxS s).2 = true ∧ (l.foldl nxS s).1 ≤ s.1) ∧
    ((l.foldl nxS s).2 = true → (l.foldl nxS s) = s ∨ ∃ c ∈ l, c.Armed = true ∧ c.At = (l.foldl nxS s).1)
  | [], s => ⟨fun c h => by simp at h, fun h => ⟨h, Int.le_refl _⟩, fun _ => .inl rfl⟩
  | x :: l, s => by
    obtain ⟨h1, h2, h3⟩ := nx_spec l (nxS s x)
    simp only [List.foldl_cons]
    have hx : x.Armed = true → (nxS s x).2 = true ∧ (nxS s x).1 ≤ x.At := fun ha => by
      unfold nxS; rw [ha]
      cases hc : (!s.2) || decide (x.At < s.1)
      · simp only [Bool.or_eq_false_iff, Bool.not_eq_false', decide_eq_false_iff_not] at hc
        simp only [Bool.true_and, cond_false]
        exact ⟨hc.1, by omega⟩
      · exact ⟨rfl, Int.le_refl _⟩
    have hs : s.2 = true → (nxS s x).2 = true ∧ (nxS s x).1 ≤ s.1 := fun hb => by
      unfold nxS
      cases hc : x.Armed && ((!s.2) || decide (x.At < s.1))
      · exact ⟨hb, Int.le_refl _⟩
      · simp only [hb, Bool.not_true, Bool.false_or, Bool.and_eq_true, decide_eq_true_eq] at hc
        exact ⟨rfl, by simp only [cond_true]; omega⟩
    refine ⟨fun c hc ha => ?_, fun hb => ?_, fun hb => ?_⟩
    · rcases List.mem_cons.1 hc with rfl | hc
      · have := hx ha
        have h4 := h2 this.1
        exact ⟨h4.1, Int.le_trans h4.2 this.2⟩
      · exact h1 c hc ha
    · have := hs hb
      have h4 := h2 this.1
      exact ⟨h4.1, Int.le_trans h4.2 this.2⟩
    · rcases h3 hb with h4 | ⟨c, h5, h6, h7⟩
      · rw [h4]
        unfold nxS
        cases hc : x.Armed && ((!s.2) || decide (x.At < s.1))
        · exact .inl rfl
        · simp only [Bool.and_eq_true] at hc
          exact .inr ⟨x, List.mem_cons_self .., hc.1, rfl⟩
      · exact .inr ⟨c, List.mem_cons_of_mem _ h5, h6, h7⟩
theorem q265 {l : List SChannel} {c : SChannel} (hc : c ∈ l) (ha : c.Armed = true) : (nxV l).2 = true ∧ (nxV l).1 ≤ c.At := (nx_spec l (0, false)).1 c hc ha
theorem q286 {l : List SChannel} (h : (nxV l).2 = true) : ∃ c ∈ l, c.Armed = true ∧ c.At = (nxV l).1 := by
  rcases (nx_spec l (0, false)).2.2 h with h1 | h1
  · exfalso; unfold nxV at h; rw [h1] at h; cases h
  · exact h1
theorem q445 {l : List SChannel} {v_to : Int} (h : ∀ c ∈ l, due v_to c = false) : advS v_to l = [] ∧ l.map (advC v_to) = l := by
  have h1 : ∀ (l : List SChannel) (i : Nat), (∀ c ∈ l, due v_to c = false) → swsF v_to i l = [] := by
    intro l
    induction l with
    | nil => intro i _; rfl
    | cons x l ih =>
      intro i h
      have : swC v_to i x = [] := by unfold swC; rw [h x (List.mem_cons_self ..)]; rfl
      simp only [swsF, this, List.nil_append]
      exact ih (i + 1) fun c hc => h c (List.mem_cons_of_mem _ hc)
  refine ⟨by unfold advS; rw [h1 l 0 h]; simp, ?_⟩
  rw [List.map_congr_left (g := id) (fun c hc => by unfold advC; rw [h c hc]; rfl)]
  simp
theorem q337 (t : STimer) (h : t.Channels.length ≤ 1000) : q121 t = some (nxV t.Channels) := by
  unfold q121
  have k := loopM_fold (mb := q129 t) (fun i s => (s.1, s.2, (i : Int))) (g := nxS) (out := fun s => .inl (s.1, s.2, (t.Channels.length : Int))) t.Channels (0, false) (fun s => by simp [q129]) (fun j ⟨a, b⟩ y hy => by
    have hj := (List.getElem?_eq_some_iff.1 hy).1
    unfold q129 nxS
    have e : decide ((j : Int) < (t.Channels.length : Int)) = true := by simp; omega
    simp only [e, getI_nat, hy, Option.bind_some, cond_true, w64_of (n := (j : Int) + 1) (by omega) (by omega)]
    cases y.Armed <;> cases b <;> cases decide (y.At < a) <;> rfl)
  simp only at k
  rw [show ((0 : Nat) : Int) = 0 from rfl] at k
  rw [k]
  rfl
def atB (m : Int) (c : SChannel) : Bool := !((!c.Armed) || (c.At != m))
def atC (m : Int) (c : SChannel) : SChannel := bif atB m c then ⟨false, 0, false, c.Next⟩ else c
def atW (m : Int) (i : Nat) (c : SChannel) : List SSwitch := bif atB m c && !(c.Level == c.Next) then [⟨m, (i : Int), c.Next⟩] else []
def atS (m : Int) : Nat → List SChannel → List SSwitch
  | _, [] => []
  | i, c :: r => atW m i c ++ atS m (i + 1) r
theorem atW_len (m : Int) (i : Nat) (c : SChannel) : (atW m i c).length ≤ 1 := by
  unfold atW; cases (atB m c && !(c.Level == c.Next)) <;> simp
theorem atS_len (m : Int) : ∀ (l : List SChannel) (i : Nat), (atS m i l).length ≤ l.length
  | [], _ => Nat.le_refl _
  | c :: r, i => by
    have := atS_len m r (i + 1)
    have := atW_len m i c
    simp only [atS, List.length_append, List.length_cons]; omega
theorem q335 (m : Int) : ∀ (l : List SChannel) (i : Nat) (c : SChannel), atS m i (l ++ [c]) = atS m i l ++ atW m (i + l.length) c
  | [], i, c => by simp [atS]
  | x :: l, i, c => by
    simp only [List.cons_append, atS, List.append_assoc, List.append_cancel_left_eq, List.length_cons]
    rw [q335 m l (i + 1) c, show i + 1 + l.length = i + (l.length + 1) by omega]
theorem mem_atS {m : Int} {s : SSwitch} : ∀ {l : List SChannel} {i : Nat}, s ∈ atS m i l → s.At = m ∧ (i : Int) ≤ s.Channel
  | [], i, h => by simp [atS] at h
  | c :: r, i, h => by
    simp only [atS, List.mem_append] at h
    rcases h with h | h
    · unfold atW at h
      cases hd : (atB m c && !(c.Level == c.Next)) <;> rw [hd] at h
      · simp at h
      · simp only [cond_true, List.mem_singleton] at h
        subst h; exact ⟨rfl, Int.le_refl _⟩
    · have := mem_atS h
      exact ⟨this.1, by omega⟩
theorem atS_asc {m : Int} : ∀ (l : List SChannel) (i : Nat), (atS m i l).Pairwise (fun a b => ltS a b = true)
  | [], _ => .nil
  | c :: r, i => by
    simp only [atS]
    rw [List.pairwise_append]
    refine ⟨?_, atS_asc r (i + 1), fun a ha b hb => ?_⟩
    · unfold atW; cases (atB m c && !(c.Level == c.Next)) <;> simp
    · have h1 : a.At = m ∧ a.Channel = (i : Int) := by
        unfold atW at ha
        cases hd : (atB m c && !(c.Level == c.Next)) <;> rw [hd] at ha
        · simp at ha
        · simp at ha; rw [ha]; exact ⟨rfl, rfl⟩
      have h2 := mem_atS hb
      unfold ltS; simp only [decide_eq_true_eq]; right
      exact ⟨by rw [h1.1, h2.1], by omega⟩
theorem atB_iff {m : Int} {c : SChannel} : atB m c = true ↔ c.Armed = true ∧ c.At = m := by
  unfold atB; cases c.Armed <;> simp
theorem q400 {v_to m : Int} (hm : m ≤ v_to) : ∀ (l : List SChannel) (i : Nat), (swsF v_to i l).Perm (atS m i l ++ swsF v_to i (l.map (atC m)))
  | [], _ => .refl _
  | c :: r, i => by
    have ih := q400 hm r (i + 1)
    have hw : swC v_to i c = atW m i c ++ swC v_to i (atC m c) := by
      cases hb : atB m c
      · have h1 : atW m i c = [] := by unfold atW; rw [hb]; rfl
        have h2 : atC m c = c := by unfold atC; rw [hb]; rfl
        rw [h1, h2]; rfl
      · have h2 : swC v_to i (atC m c) = [] := by unfold atC swC due; rw [hb]; rfl
        obtain ⟨ha, he⟩ := atB_iff.1 hb
        have hd : due v_to c = true := by unfold due; rw [ha]; simp; omega
        rw [h2, List.append_nil]
        unfold swC atW
        rw [hb, hd, he]
        have : (c.Next == c.Level) = (c.Level == c.Next) := by cases c.Next <;> cases c.Level <;> rfl
        rw [this]
    simp only [swsF, atS, List.map_cons]
    rw [hw]
    simp only [List.append_assoc]
    refine List.Perm.append_left _ ?_
    refine (List.Perm.append_left _ ih).trans ?_
    rw [← List.append_assoc, ← List.append_assoc]
    exact List.Perm.append_right _ List.perm_append_comm
theorem q384 : ∀ {l m : List SSwitch}, l.Pairwise (fun a b => ltS a b = true) → m.Pairwise (fun a b => ltS a b = true) → l.Perm m → l = m
  | [], m, _, _, hp => hp.nil_eq
  | x :: l, [], _, _, hp => by have := hp.length_eq; simp at this
  | x :: l, y :: m, hl, hm, hp => by
    have asym : ∀ a b : SSwitch, ltS a b = true → ltS b a = true → False := fun a b h1 h2 => by unfold ltS at h1 h2; simp only [decide_eq_true_eq] at h1 h2; omega
    have hxy : x = y := by
      have h1 : x ∈ y :: m := hp.mem_iff.1 (List.mem_cons_self ..)
      have h2 : y ∈ x :: l := hp.mem_iff.2 (List.mem_cons_self ..)
      rcases List.mem_cons.1 h1 with h1 | h1
      · exact h1
      · rcases List.mem_cons.1 h2 with h2 | h2
        · exact h2.symm
        · exact (asym x y ((List.pairwise_cons.1 hl).1 y h2) ((List.pairwise_cons.1 hm).1 x h1)).elim
    subst hxy
    rw [q384 (List.pairwise_cons.1 hl).2 (List.pairwise_cons.1 hm).2 (List.Perm.cons_inv hp)]
theorem q479 {v_to m : Int} {l : List SChannel} (hm : m ≤ v_to) (hmin : ∀ c ∈ l, c.Armed = true → m ≤ c.At) : advS v_to l = atS m 0 l ++ advS v_to (l.map (atC m)) := by
  refine q384 (q382 _ _) ?_ ((q270 v_to l).trans ((q400 hm l 0).trans (List.Perm.append_left _ (q270 v_to _).symm)))
  rw [List.pairwise_append]
  refine ⟨atS_asc l 0, q382 _ _, fun a ha b hb => ?_⟩
  have h1 := (mem_atS ha).1
  obtain ⟨j, c, h2, h3, h4, rfl⟩ := q527.1 hb
  rw [List.getElem?_map] at h2
  cases hd : l[j]? with
  | none => rw [hd] at h2; cases h2
  | some d =>
    rw [hd] at h2
    simp only [Option.map_some, Option.some.injEq] at h2
    subst h2
    cases hb : atB m d
    · have e : atC m d = d := by unfold atC; rw [hb]; rfl
      rw [e] at h3 ⊢
      have ha : d.Armed = true := by unfold due at h3; cases h : d.Armed <;> simp [h] at h3 ⊢
      have := hmin d (List.mem_of_getElem? hd) ha
      have hne : d.At ≠ m := fun h => by rw [atB_iff.2 ⟨ha, h⟩] at hb; cases hb
      unfold ltS; simp only [decide_eq_true_eq]; left; rw [h1]; show m < d.At; omega
    · exfalso
      unfold atC due at h3; rw [hb] at h3; simp at h3
theorem adv_atC {v_to m : Int} (hm : m ≤ v_to) (c : SChannel) : advC v_to (atC m c) = advC v_to c := by
  cases hb : atB m c
  · have e : atC m c = c := by unfold atC; rw [hb]; rfl
    rw [e]
  · obtain ⟨ha, he⟩ := atB_iff.1 hb
    have hd : due v_to c = true := by unfold due; rw [ha]; simp; omega
    have e : atC m c = ⟨false, 0, false, c.Next⟩ := by unfold atC; rw [hb]; rfl
    have e2 : advC v_to c = ⟨false, 0, false, c.Next⟩ := by unfold advC; rw [hd]; rfl
    rw [e, e2]; rfl
theorem q523 (out : List SSwitch) (m : Int) (b : Bool) (l : List SChannel) (h : l.length ≤ 16) (ho : out.length ≤ 1000) :
    loopM (q61 (out, m, b, l)) (0, l, out) = some (.inl ((l.length : Int), l.map (atC m), out ++ atS m 0 l)) := by
  obtain ⟨r, h1, h2⟩ := loopM_inv (mb := q61 (out, m, b, l)) (fun i s => s = ((i : Int), (l.take i).map (atC m) ++ l.drop i, out ++ atS m 0 (l.take i))) (fun r => r = .inl ((l.length : Int), l.map (atC m), out ++ atS m 0 l)) l.length 0 (0, l, out) (by simp [atS]) (fun j _ hj s hs => by
    subst hs
    have hj : j < l.length := by omega
    have htk : l.take (j + 1) = l.take j ++ [l[j]] := List.take_succ_eq_append_getElem hj
    have hdr : l.drop j = l[j] :: l.drop (j + 1) := List.drop_eq_getElem_cons hj
    have hlt : (l.take j).length = j := by simp; omega
    have hlen : ((l.take j).map (atC m) ++ l.drop j).length = l.length := by simp; omega
    have hget : ((l.take j).map (atC m) ++ l.drop j)[j]? = some l[j] := by
      rw [List.getElem?_append_right (by simp; omega), List.length_map, hlt, Nat.sub_self, hdr]; rfl
    unfold q61
    have d1 : decide ((j : Int) < ((((l.take j).map (atC m) ++ l.drop j)).length : Int)) = true := by rw [hlen]; simp; omega
    simp only [d1, cond_true, getI_nat, hget, Option.bind_some, w64_of (n := (j : Int) + 1) (by omega) (by omega)]
    have hset : ((l.take j).map (atC m) ++ l.drop j).set j ⟨false, 0, false, l[j].Next⟩ = (l.take j).map (atC m) ++ ⟨false, 0, false, l[j].Next⟩ :: l.drop (j + 1) := by
      rw [List.set_append_right _ _ (by simp; omega), List.length_map, hlt, Nat.sub_self, hdr, List.set_cons_zero]
    cases hc : ((!l[j].Armed) || (l[j].At != m))
    · have hb : atB m l[j] = true := by unfold atB; rw [hc]; rfl
      have e1 : atC m l[j] = ⟨false, 0, false, l[j].Next⟩ := by unfold atC; rw [hb]; rfl
      simp only [cond_false]
      have hol : (out ++ atS m 0 (l.take j)).length ≤ 1100 := by
        have := atS_len m (l.take j) 0
        simp only [List.length_append, List.length_take] at this ⊢; omega
      cases hn : (l[j].Level == l[j].Next)
      · simp only [Bool.not_false, cond_true]
        rw [appendM_ok _ _ (by simp only [List.length_singleton]; omega)]
        simp only [Option.bind_some]
        rw [setM_nat _ _ _ (by rw [hlen]; exact hj), hset]
        refine ⟨_, rfl, ?_⟩
        rw [htk, q335, hlt, Nat.zero_add]
        unfold atW; rw [hb, hn]
        simp only [List.map_append, List.map_cons, List.map_nil, e1, List.append_assoc, List.singleton_append]
        first | rfl | (simp only [Bool.not_true, Bool.and_false, cond_false, List.append_nil]; rfl)
      · simp only [Bool.not_true, cond_false, Option.bind_some]
        rw [setM_nat _ _ _ (by rw [hlen]; exact hj), hset]
        refine ⟨_, rfl, ?_⟩
        rw [htk, q335, hlt, Nat.zero_add]
        unfold atW; rw [hb, hn]
        simp only [List.map_append, List.map_cons, List.map_nil, e1, List.append_assoc, List.singleton_append]
        first | rfl | (simp only [Bool.not_true, Bool.and_false, cond_false, List.append_nil]; rfl)
    · have hb : atB m l[j] = false := by unfold atB; rw [hc]; rfl
      have e1 : atC m l[j] = l[j] := by unfold atC; rw [hb]; rfl
      refine ⟨_, rfl, ?_⟩
      rw [htk, q335, hlt, Nat.zero_add, hdr]
      unfold atW; rw [hb]
      simp only [List.map_append, List.map_cons, List.map_nil, e1, List.append_assoc, List.singleton_append, Bool.false_and, cond_false, List.append_nil]
      rfl) (fun s hs => by
    subst hs
    unfold q61
    have d1 : decide (((0 + l.length : Nat) : Int) < ((((l.take (0 + l.length)).map (atC m) ++ l.drop (0 + l.length))).length : Int)) = false := by simp
    simp only [d1, cond_false]
    exact ⟨_, rfl, by simp⟩)
  rw [h1, h2]
theorem q428 (v_to : Int) (v : STimer) (l : List SChannel) (out : List SSwitch) (hd : ∀ c ∈ l, due v_to c = false) :
    ∃ a b, loopM (q43 v_to v) (out, (nxV l).1, (nxV l).2, l) = some (.inl (out ++ advS v_to l, a, b, l.map (advC v_to))) := by
  have hb : ((nxV l).2 && decide ((nxV l).1 ≤ v_to)) = false := by
    cases h2 : (nxV l).2
    · rfl
    · obtain ⟨c, hc, ha, hat⟩ := q286 h2
      have := hd c hc
      unfold due at this; rw [ha] at this; simp at this
      simp; omega
  obtain ⟨k1, k2⟩ := q445 hd
  refine ⟨(nxV l).1, (nxV l).2, ?_⟩
  rw [k1, k2, List.append_nil]
  refine loopM_out ?_
  unfold q43
  simp only [hb, cond_false]
theorem q453 {α : Type} {p q : α → Bool} : ∀ {l : List α} {y : α}, (∀ x, p x = true → q x = true) → y ∈ l → q y = true → p y = false → l.countP p < l.countP q
  | [], y, _, hy, _, _ => by simp at hy
  | x :: l, y, h, hy, hq, hp => by
    have hle : l.countP p ≤ l.countP q := List.countP_mono_left fun x _ hx => h x hx
    rcases List.mem_cons.1 hy with rfl | hy
    · rw [List.countP_cons_of_pos hq, List.countP_cons_of_neg (by simp [hp])]; omega
    · have := q453 h hy hq hp
      cases hpx : p x
      · rw [List.countP_cons_of_neg (by simp [hpx])]
        have : l.countP q ≤ (x :: l).countP q := by rw [List.countP_cons]; omega
        omega
      · rw [List.countP_cons_of_pos hpx, List.countP_cons_of_pos (h x hpx)]; omega
theorem q532 (v_to : Int) (v : STimer) : ∀ (n : Nat) (l : List SChannel) (out : List SSwitch), l.countP (due v_to) ≤ n → l.length ≤ 16 → out.length + n * 16 ≤ 1000 →
    ∃ a b, loopM (q43 v_to v) (out, (nxV l).1, (nxV l).2, l) = some (.inl (out ++ advS v_to l, a, b, l.map (advC v_to))) := by
  intro n
  induction n with
  | zero =>
    intro l out hn hl ho
    exact q428 v_to v l out (fun c hc => by
      have := List.countP_eq_zero.1 (Nat.le_zero.1 hn) c hc
      simpa using this)
  | succ n ih =>
    intro l out hn hl ho
    by_cases hd : ∀ c ∈ l, due v_to c = false
    · exact q428 v_to v l out hd
    · obtain ⟨c, hc, hdc⟩ : ∃ c ∈ l, due v_to c = true := by
        refine Classical.byContradiction fun hx => hd fun c hc => ?_
        cases h : due v_to c
        · rfl
        · exact (hx ⟨c, hc, h⟩).elim
      have hac : c.Armed = true ∧ c.At ≤ v_to := by
        unfold due at hdc; cases h : c.Armed <;> simp [h] at hdc ⊢; exact hdc
      obtain ⟨h1, h2⟩ := q265 hc hac.1
      have hb : ((nxV l).2 && decide ((nxV l).1 ≤ v_to)) = true := by rw [h1]; simp; omega
      obtain ⟨c0, hc0, ha0, hat0⟩ := q286 h1
      have hm : (nxV l).1 ≤ v_to := by omega
      have hlen : (l.map (atC (nxV l).1)).length ≤ 16 := by simpa using hl
      have hstep : q43 v_to v (out, (nxV l).1, (nxV l).2, l) = some (.inl (out ++ atS (nxV l).1 0 l, (nxV (l.map (atC (nxV l).1))).1, (nxV (l.map (atC (nxV l).1))).2, l.map (atC (nxV l).1))) := by
        unfold q43
        simp only [hb, cond_true]
        rw [q523 _ _ _ _ hl (by omega)]
        simp only [Option.bind_some]
        rw [q337 _ (by simp only [List.length_map]; omega)]
        rfl
      have hcount : (l.map (atC (nxV l).1)).countP (due v_to) ≤ n := by
        have h3 : (l.map (atC (nxV l).1)).countP (due v_to) < l.countP (due v_to) := by
          rw [List.countP_map]
          exact q453 (fun x hx => by
            simp only [Function.comp_apply] at hx
            cases hxb : atB (nxV l).1 x
            · have e : atC (nxV l).1 x = x := by unfold atC; rw [hxb]; rfl
              rwa [e] at hx
            · unfold atC due at hx; rw [hxb] at hx; simp at hx) hc0 (by unfold due; rw [ha0]; simp; omega) (by
            simp only [Function.comp_apply]
            unfold atC due; rw [atB_iff.2 ⟨ha0, hat0⟩]; rfl)
        omega
      have hol : (out ++ atS (nxV l).1 0 l).length + n * 16 ≤ 1000 := by
        have := atS_len (nxV l).1 l 0
        simp only [List.length_append]; omega
      obtain ⟨a, b, h4⟩ := ih _ (out ++ atS (nxV l).1 0 l) hcount hlen hol
      refine ⟨a, b, ?_⟩
      have e5 : (l.map (atC (nxV l).1)).map (advC v_to) = l.map (advC v_to) := by
        rw [List.map_map]
        exact List.map_congr_left fun x _ => adv_atC hm x
      rw [loopM_next hstep, h4, q479 hm (fun c hc ha => (q265 hc ha).2), List.append_assoc, e5]
end Tm
end Go.Pv
set_option linter.unusedSimpArgs false
namespace Go.Pv.Sc
open Go Go.Pv Go.Pv.Ev
def clkB (c : SClock) : Bool := bif !c.Valid then ((c.At == 0) && ((c.Angle == 0) && ((c.Period == 0) && ((c.Space == 0) && (c.Ahead == 0))))) else
  ((((((decide (c.At ≥ 0) && decide (c.At ≤ 1099511627776)) && (decide (c.Angle ≥ 0) && decide (c.Angle < 46080))) && (decide (c.Period ≥ 1) && decide (c.Period ≤ 1073741824))) && (decide (c.Space ≥ 192) && decide (c.Space ≤ 1920))) && (((c.Ahead == c.Space) || (c.Ahead == 2 * c.Space)) || (c.Ahead == 3 * c.Space))))
theorem clk_eq (c : SClock) : q132 c = some (clkB c) := by
  unfold q132 clkB q284
  cases hv : c.Valid
  · simp
  · simp only [Bool.not_true, cond_false, Option.bind_some]
    by_cases hs : 192 ≤ c.Space ∧ c.Space ≤ 1920
    · rw [w64_of (n := 2 * c.Space) (by omega) (by omega), w64_of (n := 3 * c.Space) (by omega) (by omega), bsome, Option.some.injEq, Bool.eq_iff_iff]
      simp only [Bool.cond_true_left, Bool.cond_false_left, Bool.cond_true_right, Bool.cond_false_right, Bool.or_eq_true, Bool.and_eq_true, Bool.not_eq_true', Bool.or_eq_false_iff, Bool.and_eq_false_iff, Bool.not_eq_false', decide_eq_true_eq, decide_eq_false_iff_not, beq_iff_eq, ge_iff_le]
      omega
    · have e1 : (((((((!(decide (c.At ≥ 0) && decide (c.At ≤ 1099511627776))) || decide (c.Angle < 0)) || decide (c.Angle ≥ 46080)) || decide (c.Period < 1)) || decide (c.Period > 1073741824)) || decide (c.Space < 192)) || decide (c.Space > 1920)) = true := by
        simp only [Bool.or_eq_true, decide_eq_true_eq]; omega
      have e2 : (decide (c.Space ≥ 192) && decide (c.Space ≤ 1920)) = false := by
        simp only [Bool.and_eq_false_iff, decide_eq_false_iff_not]; omega
      rw [e1, e2]; simp
theorem rclk_eq (c : SClock) : q149 c = some (clkB c) := by
  unfold q149 clkB q217
  cases hv : c.Valid
  · simp
  · simp only [Bool.not_true, cond_false, Option.bind_some]
    by_cases hs : 192 ≤ c.Space ∧ c.Space ≤ 1920
    · rw [w64_of (n := 2 * c.Space) (by omega) (by omega), w64_of (n := 3 * c.Space) (by omega) (by omega), bsome, Option.bind_some, Option.some.injEq, Bool.eq_iff_iff]
      simp only [Bool.cond_true_left, Bool.cond_false_left, Bool.cond_true_right, Bool.cond_false_right, Bool.or_eq_true, Bool.and_eq_true, Bool.not_eq_true', Bool.or_eq_false_iff, Bool.and_eq_false_iff, Bool.not_eq_false', decide_eq_true_eq, decide_eq_false_iff_not, beq_iff_eq, ge_iff_le]
      omega
    · have e2 : (decide (c.Space ≥ 192) && decide (c.Space ≤ 1920)) = false := by
        simp only [Bool.and_eq_false_iff, decide_eq_false_iff_not]; omega
      rw [e2]
      have e1 : (((((((decide (c.At ≥ 0) && decide (c.At ≤ 1099511627776)) && decide (c.Angle ≥ 0)) && decide (c.Angle < 46080)) && decide (c.Period ≥ 1)) && decide (c.Period ≤ 1073741824)) && decide (c.Space ≥ 192)) && decide (c.Space ≤ 1920)) = false := by
        simp only [Bool.and_eq_false_iff, decide_eq_false_iff_not]; omega
      rw [e1]; simp
structure ClkOk (c : SClock) : Prop where
  at0 : 0 ≤ c.At
  at1 : c.At ≤ 1099511627776
  an0 : 0 ≤ c.Angle
  an1 : c.Angle < 46080
  p0 : 1 ≤ c.Period
  p1 : c.Period ≤ 1073741824
  s0 : 192 ≤ c.Space
  s1 : c.Space ≤ 1920
  ah : c.Ahead = c.Space ∨ c.Ahead = 2 * c.Space ∨ c.Ahead = 3 * c.Space
theorem clkOk {c : SClock} (h : clkB c = true) (hv : c.Valid = true) : ClkOk c := by
  unfold clkB at h
  rw [hv] at h
  simp only [Bool.not_true, cond_false, Bool.and_eq_true, Bool.or_eq_true, decide_eq_true_eq, beq_iff_eq] at h
  obtain ⟨⟨⟨⟨⟨a, b⟩, c', d⟩, e, f⟩, g, i⟩, j⟩ := h
  exact ⟨a, b, c', d, e, f, g, i, by rcases j with (j | j) | j <;> omega⟩
def wishAt (e : SEngine) (l : List SFire) (i : Nat) : Bool := match l[i]? with | some x => decide (fireP e x) && !((l.take i).any fun g => g.Cylinder == x.Cylinder) | none => false
def wishB (e : SEngine) (l : List SFire) : Bool := (List.range' 0 l.length).all (wishAt e l)
theorem q427 (e : SEngine) (l : List SFire) (he : engP e) (hl : l.length ≤ 1000000) : q148 e l = some (wishB e l) := by
  unfold q148 wishB
  have k := stepsN_all (f := q203 e l) (p := wishAt e l) (r := false) l.length 0 (fun j _ hj => by
    have hj' : j < l.length := by omega
    unfold q203 wishAt
    rw [getI_get _ _ hj', List.getElem?_eq_getElem hj']
    simp only [Option.bind_some, fire_eq, decide_eq_true he, Bool.true_and]
    cases hf : decide (fireP e l[j])
    · rfl
    · simp only [Bool.not_true, cond_false, Bool.true_and]
      have hs : sliceM l 0 (j : Int) = some (l.take j) := by
        unfold sliceM
        rw [if_pos ⟨by omega, by omega, by omega⟩]
        simp
      rw [hs]
      simp only [Option.bind_some]
      have hc : q27 (l.take j) (fun x0 => q125 x0 l[j]) = some ((l.take j).any fun g => g.Cylinder == l[j].Cylinder) := by
        unfold q27 q50 q130
        exact index_any (l.take j) (by rw [List.length_take]; omega) (fun x0 => q125 x0 l[j]) (fun g => g.Cylinder == l[j].Cylinder) (fun y _ => rfl)
      rw [hc]
      simp only [Option.bind_some]
      cases (l.take j).any fun g => g.Cylinder == l[j].Cylinder <;> rfl)
  rw [rangeN_steps _ (by omega)]
  rw [show ((0 : Nat) : Int) = 0 from rfl] at k
  rw [k]
  cases (List.range' 0 l.length).all (wishAt e l) <;> rfl
theorem q471 (e : SEngine) (l : List SFire) (he : engP e) (hl : l.length ≤ 1000000) : q97 e l = some (wishB e l) := by
  unfold q97 wishB
  have k := loopM_all (mb := q102 e l) (fun i => (i : Int)) (p := wishAt e l) (b0 := .inl (l.length : Int)) (b1 := .inr false) l.length (by simp [q102]) (fun j hj => by
    unfold q102 wishAt
    have e1 : decide ((j : Int) < (l.length : Int)) = true := by simp; omega
    rw [e1, getI_get _ _ hj, List.getElem?_eq_getElem hj]
    simp only [cond_true, Option.bind_some, q530 e _ he]
    cases hf : decide (fireP e l[j])
    · rfl
    · simp only [Bool.not_true, cond_false, Bool.true_and]
      have hlt : (l.take j).length = j := by rw [List.length_take]; omega
      have k2 := loopM_allL (mb := q104 l (j : Int) l[j]) (fun i => (i : Int)) (p := fun g => !(g.Cylinder == l[j].Cylinder)) (b0 := .inl (j : Int)) (b1 := .inr false) (l.take j) (by
        rw [hlt]; unfold q104
        rw [show decide ((j : Int) < (j : Int)) = false by simp]; rfl) (fun i y hy => by
        have hi : i < j := by have := (List.getElem?_eq_some_iff.1 hy).1; omega
        have hy2 : l[i]? = some y := by rw [← hy, List.getElem?_take, if_pos hi]
        unfold q104
        simp only [show decide ((i : Int) < (j : Int)) = true by simp; omega, cond_true, getI_nat, hy2, Option.bind_some, w64_of (n := (i : Int) + 1) (by omega) (by omega)]
        cases y.Cylinder == l[j].Cylinder <;> rfl)
      rw [show ((0 : Nat) : Int) = 0 from rfl] at k2
      rw [k2, w64_of (n := (j : Int) + 1) (by omega) (by omega)]
      rw [all_not]
      cases (l.take j).any fun g => g.Cylinder == l[j].Cylinder <;> rfl)
  rw [show ((0 : Nat) : Int) = 0 from rfl] at k
  rw [k]
  cases (List.range' 0 l.length).all (wishAt e l) <;> rfl
def chn (x : SEvent) : Int := 2 * (x.Cylinder - 1) + if x.Kind = 3 ∨ x.Kind = 4 then 1 else 0
def onK (k : Int) : Bool := (k == 1) || (k == 3)
structure JobOk (n : Nat) (j : SJob) : Prop where
  cyl : 1 ≤ j.Event.Cylinder ∧ j.Event.Cylinder ≤ (n : Int)
  kind : 1 ≤ j.Event.Kind ∧ j.Event.Kind ≤ 4
  angle : 0 ≤ j.Event.Angle ∧ j.Event.Angle < 46080
  pulse : 0 ≤ j.Event.Pulse ∧ j.Event.Pulse ≤ 2
  left : -1048576 ≤ j.Left ∧ j.Left ≤ 1048576
  at0 : j.Armed = true ∨ j.At = 0
instance (n : Nat) (j : SJob) : Decidable (JobOk n j) :=
  decidable_of_iff ((1 ≤ j.Event.Cylinder ∧ j.Event.Cylinder ≤ (n : Int)) ∧ (1 ≤ j.Event.Kind ∧ j.Event.Kind ≤ 4) ∧ (0 ≤ j.Event.Angle ∧ j.Event.Angle < 46080) ∧ (0 ≤ j.Event.Pulse ∧ j.Event.Pulse ≤ 2) ∧ (-1048576 ≤ j.Left ∧ j.Left ≤ 1048576) ∧ (j.Armed = true ∨ j.At = 0))
    ⟨fun ⟨a, b, c, d, e, f⟩ => ⟨a, b, c, d, e, f⟩, fun ⟨a, b, c, d, e, f⟩ => ⟨a, b, c, d, e, f⟩⟩
theorem q418 {n : Nat} {j : SJob} : JobOk n j ↔ (1 ≤ j.Event.Cylinder ∧ j.Event.Cylinder ≤ (n : Int)) ∧ (1 ≤ j.Event.Kind ∧ j.Event.Kind ≤ 4) ∧ (0 ≤ j.Event.Angle ∧ j.Event.Angle < 46080) ∧ (0 ≤ j.Event.Pulse ∧ j.Event.Pulse ≤ 2) ∧ (-1048576 ≤ j.Left ∧ j.Left ≤ 1048576) ∧ (j.Armed = true ∨ j.At = 0) :=
  ⟨fun ⟨a, b, c, d, e, f⟩ => ⟨a, b, c, d, e, f⟩, fun ⟨a, b, c, d, e, f⟩ => ⟨a, b, c, d, e, f⟩⟩
theorem job_eq (s : SScheduler) (j : SJob) : q224 s j = some (decide (JobOk s.Engine.Order.length j)) := by
  unfold q224
  rw [bsome, Option.bind_some, Option.some.injEq, Bool.eq_iff_iff, decide_eq_true_eq, q418]
  simp only [Bool.cond_true_left, Bool.cond_false_left, Bool.cond_true_right, Bool.cond_false_right, Bool.or_eq_true, Bool.and_eq_true, decide_eq_true_eq, beq_iff_eq, ge_iff_le]
  cases j.Armed
  · simp only [Bool.false_eq_true, false_or]; omega
  · simp only [true_or, and_true]; omega
theorem jobs_eq (s : SScheduler) (hl : s.Jobs.length ≤ 1000000) : q84 s.Jobs (fun x0 => q94 x0 s) = some (!s.Jobs.all fun j => decide (JobOk s.Engine.Order.length j)) := by
  unfold q84 q21 q87
  have := index_any s.Jobs (by omega) (fun x0 => q94 x0 s) (fun j => !decide (JobOk s.Engine.Order.length j)) (fun y _ => by unfold q94; rw [job_eq]; rfl)
  rw [← Bool.not_not (s.Jobs.any _), ← all_not] at this
  simp only [Bool.not_not] at this
  exact this
theorem q542 (x : SEvent) : q123 [x] = some (decide (evP x)) := by
  rw [list_eq]
  unfold badE
  simp only [List.length_singleton, List.any_cons, List.any_nil, Bool.or_false]
  cases decide (evP x) <;> rfl
theorem q525 (s : SScheduler) (he : engP s.Engine) (hl : s.Jobs.length ≤ 1000000) : loopM (q77 s) 0 = some (bif s.Jobs.all fun j => decide (JobOk s.Engine.Order.length j) then .inl (s.Jobs.length : Int) else .inr false) := by
  have hn := he.2.1
  have k := loopM_allL (mb := q77 s) (fun i => (i : Int)) (p := fun j => decide (JobOk s.Engine.Order.length j)) (b0 := .inl (s.Jobs.length : Int)) (b1 := .inr false) s.Jobs (by simp [q77]) (fun k y hy => by
    have hk := (List.getElem?_eq_some_iff.1 hy).1
    unfold q77
    have e1 : decide ((k : Int) < (s.Jobs.length : Int)) = true := by simp; omega
    rw [e1, getI_nat, hy]
    simp only [cond_true, Option.bind_some, q542, bsome, w64_of (n := (k : Int) + 1) (by omega) (by omega)]
    have e2 : (bif ((((!decide (evP y.Event)) || (decide (y.Event.Cylinder > (s.Engine.Order.length : Int)))) || (decide (y.Left < (-1048576)))) || (decide (y.Left > 1048576))) then true else ((!y.Armed) && (y.At != 0))) = !decide (JobOk s.Engine.Order.length y) := by
      rw [Bool.eq_iff_iff]
      simp only [Bool.cond_true_left, Bool.or_eq_true, Bool.and_eq_true, Bool.not_eq_true', decide_eq_true_eq, decide_eq_false_iff_not, bne_iff_ne, q418]
      unfold evP
      cases y.Armed
      · simp only [false_or, Bool.false_eq_true, true_and, eq_self]; omega
      · simp only [Bool.true_eq_false, true_or, and_true, false_and, or_false]; omega
    rw [e2]
    cases decide (JobOk s.Engine.Order.length y) <;> rfl)
  rw [show ((0 : Nat) : Int) = 0 from rfl] at k
  exact k
theorem chan_eq {n : Nat} {j : SJob} (h : JobOk n j) (hn : n ≤ 8) : q30 j.Event = some (chn j.Event) ∧ q45 j.Event = some (chn j.Event) := by
  have h1 := h.cyl; have h2 := h.kind
  unfold q30 q45 chn
  rw [w64_of (n := j.Event.Cylinder - 1) (by omega) (by omega), w64_of (n := 2 * (j.Event.Cylinder - 1)) (by omega) (by omega), w64_of (n := 2 * (j.Event.Cylinder - 1) + 1) (by omega) (by omega)]
  by_cases h3 : j.Event.Kind = 3 ∨ j.Event.Kind = 4
  · have e1 : ((j.Event.Kind == 3) || (j.Event.Kind == 4)) = true := by simpa using h3
    have e2 : ((j.Event.Kind == 1) || (j.Event.Kind == 2)) = false := by simp; omega
    rw [e1, e2, if_pos h3]; exact ⟨rfl, rfl⟩
  · have e1 : ((j.Event.Kind == 3) || (j.Event.Kind == 4)) = false := by simpa using h3
    have e2 : ((j.Event.Kind == 1) || (j.Event.Kind == 2)) = true := by simp; omega
    rw [e1, e2, if_neg h3]; exact ⟨by simp, by simp⟩
theorem q424 {n : Nat} {j : SJob} (h : JobOk n j) : 0 ≤ chn j.Event ∧ chn j.Event < 2 * (n : Int) := by
  have h1 := h.cyl
  unfold chn; split <;> omega
def mine (l : List SJob) (c : Int) : List SJob := l.filter fun j => chn j.Event == c
def alt : List SJob → Bool → Bool
  | [], lv => !lv
  | j :: r, lv => !(onK j.Event.Kind == lv) && !j.Armed && alt r (!lv)
def rowB (l : List SJob) (x : SChannel) : Bool := match l with
  | [] => !x.Level && !x.Armed
  | j :: r => !(onK j.Event.Kind == x.Level) && (j.Armed == x.Armed) && (!j.Armed || ((j.At == x.At) && (x.Next == !x.Level))) && alt r (!x.Level)
def cutB (now : Int) (l : List SJob) : Bool := match l with
  | [] => true
  | [j] => (j.Event.Kind == 2) && j.Armed && decide (j.At ≤ now + 5000)
  | _ => false
def lineB (s : SScheduler) (c : Int) (x : SChannel) : Bool := rowB (mine s.Jobs c) x && (!s.Cut || cutB s.Timer.Now (mine s.Jobs c))
def linS (cut : Bool) (now : Int) (x : SChannel) : List SJob → Bool → Bool → Bool
  | [], lv, fi => !lv && !(fi && x.Armed)
  | j :: r, lv, fi => bif onK j.Event.Kind == lv then false else
      bif (bif fi then (!(j.Armed == x.Armed)) || (j.Armed && ((j.At != x.At) || !(x.Next == !lv))) else (j.Armed || cut)) then false else
      bif cut && (((j.Event.Kind != 2) || !j.Armed) || decide (j.At > now + 5000)) then false else linS cut now x r (!lv) false
theorem q408 (s : SScheduler) (c : Int) (x : SChannel) (n : Nat) (hn : n ≤ 8) (h0 : 0 ≤ s.Timer.Now) (h1 : s.Timer.Now ≤ 1099511627776) : ∀ (l : List SJob) (i : Int) (lv fi : Bool), (∀ j ∈ l, JobOk n j) →
    (Option.bind (stepsL (q91 s c x) l i (lv, fi)) fun (t : (Bool × Bool) ⊕ Bool) => match t with | .inl s4 => (Option.bind (bif (!s4.1) then (some (!(s4.2 && x.Armed))) else (some false)) fun b5 => some b5) | .inr r3 => some r3) = some (linS s.Cut s.Timer.Now x (mine l c) lv fi)
  | [], i, lv, fi, _ => by
    simp only [stepsL, Option.bind_some, mine, List.filter_nil, linS]
    cases lv <;> rfl
  | j :: l, i, lv, fi, h => by
    have hj := h j (List.mem_cons_self ..)
    have ih := fun i lv fi => q408 s c x n hn h0 h1 l i lv fi (fun y hy => h y (List.mem_cons_of_mem _ hy))
    by_cases hc : chn j.Event = c
    · have e1 : (chn j.Event != c) = false := by simpa using hc
      have e2 : mine (j :: l) c = j :: mine l c := by unfold mine; rw [List.filter_cons_of_pos (by simpa using hc)]
      have hb : q91 s c x i j (lv, fi) = some (bif onK j.Event.Kind == lv then .ret false else
          bif (bif fi then (!(j.Armed == x.Armed)) || (j.Armed && ((j.At != x.At) || !(x.Next == !lv))) else (j.Armed || s.Cut)) then .ret false else
          bif s.Cut && (((j.Event.Kind != 2) || !j.Armed) || decide (j.At > s.Timer.Now + 5000)) then .ret false else .next (!lv, false)) := by
        unfold q91
        rw [(chan_eq hj hn).1]
        simp only [Option.bind_some, e1, cond_false, q200]
        have e3 : ((j.Event.Kind == 1) || (j.Event.Kind == 3)) = onK j.Event.Kind := rfl
        rw [e3, w64_of (n := s.Timer.Now + 5000) (by omega) (by omega)]
        cases onK j.Event.Kind == lv
        · simp only [cond_false]
          have hA : (bif fi then (Option.bind (bif (!(j.Armed == x.Armed)) then (some true) else (Option.bind (bif j.Armed then (some ((j.At != x.At) || (!(x.Next == (!lv))))) else (some false)) fun b2 => some b2)) fun b3 => bif b3 then (some (Sum.inr false)) else (some (Sum.inl ()))) else (bif (j.Armed || s.Cut) then (some (Sum.inr false)) else (some (Sum.inl ())))) =
              (some (bif (bif fi then (!(j.Armed == x.Armed)) || (j.Armed && ((j.At != x.At) || !(x.Next == !lv))) else (j.Armed || s.Cut)) then Sum.inr false else Sum.inl ()) : Option (Unit ⊕ Bool)) := by
            cases fi
            · cases (j.Armed || s.Cut) <;> rfl
            · cases (j.Armed == x.Armed) <;> cases j.Armed <;> simp only [Bool.not_true, Bool.not_false, cond_true, cond_false, Option.bind_some, Bool.true_or, Bool.false_or, Bool.true_and, Bool.false_and, Bool.or_false]
              cases ((j.At != x.At) || !(x.Next == !lv)) <;> rfl
          rw [hA]
          cases (bif fi then (!(j.Armed == x.Armed)) || (j.Armed && ((j.At != x.At) || !(x.Next == !lv))) else (j.Armed || s.Cut))
          · simp only [cond_false, Option.bind_some]
            have hB : (bif s.Cut then (some (((j.Event.Kind != 2) || (!j.Armed)) || (decide (j.At > s.Timer.Now + 5000)))) else (some false)) = some (s.Cut && (((j.Event.Kind != 2) || (!j.Armed)) || (decide (j.At > s.Timer.Now + 5000)))) := by cases s.Cut <;> rfl
            rw [hB]
            simp only [Option.bind_some]
            cases (s.Cut && (((j.Event.Kind != 2) || (!j.Armed)) || (decide (j.At > s.Timer.Now + 5000)))) <;> rfl
          · rfl
        · rfl
      rw [e2]
      simp only [stepsL, hb, linS, Option.bind_some]
      cases onK j.Event.Kind == lv
      · simp only [cond_false]
        cases (bif fi then (!(j.Armed == x.Armed)) || (j.Armed && ((j.At != x.At) || !(x.Next == !lv))) else (j.Armed || s.Cut))
        · simp only [cond_false]
          cases (s.Cut && (((j.Event.Kind != 2) || (!j.Armed)) || (decide (j.At > s.Timer.Now + 5000))))
          · exact ih (i + 1) (!lv) false
          · rfl
        · rfl
      · rfl
    · have e1 : (chn j.Event != c) = true := by simpa using hc
      have e2 : mine (j :: l) c = mine l c := by unfold mine; rw [List.filter_cons_of_neg (by simpa using hc)]
      have hb : q91 s c x i j (lv, fi) = some (.next (lv, fi)) := by
        unfold q91
        rw [(chan_eq hj hn).1]
        simp only [Option.bind_some, e1, cond_true]
      rw [e2]
      simp only [stepsL, hb, Option.bind_some]
      exact ih (i + 1) lv fi
theorem q419 (cut : Bool) (now : Int) (x : SChannel) : ∀ (l : List SJob) (lv : Bool), linS cut now x l lv false = (alt l lv && (!cut || l.isEmpty))
  | [], lv => by simp [linS, alt]
  | j :: r, lv => by
    simp only [linS, alt, q419 cut now x r (!lv)]
    cases onK j.Event.Kind == lv <;> cases j.Armed <;> cases cut <;> simp
theorem linS_eq (cut : Bool) (now : Int) (x : SChannel) (l : List SJob) : linS cut now x l x.Level true = (rowB l x && (!cut || cutB now l)) := by
  cases l with
  | nil => simp [linS, rowB, cutB]
  | cons j r =>
    simp only [linS, rowB, q419]
    cases ho : onK j.Event.Kind == x.Level <;> cases ha : j.Armed == x.Armed <;> cases hj : j.Armed <;> cases hn : (j.At != x.At) <;> cases hx : (x.Next == !x.Level) <;> cases cut <;> cases r with
    | nil =>
      simp_all [cutB, alt]
      try
        cases x.Level
        · simp
        · rw [Bool.eq_iff_iff]
          simp
    | cons k r => simp_all [cutB]
theorem line_eq (s : SScheduler) (c : Nat) (hc : c < s.Timer.Channels.length) (n : Nat) (hn : n ≤ 8) (h0 : 0 ≤ s.Timer.Now) (h1 : s.Timer.Now ≤ 1099511627776) (hl : s.Jobs.length ≤ 1000000) (hj : ∀ j ∈ s.Jobs, JobOk n j) :
    q208 s (c : Int) = some (lineB s (c : Int) s.Timer.Channels[c]) := by
  unfold q208
  rw [getI_get _ _ hc]
  simp only [Option.bind_some]
  rw [rangeM_steps _ (by omega)]
  have h := q408 s (c : Int) s.Timer.Channels[c] n hn h0 h1 s.Jobs 0 s.Timer.Channels[c].Level true hj
  rw [linS_eq] at h
  exact h
theorem of_eq (l : List SJob) (c : Int) (n : Nat) (hn : n ≤ 8) (hl : l.length ≤ 1000000) (hj : ∀ j ∈ l, JobOk n j) : q190 l c = some (mine l c) := by
  unfold q190
  have key : ∀ (r : List SJob) (i : Nat) (out : List SJob), l.drop i = r → i ≤ l.length → out.length ≤ i → loopM (q106 l c) (out, (i : Int)) = some (.inl (out ++ mine r c, (l.length : Int))) := by
    intro r
    induction r with
    | nil =>
      intro i out hd hi ho
      have : i = l.length := by have := List.drop_eq_nil_iff.1 hd; omega
      subst this
      rw [loopM_out (b := .inl (out, (l.length : Int)))]
      · simp [mine]
      · unfold q106; simp
    | cons y r ih =>
      intro i out hd hi ho
      have hy : l[i]? = some y := by rw [← List.head?_drop, hd]; rfl
      have hlt := (List.getElem?_eq_some_iff.1 hy).1
      have hd' : l.drop (i + 1) = r := by rw [← List.drop_drop, hd]; rfl
      have hym := List.mem_iff_getElem?.2 ⟨i, hy⟩
      have e1 : decide ((i : Int) < (l.length : Int)) = true := by simp; omega
      have ew : w64 ((i : Int) + 1) = ((i + 1 : Nat) : Int) := by rw [w64_of (by omega) (by omega)]; omega
      by_cases hc : chn y.Event = c
      · rw [loopM_next (s' := (out ++ [y], ((i + 1 : Nat) : Int)))]
        · rw [ih (i + 1) (out ++ [y]) hd' (by omega) (by simp; omega)]
          unfold mine
          rw [List.filter_cons_of_pos (by simpa using hc)]
          simp
        · unfold q106
          simp only [e1, cond_true, getI_nat, hy, Option.bind_some, (chan_eq (hj y hym) hn).2]
          have e2 : (chn y.Event == c) = true := by simpa using hc
          rw [e2, appendM_ok _ _ (by simp; omega), ew]
          rfl
      · rw [loopM_next (s' := (out, ((i + 1 : Nat) : Int)))]
        · rw [ih (i + 1) out hd' (by omega) (by omega)]
          unfold mine
          rw [List.filter_cons_of_neg (by simpa using hc)]
        · unfold q106
          simp only [e1, cond_true, getI_nat, hy, Option.bind_some, (chan_eq (hj y hym) hn).2]
          have e2 : (chn y.Event == c) = false := by simpa using hc
          rw [e2, ew]
          rfl
  have := key l 0 [] rfl (by omega) (by simp)
  rw [show ((0 : Nat) : Int) = 0 from rfl] at this
  rw [this]
  rfl
theorem q374 (l : List SJob) (hl : l.length ≤ 1000000) : ∀ (r : List SJob) (i : Nat) (lv : Bool), l.drop i = r → 0 < i → i ≤ l.length →
    ∃ t : (Bool × Int) ⊕ Bool, loopM (q42 l) (lv, (i : Int)) = some t ∧ (match t with | .inl q => alt r lv = !q.1 | .inr b => b = false ∧ alt r lv = false)
  | [], i, lv, hd, h0, hi => by
    have : i = l.length := by have := List.drop_eq_nil_iff.1 hd; omega
    subst this
    refine ⟨.inl (lv, (l.length : Int)), loopM_out ?_, rfl⟩
    unfold q42; simp
  | y :: r, i, lv, hd, h0, hi => by
    have hy : l[i]? = some y := by rw [← List.head?_drop, hd]; rfl
    have hlt := (List.getElem?_eq_some_iff.1 hy).1
    have hd' : l.drop (i + 1) = r := by rw [← List.drop_drop, hd]; rfl
    have e1 : decide ((i : Int) < (l.length : Int)) = true := by simp; omega
    have ew : w64 ((i : Int) + 1) = ((i + 1 : Nat) : Int) := by rw [w64_of (by omega) (by omega)]; omega
    have e4 : decide ((i : Int) > 0) = true := by simp; omega
    have hb : q42 l (lv, (i : Int)) = some (bif (onK y.Event.Kind == lv) || y.Armed then .inr (.inr false) else .inl (onK y.Event.Kind, ((i + 1 : Nat) : Int))) := by
      unfold q42
      simp only [e1, cond_true, getI_nat, hy, Option.bind_some, q67, e4, Bool.and_true, ew]
      have e3 : ((y.Event.Kind == 1) || (y.Event.Kind == 3)) = onK y.Event.Kind := rfl
      rw [e3]
      cases onK y.Event.Kind == lv <;> cases y.Armed <;> rfl
    cases hc : (onK y.Event.Kind == lv) || y.Armed
    · rw [hc] at hb
      simp only [Bool.or_eq_false_iff] at hc
      obtain ⟨t, h1, h2⟩ := q374 l hl r (i + 1) (onK y.Event.Kind) hd' (by omega) (by omega)
      refine ⟨t, by rw [loopM_next hb]; exact h1, ?_⟩
      have hlv : onK y.Event.Kind = !lv := by cases hk : onK y.Event.Kind <;> cases lv <;> simp_all
      rw [hlv] at h2
      simp only [alt, hc.1, hc.2, Bool.not_false, Bool.true_and]
      exact h2
    · rw [hc] at hb
      refine ⟨.inr false, loopM_out hb, rfl, ?_⟩
      simp only [alt]
      rcases Bool.or_eq_true_iff.1 hc with h | h <;> simp [h]
theorem q484 (l : List SJob) (x : SChannel) (hl : l.length ≤ 1000000) : q146 l x = some (rowB l x) := by
  unfold q146
  cases l with
  | nil => rfl
  | cons j r =>
    have e0 : (((j :: r).length : Int) == 0) = false := by simp; omega
    rw [e0]
    simp only [cond_false]
    have e1 : decide ((0 : Int) < ((j :: r).length : Int)) = true := by simp
    have hb : q42 (j :: r) (x.Level, 0) = some (bif onK j.Event.Kind == x.Level then .inr (.inr false) else .inl (onK j.Event.Kind, 1)) := by
      unfold q42
      simp only [e1, cond_true, q67]
      rw [show getI (j :: r) 0 = some j from rfl]
      simp only [Option.bind_some]
      have e3 : ((j.Event.Kind == 1) || (j.Event.Kind == 3)) = onK j.Event.Kind := rfl
      rw [e3, show decide ((0 : Int) > 0) = false from rfl]
      cases onK j.Event.Kind == x.Level <;> simp <;> rfl
    cases hc : onK j.Event.Kind == x.Level
    · rw [hc] at hb
      obtain ⟨t, h1, h2⟩ := q374 (j :: r) hl r 1 (onK j.Event.Kind) rfl (by omega) (by simp)
      have hlv : onK j.Event.Kind = !x.Level := by cases hk : onK j.Event.Kind <;> cases hx : x.Level <;> simp_all
      rw [hlv] at h2
      rw [show ((1 : Nat) : Int) = 1 from rfl] at h1
      rw [loopM_next hb, h1]
      cases t with
      | inr b =>
        obtain ⟨rfl, h3⟩ := h2
        simp only [Option.bind_some]
        unfold rowB
        simp only [h3, Bool.and_false]
      | inl q =>
        simp only [Option.bind_some]
        simp only at h2
        unfold rowB
        simp only [hc, h2, Bool.not_false, Bool.true_and]
        rw [show getI (j :: r) 0 = some j from rfl]
        simp only [Option.bind_some, q67]
        have e3 : ((j.Event.Kind == 1) || (j.Event.Kind == 3)) = onK j.Event.Kind := rfl
        rw [e3, hlv]
        cases q.1 <;> cases hja : j.Armed <;> cases hxa : x.Armed <;> simp
        all_goals try (first | done | skip)
        cases hat : (x.At != j.At)
        · have h5 : x.At = j.At := by simpa using hat
          rw [h5]
          cases (x.Next == !x.Level) <;> simp
        · have h5 : ¬ x.At = j.At := by simpa using hat
          have h6 : ¬ j.At = x.At := fun e => h5 e.symm
          simp [h6]
    · rw [hc] at hb
      rw [loopM_out hb]
      unfold rowB
      simp [hc]
def schB (s : SScheduler) : Bool :=
  decide (engP s.Engine) && clkB s.Clock && Tm.timB s.Timer && decide (s.Timer.Channels.length = 2 * s.Engine.Order.length) && wishB s.Engine s.Next && decide (s.Jobs.length ≤ 200) && (s.Clock.Valid || s.Jobs.isEmpty) && (s.Jobs.all fun j => decide (JobOk s.Engine.Order.length j)) &&
    (List.range' 0 s.Timer.Channels.length).all fun c => match s.Timer.Channels[c]? with | some x => lineB s (c : Int) x | none => false
structure SchOk (s : SScheduler) : Prop where
  eng : engP s.Engine
  clk : clkB s.Clock = true
  tim : Tm.timB s.Timer = true
  chs : s.Timer.Channels.length = 2 * s.Engine.Order.length
  wish : wishB s.Engine s.Next = true
  most : s.Jobs.length ≤ 200
  none : s.Clock.Valid = false → s.Jobs = []
  job : ∀ j ∈ s.Jobs, JobOk s.Engine.Order.length j
  line : ∀ c (h : c < s.Timer.Channels.length), lineB s (c : Int) s.Timer.Channels[c] = true
theorem q230 {s : SScheduler} : schB s = true ↔ SchOk s := by
  unfold schB
  simp only [Bool.and_eq_true, decide_eq_true_eq, List.all_eq_true, Bool.or_eq_true]
  constructor
  · rintro ⟨⟨⟨⟨⟨⟨⟨⟨h1, h2⟩, h3⟩, h4⟩, h5⟩, h6⟩, h7⟩, h8⟩, h9⟩
    refine ⟨h1, h2, h3, h4, h5, h6, fun hv => ?_, h8, fun c hc => ?_⟩
    · rcases h7 with h | h
      · rw [hv] at h; cases h
      · simpa using h
    · have := h9 c (by rw [List.mem_range']; exact ⟨c, hc, by omega⟩)
      rw [List.getElem?_eq_getElem hc] at this
      exact this
  · intro h
    refine ⟨⟨⟨⟨⟨⟨⟨⟨h.eng, h.clk⟩, h.tim⟩, h.chs⟩, h.wish⟩, h.most⟩, ?_⟩, h.job⟩, fun c hc => ?_⟩
    · cases hv : s.Clock.Valid
      · right; rw [h.none hv]; rfl
      · left; rfl
    · rw [List.mem_range'] at hc
      obtain ⟨i, hi, rfl⟩ := hc
      have e : 0 + 1 * i = i := by omega
      rw [e, List.getElem?_eq_getElem hi]
      exact h.line i hi
theorem q377 (l : List SJob) : decide ((l.length : Int) > 0) = !l.isEmpty := by cases l <;> simp
theorem q296 (s : SScheduler) (hn : s.Next.length ≤ 1000000) (hl : s.Jobs.length ≤ 1000000) : q35 s = some (schB s) := by
  unfold q35
  rw [q288, clk_eq, Tm.tvalid]
  unfold schB
  cases he : decide (engP s.Engine)
  · simp
  · have he' := of_decide_eq_true he
    have hE := he'.2.1
    cases hc : clkB s.Clock
    · simp
    · cases ht : Tm.timB s.Timer
      · simp
      · have htl := Tm.q196 ht
        have e1 : ((s.Timer.Channels.length : Int) != w64 (2 * (s.Engine.Order.length : Int))) = !decide (s.Timer.Channels.length = 2 * s.Engine.Order.length) := by
          rw [w64_of (by omega) (by omega), Bool.eq_iff_iff]; simp; omega
        simp only [Option.bind_some, Bool.not_true, cond_false, Bool.false_or, e1, Bool.true_and]
        cases h2 : decide (s.Timer.Channels.length = 2 * s.Engine.Order.length)
        · simp
        · simp only [Bool.not_true, cond_false, q427 _ _ he' hn, Option.bind_some, Bool.true_and]
          cases hw : wishB s.Engine s.Next
          · simp
          · simp only [Bool.not_true, cond_false, Bool.true_and]
            have e2 : decide ((s.Jobs.length : Int) > 200) = !decide (s.Jobs.length ≤ 200) := by rw [Bool.eq_iff_iff]; simp; omega
            rw [e2, q377]
            cases h3 : decide (s.Jobs.length ≤ 200)
            · simp
            · simp only [Bool.not_true, cond_false, Option.bind_some, Bool.true_and]
              cases h4 : (s.Clock.Valid || s.Jobs.isEmpty)
              · have : (!s.Clock.Valid && !s.Jobs.isEmpty) = true := by simp only [Bool.or_eq_false_iff] at h4; simp [h4.1, h4.2]
                rw [this]; simp
              · have : (!s.Clock.Valid && !s.Jobs.isEmpty) = false := by rcases Bool.or_eq_true_iff.1 h4 with h | h <;> simp [h]
                rw [this, jobs_eq s hl]
                simp only [cond_false, Option.bind_some, Bool.true_and]
                cases h5 : s.Jobs.all fun j => decide (JobOk s.Engine.Order.length j)
                · simp
                · simp only [Bool.not_true, cond_false, Bool.true_and]
                  have hj : ∀ j ∈ s.Jobs, JobOk s.Engine.Order.length j := by simpa using h5
                  have k := stepsN_all (f := q198 s) (p := fun c => match s.Timer.Channels[c]? with | some x => lineB s (c : Int) x | none => false) (r := false) s.Timer.Channels.length 0 (fun c _ hc => by
                    have hc' : c < s.Timer.Channels.length := by omega
                    unfold q198
                    rw [line_eq s c hc' _ hE (by omega) (by omega) hl hj, List.getElem?_eq_getElem hc']
                    simp only [Option.bind_some]
                    cases lineB s (c : Int) s.Timer.Channels[c] <;> rfl)
                  rw [rangeN_steps _ (by omega)]
                  rw [show ((0 : Nat) : Int) = 0 from rfl] at k
                  rw [k]
                  cases (List.range' 0 s.Timer.Channels.length).all fun c => match s.Timer.Channels[c]? with | some x => lineB s (c : Int) x | none => false <;> rfl
theorem q425 {n : Nat} {l : List SJob} {c : Int} {j : SJob} (hj : ∀ j ∈ l, JobOk n j) (hm : j ∈ mine l c) : JobOk n j ∧ chn j.Event = c := by
  unfold mine at hm
  rw [List.mem_filter] at hm
  exact ⟨hj j hm.1, by simpa using hm.2⟩
theorem q393 {n : Nat} {j : SJob} (h : JobOk n j) : (chn j.Event).tmod 2 = if j.Event.Kind = 3 ∨ j.Event.Kind = 4 then 1 else 0 := by
  have h1 := h.cyl
  have h0 := (q424 h).1
  rw [Int.tmod_eq_emod_of_nonneg h0]
  unfold chn; split <;> omega
theorem cut_ref (now : Int) (n : Nat) (l : List SJob) (c : Int) (x : SChannel) (hj : ∀ j ∈ l, JobOk n j ∧ chn j.Event = c) (hr : rowB l x = true) (h0 : 0 ≤ now) (h1 : now ≤ 1099511627776) :
    (bif (decide ((l.length : Int) > 0)) then (bif (decide ((l.length : Int) > 1)) then (some true) else (bif ((Int.tmod c 2) == 1) then (some true) else (Option.bind (getI l 0) fun x3 => bif (!x3.Armed) then (some true) else (some (decide (x3.At > (w64 (now + 5000)))))))) else (some false)) = some (!cutB now l) := by
  rw [w64_of (by omega) (by omega)]
  match l, hj, hr with
  | [], _, _ => rfl
  | [j], hj, hr =>
    obtain ⟨hk, hc⟩ := hj j (List.mem_cons_self ..)
    have hp := hk.kind
    have hev := q393 hk
    rw [hc] at hev
    -- the only job of a channel switches off
    have hoff : onK j.Event.Kind = false := by
      simp only [rowB, alt, Bool.and_eq_true, Bool.not_not] at hr
      have h2 := hr.1.1.1
      have h3 := hr.2
      rw [h3] at h2
      simpa using h2
    have h24 : j.Event.Kind = 2 ∨ j.Event.Kind = 4 := by
      have : ¬ (j.Event.Kind = 1 ∨ j.Event.Kind = 3) := by
        intro h
        have : onK j.Event.Kind = true := by unfold onK; simpa using h
        rw [this] at hoff; cases hoff
      omega
    rw [show getI [j] 0 = some j from rfl, hev]
    unfold cutB
    simp only [List.length_singleton, Option.bind_some]
    rcases h24 with h | h
    · rw [if_neg (by omega), h]
      simp only [show decide (((1 : Nat) : Int) > 0) = true from rfl, show decide (((1 : Nat) : Int) > 1) = false from rfl, cond_true, cond_false, show ((0 : Int) == 1) = false from rfl, beq_self_eq_true, Bool.true_and]
      cases j.Armed
      · rfl
      · simp only [Bool.not_true, cond_false, Bool.true_and, Option.some.injEq]
        rw [Bool.eq_iff_iff]; simp
    · rw [if_pos (by omega), h]
      rfl
  | i :: j :: r, _, _ =>
    unfold cutB
    have e1 : decide (((i :: j :: r).length : Int) > 0) = true := by simp; omega
    have e2 : decide (((i :: j :: r).length : Int) > 1) = true := by simp; omega
    rw [e1, e2]; rfl
theorem q355 (s : SScheduler) (hn : s.Next.length ≤ 1000000) (hl : s.Jobs.length ≤ 1000000) : q112 s = some (schB s) := by
  unfold q112
  rw [Ev.q355, rclk_eq, Tm.rvalid]
  unfold schB
  cases he : decide (engP s.Engine)
  · simp
  · have he' := of_decide_eq_true he
    have hE := he'.2.1
    cases hc : clkB s.Clock
    · simp
    · cases ht : Tm.timB s.Timer
      · simp
      · have htl := Tm.q196 ht
        have e0 : w64 (2 * (s.Engine.Order.length : Int)) = 2 * (s.Engine.Order.length : Int) := w64_of (by omega) (by omega)
        have e1 : ((s.Timer.Channels.length : Int) != w64 (2 * (s.Engine.Order.length : Int))) = !decide (s.Timer.Channels.length = 2 * s.Engine.Order.length) := by
          rw [e0, Bool.eq_iff_iff]; simp; omega
        simp only [Option.bind_some, Bool.not_true, cond_false, Bool.false_or, e1, Bool.true_and]
        cases h2 : decide (s.Timer.Channels.length = 2 * s.Engine.Order.length)
        · simp
        · have h2' := of_decide_eq_true h2
          simp only [Bool.not_true, cond_false, q471 _ _ he' hn, Option.bind_some, Bool.true_and]
          have e2 : decide ((s.Jobs.length : Int) > 200) = !decide (s.Jobs.length ≤ 200) := by rw [Bool.eq_iff_iff]; simp; omega
          rw [e2, q377]
          cases hw : wishB s.Engine s.Next
          · simp
          · cases h3 : decide (s.Jobs.length ≤ 200)
            · simp
            · simp only [Bool.not_true, Bool.or_self, cond_false, Bool.true_and]
              cases h4 : (s.Clock.Valid || s.Jobs.isEmpty)
              · have : (!s.Clock.Valid && !s.Jobs.isEmpty) = true := by simp only [Bool.or_eq_false_iff] at h4; simp [h4.1, h4.2]
                rw [this]; simp
              · have : (!s.Clock.Valid && !s.Jobs.isEmpty) = false := by rcases Bool.or_eq_true_iff.1 h4 with h | h <;> simp [h]
                rw [this, q525 s he' hl]
                simp only [cond_false, Bool.true_and]
                cases h5 : s.Jobs.all fun j => decide (JobOk s.Engine.Order.length j)
                · simp
                · simp only [cond_true, Option.bind_some, Bool.true_and]
                  have hj : ∀ j ∈ s.Jobs, JobOk s.Engine.Order.length j := by simpa using h5
                  have k := loopM_all (mb := q115 s) (fun i => (i : Int)) (p := fun c => match s.Timer.Channels[c]? with | some x => lineB s (c : Int) x | none => false) (b0 := .inl (s.Timer.Channels.length : Int)) (b1 := .inr false) s.Timer.Channels.length (by
                    unfold q115
                    rw [e0]
                    have : decide ((s.Timer.Channels.length : Int) < 2 * (s.Engine.Order.length : Int)) = false := by simp; omega
                    rw [this]; rfl) (fun c hc => by
                    unfold q115
                    rw [e0]
                    have e3 : decide ((c : Int) < 2 * (s.Engine.Order.length : Int)) = true := by simp; omega
                    have hml : (mine s.Jobs (c : Int)).length ≤ 1000000 := Nat.le_trans (List.length_filter_le ..) hl
                    rw [e3, of_eq _ _ _ hE hl hj, getI_get _ _ hc, List.getElem?_eq_getElem hc]
                    simp only [cond_true, Option.bind_some]
                    rw [q484 _ _ hml, w64_of (n := (c : Int) + 1) (by omega) (by omega)]
                    simp only [Option.bind_some]
                    unfold lineB
                    cases hr : rowB (mine s.Jobs (c : Int)) s.Timer.Channels[c]
                    · rfl
                    · simp only [Bool.not_true, cond_false, Bool.true_and]
                      rw [cut_ref s.Timer.Now s.Engine.Order.length (mine s.Jobs (c : Int)) (c : Int) s.Timer.Channels[c] (fun j hm => q425 hj hm) hr (by omega) (by omega)]
                      cases s.Cut
                      · rfl
                      · simp only [cond_true, Option.bind_some, Bool.not_true, Bool.false_or]
                        cases cutB s.Timer.Now (mine s.Jobs (c : Int)) <;> rfl)
                  rw [show ((0 : Nat) : Int) = 0 from rfl] at k
                  rw [k]
                  cases (List.range' 0 s.Timer.Channels.length).all fun c => match s.Timer.Channels[c]? with | some x => lineB s (c : Int) x | none => false <;> rfl
end Go.Pv.Sc
set_option linter.unusedSimpArgs false
namespace Go.Pv.R1
open Go Go.Pv
theorem u64w {n : Int} (h0 : 0 ≤ n) (h1 : n < 18446744073709551616) : IntKind.u64.wrap n = n := by
  unfold IntKind.wrap
  simp only [IntKind.bits, IntKind.signed]
  simp only [show (2 : Int) ^ 64 = 18446744073709551616 from rfl, Bool.false_and, Bool.false_eq_true, if_false]
  omega
theorem q334 {n : Nat} (h0 : 0 < n) (h1 : n < 18446744073709551616) : IntKind.u64.wrap (-(n : Int)) = 18446744073709551616 - (n : Int) := by
  unfold IntKind.wrap
  simp only [IntKind.bits, IntKind.signed]
  simp only [show (2 : Int) ^ 64 = 18446744073709551616 from rfl, Bool.false_and, Bool.false_eq_true, if_false]
  omega
theorem w64_hi {n : Nat} (h0 : 0 < n) (h1 : n ≤ 9223372036854775808) : w64 (18446744073709551616 - (n : Int)) = -(n : Int) := by
  unfold w64 IntKind.wrap
  simp only [IntKind.bits, IntKind.signed]
  simp only [show (2 : Int) ^ 64 = 18446744073709551616 from rfl, show (2 : Int) ^ (64 - 1) = 9223372036854775808 from rfl, Bool.true_and, decide_eq_true_eq]
  split <;> omega
theorem size_eq (a : Int) (h0 : -4611686018427387904 ≤ a) (h1 : a ≤ 4611686018427387904) : q126 a = some (a.natAbs : Int) := by
  unfold q126
  by_cases h : a < 0
  · rw [decide_eq_true h]
    simp only [cond_true, Option.some.injEq]
    obtain ⟨n, rfl⟩ : ∃ n : Nat, a = -(n : Int) := ⟨a.natAbs, by omega⟩
    rw [q334 (by omega) (by omega)]
    have : (0 : Int) - (18446744073709551616 - (n : Int)) = -((18446744073709551616 - n : Nat) : Int) := by omega
    rw [this, q334 (by omega) (by omega)]
    omega
  · rw [decide_eq_false h]
    simp only [cond_false, Option.some.injEq]
    rw [u64w (by omega) (by omega)]
    omega
theorem q331 (x m k : Nat) (hx : x < 18446744073709551616) (hm : m = 2 ^ k - 1) (hk : k ≤ 63) : bitAnd .u64 (x : Int) (m : Int) = ((x % 2 ^ k : Nat) : Int) := by
  have hp : 2 ^ k ≤ 2 ^ 63 := Nat.pow_le_pow_right (by decide) hk
  have hp0 : 0 < 2 ^ k := Nat.pow_pos (by decide)
  have e : (BitVec.ofInt 64 (x : Int) &&& BitVec.ofInt 64 (m : Int)).toNat = x % 2 ^ k := by
    rw [BitVec.toNat_and]
    have e1 : (BitVec.ofInt 64 (x : Int)).toNat = x := by simp [BitVec.toNat_ofInt]; omega
    have e2 : (BitVec.ofInt 64 (m : Int)).toNat = m := by simp [BitVec.toNat_ofInt]; omega
    rw [e1, e2, hm, Nat.and_two_pow_sub_one_eq_mod]
  show IntKind.u64.wrap ((BitVec.ofInt 64 (x : Int) &&& BitVec.ofInt 64 (m : Int)).toNat : Int) = _
  rw [e]
  have : x % 2 ^ k < 2 ^ k := Nat.mod_lt _ hp0
  exact u64w (by omega) (by omega)
theorem shr_nat (x i : Nat) (hi : i ≤ 63) : bitShr .u64 (x : Int) (i : Int) = ((x / 2 ^ i : Nat) : Int) := by
  unfold bitShr
  have e : (min (Int.toNat (i : Int)) IntKind.u64.bits) = i := by show min (Int.toNat (i : Int)) 64 = i; omega
  rw [e]
  have : (2 : Int) ^ i = ((2 ^ i : Nat) : Int) := by simp
  rw [this]
  rw [Int.fdiv_eq_ediv_of_nonneg (x : Int) (Int.natCast_nonneg _)]
  rfl
theorem shl_nat (x i : Nat) (hi : i ≤ 63) (h : x * 2 ^ i < 18446744073709551616) : bitShl .u64 (x : Int) (i : Int) = ((x * 2 ^ i : Nat) : Int) := by
  unfold bitShl
  have e : (min (Int.toNat (i : Int)) IntKind.u64.bits) = i := by show min (Int.toNat (i : Int)) 64 = i; omega
  rw [e]
  have : (x : Int) * (2 : Int) ^ i = ((x * 2 ^ i : Nat) : Int) := by simp
  rw [this]
  exact u64w (by omega) (by omega)
theorem q502 (x : Nat) (hx : x < 9223372036854775808) : q206 (x : Int) 1 = some ⟨0, (x : Int)⟩ := by
  unfold q206
  have a1 : bitShr .u64 (x : Int) 32 = ((x / 4294967296 : Nat) : Int) := shr_nat x 32 (by decide)
  have a2 : bitAnd .u64 (x : Int) 4294967295 = ((x % 4294967296 : Nat) : Int) := q331 x 4294967295 32 (by omega) (by decide) (by decide)
  have a3 : bitShr .u64 1 32 = 0 := by decide
  have a4 : bitAnd .u64 1 4294967295 = 1 := by decide
  rw [a1, a2, a3, a4]
  generalize hh : x / 4294967296 = h
  generalize hl : x % 4294967296 = l
  have hx2 : x = 4294967296 * h + l := by have := Nat.div_add_mod x 4294967296; omega
  have hl2 : l < 4294967296 := by have := Nat.mod_lt x (show 4294967296 > 0 by decide); omega
  have hh2 : h < 2147483648 := by omega
  simp only [Int.mul_zero, Int.mul_one]
  have e0 : IntKind.u64.wrap 0 = 0 := by decide
  have el : IntKind.u64.wrap (l : Int) = (l : Int) := u64w (by omega) (by omega)
  have eh : IntKind.u64.wrap (h : Int) = (h : Int) := u64w (by omega) (by omega)
  rw [el, eh, e0]
  have b1 : bitShr .u64 (l : Int) 32 = 0 := by
    have := shr_nat l 32 (by decide)
    rw [show ((32 : Nat) : Int) = 32 from rfl, Nat.div_eq_of_lt (by omega)] at this
    exact this
  rw [b1]
  simp only [Int.add_zero]
  rw [eh]
  have b2 : bitShr .u64 (h : Int) 32 = 0 := by
    have := shr_nat h 32 (by decide)
    rw [show ((32 : Nat) : Int) = 32 from rfl, Nat.div_eq_of_lt (by omega)] at this
    exact this
  have b3 : bitAnd .u64 (h : Int) 4294967295 = (h : Int) := by
    have := q331 h 4294967295 32 (by omega) (by decide) (by decide)
    rw [Nat.mod_eq_of_lt (by omega)] at this
    exact this
  have b4 : bitAnd .u64 (l : Int) 4294967295 = (l : Int) := by
    have := q331 l 4294967295 32 (by omega) (by decide) (by decide)
    rw [Nat.mod_eq_of_lt (by omega)] at this
    exact this
  rw [b2, b3, b4]
  simp only [Int.zero_add, Int.add_zero]
  rw [eh, b2, e0]
  have b5 : bitShl .u64 (h : Int) 32 = ((h * 4294967296 : Nat) : Int) := shl_nat h 32 (by decide) (by omega)
  rw [b5]
  have : (((h * 4294967296 : Nat) : Int) + (l : Int)) = (x : Int) := by omega
  rw [this]
  have ex : IntKind.u64.wrap (x : Int) = (x : Int) := u64w (by omega) (by omega)
  rw [ex]
  rfl
theorem q492 (x c N : Nat) (i : Nat) (hi : i ≤ 63) (hx : x < 9223372036854775808) (hc0 : 0 < c) (hc : c ≤ 4611686018427387904) (hN : N = x / 2 ^ (i + 1)) :
    q88 ⟨0, (x : Int)⟩ (c : Int) (((N % c : Nat) : Int), ((N / c : Nat) : Int), (i : Int)) = some (.inl (((x / 2 ^ i % c : Nat) : Int), ((x / 2 ^ i / c : Nat) : Int), (i : Int) - 1)) := by
  have hbit : x / 2 ^ i = 2 * N + x / 2 ^ i % 2 := by
    have h1 : x / 2 ^ (i + 1) = x / 2 ^ i / 2 := by rw [Nat.pow_succ, Nat.div_div_eq_div_mul]
    rw [hN, h1]; omega
  have hNx : N ≤ x / 2 ^ i := by omega
  have hxi : x / 2 ^ i ≤ x := Nat.div_le_self _ _
  generalize hM : x / 2 ^ i = M at hbit hNx hxi
  have hr : N % c < c := Nat.mod_lt _ hc0
  have hdm := Nat.div_add_mod N c
  have hq : N / c ≤ N := Nat.div_le_self _ _
  generalize hrr : N % c = r at hr hdm
  generalize hqq : N / c = q at hq hdm
  have hb2 : M % 2 < 2 := Nat.mod_lt _ (by decide)
  generalize hbb : M % 2 = b at hb2 hbit
  unfold q88
  simp only
  have e1 : decide ((i : Int) ≥ 0) = true := by simp
  have e2 : IntKind.u64.wrap (i : Int) = (i : Int) := u64w (by omega) (by omega)
  have e3 : shrM .u64 (x : Int) (i : Int) = some ((M : Nat) : Int) := by
    unfold shrM
    rw [if_neg (by omega), shr_nat x i hi, hM]
  have e4 : bitShr .u64 (r : Int) 63 = 0 := by
    have := shr_nat r 63 (by decide)
    rw [show ((63 : Nat) : Int) = 63 from rfl, Nat.div_eq_of_lt (by omega)] at this
    exact this
  have e5 : bitShl .u64 (r : Int) 1 = ((r * 2 : Nat) : Int) := shl_nat r 1 (by decide) (by omega)
  have e6 : bitAnd .u64 (M : Int) 1 = ((b : Nat) : Int) := by
    have := q331 M 1 1 (by omega) (by decide) (by decide)
    rw [show ((1 : Nat) : Int) = 1 from rfl, Nat.pow_one, hbb] at this
    exact this
  have e7 : bitShl .u64 (q : Int) 1 = ((q * 2 : Nat) : Int) := shl_nat q 1 (by decide) (by omega)
  rw [e1, e2, e3]
  simp only [cond_true, Option.bind_some]
  rw [e4, e5, e6, e7]
  have e8 : IntKind.u64.wrap (((r * 2 : Nat) : Int) + (b : Int)) = ((r * 2 + b : Nat) : Int) := by rw [u64w (by omega) (by omega)]; omega
  rw [e8, w64_of (n := (i : Int) - 1) (by omega) (by omega)]
  simp only [show ((0 : Int) == 1) = false from rfl, Bool.false_or]
  -- the next quotient and remainder
  have hM2 : M = c * (2 * q) + (r * 2 + b) := by
    have : c * (2 * q) = 2 * (c * q) := by rw [← Nat.mul_assoc, Nat.mul_comm c 2, Nat.mul_assoc]
    omega
  by_cases hge : r * 2 + b ≥ c
  · have e9 : decide (((r * 2 + b : Nat) : Int) ≥ (c : Int)) = true := by simp; omega
    rw [e9]
    simp only [cond_true]
    have hM3 : M = (r * 2 + b - c) + c * (2 * q + 1) := by rw [Nat.mul_add, Nat.mul_one]; omega
    have h1 : M % c = r * 2 + b - c := by rw [hM3, Nat.add_mul_mod_self_left, Nat.mod_eq_of_lt (by omega)]
    have h2 : M / c = 2 * q + 1 := by rw [hM3, Nat.add_mul_div_left _ _ hc0, Nat.div_eq_of_lt (by omega)]; omega
    rw [h1, h2, u64w (n := ((r * 2 + b : Nat) : Int) - (c : Int)) (by omega) (by omega), u64w (n := ((q * 2 : Nat) : Int) + 1) (by omega) (by omega)]
    congr 3
    · omega
    · congr 1; omega
  · have e9 : decide (((r * 2 + b : Nat) : Int) ≥ (c : Int)) = false := by simp; omega
    rw [e9]
    simp only [cond_false]
    have hM3 : M = (r * 2 + b) + c * (2 * q) := by omega
    have h1 : M % c = r * 2 + b := by rw [hM3, Nat.add_mul_mod_self_left, Nat.mod_eq_of_lt (by omega)]
    have h2 : M / c = 2 * q := by rw [hM3, Nat.add_mul_div_left _ _ hc0, Nat.div_eq_of_lt (by omega)]; omega
    rw [h1, h2]
    congr 4
    omega
theorem q417 (x c : Nat) (hx : x < 9223372036854775808) (hc0 : 0 < c) (hc : c ≤ 4611686018427387904) : ∀ (k : Nat), k ≤ 64 →
    loopM (q88 ⟨0, (x : Int)⟩ (c : Int)) (((x / 2 ^ k % c : Nat) : Int), ((x / 2 ^ k / c : Nat) : Int), (k : Int) - 1) = some (.inl (((x % c : Nat) : Int), ((x / c : Nat) : Int), -1))
  | 0, _ => by
    simp only [Nat.pow_zero, Nat.div_one]
    refine loopM_out ?_
    unfold q88
    rfl
  | k + 1, hk => by
    have e : ((k + 1 : Nat) : Int) - 1 = (k : Int) := by omega
    rw [e, loopM_next (q492 x c (x / 2 ^ (k + 1)) k (by omega) hx hc0 hc rfl)]
    exact q417 x c hx hc0 hc k (by omega)
theorem over_eq (x c : Nat) (hx : x < 9223372036854775808) (hc0 : 0 < c) (hc : c ≤ 4611686018427387904) : q213 ⟨0, (x : Int)⟩ (c : Int) = some (((x / c : Nat) : Int), ((x % c : Nat) : Int), true) := by
  unfold q213
  have e : decide ((0 : Int) ≥ (c : Int)) = false := by simp; omega
  simp only [e, cond_false]
  have := q417 x c hx hc0 hc 64 (by decide)
  have h0 : x / 2 ^ 64 = 0 := Nat.div_eq_of_lt (by omega)
  rw [h0, Nat.zero_mod, Nat.zero_div] at this
  rw [show ((64 : Nat) : Int) - 1 = 63 from rfl, show ((0 : Nat) : Int) = 0 from rfl] at this
  rw [this]
  rfl
theorem q503 (a c : Int) (h0 : -4611686018427387904 ≤ a) (h1 : a ≤ 4611686018427387904) (hc0 : 0 < c) (hc : c ≤ 4611686018427387904) : q195 a c = some (a / c) := by
  unfold q195 q285 q250
  have e0 : (c == 0) = false := by simp; omega
  rw [e0, size_eq a h0 h1, size_eq c (by omega) hc, size_eq 1 (by decide) (by decide)]
  obtain ⟨k, rfl⟩ : ∃ k : Nat, c = k := ⟨c.toNat, by omega⟩
  obtain ⟨m, hm⟩ : ∃ m : Nat, a.natAbs = m := ⟨_, rfl⟩
  rw [hm]
  have hk : ((k : Int).natAbs : Int) = (k : Int) := by omega
  simp only [show (((1 : Int) != 1) && ((1 : Int) != 2)) = false from rfl, Bool.false_and, cond_false, Option.bind_some, hk, show ((Int.natAbs 1 : Nat) : Int) = 1 from rfl]
  rw [q502 m (by omega)]
  simp only [Option.bind_some]
  rw [over_eq m k (by omega) (by omega) (by omega)]
  simp only [Option.bind_some, Bool.not_true, cond_false, show ((1 : Int) == 1) = true from rfl, cond_true]
  have hq : m / k ≤ m := Nat.div_le_self _ _
  have hdm := Nat.div_add_mod m k
  have hr := Nat.mod_lt m (show k > 0 by omega)
  generalize m / k = q at hq hdm
  generalize m % k = r at hr hdm
  have hck : decide ((k : Int) < 0) = false := by simp
  have h1' : decide ((1 : Int) < 0) = false := rfl
  rw [hck, h1', show ((1 : Int) != 0) = true from rfl]
  by_cases ha : a < 0
  · have e1 : decide (a < 0) = true := by simp [ha]
    have e2 : (a != 0) = true := by simp; omega
    rw [e1, e2]
    simp only [Bool.and_self, show (!((!(true == false)) == false)) = true from rfl, Bool.and_true, Bool.true_and]
    have hneg : a = -((k * q + r : Nat) : Int) := by omega
    by_cases hr0 : r = 0
    · subst hr0
      simp only [show decide (((0 : Nat) : Int) > 0) = false from rfl, cond_false, Option.bind_some, cond_true]
      have e3 : decide ((q : Int) > 9223372036854775808) = false := decide_eq_false (by omega)
      rw [e3]
      simp only [cond_false, Option.bind_some, Option.some.injEq]
      have e4 : a / (k : Int) = -(q : Int) := by
        rw [hneg, Nat.add_zero]
        have : (-((k * q : Nat) : Int)) = (k : Int) * (-(q : Int)) := by rw [Int.mul_neg]; push_cast; rfl
        rw [this, Int.mul_ediv_cancel_left _ (by omega)]
      rw [e4]
      rcases Nat.eq_zero_or_pos q with hq0 | hq0
      · subst hq0; decide
      · rw [show (0 : Int) - (q : Int) = -(q : Int) by omega, q334 hq0 (by omega)]
        exact w64_hi hq0 (by omega)
    · have e3 : decide ((r : Int) > 0) = true := by simp; omega
      rw [e3]
      have e4 : ((q : Int) == 18446744073709551615) = false := beq_eq_false_iff_ne.2 (by omega)
      simp only [cond_true, e4, cond_false, Option.bind_some]
      rw [u64w (n := (q : Int) + 1) (by omega) (by omega)]
      have e5 : decide ((q : Int) + 1 > 9223372036854775808) = false := decide_eq_false (by omega)
      rw [e5]
      simp only [cond_false, Option.bind_some, Option.some.injEq]
      have e6 : a / (k : Int) = -(q : Int) - 1 := by
        have : a = (k : Int) * (-(q : Int) - 1) + ((k - r : Nat) : Int) := by
          have h5 : (k : Int) * (-(q : Int) - 1) = -((k * q : Nat) : Int) - (k : Int) := by rw [Int.mul_sub, Int.mul_neg, Int.mul_one]; push_cast; rfl
          rw [h5, hneg]; omega
        rw [this, Int.add_comm, Int.add_mul_ediv_left _ _ (by omega), Int.ediv_eq_zero_of_lt (by omega) (by omega)]
        omega
      rw [e6]
      rw [show (0 : Int) - ((q : Int) + 1) = -((q + 1 : Nat) : Int) by omega, q334 (by omega) (by omega)]
      rw [w64_hi (by omega) (by omega)]
      omega
  · have e1 : decide (a < 0) = false := by simp; omega
    rw [e1]
    simp only [show (!((!(false == false)) == false)) = false from rfl, Bool.and_false, cond_false, Option.bind_some, Bool.false_and]
    have e3 : decide ((q : Int) ≥ 9223372036854775808) = false := decide_eq_false (by omega)
    rw [e3]
    simp only [cond_false, Option.bind_some, Option.some.injEq]
    rw [w64_of (by omega) (by omega)]
    have : a = ((k * q + r : Nat) : Int) := by omega
    rw [this]
    have e4 : ((k * q + r : Nat) : Int) = (r : Int) + (k : Int) * (q : Int) := by push_cast; omega
    rw [e4, Int.add_mul_ediv_left _ _ (by omega), Int.ediv_eq_zero_of_lt (by omega) (by omega)]
    omega
end Go.Pv.R1
