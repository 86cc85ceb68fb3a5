/- This file joins: Ties, printed by gen.py: each function of the loaded program computes its model. -/
import Derived.Test.YtalanclpiojanaaGreatControlRunsF
import Derived.Test.YtalanclpiojanaaGreatProg
import Derived.KernelRfl
set_option linter.unusedSimpArgs false
set_option linter.unusedVariables false
namespace Go.Proofs.YtalanclpiojanaaGreat
open Go Go.Pv Go.Proofs
set_option maxRecDepth 100000 in
theorem q61 (x : Int) (low : Int) (high : Int) : TieF Tryz.prog 162 [.t (tI x), .t (tI low), .t (tI high)] (q75 x low high) (fun r => .t (tB r)) := by
 refine TieF.intro htab 15 [.tmp 6] Tryz.call162 Tryz.func162 rfl rfl rfl (Nat.le_of_ble_eq_true rfl) fun w0 L => ?_
 refine TieS.seq (.region (.run 1 rfl (.nil (.seq ?_))))
 refine TieS.region (.run 4 rfl (.selAnd (v := decide (x ≤ high)) 4 10 (fun b => ⟨[(14, .t (tB b))], []⟩) rfl ?_ ?_ ?_))
 ·exact TieO.run 4 rfl (.nil (.leaf ⟨rfl, .of rfl rfl⟩))
 ·exact TieO.run 4 rfl (.nil (.leaf ⟨rfl, .of rfl rfl⟩))
 exact TieO.run 1 rfl (.nil (.ret ⟨.inl rfl, rfl⟩))
set_option maxRecDepth 100000 in
theorem q342 (b2 : SBody) : TieF Tryz.prog 81 [A_SBody b2] (q213 b2) (fun r => .t (tB r)) := by
 refine TieF.intro htab 36 [.tmp 2] Tryz.call81 Tryz.func81 rfl rfl rfl (Nat.le_of_ble_eq_true rfl) fun w0 L => ?_
 refine TieS.seq (.region (.run 2 rfl (.nil (.seq ?_))))
 refine TieS.region (.run 2 rfl (.call _ rfl rfl rfl (q61 b2.Inertia 100 1048576) (fun _ => rfl) fun v => .run 1 rfl (.bind 4 (fun b3 => ⟨[(1, .ptr 1 0), (10, .t (tB b3))], [(1, .box [.t (tI b2.Inertia), .t (tI b2.Friction), .t (tI b2.Volume), .t (tI b2.Throttle), .t (tI b2.Film), .t (tI b2.Evaporate), .t (tI b2.Delay)])]⟩) (TieO.split 6 rfl ?_ ?_) fun b3 _ => ?_)))
 ·exact TieO.run 2 rfl (.call _ rfl rfl rfl (q61 b2.Friction 0 65536) (fun _ => rfl) fun v2 => .run 1 rfl (.nil (.leaf ⟨rfl, .of rfl rfl⟩)))
 ·exact TieO.run 4 rfl (.nil (.leaf ⟨rfl, .of rfl rfl⟩))
 refine TieO.run 1 rfl (.bind 4 (fun b4 => ⟨[(1, .ptr 1 0), (15, .t (tB b4))], [(1, .box [.t (tI b2.Inertia), .t (tI b2.Friction), .t (tI b2.Volume), .t (tI b2.Throttle), .t (tI b2.Film), .t (tI b2.Evaporate), .t (tI b2.Delay)])]⟩) (TieO.split 11 rfl ?_ ?_) fun b4 _ => ?_)
 ·exact TieO.run 2 rfl (.call _ rfl rfl rfl (q61 b2.Throttle 0 65536) (fun _ => rfl) fun v3 => .run 1 rfl (.nil (.leaf ⟨rfl, .of rfl rfl⟩)))
 ·exact TieO.run 4 rfl (.nil (.leaf ⟨rfl, .of rfl rfl⟩))
 refine TieO.run 1 rfl (.bind 4 (fun b5 => ⟨[(1, .ptr 1 0), (20, .t (tB b5))], [(1, .box [.t (tI b2.Inertia), .t (tI b2.Friction), .t (tI b2.Volume), .t (tI b2.Throttle), .t (tI b2.Film), .t (tI b2.Evaporate), .t (tI b2.Delay)])]⟩) (TieO.split 16 rfl ?_ ?_) fun b5 _ => ?_)
 ·exact TieO.run 2 rfl (.call _ rfl rfl rfl (q61 b2.Volume 1 65536) (fun _ => rfl) fun v4 => .run 1 rfl (.nil (.leaf ⟨rfl, .of rfl rfl⟩)))
 ·exact TieO.run 4 rfl (.nil (.leaf ⟨rfl, .of rfl rfl⟩))
 refine TieO.run 1 rfl (.bind 4 (fun b6 => ⟨[(1, .ptr 1 0), (25, .t (tB b6))], [(1, .box [.t (tI b2.Inertia), .t (tI b2.Friction), .t (tI b2.Volume), .t (tI b2.Throttle), .t (tI b2.Film), .t (tI b2.Evaporate), .t (tI b2.Delay)])]⟩) (TieO.split 21 rfl ?_ ?_) fun b6 _ => ?_)
 ·exact TieO.run 2 rfl (.call _ rfl rfl rfl (q61 b2.Film 0 1023) (fun _ => rfl) fun v5 => .run 1 rfl (.nil (.leaf ⟨rfl, .of rfl rfl⟩)))
 ·exact TieO.run 4 rfl (.nil (.leaf ⟨rfl, .of rfl rfl⟩))
 refine TieO.run 1 rfl (.bind 4 (fun b7 => ⟨[(1, .ptr 1 0), (30, .t (tB b7))], [(1, .box [.t (tI b2.Inertia), .t (tI b2.Friction), .t (tI b2.Volume), .t (tI b2.Throttle), .t (tI b2.Film), .t (tI b2.Evaporate), .t (tI b2.Delay)])]⟩) (TieO.split 26 rfl ?_ ?_) fun b7 _ => ?_)
 ·exact TieO.run 2 rfl (.call _ rfl rfl rfl (q61 b2.Evaporate 1 1024) (fun _ => rfl) fun v6 => .run 1 rfl (.nil (.leaf ⟨rfl, .of rfl rfl⟩)))
 ·exact TieO.run 4 rfl (.nil (.leaf ⟨rfl, .of rfl rfl⟩))
 refine TieO.run 1 rfl (.bind 4 (fun b8 => ⟨[(35, .t (tB b8))], []⟩) (TieO.split 31 rfl ?_ ?_) fun b8 _ => ?_)
 ·exact TieO.run 2 rfl (.call _ rfl rfl rfl (q61 b2.Delay 0 20) (fun _ => rfl) fun v7 => .run 1 rfl (.nil (.leaf ⟨rfl, .of rfl rfl⟩)))
 ·exact TieO.run 4 rfl (.nil (.leaf ⟨rfl, .of rfl rfl⟩))
 exact TieO.run 1 rfl (.nil (.ret ⟨.inl rfl, rfl⟩))
set_option maxRecDepth 100000 in
theorem q255 (n2 : Int) : TieF Tryz.prog 109 [.t (tI n2)] (q131 n2) (fun r => .t (tB r)) := by
 refine TieF.intro htab 9 [.tmp 2] Tryz.call109 Tryz.func109 rfl rfl rfl (Nat.le_of_ble_eq_true rfl) fun w0 L => ?_
 refine TieS.seq (.region (.run 1 rfl (.nil (.seq ?_))))
 refine TieS.region (.run 3 rfl (.selAnd (v := decide (n2 ≤ 12000)) 3 5 (fun b => ⟨[(8, .t (tB b))], []⟩) rfl ?_ ?_ ?_))
 ·exact TieO.run 3 rfl (.nil (.leaf ⟨rfl, .of rfl rfl⟩))
 ·exact TieO.run 3 rfl (.nil (.leaf ⟨rfl, .of rfl rfl⟩))
 exact TieO.run 1 rfl (.nil (.ret ⟨.inl rfl, rfl⟩))
set_option maxRecDepth 100000 in
theorem q48 (coolant : Int) : TieF Tryz.prog 36 [.t (tI coolant)] (q215 coolant) (fun r => .t (tI r)) := by
 refine TieF.intro htab 14 [.tmp 2] Tryz.call36 Tryz.func36 rfl rfl rfl (Nat.le_of_ble_eq_true rfl) fun w0 L => ?_
 refine TieS.seq (.region (.run 1 rfl (.nil (.seq ?_))))
 refine TieS.block (.seq (.region (.run 3 rfl (.nil ?_))))
 refine TieS.cond rfl ?_ ?_
 ·exact TieS.seq (.region (.run 1 rfl (.nil (.ret ⟨.inl rfl, rfl⟩))))
 ·refine TieS.seq (.region (.run 3 rfl (.nil (.cond rfl ?_ ?_))))
  ·exact TieS.seq (.region (.run 1 rfl (.nil (.ret ⟨.inl rfl, rfl⟩))))
  ·refine TieS.skip (.endb (.seq (.region (.run 6 rfl ?_))))
   exact TieO.nil (.ret ⟨.inl rfl, rfl⟩)
set_option maxRecDepth 100000 in
theorem q483 (speed : Int) (coolant : Int) : TieF Tryz.prog 110 [.t (tI speed), .t (tI coolant)] (q404 speed coolant) (fun r => .t (tB r)) := by
 refine TieF.intro htab 10 [.tmp 4] Tryz.call110 Tryz.func110 rfl rfl rfl (Nat.le_of_ble_eq_true rfl) fun w0 L => ?_
 refine TieS.seq (.region (.run 1 rfl (.nil (.seq ?_))))
 refine TieS.region (.run 2 rfl (.call _ rfl rfl rfl (q48 coolant) (fun _ => rfl) fun v => .run 3 rfl (.nil ?_)))
 exact TieS.ret ⟨.inl rfl, rfl⟩
set_option maxRecDepth 100000 in
theorem q452 (pedal : Int) (speed : Int) (coolant : Int) : TieF Tryz.prog 25 [.t (tI pedal), .t (tI speed), .t (tI coolant)] (q279 pedal speed coolant) (fun r => .t (tB r)) := by
 refine TieF.intro htab 22 [.tmp 6] Tryz.call25 Tryz.func25 rfl rfl rfl (Nat.le_of_ble_eq_true rfl) fun w0 L => ?_
 refine TieS.seq (.region (.run 1 rfl (.nil (.seq ?_))))
 refine TieS.region (.run 3 rfl (.selAnd (v := decide (pedal < 20)) 3 9 (fun b => ⟨[(1, .t (tI speed)), (2, .t (tI coolant)), (12, .t (tB b))], []⟩) rfl ?_ ?_ ?_))
 ·exact TieO.run 3 rfl (.nil (.leaf ⟨rfl, .of rfl rfl⟩))
 ·exact TieO.run 3 rfl (.nil (.leaf ⟨rfl, .of rfl rfl⟩))
 refine TieO.run 1 rfl (.bind 3 (fun b2 => ⟨[(1, .t (tI speed)), (2, .t (tI coolant)), (16, .t (tB b2))], []⟩) (TieO.split 13 rfl ?_ ?_) fun b2 _ => ?_)
 ·exact TieO.run 1 rfl (.call _ rfl rfl rfl (q255 speed) (fun _ => rfl) fun v => .run 1 rfl (.nil (.leaf ⟨rfl, .of rfl rfl⟩)))
 ·exact TieO.run 3 rfl (.nil (.leaf ⟨rfl, .of rfl rfl⟩))
 refine TieO.run 1 rfl (.bind 4 (fun b3 => ⟨[(21, .t (tB b3))], []⟩) (TieO.split 17 rfl ?_ ?_) fun b3 _ => ?_)
 ·exact TieO.run 2 rfl (.call _ rfl rfl rfl (q483 speed coolant) (fun _ => rfl) fun v2 => .run 1 rfl (.nil (.leaf ⟨rfl, .of rfl rfl⟩)))
 ·exact TieO.run 4 rfl (.nil (.leaf ⟨rfl, .of rfl rfl⟩))
 exact TieO.run 1 rfl (.nil (.ret ⟨.inl rfl, rfl⟩))
set_option maxRecDepth 100000 in
theorem q24 (x : Int) (low : Int) (high : Int) : TieF Tryz.prog 111 [.t (tI x), .t (tI low), .t (tI high)] (q27 x low high) (fun r => .t (tI r)) := by
 refine TieF.intro htab 12 [.tmp 6] Tryz.call111 Tryz.func111 rfl rfl rfl (Nat.le_of_ble_eq_true rfl) fun w0 L => ?_
 refine TieS.seq (.region (.run 1 rfl (.nil (.seq ?_))))
 exact TieS.region (.run 6 rfl (.nil (.ret ⟨.inl rfl, rfl⟩)))
set_option maxRecDepth 100000 in
theorem q91 (n2 : Int) (n3 : Nat) (cs : List (List Tree)) (f2 : Int → Option Bool) (h2 : ∀ x0, TieF Tryz.prog n3 ([.t (tI x0)] ++ cs.map T.el) (f2 x0) (fun r => .t (tB r))) : TieF Tryz.prog 224 [.t (tI n2), .fz n3 cs] (q46 n2 f2) (fun r => .t (tI r)) := by
 refine TieF.intro htab 26 [.tmp 4] Tryz.call224 Tryz.func224 rfl rfl rfl (Nat.le_of_ble_eq_true rfl) fun w0 L => ?_
 refine TieS.seq (.region (.run 1 rfl (.nil (.seq ?_))))
 refine TieS.region (.run 3 rfl (.nil (.seq (.block ?_))))
 refine TieS.loop (fun t => ⟨[(1, .fz n3 cs), (5, .t (tI t.1)), (6, .t (tI t.2))], []⟩) (fun b e σ' => match b with | .inl t => e = .exit 0 ∧ Sub ⟨[(5, .t (tI t.1))], []⟩ σ' | .inr t => False) (.of rfl rfl) ?_ ?_
 ·intro s
  refine TieS.seq (.seq (.region (.run 3 rfl (.nil ?_))))
  refine TieS.cond rfl ?_ ?_
  ·refine TieS.skip (.block (.seq (.region (.run 7 rfl ?_))))
   refine TieO.nil (.seq (.region (.run 2 rfl (.call _ rfl rfl rfl (h2 (w64 (bitShr .u64 (IntKind.u64.wrap (w64 (s.1 + s.2))) 1))) (fun _ => rfl) fun v => ?_))))
   refine TieO.run 1 rfl (.nil (.cond rfl ?_ ?_))
   ·exact TieS.region (.run 3 rfl (.nil (.endb (.leaf ⟨rfl, .of rfl rfl⟩))))
   ·exact TieS.region (.run 2 rfl (.nil (.endb (.leaf ⟨rfl, .of rfl rfl⟩))))
  ·exact TieS.exitOut rfl ⟨(fun h => by cases h), rfl, .of rfl rfl⟩
 rintro (s2 | r) e σ' _ hq
 ·obtain ⟨rfl, hs⟩ := hq
  refine TieX.exit rfl (TieX.sub hs ?_)
  exact TieS.seq (.region (.run 2 rfl (.nil (.ret ⟨.inl rfl, rfl⟩))))
 ·exact hq.elim
set_option maxRecDepth 100000 in
theorem q360 (i : Int) (c : List Int) (c2 : Int) : TieF Tryz.prog 268 [.t (tI i), .el ((Pv.encS Pv.encI) c), .el (Pv.encI c2)] (q100 i c c2) (fun r => .t (tB r)) := by
 refine TieF.intro htab 11 [.tmp 4] Tryz.call268 Tryz.func268 rfl rfl rfl (Nat.le_of_ble_eq_true rfl) fun w0 L => ?_
 refine TieS.seq (.region (.run 1 rfl (.nil (.seq ?_))))
 exact TieX.pre fun x hx => TieS.draw 7 [_, _, _, _, _, _, _] [(0, .t (tI i)), (1, .el ((Pv.encS Pv.encI) c)), (2, .el (Pv.encI c2))] [] mixed (.of rfl rfl) rfl rfl rfl rfl (.cons (.quiet rfl rfl rfl) (.cons (.quiet rfl rfl rfl) (.cons (.index hx rfl rfl rfl rfl rfl rfl (fun _ => rfl)) (.cons (.quiet rfl rfl rfl) (.cons (.quiet rfl rfl rfl) (.cons (.quiet rfl rfl rfl) (.cons (.quiet rfl rfl rfl) (.nil)))))))) (.nil (.ret ⟨.inl rfl, rfl⟩))
set_option maxRecDepth 100000 in
theorem q262 (l : List Int) (x : Int) : TieF Tryz.prog 245 [.t (tS Pv.encI l), .t (tI x)] (q95 l x) (fun r => .tup [.t (tI r.1), .t (tI r.2)]) := by
 refine TieF.intro htab 29 [.tmp 4, .tmp 5] Tryz.call245 Tryz.func245 rfl rfl rfl (Nat.le_of_ble_eq_true rfl) fun w0 L => ?_
 refine TieS.seq (.region (.run 4 rfl (.nil (.seq ?_))))
 refine TieX.pre fun x2 hx2 => TieX.pre fun x3 hx3 => TieX.pre fun v hv => TieS.draw 11 [_, _, _, _, _, _, _, _, _, _, _] [(2, .ptr 2 0), (3, .ptr 3 0)] [(2, .box [.t (tS Pv.encI l)]), (3, .box [.t (tI x)])] mixed (.of rfl rfl) rfl rfl rfl rfl (.cons (.quiet rfl rfl rfl) (.cons (.quiet rfl rfl rfl) (.cons (.index hx2 rfl rfl rfl rfl rfl rfl (fun _ => rfl)) (.cons (.quiet rfl rfl rfl) (.cons (.quiet rfl rfl rfl) (.cons (.quiet rfl rfl rfl) (.cons (.quiet rfl rfl rfl) (.cons (.quiet rfl rfl rfl) (.cons (.index hx3 rfl rfl rfl rfl rfl rfl (fun _ => rfl)) (.cons (.quiet rfl rfl rfl) (.cons (.callV (q24 x x2 x3) hv rfl rfl rfl rfl) (.nil)))))))))))) (.run 1 rfl ?_)
 refine TieO.nil (.seq (.region (.run 2 rfl (.frzBox 2 rfl rfl ?_))))
 refine TieO.frzBox 3 rfl rfl (.run 1 rfl (.sub (σ' := ⟨[(2, .el ((Pv.encS Pv.encI) l)), (3, .el (Pv.encI v)), (7, .t (tI x)), (8, .t (tS Pv.encI l)), (9, .el (Pv.encI x2)), (10, .t (tI x2)), (11, .t (tS Pv.encI l)), (12, .t (tS Pv.encI l)), (13, .t (tI (l.length : Int))), (14, .t (tI (w64 ((l.length : Int) - 1)))), (15, .el (Pv.encI x3)), (16, .t (tI x3)), (17, .t (tI v)), (18, .t (tS Pv.encI l)), (19, .t (tI (l.length : Int))), (20, .fz 268 [(Pv.encS Pv.encI) l, Pv.encI v])], []⟩) (.of rfl rfl) (.call _ rfl rfl rfl (q91 (l.length : Int) 268 [(Pv.encS Pv.encI) l, Pv.encI v] (fun x0 => q100 x0 l v) (fun x0 => q360 x0 l v)) (fun _ => rfl) fun v2 => .run 2 rfl ?_)))
 exact TieO.nil (.seq (.draw 8 [_, _, _, _, _, _, _, _] [(2, .el ((Pv.encS Pv.encI) l)), (3, .el (Pv.encI v)), (6, .t (tI (w64 (v2 - 1))))] [] mixed (.of rfl rfl) rfl rfl rfl rfl (.cons (.quiet rfl rfl rfl) (.cons (.quiet rfl rfl rfl) (.cons (.quiet rfl rfl rfl) (.cons (.quiet rfl rfl rfl) (.cons (.quiet rfl rfl rfl) (.cons (.quiet rfl rfl rfl) (.cons (.quiet rfl rfl rfl) (.cons (.quiet rfl rfl rfl) (.nil))))))))) (.nil (.ret ⟨.inl rfl, rfl⟩))))
set_option maxRecDepth 100000 in
theorem q169 (n2 : Int) : TieF Tryz.prog 282 [.t (tI n2)] (q96 n2) (fun r => .t (tK .u64 r)) := by
 refine TieF.intro htab 12 [.tmp 2] Tryz.call282 Tryz.func282 rfl rfl rfl (Nat.le_of_ble_eq_true rfl) fun w0 L => ?_
 refine TieS.seq (.region (.run 1 rfl (.nil (.seq ?_))))
 refine TieS.seq (.region (.run 2 rfl (.nil (.cond rfl ?_ ?_))))
 ·exact TieS.seq (.region (.run 6 rfl (.nil (.ret ⟨.inl rfl, rfl⟩))))
 ·refine TieS.skip (.seq (.region (.run 3 rfl (.nil ?_))))
  exact TieS.ret ⟨.inl rfl, rfl⟩
set_option maxRecDepth 100000 in
def q375 : Go.Shelf.Ren := ⟨fun | 129 => 281 | n => n, fun | 3 => 3 | 4 => 4 | 5 => 5 | 9 => 9 | 46 => 199 | 53 => 225 | n => n, fun  | n => n⟩
open Go.Shelf in
theorem len64L281 : Lays.n129 Tryz.prog q375 := {
 mixed := by kernel_rfl,
 f129 := Tryz.func281.trans (congrArg some (by kernel_rfl)),
 t3 := Tryz.underlying3,
 a3 := Tryz.isAgg3,
 z3 := Tryz.sizeOf3,
 v3 := Tryz.zeroValue3,
 t4 := Tryz.underlying4,
 a4 := Tryz.isAgg4,
 z4 := Tryz.sizeOf4,
 v4 := Tryz.zeroValue4,
 t5 := Tryz.underlying5,
 a5 := Tryz.isAgg5,
 z5 := Tryz.sizeOf5,
 v5 := Tryz.zeroValue5,
 t9 := Tryz.underlying9,
 a9 := Tryz.isAgg9,
 z9 := Tryz.sizeOf9,
 v9 := Tryz.zeroValue9,
 t46 := Tryz.underlying199,
 a46 := Tryz.isAgg199,
 z46 := Tryz.sizeOf199,
 v46 := Tryz.zeroValue199,
 t53 := Tryz.underlying225,
 a53 := Tryz.isAgg225,
 z53 := Tryz.sizeOf225,
 v53 := Tryz.zeroValue225 }
theorem q380 (x : Int) : TieF Tryz.prog 281 [.t (tK .u64 x)] (q341 x) (fun r => .t (tI r)) :=
 len64_tie (ρ := q375) len64L281 Tryz.call281 x
set_option maxRecDepth 100000 in
theorem q272 (x : Int) : TieF Tryz.prog 298 [.t (tK .u64 x)] (q184 x) (fun r => .t (tI r)) := by
 refine TieF.intro htab 6 [.tmp 2] Tryz.call298 Tryz.func298 rfl rfl rfl (Nat.le_of_ble_eq_true rfl) fun w0 L => ?_
 refine TieS.seq (.region (.run 1 rfl (.nil (.seq ?_))))
 refine TieS.region (.run 1 rfl (.call _ rfl rfl rfl (q380 x) (fun _ => rfl) fun v => .run 2 rfl (.nil ?_)))
 exact TieS.ret ⟨.inl rfl, rfl⟩
set_option maxRecDepth 100000 in
theorem q382 (hi : Int) (lo : Int) (y : Int) : TieF Tryz.prog 283 [.t (tK .u64 hi), .t (tK .u64 lo), .t (tK .u64 y)] (q176 hi lo y) (fun r => .tup [.t (tK .u64 r.1), .t (tK .u64 r.2)]) := by
 refine TieF.intro htab 135 [.tmp 6, .tmp 7] Tryz.call283 Tryz.func283 rfl rfl rfl (Nat.le_of_ble_eq_true rfl) fun w0 L => ?_
 refine TieS.seq (.region (.run 2 rfl (.nil (.seq ?_))))
 refine TieS.seq (.region (.run 2 rfl (.nil (.bind (Q₁ := fun t e σ' => e = .normal ∧ Sub ⟨[(0, .t (tK .u64 hi)), (1, .t (tK .u64 lo)), (2, .t (tK .u64 y))], []⟩ σ') ?_ ?_))))
 ·refine TieS.cond rfl ?_ ?_
  ·exact TieS.region (.fail)
  ·exact TieS.skip (.leaf ⟨rfl, .of rfl rfl⟩)
 rintro s e σ' _ ⟨rfl, hs⟩
 refine TieX.sub hs (TieS.seq (.seq (.region (.run 3 rfl ?_))))
 refine TieO.nil (.bind (Q₁ := fun t e σ' => e = .normal ∧ Sub ⟨[(0, .t (tK .u64 hi)), (1, .t (tK .u64 lo)), (2, .t (tK .u64 y))], []⟩ σ') ?_ ?_)
 ·refine TieS.cond rfl ?_ ?_
  ·exact TieS.region (.fail)
  ·exact TieS.skip (.leaf ⟨rfl, .of rfl rfl⟩)
 rintro s2 e σ' _ ⟨rfl, hs⟩
 refine TieX.sub hs (TieS.seq (.seq (.region (.run 2 rfl ?_))))
 refine TieO.nil (.cond rfl ?_ ?_)
 ·refine TieS.seq (TieX.pre fun q hq => TieX.pre fun q2 hq2 => TieS.draw 8 [_, _, _, _, _, _, _, _] [(1, .t (tK .u64 lo)), (2, .t (tK .u64 y))] [] mixed (.of rfl rfl) rfl rfl rfl rfl (.cons (.quiet rfl rfl rfl) (.cons (.quiet rfl rfl rfl) (.cons (.quo hq rfl rfl rfl rfl) (.cons (.quiet rfl rfl rfl) (.cons (.quiet rfl rfl rfl) (.cons (.rem hq2 rfl rfl rfl rfl) (.cons (.quiet rfl rfl rfl) (.cons (.quiet rfl rfl rfl) (.nil))))))))) (.nil ?_))
  exact TieS.ret ⟨.inl rfl, rfl⟩
 ·refine TieS.skip (.seq (.region (.run 1 rfl (.call _ rfl rfl rfl (q272 y) (fun _ => rfl) fun v => ?_))))
  refine TieO.run 2 rfl (.nil (.seq (.region (.run 2 rfl ?_))))
  refine TieO.shl rfl rfl rfl rfl rfl rfl fun q3 => .run 1 rfl (.nil (.seq (.region ?_)))
  refine TieO.run 3 rfl (.nil (.seq (.region (.run 3 rfl ?_))))
  refine TieO.nil (.seq (.region (.run 2 rfl (.shl rfl rfl rfl rfl rfl rfl fun q4 => ?_))))
  refine TieO.run 3 rfl (.shr rfl rfl rfl rfl rfl rfl fun q5 => .run 2 rfl (.nil (.seq ?_)))
  refine TieS.region (.run 2 rfl (.shl rfl rfl rfl rfl rfl rfl fun q6 => .run 1 rfl (.nil ?_)))
  refine TieS.seq (.region (.run 3 rfl (.nil (.seq ?_))))
  refine TieS.region (.run 3 rfl (.nil (.seq (.region ?_))))
  refine TieO.run 2 rfl (.quo rfl rfl rfl rfl rfl rfl fun q7 => .run 1 rfl (.nil (.seq ?_)))
  refine TieS.region (.run 6 rfl (.nil (.seq (.block ?_))))
  refine TieS.loop (fun t => ⟨[(2, .t (tK .u64 q3)), (8, .t (tK .u64 (IntKind.u64.wrap v))), (9, .t (tK .u64 (bitShr .u64 q3 32))), (10, .t (tK .u64 (bitAnd .u64 q3 4294967295))), (11, .t (tK .u64 (bitOr .u64 q4 q5))), (13, .t (tK .u64 (bitShr .u64 q6 32))), (14, .t (tK .u64 (bitAnd .u64 q6 4294967295))), (15, .t (tK .u64 t.1)), (16, .t (tK .u64 t.2))], []⟩) (fun b e σ' => match b with | .inl t => e = .exit 0 ∧ Sub ⟨[(2, .t (tK .u64 q3)), (8, .t (tK .u64 (IntKind.u64.wrap v))), (9, .t (tK .u64 (bitShr .u64 q3 32))), (10, .t (tK .u64 (bitAnd .u64 q3 4294967295))), (11, .t (tK .u64 (bitOr .u64 q4 q5))), (13, .t (tK .u64 (bitShr .u64 q6 32))), (14, .t (tK .u64 (bitAnd .u64 q6 4294967295))), (15, .t (tK .u64 t.1))], []⟩ σ' | .inr t => False) (.of rfl rfl) ?_ ?_
  ·intro s3
   refine TieS.seq (.seq (.region (.run 3 rfl (.selOr (v := decide ((IntKind.u64.wrap (s3.1 * (bitAnd .u64 q3 4294967295))) > (IntKind.u64.wrap ((IntKind.u64.wrap (4294967296 * s3.2)) + (bitShr .u64 q6 32))))) 9 69 (fun b => ⟨[(2, .t (tK .u64 q3)), (8, .t (tK .u64 (IntKind.u64.wrap v))), (9, .t (tK .u64 (bitShr .u64 q3 32))), (10, .t (tK .u64 (bitAnd .u64 q3 4294967295))), (11, .t (tK .u64 (bitOr .u64 q4 q5))), (13, .t (tK .u64 (bitShr .u64 q6 32))), (14, .t (tK .u64 (bitAnd .u64 q6 4294967295))), (15, .t (tK .u64 s3.1)), (16, .t (tK .u64 s3.2)), (78, .t (tB b))], []⟩) rfl ?_ ?_ ?_))))
   ·exact TieO.run 9 rfl (.nil (.leaf ⟨rfl, .of rfl rfl⟩))
   ·exact TieO.run 9 rfl (.nil (.leaf ⟨rfl, .of rfl rfl⟩))
   refine TieO.nil (.cond rfl ?_ ?_)
   ·refine TieS.skip (.block (.seq (.region (.run 3 rfl ?_))))
    refine TieO.nil (.seq (.region (.run 4 rfl (.nil ?_))))
    refine TieS.seq (.region (.run 2 rfl (.nil (.cond rfl ?_ ?_))))
    ·exact TieS.exitOut rfl ⟨(fun h => by cases h), rfl, .of rfl rfl⟩
    ·exact TieS.skip (.endb (.leaf ⟨rfl, .of rfl rfl⟩))
   ·exact TieS.exitOut rfl ⟨(fun h => by cases h), rfl, .of rfl rfl⟩
  rintro (s4 | r) e σ' _ hq
  ·obtain ⟨rfl, hs⟩ := hq
   refine TieX.exit rfl (TieX.sub hs ?_)
   refine TieS.seq (.region (.run 9 rfl (.nil (.seq ?_))))
   refine TieS.region (.run 2 rfl (.quo rfl rfl rfl rfl rfl rfl fun q8 => .run 1 rfl (.nil ?_)))
   refine TieS.seq (.region (.run 6 rfl (.nil (.seq ?_))))
   refine TieS.block (.loop (fun t => ⟨[(2, .t (tK .u64 q3)), (8, .t (tK .u64 (IntKind.u64.wrap v))), (9, .t (tK .u64 (bitShr .u64 q3 32))), (10, .t (tK .u64 (bitAnd .u64 q3 4294967295))), (14, .t (tK .u64 (bitAnd .u64 q6 4294967295))), (15, .t (tK .u64 s4.1)), (16, .t (tK .u64 t.1)), (17, .t (tK .u64 (IntKind.u64.wrap ((IntKind.u64.wrap ((IntKind.u64.wrap ((bitOr .u64 q4 q5) * 4294967296)) + (bitShr .u64 q6 32))) - (IntKind.u64.wrap (s4.1 * q3)))))), (18, .t (tK .u64 t.2))], []⟩) (fun b e σ' => match b with | .inl t => e = .exit 2 ∧ Sub ⟨[(2, .t (tK .u64 q3)), (8, .t (tK .u64 (IntKind.u64.wrap v))), (14, .t (tK .u64 (bitAnd .u64 q6 4294967295))), (15, .t (tK .u64 s4.1)), (17, .t (tK .u64 (IntKind.u64.wrap ((IntKind.u64.wrap ((IntKind.u64.wrap ((bitOr .u64 q4 q5) * 4294967296)) + (bitShr .u64 q6 32))) - (IntKind.u64.wrap (s4.1 * q3)))))), (18, .t (tK .u64 t.2))], []⟩ σ' | .inr t => False) (.of rfl rfl) ?_ ?_)
   ·intro s5
    refine TieS.seq (.seq (.region (.run 3 rfl (.selOr (v := decide ((IntKind.u64.wrap (s5.2 * (bitAnd .u64 q3 4294967295))) > (IntKind.u64.wrap ((IntKind.u64.wrap (4294967296 * s5.1)) + (bitAnd .u64 q6 4294967295))))) 9 104 (fun b => ⟨[(2, .t (tK .u64 q3)), (8, .t (tK .u64 (IntKind.u64.wrap v))), (9, .t (tK .u64 (bitShr .u64 q3 32))), (10, .t (tK .u64 (bitAnd .u64 q3 4294967295))), (14, .t (tK .u64 (bitAnd .u64 q6 4294967295))), (15, .t (tK .u64 s4.1)), (16, .t (tK .u64 s5.1)), (17, .t (tK .u64 (IntKind.u64.wrap ((IntKind.u64.wrap ((IntKind.u64.wrap ((bitOr .u64 q4 q5) * 4294967296)) + (bitShr .u64 q6 32))) - (IntKind.u64.wrap (s4.1 * q3)))))), (18, .t (tK .u64 s5.2)), (113, .t (tB b))], []⟩) rfl ?_ ?_ ?_))))
    ·exact TieO.run 9 rfl (.nil (.leaf ⟨rfl, .of rfl rfl⟩))
    ·exact TieO.run 9 rfl (.nil (.leaf ⟨rfl, .of rfl rfl⟩))
    refine TieO.nil (.cond rfl ?_ ?_)
    ·refine TieS.skip (.block (.seq (.region (.run 3 rfl ?_))))
     refine TieO.nil (.seq (.region (.run 4 rfl (.nil ?_))))
     refine TieS.seq (.region (.run 2 rfl (.nil (.cond rfl ?_ ?_))))
     ·exact TieS.exitOut rfl ⟨(fun h => by cases h), rfl, .of rfl rfl⟩
     ·exact TieS.skip (.endb (.leaf ⟨rfl, .of rfl rfl⟩))
    ·exact TieS.exitOut rfl ⟨(fun h => by cases h), rfl, .of rfl rfl⟩
   rintro (s6 | r) e σ' _ hq
   ·obtain ⟨rfl, hs⟩ := hq
    refine TieX.exit rfl (TieX.sub hs ?_)
    refine TieS.seq (.region (.run 13 rfl (.shr rfl rfl rfl rfl rfl rfl fun q9 => .run 2 rfl ?_)))
    exact TieO.nil (.ret ⟨.inl rfl, rfl⟩)
   ·exact hq.elim
  ·exact hq.elim
set_option maxRecDepth 100000 in
theorem q420 (r2 : Int) (c : Int) (negative : Bool) (mode : Int) : TieF Tryz.prog 284 [.t (tK .u64 r2), .t (tK .u64 c), .t (tB negative), .t (tI mode)] (q116 r2 c negative mode) (fun r => .t (tB r)) := by
 refine TieF.intro htab 36 [.tmp 8] Tryz.call284 Tryz.func284 rfl rfl rfl (Nat.le_of_ble_eq_true rfl) fun w0 L => ?_
 refine TieS.seq (.region (.run 1 rfl (.nil (.seq ?_))))
 refine TieS.seq (.region (.run 1 rfl (.nil (.block ?_))))
 refine TieS.seq (.region (.run 2 rfl (.nil (.cond rfl ?_ ?_))))
 ·refine TieS.seq (.region (.run 2 rfl (.selAnd (v := decide (r2 > 0)) 3 13 (fun b => ⟨[(16, .t (tB b))], []⟩) rfl ?_ ?_ ?_)))
  ·exact TieO.run 3 rfl (.nil (.leaf ⟨rfl, .of rfl rfl⟩))
  ·exact TieO.run 3 rfl (.nil (.leaf ⟨rfl, .of rfl rfl⟩))
  exact TieO.run 1 rfl (.nil (.ret ⟨.inl rfl, rfl⟩))
 ·refine TieS.seq (.region (.run 2 rfl (.nil (.cond rfl ?_ ?_))))
  ·refine TieS.seq (.region (.run 3 rfl (.selAnd (v := decide (r2 > 0)) 3 21 (fun b => ⟨[(24, .t (tB b))], []⟩) rfl ?_ ?_ ?_)))
   ·exact TieO.run 3 rfl (.nil (.leaf ⟨rfl, .of rfl rfl⟩))
   ·exact TieO.run 3 rfl (.nil (.leaf ⟨rfl, .of rfl rfl⟩))
   exact TieO.run 1 rfl (.nil (.ret ⟨.inl rfl, rfl⟩))
  ·refine TieS.skip (.endb (.seq (.seq (.region ?_))))
   refine TieO.run 1 rfl (.nil (.cond rfl ?_ ?_))
   ·exact TieS.seq (.region (.run 6 rfl (.nil (.ret ⟨.inl rfl, rfl⟩))))
   ·refine TieS.skip (.seq (.region (.run 6 rfl (.nil ?_))))
    exact TieS.ret ⟨.inl rfl, rfl⟩
set_option maxRecDepth 100000 in
theorem q431 (a : Int) (b2 : Int) (c : Int) (mode : Int) : TieF Tryz.prog 260 [.t (tI a), .t (tI b2), .t (tI c), .t (tI mode)] (q246 a b2 c mode) (fun r => .tup [.t (tI r.1), .t (tI r.2)]) := by
 refine TieF.intro htab 83 [.tmp 8, .tmp 9] Tryz.call260 Tryz.func260 rfl rfl rfl (Nat.le_of_ble_eq_true rfl) fun w0 L => ?_
 refine TieS.seq (.region (.run 2 rfl (.nil (.seq ?_))))
 refine TieS.block (.seq (.region (.run 3 rfl (.selOr (v := decide (mode > 3)) 3 19 (fun b => ⟨[(0, .t (tI a)), (1, .t (tI b2)), (2, .t (tI c)), (3, .t (tI mode)), (22, .t (tB b))], []⟩) rfl ?_ ?_ ?_))))
 ·exact TieO.run 3 rfl (.nil (.leaf ⟨rfl, .of rfl rfl⟩))
 ·exact TieO.run 3 rfl (.nil (.leaf ⟨rfl, .of rfl rfl⟩))
 refine TieO.run 1 rfl (.nil (.cond rfl ?_ ?_))
 ·exact TieS.seq (.region (.run 2 rfl (.nil (.ret ⟨.inl rfl, rfl⟩))))
 ·refine TieS.seq (.region (.run 3 rfl (.nil (.cond rfl ?_ ?_))))
  ·exact TieS.seq (.region (.run 2 rfl (.nil (.ret ⟨.inl rfl, rfl⟩))))
  ·refine TieS.skip (.endb (.seq (.region (.run 9 rfl ?_))))
   refine TieO.nil (.seq (.region (.run 1 rfl (.call _ rfl rfl rfl (q169 a) (fun _ => rfl) fun v => ?_))))
   refine TieO.run 1 rfl (.call _ rfl rfl rfl (q169 b2) (fun _ => rfl) fun v2 => .call _ rfl rfl rfl (q264 v v2) (fun _ => rfl) fun r2 => .run 5 rfl (.nil ?_))
   refine TieS.seq (.region (.run 1 rfl (.call _ rfl rfl rfl (q169 c) (fun _ => rfl) fun v3 => .run 1 rfl ?_)))
   refine TieO.nil (.seq (.seq (.region (.run 3 rfl ?_))))
   refine TieO.nil (.cond rfl ?_ ?_)
   ·exact TieS.seq (.region (.run 2 rfl (.nil (.ret ⟨.inl rfl, rfl⟩))))
   ·refine TieS.skip (.seq (.region (.run 3 rfl (.call _ rfl rfl rfl (q382 r2.1 r2.2 v3) (fun _ => rfl) fun r3 => ?_))))
    refine TieO.run 5 rfl (.nil (.seq (.seq (.region ?_))))
    refine TieO.run 2 rfl (.nil (.cond rfl ?_ ?_))
    ·exact TieS.seq (.region (.run 2 rfl (.nil (.ret ⟨.inl rfl, rfl⟩))))
    ·refine TieS.skip (.seq (.seq (.region (.run 4 rfl ?_))))
     refine TieO.call _ rfl rfl rfl (q420 r3.2 v3 (!((!((decide (a < 0)) == (decide (b2 < 0)))) == (decide (c < 0)))) mode) (fun _ => rfl) fun v4 => .nil (.bind (Q₁ := fun t e σ' => e = .normal ∧ Sub ⟨[(10, .t (tB (!((!((decide (a < 0)) == (decide (b2 < 0)))) == (decide (c < 0)))))), (14, .t (tK .u64 t))], []⟩ σ') ?_ ?_)
     ·refine TieS.cond rfl ?_ ?_
      ·exact TieS.region (.run 3 rfl (.nil (.leaf ⟨rfl, .of rfl rfl⟩)))
      ·exact TieS.skip (.leaf ⟨rfl, .of rfl rfl⟩)
     rintro q e σ' _ ⟨rfl, hs⟩
     refine TieX.sub hs (TieS.seq (.block (.seq (.region ?_))))
     refine TieO.run 2 rfl (.selAnd (v := decide (q ≤ 9223372036854775808)) 3 65 (fun b => ⟨[(10, .t (tB (!((!((decide (a < 0)) == (decide (b2 < 0)))) == (decide (c < 0)))))), (14, .t (tK .u64 q)), (68, .t (tB b))], []⟩) rfl ?_ ?_ ?_)
     ·exact TieO.run 3 rfl (.nil (.leaf ⟨rfl, .of rfl rfl⟩))
     ·exact TieO.run 3 rfl (.nil (.leaf ⟨rfl, .of rfl rfl⟩))
     refine TieO.run 1 rfl (.nil (.cond rfl ?_ ?_))
     ·exact TieS.seq (.region (.run 7 rfl (.nil (.ret ⟨.inl rfl, rfl⟩))))
     ·refine TieS.seq (.region (.run 3 rfl (.selAnd (v := decide (q < 9223372036854775808)) 3 77 (fun b => ⟨[(14, .t (tK .u64 q)), (80, .t (tB b))], []⟩) rfl ?_ ?_ ?_)))
      ·exact TieO.run 3 rfl (.nil (.leaf ⟨rfl, .of rfl rfl⟩))
      ·exact TieO.run 3 rfl (.nil (.leaf ⟨rfl, .of rfl rfl⟩))
      refine TieO.run 1 rfl (.nil (.cond rfl ?_ ?_))
      ·exact TieS.seq (.region (.run 4 rfl (.nil (.ret ⟨.inl rfl, rfl⟩))))
      ·refine TieS.skip (.endb (.seq (.region (.run 2 rfl ?_))))
       exact TieO.nil (.ret ⟨.inl rfl, rfl⟩)
set_option maxRecDepth 100000 in
theorem q294 (a : Int) (b2 : Int) (mode : Int) : TieF Tryz.prog 236 [.t (tI a), .t (tI b2), .t (tI mode)] (q180 a b2 mode) (fun r => .tup [.t (tI r.1), .t (tI r.2)]) := by
 refine TieF.intro htab 14 [.tmp 6, .tmp 7] Tryz.call236 Tryz.func236 rfl rfl rfl (Nat.le_of_ble_eq_true rfl) fun w0 L => ?_
 refine TieS.seq (.region (.run 2 rfl (.nil (.seq ?_))))
 refine TieS.region (.run 3 rfl (.call _ rfl rfl rfl (q431 a 1 b2 mode) (fun _ => rfl) fun r2 => .run 4 rfl (.nil ?_)))
 exact TieS.ret ⟨.inl rfl, rfl⟩
set_option maxRecDepth 100000 in
theorem q178 (a : Int) (b2 : Int) : TieF Tryz.prog 207 [.t (tI a), .t (tI b2)] (q134 a b2) (fun r => .t (tI r)) := by
 refine TieF.intro htab 14 [.tmp 4] Tryz.call207 Tryz.func207 rfl rfl rfl (Nat.le_of_ble_eq_true rfl) fun w0 L => ?_
 refine TieS.seq (.region (.run 1 rfl (.nil (.seq ?_))))
 refine TieS.region (.run 2 rfl (.call _ rfl rfl rfl (q294 a b2 1) (fun _ => rfl) fun r2 => .run 5 rfl (.nil ?_)))
 exact TieS.seq (.region (.run 2 rfl (.nil (.ret ⟨.inl rfl, rfl⟩))))
set_option maxRecDepth 100000 in
theorem q261 (x0 : Int) (x1 : Int) (y0 : Int) (y1 : Int) (x : Int) : TieF Tryz.prog 247 [.t (tI x0), .t (tI x1), .t (tI y0), .t (tI y1), .t (tI x)] (q123 x0 x1 y0 y1 x) (fun r => .t (tI r)) := by
 refine TieF.intro htab 24 [.tmp 10] Tryz.call247 Tryz.func247 rfl rfl rfl (Nat.le_of_ble_eq_true rfl) fun w0 L => ?_
 refine TieS.seq (.region (.run 1 rfl (.nil (.seq ?_))))
 refine TieS.region (.run 11 rfl (.call _ rfl rfl rfl (q178 (w64 ((w64 (x - x0)) * (w64 (y1 - y0)))) (w64 (x1 - x0))) (fun _ => rfl) fun v => .run 2 rfl (.nil ?_)))
 exact TieS.ret ⟨.inl rfl, rfl⟩
set_option maxRecDepth 100000 in
theorem q317 (j : Int) (c : SMap) (c2 : Int) (c3 : Int) : TieF Tryz.prog 246 [.t (tI j), .el (q78 c), .el (Pv.encI c2), .el (Pv.encI c3)] (q183 j c c2 c3) (fun r => .t (tI r)) := by
 refine TieF.intro htab 36 [.tmp 5] Tryz.call246 Tryz.func246 rfl rfl rfl (Nat.le_of_ble_eq_true rfl) fun w0 L => ?_
 refine TieS.seq (.region (.run 1 rfl (.nil (.seq ?_))))
 refine TieX.pre fun x hx => TieX.pre fun x2 hx2 => TieX.pre fun x3 hx3 => TieX.pre fun x4 hx4 => TieX.pre fun x5 hx5 => ?_
 exact TieX.pre fun x6 hx6 => TieX.pre fun v hv => TieS.draw 31 [_, _, _, _, _, _, _, _, _, _, _, _, _, _, _, _, _, _, _, _, _, _, _, _, _, _, _, _, _, _, _] [(0, .t (tI j)), (1, .el (q78 c)), (2, .el (Pv.encI c2)), (3, .el (Pv.encI c3))] [] mixed (.of rfl rfl) rfl rfl rfl rfl (.cons (.quiet rfl rfl rfl) (.cons (.quiet rfl rfl rfl) (.cons (.quiet rfl rfl rfl) (.cons (.index hx rfl rfl rfl rfl rfl rfl (fun _ => rfl)) (.cons (.quiet rfl rfl rfl) (.cons (.quiet rfl rfl rfl) (.cons (.quiet rfl rfl rfl) (.cons (.quiet rfl rfl rfl) (.cons (.quiet rfl rfl rfl) (.cons (.index hx2 rfl rfl rfl rfl rfl rfl (fun _ => rfl)) (.cons (.quiet rfl rfl rfl) (.cons (.quiet rfl rfl rfl) (.cons (.quiet rfl rfl rfl) (.cons (.quiet rfl rfl rfl) (.cons (.index hx3 rfl rfl rfl rfl rfl rfl (fun _ => rfl)) (.cons (.quiet rfl rfl rfl) (.cons (.quiet rfl rfl rfl) (.cons (.index hx4 rfl rfl rfl rfl rfl rfl (fun _ => rfl)) (.cons (.quiet rfl rfl rfl) (.cons (.quiet rfl rfl rfl) (.cons (.quiet rfl rfl rfl) (.cons (.quiet rfl rfl rfl) (.cons (.quiet rfl rfl rfl) (.cons (.index hx5 rfl rfl rfl rfl rfl rfl (fun _ => rfl)) (.cons (.quiet rfl rfl rfl) (.cons (.quiet rfl rfl rfl) (.cons (.index hx6 rfl rfl rfl rfl rfl rfl (fun _ => rfl)) (.cons (.quiet rfl rfl rfl) (.cons (.quiet rfl rfl rfl) (.cons (.callV (q261 x x2 x4 x6 c3) hv rfl rfl rfl rfl) (.cons (.quiet rfl rfl rfl) (.nil)))))))))))))))))))))))))))))))) (.nil (.ret ⟨.inl rfl, rfl⟩))
set_option maxRecDepth 100000 in
theorem q466 (m2 : SMap) (x : Int) (y : Int) : TieF Tryz.prog 202 [A_SMap m2, .t (tI x), .t (tI y)] (q308 m2 x y) (fun r => .t (tI r)) := by
 refine TieF.intro htab 45 [.tmp 6] Tryz.call202 Tryz.func202 rfl rfl rfl (Nat.le_of_ble_eq_true rfl) fun w0 L => ?_
 refine TieS.seq (.region (.run 3 rfl (.nil (.seq ?_))))
 refine TieS.region (.run 3 rfl (.call _ rfl rfl rfl (q262 m2.X x) (fun _ => rfl) fun r2 => .run 6 rfl (.nil ?_)))
 refine TieS.seq (.region (.run 3 rfl (.call _ rfl rfl rfl (q262 m2.Y y) (fun _ => rfl) fun r3 => .run 5 rfl ?_)))
 refine TieO.nil (.seq (.region (.frzBox 3 rfl rfl (.frzBox 7 rfl rfl ?_))))
 refine TieO.frzBox 4 rfl rfl (.run 1 rfl (.sub (σ' := ⟨[(0, .agg [.t (tS Pv.encI m2.X), .t (tS Pv.encI m2.Y), .t (tS (Pv.encS Pv.encI) m2.Z)]), (1, .t (tI x)), (2, .t (tI r3.2)), (3, .el (q78 m2)), (4, .el (Pv.encI r2.2)), (6, .t (tI 0)), (7, .el (Pv.encI r2.1)), (8, .t (tI r3.1)), (10, .tup [.t (tI r2.1), .t (tI r2.2)]), (11, .el (q78 m2)), (12, .t (tS Pv.encI m2.X)), (13, .t (tI x)), (14, .tup [.t (tI r2.1), .t (tI r2.2)]), (15, .t (tI r2.1)), (16, .t (tI r2.2)), (17, .tup [.t (tI r3.1), .t (tI r3.2)]), (18, .el (List.drop 1 (q78 m2))), (19, .t (tS Pv.encI m2.Y)), (20, .t (tI y)), (21, .tup [.t (tI r3.1), .t (tI r3.2)]), (22, .t (tI r3.1)), (23, .t (tI r3.2)), (24, .fz 246 [q78 m2, Pv.encI r2.1, Pv.encI r2.2])], []⟩) (.of rfl rfl) (.run 1 rfl (.nil ?_))))
 refine TieS.seq (TieX.pre fun x2 hx2 => TieX.pre fun x3 hx3 => TieX.pre fun v hv => TieX.pre fun v2 hv2 => ?_)
 exact TieX.pre fun v3 hv3 => TieS.draw 21 [_, _, _, _, _, _, _, _, _, _, _, _, _, _, _, _, _, _, _, _, _] [(2, .t (tI r3.2)), (3, .el (q78 m2)), (8, .t (tI r3.1)), (9, .fz 246 [q78 m2, Pv.encI r2.1, Pv.encI r2.2])] [] mixed (.of rfl rfl) rfl rfl rfl rfl (.cons (.quiet rfl rfl rfl) (.cons (.quiet rfl rfl rfl) (.cons (.quiet rfl rfl rfl) (.cons (.index hx2 rfl rfl rfl rfl rfl rfl (fun _ => rfl)) (.cons (.quiet rfl rfl rfl) (.cons (.quiet rfl rfl rfl) (.cons (.quiet rfl rfl rfl) (.cons (.quiet rfl rfl rfl) (.cons (.quiet rfl rfl rfl) (.cons (.index hx3 rfl rfl rfl rfl rfl rfl (fun _ => rfl)) (.cons (.quiet rfl rfl rfl) (.cons (.quiet rfl rfl rfl) (.cons (.quiet rfl rfl rfl) (.cons (.callV (q317 r3.1 m2 r2.1 r2.2) hv rfl rfl rfl rfl) (.cons (.quiet rfl rfl rfl) (.cons (.quiet rfl rfl rfl) (.cons (.quiet rfl rfl rfl) (.cons (.callV (q317 (w64 (r3.1 + 1)) m2 r2.1 r2.2) hv2 rfl rfl rfl rfl) (.cons (.quiet rfl rfl rfl) (.cons (.callV (q261 x2 x3 v v2 r3.2) hv3 rfl rfl rfl rfl) (.cons (.quiet rfl rfl rfl) (.nil)))))))))))))))))))))) (.nil (.ret ⟨.inl rfl, rfl⟩))
set_option maxRecDepth 100000 in
theorem q148 (m2 : SMap) (x : Int) (y : Int) : TieF Tryz.prog 112 [A_SMap m2, .t (tI x), .t (tI y)] (q85 m2 x y) (fun r => .t (tI r)) := by
 refine TieF.intro htab 14 [.tmp 6] Tryz.call112 Tryz.func112 rfl rfl rfl (Nat.le_of_ble_eq_true rfl) fun w0 L => ?_
 refine TieS.seq (.region (.run 2 rfl (.nil (.seq ?_))))
 refine TieS.seq (.region (.run 1 rfl (.call _ rfl rfl rfl (q56 m2) (fun _ => rfl) fun v => .run 1 rfl ?_)))
 refine TieO.nil (.cond rfl ?_ ?_)
 ·exact TieS.seq (.region (.run 1 rfl (.nil (.ret ⟨.inl rfl, rfl⟩))))
 ·refine TieS.skip (.seq (.region (.run 3 rfl (.call _ rfl rfl rfl (q466 m2 x y) (fun _ => rfl) fun v2 => ?_))))
  exact TieO.run 1 rfl (.nil (.ret ⟨.inl rfl, rfl⟩))
set_option maxRecDepth 100000 in
theorem q470 (t2 : STables) (value : Int) (speed : Int) : TieF Tryz.prog 26 [q29 t2, .t (tI value), .t (tI speed)] (q309 t2 value speed) (fun r => .tup [.t (tI r.1), .t (tI r.2)]) := by
 refine TieF.intro htab 34 [.tmp 6, .tmp 7] Tryz.call26 Tryz.func26 rfl rfl rfl (Nat.le_of_ble_eq_true rfl) fun w0 L => ?_
 refine TieS.seq (.region (.run 3 rfl (.nil (.seq ?_))))
 refine TieS.block (.seq (.region (.run 2 rfl (.call _ rfl rfl rfl (q56 t2.Wish) (fun _ => rfl) fun v => ?_))))
 refine TieO.run 2 rfl (.nil (.cond rfl ?_ ?_))
 ·exact TieS.seq (.region (.run 2 rfl (.nil (.ret ⟨.inl rfl, rfl⟩))))
 ·refine TieS.seq (.region (.run 3 rfl (.selOr (v := decide (value > 1000)) 3 16 (fun b => ⟨[(1, .t (tI value)), (2, .t (tI speed)), (3, .ptr 3 0), (19, .t (tB b))], [(3, .box (q14 t2))]⟩) rfl ?_ ?_ ?_)))
  ·exact TieO.run 3 rfl (.nil (.leaf ⟨rfl, .of rfl rfl⟩))
  ·exact TieO.run 3 rfl (.nil (.leaf ⟨rfl, .of rfl rfl⟩))
  refine TieO.run 1 rfl (.selOr (v := decide (speed < 0)) 3 20 (fun b => ⟨[(1, .t (tI value)), (2, .t (tI speed)), (3, .ptr 3 0), (23, .t (tB b))], [(3, .box (q14 t2))]⟩) rfl ?_ ?_ ?_)
  ·exact TieO.run 3 rfl (.nil (.leaf ⟨rfl, .of rfl rfl⟩))
  ·exact TieO.run 3 rfl (.nil (.leaf ⟨rfl, .of rfl rfl⟩))
  refine TieO.run 1 rfl (.selOr (v := decide (speed > 12000)) 3 24 (fun b => ⟨[(1, .t (tI value)), (2, .t (tI speed)), (3, .ptr 3 0), (27, .t (tB b))], [(3, .box (q14 t2))]⟩) rfl ?_ ?_ ?_)
  ·exact TieO.run 3 rfl (.nil (.leaf ⟨rfl, .of rfl rfl⟩))
  ·exact TieO.run 3 rfl (.nil (.leaf ⟨rfl, .of rfl rfl⟩))
  refine TieO.run 1 rfl (.nil (.cond rfl ?_ ?_))
  ·exact TieS.seq (.region (.run 2 rfl (.nil (.ret ⟨.inl rfl, rfl⟩))))
  ·refine TieS.skip (.endb (.seq (.region (.run 4 rfl ?_))))
   exact TieO.call _ rfl rfl rfl (q148 t2.Wish speed value) (fun _ => rfl) fun v2 => .call _ rfl rfl rfl (q24 v2 (-5000) 10000) (fun _ => rfl) fun v3 => .run 2 rfl (.nil (.ret ⟨.inl rfl, rfl⟩))
set_option maxRecDepth 100000 in
theorem q469 (p2 : SPedal) (first : Int) (second : Int) : TieF Tryz.prog 32 [q372 p2, .t (tI first), .t (tI second)] (q307 p2 first second) (fun r => .tup [q372 r.1, .t (tI r.2)]) := by
 refine TieF.intro htab 65 [.cell 6 35, .tmp 7] Tryz.call32 Tryz.func32 rfl rfl rfl (Nat.le_of_ble_eq_true rfl) fun w0 L => ?_
 refine TieS.seq (.region (.run 3 rfl (.nil (.seq ?_))))
 refine TieS.seq (.region (.run 1 rfl (.call _ rfl rfl rfl (q343 p2) (fun _ => rfl) fun v => .run 1 rfl ?_)))
 refine TieO.nil (.cond rfl ?_ ?_)
 ·exact TieS.seq (.region (.run 3 rfl (.nil (.ret ⟨.inl rfl, rfl⟩))))
 ·refine TieS.skip (.seq (.region (.run 1 rfl (.call _ rfl rfl rfl (q24 first 0 1000) (fun _ => rfl) fun v2 => ?_))))
  refine TieO.run 1 rfl (.nil (.seq (.region (.run 1 rfl ?_))))
  refine TieO.call _ rfl rfl rfl (q24 second 0 500) (fun _ => rfl) fun v3 => .run 2 rfl (.nil (.seq (.region ?_)))
  refine TieO.run 9 rfl (.nil (.seq (.region (.run 4 rfl ?_))))
  refine TieO.nil (.seq (.region (.run 3 rfl (.nil ?_))))
  refine TieS.seq (.bind (Q₁ := fun t e σ' => e = .normal ∧ Sub ⟨[(1, .t (tI v2)), (3, .ptr 3 0), (6, .ptr 6 0), (9, .t (tB (decide ((maxI (w64 (v2 - (w64 (2 * v3)))) (w64 ((w64 (2 * v3)) - v2))) > 50)))), (10, .t (tI (minI v2 (w64 (2 * v3))))), (11, .ptr 11 0)], [(3, .box [.t (tI p2.Value), .t (tI p2.Differ), .t (tB p2.Fault)]), (6, .box [.t (tI 0), .t (tI 0), .t (tB false)]), (11, .box [.t (tI p2.Value), .t (tI t), .t (tB p2.Fault)])]⟩ σ') ?_ ?_)
  ·refine TieS.block (.seq (.region (.run 2 rfl (.nil ?_))))
   refine TieS.cond rfl ?_ ?_
   ·exact TieS.region (.run 6 rfl (.nil (.endb (.leaf ⟨rfl, .of rfl rfl⟩))))
   ·refine TieS.seq (.region (.run 4 rfl (.nil (.cond rfl ?_ ?_))))
    ·exact TieS.region (.run 2 rfl (.nil (.endb (.leaf ⟨rfl, .of rfl rfl⟩))))
    ·exact TieS.skip (.endb (.leaf ⟨rfl, .of rfl rfl⟩))
  rintro f2 e σ' _ ⟨rfl, hs⟩
  refine TieX.sub hs (TieS.seq (.region (.run 5 rfl (.nil ?_))))
  refine TieS.seq (.block (.seq (.region (.run 3 rfl ?_))))
  refine TieO.nil (.cond rfl ?_ ?_)
  ·refine TieS.region (.run 4 rfl (.nil (.endb (.seq ?_))))
   exact TieS.region (.run 3 rfl (.nil (.ret ⟨.inl rfl, rfl⟩)))
  ·refine TieS.seq (.region (.run 2 rfl (.nil (.cond rfl ?_ ?_))))
   ·refine TieS.region (.run 6 rfl (.nil (.endb (.seq ?_))))
    exact TieS.region (.run 3 rfl (.nil (.ret ⟨.inl rfl, rfl⟩)))
   ·refine TieS.region (.run 3 rfl (.nil (.endb (.seq ?_))))
    exact TieS.region (.run 3 rfl (.nil (.ret ⟨.inl rfl, rfl⟩)))
set_option maxRecDepth 100000 in
theorem q408 (s : SIntegral) (g : SGain) (e2 : Int) : TieF Tryz.prog 127 [q275 s, A_SGain g, .t (tI e2)] (q195 s g e2) (fun r => .tup [q275 r.1, .t (tI r.2.1), .t (tI r.2.2)]) := by
 refine TieF.intro htab 75 [.cell 6 37, .tmp 7, .tmp 8] Tryz.call127 Tryz.func127 rfl rfl rfl (Nat.le_of_ble_eq_true rfl) fun w0 L => ?_
 refine TieS.seq (.region (.run 5 rfl (.nil (.seq ?_))))
 refine TieS.block (.seq (.region (.run 1 rfl (.call _ rfl rfl rfl (q157 g) (fun _ => rfl) fun v => ?_))))
 refine TieO.run 2 rfl (.selOr (v := decide (s.Sum < (-4398046511104))) 4 14 (fun b => ⟨[(2, .t (tI e2)), (3, .ptr 3 0), (4, .ptr 4 0), (6, .ptr 6 0), (18, .t (tB b))], [(3, .box [.t (tI s.Sum)]), (4, .box [.t (tI g.P), .t (tI g.I), .t (tI g.Low), .t (tI g.High)]), (6, .box [.t (tI 0)])]⟩) rfl ?_ ?_ ?_)
 ·exact TieO.run 4 rfl (.nil (.leaf ⟨rfl, .of rfl rfl⟩))
 ·exact TieO.run 4 rfl (.nil (.leaf ⟨rfl, .of rfl rfl⟩))
 refine TieO.run 1 rfl (.selOr (v := decide (s.Sum > 4398046511104)) 4 19 (fun b => ⟨[(2, .t (tI e2)), (3, .ptr 3 0), (4, .ptr 4 0), (6, .ptr 6 0), (23, .t (tB b))], [(3, .box [.t (tI s.Sum)]), (4, .box [.t (tI g.P), .t (tI g.I), .t (tI g.Low), .t (tI g.High)]), (6, .box [.t (tI 0)])]⟩) rfl ?_ ?_ ?_)
 ·exact TieO.run 4 rfl (.nil (.leaf ⟨rfl, .of rfl rfl⟩))
 ·exact TieO.run 4 rfl (.nil (.leaf ⟨rfl, .of rfl rfl⟩))
 refine TieO.run 1 rfl (.nil (.cond rfl ?_ ?_))
 ·exact TieS.seq (.region (.run 4 rfl (.nil (.ret ⟨.inl rfl, rfl⟩))))
 ·refine TieS.seq (.region (.run 3 rfl (.selOr (v := decide (e2 > 1048576)) 3 28 (fun b => ⟨[(2, .t (tI e2)), (3, .ptr 3 0), (4, .ptr 4 0), (6, .ptr 6 0), (31, .t (tB b))], [(3, .box [.t (tI s.Sum)]), (4, .box [.t (tI g.P), .t (tI g.I), .t (tI g.Low), .t (tI g.High)]), (6, .box [.t (tI 0)])]⟩) rfl ?_ ?_ ?_)))
  ·exact TieO.run 3 rfl (.nil (.leaf ⟨rfl, .of rfl rfl⟩))
  ·exact TieO.run 3 rfl (.nil (.leaf ⟨rfl, .of rfl rfl⟩))
  refine TieO.run 1 rfl (.nil (.cond rfl ?_ ?_))
  ·exact TieS.seq (.region (.run 4 rfl (.nil (.ret ⟨.inl rfl, rfl⟩))))
  ·refine TieS.skip (.endb (.seq (.region (.run 9 rfl ?_))))
   refine TieO.nil (.seq (.seq (.region (.run 5 rfl ?_))))
   refine TieO.selOr (v := decide (e2 ≤ 0)) 3 45 (fun b => ⟨[(2, .t (tI e2)), (3, .ptr 3 0), (4, .ptr 4 0), (6, .ptr 6 0), (9, .t (tI (bitShr .i64 (w64 ((w64 (g.P * e2)) + s.Sum)) 10))), (48, .t (tB b))], [(3, .box [.t (tI s.Sum)]), (4, .box [.t (tI g.P), .t (tI g.I), .t (tI g.Low), .t (tI g.High)]), (6, .box [.t (tI 0)])]⟩) rfl ?_ ?_ ?_
   ·exact TieO.run 3 rfl (.nil (.leaf ⟨rfl, .of rfl rfl⟩))
   ·exact TieO.run 3 rfl (.nil (.leaf ⟨rfl, .of rfl rfl⟩))
   refine TieO.run 1 rfl (.bind 9 (fun b2 => ⟨[(2, .t (tI e2)), (3, .ptr 3 0), (4, .ptr 4 0), (6, .ptr 6 0), (9, .t (tI (bitShr .i64 (w64 ((w64 (g.P * e2)) + s.Sum)) 10))), (58, .t (tB b2))], [(3, .box [.t (tI s.Sum)]), (4, .box [.t (tI g.P), .t (tI g.I), .t (tI g.Low), .t (tI g.High)]), (6, .box [.t (tI 0)])]⟩) (TieO.split 49 rfl ?_ ?_) fun b2 _ => ?_)
   ·refine TieO.run 5 rfl (.selOr (v := decide (e2 ≥ 0)) 3 54 (fun b => ⟨[(2, .t (tI e2)), (3, .ptr 3 0), (4, .ptr 4 0), (6, .ptr 6 0), (9, .t (tI (bitShr .i64 (w64 ((w64 (g.P * e2)) + s.Sum)) 10))), (49, .t (tB true)), (57, .t (tB b))], [(3, .box [.t (tI s.Sum)]), (4, .box [.t (tI g.P), .t (tI g.I), .t (tI g.Low), .t (tI g.High)]), (6, .box [.t (tI 0)])]⟩) rfl ?_ ?_ ?_)
    ·exact TieO.run 3 rfl (.nil (.leaf ⟨rfl, .of rfl rfl⟩))
    ·exact TieO.run 3 rfl (.nil (.leaf ⟨rfl, .of rfl rfl⟩))
    exact TieO.run 1 rfl (.nil (.leaf ⟨rfl, .of rfl rfl⟩))
   ·exact TieO.run 9 rfl (.nil (.leaf ⟨rfl, .of rfl rfl⟩))
   refine TieO.nil (.bind (Q₁ := fun t e σ' => e = .normal ∧ Sub ⟨[(3, .ptr 3 0), (4, .ptr 4 0), (6, .ptr 6 0), (9, .t (tI (bitShr .i64 (w64 ((w64 (g.P * e2)) + s.Sum)) 10)))], [(3, .box [.t (tI t)]), (4, .box [.t (tI g.P), .t (tI g.I), .t (tI g.Low), .t (tI g.High)]), (6, .box [.t (tI 0)])]⟩ σ') ?_ ?_)
   ·refine TieS.cond rfl ?_ ?_
    ·refine TieS.region (.run 7 rfl (.call _ rfl rfl rfl (q24 (w64 (s.Sum + (w64 (g.I * e2)))) (-4398046511104) 4398046511104) (fun _ => rfl) fun v2 => .run 2 rfl (.nil ?_)))
     exact TieS.leaf ⟨rfl, .of rfl rfl⟩
    ·exact TieS.skip (.leaf ⟨rfl, .of rfl rfl⟩)
   rintro f2 e σ' _ ⟨rfl, hs⟩
   refine TieX.sub hs (TieS.seq (TieX.pre fun v3 hv3 => TieS.draw 7 [_, _, _, _, _, _, _] [(3, .ptr 3 0), (4, .ptr 4 0), (6, .ptr 6 0), (9, .t (tI (bitShr .i64 (w64 ((w64 (g.P * e2)) + s.Sum)) 10)))] [(3, .box [.t (tI f2)]), (4, .box [.t (tI g.P), .t (tI g.I), .t (tI g.Low), .t (tI g.High)]), (6, .box [.t (tI 0)])] mixed (.of rfl rfl) rfl rfl rfl rfl (.cons (.quiet rfl rfl rfl) (.cons (.quiet rfl rfl rfl) (.cons (.quiet rfl rfl rfl) (.cons (.quiet rfl rfl rfl) (.cons (.quiet rfl rfl rfl) (.cons (.quiet rfl rfl rfl) (.cons (.callV (q24 (bitShr .i64 (w64 ((w64 (g.P * e2)) + s.Sum)) 10) g.Low g.High) hv3 rfl rfl rfl rfl) (.nil)))))))) (.run 3 rfl ?_)))
   exact TieO.nil (.ret ⟨.inl rfl, rfl⟩)
set_option maxRecDepth 100000 in
theorem q491 (s : SIntegral) (g : SGain) (target : Int) (speed : Int) : TieF Tryz.prog 35 [q275 s, A_SGain g, .t (tI target), .t (tI speed)] (q189 s g target speed) (fun r => .tup [q275 r.1, .t (tI r.2.1), .t (tI r.2.2)]) := by
 refine TieF.intro htab 35 [.cell 8 37, .tmp 9, .tmp 10] Tryz.call35 Tryz.func35 rfl rfl rfl (Nat.le_of_ble_eq_true rfl) fun w0 L => ?_
 refine TieS.seq (.region (.run 5 rfl (.nil (.seq ?_))))
 refine TieS.block (.seq (.region (.run 1 rfl (.call _ rfl rfl rfl (q157 g) (fun _ => rfl) fun v => ?_))))
 refine TieO.run 2 rfl (.nil (.cond rfl ?_ ?_))
 ·exact TieS.seq (.region (.run 4 rfl (.nil (.ret ⟨.inl rfl, rfl⟩))))
 ·refine TieS.seq (.region (.run 1 rfl (.call _ rfl rfl rfl (q255 target) (fun _ => rfl) fun v2 => .run 2 rfl ?_)))
  refine TieO.bind 4 (fun b2 => ⟨[(2, .t (tI target)), (3, .t (tI speed)), (4, .ptr 4 0), (5, .ptr 5 0), (8, .ptr 8 0), (24, .t (tB b2))], [(4, .box [.t (tI s.Sum)]), (5, .box [.t (tI g.P), .t (tI g.I), .t (tI g.Low), .t (tI g.High)]), (8, .box [.t (tI 0)])]⟩) (TieO.split 20 rfl ?_ ?_) fun b2 _ => ?_
  ·exact TieO.run 4 rfl (.nil (.leaf ⟨rfl, .of rfl rfl⟩))
  ·exact TieO.run 1 rfl (.call _ rfl rfl rfl (q255 speed) (fun _ => rfl) fun v3 => .run 2 rfl (.nil (.leaf ⟨rfl, .of rfl rfl⟩)))
  refine TieO.run 1 rfl (.nil (.cond rfl ?_ ?_))
  ·exact TieS.seq (.region (.run 4 rfl (.nil (.ret ⟨.inl rfl, rfl⟩))))
  ·refine TieS.skip (.endb (.seq (.region (.run 5 rfl ?_))))
   exact TieO.call _ rfl rfl rfl (q408 s g (w64 (target - speed))) (fun _ => rfl) fun r2 => .run 6 rfl (.nil (.ret ⟨.inl rfl, rfl⟩))
set_option maxRecDepth 100000 in
theorem q385 (r2 : SRequest) : TieF Tryz.prog 208 [q25 r2] (q93 r2) (fun r => .t (tB r)) := by
 refine TieF.intro htab 6 [.tmp 2] Tryz.call208 Tryz.func208 rfl rfl rfl (Nat.le_of_ble_eq_true rfl) fun w0 L => ?_
 refine TieS.seq (.region (.run 2 rfl (.nil (.seq ?_))))
 refine TieS.region (.run 1 rfl (.call _ rfl rfl rfl (q300 r2) (fun _ => rfl) fun v => .run 2 rfl (.nil ?_)))
 exact TieS.ret ⟨.inl rfl, rfl⟩
set_option maxRecDepth 100000 in
theorem q418 (l : List SRequest) (low : Int) (high : Int) : TieF Tryz.prog 129 [.t (tS q11 l), .t (tI low), .t (tI high)] (q230 l low high) (fun r => .t (tI r)) := by
 refine TieF.intro htab 28 [.tmp 6] Tryz.call129 Tryz.func129 rfl rfl rfl (Nat.le_of_ble_eq_true rfl) fun w0 L => ?_
 refine TieS.seq (.region (.run 1 rfl (.nil (.seq ?_))))
 refine TieS.block (.seq (.region (.run 1 rfl (.call _ rfl rfl rfl (q109 l 208 [] q93 q385) (fun _ => rfl) fun v => ?_))))
 refine TieO.run 1 rfl (.nil (.cond rfl ?_ ?_))
 ·exact TieS.seq (.region (.run 1 rfl (.nil (.ret ⟨.inl rfl, rfl⟩))))
 ·refine TieS.seq (.region (.run 4 rfl (.nil (.cond rfl ?_ ?_))))
  ·exact TieS.seq (.region (.run 1 rfl (.nil (.ret ⟨.inl rfl, rfl⟩))))
  ·refine TieS.seq (.region (.run 1 rfl (.call _ rfl rfl rfl (q127 low) (fun _ => rfl) fun v2 => .run 2 rfl ?_)))
   refine TieO.bind 4 (fun b2 => ⟨[(1, .t (tI low)), (2, .t (tI high)), (22, .t (tB b2))], []⟩) (TieO.split 18 rfl ?_ ?_) fun b2 _ => ?_
   ·exact TieO.run 4 rfl (.nil (.leaf ⟨rfl, .of rfl rfl⟩))
   ·exact TieO.run 1 rfl (.call _ rfl rfl rfl (q127 high) (fun _ => rfl) fun v3 => .run 2 rfl (.nil (.leaf ⟨rfl, .of rfl rfl⟩)))
   refine TieO.run 1 rfl (.selOr (v := decide (low > high)) 4 23 (fun b => ⟨[(27, .t (tB b))], []⟩) rfl ?_ ?_ ?_)
   ·exact TieO.run 4 rfl (.nil (.leaf ⟨rfl, .of rfl rfl⟩))
   ·exact TieO.run 4 rfl (.nil (.leaf ⟨rfl, .of rfl rfl⟩))
   refine TieO.run 1 rfl (.nil (.cond rfl ?_ ?_))
   ·exact TieS.seq (.region (.run 1 rfl (.nil (.ret ⟨.inl rfl, rfl⟩))))
   ·refine TieS.skip (.endb (.seq (.region (.run 1 rfl ?_))))
    exact TieO.nil (.ret ⟨.inl rfl, rfl⟩)
set_option maxRecDepth 100000 in
theorem q315 (s : List SRequest) : TieG Tryz.prog 209 [.t (tS q11 s)] [] (q149 s) (fun _ => .own 900000) (fun r => [(900000, .rows 73 4 r.length (r.map q11))]) := by
 refine TieG.intro htab 8 [.tmp 2] Tryz.call209 Tryz.func209 rfl rfl rfl (Nat.le_of_ble_eq_true rfl) fun w0 L => ?_
 refine TieS.seq (.region (.run 1 rfl (.nil (.seq ?_))))
 refine TieS.seq (.region (.run 1 rfl (.isNil rfl rfl rfl rfl rfl rfl fun b2 hb2 => .nil ?_)))
 refine TieS.condB rfl (fun hb1 => ?_) (fun _ => ?_)
 ·refine TieX.model (m' := some ([] : List SRequest)) (by rw [hb2 hb1]; rfl) (TieS.seq (.region (.run 1 rfl (.nil ?_))))
  exact TieX.nilP 2 70000 73 4 [] rfl rfl rfl rfl rfl (TieS.ret ⟨.inl rfl, ⟨[(70000, 900000)], _, _, rfl, rfl, rfl, rfl, rfl⟩⟩)
 ·refine TieS.skip (.seq (.region (.run 2 rfl (.appendY (id := 5) (e' := 0) (l := ([] : List SRequest)) (r := s) (tm' := [(0, .t (tS q11 s)), (2, .t (.v (.slice none 0 0))), (3, .t (tS q11 s)), (4, .t (tB b2)), (6, .t (tS q11 s))]) (hp' := []) rfl rfl rfl rfl rfl rfl rfl (fun _ => rfl) (fun _ => rfl) (.inl ⟨rfl, rfl⟩) (.inl rfl) (.of rfl rfl) rfl rfl rfl fun l => ?_))))
  exact TieO.run 1 rfl (.nil (.ret ⟨.inl rfl, ⟨[(5, 900000)], _, _, rfl, rfl, rfl, rfl, rfl⟩⟩))
set_option maxRecDepth 100000 in
theorem q81 (data : List SRequest) (a : Int) (b2 : Int) (n2 : Nat) (cs : List (List Tree)) (cmp : SRequest → SRequest → Option Int) (h2 : ∀ x0 x1, TieF Tryz.prog n2 ([q25 x0, q25 x1] ++ cs.map T.el) (cmp x0 x1) (fun r => .t (tI r))) : TieG Tryz.prog 270 [.own 1000000, .t (tI a), .t (tI b2), .fz n2 cs] [(1000000, .rows 73 4 data.length (data.map q11))] (q51 data a b2 cmp) (fun _ => .tup []) (fun r => [(1000000, .rows 73 4 r.length (r.map q11))]) := by
 refine TieG.intro htab 53 [] Tryz.call270 Tryz.func270 rfl rfl rfl (Nat.le_of_ble_eq_true rfl) fun w0 L => ?_
 refine TieS.seq (.region (.run 3 rfl (.nil (.block ?_))))
 refine TieS.loop (fun t => ⟨[(0, .own 1000000), (1, .t (tI a)), (2, .t (tI b2)), (3, .fz n2 cs), (8, .t (tI t.1))], [(1000000, .rows 73 4 t.2.length (t.2.map q11))]⟩) (fun b e σ' => match b with | .inl t => e = .exit 0 ∧ Sub ⟨[], [(1000000, .rows 73 4 t.2.length (t.2.map q11))]⟩ σ' | .inr t => False) (.of rfl rfl) ?_ ?_
 ·intro s
  refine TieS.seq (.seq (.region (.run 3 rfl (.nil ?_))))
  refine TieS.cond rfl ?_ ?_
  ·refine TieS.skip (.seq (.block (.seq (.region ?_))))
   refine TieO.run 2 rfl (.nil (.block (.loop (fun t => ⟨[(0, .own 1000000), (1, .t (tI a)), (2, .t (tI b2)), (3, .fz n2 cs), (8, .t (tI s.1)), (9, .t (tI t.1))], [(1000000, .rows 73 4 t.2.length (t.2.map q11))]⟩) (fun b e σ' => match b with | .inl t => e = .exit 2 ∧ Sub ⟨[(0, .own 1000000), (1, .t (tI a)), (2, .t (tI b2)), (3, .fz n2 cs), (8, .t (tI s.1))], [(1000000, .rows 73 4 t.2.length (t.2.map q11))]⟩ σ' | .inr t => False) (.of rfl rfl) ?_ ?_)))
   ·intro s2
    refine TieS.seq (.seq (.bind (Q₁ := fun t e σ' => e = .normal ∧ Sub ⟨[(0, .own 1000000), (1, .t (tI a)), (2, .t (tI b2)), (3, .fz n2 cs), (8, .t (tI s.1)), (9, .t (tI s2.1)), (34, .t (tB t))], [(1000000, .rows 73 4 s2.2.length (s2.2.map q11))]⟩ σ') ?_ ?_))
    ·refine TieX.split (fun hg => ?_) (fun hg2 => ?_)
     ·refine TieX.pre fun x hx => TieX.pre fun x2 hx2 => TieX.pre fun v hv => TieS.draw 17 [_, _, _, _, _, _, _, _, _, _, _, _, _, _, _, _, _] [(0, .own 1000000), (1, .t (tI a)), (2, .t (tI b2)), (3, .fz n2 cs), (8, .t (tI s.1)), (9, .t (tI s2.1))] [(1000000, .rows 73 4 s2.2.length (s2.2.map q11))] mixed (.of rfl rfl) rfl rfl rfl rfl (.cons (.quiet rfl rfl rfl) (.cons (.quiet rfl rfl rfl) (.cons (.quiet rfl rfl rfl) (.cons (.cast (congrArg T.B hg) (.quiet rfl rfl rfl)) (.cons (.quiet rfl rfl rfl) (.cons (.quiet rfl rfl rfl) (.cons (.quiet rfl rfl rfl) (.cons (.indexO (sz := 4) hx rfl rfl rfl rfl rfl rfl rfl rfl) (.cons (.loadY hx rfl rfl rfl rfl rfl rfl) (.cons (.quiet rfl rfl rfl) (.cons (.quiet rfl rfl rfl) (.cons (.quiet rfl rfl rfl) (.cons (.indexO (sz := 4) hx2 rfl rfl rfl rfl rfl rfl rfl rfl) (.cons (.loadY hx2 rfl rfl rfl rfl rfl rfl) (.cons (.callV (h2 x x2) hv rfl rfl rfl rfl) (.cons (.quiet rfl rfl rfl) (.cons (.quiet rfl rfl rfl) (.nil)))))))))))))))))) (.nil ?_)
      exact TieS.leaf ⟨rfl, .of rfl rfl⟩
     ·exact TieS.draw 17 [_, _, _, _, _, _, _, _, _, _, _, _, _, _, _, _, _] [(0, .own 1000000), (1, .t (tI a)), (2, .t (tI b2)), (3, .fz n2 cs), (8, .t (tI s.1)), (9, .t (tI s2.1))] [(1000000, .rows 73 4 s2.2.length (s2.2.map q11))] mixed (.of rfl rfl) rfl rfl rfl rfl (.cons (.quiet rfl rfl rfl) (.cons (.quiet rfl rfl rfl) (.cons (.quiet rfl rfl rfl) (.cons (.cast (congrArg T.B hg2) (.quiet rfl rfl rfl)) (.cons (.skip rfl) (.cons (.skip rfl) (.cons (.skip rfl) (.cons (.skip rfl) (.cons (.skip rfl) (.cons (.skip rfl) (.cons (.skip rfl) (.cons (.skip rfl) (.cons (.skip rfl) (.cons (.skip rfl) (.cons (.skip rfl) (.cons (.skip rfl) (.cons (.quiet rfl rfl rfl) (.nil)))))))))))))))))) (.nil (.leaf ⟨rfl, .of rfl rfl⟩))
    rintro v2 e σ' _ ⟨rfl, hs⟩
    refine TieX.sub hs (TieS.cond rfl ?_ ?_)
    ·refine TieS.skip (.seq (.block (.bind (Q₁ := fun t e σ' => e = .normal ∧ Sub ⟨[(0, .own 1000000), (1, .t (tI a)), (2, .t (tI b2)), (3, .fz n2 cs), (8, .t (tI s.1)), (9, .t (tI s2.1))], [(1000000, .rows 73 4 t.length (t.map q11))]⟩ σ') ?_ ?_)))
     ·refine TieX.pre fun x3 hx3 => TieX.pre fun x4 hx4 => TieX.pre fun l hl => TieS.draws 16 (bm 18 0) (bm 18 65535) ⟨[(0, .own 1000000), (1, .t (tI a)), (2, .t (tI b2)), (3, .fz n2 cs), (8, .t (tI s.1)), (9, .t (tI s2.1)), (39, .own 1000000), (41, .t (tI (w64 (s2.1 - 1)))), (50, .agg [.t (tI x4.Source), .t (tI x4.Kind), .t (tI x4.Torque), .t (tI x4.Priority)])], [(1000000, .rows 73 4 l.length (l.map q11))]⟩ mixed (fun _ _ _ h => by cases h.1) rfl rfl rfl rfl ?_ ?_
      ·refine TieA.have_ (fuel₁ := 4) (l₁ := (bm 18 16383)) (σ₁ := ⟨[(0, .own 1000000), (1, .t (tI a)), (2, .t (tI b2)), (3, .fz n2 cs), (8, .t (tI s.1)), (9, .t (tI s2.1)), (37, .own 1000000), (38, .t (tI s2.1)), (39, .own 1000000), (41, .t (tI (w64 (s2.1 - 1)))), (46, .agg [.t (tI x3.Source), .t (tI x3.Kind), .t (tI x3.Torque), .t (tI x3.Priority)]), (50, .agg [.t (tI x4.Source), .t (tI x4.Kind), .t (tI x4.Torque), .t (tI x4.Priority)])], [(1000000, .rows 73 4 s2.2.length (s2.2.map q11))]⟩) ?_ fun A_0 => ?_
       ·refine TieA.idx 14 _ hx4 rfl rfl rfl rfl rfl rfl (by kernel_rfl) (by kernel_rfl) (by kernel_rfl) rfl rfl rfl rfl rfl rfl (.all [15] (by kernel_rfl) rfl (AllA.cons (σ₁ := ⟨[(0, .own 1000000), (1, .t (tI a)), (2, .t (tI b2)), (3, .fz n2 cs), (8, .t (tI s.1)), (9, .t (tI s2.1)), (39, .own 1000000), (41, .t (tI (w64 (s2.1 - 1)))), (50, .agg [.t (tI x4.Source), .t (tI x4.Kind), .t (tI x4.Torque), .t (tI x4.Priority)])], [(1000000, .rows 73 4 l.length (l.map q11))]⟩) _ rfl rfl ?_ ?_ ?_))
        ·refine TieO.withH hl (TieO.storeY x3 [tI x3.Source, tI x3.Kind, tI x3.Torque, tI x3.Priority] hx4 rfl rfl rfl rfl rfl rfl rfl rfl rfl rfl rfl rfl (TieO.ifG ?_))
         exact TieO.nil (TieS.leaf ⟨rfl, .of rfl rfl⟩)
        ·exact TieA.done (.of rfl rfl)
        exact AllA.nil
       refine TieA.mv 0 rfl (.inl rfl) rfl (by kernel_rfl) rfl (.mv 1 rfl (.inl rfl) rfl (by kernel_rfl) rfl (.mv 2 rfl (.inl rfl) rfl (by kernel_rfl) rfl (.mv 3 rfl (.inl rfl) rfl (by kernel_rfl) rfl (.bin (V := .t (tI (w64 (s2.1 - 1)))) 4 _ rfl rfl rfl rfl rfl rfl (by kernel_rfl) (by kernel_rfl) (by kernel_rfl) rfl rfl rfl rfl ?_))))
       refine TieA.mv 5 rfl (.inl rfl) rfl (by kernel_rfl) rfl (.mv 6 rfl (.inl rfl) rfl (by kernel_rfl) rfl (.bin (V := .t (tI (w64 (s2.1 - 1)))) 7 _ rfl rfl rfl rfl rfl rfl (by kernel_rfl) (by kernel_rfl) (by kernel_rfl) rfl rfl rfl rfl (.idx 8 _ hx3 rfl rfl rfl rfl rfl rfl (by kernel_rfl) (by kernel_rfl) (by kernel_rfl) rfl rfl rfl rfl rfl rfl (.mv 10 rfl (.inl rfl) rfl (by kernel_rfl) rfl ?_))))
       refine TieA.mv 11 rfl (.inl rfl) rfl (by kernel_rfl) rfl (.idx 12 _ hx4 rfl rfl rfl rfl rfl rfl (by kernel_rfl) (by kernel_rfl) (by kernel_rfl) rfl rfl rfl rfl rfl rfl (.all [9, 13] (by kernel_rfl) rfl (AllA.cons (σ₁ := ⟨[(0, .own 1000000), (1, .t (tI a)), (2, .t (tI b2)), (3, .fz n2 cs), (8, .t (tI s.1)), (9, .t (tI s2.1)), (37, .own 1000000), (38, .t (tI s2.1)), (39, .own 1000000), (41, .t (tI (w64 (s2.1 - 1)))), (46, .agg [.t (tI x3.Source), .t (tI x3.Kind), .t (tI x3.Torque), .t (tI x3.Priority)]), (49, .pe 1000000 (Int.toNat s2.1) 4 0)], [(1000000, .rows 73 4 s2.2.length (s2.2.map q11))]⟩) _ rfl rfl ?_ ?_ ?_)))
       ·exact TieO.loadY hx3 rfl rfl rfl rfl rfl rfl rfl rfl (.nil (TieS.leaf ⟨rfl, .of rfl rfl⟩))
       ·refine TieA.all [13] (by kernel_rfl) rfl (AllA.cons _ rfl rfl ?_ A_0 ?_)
        ·exact TieO.loadY hx4 rfl rfl rfl rfl rfl rfl rfl rfl (.nil (TieS.leaf ⟨rfl, .of rfl rfl⟩))
        exact AllA.nil
       refine AllA.cons (σ₁ := ⟨[(0, .own 1000000), (1, .t (tI a)), (2, .t (tI b2)), (3, .fz n2 cs), (8, .t (tI s.1)), (9, .t (tI s2.1)), (37, .own 1000000), (38, .t (tI s2.1)), (39, .own 1000000), (41, .t (tI (w64 (s2.1 - 1)))), (45, .pe 1000000 (Int.toNat (w64 (s2.1 - 1))) 4 0), (50, .agg [.t (tI x4.Source), .t (tI x4.Kind), .t (tI x4.Torque), .t (tI x4.Priority)])], [(1000000, .rows 73 4 s2.2.length (s2.2.map q11))]⟩) _ rfl rfl ?_ ?_ ?_
       ·exact TieO.loadY hx4 rfl rfl rfl rfl rfl rfl rfl rfl (.nil (TieS.leaf ⟨rfl, .of rfl rfl⟩))
       ·refine TieA.all [9] (by kernel_rfl) rfl (AllA.cons _ rfl rfl ?_ A_0 ?_)
        ·exact TieO.loadY hx3 rfl rfl rfl rfl rfl rfl rfl rfl (.nil (TieS.leaf ⟨rfl, .of rfl rfl⟩))
        exact AllA.nil
       exact AllA.nil
      exact TieO.indexO rfl rfl rfl rfl rfl rfl rfl rfl rfl rfl fun x5 hx5 => .storeY x4 [tI x4.Source, tI x4.Kind, tI x4.Torque, tI x4.Priority] hx5 rfl rfl rfl rfl rfl rfl rfl rfl rfl rfl rfl rfl fun l2 hl2 => .nil (.leaf ⟨rfl, .of rfl rfl⟩)
     rintro f2 e σ' _ ⟨rfl, hs⟩
     refine TieX.sub hs (TieS.endb (.region (.run 3 rfl (.nil ?_))))
     exact TieS.leaf ⟨rfl, .of rfl rfl⟩
    ·exact TieS.exitOut rfl ⟨(fun h => by cases h), rfl, .of rfl rfl⟩
   rintro (s3 | r) e σ' _ hq
   ·obtain ⟨rfl, hs⟩ := hq
    refine TieX.exit rfl (TieX.sub hs ?_)
    exact TieS.endb (.region (.run 3 rfl (.nil (.leaf ⟨rfl, .of rfl rfl⟩))))
   ·exact hq.elim
  ·exact TieS.exitOut rfl ⟨(fun h => by cases h), rfl, .of rfl rfl⟩
 rintro (s4 | r) e σ' _ hq
 ·obtain ⟨rfl, hs⟩ := hq
  refine TieX.exit rfl (TieX.sub hs ?_)
  exact TieS.leaf ⟨.inr rfl, ⟨[(1000000, 1000000)], _, _, rfl, rfl, rfl, rfl, rfl⟩⟩
 ·exact hq.elim
set_option maxRecDepth 100000 in
theorem q53 (data : List SRequest) (a : Int) (b2 : Int) (n2 : Int) (n3 : Nat) (cs : List (List Tree)) (cmp : SRequest → SRequest → Option Int) (h2 : ∀ x0 x1, TieF Tryz.prog n3 ([q25 x0, q25 x1] ++ cs.map T.el) (cmp x0 x1) (fun r => .t (tI r))) : TieG Tryz.prog 299 [.own 1000000, .t (tI a), .t (tI b2), .t (tI n2), .fz n3 cs] [(1000000, .rows 73 4 data.length (data.map q11))] (q45 data a b2 n2 cmp) (fun _ => .tup []) (fun r => [(1000000, .rows 73 4 r.length (r.map q11))]) := by
 refine TieG.intro htab 38 [] Tryz.call299 Tryz.func299 rfl rfl rfl (Nat.le_of_ble_eq_true rfl) fun w0 L => ?_
 refine TieS.seq (.region (.run 1 rfl (.nil (.block ?_))))
 refine TieS.loop (fun t => ⟨[(0, .own 1000000), (1, .t (tI a)), (2, .t (tI b2)), (3, .t (tI n2)), (10, .t (tI t.1))], [(1000000, .rows 73 4 t.2.length (t.2.map q11))]⟩) (fun b e σ' => match b with | .inl t => e = .exit 0 ∧ Sub ⟨[], [(1000000, .rows 73 4 t.2.length (t.2.map q11))]⟩ σ' | .inr t => False) (.of rfl rfl) ?_ ?_
 ·intro s
  refine TieS.seq (.seq (.region (.run 3 rfl (.nil ?_))))
  refine TieS.cond rfl ?_ ?_
  ·refine TieS.skip (.seq (.block (.bind (Q₁ := fun t e σ' => e = .normal ∧ Sub ⟨[(0, .own 1000000), (1, .t (tI a)), (2, .t (tI b2)), (3, .t (tI n2)), (10, .t (tI s.1))], [(1000000, .rows 73 4 t.length (t.map q11))]⟩ σ') ?_ ?_)))
   ·refine TieX.pre fun x hx => TieX.pre fun x2 hx2 => TieX.pre fun l hl => TieS.draws 22 (bm 24 0) (bm 24 4194303) ⟨[(0, .own 1000000), (1, .t (tI a)), (2, .t (tI b2)), (3, .t (tI n2)), (10, .t (tI s.1)), (20, .own 1000000), (23, .t (tI (w64 (b2 + s.1)))), (35, .agg [.t (tI x2.Source), .t (tI x2.Kind), .t (tI x2.Torque), .t (tI x2.Priority)])], [(1000000, .rows 73 4 l.length (l.map q11))]⟩ mixed (fun _ _ _ h => by cases h.1) rfl rfl rfl rfl ?_ ?_
    ·refine TieA.have_ (fuel₁ := 4) (l₁ := (bm 24 1048575)) (σ₁ := ⟨[(0, .own 1000000), (1, .t (tI a)), (2, .t (tI b2)), (3, .t (tI n2)), (10, .t (tI s.1)), (16, .own 1000000), (19, .t (tI (w64 (a + s.1)))), (20, .own 1000000), (23, .t (tI (w64 (b2 + s.1)))), (29, .agg [.t (tI x.Source), .t (tI x.Kind), .t (tI x.Torque), .t (tI x.Priority)]), (35, .agg [.t (tI x2.Source), .t (tI x2.Kind), .t (tI x2.Torque), .t (tI x2.Priority)])], [(1000000, .rows 73 4 s.2.length (s.2.map q11))]⟩) ?_ fun A_0 => ?_
     ·refine TieA.idx 20 _ hx2 rfl rfl rfl rfl rfl rfl (by kernel_rfl) (by kernel_rfl) (by kernel_rfl) rfl rfl rfl rfl rfl rfl (.all [21] (by kernel_rfl) rfl (AllA.cons (σ₁ := ⟨[(0, .own 1000000), (1, .t (tI a)), (2, .t (tI b2)), (3, .t (tI n2)), (10, .t (tI s.1)), (20, .own 1000000), (23, .t (tI (w64 (b2 + s.1)))), (35, .agg [.t (tI x2.Source), .t (tI x2.Kind), .t (tI x2.Torque), .t (tI x2.Priority)])], [(1000000, .rows 73 4 l.length (l.map q11))]⟩) _ rfl rfl ?_ ?_ ?_))
      ·refine TieO.withH hl (TieO.storeY x [tI x.Source, tI x.Kind, tI x.Torque, tI x.Priority] hx2 rfl rfl rfl rfl rfl rfl rfl rfl rfl rfl rfl rfl (TieO.ifG ?_))
       exact TieO.nil (TieS.leaf ⟨rfl, .of rfl rfl⟩)
      ·exact TieA.done (.of rfl rfl)
      exact AllA.nil
     refine TieA.mv 0 rfl (.inl rfl) rfl (by kernel_rfl) rfl (.mv 1 rfl (.inl rfl) rfl (by kernel_rfl) rfl (.mv 2 rfl (.inl rfl) rfl (by kernel_rfl) rfl (.bin (V := .t (tI (w64 (a + s.1)))) 3 _ rfl rfl rfl rfl rfl rfl (by kernel_rfl) (by kernel_rfl) (by kernel_rfl) rfl rfl rfl rfl (.mv 4 rfl (.inl rfl) rfl (by kernel_rfl) rfl ?_))))
     refine TieA.mv 5 rfl (.inl rfl) rfl (by kernel_rfl) rfl (.mv 6 rfl (.inl rfl) rfl (by kernel_rfl) rfl (.bin (V := .t (tI (w64 (b2 + s.1)))) 7 _ rfl rfl rfl rfl rfl rfl (by kernel_rfl) (by kernel_rfl) (by kernel_rfl) rfl rfl rfl rfl (.mv 8 rfl (.inl rfl) rfl (by kernel_rfl) rfl (.mv 9 rfl (.inl rfl) rfl (by kernel_rfl) rfl ?_))))
     refine TieA.mv 10 rfl (.inl rfl) rfl (by kernel_rfl) rfl (.bin (V := .t (tI (w64 (b2 + s.1)))) 11 _ rfl rfl rfl rfl rfl rfl (by kernel_rfl) (by kernel_rfl) (by kernel_rfl) rfl rfl rfl rfl (.idx 12 _ hx rfl rfl rfl rfl rfl rfl (by kernel_rfl) (by kernel_rfl) (by kernel_rfl) rfl rfl rfl rfl rfl rfl (.mv 14 rfl (.inl rfl) rfl (by kernel_rfl) rfl (.mv 15 rfl (.inl rfl) rfl (by kernel_rfl) rfl ?_))))
     refine TieA.mv 16 rfl (.inl rfl) rfl (by kernel_rfl) rfl (.bin (V := .t (tI (w64 (a + s.1)))) 17 _ rfl rfl rfl rfl rfl rfl (by kernel_rfl) (by kernel_rfl) (by kernel_rfl) rfl rfl rfl rfl (.idx 18 _ hx2 rfl rfl rfl rfl rfl rfl (by kernel_rfl) (by kernel_rfl) (by kernel_rfl) rfl rfl rfl rfl rfl rfl (.all [13, 19] (by kernel_rfl) rfl (AllA.cons (σ₁ := ⟨[(0, .own 1000000), (1, .t (tI a)), (2, .t (tI b2)), (3, .t (tI n2)), (10, .t (tI s.1)), (16, .own 1000000), (19, .t (tI (w64 (a + s.1)))), (20, .own 1000000), (23, .t (tI (w64 (b2 + s.1)))), (29, .agg [.t (tI x.Source), .t (tI x.Kind), .t (tI x.Torque), .t (tI x.Priority)]), (34, .pe 1000000 (Int.toNat (w64 (a + s.1))) 4 0)], [(1000000, .rows 73 4 s.2.length (s.2.map q11))]⟩) _ rfl rfl ?_ ?_ ?_))))
     ·exact TieO.loadY hx rfl rfl rfl rfl rfl rfl rfl rfl (.nil (TieS.leaf ⟨rfl, .of rfl rfl⟩))
     ·refine TieA.all [19] (by kernel_rfl) rfl (AllA.cons _ rfl rfl ?_ A_0 ?_)
      ·exact TieO.loadY hx2 rfl rfl rfl rfl rfl rfl rfl rfl (.nil (TieS.leaf ⟨rfl, .of rfl rfl⟩))
      exact AllA.nil
     refine AllA.cons (σ₁ := ⟨[(0, .own 1000000), (1, .t (tI a)), (2, .t (tI b2)), (3, .t (tI n2)), (10, .t (tI s.1)), (16, .own 1000000), (19, .t (tI (w64 (a + s.1)))), (20, .own 1000000), (23, .t (tI (w64 (b2 + s.1)))), (28, .pe 1000000 (Int.toNat (w64 (b2 + s.1))) 4 0), (35, .agg [.t (tI x2.Source), .t (tI x2.Kind), .t (tI x2.Torque), .t (tI x2.Priority)])], [(1000000, .rows 73 4 s.2.length (s.2.map q11))]⟩) _ rfl rfl ?_ ?_ ?_
     ·exact TieO.loadY hx2 rfl rfl rfl rfl rfl rfl rfl rfl (.nil (TieS.leaf ⟨rfl, .of rfl rfl⟩))
     ·refine TieA.all [13] (by kernel_rfl) rfl (AllA.cons _ rfl rfl ?_ A_0 ?_)
      ·exact TieO.loadY hx rfl rfl rfl rfl rfl rfl rfl rfl (.nil (TieS.leaf ⟨rfl, .of rfl rfl⟩))
      exact AllA.nil
     exact AllA.nil
    exact TieO.indexO rfl rfl rfl rfl rfl rfl rfl rfl rfl rfl fun x3 hx3 => .storeY x2 [tI x2.Source, tI x2.Kind, tI x2.Torque, tI x2.Priority] hx3 rfl rfl rfl rfl rfl rfl rfl rfl rfl rfl rfl rfl fun l2 hl2 => .nil (.leaf ⟨rfl, .of rfl rfl⟩)
   rintro f2 e σ' _ ⟨rfl, hs⟩
   refine TieX.sub hs (TieS.endb (.region (.run 3 rfl (.nil ?_))))
   exact TieS.leaf ⟨rfl, .of rfl rfl⟩
  ·exact TieS.exitOut rfl ⟨(fun h => by cases h), rfl, .of rfl rfl⟩
 rintro (s2 | r) e σ' _ hq
 ·obtain ⟨rfl, hs⟩ := hq
  refine TieX.exit rfl (TieX.sub hs ?_)
  exact TieS.leaf ⟨.inr rfl, ⟨[(1000000, 1000000)], _, _, rfl, rfl, rfl, rfl, rfl⟩⟩
 ·exact hq.elim
set_option maxRecDepth 100000 in
theorem q232 (data : List SRequest) (a : Int) (m2 : Int) (b2 : Int) (n2 : Nat) (cs : List (List Tree)) (cmp : SRequest → SRequest → Option Int) (h2 : ∀ x0 x1, TieF Tryz.prog n2 ([q25 x0, q25 x1] ++ cs.map T.el) (cmp x0 x1) (fun r => .t (tI r))) : TieG Tryz.prog 292 [.own 1000000, .t (tI a), .t (tI m2), .t (tI b2), .fz n2 cs] [(1000000, .rows 73 4 data.length (data.map q11))] (q145 data a m2 b2 cmp) (fun _ => .tup []) (fun r => [(1000000, .rows 73 4 r.length (r.map q11))]) := by
 refine TieG.intro htab 58 [] Tryz.call292 Tryz.func292 rfl rfl rfl (Nat.le_of_ble_eq_true rfl) fun w0 L => ?_
 refine TieS.seq (.region (.run 4 rfl (.nil (.seq ?_))))
 refine TieS.region (.run 4 rfl (.nil (.seq (.block ?_))))
 refine TieS.loop (fun t => ⟨[(0, .own 1000000), (2, .t (tI m2)), (4, .fz n2 cs), (10, .t (tI t.1)), (11, .t (tI t.2.1))], [(1000000, .rows 73 4 t.2.2.length (t.2.2.map q11))]⟩) (fun b e σ' => match b with | .inl t => e = .exit 0 ∧ Sub ⟨[(0, .own 1000000), (2, .t (tI m2)), (4, .fz n2 cs), (10, .t (tI t.1))], [(1000000, .rows 73 4 t.2.2.length (t.2.2.map q11))]⟩ σ' | .inr t => False) (.of rfl rfl) ?_ ?_
 ·intro s
  refine TieS.seq (.seq (.region (.run 3 rfl (.nil ?_))))
  refine TieS.cond rfl ?_ ?_
  ·refine TieS.skip (.block (.seq (.region (.run 3 rfl ?_))))
   refine TieO.nil (.cond rfl ?_ ?_)
   ·refine TieS.seq (.region (.run 7 rfl (.callG [(1000000, 1000000)] [] (fun v => ⟨[(0, .own 1000000), (2, .t (tI m2)), (4, .fz n2 cs), (10, .t (tI s.1)), (11, .t (tI s.2.1)), (18, .t (tI s.1)), (19, .t (tI s.2.1)), (20, .t (tB (s.1 != s.2.1))), (21, .t (tI s.1)), (22, .t (tI s.2.1)), (23, .t (tB (decide (s.1 > s.2.1)))), (24, .own 1000000), (25, .t (tI m2)), (26, .t (tI s.1)), (27, .t (tI (w64 (m2 - s.1)))), (28, .t (tI m2)), (29, .t (tI s.2.1)), (30, .fz n2 cs), (31, .tup [])], [(1000000, .rows 73 4 v.length (v.map q11))]⟩) (q53 s.2.2 (w64 (m2 - s.1)) m2 s.2.1 n2 cs cmp h2) rfl rfl rfl rfl rfl rfl rfl (fun _ => rfl) (fun _ => rfl) (fun _ => rfl) (fun _ => .of rfl rfl) fun v hv => .nil ?_)))
    exact TieS.region (.run 4 rfl (.nil (.endb (.leaf ⟨rfl, .of rfl rfl⟩))))
   ·refine TieS.seq (.region (.run 11 rfl (.callG [(1000000, 1000000)] [] (fun v2 => ⟨[(0, .own 1000000), (2, .t (tI m2)), (4, .fz n2 cs), (10, .t (tI s.1)), (11, .t (tI s.2.1)), (18, .t (tI s.1)), (19, .t (tI s.2.1)), (20, .t (tB (s.1 != s.2.1))), (21, .t (tI s.1)), (22, .t (tI s.2.1)), (23, .t (tB (decide (s.1 > s.2.1)))), (35, .own 1000000), (36, .t (tI m2)), (37, .t (tI s.1)), (38, .t (tI (w64 (m2 - s.1)))), (39, .t (tI m2)), (40, .t (tI s.2.1)), (41, .t (tI (w64 (m2 + s.2.1)))), (42, .t (tI s.1)), (43, .t (tI (w64 ((w64 (m2 + s.2.1)) - s.1)))), (44, .t (tI s.1)), (45, .fz n2 cs), (46, .tup [])], [(1000000, .rows 73 4 v2.length (v2.map q11))]⟩) (q53 s.2.2 (w64 (m2 - s.1)) (w64 ((w64 (m2 + s.2.1)) - s.1)) s.1 n2 cs cmp h2) rfl rfl rfl rfl rfl rfl rfl (fun _ => rfl) (fun _ => rfl) (fun _ => rfl) (fun _ => .of rfl rfl) fun v2 hv2 => .nil ?_)))
    exact TieS.region (.run 4 rfl (.nil (.endb (.leaf ⟨rfl, .of rfl rfl⟩))))
  ·exact TieS.exitOut rfl ⟨(fun h => by cases h), rfl, .of rfl rfl⟩
 rintro (s2 | r) e σ' _ hq
 ·obtain ⟨rfl, hs⟩ := hq
  refine TieX.exit rfl (TieX.sub hs ?_)
  exact TieS.region (.run 7 rfl (.callG [(1000000, 1000000)] [] (fun v3 => ⟨[(0, .own 1000000), (2, .t (tI m2)), (4, .fz n2 cs), (10, .t (tI s2.1)), (50, .own 1000000), (51, .t (tI m2)), (52, .t (tI s2.1)), (53, .t (tI (w64 (m2 - s2.1)))), (54, .t (tI m2)), (55, .t (tI s2.1)), (56, .fz n2 cs), (57, .tup [])], [(1000000, .rows 73 4 v3.length (v3.map q11))]⟩) (q53 s2.2.2 (w64 (m2 - s2.1)) m2 s2.1 n2 cs cmp h2) rfl rfl rfl rfl rfl rfl rfl (fun _ => rfl) (fun _ => rfl) (fun _ => rfl) (fun _ => .of rfl rfl) fun v3 hv3 => .nil (.leaf ⟨.inr rfl, ⟨[(1000000, 1000000)], _, _, rfl, rfl, rfl, rfl, rfl⟩⟩)))
 ·exact hq.elim
set_option maxRecDepth 100000 in
theorem q101 (fu : Nat) : ∀ (data : List SRequest) (a : Int) (m2 : Int) (b2 : Int) (n2 : Nat) (cs : List (List Tree)) (cmp : SRequest → SRequest → Option Int) (h2 : ∀ x0 x1, TieF Tryz.prog n2 ([q25 x0, q25 x1] ++ cs.map T.el) (cmp x0 x1) (fun r => .t (tI r))), TieG Tryz.prog 271 [.own 1000000, .t (tI a), .t (tI m2), .t (tI b2), .fz n2 cs] [(1000000, .rows 73 4 data.length (data.map q11))] (q20 fu data a m2 b2 cmp) (fun _ => .tup []) (fun r => [(1000000, .rows 73 4 r.length (r.map q11))]) := by
 induction fu with
 | zero => exact fun _ _ _ _ _ _ _ _ => ⟨Tryz.call271, fun _ hr => by have hr2 : (none : Option (List SRequest)) = some _ := hr; cases hr2⟩
 | succ fu ih =>
  rw [show q20 (fu + 1) = q43 (q20 fu) from rfl]
  generalize q20 fu = rc at ih ⊢
  intro data a m2 b2 n2 cs cmp h2
  refine TieG.intro htab 220 [] Tryz.call271 Tryz.func271 rfl rfl rfl (Nat.le_of_ble_eq_true rfl) fun w0 L => ?_
  refine TieS.seq (.seq (.region (.run 4 rfl (.nil ?_))))
  refine TieS.cond rfl ?_ ?_
  ·refine TieS.seq (.region (.run 2 rfl (.nil (.seq ?_))))
   refine TieS.region (.run 2 rfl (.nil (.seq (.block ?_))))
   refine TieS.loop (fun t => ⟨[(0, .own 1000000), (1, .t (tI a)), (4, .fz n2 cs), (10, .t (tI t.1)), (11, .t (tI t.2))], [(1000000, .rows 73 4 data.length (data.map q11))]⟩) (fun b e σ' => match b with | .inl t => e = .exit 0 ∧ Sub ⟨[(0, .own 1000000), (1, .t (tI a)), (10, .t (tI t.1))], [(1000000, .rows 73 4 data.length (data.map q11))]⟩ σ' | .inr t => False) (.of rfl rfl) ?_ ?_
   ·intro s
    refine TieS.seq (.seq (.region (.run 3 rfl (.nil ?_))))
    refine TieS.cond rfl ?_ ?_
    ·refine TieS.skip (.block (.seq (.region (.run 7 rfl ?_))))
     refine TieO.nil (.seq (TieX.pre fun x hx => TieX.pre fun x2 hx2 => TieX.pre fun v hv => ?_))
     refine TieS.draw 11 [_, _, _, _, _, _, _, _, _, _, _] [(0, .own 1000000), (1, .t (tI a)), (4, .fz n2 cs), (10, .t (tI s.1)), (11, .t (tI s.2)), (12, .t (tI (w64 (bitShr .u64 (IntKind.u64.wrap (w64 (s.1 + s.2))) 1))))] [(1000000, .rows 73 4 data.length (data.map q11))] mixed (.of rfl rfl) rfl rfl rfl rfl (.cons (.quiet rfl rfl rfl) (.cons (.quiet rfl rfl rfl) (.cons (.quiet rfl rfl rfl) (.cons (.indexO (sz := 4) hx rfl rfl rfl rfl rfl rfl rfl rfl) (.cons (.loadY hx rfl rfl rfl rfl rfl rfl) (.cons (.quiet rfl rfl rfl) (.cons (.quiet rfl rfl rfl) (.cons (.indexO (sz := 4) hx2 rfl rfl rfl rfl rfl rfl rfl rfl) (.cons (.loadY hx2 rfl rfl rfl rfl rfl rfl) (.cons (.callV (h2 x x2) hv rfl rfl rfl rfl) (.cons (.quiet rfl rfl rfl) (.nil)))))))))))) (.nil (.cond rfl ?_ ?_))
     ·exact TieS.region (.run 3 rfl (.nil (.endb (.leaf ⟨rfl, .of rfl rfl⟩))))
     ·exact TieS.region (.run 2 rfl (.nil (.endb (.leaf ⟨rfl, .of rfl rfl⟩))))
    ·exact TieS.exitOut rfl ⟨(fun h => by cases h), rfl, .of rfl rfl⟩
   rintro (s2 | r) e σ' _ hq
   ·obtain ⟨rfl, hs⟩ := hq
    refine TieX.exit rfl (TieX.sub hs ?_)
    refine TieS.seq (.seq (.region (.run 2 rfl (.nil ?_))))
    refine TieS.block (.loop (fun t => ⟨[(0, .own 1000000), (10, .t (tI s2.1)), (13, .t (tI t.1))], [(1000000, .rows 73 4 t.2.length (t.2.map q11))]⟩) (fun b e σ' => match b with | .inl t => e = .exit 2 ∧ Sub ⟨[], [(1000000, .rows 73 4 t.2.length (t.2.map q11))]⟩ σ' | .inr t => False) (.of rfl rfl) ?_ ?_)
    ·intro s3
     refine TieS.seq (.seq (.region (.run 4 rfl (.nil ?_))))
     refine TieS.cond rfl ?_ ?_
     ·refine TieS.skip (.seq (.block (.bind (Q₁ := fun t e σ' => e = .normal ∧ Sub ⟨[(0, .own 1000000), (10, .t (tI s2.1)), (13, .t (tI s3.1))], [(1000000, .rows 73 4 t.length (t.map q11))]⟩ σ') ?_ ?_)))
      ·refine TieX.pre fun x3 hx3 => TieX.pre fun x4 hx4 => TieX.pre fun l hl => TieS.draws 16 (bm 18 0) (bm 18 65535) ⟨[(0, .own 1000000), (10, .t (tI s2.1)), (13, .t (tI s3.1)), (63, .own 1000000), (65, .t (tI (w64 (s3.1 + 1)))), (74, .agg [.t (tI x4.Source), .t (tI x4.Kind), .t (tI x4.Torque), .t (tI x4.Priority)])], [(1000000, .rows 73 4 l.length (l.map q11))]⟩ mixed (fun _ _ _ h => by cases h.1) rfl rfl rfl rfl ?_ ?_
       ·refine TieA.have_ (fuel₁ := 4) (l₁ := (bm 18 16383)) (σ₁ := ⟨[(0, .own 1000000), (10, .t (tI s2.1)), (13, .t (tI s3.1)), (61, .own 1000000), (62, .t (tI s3.1)), (63, .own 1000000), (65, .t (tI (w64 (s3.1 + 1)))), (70, .agg [.t (tI x3.Source), .t (tI x3.Kind), .t (tI x3.Torque), .t (tI x3.Priority)]), (74, .agg [.t (tI x4.Source), .t (tI x4.Kind), .t (tI x4.Torque), .t (tI x4.Priority)])], [(1000000, .rows 73 4 s3.2.length (s3.2.map q11))]⟩) ?_ fun A_0 => ?_
        ·refine TieA.idx 14 _ hx4 rfl rfl rfl rfl rfl rfl (by kernel_rfl) (by kernel_rfl) (by kernel_rfl) rfl rfl rfl rfl rfl rfl (.all [15] (by kernel_rfl) rfl (AllA.cons (σ₁ := ⟨[(0, .own 1000000), (10, .t (tI s2.1)), (13, .t (tI s3.1)), (63, .own 1000000), (65, .t (tI (w64 (s3.1 + 1)))), (74, .agg [.t (tI x4.Source), .t (tI x4.Kind), .t (tI x4.Torque), .t (tI x4.Priority)])], [(1000000, .rows 73 4 l.length (l.map q11))]⟩) _ rfl rfl ?_ ?_ ?_))
         ·refine TieO.withH hl (TieO.storeY x3 [tI x3.Source, tI x3.Kind, tI x3.Torque, tI x3.Priority] hx4 rfl rfl rfl rfl rfl rfl rfl rfl rfl rfl rfl rfl (TieO.ifG ?_))
          exact TieO.nil (TieS.leaf ⟨rfl, .of rfl rfl⟩)
         ·exact TieA.done (.of rfl rfl)
         exact AllA.nil
        refine TieA.mv 0 rfl (.inl rfl) rfl (by kernel_rfl) rfl (.mv 1 rfl (.inl rfl) rfl (by kernel_rfl) rfl (.mv 2 rfl (.inl rfl) rfl (by kernel_rfl) rfl (.mv 3 rfl (.inl rfl) rfl (by kernel_rfl) rfl (.bin (V := .t (tI (w64 (s3.1 + 1)))) 4 _ rfl rfl rfl rfl rfl rfl (by kernel_rfl) (by kernel_rfl) (by kernel_rfl) rfl rfl rfl rfl ?_))))
        refine TieA.mv 5 rfl (.inl rfl) rfl (by kernel_rfl) rfl (.mv 6 rfl (.inl rfl) rfl (by kernel_rfl) rfl (.bin (V := .t (tI (w64 (s3.1 + 1)))) 7 _ rfl rfl rfl rfl rfl rfl (by kernel_rfl) (by kernel_rfl) (by kernel_rfl) rfl rfl rfl rfl (.idx 8 _ hx3 rfl rfl rfl rfl rfl rfl (by kernel_rfl) (by kernel_rfl) (by kernel_rfl) rfl rfl rfl rfl rfl rfl (.mv 10 rfl (.inl rfl) rfl (by kernel_rfl) rfl ?_))))
        refine TieA.mv 11 rfl (.inl rfl) rfl (by kernel_rfl) rfl (.idx 12 _ hx4 rfl rfl rfl rfl rfl rfl (by kernel_rfl) (by kernel_rfl) (by kernel_rfl) rfl rfl rfl rfl rfl rfl (.all [9, 13] (by kernel_rfl) rfl (AllA.cons (σ₁ := ⟨[(0, .own 1000000), (10, .t (tI s2.1)), (13, .t (tI s3.1)), (61, .own 1000000), (62, .t (tI s3.1)), (63, .own 1000000), (65, .t (tI (w64 (s3.1 + 1)))), (70, .agg [.t (tI x3.Source), .t (tI x3.Kind), .t (tI x3.Torque), .t (tI x3.Priority)]), (73, .pe 1000000 (Int.toNat s3.1) 4 0)], [(1000000, .rows 73 4 s3.2.length (s3.2.map q11))]⟩) _ rfl rfl ?_ ?_ ?_)))
        ·exact TieO.loadY hx3 rfl rfl rfl rfl rfl rfl rfl rfl (.nil (TieS.leaf ⟨rfl, .of rfl rfl⟩))
        ·refine TieA.all [13] (by kernel_rfl) rfl (AllA.cons _ rfl rfl ?_ A_0 ?_)
         ·exact TieO.loadY hx4 rfl rfl rfl rfl rfl rfl rfl rfl (.nil (TieS.leaf ⟨rfl, .of rfl rfl⟩))
         exact AllA.nil
        refine AllA.cons (σ₁ := ⟨[(0, .own 1000000), (10, .t (tI s2.1)), (13, .t (tI s3.1)), (61, .own 1000000), (62, .t (tI s3.1)), (63, .own 1000000), (65, .t (tI (w64 (s3.1 + 1)))), (69, .pe 1000000 (Int.toNat (w64 (s3.1 + 1))) 4 0), (74, .agg [.t (tI x4.Source), .t (tI x4.Kind), .t (tI x4.Torque), .t (tI x4.Priority)])], [(1000000, .rows 73 4 s3.2.length (s3.2.map q11))]⟩) _ rfl rfl ?_ ?_ ?_
        ·exact TieO.loadY hx4 rfl rfl rfl rfl rfl rfl rfl rfl (.nil (TieS.leaf ⟨rfl, .of rfl rfl⟩))
        ·refine TieA.all [9] (by kernel_rfl) rfl (AllA.cons _ rfl rfl ?_ A_0 ?_)
         ·exact TieO.loadY hx3 rfl rfl rfl rfl rfl rfl rfl rfl (.nil (TieS.leaf ⟨rfl, .of rfl rfl⟩))
         exact AllA.nil
        exact AllA.nil
       exact TieO.indexO rfl rfl rfl rfl rfl rfl rfl rfl rfl rfl fun x5 hx5 => .storeY x4 [tI x4.Source, tI x4.Kind, tI x4.Torque, tI x4.Priority] hx5 rfl rfl rfl rfl rfl rfl rfl rfl rfl rfl rfl rfl fun l2 hl2 => .nil (.leaf ⟨rfl, .of rfl rfl⟩)
      rintro f2 e σ' _ ⟨rfl, hs⟩
      refine TieX.sub hs (TieS.endb (.region (.run 3 rfl (.nil ?_))))
      exact TieS.leaf ⟨rfl, .of rfl rfl⟩
     ·exact TieS.exitOut rfl ⟨(fun h => by cases h), rfl, .of rfl rfl⟩
    rintro (s4 | r) e σ' _ hq
    ·obtain ⟨rfl, hs⟩ := hq
     refine TieX.exit rfl (TieX.sub hs ?_)
     exact TieS.ret ⟨.inl rfl, ⟨[(1000000, 1000000)], _, _, rfl, rfl, rfl, rfl, rfl⟩⟩
    ·exact hq.elim
   ·exact hq.elim
  ·refine TieS.skip (.seq (.seq (.region (.run 4 rfl ?_))))
   refine TieO.nil (.cond rfl ?_ ?_)
   ·refine TieS.seq (.region (.run 2 rfl (.nil (.seq ?_))))
    refine TieS.region (.run 2 rfl (.nil (.seq (.block ?_))))
    refine TieS.loop (fun t => ⟨[(0, .own 1000000), (2, .t (tI m2)), (4, .fz n2 cs), (14, .t (tI t.1)), (15, .t (tI t.2))], [(1000000, .rows 73 4 data.length (data.map q11))]⟩) (fun b e σ' => match b with | .inl t => e = .exit 4 ∧ Sub ⟨[(0, .own 1000000), (2, .t (tI m2)), (14, .t (tI t.1))], [(1000000, .rows 73 4 data.length (data.map q11))]⟩ σ' | .inr t => False) (.of rfl rfl) ?_ ?_
    ·intro s5
     refine TieS.seq (.seq (.region (.run 3 rfl (.nil ?_))))
     refine TieS.cond rfl ?_ ?_
     ·refine TieS.skip (.block (.seq (.region (.run 7 rfl ?_))))
      refine TieO.nil (.seq (TieX.pre fun x6 hx6 => TieX.pre fun x7 hx7 => TieX.pre fun v2 hv2 => ?_))
      refine TieS.draw 12 [_, _, _, _, _, _, _, _, _, _, _, _] [(0, .own 1000000), (2, .t (tI m2)), (4, .fz n2 cs), (14, .t (tI s5.1)), (15, .t (tI s5.2)), (16, .t (tI (w64 (bitShr .u64 (IntKind.u64.wrap (w64 (s5.1 + s5.2))) 1))))] [(1000000, .rows 73 4 data.length (data.map q11))] mixed (.of rfl rfl) rfl rfl rfl rfl (.cons (.quiet rfl rfl rfl) (.cons (.quiet rfl rfl rfl) (.cons (.quiet rfl rfl rfl) (.cons (.indexO (sz := 4) hx6 rfl rfl rfl rfl rfl rfl rfl rfl) (.cons (.loadY hx6 rfl rfl rfl rfl rfl rfl) (.cons (.quiet rfl rfl rfl) (.cons (.quiet rfl rfl rfl) (.cons (.indexO (sz := 4) hx7 rfl rfl rfl rfl rfl rfl rfl rfl) (.cons (.loadY hx7 rfl rfl rfl rfl rfl rfl) (.cons (.callV (h2 x6 x7) hv2 rfl rfl rfl rfl) (.cons (.quiet rfl rfl rfl) (.cons (.quiet rfl rfl rfl) (.nil))))))))))))) (.nil (.cond rfl ?_ ?_))
      ·exact TieS.region (.run 3 rfl (.nil (.endb (.leaf ⟨rfl, .of rfl rfl⟩))))
      ·exact TieS.region (.run 2 rfl (.nil (.endb (.leaf ⟨rfl, .of rfl rfl⟩))))
     ·exact TieS.exitOut rfl ⟨(fun h => by cases h), rfl, .of rfl rfl⟩
    rintro (s6 | r) e σ' _ hq
    ·obtain ⟨rfl, hs⟩ := hq
     refine TieX.exit rfl (TieX.sub hs ?_)
     refine TieS.seq (.seq (.region (.run 2 rfl (.nil ?_))))
     refine TieS.block (.loop (fun t => ⟨[(0, .own 1000000), (14, .t (tI s6.1)), (17, .t (tI t.1))], [(1000000, .rows 73 4 t.2.length (t.2.map q11))]⟩) (fun b e σ' => match b with | .inl t => e = .exit 6 ∧ Sub ⟨[], [(1000000, .rows 73 4 t.2.length (t.2.map q11))]⟩ σ' | .inr t => False) (.of rfl rfl) ?_ ?_)
     ·intro s7
      refine TieS.seq (.seq (.region (.run 3 rfl (.nil ?_))))
      refine TieS.cond rfl ?_ ?_
      ·refine TieS.skip (.seq (.block (.bind (Q₁ := fun t e σ' => e = .normal ∧ Sub ⟨[(0, .own 1000000), (14, .t (tI s6.1)), (17, .t (tI s7.1))], [(1000000, .rows 73 4 t.length (t.map q11))]⟩ σ') ?_ ?_)))
       ·refine TieX.pre fun x8 hx8 => TieX.pre fun x9 hx9 => TieX.pre fun l3 hl3 => TieS.draws 16 (bm 18 0) (bm 18 65535) ⟨[(0, .own 1000000), (14, .t (tI s6.1)), (17, .t (tI s7.1)), (115, .own 1000000), (117, .t (tI (w64 (s7.1 - 1)))), (126, .agg [.t (tI x9.Source), .t (tI x9.Kind), .t (tI x9.Torque), .t (tI x9.Priority)])], [(1000000, .rows 73 4 l3.length (l3.map q11))]⟩ mixed (fun _ _ _ h => by cases h.1) rfl rfl rfl rfl ?_ ?_
        ·refine TieA.have_ (fuel₁ := 4) (l₁ := (bm 18 16383)) (σ₁ := ⟨[(0, .own 1000000), (14, .t (tI s6.1)), (17, .t (tI s7.1)), (113, .own 1000000), (114, .t (tI s7.1)), (115, .own 1000000), (117, .t (tI (w64 (s7.1 - 1)))), (122, .agg [.t (tI x8.Source), .t (tI x8.Kind), .t (tI x8.Torque), .t (tI x8.Priority)]), (126, .agg [.t (tI x9.Source), .t (tI x9.Kind), .t (tI x9.Torque), .t (tI x9.Priority)])], [(1000000, .rows 73 4 s7.2.length (s7.2.map q11))]⟩) ?_ fun A_0 => ?_
         ·refine TieA.idx 14 _ hx9 rfl rfl rfl rfl rfl rfl (by kernel_rfl) (by kernel_rfl) (by kernel_rfl) rfl rfl rfl rfl rfl rfl (.all [15] (by kernel_rfl) rfl (AllA.cons (σ₁ := ⟨[(0, .own 1000000), (14, .t (tI s6.1)), (17, .t (tI s7.1)), (115, .own 1000000), (117, .t (tI (w64 (s7.1 - 1)))), (126, .agg [.t (tI x9.Source), .t (tI x9.Kind), .t (tI x9.Torque), .t (tI x9.Priority)])], [(1000000, .rows 73 4 l3.length (l3.map q11))]⟩) _ rfl rfl ?_ ?_ ?_))
          ·refine TieO.withH hl3 (TieO.storeY x8 [tI x8.Source, tI x8.Kind, tI x8.Torque, tI x8.Priority] hx9 rfl rfl rfl rfl rfl rfl rfl rfl rfl rfl rfl rfl (TieO.ifG ?_))
           exact TieO.nil (TieS.leaf ⟨rfl, .of rfl rfl⟩)
          ·exact TieA.done (.of rfl rfl)
          exact AllA.nil
         refine TieA.mv 0 rfl (.inl rfl) rfl (by kernel_rfl) rfl (.mv 1 rfl (.inl rfl) rfl (by kernel_rfl) rfl (.mv 2 rfl (.inl rfl) rfl (by kernel_rfl) rfl (.mv 3 rfl (.inl rfl) rfl (by kernel_rfl) rfl (.bin (V := .t (tI (w64 (s7.1 - 1)))) 4 _ rfl rfl rfl rfl rfl rfl (by kernel_rfl) (by kernel_rfl) (by kernel_rfl) rfl rfl rfl rfl ?_))))
         refine TieA.mv 5 rfl (.inl rfl) rfl (by kernel_rfl) rfl (.mv 6 rfl (.inl rfl) rfl (by kernel_rfl) rfl (.bin (V := .t (tI (w64 (s7.1 - 1)))) 7 _ rfl rfl rfl rfl rfl rfl (by kernel_rfl) (by kernel_rfl) (by kernel_rfl) rfl rfl rfl rfl (.idx 8 _ hx8 rfl rfl rfl rfl rfl rfl (by kernel_rfl) (by kernel_rfl) (by kernel_rfl) rfl rfl rfl rfl rfl rfl (.mv 10 rfl (.inl rfl) rfl (by kernel_rfl) rfl ?_))))
         refine TieA.mv 11 rfl (.inl rfl) rfl (by kernel_rfl) rfl (.idx 12 _ hx9 rfl rfl rfl rfl rfl rfl (by kernel_rfl) (by kernel_rfl) (by kernel_rfl) rfl rfl rfl rfl rfl rfl (.all [9, 13] (by kernel_rfl) rfl (AllA.cons (σ₁ := ⟨[(0, .own 1000000), (14, .t (tI s6.1)), (17, .t (tI s7.1)), (113, .own 1000000), (114, .t (tI s7.1)), (115, .own 1000000), (117, .t (tI (w64 (s7.1 - 1)))), (122, .agg [.t (tI x8.Source), .t (tI x8.Kind), .t (tI x8.Torque), .t (tI x8.Priority)]), (125, .pe 1000000 (Int.toNat s7.1) 4 0)], [(1000000, .rows 73 4 s7.2.length (s7.2.map q11))]⟩) _ rfl rfl ?_ ?_ ?_)))
         ·exact TieO.loadY hx8 rfl rfl rfl rfl rfl rfl rfl rfl (.nil (TieS.leaf ⟨rfl, .of rfl rfl⟩))
         ·refine TieA.all [13] (by kernel_rfl) rfl (AllA.cons _ rfl rfl ?_ A_0 ?_)
          ·exact TieO.loadY hx9 rfl rfl rfl rfl rfl rfl rfl rfl (.nil (TieS.leaf ⟨rfl, .of rfl rfl⟩))
          exact AllA.nil
         refine AllA.cons (σ₁ := ⟨[(0, .own 1000000), (14, .t (tI s6.1)), (17, .t (tI s7.1)), (113, .own 1000000), (114, .t (tI s7.1)), (115, .own 1000000), (117, .t (tI (w64 (s7.1 - 1)))), (121, .pe 1000000 (Int.toNat (w64 (s7.1 - 1))) 4 0), (126, .agg [.t (tI x9.Source), .t (tI x9.Kind), .t (tI x9.Torque), .t (tI x9.Priority)])], [(1000000, .rows 73 4 s7.2.length (s7.2.map q11))]⟩) _ rfl rfl ?_ ?_ ?_
         ·exact TieO.loadY hx9 rfl rfl rfl rfl rfl rfl rfl rfl (.nil (TieS.leaf ⟨rfl, .of rfl rfl⟩))
         ·refine TieA.all [9] (by kernel_rfl) rfl (AllA.cons _ rfl rfl ?_ A_0 ?_)
          ·exact TieO.loadY hx8 rfl rfl rfl rfl rfl rfl rfl rfl (.nil (TieS.leaf ⟨rfl, .of rfl rfl⟩))
          exact AllA.nil
         exact AllA.nil
        exact TieO.indexO rfl rfl rfl rfl rfl rfl rfl rfl rfl rfl fun x10 hx10 => .storeY x9 [tI x9.Source, tI x9.Kind, tI x9.Torque, tI x9.Priority] hx10 rfl rfl rfl rfl rfl rfl rfl rfl rfl rfl rfl rfl fun l4 hl4 => .nil (.leaf ⟨rfl, .of rfl rfl⟩)
       rintro f3 e σ' _ ⟨rfl, hs⟩
       refine TieX.sub hs (TieS.endb (.region (.run 3 rfl (.nil ?_))))
       exact TieS.leaf ⟨rfl, .of rfl rfl⟩
      ·exact TieS.exitOut rfl ⟨(fun h => by cases h), rfl, .of rfl rfl⟩
     rintro (s8 | r) e σ' _ hq
     ·obtain ⟨rfl, hs⟩ := hq
      refine TieX.exit rfl (TieX.sub hs ?_)
      exact TieS.ret ⟨.inl rfl, ⟨[(1000000, 1000000)], _, _, rfl, rfl, rfl, rfl, rfl⟩⟩
     ·exact hq.elim
    ·exact hq.elim
   ·refine TieS.skip (.seq (.region (.run 7 rfl (.nil ?_))))
    refine TieS.seq (.region (.run 4 rfl (.nil (.seq ?_))))
    refine TieS.region (.run 2 rfl (.nil (.seq (.seq ?_))))
    refine TieS.region (.run 3 rfl (.nil (.bind (Q₁ := fun t e σ' => e = .normal ∧ Sub ⟨[(0, .own 1000000), (1, .t (tI a)), (2, .t (tI m2)), (3, .t (tI b2)), (4, .fz n2 cs), (18, .t (tI (w64 (bitShr .u64 (IntKind.u64.wrap (w64 (a + b2))) 1)))), (19, .t (tI (w64 ((w64 (bitShr .u64 (IntKind.u64.wrap (w64 (a + b2))) 1)) + m2)))), (20, .t (tI t.1)), (21, .t (tI t.2))], [(1000000, .rows 73 4 data.length (data.map q11))]⟩ σ') ?_ ?_)))
    ·refine TieS.cond rfl ?_ ?_
     ·refine TieS.seq (.region (.run 4 rfl (.nil (.region ?_))))
      exact TieO.run 2 rfl (.nil (.leaf ⟨rfl, .of rfl rfl⟩))
     ·refine TieS.seq (.region (.run 2 rfl (.nil (.region ?_))))
      exact TieO.run 2 rfl (.nil (.leaf ⟨rfl, .of rfl rfl⟩))
    rintro s9 e σ' _ ⟨rfl, hs⟩
    refine TieX.sub hs (TieS.seq (.region (.run 3 rfl (.nil ?_))))
    refine TieS.seq (.block (.loop (fun t => ⟨[(0, .own 1000000), (1, .t (tI a)), (2, .t (tI m2)), (3, .t (tI b2)), (4, .fz n2 cs), (18, .t (tI (w64 (bitShr .u64 (IntKind.u64.wrap (w64 (a + b2))) 1)))), (19, .t (tI (w64 ((w64 (bitShr .u64 (IntKind.u64.wrap (w64 (a + b2))) 1)) + m2)))), (20, .t (tI t.1)), (21, .t (tI t.2)), (22, .t (tI (w64 ((w64 ((w64 (bitShr .u64 (IntKind.u64.wrap (w64 (a + b2))) 1)) + m2)) - 1))))], [(1000000, .rows 73 4 data.length (data.map q11))]⟩) (fun b e σ' => match b with | .inl t => e = .exit 8 ∧ Sub ⟨[(0, .own 1000000), (1, .t (tI a)), (2, .t (tI m2)), (3, .t (tI b2)), (4, .fz n2 cs), (18, .t (tI (w64 (bitShr .u64 (IntKind.u64.wrap (w64 (a + b2))) 1)))), (19, .t (tI (w64 ((w64 (bitShr .u64 (IntKind.u64.wrap (w64 (a + b2))) 1)) + m2)))), (20, .t (tI t.1))], [(1000000, .rows 73 4 data.length (data.map q11))]⟩ σ' | .inr t => False) (.of rfl rfl) ?_ ?_))
    ·intro s10
     refine TieS.seq (.seq (.region (.run 3 rfl (.nil ?_))))
     refine TieS.cond rfl ?_ ?_
     ·refine TieS.skip (.block (.seq (.region (.run 7 rfl ?_))))
      refine TieO.nil (.seq (TieX.pre fun x11 hx11 => TieX.pre fun x12 hx12 => TieX.pre fun v3 hv3 => ?_))
      refine TieS.draw 14 [_, _, _, _, _, _, _, _, _, _, _, _, _, _] [(0, .own 1000000), (1, .t (tI a)), (2, .t (tI m2)), (3, .t (tI b2)), (4, .fz n2 cs), (18, .t (tI (w64 (bitShr .u64 (IntKind.u64.wrap (w64 (a + b2))) 1)))), (19, .t (tI (w64 ((w64 (bitShr .u64 (IntKind.u64.wrap (w64 (a + b2))) 1)) + m2)))), (20, .t (tI s10.1)), (21, .t (tI s10.2)), (22, .t (tI (w64 ((w64 ((w64 (bitShr .u64 (IntKind.u64.wrap (w64 (a + b2))) 1)) + m2)) - 1)))), (23, .t (tI (w64 (bitShr .u64 (IntKind.u64.wrap (w64 (s10.1 + s10.2))) 1))))] [(1000000, .rows 73 4 data.length (data.map q11))] mixed (.of rfl rfl) rfl rfl rfl rfl (.cons (.quiet rfl rfl rfl) (.cons (.quiet rfl rfl rfl) (.cons (.quiet rfl rfl rfl) (.cons (.quiet rfl rfl rfl) (.cons (.quiet rfl rfl rfl) (.cons (.indexO (sz := 4) hx11 rfl rfl rfl rfl rfl rfl rfl rfl) (.cons (.loadY hx11 rfl rfl rfl rfl rfl rfl) (.cons (.quiet rfl rfl rfl) (.cons (.quiet rfl rfl rfl) (.cons (.indexO (sz := 4) hx12 rfl rfl rfl rfl rfl rfl rfl rfl) (.cons (.loadY hx12 rfl rfl rfl rfl rfl rfl) (.cons (.callV (h2 x11 x12) hv3 rfl rfl rfl rfl) (.cons (.quiet rfl rfl rfl) (.cons (.quiet rfl rfl rfl) (.nil))))))))))))))) (.nil (.cond rfl ?_ ?_))
      ·exact TieS.region (.run 3 rfl (.nil (.endb (.leaf ⟨rfl, .of rfl rfl⟩))))
      ·exact TieS.region (.run 2 rfl (.nil (.endb (.leaf ⟨rfl, .of rfl rfl⟩))))
     ·exact TieS.exitOut rfl ⟨(fun h => by cases h), rfl, .of rfl rfl⟩
    rintro (s11 | r) e σ' _ hq
    ·obtain ⟨rfl, hs⟩ := hq
     refine TieX.exit rfl (TieX.sub hs ?_)
     refine TieS.seq (.region (.run 4 rfl (.nil (.seq ?_))))
     refine TieS.seq (.region (.run 4 rfl (.selAnd (v := decide (m2 < (w64 ((w64 ((w64 (bitShr .u64 (IntKind.u64.wrap (w64 (a + b2))) 1)) + m2)) - s11.1)))) 4 181 (fun b => ⟨[(0, .own 1000000), (1, .t (tI a)), (2, .t (tI m2)), (3, .t (tI b2)), (4, .fz n2 cs), (18, .t (tI (w64 (bitShr .u64 (IntKind.u64.wrap (w64 (a + b2))) 1)))), (20, .t (tI s11.1)), (24, .t (tI (w64 ((w64 ((w64 (bitShr .u64 (IntKind.u64.wrap (w64 (a + b2))) 1)) + m2)) - s11.1)))), (185, .t (tB b))], [(1000000, .rows 73 4 data.length (data.map q11))]⟩) rfl ?_ ?_ ?_)))
     ·exact TieO.run 4 rfl (.nil (.leaf ⟨rfl, .of rfl rfl⟩))
     ·exact TieO.run 4 rfl (.nil (.leaf ⟨rfl, .of rfl rfl⟩))
     refine TieO.nil (.bind (Q₁ := fun t e σ' => e = .normal ∧ Sub ⟨[(0, .own 1000000), (1, .t (tI a)), (3, .t (tI b2)), (4, .fz n2 cs), (18, .t (tI (w64 (bitShr .u64 (IntKind.u64.wrap (w64 (a + b2))) 1)))), (20, .t (tI s11.1)), (24, .t (tI (w64 ((w64 ((w64 (bitShr .u64 (IntKind.u64.wrap (w64 (a + b2))) 1)) + m2)) - s11.1))))], [(1000000, .rows 73 4 t.length (t.map q11))]⟩ σ') ?_ ?_)
     ·refine TieS.cond rfl ?_ ?_
      ·exact TieS.region (.run 5 rfl (.callG [(1000000, 1000000)] [] (fun v4 => ⟨[(0, .own 1000000), (1, .t (tI a)), (2, .t (tI m2)), (3, .t (tI b2)), (4, .fz n2 cs), (18, .t (tI (w64 (bitShr .u64 (IntKind.u64.wrap (w64 (a + b2))) 1)))), (20, .t (tI s11.1)), (24, .t (tI (w64 ((w64 ((w64 (bitShr .u64 (IntKind.u64.wrap (w64 (a + b2))) 1)) + m2)) - s11.1)))), (185, .t (tB ((decide (s11.1 < m2)) && (decide (m2 < (w64 ((w64 ((w64 (bitShr .u64 (IntKind.u64.wrap (w64 (a + b2))) 1)) + m2)) - s11.1))))))), (186, .own 1000000), (187, .t (tI s11.1)), (188, .t (tI m2)), (189, .t (tI (w64 ((w64 ((w64 (bitShr .u64 (IntKind.u64.wrap (w64 (a + b2))) 1)) + m2)) - s11.1)))), (190, .fz n2 cs), (191, .tup [])], [(1000000, .rows 73 4 v4.length (v4.map q11))]⟩) (q232 data s11.1 m2 (w64 ((w64 ((w64 (bitShr .u64 (IntKind.u64.wrap (w64 (a + b2))) 1)) + m2)) - s11.1)) n2 cs cmp h2) rfl rfl rfl rfl rfl rfl rfl (fun _ => rfl) (fun _ => rfl) (fun _ => rfl) (fun _ => .of rfl rfl) fun v4 hv4 => .nil (.leaf ⟨rfl, .of rfl rfl⟩)))
      ·exact TieS.skip (.leaf ⟨rfl, .of rfl rfl⟩)
     rintro f4 e σ' _ ⟨rfl, hs⟩
     refine TieX.sub hs (TieS.seq (.seq (.region (.run 4 rfl ?_))))
     refine TieO.selAnd (v := decide (s11.1 < (w64 (bitShr .u64 (IntKind.u64.wrap (w64 (a + b2))) 1)))) 4 195 (fun b => ⟨[(0, .own 1000000), (1, .t (tI a)), (3, .t (tI b2)), (4, .fz n2 cs), (18, .t (tI (w64 (bitShr .u64 (IntKind.u64.wrap (w64 (a + b2))) 1)))), (20, .t (tI s11.1)), (24, .t (tI (w64 ((w64 ((w64 (bitShr .u64 (IntKind.u64.wrap (w64 (a + b2))) 1)) + m2)) - s11.1)))), (199, .t (tB b))], [(1000000, .rows 73 4 f4.length (f4.map q11))]⟩) rfl ?_ ?_ ?_
     ·exact TieO.run 4 rfl (.nil (.leaf ⟨rfl, .of rfl rfl⟩))
     ·exact TieO.run 4 rfl (.nil (.leaf ⟨rfl, .of rfl rfl⟩))
     refine TieO.nil (.bind (Q₁ := fun t e σ' => e = .normal ∧ Sub ⟨[(0, .own 1000000), (3, .t (tI b2)), (4, .fz n2 cs), (18, .t (tI (w64 (bitShr .u64 (IntKind.u64.wrap (w64 (a + b2))) 1)))), (24, .t (tI (w64 ((w64 ((w64 (bitShr .u64 (IntKind.u64.wrap (w64 (a + b2))) 1)) + m2)) - s11.1))))], [(1000000, .rows 73 4 t.length (t.map q11))]⟩ σ') ?_ ?_)
     ·refine TieS.cond rfl ?_ ?_
      ·exact TieS.region (.run 5 rfl (.callG [(1000000, 1000000)] [] (fun v5 => ⟨[(0, .own 1000000), (1, .t (tI a)), (3, .t (tI b2)), (4, .fz n2 cs), (18, .t (tI (w64 (bitShr .u64 (IntKind.u64.wrap (w64 (a + b2))) 1)))), (20, .t (tI s11.1)), (24, .t (tI (w64 ((w64 ((w64 (bitShr .u64 (IntKind.u64.wrap (w64 (a + b2))) 1)) + m2)) - s11.1)))), (199, .t (tB ((decide (a < s11.1)) && (decide (s11.1 < (w64 (bitShr .u64 (IntKind.u64.wrap (w64 (a + b2))) 1))))))), (200, .own 1000000), (201, .t (tI a)), (202, .t (tI s11.1)), (203, .t (tI (w64 (bitShr .u64 (IntKind.u64.wrap (w64 (a + b2))) 1)))), (204, .fz n2 cs), (205, .tup [])], [(1000000, .rows 73 4 v5.length (v5.map q11))]⟩) (ih f4 a s11.1 (w64 (bitShr .u64 (IntKind.u64.wrap (w64 (a + b2))) 1)) n2 cs cmp h2) rfl rfl rfl rfl rfl rfl rfl (fun _ => rfl) (fun _ => rfl) (fun _ => rfl) (fun _ => .of rfl rfl) fun v5 hv5 => .nil (.leaf ⟨rfl, .of rfl rfl⟩)))
      ·exact TieS.skip (.leaf ⟨rfl, .of rfl rfl⟩)
     rintro f5 e σ' _ ⟨rfl, hs⟩
     refine TieX.sub hs (TieS.seq (.region (.run 4 rfl (.selAnd (v := decide ((w64 ((w64 ((w64 (bitShr .u64 (IntKind.u64.wrap (w64 (a + b2))) 1)) + m2)) - s11.1)) < b2)) 4 209 (fun b => ⟨[(0, .own 1000000), (3, .t (tI b2)), (4, .fz n2 cs), (18, .t (tI (w64 (bitShr .u64 (IntKind.u64.wrap (w64 (a + b2))) 1)))), (24, .t (tI (w64 ((w64 ((w64 (bitShr .u64 (IntKind.u64.wrap (w64 (a + b2))) 1)) + m2)) - s11.1)))), (213, .t (tB b))], [(1000000, .rows 73 4 f5.length (f5.map q11))]⟩) rfl ?_ ?_ ?_))))
     ·exact TieO.run 4 rfl (.nil (.leaf ⟨rfl, .of rfl rfl⟩))
     ·exact TieO.run 4 rfl (.nil (.leaf ⟨rfl, .of rfl rfl⟩))
     refine TieO.nil (.cond rfl ?_ ?_)
     ·exact TieS.region (.run 5 rfl (.callG [(1000000, 1000000)] [] (fun v6 => ⟨[(0, .own 1000000), (3, .t (tI b2)), (4, .fz n2 cs), (18, .t (tI (w64 (bitShr .u64 (IntKind.u64.wrap (w64 (a + b2))) 1)))), (24, .t (tI (w64 ((w64 ((w64 (bitShr .u64 (IntKind.u64.wrap (w64 (a + b2))) 1)) + m2)) - s11.1)))), (213, .t (tB ((decide ((w64 (bitShr .u64 (IntKind.u64.wrap (w64 (a + b2))) 1)) < (w64 ((w64 ((w64 (bitShr .u64 (IntKind.u64.wrap (w64 (a + b2))) 1)) + m2)) - s11.1)))) && (decide ((w64 ((w64 ((w64 (bitShr .u64 (IntKind.u64.wrap (w64 (a + b2))) 1)) + m2)) - s11.1)) < b2))))), (214, .own 1000000), (215, .t (tI (w64 (bitShr .u64 (IntKind.u64.wrap (w64 (a + b2))) 1)))), (216, .t (tI (w64 ((w64 ((w64 (bitShr .u64 (IntKind.u64.wrap (w64 (a + b2))) 1)) + m2)) - s11.1)))), (217, .t (tI b2)), (218, .fz n2 cs), (219, .tup [])], [(1000000, .rows 73 4 v6.length (v6.map q11))]⟩) (ih f5 (w64 (bitShr .u64 (IntKind.u64.wrap (w64 (a + b2))) 1)) (w64 ((w64 ((w64 (bitShr .u64 (IntKind.u64.wrap (w64 (a + b2))) 1)) + m2)) - s11.1)) b2 n2 cs cmp h2) rfl rfl rfl rfl rfl rfl rfl (fun _ => rfl) (fun _ => rfl) (fun _ => rfl) (fun _ => .of rfl rfl) fun v6 hv6 => .nil (.leaf ⟨.inr rfl, ⟨[(1000000, 1000000)], _, _, rfl, rfl, rfl, rfl, rfl⟩⟩)))
     ·exact TieS.skip (.leaf ⟨.inr rfl, ⟨[(1000000, 1000000)], _, _, rfl, rfl, rfl, rfl, rfl⟩⟩)
    ·exact hq.elim
set_option maxRecDepth 100000 in
theorem q235 (data : List SRequest) (n2 : Int) (n3 : Nat) (cs : List (List Tree)) (cmp : SRequest → SRequest → Option Int) (h2 : ∀ x0 x1, TieF Tryz.prog n3 ([q25 x0, q25 x1] ++ cs.map T.el) (cmp x0 x1) (fun r => .t (tI r))) : TieG Tryz.prog 249 [.own 1000000, .t (tI n2), .fz n3 cs] [(1000000, .rows 73 4 data.length (data.map q11))] (q52 data n2 cmp) (fun _ => .tup []) (fun r => [(1000000, .rows 73 4 r.length (r.map q11))]) := by
 refine TieG.intro htab 63 [] Tryz.call249 Tryz.func249 rfl rfl rfl (Nat.le_of_ble_eq_true rfl) fun w0 L => ?_
 refine TieS.seq (.region (.run 1 rfl (.nil (.seq ?_))))
 refine TieS.region (.run 3 rfl (.nil (.seq (.block ?_))))
 refine TieS.loop (fun t => ⟨[(0, .own 1000000), (1, .t (tI n2)), (2, .fz n3 cs), (6, .t (tI 20)), (7, .t (tI t.1)), (8, .t (tI t.2.1))], [(1000000, .rows 73 4 t.2.2.length (t.2.2.map q11))]⟩) (fun b e σ' => match b with | .inl t => e = .exit 0 ∧ Sub ⟨[(0, .own 1000000), (1, .t (tI n2)), (2, .fz n3 cs), (6, .t (tI 20)), (7, .t (tI t.1))], [(1000000, .rows 73 4 t.2.2.length (t.2.2.map q11))]⟩ σ' | .inr t => False) (.of rfl rfl) ?_ ?_
 ·intro s
  refine TieS.seq (.seq (.region (.run 3 rfl (.nil ?_))))
  refine TieS.cond rfl ?_ ?_
  ·refine TieS.skip (.block (.seq (.region (.run 4 rfl ?_))))
   refine TieO.callG [(1000000, 1000000)] [] (fun v => ⟨[(0, .own 1000000), (1, .t (tI n2)), (2, .fz n3 cs), (6, .t (tI 20)), (7, .t (tI s.1)), (8, .t (tI s.2.1)), (11, .t (tI s.2.1)), (12, .t (tI n2)), (13, .t (tB (decide (s.2.1 ≤ n2)))), (14, .own 1000000), (15, .t (tI s.1)), (16, .t (tI s.2.1)), (17, .fz n3 cs), (18, .tup [])], [(1000000, .rows 73 4 v.length (v.map q11))]⟩) (q81 s.2.2 s.1 s.2.1 n3 cs cmp h2) rfl rfl rfl rfl rfl rfl rfl (fun _ => rfl) (fun _ => rfl) (fun _ => rfl) (fun _ => .of rfl rfl) fun v hv => .nil (.seq (.region (.run 2 rfl ?_)))
   refine TieO.nil (.region (.run 4 rfl (.nil (.endb ?_))))
   exact TieS.leaf ⟨rfl, .of rfl rfl⟩
  ·exact TieS.exitOut rfl ⟨(fun h => by cases h), rfl, .of rfl rfl⟩
 rintro (s2 | r) e σ' _ hq
 ·obtain ⟨rfl, hs⟩ := hq
  refine TieX.exit rfl (TieX.sub hs ?_)
  refine TieS.seq (.region (.run 4 rfl (.callG [(1000000, 1000000)] [] (fun v2 => ⟨[(0, .own 1000000), (1, .t (tI n2)), (2, .fz n3 cs), (6, .t (tI 20)), (7, .t (tI s2.1)), (23, .own 1000000), (24, .t (tI s2.1)), (25, .t (tI n2)), (26, .fz n3 cs), (27, .tup [])], [(1000000, .rows 73 4 v2.length (v2.map q11))]⟩) (q81 s2.2.2 s2.1 n2 n3 cs cmp h2) rfl rfl rfl rfl rfl rfl rfl (fun _ => rfl) (fun _ => rfl) (fun _ => rfl) (fun _ => .of rfl rfl) fun v2 hv2 => .nil ?_)))
  refine TieS.block (.loop (fun t => ⟨[(0, .own 1000000), (1, .t (tI n2)), (2, .fz n3 cs), (6, .t (tI t.1))], [(1000000, .rows 73 4 t.2.length (t.2.map q11))]⟩) (fun b e σ' => match b with | .inl t => e = .exit 2 ∧ Sub ⟨[], [(1000000, .rows 73 4 t.2.length (t.2.map q11))]⟩ σ' | .inr t => False) (.of rfl rfl) ?_ ?_)
  ·intro s3
   refine TieS.seq (.seq (.region (.run 3 rfl (.nil ?_))))
   refine TieS.cond rfl ?_ ?_
   ·refine TieS.skip (.block (.seq (.region (.run 4 rfl ?_))))
    refine TieO.nil (.seq (.block (.loop (fun t => ⟨[(0, .own 1000000), (1, .t (tI n2)), (2, .fz n3 cs), (6, .t (tI s3.1)), (7, .t (tI t.1)), (8, .t (tI t.2.1))], [(1000000, .rows 73 4 t.2.2.length (t.2.2.map q11))]⟩) (fun b e σ' => match b with | .inl t => e = .exit 4 ∧ Sub ⟨[(0, .own 1000000), (1, .t (tI n2)), (2, .fz n3 cs), (6, .t (tI s3.1)), (7, .t (tI t.1))], [(1000000, .rows 73 4 t.2.2.length (t.2.2.map q11))]⟩ σ' | .inr t => False) (.of rfl rfl) ?_ ?_)))
    ·intro s4
     refine TieS.seq (.seq (.region (.run 3 rfl (.nil ?_))))
     refine TieS.cond rfl ?_ ?_
     ·refine TieS.skip (.block (.seq (.region (.run 7 rfl ?_))))
      refine TieO.callG [(1000000, 1000000)] [] (fun v3 => ⟨[(0, .own 1000000), (1, .t (tI n2)), (2, .fz n3 cs), (6, .t (tI s3.1)), (7, .t (tI s4.1)), (8, .t (tI s4.2.1)), (33, .t (tI s4.2.1)), (34, .t (tI n2)), (35, .t (tB (decide (s4.2.1 ≤ n2)))), (36, .own 1000000), (37, .t (tI s4.1)), (38, .t (tI s4.1)), (39, .t (tI s3.1)), (40, .t (tI (w64 (s4.1 + s3.1)))), (41, .t (tI s4.2.1)), (42, .fz n3 cs), (43, .tup [])], [(1000000, .rows 73 4 v3.length (v3.map q11))]⟩) (q101 64 s4.2.2 s4.1 (w64 (s4.1 + s3.1)) s4.2.1 n3 cs cmp h2) rfl rfl rfl rfl rfl rfl rfl (fun _ => rfl) (fun _ => rfl) (fun _ => rfl) (fun _ => .of rfl rfl) fun v3 hv3 => .nil (.seq (.region (.run 2 rfl ?_)))
      refine TieO.nil (.region (.run 5 rfl (.nil (.endb ?_))))
      exact TieS.leaf ⟨rfl, .of rfl rfl⟩
     ·exact TieS.exitOut rfl ⟨(fun h => by cases h), rfl, .of rfl rfl⟩
    rintro (s5 | r) e σ' _ hq
    ·obtain ⟨rfl, hs⟩ := hq
     refine TieX.exit rfl (TieX.sub hs ?_)
     refine TieS.seq (.seq (.region (.run 4 rfl (.nil ?_))))
     refine TieS.seq (.region (.run 3 rfl (.nil (.cond rfl ?_ ?_))))
     ·refine TieS.region (.run 5 rfl (.callG [(1000000, 1000000)] [] (fun v4 => ⟨[(0, .own 1000000), (1, .t (tI n2)), (2, .fz n3 cs), (6, .t (tI s3.1)), (7, .t (tI s5.1)), (9, .t (tI (w64 (s5.1 + s3.1)))), (49, .t (tI s5.1)), (50, .t (tI s3.1)), (51, .t (tI (w64 (s5.1 + s3.1)))), (52, .t (tI (w64 (s5.1 + s3.1)))), (53, .t (tI n2)), (54, .t (tB (decide ((w64 (s5.1 + s3.1)) < n2)))), (55, .own 1000000), (56, .t (tI s5.1)), (57, .t (tI (w64 (s5.1 + s3.1)))), (58, .t (tI n2)), (59, .fz n3 cs), (60, .tup [])], [(1000000, .rows 73 4 v4.length (v4.map q11))]⟩) (q101 64 s5.2.2 s5.1 (w64 (s5.1 + s3.1)) n2 n3 cs cmp h2) rfl rfl rfl rfl rfl rfl rfl (fun _ => rfl) (fun _ => rfl) (fun _ => rfl) (fun _ => .of rfl rfl) fun v4 hv4 => .nil (.region ?_)))
      exact TieO.run 3 rfl (.nil (.endb (.leaf ⟨rfl, .of rfl rfl⟩)))
     ·refine TieS.skip (.region (.run 3 rfl (.nil (.endb ?_))))
      exact TieS.leaf ⟨rfl, .of rfl rfl⟩
    ·exact hq.elim
   ·exact TieS.exitOut rfl ⟨(fun h => by cases h), rfl, .of rfl rfl⟩
  rintro (s6 | r) e σ' _ hq
  ·obtain ⟨rfl, hs⟩ := hq
   refine TieX.exit rfl (TieX.sub hs ?_)
   exact TieS.leaf ⟨.inr rfl, ⟨[(1000000, 1000000)], _, _, rfl, rfl, rfl, rfl, rfl⟩⟩
  ·exact hq.elim
 ·exact hq.elim
set_option maxRecDepth 100000 in
theorem q205 (x : List SRequest) (n2 : Nat) (cs : List (List Tree)) (cmp : SRequest → SRequest → Option Int) (h2 : ∀ x0 x1, TieF Tryz.prog n2 ([q25 x0, q25 x1] ++ cs.map T.el) (cmp x0 x1) (fun r => .t (tI r))) : TieG Tryz.prog 210 [.own 1000000, .fz n2 cs] [(1000000, .rows 73 4 x.length (x.map q11))] (q47 x cmp) (fun _ => .tup []) (fun r => [(1000000, .rows 73 4 r.length (r.map q11))]) := by
 refine TieG.intro htab 9 [] Tryz.call210 Tryz.func210 rfl rfl rfl (Nat.le_of_ble_eq_true rfl) fun w0 L => ?_
 exact TieS.region (.run 4 rfl (.callG [(1000000, 1000000)] [] (fun v => ⟨[(0, .own 1000000), (1, .fz n2 cs), (4, .own 1000000), (5, .own 1000000), (6, .t (tI (x.length : Int))), (7, .fz n2 cs), (8, .tup [])], [(1000000, .rows 73 4 v.length (v.map q11))]⟩) (q235 x (x.length : Int) n2 cs cmp h2) rfl rfl rfl rfl rfl rfl rfl (fun _ => rfl) (fun _ => rfl) (fun _ => rfl) (fun _ => .of rfl rfl) fun v hv => .nil (.leaf ⟨.inr rfl, ⟨[(1000000, 1000000)], _, _, rfl, rfl, rfl, rfl, rfl⟩⟩)))
set_option maxRecDepth 100000 in
theorem q367 (a : SRequest) (b2 : SRequest) : TieF Tryz.prog 211 [q25 a, q25 b2] (q32 a b2) (fun r => .t (tI r)) := by
 refine TieF.intro htab 10 [.tmp 4] Tryz.call211 Tryz.func211 rfl rfl rfl (Nat.le_of_ble_eq_true rfl) fun w0 L => ?_
 refine TieS.seq (.region (.run 3 rfl (.nil (.seq ?_))))
 exact TieS.region (.run 6 rfl (.nil (.ret ⟨.inl rfl, rfl⟩)))
set_option maxRecDepth 100000 in
theorem q334 (s : Sarbiter_span) (t2 : Int) : TieG Tryz.prog 250 [.ptr 1000000 0, .t (tI t2)] [(1000000, .box [.t (tI s.low), .t (tI s.high), .t (tI s.source)])] (q170 s t2) (fun _ => .tup []) (fun r => [(1000000, .box [.t (tI r.low), .t (tI r.high), .t (tI r.source)])]) := by
 refine TieG.intro htab 18 [] Tryz.call250 Tryz.func250 rfl rfl rfl (Nat.le_of_ble_eq_true rfl) fun w0 L => ?_
 exact TieS.draw 14 [_, _, _, _, _, _, _, _, _, _, _, _, _, _] [(0, .ptr 1000000 0), (1, .t (tI t2))] [(1000000, .box [.t (tI s.low), .t (tI s.high), .t (tI s.source)])] mixed (.of rfl rfl) rfl rfl rfl rfl (.cons (.quiet rfl rfl rfl) (.cons (.quiet rfl rfl rfl) (.cons (.quiet rfl rfl rfl) (.cons (.quiet rfl rfl rfl) (.cons (.quiet rfl rfl rfl) (.cons (.quiet rfl rfl rfl) (.cons (.quiet rfl rfl rfl) (.cons (.quiet rfl rfl rfl) (.cons (.quiet rfl rfl rfl) (.cons (.quiet rfl rfl rfl) (.cons (.quiet rfl rfl rfl) (.cons (.quiet rfl rfl rfl) (.cons (.quiet rfl rfl rfl) (.cons (.quiet rfl rfl rfl) (.nil))))))))))))))) (.run 1 rfl (.nil (.leaf ⟨.inr rfl, ⟨[(1000000, 1000000)], _, _, rfl, rfl, rfl, rfl, rfl⟩⟩)))
set_option maxRecDepth 100000 in
theorem q321 (s : Sarbiter_span) (t2 : Int) : TieG Tryz.prog 251 [.ptr 1000000 0, .t (tI t2)] [(1000000, .box [.t (tI s.low), .t (tI s.high), .t (tI s.source)])] (q156 s t2) (fun _ => .tup []) (fun r => [(1000000, .box [.t (tI r.low), .t (tI r.high), .t (tI r.source)])]) := by
 refine TieG.intro htab 18 [] Tryz.call251 Tryz.func251 rfl rfl rfl (Nat.le_of_ble_eq_true rfl) fun w0 L => ?_
 exact TieS.draw 14 [_, _, _, _, _, _, _, _, _, _, _, _, _, _] [(0, .ptr 1000000 0), (1, .t (tI t2))] [(1000000, .box [.t (tI s.low), .t (tI s.high), .t (tI s.source)])] mixed (.of rfl rfl) rfl rfl rfl rfl (.cons (.quiet rfl rfl rfl) (.cons (.quiet rfl rfl rfl) (.cons (.quiet rfl rfl rfl) (.cons (.quiet rfl rfl rfl) (.cons (.quiet rfl rfl rfl) (.cons (.quiet rfl rfl rfl) (.cons (.quiet rfl rfl rfl) (.cons (.quiet rfl rfl rfl) (.cons (.quiet rfl rfl rfl) (.cons (.quiet rfl rfl rfl) (.cons (.quiet rfl rfl rfl) (.cons (.quiet rfl rfl rfl) (.cons (.quiet rfl rfl rfl) (.cons (.quiet rfl rfl rfl) (.nil))))))))))))))) (.run 1 rfl (.nil (.leaf ⟨.inr rfl, ⟨[(1000000, 1000000)], _, _, rfl, rfl, rfl, rfl, rfl⟩⟩)))
set_option maxRecDepth 100000 in
theorem q318 (s : Sarbiter_span) (t2 : Int) : TieG Tryz.prog 252 [.ptr 1000000 0, .t (tI t2)] [(1000000, .box [.t (tI s.low), .t (tI s.high), .t (tI s.source)])] (q152 s t2) (fun _ => .tup []) (fun r => [(1000000, .box [.t (tI r.low), .t (tI r.high), .t (tI r.source)])]) := by
 refine TieG.intro htab 22 [] Tryz.call252 Tryz.func252 rfl rfl rfl (Nat.le_of_ble_eq_true rfl) fun w0 L => ?_
 refine TieS.seq (TieX.pre fun v hv => TieS.draw 10 [_, _, _, _, _, _, _, _, _, _] [(0, .ptr 1000000 0), (1, .t (tI t2))] [(1000000, .box [.t (tI s.low), .t (tI s.high), .t (tI s.source)])] mixed (.of rfl rfl) rfl rfl rfl rfl (.cons (.quiet rfl rfl rfl) (.cons (.quiet rfl rfl rfl) (.cons (.quiet rfl rfl rfl) (.cons (.quiet rfl rfl rfl) (.cons (.quiet rfl rfl rfl) (.cons (.quiet rfl rfl rfl) (.cons (.quiet rfl rfl rfl) (.cons (.quiet rfl rfl rfl) (.cons (.quiet rfl rfl rfl) (.cons (.callV (q24 t2 s.low s.high) hv rfl rfl rfl rfl) (.nil))))))))))) (.run 1 rfl (.nil ?_)))
 exact TieS.region (.run 10 rfl (.nil (.leaf ⟨.inr rfl, ⟨[(1000000, 1000000)], _, _, rfl, rfl, rfl, rfl, rfl⟩⟩)))
set_option maxRecDepth 100000 in
theorem q335 (s : Sarbiter_span) (r2 : SRequest) : TieG Tryz.prog 212 [.ptr 1000000 0, q25 r2] [(1000000, .box [.t (tI s.low), .t (tI s.high), .t (tI s.source)])] (q113 s r2) (fun r => .t (tB r.1)) (fun r => [(1000000, .box [.t (tI r.2.low), .t (tI r.2.high), .t (tI r.2.source)])]) := by
 refine TieG.intro htab 57 [.tmp 4] Tryz.call212 Tryz.func212 rfl rfl rfl (Nat.le_of_ble_eq_true rfl) fun w0 L => ?_
 refine TieS.seq (.region (.run 2 rfl (.nil (.seq ?_))))
 refine TieS.region (.run 5 rfl (.nil (.seq (.seq ?_))))
 refine TieS.region (.run 2 rfl (.nil (.bind (Q₁ := fun t e σ' => e = .normal ∧ Sub ⟨[(0, .ptr 1000000 0), (3, .ptr 3 0), (5, .ptr 5 0)], [(3, .box [.t (tI r2.Source), .t (tI r2.Kind), .t (tI r2.Torque), .t (tI r2.Priority)]), (5, .box [.t (tI s.low), .t (tI s.high), .t (tI s.source)]), (1000000, .box [.t (tI t.low), .t (tI t.high), .t (tI t.source)])]⟩ σ') ?_ ?_)))
 ·refine TieS.block (.seq (.region (.run 2 rfl (.nil ?_))))
  refine TieS.cond rfl ?_ ?_
  ·refine TieS.region (.run 3 rfl (.callG [(1000000, 1000000)] [] (fun v => ⟨[(0, .ptr 1000000 0), (1, .agg [.t (tI r2.Source), .t (tI r2.Kind), .t (tI r2.Torque), .t (tI r2.Priority)]), (3, .ptr 3 0), (4, .t (tB false)), (5, .ptr 5 0), (6, .ptr 1000000 0), (7, .ptr 1000000 0), (8, .agg [.t (tI s.low), .t (tI s.high), .t (tI s.source)]), (9, .ptr 3 1), (10, .t (tI r2.Kind)), (11, .t (tB (r2.Kind == 1))), (12, .t (tB (r2.Kind == 1))), (13, .ptr 1000000 0), (14, .ptr 3 2), (15, .t (tI r2.Torque)), (16, .tup [])], [(3, .box [.t (tI r2.Source), .t (tI r2.Kind), .t (tI r2.Torque), .t (tI r2.Priority)]), (5, .box [.t (tI s.low), .t (tI s.high), .t (tI s.source)]), (1000000, .box [.t (tI v.low), .t (tI v.high), .t (tI v.source)])]⟩) (q334 s r2.Torque) rfl rfl rfl rfl rfl rfl rfl (fun _ => rfl) (fun _ => rfl) (fun _ => rfl) (fun _ => .of rfl rfl) fun v hv => .nil (.endb ?_)))
   exact TieS.leaf ⟨rfl, .of rfl rfl⟩
  ·refine TieS.seq (.region (.run 2 rfl (.nil (.cond rfl ?_ ?_))))
   ·refine TieS.region (.run 3 rfl (.callG [(1000000, 1000000)] [] (fun v2 => ⟨[(0, .ptr 1000000 0), (1, .agg [.t (tI r2.Source), .t (tI r2.Kind), .t (tI r2.Torque), .t (tI r2.Priority)]), (3, .ptr 3 0), (4, .t (tB false)), (5, .ptr 5 0), (6, .ptr 1000000 0), (7, .ptr 1000000 0), (8, .agg [.t (tI s.low), .t (tI s.high), .t (tI s.source)]), (9, .ptr 3 1), (10, .t (tI r2.Kind)), (11, .t (tB (r2.Kind == 1))), (12, .t (tB (r2.Kind == 1))), (17, .t (tB (r2.Kind == 2))), (18, .t (tB (r2.Kind == 2))), (19, .ptr 1000000 0), (20, .ptr 3 2), (21, .t (tI r2.Torque)), (22, .tup [])], [(3, .box [.t (tI r2.Source), .t (tI r2.Kind), .t (tI r2.Torque), .t (tI r2.Priority)]), (5, .box [.t (tI s.low), .t (tI s.high), .t (tI s.source)]), (1000000, .box [.t (tI v2.low), .t (tI v2.high), .t (tI v2.source)])]⟩) (q321 s r2.Torque) rfl rfl rfl rfl rfl rfl rfl (fun _ => rfl) (fun _ => rfl) (fun _ => rfl) (fun _ => .of rfl rfl) fun v2 hv2 => .nil (.endb ?_)))
    exact TieS.leaf ⟨rfl, .of rfl rfl⟩
   ·refine TieS.seq (.region (.run 2 rfl (.nil (.cond rfl ?_ ?_))))
    ·refine TieS.region (.run 3 rfl (.callG [(1000000, 1000000)] [] (fun v3 => ⟨[(0, .ptr 1000000 0), (1, .agg [.t (tI r2.Source), .t (tI r2.Kind), .t (tI r2.Torque), .t (tI r2.Priority)]), (3, .ptr 3 0), (4, .t (tB false)), (5, .ptr 5 0), (6, .ptr 1000000 0), (7, .ptr 1000000 0), (8, .agg [.t (tI s.low), .t (tI s.high), .t (tI s.source)]), (9, .ptr 3 1), (10, .t (tI r2.Kind)), (11, .t (tB (r2.Kind == 1))), (12, .t (tB (r2.Kind == 1))), (17, .t (tB (r2.Kind == 2))), (18, .t (tB (r2.Kind == 2))), (23, .t (tB (r2.Kind == 3))), (24, .t (tB (r2.Kind == 3))), (25, .ptr 1000000 0), (26, .ptr 3 2), (27, .t (tI r2.Torque)), (28, .tup [])], [(3, .box [.t (tI r2.Source), .t (tI r2.Kind), .t (tI r2.Torque), .t (tI r2.Priority)]), (5, .box [.t (tI s.low), .t (tI s.high), .t (tI s.source)]), (1000000, .box [.t (tI v3.low), .t (tI v3.high), .t (tI v3.source)])]⟩) (q318 s r2.Torque) rfl rfl rfl rfl rfl rfl rfl (fun _ => rfl) (fun _ => rfl) (fun _ => rfl) (fun _ => .of rfl rfl) fun v3 hv3 => .nil (.endb ?_)))
     exact TieS.leaf ⟨rfl, .of rfl rfl⟩
    ·exact TieS.skip (.endb (.leaf ⟨rfl, .of rfl rfl⟩))
 rintro f2 e σ' _ ⟨rfl, hs⟩
 refine TieX.sub hs (TieS.seq (.seq (.draw 7 [_, _, _, _, _, _, _] [(0, .ptr 1000000 0), (3, .ptr 3 0), (5, .ptr 5 0)] [(3, .box [.t (tI r2.Source), .t (tI r2.Kind), .t (tI r2.Torque), .t (tI r2.Priority)]), (5, .box [.t (tI s.low), .t (tI s.high), .t (tI s.source)]), (1000000, .box [.t (tI f2.low), .t (tI f2.high), .t (tI f2.source)])] mixed (.of rfl rfl) rfl rfl rfl rfl (.cons (.quiet rfl rfl rfl) (.cons (.quiet rfl rfl rfl) (.cons (.quiet rfl rfl rfl) (.cons (.quiet rfl rfl rfl) (.cons (.quiet rfl rfl rfl) (.cons (.quiet rfl rfl rfl) (.cons (.quiet rfl rfl rfl) (.nil)))))))) (.nil ?_))))
 refine TieS.bind (Q₁ := fun t e σ' => e = .normal ∧ Sub ⟨[(0, .ptr 1000000 0), (5, .ptr 5 0)], [(5, .box [.t (tI s.low), .t (tI s.high), .t (tI s.source)]), (1000000, .box [.t (tI f2.low), .t (tI f2.high), .t (tI t)])]⟩ σ') ?_ ?_
 ·refine TieS.cond rfl ?_ ?_
  ·exact TieS.region (.run 6 rfl (.nil (.leaf ⟨rfl, .of rfl rfl⟩)))
  ·exact TieS.skip (.leaf ⟨rfl, .of rfl rfl⟩)
 rintro f3 e σ' _ ⟨rfl, hs⟩
 refine TieX.sub hs (TieS.seq (TieX.split (fun hg => ?_) (fun hg2 => ?_)))
 ·exact TieS.draw 17 [_, _, _, _, _, _, _, _, _, _, _, _, _, _, _, _, _] [(0, .ptr 1000000 0), (5, .ptr 5 0)] [(5, .box [.t (tI s.low), .t (tI s.high), .t (tI s.source)]), (1000000, .box [.t (tI f2.low), .t (tI f2.high), .t (tI f3)])] mixed (.of rfl rfl) rfl rfl rfl rfl (.cons (.quiet rfl rfl rfl) (.cons (.quiet rfl rfl rfl) (.cons (.quiet rfl rfl rfl) (.cons (.quiet rfl rfl rfl) (.cons (.quiet rfl rfl rfl) (.cons (.quiet rfl rfl rfl) (.cons (.quiet rfl rfl rfl) (.cons (.cast (congrArg T.B hg) (.quiet rfl rfl rfl)) (.cons (.skip rfl) (.cons (.skip rfl) (.cons (.skip rfl) (.cons (.skip rfl) (.cons (.skip rfl) (.cons (.skip rfl) (.cons (.skip rfl) (.cons (.quiet rfl rfl rfl) (.cons (.quiet rfl rfl rfl) (.nil)))))))))))))))))) (.nil (.ret ⟨.inl rfl, ⟨[(1000000, 1000000)], _, _, rfl, rfl, rfl, rfl, rfl⟩⟩))
 ·exact TieS.draw 17 [_, _, _, _, _, _, _, _, _, _, _, _, _, _, _, _, _] [(0, .ptr 1000000 0), (5, .ptr 5 0)] [(5, .box [.t (tI s.low), .t (tI s.high), .t (tI s.source)]), (1000000, .box [.t (tI f2.low), .t (tI f2.high), .t (tI f3)])] mixed (.of rfl rfl) rfl rfl rfl rfl (.cons (.quiet rfl rfl rfl) (.cons (.quiet rfl rfl rfl) (.cons (.quiet rfl rfl rfl) (.cons (.quiet rfl rfl rfl) (.cons (.quiet rfl rfl rfl) (.cons (.quiet rfl rfl rfl) (.cons (.quiet rfl rfl rfl) (.cons (.cast (congrArg T.B hg2) (.quiet rfl rfl rfl)) (.cons (.quiet rfl rfl rfl) (.cons (.quiet rfl rfl rfl) (.cons (.quiet rfl rfl rfl) (.cons (.quiet rfl rfl rfl) (.cons (.quiet rfl rfl rfl) (.cons (.quiet rfl rfl rfl) (.cons (.quiet rfl rfl rfl) (.cons (.quiet rfl rfl rfl) (.cons (.quiet rfl rfl rfl) (.nil)))))))))))))))))) (.nil (.ret ⟨.inl rfl, ⟨[(1000000, 1000000)], _, _, rfl, rfl, rfl, rfl, rfl⟩⟩))
set_option maxRecDepth 100000 in
def q396 : Go.Shelf.Ren := ⟨fun | 125 => 254 | 128 => 280 | 129 => 281 | 189 => 213 | 215 => 257 | 216 => 217 | 257 => 253 | 294 => 272 | 295 => 273 | 296 => 274 | 297 => 275 | 298 => 276 | 299 => 277 | 300 => 278 | 301 => 279 | 328 => 293 | 329 => 294 | 330 => 295 | 331 => 296 | 332 => 297 | 343 => 300 | n => n, fun | 0 => 0 | 3 => 3 | 4 => 4 | 5 => 5 | 9 => 9 | 28 => 22 | 46 => 199 | 51 => 222 | 53 => 225 | 131 => 192 | 182 => 236 | 183 => 237 | 218 => 251 | 222 => 255 | 228 => 259 | 229 => 133 | n => n, fun  | n => n⟩
open Go.Shelf in
theorem sortI213 : Lays.n189 Tryz.prog q396 := {
 mixed := by kernel_rfl,
 f125 := Tryz.func254.trans (congrArg some (by kernel_rfl)),
 f128 := Tryz.func280.trans (congrArg some (by kernel_rfl)),
 f129 := Tryz.func281.trans (congrArg some (by kernel_rfl)),
 f189 := Tryz.func213.trans (congrArg some (by kernel_rfl)),
 f215 := Tryz.func257.trans (congrArg some (by kernel_rfl)),
 f216 := Tryz.func217.trans (congrArg some (by kernel_rfl)),
 f257 := Tryz.func253.trans (congrArg some (by kernel_rfl)),
 f294 := Tryz.func272.trans (congrArg some (by kernel_rfl)),
 f295 := Tryz.func273.trans (congrArg some (by kernel_rfl)),
 f296 := Tryz.func274.trans (congrArg some (by kernel_rfl)),
 f297 := Tryz.func275.trans (congrArg some (by kernel_rfl)),
 f298 := Tryz.func276.trans (congrArg some (by kernel_rfl)),
 f299 := Tryz.func277.trans (congrArg some (by kernel_rfl)),
 f300 := Tryz.func278.trans (congrArg some (by kernel_rfl)),
 f301 := Tryz.func279.trans (congrArg some (by kernel_rfl)),
 f328 := Tryz.func293.trans (congrArg some (by kernel_rfl)),
 f329 := Tryz.func294.trans (congrArg some (by kernel_rfl)),
 f330 := Tryz.func295.trans (congrArg some (by kernel_rfl)),
 f331 := Tryz.func296.trans (congrArg some (by kernel_rfl)),
 f332 := Tryz.func297.trans (congrArg some (by kernel_rfl)),
 f343 := Tryz.func300.trans (congrArg some (by kernel_rfl)),
 t0 := Tryz.underlying0,
 a0 := Tryz.isAgg0,
 z0 := Tryz.sizeOf0,
 v0 := Tryz.zeroValue0,
 t3 := Tryz.underlying3,
 a3 := Tryz.isAgg3,
 z3 := Tryz.sizeOf3,
 v3 := Tryz.zeroValue3,
 t4 := Tryz.underlying4,
 a4 := Tryz.isAgg4,
 z4 := Tryz.sizeOf4,
 v4 := Tryz.zeroValue4,
 t5 := Tryz.underlying5,
 a5 := Tryz.isAgg5,
 z5 := Tryz.sizeOf5,
 v5 := Tryz.zeroValue5,
 t9 := Tryz.underlying9,
 a9 := Tryz.isAgg9,
 z9 := Tryz.sizeOf9,
 v9 := Tryz.zeroValue9,
 t28 := Tryz.underlying22,
 a28 := Tryz.isAgg22,
 z28 := Tryz.sizeOf22,
 v28 := Tryz.zeroValue22,
 t46 := Tryz.underlying199,
 a46 := Tryz.isAgg199,
 z46 := Tryz.sizeOf199,
 v46 := Tryz.zeroValue199,
 t51 := Tryz.underlying222,
 a51 := Tryz.isAgg222,
 z51 := Tryz.sizeOf222,
 v51 := Tryz.zeroValue222,
 t53 := Tryz.underlying225,
 a53 := Tryz.isAgg225,
 z53 := Tryz.sizeOf225,
 v53 := Tryz.zeroValue225,
 t131 := Tryz.underlying192,
 a131 := Tryz.isAgg192,
 z131 := Tryz.sizeOf192,
 v131 := Tryz.zeroValue192,
 t182 := Tryz.underlying236,
 a182 := Tryz.isAgg236,
 z182 := Tryz.sizeOf236,
 v182 := Tryz.zeroValue236,
 t183 := Tryz.underlying237,
 a183 := Tryz.isAgg237,
 z183 := Tryz.sizeOf237,
 v183 := Tryz.zeroValue237,
 t218 := Tryz.underlying251,
 a218 := Tryz.isAgg251,
 z218 := Tryz.sizeOf251,
 v218 := Tryz.zeroValue251,
 t222 := Tryz.underlying255,
 a222 := Tryz.isAgg255,
 z222 := Tryz.sizeOf255,
 v222 := Tryz.zeroValue255,
 t228 := Tryz.underlying259,
 a228 := Tryz.isAgg259,
 z228 := Tryz.sizeOf259,
 v228 := Tryz.zeroValue259,
 t229 := Tryz.underlying133,
 a229 := Tryz.isAgg133,
 z229 := Tryz.sizeOf133,
 v229 := Tryz.zeroValue133 }
theorem q373 (s : List Int) : TieG Tryz.prog 213 [.own 1000000] [(1000000, .rows 3 1 s.length (s.map Pv.encI))] (q233 s) (fun _ => .tup []) (fun r => [(1000000, .rows 3 1 r.length (r.map Pv.encI))]) :=
 sortInts_tie (ρ := q396) sortI213 Tryz.call213 s
set_option maxRecDepth 100000 in
def q410 : Go.Shelf.Ren := ⟨fun | 20 => 214 | n => n, fun | 0 => 0 | 3 => 3 | 4 => 4 | 22 => 22 | n => n, fun  | n => n⟩
open Go.Shelf in
theorem compI214 : Lays2.n20 Tryz.prog q410 := {
 mixed := by kernel_rfl,
 f20 := Tryz.func214.trans (congrArg some (by kernel_rfl)),
 t0 := Tryz.underlying0,
 a0 := Tryz.isAgg0,
 z0 := Tryz.sizeOf0,
 v0 := Tryz.zeroValue0,
 t3 := Tryz.underlying3,
 a3 := Tryz.isAgg3,
 z3 := Tryz.sizeOf3,
 v3 := Tryz.zeroValue3,
 t4 := Tryz.underlying4,
 a4 := Tryz.isAgg4,
 z4 := Tryz.sizeOf4,
 v4 := Tryz.zeroValue4,
 t22 := Tryz.underlying22,
 a22 := Tryz.isAgg22,
 z22 := Tryz.sizeOf22,
 v22 := Tryz.zeroValue22,
 i3 := by kernel_rfl }
theorem q201 (s : List Int) : TieG Tryz.prog 214 [.own 1000000] [(1000000, .rows 3 1 s.length (s.map Pv.encI))] (q167 s) (fun _ => .own 900000) (fun r => [(900000, .rows 3 1 r.length (r.map Pv.encI))]) :=
 compactInts_tie (ρ := q410) compI214 Tryz.call214 s
set_option maxRecDepth 100000 in
theorem q403 (l : List SRequest) (low : Int) (high : Int) : TieF Tryz.prog 130 [.t (tS q11 l), .t (tI low), .t (tI high)] (q193 l low high) (fun r => .tup [q448 r.1, .t (tS Pv.encI r.2)]) := by
 refine TieF.intro htab 38 [.cell 6 163, .tmp 7] Tryz.call130 Tryz.func130 rfl rfl rfl (Nat.le_of_ble_eq_true rfl) fun w0 L => ?_
 refine TieS.seq (.region (.run 2 rfl (.nil (.seq ?_))))
 refine TieS.region (.run 1 rfl (.callG [] [(900000, 2104)] (fun v => ⟨[(0, .t (tS q11 l)), (1, .t (tI low)), (2, .t (tI high)), (6, .ptr 6 0), (7, .t (.v (.slice none 0 0))), (12, .t (tS q11 l)), (13, .own 2104)], [(6, .box [.t (tI 0), .t (tI 0), .t (tI 0)]), (2104, .rows 73 4 v.length (v.map q11))]⟩) (q315 l) rfl rfl rfl rfl rfl rfl rfl (fun _ => rfl) (fun _ => rfl) (fun _ => rfl) (fun _ => .of rfl rfl) fun v hv => .run 1 rfl (.nil ?_)))
 refine TieS.seq (.region (.run 1 rfl (.callG [(1000000, 2104)] [] (fun v2 => ⟨[(0, .own 2104), (1, .t (tI low)), (2, .t (tI high)), (6, .ptr 6 0), (7, .t (.v (.slice none 0 0))), (12, .t (tS q11 l)), (13, .own 2104), (14, .own 2104), (15, .tup [])], [(6, .box [.t (tI 0), .t (tI 0), .t (tI 0)]), (2104, .rows 73 4 v2.length (v2.map q11))]⟩) (q205 v 211 [] q32 q367) rfl rfl rfl rfl rfl rfl rfl (fun _ => rfl) (fun _ => rfl) (fun _ => rfl) (fun _ => .of rfl rfl) fun v2 hv2 => .nil ?_)))
 refine TieS.seq (.region (.run 5 rfl (.nil (.seq ?_))))
 refine TieS.region (.run 1 rfl (.nil (.seq (.seq ?_))))
 refine TieS.region (.run 3 rfl (.nil (.block (TieX.nilP 9 2248 3 1 [] rfl rfl rfl rfl rfl ?_))))
 refine TieS.loop (fun p => ⟨[(6, .ptr 6 0), (8, .ptr 8 0), (9, .own 2248), (19, .own 2104), (20, .t (tI (v2.length : Int))), (21, .t (tI p.1))], [(6, .box [.t (tI 0), .t (tI 0), .t (tI 0)]), (8, .box [.t (tI p.2.2.low), .t (tI p.2.2.high), .t (tI p.2.2.source)]), (2104, .rows 73 4 v2.length (v2.map q11)), (2248, .rows 3 1 p.2.1.length (p.2.1.map Pv.encI))]⟩) (fun b e σ' => match b with | .inl t => e = .exit 0 ∧ Sub ⟨[(6, .ptr 6 0), (8, .ptr 8 0), (9, .own 2248)], [(6, .box [.t (tI 0), .t (tI 0), .t (tI 0)]), (8, .box [.t (tI t.2.low), .t (tI t.2.high), .t (tI t.2.source)]), (2248, .rows 3 1 t.1.length (t.1.map Pv.encI))]⟩ σ' | .inr t => False) (.of rfl rfl) ?_ ?_
 ·rintro ⟨i, s⟩
  refine TieS.seq (.region (.run 1 rfl (.nil (.seq ?_))))
  refine TieS.cond rfl ?_ ?_
  ·refine TieS.skip (.seq (TieX.pre fun x hx => TieX.sub (σ' := ⟨[(6, .ptr 6 0), (8, .ptr 8 0), (9, .own 2248), (19, .own 2104), (20, .t (tI (v2.length : Int))), (21, .t (tI i))], [(6, .box [.t (tI 0), .t (tI 0), .t (tI 0)]), (8, .box [.t (tI s.2.low), .t (tI s.2.high), .t (tI s.2.source)]), (2104, .rows 73 4 v2.length (v2.map q11)), (2248, .rows 3 1 s.1.length (s.1.map Pv.encI))]⟩) (.of rfl rfl) (TieS.bind (Q₁ := fun f e σ' => match f with | .next t => e = .normal ∧ Sub ⟨[(6, .ptr 6 0), (8, .ptr 8 0), (9, .own 2248), (19, .own 2104), (20, .t (tI (v2.length : Int))), (21, .t (tI i))], [(6, .box [.t (tI 0), .t (tI 0), .t (tI 0)]), (8, .box [.t (tI t.2.low), .t (tI t.2.high), .t (tI t.2.source)]), (2104, .rows 73 4 v2.length (v2.map q11)), (2248, .rows 3 1 t.1.length (t.1.map Pv.encI))]⟩ σ' | .brk t => e = .exit 0 ∧ Sub ⟨[(6, .ptr 6 0), (8, .ptr 8 0), (9, .own 2248)], [(6, .box [.t (tI 0), .t (tI 0), .t (tI 0)]), (8, .box [.t (tI t.2.low), .t (tI t.2.high), .t (tI t.2.source)]), (2248, .rows 3 1 t.1.length (t.1.map Pv.encI))]⟩ σ' | .ret r => False) ?_ ?_)))
   ·refine TieS.block (.seq (.region (.indexOH hx rfl rfl rfl rfl rfl rfl rfl rfl rfl rfl (.loadY hx rfl rfl rfl rfl rfl rfl rfl rfl ?_))))
    refine TieO.run 2 rfl (.nil (.seq (.region (.run 1 rfl ?_))))
    refine TieO.callG [(1000000, 8)] [] (fun r2 => ⟨[(6, .ptr 6 0), (8, .ptr 8 0), (9, .own 2248), (11, .ptr 11 0), (19, .own 2104), (20, .t (tI (v2.length : Int))), (21, .t (tI i)), (23, .pe 2104 (Int.toNat i) 4 0), (24, .agg [.t (tI x.Source), .t (tI x.Kind), .t (tI x.Torque), .t (tI x.Priority)]), (25, .agg [.t (tI x.Source), .t (tI x.Kind), .t (tI x.Torque), .t (tI x.Priority)]), (26, .t (tB r2.1))], [(6, .box [.t (tI 0), .t (tI 0), .t (tI 0)]), (8, .box [.t (tI r2.2.low), .t (tI r2.2.high), .t (tI r2.2.source)]), (11, .box [.t (tI x.Source), .t (tI x.Kind), .t (tI x.Torque), .t (tI x.Priority)]), (2104, .rows 73 4 v2.length (v2.map q11)), (2248, .rows 3 1 s.1.length (s.1.map Pv.encI))]⟩) (q335 s.2 x) rfl rfl rfl rfl rfl rfl rfl (fun _ => rfl) (fun _ => rfl) (fun _ => rfl) (fun _ => .of rfl rfl) fun r2 hr2 => .nil (.cond rfl ?_ ?_)
    ·refine TieS.region (.run 4 rfl (.appendY (id := 2248) (l := s.1) (r := ([x.Source] : List Int)) (tm' := [(6, .ptr 6 0), (8, .ptr 8 0), (11, .ptr 11 0), (19, .own 2104), (20, .t (tI (v2.length : Int))), (21, .t (tI i)), (23, .pe 2104 (Int.toNat i) 4 0), (24, .agg [.t (tI x.Source), .t (tI x.Kind), .t (tI x.Torque), .t (tI x.Priority)]), (25, .agg [.t (tI x.Source), .t (tI x.Kind), .t (tI x.Torque), .t (tI x.Priority)]), (26, .t (tB r2.1)), (28, .ptr 11 0), (29, .t (tI x.Source)), (30, .own 30)]) (hp' := [(6, .box [.t (tI 0), .t (tI 0), .t (tI 0)]), (8, .box [.t (tI r2.2.low), .t (tI r2.2.high), .t (tI r2.2.source)]), (11, .box [.t (tI x.Source), .t (tI x.Kind), .t (tI x.Torque), .t (tI x.Priority)]), (30, .rows 3 1 ([x.Source] : List Int).length (([x.Source] : List Int).map Pv.encI)), (2104, .rows 73 4 v2.length (v2.map q11))]) rfl rfl rfl rfl rfl rfl rfl (fun _ => rfl) (fun _ => rfl) (.inl ⟨rfl, rfl⟩) (.inr ⟨_, rfl, rfl⟩) (.of rfl rfl) rfl rfl rfl fun l2 => .run 1 rfl (.nil ?_)))
     exact TieS.endb (.leaf ⟨rfl, .of rfl rfl⟩)
    ·exact TieS.skip (.endb (.leaf ⟨rfl, .of rfl rfl⟩))
   rintro (t | t | r) e σ' _ hq
   ·obtain ⟨rfl, hs⟩ := hq
    exact TieX.sub hs (TieS.region (.run 2 rfl (.nil (.leaf ⟨rfl, .of rfl rfl⟩))))
   ·obtain ⟨rfl, hs⟩ := hq
    exact TieX.exitOut rfl ⟨(fun h => by cases h), rfl, hs⟩
   ·exact hq.elim
  ·exact TieS.exitOut rfl ⟨(fun h => by cases h), rfl, .of rfl rfl⟩
 rintro (s2 | r) e σ' _ hq
 ·obtain ⟨rfl, hs⟩ := hq
  refine TieX.exit rfl (TieX.sub hs ?_)
  refine TieS.seq (.region (.run 1 rfl (.callG [(1000000, 2248)] [] (fun v3 => ⟨[(6, .ptr 6 0), (8, .ptr 8 0), (9, .own 2248), (33, .own 2248), (34, .tup [])], [(6, .box [.t (tI 0), .t (tI 0), .t (tI 0)]), (8, .box [.t (tI s2.2.low), .t (tI s2.2.high), .t (tI s2.2.source)]), (2248, .rows 3 1 v3.length (v3.map Pv.encI))]⟩) (q373 s2.1) rfl rfl rfl rfl rfl rfl rfl (fun _ => rfl) (fun _ => rfl) (fun _ => rfl) (fun _ => .of rfl rfl) fun v3 hv3 => .nil ?_)))
  refine TieS.seq (.bind (Q₁ := fun t e σ' => e = .normal ∧ Sub ⟨[(6, .ptr 6 0), (7, .own 2296)], [(6, .box [.t (tI t.2.low), .t (tI t.2.high), .t (tI t.2.source)]), (2296, .rows 3 1 t.1.length (t.1.map Pv.encI))]⟩ σ') ?_ ?_)
  ·refine TieX.pre fun v4 hv4 => TieS.draws 3 (bm 5 0) (bm 5 7) ⟨[(6, .ptr 6 0), (35, .agg [.t (tI s2.2.low), .t (tI s2.2.high), .t (tI s2.2.source)]), (37, .own 2296)], [(6, .box [.t (tI 0), .t (tI 0), .t (tI 0)]), (8, .box [.t (tI s2.2.low), .t (tI s2.2.high), .t (tI s2.2.source)]), (2296, .rows 3 1 v4.length (v4.map Pv.encI))]⟩ mixed (fun _ _ _ h => by cases h.1) rfl rfl rfl rfl ?_ ?_
   ·refine TieA.mv 1 rfl (.inl rfl) rfl (by kernel_rfl) rfl (.all [0, 2] (by kernel_rfl) rfl (AllA.run _ rfl rfl rfl ?_ ?_))
    ·refine TieA.all [2] (by kernel_rfl) rfl (AllA.cons (σ₁ := ⟨[(6, .ptr 6 0), (35, .agg [.t (tI s2.2.low), .t (tI s2.2.high), .t (tI s2.2.source)]), (37, .own 2296)], [(6, .box [.t (tI 0), .t (tI 0), .t (tI 0)]), (8, .box [.t (tI s2.2.low), .t (tI s2.2.high), .t (tI s2.2.source)]), (2296, .rows 3 1 v4.length (v4.map Pv.encI))]⟩) _ rfl rfl ?_ ?_ ?_)
     ·refine TieO.withH hv4 (TieO.callG [(1000000, 2248)] [(900000, 2296)] (fun v4 => ⟨[(6, .ptr 6 0), (35, .agg [.t (tI s2.2.low), .t (tI s2.2.high), .t (tI s2.2.source)]), (37, .own 2296)], [(6, .box [.t (tI 0), .t (tI 0), .t (tI 0)]), (8, .box [.t (tI s2.2.low), .t (tI s2.2.high), .t (tI s2.2.source)]), (2296, .rows 3 1 v4.length (v4.map Pv.encI))]⟩) (q201 v3) rfl rfl rfl rfl rfl rfl rfl (fun _ => rfl) (fun _ => rfl) (fun _ => rfl) (fun _ => .of rfl rfl) (TieO.ifG ?_))
      exact TieO.nil (TieS.leaf ⟨rfl, .of rfl rfl⟩)
     ·exact TieA.done (.of rfl rfl)
     exact AllA.nil
    refine AllA.cons (σ₁ := ⟨[(6, .ptr 6 0), (8, .ptr 8 0), (37, .own 2296)], [(6, .box [.t (tI 0), .t (tI 0), .t (tI 0)]), (8, .box [.t (tI s2.2.low), .t (tI s2.2.high), .t (tI s2.2.source)]), (2296, .rows 3 1 v4.length (v4.map Pv.encI))]⟩) _ rfl rfl ?_ ?_ ?_
    ·refine TieO.withH hv4 (TieO.callG [(1000000, 2248)] [(900000, 2296)] (fun v4 => ⟨[(6, .ptr 6 0), (8, .ptr 8 0), (34, .tup []), (37, .own 2296)], [(6, .box [.t (tI 0), .t (tI 0), .t (tI 0)]), (8, .box [.t (tI s2.2.low), .t (tI s2.2.high), .t (tI s2.2.source)]), (2296, .rows 3 1 v4.length (v4.map Pv.encI))]⟩) (q201 v3) rfl rfl rfl rfl rfl rfl rfl (fun _ => rfl) (fun _ => rfl) (fun _ => rfl) (fun _ => .of rfl rfl) (TieO.ifG ?_))
     exact TieO.nil (TieS.leaf ⟨rfl, .of rfl rfl⟩)
    ·refine TieA.all [0] (by kernel_rfl) rfl (AllA.run _ rfl rfl rfl ?_ ?_)
     ·exact TieA.done (.of rfl rfl)
     exact AllA.nil
    exact AllA.nil
   exact TieO.run 2 rfl (.nil (.leaf ⟨rfl, .of rfl rfl⟩))
  rintro s3 e σ' _ ⟨rfl, hs⟩
  exact TieX.sub hs (TieS.ret ⟨.inl rfl, rfl⟩)
 ·exact hq.elim
set_option maxRecDepth 100000 in
theorem q442 (g : SGrant) (l : List SRequest) (low : Int) (high : Int) (up : Int) (down : Int) : TieF Tryz.prog 37 [q496 g, .t (tS q11 l), .t (tI low), .t (tI high), .t (tI up), .t (tI down)] (q143 g l low high up down) (fun r => .tup [q496 r.1, .t (tI r.2)]) := by
 refine TieF.intro htab 84 [.cell 12 43, .tmp 13] Tryz.call37 Tryz.func37 rfl rfl rfl (Nat.le_of_ble_eq_true rfl) fun w0 L => ?_
 refine TieS.seq (.region (.run 3 rfl (.nil (.seq ?_))))
 refine TieS.seq (.region (.run 2 rfl (.call _ rfl rfl rfl (q127 g.Torque) (fun _ => rfl) fun v => .run 2 rfl ?_)))
 refine TieO.selOr (v := decide (g.Source < (-1))) 4 22 (fun b => ⟨[(1, .t (tS q11 l)), (2, .t (tI low)), (3, .t (tI high)), (4, .t (tI up)), (5, .t (tI down)), (6, .ptr 6 0), (12, .ptr 12 0), (26, .t (tB b))], [(6, .box [.t (tI g.Torque), .t (tI g.Source)]), (12, .box [.t (tI 0), .t (tI 0)])]⟩) rfl ?_ ?_ ?_
 ·exact TieO.run 4 rfl (.nil (.leaf ⟨rfl, .of rfl rfl⟩))
 ·exact TieO.run 4 rfl (.nil (.leaf ⟨rfl, .of rfl rfl⟩))
 refine TieO.run 1 rfl (.selOr (v := decide (g.Source > 15)) 4 27 (fun b => ⟨[(1, .t (tS q11 l)), (2, .t (tI low)), (3, .t (tI high)), (4, .t (tI up)), (5, .t (tI down)), (6, .ptr 6 0), (12, .ptr 12 0), (31, .t (tB b))], [(6, .box [.t (tI g.Torque), .t (tI g.Source)]), (12, .box [.t (tI 0), .t (tI 0)])]⟩) rfl ?_ ?_ ?_)
 ·exact TieO.run 4 rfl (.nil (.leaf ⟨rfl, .of rfl rfl⟩))
 ·exact TieO.run 4 rfl (.nil (.leaf ⟨rfl, .of rfl rfl⟩))
 refine TieO.nil (.cond rfl ?_ ?_)
 ·exact TieS.seq (.region (.run 3 rfl (.nil (.ret ⟨.inl rfl, rfl⟩))))
 ·refine TieS.skip (.seq (.seq (.region (.run 3 rfl ?_))))
  refine TieO.call _ rfl rfl rfl (q418 l low high) (fun _ => rfl) fun v2 => .run 1 rfl (.nil (.seq (.region ?_)))
  refine TieO.run 2 rfl (.nil (.cond rfl ?_ ?_))
  ·exact TieS.seq (.region (.run 4 rfl (.nil (.ret ⟨.inl rfl, rfl⟩))))
  ·refine TieS.skip (.seq (.seq (.region (.run 3 rfl ?_))))
   refine TieO.selOr (v := decide (up > 20000)) 3 43 (fun b => ⟨[(1, .t (tS q11 l)), (2, .t (tI low)), (3, .t (tI high)), (4, .t (tI up)), (5, .t (tI down)), (6, .ptr 6 0), (12, .ptr 12 0), (46, .t (tB b))], [(6, .box [.t (tI g.Torque), .t (tI g.Source)]), (12, .box [.t (tI 0), .t (tI 0)])]⟩) rfl ?_ ?_ ?_
   ·exact TieO.run 3 rfl (.nil (.leaf ⟨rfl, .of rfl rfl⟩))
   ·exact TieO.run 3 rfl (.nil (.leaf ⟨rfl, .of rfl rfl⟩))
   refine TieO.run 1 rfl (.selOr (v := decide (down < 0)) 3 47 (fun b => ⟨[(1, .t (tS q11 l)), (2, .t (tI low)), (3, .t (tI high)), (4, .t (tI up)), (5, .t (tI down)), (6, .ptr 6 0), (12, .ptr 12 0), (50, .t (tB b))], [(6, .box [.t (tI g.Torque), .t (tI g.Source)]), (12, .box [.t (tI 0), .t (tI 0)])]⟩) rfl ?_ ?_ ?_)
   ·exact TieO.run 3 rfl (.nil (.leaf ⟨rfl, .of rfl rfl⟩))
   ·exact TieO.run 3 rfl (.nil (.leaf ⟨rfl, .of rfl rfl⟩))
   refine TieO.run 1 rfl (.selOr (v := decide (down > 20000)) 3 51 (fun b => ⟨[(1, .t (tS q11 l)), (2, .t (tI low)), (3, .t (tI high)), (4, .t (tI up)), (5, .t (tI down)), (6, .ptr 6 0), (12, .ptr 12 0), (54, .t (tB b))], [(6, .box [.t (tI g.Torque), .t (tI g.Source)]), (12, .box [.t (tI 0), .t (tI 0)])]⟩) rfl ?_ ?_ ?_)
   ·exact TieO.run 3 rfl (.nil (.leaf ⟨rfl, .of rfl rfl⟩))
   ·exact TieO.run 3 rfl (.nil (.leaf ⟨rfl, .of rfl rfl⟩))
   refine TieO.nil (.cond rfl ?_ ?_)
   ·exact TieS.seq (.region (.run 3 rfl (.nil (.ret ⟨.inl rfl, rfl⟩))))
   ·refine TieS.skip (.seq (.region (.run 3 rfl (.call _ rfl rfl rfl (q403 l low high) (fun _ => rfl) fun r2 => ?_))))
    refine TieO.run 6 rfl (.nil (.seq (.region (.run 13 rfl ?_))))
    refine TieO.nil (.seq (.region (.run 11 rfl (.nil ?_))))
    exact TieS.ret ⟨.inl rfl, rfl⟩
set_option maxRecDepth 100000 in
theorem q17 (s : Scontrol_step) (e2 : Int) : TieG Tryz.prog 163 [.ptr 1000000 0, .t (tI e2)] [(1000000, .box (lset (q10 s) [(63, .own 1000001)])), (1000001, .rows 79 7 s.out.Fires.length (s.out.Fires.map q12))] (q18 s e2) (fun _ => .tup []) (fun r => [(1000000, .box (lset (q10 r) [(63, .own 1000001)])), (1000001, .rows 79 7 r.out.Fires.length (r.out.Fires.map q12))]) := by
 refine TieG.intro htab 13 [] Tryz.call163 Tryz.func163 rfl rfl rfl (Nat.le_of_ble_eq_true rfl) fun w0 L => ?_
 refine TieS.seq (.region (.run 5 rfl (.nil (.cond rfl ?_ ?_))))
 ·exact TieS.region (.run 5 rfl (.nil (.leaf ⟨.inr rfl, ⟨[(1000000, 1000000), (1000001, 1000001)], _, _, rfl, rfl, rfl, rfl, rfl⟩⟩)))
 ·exact TieS.skip (.leaf ⟨.inr rfl, ⟨[(1000000, 1000000), (1000001, 1000001)], _, _, rfl, rfl, rfl, rfl, rfl⟩⟩)
set_option maxRecDepth 100000 in
set_option maxHeartbeats 4000000 in
theorem q337 (s : Scontrol_step) : TieG Tryz.prog 82 [.ptr 1000000 0] [(1000000, .box (lset (q10 s) [(63, .own 1000001)])), (1000001, .rows 79 7 s.out.Fires.length (s.out.Fires.map q12))] (q114 s) (fun _ => .tup []) (fun r => [(1000000, .box (lset (q10 r) [(63, .own 1000001)])), (1000001, .rows 79 7 r.out.Fires.length (r.out.Fires.map q12))]) := by
 refine TieG.intro htab 151 [] Tryz.call82 Tryz.func82 rfl rfl rfl (Nat.le_of_ble_eq_true rfl) fun w0 L => ?_
 refine TieS.seq (.region (.run 1 rfl (.nil (.seq ?_))))
 refine TieS.bind (Q₁ := fun t e σ' => e = .normal ∧ Sub ⟨[(0, .ptr 1000000 0), (2, .t (tI t.1))], [(1000000, .box (lset (q10 (u17_3 s (u11_0 s.c t.2))) [(63, .own 1000001)])), (1000001, .rows 79 7 s.out.Fires.length (s.out.Fires.map q12))]⟩ σ') ?_ ?_
 ·refine TieX.pre fun r2 hr2 => TieS.draws 24 (bm 25 0) (bm 25 16777215) ⟨[(0, .ptr 1000000 0), (2, .t (tI 0)), (25, .t (tI r2.2))], [(1000000, .box (lset (q10 (u17_3 s (u11_0 s.c r2.1))) [(63, .own 1000001)])), (1000001, .rows 79 7 s.out.Fires.length (s.out.Fires.map q12))]⟩ mixed (fun _ _ _ h => by cases h.1) rfl rfl rfl rfl ?_ ?_
  ·refine TieA.have_ (fuel₁ := 9) (l₁ := (bm 25 65535)) (σ₁ := ⟨[(0, .ptr 1000000 0), (2, .t (tI 0)), (7, .ptr 1000000 0), (12, .agg [.t (tI s.c.Pedal.Value), .t (tI s.c.Pedal.Differ), .t (tB s.c.Pedal.Fault)]), (17, .t (tI s.i.Pedal1)), (22, .t (tI s.i.Pedal2))], [(1000000, .box (lset (q10 s) [(63, .own 1000001)])), (1000001, .rows 79 7 s.out.Fires.length (s.out.Fires.map q12))]⟩) ?_ fun A_1 => ?_
   ·refine TieA.all [16] (by kernel_rfl) rfl (AllA.cons (σ₁ := ⟨[(0, .ptr 1000000 0), (2, .t (tI 0)), (7, .ptr 1000000 0), (23, .tup [.agg [.t (tI r2.1.Value), .t (tI r2.1.Differ), .t (tB r2.1.Fault)], .t (tI r2.2)])], [(1000000, .box (lset (q10 s) [(63, .own 1000001)])), (1000001, .rows 79 7 s.out.Fires.length (s.out.Fires.map q12))]⟩) _ rfl rfl ?_ ?_ ?_)
    ·refine TieO.withH hr2 (TieO.call _ rfl rfl rfl (q469 s.c.Pedal s.i.Pedal1 s.i.Pedal2) (fun _ => rfl) (TieO.ifH ?_))
     exact TieO.nil (TieS.leaf ⟨rfl, .of rfl rfl⟩)
    ·refine TieA.mv 17 rfl (.inl rfl) rfl (by kernel_rfl) rfl (.all [18, 19] (by kernel_rfl) rfl (AllA.run _ rfl rfl rfl ?_ ?_))
     ·refine TieA.nP 20 rfl rfl rfl (by kernel_rfl) rfl (.fP 21 rfl rfl rfl (by kernel_rfl) rfl rfl rfl (.fP 22 rfl rfl rfl (by kernel_rfl) rfl rfl rfl (.all [19, 23] (by kernel_rfl) rfl (AllA.run _ rfl rfl rfl ?_ ?_))))
      ·refine TieA.all [23] (by kernel_rfl) rfl (AllA.run _ rfl rfl rfl ?_ ?_)
       ·exact TieA.done (.of rfl rfl)
       exact AllA.nil
      refine AllA.run _ rfl rfl rfl ?_ ?_
      ·refine TieA.all [19] (by kernel_rfl) rfl (AllA.run _ rfl rfl rfl ?_ ?_)
       ·exact TieA.done (.of rfl rfl)
       exact AllA.nil
      exact AllA.nil
     refine AllA.run _ rfl rfl rfl ?_ ?_
     ·refine TieA.all [18] (by kernel_rfl) rfl (AllA.run _ rfl rfl rfl ?_ ?_)
      ·refine TieA.nP 20 rfl rfl rfl (by kernel_rfl) rfl (.fP 21 rfl rfl rfl (by kernel_rfl) rfl rfl rfl (.fP 22 rfl rfl rfl (by kernel_rfl) rfl rfl rfl (.all [23] (by kernel_rfl) rfl (AllA.run _ rfl rfl rfl ?_ ?_))))
       ·exact TieA.done (.of rfl rfl)
       exact AllA.nil
      exact AllA.nil
     exact AllA.nil
    exact AllA.nil
   refine TieA.have_ (fuel₁ := 10) (l₁ := (bm 25 32767)) (σ₁ := ⟨[(0, .ptr 1000000 0), (2, .t (tI 0)), (7, .ptr 1000000 0), (12, .agg [.t (tI s.c.Pedal.Value), .t (tI s.c.Pedal.Differ), .t (tB s.c.Pedal.Fault)]), (17, .t (tI s.i.Pedal1)), (21, .ptr 1000000 47)], [(1000000, .box (lset (q10 s) [(63, .own 1000001)])), (1000001, .rows 79 7 s.out.Fires.length (s.out.Fires.map q12))]⟩) ?_ fun A_0 => ?_
   ·exact TieA.all [15] (by kernel_rfl) rfl (AllA.runTo _ rfl rfl rfl (.of rfl rfl) A_1 (AllA.nil))
   refine TieA.have_ (fuel₁ := 10) (l₁ := (bm 25 64511)) (σ₁ := ⟨[(0, .ptr 1000000 0), (2, .t (tI 0)), (7, .ptr 1000000 0), (12, .agg [.t (tI s.c.Pedal.Value), .t (tI s.c.Pedal.Differ), .t (tB s.c.Pedal.Fault)]), (16, .ptr 1000000 46), (22, .t (tI s.i.Pedal2))], [(1000000, .box (lset (q10 s) [(63, .own 1000001)])), (1000001, .rows 79 7 s.out.Fires.length (s.out.Fires.map q12))]⟩) ?_ fun A_2 => ?_
   ·exact TieA.all [10] (by kernel_rfl) rfl (AllA.runTo _ rfl rfl rfl (.of rfl rfl) A_1 (AllA.nil))
   refine TieA.have_ (fuel₁ := 10) (l₁ := (bm 25 65503)) (σ₁ := ⟨[(0, .ptr 1000000 0), (2, .t (tI 0)), (7, .ptr 1000000 0), (11, .ptr 1000000 33), (17, .t (tI s.i.Pedal1)), (22, .t (tI s.i.Pedal2))], [(1000000, .box (lset (q10 s) [(63, .own 1000001)])), (1000001, .rows 79 7 s.out.Fires.length (s.out.Fires.map q12))]⟩) ?_ fun A_3 => ?_
   ·exact TieA.all [5] (by kernel_rfl) rfl (AllA.runTo _ rfl rfl rfl (.of rfl rfl) A_1 (AllA.nil))
   refine TieA.mv 0 rfl (.inl rfl) rfl (by kernel_rfl) rfl (.mv 1 rfl (.inl rfl) rfl (by kernel_rfl) rfl (.nP 2 rfl rfl rfl (by kernel_rfl) rfl (.fP 3 rfl rfl rfl (by kernel_rfl) rfl rfl rfl (.fP 4 rfl rfl rfl (by kernel_rfl) rfl rfl rfl ?_))))
   refine TieA.mv 6 rfl (.inl rfl) rfl (by kernel_rfl) rfl (.nP 7 rfl rfl rfl (by kernel_rfl) rfl (.fP 8 rfl rfl rfl (by kernel_rfl) rfl rfl rfl (.fP 9 rfl rfl rfl (by kernel_rfl) rfl rfl rfl (.mv 11 rfl (.inl rfl) rfl (by kernel_rfl) rfl ?_))))
   refine TieA.nP 12 rfl rfl rfl (by kernel_rfl) rfl (.fP 13 rfl rfl rfl (by kernel_rfl) rfl rfl rfl (.fP 14 rfl rfl rfl (by kernel_rfl) rfl rfl rfl (.all [5, 10, 15] (by kernel_rfl) rfl (AllA.run _ rfl rfl rfl ?_ ?_))))
   ·exact TieA.all [10, 15] (by kernel_rfl) rfl (AllA.runTo _ rfl rfl rfl (.of rfl rfl) A_0 (AllA.runTo _ rfl rfl rfl (.of rfl rfl) A_2 (AllA.nil)))
   refine AllA.run _ rfl rfl rfl ?_ ?_
   ·exact TieA.all [5, 15] (by kernel_rfl) rfl (AllA.runTo _ rfl rfl rfl (.of rfl rfl) A_0 (AllA.runTo _ rfl rfl rfl (.of rfl rfl) A_3 (AllA.nil)))
   refine AllA.run _ rfl rfl rfl ?_ ?_
   ·exact TieA.all [5, 10] (by kernel_rfl) rfl (AllA.runTo _ rfl rfl rfl (.of rfl rfl) A_2 (AllA.runTo _ rfl rfl rfl (.of rfl rfl) A_3 (AllA.nil)))
   exact AllA.nil
  exact TieO.run 1 rfl (.nil (.leaf ⟨rfl, .of rfl rfl⟩))
 rintro s2 e σ' _ ⟨rfl, hs⟩
 refine TieX.sub hs (TieS.seq (.region (.run 2 rfl (.callG [(1000000, 1000000), (1000001, 1000001)] [] (fun v => ⟨[(0, .ptr 1000000 0), (2, .t (tI s2.1)), (29, .ptr 1000000 0), (30, .t (tI s2.1)), (31, .tup [])], [(1000000, .box (lset (q10 v) [(63, .own 1000001)])), (1000001, .rows 79 7 v.out.Fires.length (v.out.Fires.map q12))]⟩) (q17 (u17_3 s (u11_0 s.c s2.2)) s2.1) rfl rfl rfl rfl rfl rfl rfl (fun _ => rfl) (fun _ => rfl) (fun _ => rfl) (fun _ => .of rfl rfl) fun v hv => ?_))))
 refine TieO.nil (.seq (TieX.pre fun r3 hr3 => TieS.draw 21 [_, _, _, _, _, _, _, _, _, _, _, _, _, _, _, _, _, _, _, _, _] [(0, .ptr 1000000 0)] [(1000000, .box (lset (q10 v) [(63, .own 1000001)])), (1000001, .rows 79 7 v.out.Fires.length (v.out.Fires.map q12))] mixed (.of rfl rfl) rfl rfl rfl rfl (.cons (.quiet rfl rfl rfl) (.cons (.quiet rfl rfl rfl) (.cons (.quiet rfl rfl rfl) (.cons (.quiet rfl rfl rfl) (.cons (.quiet rfl rfl rfl) (.cons (.quiet rfl rfl rfl) (.cons (.quiet rfl rfl rfl) (.cons (.quiet rfl rfl rfl) (.cons (.quiet rfl rfl rfl) (.cons (.quiet rfl rfl rfl) (.cons (.quiet rfl rfl rfl) (.cons (.quiet rfl rfl rfl) (.cons (.quiet rfl rfl rfl) (.cons (.quiet rfl rfl rfl) (.cons (.quiet rfl rfl rfl) (.cons (.callV (q470 v.t v.c.Pedal.Value v.i.Speed) hr3 rfl rfl rfl rfl) (.cons (.quiet rfl rfl rfl) (.cons (.quiet rfl rfl rfl) (.cons (.quiet rfl rfl rfl) (.cons (.quiet rfl rfl rfl) (.cons (.quiet rfl rfl rfl) (.nil)))))))))))))))))))))) (.nil ?_)))
 refine TieS.seq (.region (.run 2 rfl (.callG [(1000000, 1000000), (1000001, 1000001)] [] (fun v2 => ⟨[(0, .ptr 1000000 0), (2, .t (tI r3.2)), (3, .t (tI r3.1)), (32, .tup [.t (tI r3.1), .t (tI r3.2)]), (33, .ptr 1000000 0), (34, .ptr 1000000 0), (35, .ptr 1000000 0), (36, .agg [.t (tS Pv.encI v.t.Air.X), .t (tS Pv.encI v.t.Air.Y), .t (tS (Pv.encS Pv.encI) v.t.Air.Z), .t (tS Pv.encI v.t.Spark.X), .t (tS Pv.encI v.t.Spark.Y), .t (tS (Pv.encS Pv.encI) v.t.Spark.Z), .t (tS Pv.encI v.t.Torque.X), .t (tS Pv.encI v.t.Torque.Y), .t (tS (Pv.encS Pv.encI) v.t.Torque.Z), .t (tS Pv.encI v.t.Wish.X), .t (tS Pv.encI v.t.Wish.Y), .t (tS (Pv.encS Pv.encI) v.t.Wish.Z), .t (tS Pv.encI v.t.AirTemp.X), .t (tS Pv.encI v.t.AirTemp.Y), .t (tS Pv.encI v.t.Dwell.X), .t (tS Pv.encI v.t.Dwell.Y), .t (tS Pv.encI v.t.Dead.X), .t (tS Pv.encI v.t.Dead.Y), .t (tS Pv.encI v.t.Efficiency.X), .t (tS Pv.encI v.t.Efficiency.Y), .t (tI v.t.Idle.P), .t (tI v.t.Idle.I), .t (tI v.t.Idle.Low), .t (tI v.t.Idle.High)]), (37, .ptr 1000000 0), (38, .ptr 1000000 0), (39, .ptr 1000000 33), (40, .ptr 1000000 33), (41, .ptr 1000000 33), (42, .t (tI v.c.Pedal.Value)), (43, .ptr 1000000 0), (44, .ptr 1000000 0), (45, .ptr 1000000 46), (46, .ptr 1000000 48), (47, .t (tI v.i.Speed)), (48, .tup [.t (tI r3.1), .t (tI r3.2)]), (49, .t (tI r3.1)), (50, .t (tI r3.2)), (51, .ptr 1000000 0), (52, .t (tI r3.2)), (53, .tup [])], [(1000000, .box (lset (q10 v2) [(63, .own 1000001)])), (1000001, .rows 79 7 v2.out.Fires.length (v2.out.Fires.map q12))]⟩) (q17 v r3.2) rfl rfl rfl rfl rfl rfl rfl (fun _ => rfl) (fun _ => rfl) (fun _ => rfl) (fun _ => .of rfl rfl) fun v2 hv2 => .nil ?_)))
 refine TieS.seq (.region (.run 4 rfl (.nil (.seq ?_))))
 refine TieS.seq (TieX.pre fun v3 hv3 => TieS.draw 17 [_, _, _, _, _, _, _, _, _, _, _, _, _, _, _, _, _] [(0, .ptr 1000000 0), (4, .own 56)] [(56, .rows 73 4 ([(⟨0, 3, r3.1, 0⟩ : SRequest)] : List SRequest).length (([(⟨0, 3, r3.1, 0⟩ : SRequest)] : List SRequest).map q11)), (1000000, .box (lset (q10 v2) [(63, .own 1000001)])), (1000001, .rows 79 7 v2.out.Fires.length (v2.out.Fires.map q12))] mixed (.of rfl rfl) rfl rfl rfl rfl (.cons (.quiet rfl rfl rfl) (.cons (.quiet rfl rfl rfl) (.cons (.quiet rfl rfl rfl) (.cons (.quiet rfl rfl rfl) (.cons (.quiet rfl rfl rfl) (.cons (.quiet rfl rfl rfl) (.cons (.quiet rfl rfl rfl) (.cons (.quiet rfl rfl rfl) (.cons (.quiet rfl rfl rfl) (.cons (.quiet rfl rfl rfl) (.cons (.quiet rfl rfl rfl) (.cons (.quiet rfl rfl rfl) (.cons (.quiet rfl rfl rfl) (.cons (.quiet rfl rfl rfl) (.cons (.quiet rfl rfl rfl) (.cons (.quiet rfl rfl rfl) (.cons (.callV (q452 v2.c.Pedal.Value v2.i.Speed v2.i.Coolant) hv3 rfl rfl rfl rfl) (.nil)))))))))))))))))) (.nil (.bind (Q₁ := fun t e σ' => e = .normal ∧ Sub ⟨[(0, .ptr 1000000 0), (4, .own 56)], [(56, .rows 73 4 t.2.length (t.2.map q11)), (1000000, .box (lset (q10 t.1) [(63, .own 1000001)])), (1000001, .rows 79 7 t.1.out.Fires.length (t.1.out.Fires.map q12))]⟩ σ') ?_ ?_)))
 ·refine TieS.cond rfl ?_ ?_
  ·refine TieS.seq (.region (.run 1 rfl (.nil (.seq ?_))))
   refine TieS.bind (Q₁ := fun t e σ' => e = .normal ∧ Sub ⟨[(0, .ptr 1000000 0), (2, .t (tI t.1)), (4, .own 56), (5, .t (tI t.2.1))], [(56, .rows 73 4 ([(⟨0, 3, r3.1, 0⟩ : SRequest)] : List SRequest).length (([(⟨0, 3, r3.1, 0⟩ : SRequest)] : List SRequest).map q11)), (1000000, .box (lset (q10 (u17_3 v2 (u11_1 v2.c (⟨t.2.2⟩ : SIntegral)))) [(63, .own 1000001)])), (1000001, .rows 79 7 v2.out.Fires.length (v2.out.Fires.map q12))]⟩ σ') ?_ ?_
   ·refine TieX.pre fun v4 hv4 => TieX.pre fun r4 hr4 => TieS.draws 32 (bm 33 0) (bm 33 4294967295) ⟨[(0, .ptr 1000000 0), (4, .own 56), (5, .t (tI r4.2.1)), (100, .t (tI r4.2.2))], [(56, .rows 73 4 ([(⟨0, 3, r3.1, 0⟩ : SRequest)] : List SRequest).length (([(⟨0, 3, r3.1, 0⟩ : SRequest)] : List SRequest).map q11)), (1000000, .box (lset (q10 (u17_3 v2 (u11_1 v2.c r4.1))) [(63, .own 1000001)])), (1000001, .rows 79 7 v2.out.Fires.length (v2.out.Fires.map q12))]⟩ mixed (fun _ _ _ h => by cases h.1) rfl rfl rfl rfl ?_ ?_
    ·refine TieA.have_ (fuel₁ := 2) (l₁ := (bm 33 2147483647)) (σ₁ := ⟨[(0, .ptr 1000000 0), (4, .own 56), (5, .t (tI 0)), (99, .t (tI r4.2.1)), (100, .t (tI r4.2.2))], [(56, .rows 73 4 ([(⟨0, 3, r3.1, 0⟩ : SRequest)] : List SRequest).length (([(⟨0, 3, r3.1, 0⟩ : SRequest)] : List SRequest).map q11)), (1000000, .box (lset (q10 (u17_3 v2 (u11_1 v2.c r4.1))) [(63, .own 1000001)])), (1000001, .rows 79 7 v2.out.Fires.length (v2.out.Fires.map q12))]⟩) ?_ fun A_5 => ?_
     ·exact TieA.mv 31 rfl (.inr rfl) rfl (by kernel_rfl) rfl (.done (.of rfl rfl))
     refine TieA.have_ (fuel₁ := 3) (l₁ := (bm 33 1073741823)) (σ₁ := ⟨[(0, .ptr 1000000 0), (4, .own 56), (5, .t (tI 0)), (98, .agg [.t (tI r4.1.Sum)]), (99, .t (tI r4.2.1)), (100, .t (tI r4.2.2)), (103, .ptr 1000000 36)], [(56, .rows 73 4 ([(⟨0, 3, r3.1, 0⟩ : SRequest)] : List SRequest).length (([(⟨0, 3, r3.1, 0⟩ : SRequest)] : List SRequest).map q11)), (1000000, .box (lset (q10 v2) [(63, .own 1000001)])), (1000001, .rows 79 7 v2.out.Fires.length (v2.out.Fires.map q12))]⟩) ?_ fun A_4 => ?_
     ·exact TieA.all [30] (by kernel_rfl) rfl (AllA.runTo _ rfl rfl rfl (.of rfl rfl) A_5 (AllA.nil))
     refine TieA.have_ (fuel₁ := 3) (l₁ := (bm 33 2080374783)) (σ₁ := ⟨[(0, .ptr 1000000 0), (4, .own 56), (5, .t (tI 0)), (74, .tup [.agg [.t (tI r4.1.Sum)], .t (tI r4.2.1), .t (tI r4.2.2)]), (99, .t (tI r4.2.1))], [(56, .rows 73 4 ([(⟨0, 3, r3.1, 0⟩ : SRequest)] : List SRequest).length (([(⟨0, 3, r3.1, 0⟩ : SRequest)] : List SRequest).map q11)), (1000000, .box (lset (q10 (u17_3 v2 (u11_1 v2.c r4.1))) [(63, .own 1000001)])), (1000001, .rows 79 7 v2.out.Fires.length (v2.out.Fires.map q12))]⟩) ?_ fun A_6 => ?_
     ·refine TieA.mv 31 rfl (.inr rfl) rfl (by kernel_rfl) rfl (.all [26] (by kernel_rfl) rfl (AllA.run _ rfl rfl rfl ?_ ?_))
      ·exact TieA.done (.of rfl rfl)
      exact AllA.nil
     refine TieA.have_ (fuel₁ := 3) (l₁ := (bm 33 2113929215)) (σ₁ := ⟨[(0, .ptr 1000000 0), (4, .own 56), (5, .t (tI 0)), (74, .tup [.agg [.t (tI r4.1.Sum)], .t (tI r4.2.1), .t (tI r4.2.2)]), (100, .t (tI r4.2.2))], [(56, .rows 73 4 ([(⟨0, 3, r3.1, 0⟩ : SRequest)] : List SRequest).length (([(⟨0, 3, r3.1, 0⟩ : SRequest)] : List SRequest).map q11)), (1000000, .box (lset (q10 (u17_3 v2 (u11_1 v2.c r4.1))) [(63, .own 1000001)])), (1000001, .rows 79 7 v2.out.Fires.length (v2.out.Fires.map q12))]⟩) ?_ fun A_7 => ?_
     ·exact TieA.all [25] (by kernel_rfl) rfl (AllA.runTo _ rfl rfl rfl (.of rfl rfl) A_5 (AllA.nil))
     refine TieA.have_ (fuel₁ := 7) (l₁ := (bm 33 117440511)) (σ₁ := ⟨[(0, .ptr 1000000 0), (4, .own 56), (5, .t (tI 0)), (74, .tup [.agg [.t (tI r4.1.Sum)], .t (tI r4.2.1), .t (tI r4.2.2)]), (75, .ptr 1000000 0), (99, .t (tI r4.2.1)), (100, .t (tI r4.2.2))], [(56, .rows 73 4 ([(⟨0, 3, r3.1, 0⟩ : SRequest)] : List SRequest).length (([(⟨0, 3, r3.1, 0⟩ : SRequest)] : List SRequest).map q11)), (1000000, .box (lset (q10 v2) [(63, .own 1000001)])), (1000001, .rows 79 7 v2.out.Fires.length (v2.out.Fires.map q12))]⟩) ?_ fun A_8 => ?_
     ·refine TieA.all [24] (by kernel_rfl) rfl (AllA.run _ rfl rfl rfl ?_ ?_)
      ·refine TieA.nP 27 rfl rfl rfl (by kernel_rfl) rfl (.fP 28 rfl rfl rfl (by kernel_rfl) rfl rfl rfl (.fP 29 rfl rfl rfl (by kernel_rfl) rfl rfl rfl (.all [30] (by kernel_rfl) rfl (AllA.runTo _ rfl rfl rfl (.of rfl rfl) A_5 ?_))))
       exact AllA.nil
      exact AllA.nil
     refine TieA.have_ (fuel₁ := 11) (l₁ := (bm 33 4194303)) (σ₁ := ⟨[(0, .ptr 1000000 0), (4, .own 56), (5, .t (tI 0)), (75, .ptr 1000000 0), (80, .agg [.t (tI v2.c.Idle.Sum)]), (85, .agg [.t (tI v2.t.Idle.P), .t (tI v2.t.Idle.I), .t (tI v2.t.Idle.Low), .t (tI v2.t.Idle.High)]), (91, .t (tI v4)), (96, .t (tI v2.i.Speed))], [(56, .rows 73 4 ([(⟨0, 3, r3.1, 0⟩ : SRequest)] : List SRequest).length (([(⟨0, 3, r3.1, 0⟩ : SRequest)] : List SRequest).map q11)), (1000000, .box (lset (q10 v2) [(63, .own 1000001)])), (1000001, .rows 79 7 v2.out.Fires.length (v2.out.Fires.map q12))]⟩) ?_ fun A_3 => ?_
     ·refine TieA.all [22] (by kernel_rfl) rfl (AllA.cons (σ₁ := ⟨[(0, .ptr 1000000 0), (4, .own 56), (5, .t (tI 0)), (75, .ptr 1000000 0), (97, .tup [.agg [.t (tI r4.1.Sum)], .t (tI r4.2.1), .t (tI r4.2.2)])], [(56, .rows 73 4 ([(⟨0, 3, r3.1, 0⟩ : SRequest)] : List SRequest).length (([(⟨0, 3, r3.1, 0⟩ : SRequest)] : List SRequest).map q11)), (1000000, .box (lset (q10 v2) [(63, .own 1000001)])), (1000001, .rows 79 7 v2.out.Fires.length (v2.out.Fires.map q12))]⟩) _ rfl rfl ?_ ?_ ?_)
      ·refine TieO.withH hr4 (TieO.call _ rfl rfl rfl (q491 v2.c.Idle v2.t.Idle v4 v2.i.Speed) (fun _ => rfl) (TieO.ifH ?_))
       exact TieO.nil (TieS.leaf ⟨rfl, .of rfl rfl⟩)
      ·refine TieA.mv 23 rfl (.inl rfl) rfl (by kernel_rfl) rfl (.all [24, 25, 26] (by kernel_rfl) rfl (AllA.run _ rfl rfl rfl ?_ ?_))
       ·refine TieA.nP 27 rfl rfl rfl (by kernel_rfl) rfl (.fP 28 rfl rfl rfl (by kernel_rfl) rfl rfl rfl (.fP 29 rfl rfl rfl (by kernel_rfl) rfl rfl rfl (.all [25, 26, 30] (by kernel_rfl) rfl (AllA.run _ rfl rfl rfl ?_ ?_))))
        ·exact TieA.all [26, 30] (by kernel_rfl) rfl (AllA.runTo _ rfl rfl rfl (.of rfl rfl) A_4 (AllA.runTo _ rfl rfl rfl (.of rfl rfl) A_6 (AllA.nil)))
        refine AllA.run _ rfl rfl rfl ?_ ?_
        ·exact TieA.all [25, 30] (by kernel_rfl) rfl (AllA.runTo _ rfl rfl rfl (.of rfl rfl) A_4 (AllA.runTo _ rfl rfl rfl (.of rfl rfl) A_7 (AllA.nil)))
        refine AllA.run _ rfl rfl rfl ?_ ?_
        ·exact TieA.all [25, 26] (by kernel_rfl) rfl (AllA.runTo _ rfl rfl rfl (.of rfl rfl) A_6 (AllA.runTo _ rfl rfl rfl (.of rfl rfl) A_7 (AllA.nil)))
        exact AllA.nil
       refine AllA.run _ rfl rfl rfl ?_ ?_
       ·refine TieA.all [24, 26] (by kernel_rfl) rfl (AllA.run _ rfl rfl rfl ?_ ?_)
        ·refine TieA.nP 27 rfl rfl rfl (by kernel_rfl) rfl (.fP 28 rfl rfl rfl (by kernel_rfl) rfl rfl rfl (.fP 29 rfl rfl rfl (by kernel_rfl) rfl rfl rfl (.all [26, 30] (by kernel_rfl) rfl (AllA.runTo _ rfl rfl rfl (.of rfl rfl) A_4 ?_))))
         exact AllA.runTo _ rfl rfl rfl (.of rfl rfl) A_6 (AllA.nil)
        exact AllA.runTo _ rfl rfl rfl (.of rfl rfl) A_8 (AllA.nil)
       refine AllA.run _ rfl rfl rfl ?_ ?_
       ·refine TieA.all [24, 25] (by kernel_rfl) rfl (AllA.run _ rfl rfl rfl ?_ ?_)
        ·refine TieA.nP 27 rfl rfl rfl (by kernel_rfl) rfl (.fP 28 rfl rfl rfl (by kernel_rfl) rfl rfl rfl (.fP 29 rfl rfl rfl (by kernel_rfl) rfl rfl rfl (.all [25, 30] (by kernel_rfl) rfl (AllA.runTo _ rfl rfl rfl (.of rfl rfl) A_4 ?_))))
         exact AllA.runTo _ rfl rfl rfl (.of rfl rfl) A_7 (AllA.nil)
        exact AllA.runTo _ rfl rfl rfl (.of rfl rfl) A_8 (AllA.nil)
       exact AllA.nil
      exact AllA.nil
     refine TieA.have_ (fuel₁ := 12) (l₁ := (bm 33 2097151)) (σ₁ := ⟨[(0, .ptr 1000000 0), (4, .own 56), (5, .t (tI 0)), (75, .ptr 1000000 0), (80, .agg [.t (tI v2.c.Idle.Sum)]), (85, .agg [.t (tI v2.t.Idle.P), .t (tI v2.t.Idle.I), .t (tI v2.t.Idle.Low), .t (tI v2.t.Idle.High)]), (91, .t (tI v4)), (95, .ptr 1000000 48)], [(56, .rows 73 4 ([(⟨0, 3, r3.1, 0⟩ : SRequest)] : List SRequest).length (([(⟨0, 3, r3.1, 0⟩ : SRequest)] : List SRequest).map q11)), (1000000, .box (lset (q10 v2) [(63, .own 1000001)])), (1000001, .rows 79 7 v2.out.Fires.length (v2.out.Fires.map q12))]⟩) ?_ fun A_2 => ?_
     ·exact TieA.all [21] (by kernel_rfl) rfl (AllA.runTo _ rfl rfl rfl (.of rfl rfl) A_3 (AllA.nil))
     refine TieA.have_ (fuel₁ := 12) (l₁ := (bm 33 4128767)) (σ₁ := ⟨[(0, .ptr 1000000 0), (4, .own 56), (5, .t (tI 0)), (75, .ptr 1000000 0), (80, .agg [.t (tI v2.c.Idle.Sum)]), (85, .agg [.t (tI v2.t.Idle.P), .t (tI v2.t.Idle.I), .t (tI v2.t.Idle.Low), .t (tI v2.t.Idle.High)]), (90, .t (tI v2.i.Coolant)), (96, .t (tI v2.i.Speed))], [(56, .rows 73 4 ([(⟨0, 3, r3.1, 0⟩ : SRequest)] : List SRequest).length (([(⟨0, 3, r3.1, 0⟩ : SRequest)] : List SRequest).map q11)), (1000000, .box (lset (q10 v2) [(63, .own 1000001)])), (1000001, .rows 79 7 v2.out.Fires.length (v2.out.Fires.map q12))]⟩) ?_ fun A_9 => ?_
     ·refine TieA.all [16] (by kernel_rfl) rfl (AllA.cons _ rfl rfl ?_ A_3 ?_)
      ·refine TieO.withH hv4 (TieO.call _ rfl rfl rfl (q48 v2.i.Coolant) (fun _ => rfl) (TieO.ifH ?_))
       exact TieO.nil (TieS.leaf ⟨rfl, .of rfl rfl⟩)
      exact AllA.nil
     refine TieA.have_ (fuel₁ := 13) (l₁ := (bm 33 2031615)) (σ₁ := ⟨[(0, .ptr 1000000 0), (4, .own 56), (5, .t (tI 0)), (75, .ptr 1000000 0), (80, .agg [.t (tI v2.c.Idle.Sum)]), (85, .agg [.t (tI v2.t.Idle.P), .t (tI v2.t.Idle.I), .t (tI v2.t.Idle.Low), .t (tI v2.t.Idle.High)]), (90, .t (tI v2.i.Coolant)), (95, .ptr 1000000 48)], [(56, .rows 73 4 ([(⟨0, 3, r3.1, 0⟩ : SRequest)] : List SRequest).length (([(⟨0, 3, r3.1, 0⟩ : SRequest)] : List SRequest).map q11)), (1000000, .box (lset (q10 v2) [(63, .own 1000001)])), (1000001, .rows 79 7 v2.out.Fires.length (v2.out.Fires.map q12))]⟩) ?_ fun A_1 => ?_
     ·refine TieA.all [16, 21] (by kernel_rfl) rfl (AllA.cons _ rfl rfl ?_ A_2 ?_)
      ·refine TieO.withH hv4 (TieO.call _ rfl rfl rfl (q48 v2.i.Coolant) (fun _ => rfl) (TieO.ifH ?_))
       exact TieO.nil (TieS.leaf ⟨rfl, .of rfl rfl⟩)
      exact AllA.runTo _ rfl rfl rfl (.of rfl rfl) A_9 (AllA.nil)
     refine TieA.have_ (fuel₁ := 13) (l₁ := (bm 33 4095999)) (σ₁ := ⟨[(0, .ptr 1000000 0), (4, .own 56), (5, .t (tI 0)), (75, .ptr 1000000 0), (80, .agg [.t (tI v2.c.Idle.Sum)]), (85, .agg [.t (tI v2.t.Idle.P), .t (tI v2.t.Idle.I), .t (tI v2.t.Idle.Low), .t (tI v2.t.Idle.High)]), (89, .ptr 1000000 53), (96, .t (tI v2.i.Speed))], [(56, .rows 73 4 ([(⟨0, 3, r3.1, 0⟩ : SRequest)] : List SRequest).length (([(⟨0, 3, r3.1, 0⟩ : SRequest)] : List SRequest).map q11)), (1000000, .box (lset (q10 v2) [(63, .own 1000001)])), (1000001, .rows 79 7 v2.out.Fires.length (v2.out.Fires.map q12))]⟩) ?_ fun A_10 => ?_
     ·exact TieA.all [15] (by kernel_rfl) rfl (AllA.runTo _ rfl rfl rfl (.of rfl rfl) A_9 (AllA.nil))
     refine TieA.have_ (fuel₁ := 14) (l₁ := (bm 33 1998847)) (σ₁ := ⟨[(0, .ptr 1000000 0), (4, .own 56), (5, .t (tI 0)), (75, .ptr 1000000 0), (80, .agg [.t (tI v2.c.Idle.Sum)]), (85, .agg [.t (tI v2.t.Idle.P), .t (tI v2.t.Idle.I), .t (tI v2.t.Idle.Low), .t (tI v2.t.Idle.High)]), (89, .ptr 1000000 53), (95, .ptr 1000000 48)], [(56, .rows 73 4 ([(⟨0, 3, r3.1, 0⟩ : SRequest)] : List SRequest).length (([(⟨0, 3, r3.1, 0⟩ : SRequest)] : List SRequest).map q11)), (1000000, .box (lset (q10 v2) [(63, .own 1000001)])), (1000001, .rows 79 7 v2.out.Fires.length (v2.out.Fires.map q12))]⟩) ?_ fun A_0 => ?_
     ·exact TieA.all [15, 21] (by kernel_rfl) rfl (AllA.runTo _ rfl rfl rfl (.of rfl rfl) A_1 (AllA.runTo _ rfl rfl rfl (.of rfl rfl) A_10 (AllA.nil)))
     refine TieA.have_ (fuel₁ := 12) (l₁ := (bm 33 4193279)) (σ₁ := ⟨[(0, .ptr 1000000 0), (4, .own 56), (5, .t (tI 0)), (75, .ptr 1000000 0), (80, .agg [.t (tI v2.c.Idle.Sum)]), (84, .ptr 1000000 20), (91, .t (tI v4)), (96, .t (tI v2.i.Speed))], [(56, .rows 73 4 ([(⟨0, 3, r3.1, 0⟩ : SRequest)] : List SRequest).length (([(⟨0, 3, r3.1, 0⟩ : SRequest)] : List SRequest).map q11)), (1000000, .box (lset (q10 v2) [(63, .own 1000001)])), (1000001, .rows 79 7 v2.out.Fires.length (v2.out.Fires.map q12))]⟩) ?_ fun A_13 => ?_
     ·exact TieA.all [10] (by kernel_rfl) rfl (AllA.runTo _ rfl rfl rfl (.of rfl rfl) A_3 (AllA.nil))
     refine TieA.have_ (fuel₁ := 13) (l₁ := (bm 33 2096127)) (σ₁ := ⟨[(0, .ptr 1000000 0), (4, .own 56), (5, .t (tI 0)), (75, .ptr 1000000 0), (80, .agg [.t (tI v2.c.Idle.Sum)]), (84, .ptr 1000000 20), (91, .t (tI v4)), (95, .ptr 1000000 48)], [(56, .rows 73 4 ([(⟨0, 3, r3.1, 0⟩ : SRequest)] : List SRequest).length (([(⟨0, 3, r3.1, 0⟩ : SRequest)] : List SRequest).map q11)), (1000000, .box (lset (q10 v2) [(63, .own 1000001)])), (1000001, .rows 79 7 v2.out.Fires.length (v2.out.Fires.map q12))]⟩) ?_ fun A_12 => ?_
     ·exact TieA.all [10, 21] (by kernel_rfl) rfl (AllA.runTo _ rfl rfl rfl (.of rfl rfl) A_2 (AllA.runTo _ rfl rfl rfl (.of rfl rfl) A_13 (AllA.nil)))
     refine TieA.have_ (fuel₁ := 13) (l₁ := (bm 33 4127743)) (σ₁ := ⟨[(0, .ptr 1000000 0), (4, .own 56), (5, .t (tI 0)), (75, .ptr 1000000 0), (80, .agg [.t (tI v2.c.Idle.Sum)]), (84, .ptr 1000000 20), (90, .t (tI v2.i.Coolant)), (96, .t (tI v2.i.Speed))], [(56, .rows 73 4 ([(⟨0, 3, r3.1, 0⟩ : SRequest)] : List SRequest).length (([(⟨0, 3, r3.1, 0⟩ : SRequest)] : List SRequest).map q11)), (1000000, .box (lset (q10 v2) [(63, .own 1000001)])), (1000001, .rows 79 7 v2.out.Fires.length (v2.out.Fires.map q12))]⟩) ?_ fun A_14 => ?_
     ·refine TieA.all [10, 16] (by kernel_rfl) rfl (AllA.runTo _ rfl rfl rfl (.of rfl rfl) A_9 (AllA.cons _ rfl rfl ?_ A_13 ?_))
      ·refine TieO.withH hv4 (TieO.call _ rfl rfl rfl (q48 v2.i.Coolant) (fun _ => rfl) (TieO.ifH ?_))
       exact TieO.nil (TieS.leaf ⟨rfl, .of rfl rfl⟩)
      exact AllA.nil
     refine TieA.have_ (fuel₁ := 14) (l₁ := (bm 33 2030591)) (σ₁ := ⟨[(0, .ptr 1000000 0), (4, .own 56), (5, .t (tI 0)), (75, .ptr 1000000 0), (80, .agg [.t (tI v2.c.Idle.Sum)]), (84, .ptr 1000000 20), (90, .t (tI v2.i.Coolant)), (95, .ptr 1000000 48)], [(56, .rows 73 4 ([(⟨0, 3, r3.1, 0⟩ : SRequest)] : List SRequest).length (([(⟨0, 3, r3.1, 0⟩ : SRequest)] : List SRequest).map q11)), (1000000, .box (lset (q10 v2) [(63, .own 1000001)])), (1000001, .rows 79 7 v2.out.Fires.length (v2.out.Fires.map q12))]⟩) ?_ fun A_11 => ?_
     ·refine TieA.all [10, 16, 21] (by kernel_rfl) rfl (AllA.runTo _ rfl rfl rfl (.of rfl rfl) A_1 (AllA.cons _ rfl rfl ?_ A_12 ?_))
      ·refine TieO.withH hv4 (TieO.call _ rfl rfl rfl (q48 v2.i.Coolant) (fun _ => rfl) (TieO.ifH ?_))
       exact TieO.nil (TieS.leaf ⟨rfl, .of rfl rfl⟩)
      exact AllA.runTo _ rfl rfl rfl (.of rfl rfl) A_14 (AllA.nil)
     refine TieA.have_ (fuel₁ := 14) (l₁ := (bm 33 4094975)) (σ₁ := ⟨[(0, .ptr 1000000 0), (4, .own 56), (5, .t (tI 0)), (75, .ptr 1000000 0), (80, .agg [.t (tI v2.c.Idle.Sum)]), (84, .ptr 1000000 20), (89, .ptr 1000000 53), (96, .t (tI v2.i.Speed))], [(56, .rows 73 4 ([(⟨0, 3, r3.1, 0⟩ : SRequest)] : List SRequest).length (([(⟨0, 3, r3.1, 0⟩ : SRequest)] : List SRequest).map q11)), (1000000, .box (lset (q10 v2) [(63, .own 1000001)])), (1000001, .rows 79 7 v2.out.Fires.length (v2.out.Fires.map q12))]⟩) ?_ fun A_15 => ?_
     ·exact TieA.all [10, 15] (by kernel_rfl) rfl (AllA.runTo _ rfl rfl rfl (.of rfl rfl) A_10 (AllA.runTo _ rfl rfl rfl (.of rfl rfl) A_14 (AllA.nil)))
     refine TieA.have_ (fuel₁ := 12) (l₁ := (bm 33 4194271)) (σ₁ := ⟨[(0, .ptr 1000000 0), (4, .own 56), (5, .t (tI 0)), (75, .ptr 1000000 0), (79, .ptr 1000000 36), (85, .agg [.t (tI v2.t.Idle.P), .t (tI v2.t.Idle.I), .t (tI v2.t.Idle.Low), .t (tI v2.t.Idle.High)]), (91, .t (tI v4)), (96, .t (tI v2.i.Speed))], [(56, .rows 73 4 ([(⟨0, 3, r3.1, 0⟩ : SRequest)] : List SRequest).length (([(⟨0, 3, r3.1, 0⟩ : SRequest)] : List SRequest).map q11)), (1000000, .box (lset (q10 v2) [(63, .own 1000001)])), (1000001, .rows 79 7 v2.out.Fires.length (v2.out.Fires.map q12))]⟩) ?_ fun A_18 => ?_
     ·exact TieA.all [5] (by kernel_rfl) rfl (AllA.runTo _ rfl rfl rfl (.of rfl rfl) A_3 (AllA.nil))
     refine TieA.have_ (fuel₁ := 13) (l₁ := (bm 33 2097119)) (σ₁ := ⟨[(0, .ptr 1000000 0), (4, .own 56), (5, .t (tI 0)), (75, .ptr 1000000 0), (79, .ptr 1000000 36), (85, .agg [.t (tI v2.t.Idle.P), .t (tI v2.t.Idle.I), .t (tI v2.t.Idle.Low), .t (tI v2.t.Idle.High)]), (91, .t (tI v4)), (95, .ptr 1000000 48)], [(56, .rows 73 4 ([(⟨0, 3, r3.1, 0⟩ : SRequest)] : List SRequest).length (([(⟨0, 3, r3.1, 0⟩ : SRequest)] : List SRequest).map q11)), (1000000, .box (lset (q10 v2) [(63, .own 1000001)])), (1000001, .rows 79 7 v2.out.Fires.length (v2.out.Fires.map q12))]⟩) ?_ fun A_17 => ?_
     ·exact TieA.all [5, 21] (by kernel_rfl) rfl (AllA.runTo _ rfl rfl rfl (.of rfl rfl) A_2 (AllA.runTo _ rfl rfl rfl (.of rfl rfl) A_18 (AllA.nil)))
     refine TieA.have_ (fuel₁ := 13) (l₁ := (bm 33 4128735)) (σ₁ := ⟨[(0, .ptr 1000000 0), (4, .own 56), (5, .t (tI 0)), (75, .ptr 1000000 0), (79, .ptr 1000000 36), (85, .agg [.t (tI v2.t.Idle.P), .t (tI v2.t.Idle.I), .t (tI v2.t.Idle.Low), .t (tI v2.t.Idle.High)]), (90, .t (tI v2.i.Coolant)), (96, .t (tI v2.i.Speed))], [(56, .rows 73 4 ([(⟨0, 3, r3.1, 0⟩ : SRequest)] : List SRequest).length (([(⟨0, 3, r3.1, 0⟩ : SRequest)] : List SRequest).map q11)), (1000000, .box (lset (q10 v2) [(63, .own 1000001)])), (1000001, .rows 79 7 v2.out.Fires.length (v2.out.Fires.map q12))]⟩) ?_ fun A_19 => ?_
     ·refine TieA.all [5, 16] (by kernel_rfl) rfl (AllA.runTo _ rfl rfl rfl (.of rfl rfl) A_9 (AllA.cons _ rfl rfl ?_ A_18 ?_))
      ·refine TieO.withH hv4 (TieO.call _ rfl rfl rfl (q48 v2.i.Coolant) (fun _ => rfl) (TieO.ifH ?_))
       exact TieO.nil (TieS.leaf ⟨rfl, .of rfl rfl⟩)
      exact AllA.nil
     refine TieA.have_ (fuel₁ := 14) (l₁ := (bm 33 2031583)) (σ₁ := ⟨[(0, .ptr 1000000 0), (4, .own 56), (5, .t (tI 0)), (75, .ptr 1000000 0), (79, .ptr 1000000 36), (85, .agg [.t (tI v2.t.Idle.P), .t (tI v2.t.Idle.I), .t (tI v2.t.Idle.Low), .t (tI v2.t.Idle.High)]), (90, .t (tI v2.i.Coolant)), (95, .ptr 1000000 48)], [(56, .rows 73 4 ([(⟨0, 3, r3.1, 0⟩ : SRequest)] : List SRequest).length (([(⟨0, 3, r3.1, 0⟩ : SRequest)] : List SRequest).map q11)), (1000000, .box (lset (q10 v2) [(63, .own 1000001)])), (1000001, .rows 79 7 v2.out.Fires.length (v2.out.Fires.map q12))]⟩) ?_ fun A_16 => ?_
     ·refine TieA.all [5, 16, 21] (by kernel_rfl) rfl (AllA.runTo _ rfl rfl rfl (.of rfl rfl) A_1 (AllA.cons _ rfl rfl ?_ A_17 ?_))
      ·refine TieO.withH hv4 (TieO.call _ rfl rfl rfl (q48 v2.i.Coolant) (fun _ => rfl) (TieO.ifH ?_))
       exact TieO.nil (TieS.leaf ⟨rfl, .of rfl rfl⟩)
      exact AllA.runTo _ rfl rfl rfl (.of rfl rfl) A_19 (AllA.nil)
     refine TieA.have_ (fuel₁ := 14) (l₁ := (bm 33 4095967)) (σ₁ := ⟨[(0, .ptr 1000000 0), (4, .own 56), (5, .t (tI 0)), (75, .ptr 1000000 0), (79, .ptr 1000000 36), (85, .agg [.t (tI v2.t.Idle.P), .t (tI v2.t.Idle.I), .t (tI v2.t.Idle.Low), .t (tI v2.t.Idle.High)]), (89, .ptr 1000000 53), (96, .t (tI v2.i.Speed))], [(56, .rows 73 4 ([(⟨0, 3, r3.1, 0⟩ : SRequest)] : List SRequest).length (([(⟨0, 3, r3.1, 0⟩ : SRequest)] : List SRequest).map q11)), (1000000, .box (lset (q10 v2) [(63, .own 1000001)])), (1000001, .rows 79 7 v2.out.Fires.length (v2.out.Fires.map q12))]⟩) ?_ fun A_20 => ?_
     ·exact TieA.all [5, 15] (by kernel_rfl) rfl (AllA.runTo _ rfl rfl rfl (.of rfl rfl) A_10 (AllA.runTo _ rfl rfl rfl (.of rfl rfl) A_19 (AllA.nil)))
     refine TieA.have_ (fuel₁ := 13) (l₁ := (bm 33 4193247)) (σ₁ := ⟨[(0, .ptr 1000000 0), (4, .own 56), (5, .t (tI 0)), (75, .ptr 1000000 0), (79, .ptr 1000000 36), (84, .ptr 1000000 20), (91, .t (tI v4)), (96, .t (tI v2.i.Speed))], [(56, .rows 73 4 ([(⟨0, 3, r3.1, 0⟩ : SRequest)] : List SRequest).length (([(⟨0, 3, r3.1, 0⟩ : SRequest)] : List SRequest).map q11)), (1000000, .box (lset (q10 v2) [(63, .own 1000001)])), (1000001, .rows 79 7 v2.out.Fires.length (v2.out.Fires.map q12))]⟩) ?_ fun A_21 => ?_
     ·exact TieA.all [5, 10] (by kernel_rfl) rfl (AllA.runTo _ rfl rfl rfl (.of rfl rfl) A_13 (AllA.runTo _ rfl rfl rfl (.of rfl rfl) A_18 (AllA.nil)))
     refine TieA.have_ (fuel₁ := 14) (l₁ := (bm 33 4127711)) (σ₁ := ⟨[(0, .ptr 1000000 0), (4, .own 56), (5, .t (tI 0)), (75, .ptr 1000000 0), (79, .ptr 1000000 36), (84, .ptr 1000000 20), (90, .t (tI v2.i.Coolant)), (96, .t (tI v2.i.Speed))], [(56, .rows 73 4 ([(⟨0, 3, r3.1, 0⟩ : SRequest)] : List SRequest).length (([(⟨0, 3, r3.1, 0⟩ : SRequest)] : List SRequest).map q11)), (1000000, .box (lset (q10 v2) [(63, .own 1000001)])), (1000001, .rows 79 7 v2.out.Fires.length (v2.out.Fires.map q12))]⟩) ?_ fun A_22 => ?_
     ·refine TieA.all [5, 10, 16] (by kernel_rfl) rfl (AllA.runTo _ rfl rfl rfl (.of rfl rfl) A_14 (AllA.runTo _ rfl rfl rfl (.of rfl rfl) A_19 (AllA.cons _ rfl rfl ?_ A_21 ?_)))
      ·refine TieO.withH hv4 (TieO.call _ rfl rfl rfl (q48 v2.i.Coolant) (fun _ => rfl) (TieO.ifH ?_))
       exact TieO.nil (TieS.leaf ⟨rfl, .of rfl rfl⟩)
      exact AllA.nil
     refine TieA.mv 0 rfl (.inl rfl) rfl (by kernel_rfl) rfl (.mv 1 rfl (.inl rfl) rfl (by kernel_rfl) rfl (.nP 2 rfl rfl rfl (by kernel_rfl) rfl (.fP 3 rfl rfl rfl (by kernel_rfl) rfl rfl rfl (.fP 4 rfl rfl rfl (by kernel_rfl) rfl rfl rfl ?_))))
     refine TieA.mv 6 rfl (.inl rfl) rfl (by kernel_rfl) rfl (.nP 7 rfl rfl rfl (by kernel_rfl) rfl (.fP 8 rfl rfl rfl (by kernel_rfl) rfl rfl rfl (.fP 9 rfl rfl rfl (by kernel_rfl) rfl rfl rfl (.mv 11 rfl (.inl rfl) rfl (by kernel_rfl) rfl ?_))))
     refine TieA.nP 12 rfl rfl rfl (by kernel_rfl) rfl (.fP 13 rfl rfl rfl (by kernel_rfl) rfl rfl rfl (.fP 14 rfl rfl rfl (by kernel_rfl) rfl rfl rfl (.mv 17 rfl (.inl rfl) rfl (by kernel_rfl) rfl (.nP 18 rfl rfl rfl (by kernel_rfl) rfl ?_))))
     refine TieA.fP 19 rfl rfl rfl (by kernel_rfl) rfl rfl rfl (.fP 20 rfl rfl rfl (by kernel_rfl) rfl rfl rfl (.all [5, 10, 15, 21] (by kernel_rfl) rfl (AllA.run _ rfl rfl rfl ?_ ?_)))
     ·exact TieA.all [10, 15, 21] (by kernel_rfl) rfl (AllA.runTo _ rfl rfl rfl (.of rfl rfl) A_0 (AllA.runTo _ rfl rfl rfl (.of rfl rfl) A_11 (AllA.runTo _ rfl rfl rfl (.of rfl rfl) A_15 (AllA.nil))))
     refine AllA.run _ rfl rfl rfl ?_ ?_
     ·exact TieA.all [5, 15, 21] (by kernel_rfl) rfl (AllA.runTo _ rfl rfl rfl (.of rfl rfl) A_0 (AllA.runTo _ rfl rfl rfl (.of rfl rfl) A_16 (AllA.runTo _ rfl rfl rfl (.of rfl rfl) A_20 (AllA.nil))))
     refine AllA.run _ rfl rfl rfl ?_ ?_
     ·refine TieA.all [5, 10, 16, 21] (by kernel_rfl) rfl (AllA.runTo _ rfl rfl rfl (.of rfl rfl) A_11 (AllA.runTo _ rfl rfl rfl (.of rfl rfl) A_16 (AllA.cons (σ₁ := ⟨[(0, .ptr 1000000 0), (4, .own 56), (5, .t (tI 0)), (75, .ptr 1000000 0), (79, .ptr 1000000 36), (84, .ptr 1000000 20), (91, .t (tI v4)), (95, .ptr 1000000 48)], [(56, .rows 73 4 ([(⟨0, 3, r3.1, 0⟩ : SRequest)] : List SRequest).length (([(⟨0, 3, r3.1, 0⟩ : SRequest)] : List SRequest).map q11)), (1000000, .box (lset (q10 v2) [(63, .own 1000001)])), (1000001, .rows 79 7 v2.out.Fires.length (v2.out.Fires.map q12))]⟩) _ rfl rfl ?_ ?_ ?_)))
      ·refine TieO.withH hv4 (TieO.call _ rfl rfl rfl (q48 v2.i.Coolant) (fun _ => rfl) (TieO.ifH ?_))
       exact TieO.nil (TieS.leaf ⟨rfl, .of rfl rfl⟩)
      ·exact TieA.all [5, 10, 21] (by kernel_rfl) rfl (AllA.runTo _ rfl rfl rfl (.of rfl rfl) A_12 (AllA.runTo _ rfl rfl rfl (.of rfl rfl) A_17 (AllA.runTo _ rfl rfl rfl (.of rfl rfl) A_21 (AllA.nil))))
      exact AllA.runTo _ rfl rfl rfl (.of rfl rfl) A_22 (AllA.nil)
     refine AllA.run _ rfl rfl rfl ?_ ?_
     ·exact TieA.all [5, 10, 15] (by kernel_rfl) rfl (AllA.runTo _ rfl rfl rfl (.of rfl rfl) A_15 (AllA.runTo _ rfl rfl rfl (.of rfl rfl) A_20 (AllA.runTo _ rfl rfl rfl (.of rfl rfl) A_22 (AllA.nil))))
     exact AllA.nil
    exact TieO.run 1 rfl (.nil (.leaf ⟨rfl, .of rfl rfl⟩))
   rintro s3 e σ' _ ⟨rfl, hs⟩
   refine TieX.sub hs (TieS.seq (.region (.run 2 rfl (.callG [(1000000, 1000000), (1000001, 1000001)] [] (fun v5 => ⟨[(0, .ptr 1000000 0), (2, .t (tI s3.1)), (4, .own 56), (5, .t (tI s3.2.1)), (104, .ptr 1000000 0), (105, .t (tI s3.1)), (106, .tup [])], [(56, .rows 73 4 ([(⟨0, 3, r3.1, 0⟩ : SRequest)] : List SRequest).length (([(⟨0, 3, r3.1, 0⟩ : SRequest)] : List SRequest).map q11)), (1000000, .box (lset (q10 v5) [(63, .own 1000001)])), (1000001, .rows 79 7 v5.out.Fires.length (v5.out.Fires.map q12))]⟩) (q17 (u17_3 v2 (u11_1 v2.c (⟨s3.2.2⟩ : SIntegral))) s3.1) rfl rfl rfl rfl rfl rfl rfl (fun _ => rfl) (fun _ => rfl) (fun _ => rfl) (fun _ => .of rfl rfl) fun v5 hv5 => ?_))))
   refine TieO.nil (.region (.run 2 rfl (.call _ rfl rfl rfl (q24 s3.2.1 (-5000) 10000) (fun _ => rfl) fun v6 => .run 2 rfl ?_)))
   exact TieO.appendY (id := 56) (l := ([(⟨0, 3, r3.1, 0⟩ : SRequest)] : List SRequest)) (r := ([(⟨1, 2, v6, 1⟩ : SRequest)] : List SRequest)) (tm' := [(0, .ptr 1000000 0), (2, .t (tI s3.1)), (5, .t (tI s3.2.1)), (104, .ptr 1000000 0), (105, .t (tI s3.1)), (106, .tup []), (108, .t (tI s3.2.1)), (109, .t (tI v6)), (110, .agg [.t (tI 1), .t (tI 2), .t (tI v6), .t (tI 1)]), (111, .own 111)]) (hp' := [(111, .rows 73 4 ([(⟨1, 2, v6, 1⟩ : SRequest)] : List SRequest).length (([(⟨1, 2, v6, 1⟩ : SRequest)] : List SRequest).map q11)), (1000000, .box (lset (q10 v5) [(63, .own 1000001)])), (1000001, .rows 79 7 v5.out.Fires.length (v5.out.Fires.map q12))]) rfl rfl rfl rfl rfl rfl rfl (fun _ => rfl) (fun _ => rfl) (.inl ⟨rfl, rfl⟩) (.inr ⟨_, rfl, rfl⟩) (.of rfl rfl) rfl rfl rfl fun l => .run 1 rfl (.nil (.leaf ⟨rfl, .of rfl rfl⟩))
  ·exact TieS.region (.run 6 rfl (.nil (.leaf ⟨rfl, .of rfl rfl⟩)))
 rintro s4 e σ' _ ⟨rfl, hs⟩
 refine TieX.sub hs (TieS.seq (.bind (Q₁ := fun t e σ' => e = .normal ∧ Sub ⟨[(0, .ptr 1000000 0), (2, .t (tI t.1))], [(1000000, .box (lset (q10 (u17_11 (u17_4 (u17_3 (u17_2 (u17_1 (u17_0 s4.1 (⟨(⟨s4.1.t.Air.X, s4.1.t.Air.Y, s4.1.t.Air.Z⟩ : SMap), (⟨s4.1.t.Spark.X, s4.1.t.Spark.Y, s4.1.t.Spark.Z⟩ : SMap), (⟨s4.1.t.Torque.X, s4.1.t.Torque.Y, s4.1.t.Torque.Z⟩ : SMap), (⟨s4.1.t.Wish.X, s4.1.t.Wish.Y, s4.1.t.Wish.Z⟩ : SMap), (⟨s4.1.t.AirTemp.X, s4.1.t.AirTemp.Y⟩ : SCurve), (⟨s4.1.t.Dwell.X, s4.1.t.Dwell.Y⟩ : SCurve), (⟨s4.1.t.Dead.X, s4.1.t.Dead.Y⟩ : SCurve), (⟨s4.1.t.Efficiency.X, s4.1.t.Efficiency.Y⟩ : SCurve), (⟨s4.1.t.Idle.P, s4.1.t.Idle.I, s4.1.t.Idle.Low, s4.1.t.Idle.High⟩ : SGain)⟩ : STables)) (⟨s4.1.e.Order, s4.1.e.First⟩ : SEngine)) (⟨s4.1.b.Inertia, s4.1.b.Friction, s4.1.b.Volume, s4.1.b.Throttle, s4.1.b.Film, s4.1.b.Evaporate, s4.1.b.Delay⟩ : SBody)) (u11_5 (u11_3 (u11_1 (u11_0 s4.1.c (⟨s4.1.c.Pedal.Value, s4.1.c.Pedal.Differ, s4.1.c.Pedal.Fault⟩ : SPedal)) (⟨s4.1.c.Idle.Sum⟩ : SIntegral)) (⟨s4.1.c.Probe.Active, s4.1.c.Probe.Rich, s4.1.c.Probe.Factor, s4.1.c.Probe.Wait, s4.1.c.Probe.Cells⟩ : SProbe)) t.2.1)) (⟨s4.1.i.Pedal1, s4.1.i.Pedal2, s4.1.i.Speed, s4.1.i.Pressure, s4.1.i.AirTemp, s4.1.i.Voltage, s4.1.i.Lambda, s4.1.i.Coolant, s4.1.i.Intensity, s4.1.i.Requests⟩ : SInputs)) (u16_1 s4.1.out []))) [(63, .own 1000001)])), (1000001, .rows 79 7 s4.1.out.Fires.length (s4.1.out.Fires.map q12))]⟩ σ') ?_ ?_))
 ·refine TieX.pre fun l2 hl2 => TieX.pre fun r5 hr5 => TieS.draws 21 (bm 22 0) (bm 22 2097151) ⟨[(0, .ptr 1000000 0), (134, .t (tI r5.2))], [(56, .rows 73 4 l2.length (l2.map q11)), (1000000, .box (lset (q10 (u17_11 (u17_4 (u17_3 (u17_2 (u17_1 (u17_0 s4.1 (⟨(⟨s4.1.t.Air.X, s4.1.t.Air.Y, s4.1.t.Air.Z⟩ : SMap), (⟨s4.1.t.Spark.X, s4.1.t.Spark.Y, s4.1.t.Spark.Z⟩ : SMap), (⟨s4.1.t.Torque.X, s4.1.t.Torque.Y, s4.1.t.Torque.Z⟩ : SMap), (⟨s4.1.t.Wish.X, s4.1.t.Wish.Y, s4.1.t.Wish.Z⟩ : SMap), (⟨s4.1.t.AirTemp.X, s4.1.t.AirTemp.Y⟩ : SCurve), (⟨s4.1.t.Dwell.X, s4.1.t.Dwell.Y⟩ : SCurve), (⟨s4.1.t.Dead.X, s4.1.t.Dead.Y⟩ : SCurve), (⟨s4.1.t.Efficiency.X, s4.1.t.Efficiency.Y⟩ : SCurve), (⟨s4.1.t.Idle.P, s4.1.t.Idle.I, s4.1.t.Idle.Low, s4.1.t.Idle.High⟩ : SGain)⟩ : STables)) (⟨s4.1.e.Order, s4.1.e.First⟩ : SEngine)) (⟨s4.1.b.Inertia, s4.1.b.Friction, s4.1.b.Volume, s4.1.b.Throttle, s4.1.b.Film, s4.1.b.Evaporate, s4.1.b.Delay⟩ : SBody)) (u11_5 (u11_3 (u11_1 (u11_0 s4.1.c (⟨s4.1.c.Pedal.Value, s4.1.c.Pedal.Differ, s4.1.c.Pedal.Fault⟩ : SPedal)) (⟨s4.1.c.Idle.Sum⟩ : SIntegral)) (⟨s4.1.c.Probe.Active, s4.1.c.Probe.Rich, s4.1.c.Probe.Factor, s4.1.c.Probe.Wait, s4.1.c.Probe.Cells⟩ : SProbe)) r5.1)) (⟨s4.1.i.Pedal1, s4.1.i.Pedal2, s4.1.i.Speed, s4.1.i.Pressure, s4.1.i.AirTemp, s4.1.i.Voltage, s4.1.i.Lambda, s4.1.i.Coolant, s4.1.i.Intensity, s4.1.i.Requests⟩ : SInputs)) (u16_1 s4.1.out []))) [(63, .own 1000001)])), (1000001, .rows 79 7 s4.1.out.Fires.length (s4.1.out.Fires.map q12))]⟩ mixed (fun _ _ _ h => by cases h.1) rfl rfl rfl rfl ?_ ?_
  ·refine TieA.have_ (fuel₁ := 9) (l₁ := (bm 22 8191)) (σ₁ := ⟨[(0, .ptr 1000000 0), (119, .ptr 1000000 0), (124, .agg [.t (tI s4.1.c.Grant.Torque), .t (tI s4.1.c.Grant.Source)]), (131, .own 56)], [(56, .rows 73 4 l2.length (l2.map q11)), (1000000, .box (lset (q10 s4.1) [(63, .own 1000001)])), (1000001, .rows 79 7 s4.1.out.Fires.length (s4.1.out.Fires.map q12))]⟩) ?_ fun A_1 => ?_
   ·refine TieA.all [13] (by kernel_rfl) rfl (AllA.cons (σ₁ := ⟨[(0, .ptr 1000000 0), (119, .ptr 1000000 0), (132, .tup [.agg [.t (tI r5.1.Torque), .t (tI r5.1.Source)], .t (tI r5.2)])], [(56, .rows 73 4 l2.length (l2.map q11)), (1000000, .box (lset (q10 s4.1) [(63, .own 1000001)])), (1000001, .rows 79 7 s4.1.out.Fires.length (s4.1.out.Fires.map q12))]⟩) _ rfl rfl ?_ ?_ ?_)
    ·refine TieO.withH hr5 (TieO.callS _ rfl rfl rfl (q442 (⟨s4.1.c.Grant.Torque, s4.1.c.Grant.Source⟩ : SGrant) l2 (-5000) 10000 300 1000) (fun _ => rfl) (fun _ => rfl) (TieO.ifH ?_))
     exact TieO.nil (TieS.leaf ⟨rfl, .of rfl rfl⟩)
    ·refine TieA.mv 14 rfl (.inl rfl) rfl (by kernel_rfl) rfl (.all [15, 16] (by kernel_rfl) rfl (AllA.run _ rfl rfl rfl ?_ ?_))
     ·refine TieA.nP 17 rfl rfl rfl (by kernel_rfl) rfl (.fP 18 rfl rfl rfl (by kernel_rfl) rfl rfl rfl (.fP 19 rfl rfl rfl (by kernel_rfl) rfl rfl rfl (.all [16, 20] (by kernel_rfl) rfl (AllA.run _ rfl rfl rfl ?_ ?_))))
      ·refine TieA.all [20] (by kernel_rfl) rfl (AllA.run _ rfl rfl rfl ?_ ?_)
       ·exact TieA.done (.of rfl rfl)
       exact AllA.nil
      refine AllA.run _ rfl rfl rfl ?_ ?_
      ·refine TieA.all [16] (by kernel_rfl) rfl (AllA.run _ rfl rfl rfl ?_ ?_)
       ·exact TieA.done (.of rfl rfl)
       exact AllA.nil
      exact AllA.nil
     refine AllA.run _ rfl rfl rfl ?_ ?_
     ·refine TieA.all [15] (by kernel_rfl) rfl (AllA.run _ rfl rfl rfl ?_ ?_)
      ·refine TieA.nP 17 rfl rfl rfl (by kernel_rfl) rfl (.fP 18 rfl rfl rfl (by kernel_rfl) rfl rfl rfl (.fP 19 rfl rfl rfl (by kernel_rfl) rfl rfl rfl (.all [20] (by kernel_rfl) rfl (AllA.run _ rfl rfl rfl ?_ ?_))))
       ·exact TieA.done (.of rfl rfl)
       exact AllA.nil
      exact AllA.nil
     exact AllA.nil
    exact AllA.nil
   refine TieA.have_ (fuel₁ := 10) (l₁ := (bm 22 4095)) (σ₁ := ⟨[(0, .ptr 1000000 0), (119, .ptr 1000000 0), (124, .agg [.t (tI s4.1.c.Grant.Torque), .t (tI s4.1.c.Grant.Source)]), (125, .own 56), (130, .t (tS q11 s4.1.i.Requests))], [(56, .rows 73 4 s4.2.length (s4.2.map q11)), (1000000, .box (lset (q10 s4.1) [(63, .own 1000001)])), (1000001, .rows 79 7 s4.1.out.Fires.length (s4.1.out.Fires.map q12))]⟩) ?_ fun A_0 => ?_
   ·refine TieA.all [12] (by kernel_rfl) rfl (AllA.cons _ rfl rfl ?_ A_1 ?_)
    ·refine TieO.withH hl2 (TieO.appendY (id := 56) (e' := 0) (l := s4.2) (r := s4.1.i.Requests) (tm' := [(0, .ptr 1000000 0), (119, .ptr 1000000 0), (124, .agg [.t (tI s4.1.c.Grant.Torque), .t (tI s4.1.c.Grant.Source)]), (130, .t (tS q11 s4.1.i.Requests))]) (hp' := [(1000000, .box (lset (q10 s4.1) [(63, .own 1000001)])), (1000001, .rows 79 7 s4.1.out.Fires.length (s4.1.out.Fires.map q12))]) rfl rfl rfl rfl rfl rfl rfl (fun _ => rfl) (fun _ => rfl) (.inl ⟨rfl, rfl⟩) (.inl rfl) (.of rfl rfl) rfl rfl rfl (TieO.ifH ?_))
     exact TieO.nil (TieS.leaf ⟨rfl, .of rfl rfl⟩)
    exact AllA.nil
   refine TieA.mv 0 rfl (.inl rfl) rfl (by kernel_rfl) rfl (.mv 1 rfl (.inl rfl) rfl (by kernel_rfl) rfl (.nP 2 rfl rfl rfl (by kernel_rfl) rfl (.fP 3 rfl rfl rfl (by kernel_rfl) rfl rfl rfl (.fP 4 rfl rfl rfl (by kernel_rfl) rfl rfl rfl ?_))))
   refine TieA.mv 6 rfl (.inl rfl) rfl (by kernel_rfl) rfl (.mv 7 rfl (.inl rfl) rfl (by kernel_rfl) rfl (.nP 8 rfl rfl rfl (by kernel_rfl) rfl (.fP 9 rfl rfl rfl (by kernel_rfl) rfl rfl rfl (.fP 10 rfl rfl rfl (by kernel_rfl) rfl rfl rfl ?_))))
   refine TieA.all [5, 11] (by kernel_rfl) rfl (AllA.run _ rfl rfl rfl ?_ ?_)
   ·exact TieA.all [11] (by kernel_rfl) rfl (AllA.runTo _ rfl rfl rfl (.of rfl rfl) A_0 (AllA.nil))
   refine AllA.run _ rfl rfl rfl ?_ ?_
   ·refine TieA.all [5, 12] (by kernel_rfl) rfl (AllA.runTo _ rfl rfl rfl (.of rfl rfl) A_0 (AllA.cons (σ₁ := ⟨[(0, .ptr 1000000 0), (119, .ptr 1000000 0), (123, .ptr 1000000 44), (131, .own 56)], [(56, .rows 73 4 l2.length (l2.map q11)), (1000000, .box (lset (q10 s4.1) [(63, .own 1000001)])), (1000001, .rows 79 7 s4.1.out.Fires.length (s4.1.out.Fires.map q12))]⟩) _ rfl rfl ?_ ?_ ?_))
    ·refine TieO.withH hl2 (TieO.appendY (id := 56) (e' := 0) (l := s4.2) (r := s4.1.i.Requests) (tm' := [(0, .ptr 1000000 0), (119, .ptr 1000000 0), (123, .ptr 1000000 44), (130, .t (tS q11 s4.1.i.Requests))]) (hp' := [(1000000, .box (lset (q10 s4.1) [(63, .own 1000001)])), (1000001, .rows 79 7 s4.1.out.Fires.length (s4.1.out.Fires.map q12))]) rfl rfl rfl rfl rfl rfl rfl (fun _ => rfl) (fun _ => rfl) (.inl ⟨rfl, rfl⟩) (.inl rfl) (.of rfl rfl) rfl rfl rfl (TieO.ifH ?_))
     exact TieO.nil (TieS.leaf ⟨rfl, .of rfl rfl⟩)
    ·exact TieA.all [5] (by kernel_rfl) rfl (AllA.runTo _ rfl rfl rfl (.of rfl rfl) A_1 (AllA.nil))
    exact AllA.nil
   exact AllA.nil
  exact TieO.run 1 rfl (.nil (.leaf ⟨rfl, .of rfl rfl⟩))
 rintro s5 e σ' _ ⟨rfl, hs⟩
 refine TieX.sub hs (TieS.seq (.region (.run 2 rfl (.callG [(1000000, 1000000), (1000001, 1000001)] [] (fun v7 => ⟨[(0, .ptr 1000000 0), (2, .t (tI s5.1)), (138, .ptr 1000000 0), (139, .t (tI s5.1)), (140, .tup [])], [(1000000, .box (lset (q10 v7) [(63, .own 1000001)])), (1000001, .rows 79 7 v7.out.Fires.length (v7.out.Fires.map q12))]⟩) (q17 (u17_11 (u17_4 (u17_3 (u17_2 (u17_1 (u17_0 s4.1 (⟨(⟨s4.1.t.Air.X, s4.1.t.Air.Y, s4.1.t.Air.Z⟩ : SMap), (⟨s4.1.t.Spark.X, s4.1.t.Spark.Y, s4.1.t.Spark.Z⟩ : SMap), (⟨s4.1.t.Torque.X, s4.1.t.Torque.Y, s4.1.t.Torque.Z⟩ : SMap), (⟨s4.1.t.Wish.X, s4.1.t.Wish.Y, s4.1.t.Wish.Z⟩ : SMap), (⟨s4.1.t.AirTemp.X, s4.1.t.AirTemp.Y⟩ : SCurve), (⟨s4.1.t.Dwell.X, s4.1.t.Dwell.Y⟩ : SCurve), (⟨s4.1.t.Dead.X, s4.1.t.Dead.Y⟩ : SCurve), (⟨s4.1.t.Efficiency.X, s4.1.t.Efficiency.Y⟩ : SCurve), (⟨s4.1.t.Idle.P, s4.1.t.Idle.I, s4.1.t.Idle.Low, s4.1.t.Idle.High⟩ : SGain)⟩ : STables)) (⟨s4.1.e.Order, s4.1.e.First⟩ : SEngine)) (⟨s4.1.b.Inertia, s4.1.b.Friction, s4.1.b.Volume, s4.1.b.Throttle, s4.1.b.Film, s4.1.b.Evaporate, s4.1.b.Delay⟩ : SBody)) (u11_5 (u11_3 (u11_1 (u11_0 s4.1.c (⟨s4.1.c.Pedal.Value, s4.1.c.Pedal.Differ, s4.1.c.Pedal.Fault⟩ : SPedal)) (⟨s4.1.c.Idle.Sum⟩ : SIntegral)) (⟨s4.1.c.Probe.Active, s4.1.c.Probe.Rich, s4.1.c.Probe.Factor, s4.1.c.Probe.Wait, s4.1.c.Probe.Cells⟩ : SProbe)) s5.2.1)) (⟨s4.1.i.Pedal1, s4.1.i.Pedal2, s4.1.i.Speed, s4.1.i.Pressure, s4.1.i.AirTemp, s4.1.i.Voltage, s4.1.i.Lambda, s4.1.i.Coolant, s4.1.i.Intensity, s4.1.i.Requests⟩ : SInputs)) (⟨s4.1.out.Throttle, s4.1.out.Fires, s4.1.out.Torque⟩ : SOutputs)) s5.1) rfl rfl rfl rfl rfl rfl rfl (fun _ => rfl) (fun _ => rfl) (fun _ => rfl) (fun _ => .of rfl rfl) fun v7 hv7 => ?_))))
 exact TieO.nil (.region (.run 11 rfl (.nil (.leaf ⟨.inr rfl, ⟨[(1000000, 1000000), (1000001, 1000001)], _, _, rfl, rfl, rfl, rfl, rfl⟩⟩))))
set_option maxRecDepth 100000 in
theorem q386 (i : Int) (c : STables) (c2 : Int) (c3 : Int) (c4 : Int) : TieF Tryz.prog 225 [.t (tI i), .el (q28 c), .el (Pv.encI c2), .el (Pv.encI c3), .el (Pv.encI c4)] (q130 i c c2 c3 c4) (fun r => .t (tB r)) := by
 refine TieF.intro htab 16 [.tmp 6] Tryz.call225 Tryz.func225 rfl rfl rfl (Nat.le_of_ble_eq_true rfl) fun w0 L => ?_
 refine TieS.seq (.region (.run 1 rfl (.nil (.seq ?_))))
 exact TieX.pre fun v hv => TieS.draw 10 [_, _, _, _, _, _, _, _, _, _] [(0, .t (tI i)), (1, .el (q28 c)), (2, .el (Pv.encI c2)), (3, .el (Pv.encI c3)), (4, .el (Pv.encI c4))] [] mixed (.of rfl rfl) rfl rfl rfl rfl (.cons (.quiet rfl rfl rfl) (.cons (.quiet rfl rfl rfl) (.cons (.quiet rfl rfl rfl) (.cons (.quiet rfl rfl rfl) (.cons (.quiet rfl rfl rfl) (.cons (.quiet rfl rfl rfl) (.cons (.callV (q148 c.Torque c2 (w64 (c3 + i))) hv rfl rfl rfl rfl) (.cons (.quiet rfl rfl rfl) (.cons (.quiet rfl rfl rfl) (.cons (.quiet rfl rfl rfl) (.nil))))))))))) (.nil (.ret ⟨.inl rfl, rfl⟩))
set_option maxRecDepth 100000 in
theorem q411 (t2 : STables) (speed : Int) (torque : Int) : TieF Tryz.prog 164 [q29 t2, .t (tI speed), .t (tI torque)] (q161 t2 speed torque) (fun r => .tup [.t (tI r.1), .t (tI r.2)]) := by
 refine TieF.intro htab 46 [.tmp 6, .tmp 7] Tryz.call164 Tryz.func164 rfl rfl rfl (Nat.le_of_ble_eq_true rfl) fun w0 L => ?_
 refine TieS.seq (.region (.run 5 rfl (.nil (.seq ?_))))
 refine TieS.block (.seq (.region (.run 1 rfl (.call _ rfl rfl rfl (q236 t2) (fun _ => rfl) fun v => ?_))))
 refine TieO.run 2 rfl (.nil (.cond rfl ?_ ?_))
 ·exact TieS.seq (.region (.run 2 rfl (.nil (.ret ⟨.inl rfl, rfl⟩))))
 ·refine TieS.seq (.region (.run 1 rfl (.call _ rfl rfl rfl (q30 speed 0 12000) (fun _ => rfl) fun v2 => .run 2 rfl ?_)))
  refine TieO.nil (.cond rfl ?_ ?_)
  ·exact TieS.seq (.region (.run 2 rfl (.nil (.ret ⟨.inl rfl, rfl⟩))))
  ·refine TieS.skip (.endb (.seq (.region (.run 3 rfl ?_))))
   refine TieO.index rfl rfl rfl rfl rfl rfl rfl rfl (fun _ => rfl) fun x hx => .run 3 rfl (.nil (.seq (TieX.pre fun x2 hx2 => ?_)))
   refine TieS.draw 14 [_, _, _, _, _, _, _, _, _, _, _, _, _, _] [(3, .ptr 3 0), (4, .ptr 4 0), (5, .ptr 5 0), (8, .ptr 8 0)] [(3, .box (q14 t2)), (4, .box [.t (tI speed)]), (5, .box [.t (tI torque)]), (8, .box [.t (tI x)])] mixed (.of rfl rfl) rfl rfl rfl rfl (.cons (.quiet rfl rfl rfl) (.cons (.quiet rfl rfl rfl) (.cons (.quiet rfl rfl rfl) (.cons (.quiet rfl rfl rfl) (.cons (.quiet rfl rfl rfl) (.cons (.quiet rfl rfl rfl) (.cons (.quiet rfl rfl rfl) (.cons (.quiet rfl rfl rfl) (.cons (.index hx2 rfl rfl rfl rfl rfl rfl (fun _ => rfl)) (.cons (.quiet rfl rfl rfl) (.cons (.quiet rfl rfl rfl) (.cons (.quiet rfl rfl rfl) (.cons (.quiet rfl rfl rfl) (.cons (.quiet rfl rfl rfl) (.nil))))))))))))))) (.nil (.seq (.region (.run 1 rfl ?_))))
   refine TieO.frzBox 3 rfl rfl (.frzBox 4 rfl rfl (.frzBox 8 rfl rfl (.frzBox 5 rfl rfl (.run 1 rfl ?_))))
   refine TieO.sub (σ' := ⟨[(3, .el (q28 t2)), (4, .el (Pv.encI speed)), (5, .el (Pv.encI torque)), (8, .el (Pv.encI x)), (9, .t (tI (w64 ((w64 (x2 - x)) + 1)))), (24, .el (List.drop 6 (q28 t2))), (25, .el (List.drop 7 (q28 t2))), (26, .t (tS Pv.encI t2.Torque.Y)), (27, .el (List.drop 6 (q28 t2))), (28, .el (List.drop 7 (q28 t2))), (29, .t (tS Pv.encI t2.Torque.Y)), (30, .t (tI (t2.Torque.Y.length : Int))), (31, .t (tI (w64 ((t2.Torque.Y.length : Int) - 1)))), (32, .el (Pv.encI x2)), (33, .t (tI x2)), (34, .t (tI x)), (35, .t (tI (w64 (x2 - x)))), (36, .t (tI (w64 ((w64 (x2 - x)) + 1)))), (37, .t (tI (w64 ((w64 (x2 - x)) + 1)))), (38, .fz 225 [q28 t2, Pv.encI speed, Pv.encI x, Pv.encI torque])], []⟩) (.of rfl rfl) (.call _ rfl rfl rfl (q91 (w64 ((w64 (x2 - x)) + 1)) 225 [q28 t2, Pv.encI speed, Pv.encI x, Pv.encI torque] (fun x0 => q130 x0 t2 speed x torque) (fun x0 => q386 x0 t2 speed x torque)) (fun _ => rfl) fun v3 => .run 1 rfl (.nil (.seq ?_)))
   refine TieS.seq (.region (.run 3 rfl (.nil (.cond rfl ?_ ?_))))
   ·exact TieS.seq (.region (.run 2 rfl (.nil (.ret ⟨.inl rfl, rfl⟩))))
   ·refine TieS.skip (.seq (.region (.run 5 rfl (.nil ?_))))
    exact TieS.ret ⟨.inl rfl, rfl⟩
set_option maxRecDepth 100000 in
theorem q271 (x : Int) (e2 : Int) (other : Int) : TieF Tryz.prog 165 [.t (tI x), .t (tI e2), .t (tI other)] (q194 x e2 other) (fun r => .t (tI r)) := by
 refine TieF.intro htab 11 [.tmp 6] Tryz.call165 Tryz.func165 rfl rfl rfl (Nat.le_of_ble_eq_true rfl) fun w0 L => ?_
 refine TieS.seq (.region (.run 1 rfl (.nil (.seq ?_))))
 refine TieS.seq (.region (.run 2 rfl (.nil (.cond rfl ?_ ?_))))
 ·exact TieS.seq (.region (.run 2 rfl (.nil (.ret ⟨.inl rfl, rfl⟩))))
 ·refine TieS.skip (.seq (.region (.run 2 rfl (.nil ?_))))
  exact TieS.ret ⟨.inl rfl, rfl⟩
set_option maxRecDepth 100000 in
theorem q379 (i : Int) (c : SCurve) (c2 : Int) : TieF Tryz.prog 291 [.t (tI i), .el (q60 c), .el (Pv.encI c2)] (q125 i c c2) (fun r => .t (tB r)) := by
 refine TieF.intro htab 12 [.tmp 4] Tryz.call291 Tryz.func291 rfl rfl rfl (Nat.le_of_ble_eq_true rfl) fun w0 L => ?_
 refine TieS.seq (.region (.run 1 rfl (.nil (.seq ?_))))
 exact TieX.pre fun x hx => TieS.draw 8 [_, _, _, _, _, _, _, _] [(0, .t (tI i)), (1, .el (q60 c)), (2, .el (Pv.encI c2))] [] mixed (.of rfl rfl) rfl rfl rfl rfl (.cons (.quiet rfl rfl rfl) (.cons (.quiet rfl rfl rfl) (.cons (.quiet rfl rfl rfl) (.cons (.index hx rfl rfl rfl rfl rfl rfl (fun _ => rfl)) (.cons (.quiet rfl rfl rfl) (.cons (.quiet rfl rfl rfl) (.cons (.quiet rfl rfl rfl) (.cons (.quiet rfl rfl rfl) (.nil))))))))) (.nil (.ret ⟨.inl rfl, rfl⟩))
set_option maxRecDepth 100000 in
theorem q415 (c : SCurve) (x : Int) : TieF Tryz.prog 269 [q234 c, .t (tI x)] (q225 c x) (fun r => .t (tI r)) := by
 refine TieF.intro htab 11 [.tmp 4] Tryz.call269 Tryz.func269 rfl rfl rfl (Nat.le_of_ble_eq_true rfl) fun w0 L => ?_
 refine TieS.seq (.region (.run 3 rfl (.nil (.seq ?_))))
 refine TieS.region (.run 3 rfl (.frzBox 2 rfl rfl (.frzBox 3 rfl rfl (.run 1 rfl ?_))))
 exact TieO.sub (σ' := ⟨[(0, .agg [.t (tS Pv.encI c.X), .t (tS Pv.encI c.Y)]), (1, .t (tI x)), (2, .el (q60 c)), (3, .el (Pv.encI x)), (4, .t (tI 0)), (5, .el (q60 c)), (6, .t (tS Pv.encI c.X)), (7, .t (tI (c.X.length : Int))), (8, .fz 291 [q60 c, Pv.encI x])], []⟩) (.of rfl rfl) (.call _ rfl rfl rfl (q91 (c.X.length : Int) 291 [q60 c, Pv.encI x] (fun x0 => q125 x0 c x) (fun x0 => q379 x0 c x)) (fun _ => rfl) fun v => .run 2 rfl (.nil (.ret ⟨.inl rfl, rfl⟩)))
set_option maxRecDepth 100000 in
theorem q446 (c : SCurve) (x : Int) : TieF Tryz.prog 248 [q234 c, .t (tI x)] (q273 c x) (fun r => .t (tI r)) := by
 refine TieF.intro htab 78 [.tmp 4] Tryz.call248 Tryz.func248 rfl rfl rfl (Nat.le_of_ble_eq_true rfl) fun w0 L => ?_
 refine TieS.seq (.region (.run 2 rfl (.nil (.seq ?_))))
 refine TieS.region (.run 4 rfl (.nil (.seq (.block ?_))))
 refine TieS.seq (.region (.run 3 rfl (.index rfl rfl rfl rfl rfl rfl rfl rfl (fun _ => rfl) fun x2 hx2 => .run 3 rfl ?_)))
 refine TieO.nil (.cond rfl ?_ ?_)
 ·refine TieS.seq (.region (.run 2 rfl (.index rfl rfl rfl rfl rfl rfl rfl rfl (fun _ => rfl) fun x3 hx3 => .run 2 rfl ?_)))
  exact TieO.nil (.ret ⟨.inl rfl, rfl⟩)
 ·refine TieS.seq (.region (.run 5 rfl (.index rfl rfl rfl rfl rfl rfl rfl rfl (fun _ => rfl) fun x4 hx4 => .run 3 rfl ?_)))
  refine TieO.nil (.cond rfl ?_ ?_)
  ·refine TieS.seq (.region (.run 4 rfl (.index rfl rfl rfl rfl rfl rfl rfl rfl (fun _ => rfl) fun x5 hx5 => .run 2 rfl ?_)))
   exact TieO.nil (.ret ⟨.inl rfl, rfl⟩)
  ·refine TieS.skip (.endb (.seq (.region (.run 2 rfl ?_))))
   refine TieO.call _ rfl rfl rfl (q415 c x) (fun _ => rfl) fun v => .run 1 rfl (.nil (.seq (TieX.pre fun x6 hx6 => ?_)))
   refine TieX.pre fun x7 hx7 => TieX.pre fun x8 hx8 => TieX.pre fun x9 hx9 => TieX.pre fun v2 hv2 => TieS.draw 40 [_, _, _, _, _, _, _, _, _, _, _, _, _, _, _, _, _, _, _, _, _, _, _, _, _, _, _, _, _, _, _, _, _, _, _, _, _, _, _, _] [(1, .t (tI x)), (2, .ptr 2 0), (6, .t (tI v))] [(2, .box [.t (tS Pv.encI c.X), .t (tS Pv.encI c.Y)])] mixed (.of rfl rfl) rfl rfl rfl rfl (.cons (.quiet rfl rfl rfl) (.cons (.quiet rfl rfl rfl) (.cons (.quiet rfl rfl rfl) (.cons (.index hx6 rfl rfl rfl rfl rfl rfl (fun _ => rfl)) (.cons (.quiet rfl rfl rfl) (.cons (.quiet rfl rfl rfl) (.cons (.quiet rfl rfl rfl) (.cons (.quiet rfl rfl rfl) (.cons (.quiet rfl rfl rfl) (.cons (.index hx7 rfl rfl rfl rfl rfl rfl (fun _ => rfl)) (.cons (.quiet rfl rfl rfl) (.cons (.quiet rfl rfl rfl) (.cons (.quiet rfl rfl rfl) (.cons (.quiet rfl rfl rfl) (.cons (.quiet rfl rfl rfl) (.cons (.quiet rfl rfl rfl) (.cons (.index hx8 rfl rfl rfl rfl rfl rfl (fun _ => rfl)) (.cons (.quiet rfl rfl rfl) (.cons (.quiet rfl rfl rfl) (.cons (.quiet rfl rfl rfl) (.cons (.quiet rfl rfl rfl) (.cons (.index hx6 rfl rfl rfl rfl rfl rfl (fun _ => rfl)) (.cons (.quiet rfl rfl rfl) (.cons (.quiet rfl rfl rfl) (.cons (.quiet rfl rfl rfl) (.cons (.quiet rfl rfl rfl) (.cons (.quiet rfl rfl rfl) (.cons (.quiet rfl rfl rfl) (.cons (.quiet rfl rfl rfl) (.cons (.index hx9 rfl rfl rfl rfl rfl rfl (fun _ => rfl)) (.cons (.quiet rfl rfl rfl) (.cons (.quiet rfl rfl rfl) (.cons (.quiet rfl rfl rfl) (.cons (.quiet rfl rfl rfl) (.cons (.index hx7 rfl rfl rfl rfl rfl rfl (fun _ => rfl)) (.cons (.quiet rfl rfl rfl) (.cons (.quiet rfl rfl rfl) (.cons (.callV (q178 (w64 ((w64 (x - x7)) * (w64 (x8 - x6)))) (w64 (x9 - x7))) hv2 rfl rfl rfl rfl) (.cons (.quiet rfl rfl rfl) (.cons (.quiet rfl rfl rfl) (.nil))))))))))))))))))))))))))))))))))))))))) ?_
   exact TieO.nil (.ret ⟨.inl rfl, rfl⟩)
set_option maxRecDepth 100000 in
theorem q257 (c : SCurve) (x : Int) : TieF Tryz.prog 204 [q234 c, .t (tI x)] (q136 c x) (fun r => .t (tI r)) := by
 refine TieF.intro htab 11 [.tmp 4] Tryz.call204 Tryz.func204 rfl rfl rfl (Nat.le_of_ble_eq_true rfl) fun w0 L => ?_
 refine TieS.seq (.region (.run 2 rfl (.nil (.seq ?_))))
 refine TieS.seq (.region (.run 1 rfl (.call _ rfl rfl rfl (q57 c) (fun _ => rfl) fun v => .run 1 rfl ?_)))
 refine TieO.nil (.cond rfl ?_ ?_)
 ·exact TieS.seq (.region (.run 1 rfl (.nil (.ret ⟨.inl rfl, rfl⟩))))
 ·refine TieS.skip (.seq (.region (.run 2 rfl (.call _ rfl rfl rfl (q446 c x) (fun _ => rfl) fun v2 => ?_))))
  exact TieO.run 1 rfl (.nil (.ret ⟨.inl rfl, rfl⟩))
set_option maxRecDepth 100000 in
theorem q361 (t2 : STables) (speed : Int) (pressure : Int) (temperature : Int) : TieF Tryz.prog 227 [q29 t2, .t (tI speed), .t (tI pressure), .t (tI temperature)] (q251 t2 speed pressure temperature) (fun r => .t (tI r)) := by
 refine TieF.intro htab 21 [.tmp 8] Tryz.call227 Tryz.func227 rfl rfl rfl (Nat.le_of_ble_eq_true rfl) fun w0 L => ?_
 refine TieS.seq (.region (.run 2 rfl (.nil (.seq ?_))))
 refine TieX.pre fun v hv => TieX.pre fun v2 hv2 => TieX.pre fun v3 hv3 => TieS.draw 13 [_, _, _, _, _, _, _, _, _, _, _, _, _] [(1, .t (tI speed)), (2, .t (tI pressure)), (3, .t (tI temperature)), (4, .ptr 4 0)] [(4, .box (q14 t2))] mixed (.of rfl rfl) rfl rfl rfl rfl (.cons (.quiet rfl rfl rfl) (.cons (.quiet rfl rfl rfl) (.cons (.quiet rfl rfl rfl) (.cons (.quiet rfl rfl rfl) (.cons (.callV (q148 t2.Air speed pressure) hv rfl rfl rfl rfl) (.cons (.quiet rfl rfl rfl) (.cons (.quiet rfl rfl rfl) (.cons (.quiet rfl rfl rfl) (.cons (.callV (q257 t2.AirTemp temperature) hv2 rfl rfl rfl rfl) (.cons (.quiet rfl rfl rfl) (.cons (.callV (q178 (w64 (v * v2)) 1000) hv3 rfl rfl rfl rfl) (.cons (.quiet rfl rfl rfl) (.cons (.quiet rfl rfl rfl) (.nil)))))))))))))) (.nil ?_)
 exact TieS.ret ⟨.inl rfl, rfl⟩
set_option maxRecDepth 100000 in
theorem q389 (k : Int) (c : STables) (c2 : Int) (c3 : Int) (c4 : Int) : TieF Tryz.prog 226 [.t (tI k), .el (q28 c), .el (Pv.encI c2), .el (Pv.encI c3), .el (Pv.encI c4)] (q108 k c c2 c3 c4) (fun r => .t (tB r)) := by
 refine TieF.intro htab 15 [.tmp 6] Tryz.call226 Tryz.func226 rfl rfl rfl (Nat.le_of_ble_eq_true rfl) fun w0 L => ?_
 refine TieS.seq (.region (.run 1 rfl (.nil (.seq ?_))))
 exact TieX.pre fun v hv => TieS.draw 9 [_, _, _, _, _, _, _, _, _] [(0, .t (tI k)), (1, .el (q28 c)), (2, .el (Pv.encI c2)), (3, .el (Pv.encI c3)), (4, .el (Pv.encI c4))] [] mixed (.of rfl rfl) rfl rfl rfl rfl (.cons (.quiet rfl rfl rfl) (.cons (.quiet rfl rfl rfl) (.cons (.quiet rfl rfl rfl) (.cons (.quiet rfl rfl rfl) (.cons (.quiet rfl rfl rfl) (.cons (.callV (q361 c c2 (w64 (50 + k)) c3) hv rfl rfl rfl rfl) (.cons (.quiet rfl rfl rfl) (.cons (.quiet rfl rfl rfl) (.cons (.quiet rfl rfl rfl) (.nil)))))))))) (.nil (.ret ⟨.inl rfl, rfl⟩))
set_option maxRecDepth 100000 in
theorem q433 (t2 : STables) (speed : Int) (want : Int) (temperature : Int) : TieF Tryz.prog 166 [q29 t2, .t (tI speed), .t (tI want), .t (tI temperature)] (q186 t2 speed want temperature) (fun r => .tup [.t (tI r.1), .t (tI r.2)]) := by
 refine TieF.intro htab 35 [.tmp 8, .tmp 9] Tryz.call166 Tryz.func166 rfl rfl rfl (Nat.le_of_ble_eq_true rfl) fun w0 L => ?_
 refine TieS.seq (.region (.run 6 rfl (.nil (.seq ?_))))
 refine TieS.block (.seq (.region (.run 1 rfl (.call _ rfl rfl rfl (q293 t2) (fun _ => rfl) fun v => ?_))))
 refine TieO.run 2 rfl (.nil (.cond rfl ?_ ?_))
 ·exact TieS.seq (.region (.run 2 rfl (.nil (.ret ⟨.inl rfl, rfl⟩))))
 ·refine TieS.seq (.region (.run 1 rfl (.call _ rfl rfl rfl (q26 speed 0 12000) (fun _ => rfl) fun v2 => .run 2 rfl ?_)))
  refine TieO.bind 4 (fun b2 => ⟨[(4, .ptr 4 0), (5, .ptr 5 0), (6, .ptr 6 0), (7, .ptr 7 0), (23, .t (tB b2))], [(4, .box (q14 t2)), (5, .box [.t (tI speed)]), (6, .box [.t (tI want)]), (7, .box [.t (tI temperature)])]⟩) (TieO.split 19 rfl ?_ ?_) fun b2 _ => ?_
  ·exact TieO.run 4 rfl (.nil (.leaf ⟨rfl, .of rfl rfl⟩))
  ·exact TieO.run 1 rfl (.call _ rfl rfl rfl (q26 want 0 1048576) (fun _ => rfl) fun v3 => .run 2 rfl (.nil (.leaf ⟨rfl, .of rfl rfl⟩)))
  refine TieO.run 1 rfl (.bind 4 (fun b3 => ⟨[(4, .ptr 4 0), (5, .ptr 5 0), (6, .ptr 6 0), (7, .ptr 7 0), (28, .t (tB b3))], [(4, .box (q14 t2)), (5, .box [.t (tI speed)]), (6, .box [.t (tI want)]), (7, .box [.t (tI temperature)])]⟩) (TieO.split 24 rfl ?_ ?_) fun b3 _ => ?_)
  ·exact TieO.run 4 rfl (.nil (.leaf ⟨rfl, .of rfl rfl⟩))
  ·exact TieO.run 1 rfl (.call _ rfl rfl rfl (q26 temperature (-40) 150) (fun _ => rfl) fun v4 => .run 2 rfl (.nil (.leaf ⟨rfl, .of rfl rfl⟩)))
  refine TieO.run 1 rfl (.nil (.cond rfl ?_ ?_))
  ·exact TieS.seq (.region (.run 2 rfl (.nil (.ret ⟨.inl rfl, rfl⟩))))
  ·refine TieS.skip (.endb (.seq (.region (.frzBox 4 rfl rfl ?_))))
   refine TieO.frzBox 5 rfl rfl (.frzBox 7 rfl rfl (.frzBox 6 rfl rfl (.run 1 rfl (.sub (σ' := ⟨[(4, .el (q28 t2)), (5, .el (Pv.encI speed)), (6, .el (Pv.encI want)), (7, .el (Pv.encI temperature)), (15, .t (tB b3)), (28, .t (tB b3)), (29, .fz 226 [q28 t2, Pv.encI speed, Pv.encI temperature, Pv.encI want])], []⟩) (.of rfl rfl) ?_))))
   refine TieO.call _ rfl rfl rfl (q91 2951 226 [q28 t2, Pv.encI speed, Pv.encI temperature, Pv.encI want] (fun x0 => q108 x0 t2 speed temperature want) (fun x0 => q389 x0 t2 speed temperature want)) (fun _ => rfl) fun v5 => .run 2 rfl (.nil (.seq (.seq ?_)))
   refine TieS.region (.run 2 rfl (.nil (.cond rfl ?_ ?_)))
   ·exact TieS.seq (.region (.run 2 rfl (.nil (.ret ⟨.inl rfl, rfl⟩))))
   ·refine TieS.skip (.seq (.region (.run 3 rfl (.nil ?_))))
    exact TieS.ret ⟨.inl rfl, rfl⟩
set_option maxRecDepth 100000 in
theorem q405 (rpm : Int) : TieF Tryz.prog 228 [.t (tI rpm)] (q270 rpm) (fun r => .tup [.t (tI r.1), .t (tI r.2)]) := by
 refine TieF.intro htab 16 [.tmp 2, .tmp 3] Tryz.call228 Tryz.func228 rfl rfl rfl (Nat.le_of_ble_eq_true rfl) fun w0 L => ?_
 refine TieS.seq (.region (.run 2 rfl (.nil (.seq ?_))))
 refine TieS.seq (.region (.run 3 rfl (.selOr (v := decide (rpm > 20000)) 3 6 (fun b => ⟨[(0, .t (tI rpm)), (9, .t (tB b))], []⟩) rfl ?_ ?_ ?_)))
 ·exact TieO.run 3 rfl (.nil (.leaf ⟨rfl, .of rfl rfl⟩))
 ·exact TieO.run 3 rfl (.nil (.leaf ⟨rfl, .of rfl rfl⟩))
 refine TieO.nil (.cond rfl ?_ ?_)
 ·exact TieS.seq (.region (.run 2 rfl (.nil (.ret ⟨.inl rfl, rfl⟩))))
 ·refine TieS.skip (.seq (.region (.run 3 rfl (.call _ rfl rfl rfl (q294 (w64 ((w64 (rpm * 65536)) * 23040)) 60000000 2) (fun _ => rfl) fun r2 => ?_))))
  exact TieO.run 4 rfl (.nil (.ret ⟨.inl rfl, rfl⟩))
set_option maxRecDepth 100000 in
theorem q499 (speed : Int) (pressure : Int) : TieF Tryz.prog 167 [.t (tI speed), .t (tI pressure)] (q368 speed pressure) (fun r => .tup [.t (tI r.1), .t (tI r.2)]) := by
 refine TieF.intro htab 26 [.tmp 4, .tmp 5] Tryz.call167 Tryz.func167 rfl rfl rfl (Nat.le_of_ble_eq_true rfl) fun w0 L => ?_
 refine TieS.seq (.region (.run 2 rfl (.nil (.seq ?_))))
 refine TieS.seq (.region (.run 1 rfl (.call _ rfl rfl rfl (q26 speed 0 12000) (fun _ => rfl) fun v => .run 2 rfl ?_)))
 refine TieO.bind 4 (fun b2 => ⟨[(0, .t (tI speed)), (1, .t (tI pressure)), (15, .t (tB b2))], []⟩) (TieO.split 11 rfl ?_ ?_) fun b2 _ => ?_
 ·exact TieO.run 4 rfl (.nil (.leaf ⟨rfl, .of rfl rfl⟩))
 ·exact TieO.run 1 rfl (.call _ rfl rfl rfl (q26 pressure 50 3000) (fun _ => rfl) fun v2 => .run 2 rfl (.nil (.leaf ⟨rfl, .of rfl rfl⟩)))
 refine TieO.nil (.cond rfl ?_ ?_)
 ·exact TieS.seq (.region (.run 2 rfl (.nil (.ret ⟨.inl rfl, rfl⟩))))
 ·refine TieS.skip (.seq (.region (.run 1 rfl (.call _ rfl rfl rfl (q405 speed) (fun _ => rfl) fun r2 => ?_))))
  refine TieO.run 5 rfl (.nil (.seq (.region (.run 7 rfl ?_))))
  exact TieO.nil (.ret ⟨.inl rfl, rfl⟩)
set_option maxRecDepth 100000 in
theorem q400 (k : Int) (c : SBody) (c2 : Int) (c3 : Int) : TieF Tryz.prog 229 [.t (tI k), .el (q126 c), .el (Pv.encI c2), .el (Pv.encI c3)] (q104 k c c2 c3) (fun r => .t (tB r)) := by
 refine TieF.intro htab 16 [.tmp 5] Tryz.call229 Tryz.func229 rfl rfl rfl (Nat.le_of_ble_eq_true rfl) fun w0 L => ?_
 refine TieS.seq (.region (.run 1 rfl (.nil (.seq ?_))))
 exact TieS.region (.run 11 rfl (.nil (.ret ⟨.inl rfl, rfl⟩)))
set_option maxRecDepth 100000 in
theorem q432 (b2 : SBody) (flow : Int) (pressure : Int) : TieF Tryz.prog 168 [A_SBody b2, .t (tI flow), .t (tI pressure)] (q190 b2 flow pressure) (fun r => .tup [.t (tI r.1), .t (tI r.2)]) := by
 refine TieF.intro htab 27 [.tmp 6, .tmp 7] Tryz.call168 Tryz.func168 rfl rfl rfl (Nat.le_of_ble_eq_true rfl) fun w0 L => ?_
 refine TieS.seq (.region (.run 5 rfl (.nil (.seq ?_))))
 refine TieS.block (.seq (.region (.run 1 rfl (.call _ rfl rfl rfl (q342 b2) (fun _ => rfl) fun v => ?_))))
 refine TieO.run 2 rfl (.nil (.cond rfl ?_ ?_))
 ·exact TieS.seq (.region (.run 2 rfl (.nil (.ret ⟨.inl rfl, rfl⟩))))
 ·refine TieS.seq (.region (.run 1 rfl (.call _ rfl rfl rfl (q26 flow 0 1099511627776) (fun _ => rfl) fun v2 => .run 2 rfl ?_)))
  refine TieO.bind 4 (fun b3 => ⟨[(3, .ptr 3 0), (4, .ptr 4 0), (5, .ptr 5 0), (21, .t (tB b3))], [(3, .box [.t (tI b2.Inertia), .t (tI b2.Friction), .t (tI b2.Volume), .t (tI b2.Throttle), .t (tI b2.Film), .t (tI b2.Evaporate), .t (tI b2.Delay)]), (4, .box [.t (tI flow)]), (5, .box [.t (tI pressure)])]⟩) (TieO.split 17 rfl ?_ ?_) fun b3 _ => ?_
  ·exact TieO.run 4 rfl (.nil (.leaf ⟨rfl, .of rfl rfl⟩))
  ·exact TieO.run 1 rfl (.call _ rfl rfl rfl (q26 pressure 50 1013) (fun _ => rfl) fun v3 => .run 2 rfl (.nil (.leaf ⟨rfl, .of rfl rfl⟩)))
  refine TieO.run 1 rfl (.nil (.cond rfl ?_ ?_))
  ·exact TieS.seq (.region (.run 2 rfl (.nil (.ret ⟨.inl rfl, rfl⟩))))
  ·refine TieS.skip (.endb (.seq (.region (.frzBox 3 rfl rfl ?_))))
   refine TieO.frzBox 5 rfl rfl (.frzBox 4 rfl rfl (.run 1 rfl (.sub (σ' := ⟨[(3, .el (q126 b2)), (4, .el (Pv.encI flow)), (5, .el (Pv.encI pressure)), (13, .t (tB b3)), (21, .t (tB b3)), (22, .fz 229 [q126 b2, Pv.encI pressure, Pv.encI flow])], []⟩) (.of rfl rfl) (.call _ rfl rfl rfl (q91 1001 229 [q126 b2, Pv.encI pressure, Pv.encI flow] (fun x0 => q104 x0 b2 pressure flow) (fun x0 => q400 x0 b2 pressure flow)) (fun _ => rfl) fun v4 => ?_))))
   refine TieO.run 1 rfl (.nil (.seq (.seq (.region ?_))))
   refine TieO.run 2 rfl (.nil (.cond rfl ?_ ?_))
   ·exact TieS.seq (.region (.run 2 rfl (.nil (.ret ⟨.inl rfl, rfl⟩))))
   ·refine TieS.skip (.seq (.region (.run 3 rfl (.nil ?_))))
    exact TieS.ret ⟨.inl rfl, rfl⟩
set_option maxRecDepth 100000 in
theorem q314 (s : Scontrol_step) : TieG Tryz.prog 83 [.ptr 1000000 0] [(1000000, .box (lset (q10 s) [(63, .own 1000001)])), (1000001, .rows 79 7 s.out.Fires.length (s.out.Fires.map q12))] (q92 s) (fun _ => .tup []) (fun r => [(1000000, .box (lset (q10 r) [(63, .own 1000001)])), (1000001, .rows 79 7 r.out.Fires.length (r.out.Fires.map q12))]) := by
 refine TieG.intro htab 83 [] Tryz.call83 Tryz.func83 rfl rfl rfl (Nat.le_of_ble_eq_true rfl) fun w0 L => ?_
 refine TieS.seq (TieX.pre fun r2 hr2 => TieS.draw 19 [_, _, _, _, _, _, _, _, _, _, _, _, _, _, _, _, _, _, _] [(0, .ptr 1000000 0)] [(1000000, .box (lset (q10 s) [(63, .own 1000001)])), (1000001, .rows 79 7 s.out.Fires.length (s.out.Fires.map q12))] mixed (.of rfl rfl) rfl rfl rfl rfl (.cons (.quiet rfl rfl rfl) (.cons (.quiet rfl rfl rfl) (.cons (.quiet rfl rfl rfl) (.cons (.quiet rfl rfl rfl) (.cons (.quiet rfl rfl rfl) (.cons (.quiet rfl rfl rfl) (.cons (.quiet rfl rfl rfl) (.cons (.quiet rfl rfl rfl) (.cons (.quiet rfl rfl rfl) (.cons (.quiet rfl rfl rfl) (.cons (.quiet rfl rfl rfl) (.cons (.quiet rfl rfl rfl) (.cons (.quiet rfl rfl rfl) (.cons (.callV (q411 s.t s.i.Speed s.wanted) hr2 rfl rfl rfl rfl) (.cons (.quiet rfl rfl rfl) (.cons (.quiet rfl rfl rfl) (.cons (.quiet rfl rfl rfl) (.cons (.quiet rfl rfl rfl) (.cons (.quiet rfl rfl rfl) (.nil)))))))))))))))))))) (.nil (.seq ?_)))
 refine TieS.region (.run 2 rfl (.call _ rfl rfl rfl (q271 r2.1 r2.2 1048576) (fun _ => rfl) fun v => .run 2 rfl (.nil ?_)))
 refine TieS.seq (TieX.pre fun r3 hr3 => TieS.draw 21 [_, _, _, _, _, _, _, _, _, _, _, _, _, _, _, _, _, _, _, _, _] [(0, .ptr 1000000 0), (4, .t (tI (maxI 0 v)))] [(1000000, .box (lset (q10 s) [(63, .own 1000001)])), (1000001, .rows 79 7 s.out.Fires.length (s.out.Fires.map q12))] mixed (.of rfl rfl) rfl rfl rfl rfl (.cons (.quiet rfl rfl rfl) (.cons (.quiet rfl rfl rfl) (.cons (.quiet rfl rfl rfl) (.cons (.quiet rfl rfl rfl) (.cons (.quiet rfl rfl rfl) (.cons (.quiet rfl rfl rfl) (.cons (.quiet rfl rfl rfl) (.cons (.quiet rfl rfl rfl) (.cons (.quiet rfl rfl rfl) (.cons (.quiet rfl rfl rfl) (.cons (.quiet rfl rfl rfl) (.cons (.quiet rfl rfl rfl) (.cons (.quiet rfl rfl rfl) (.cons (.quiet rfl rfl rfl) (.cons (.quiet rfl rfl rfl) (.cons (.callV (q433 s.t s.i.Speed (maxI 0 v) s.i.AirTemp) hr3 rfl rfl rfl rfl) (.cons (.quiet rfl rfl rfl) (.cons (.quiet rfl rfl rfl) (.cons (.quiet rfl rfl rfl) (.cons (.quiet rfl rfl rfl) (.cons (.quiet rfl rfl rfl) (.nil)))))))))))))))))))))) (.nil (.seq ?_)))
 refine TieS.region (.run 2 rfl (.call _ rfl rfl rfl (q271 r3.1 r3.2 3000) (fun _ => rfl) fun v2 => .run 2 rfl (.nil ?_)))
 refine TieS.seq (.region (.run 6 rfl (.call _ rfl rfl rfl (q499 s.i.Speed (minI 1012 v2)) (fun _ => rfl) fun r4 => .run 5 rfl ?_)))
 refine TieO.nil (.seq (.region (.run 2 rfl (.callG [(1000000, 1000000), (1000001, 1000001)] [] (fun v3 => ⟨[(0, .ptr 1000000 0), (3, .t (tI r4.2)), (4, .t (tI (maxI 0 v))), (5, .t (tI r3.1)), (6, .t (tI (minI 1012 v2))), (7, .t (tI r4.1)), (30, .tup [.t (tI r3.1), .t (tI r3.2)]), (31, .ptr 1000000 0), (32, .ptr 1000000 0), (33, .ptr 1000000 0), (34, .agg [.t (tS Pv.encI s.t.Air.X), .t (tS Pv.encI s.t.Air.Y), .t (tS (Pv.encS Pv.encI) s.t.Air.Z), .t (tS Pv.encI s.t.Spark.X), .t (tS Pv.encI s.t.Spark.Y), .t (tS (Pv.encS Pv.encI) s.t.Spark.Z), .t (tS Pv.encI s.t.Torque.X), .t (tS Pv.encI s.t.Torque.Y), .t (tS (Pv.encS Pv.encI) s.t.Torque.Z), .t (tS Pv.encI s.t.Wish.X), .t (tS Pv.encI s.t.Wish.Y), .t (tS (Pv.encS Pv.encI) s.t.Wish.Z), .t (tS Pv.encI s.t.AirTemp.X), .t (tS Pv.encI s.t.AirTemp.Y), .t (tS Pv.encI s.t.Dwell.X), .t (tS Pv.encI s.t.Dwell.Y), .t (tS Pv.encI s.t.Dead.X), .t (tS Pv.encI s.t.Dead.Y), .t (tS Pv.encI s.t.Efficiency.X), .t (tS Pv.encI s.t.Efficiency.Y), .t (tI s.t.Idle.P), .t (tI s.t.Idle.I), .t (tI s.t.Idle.Low), .t (tI s.t.Idle.High)]), (35, .ptr 1000000 0), (36, .ptr 1000000 0), (37, .ptr 1000000 46), (38, .ptr 1000000 48), (39, .t (tI s.i.Speed)), (40, .t (tI (maxI 0 v))), (41, .ptr 1000000 0), (42, .ptr 1000000 0), (43, .ptr 1000000 46), (44, .ptr 1000000 50), (45, .t (tI s.i.AirTemp)), (46, .tup [.t (tI r3.1), .t (tI r3.2)]), (47, .t (tI r3.1)), (48, .t (tI r3.2)), (49, .t (tI r3.1)), (50, .t (tI r3.2)), (51, .t (tI v2)), (52, .t (tI (minI 1012 v2))), (53, .tup [.t (tI r4.1), .t (tI r4.2)]), (54, .ptr 1000000 0), (55, .ptr 1000000 0), (56, .ptr 1000000 46), (57, .ptr 1000000 48), (58, .t (tI s.i.Speed)), (59, .t (tI (minI 1012 v2))), (60, .tup [.t (tI r4.1), .t (tI r4.2)]), (61, .t (tI r4.1)), (62, .t (tI r4.2)), (63, .ptr 1000000 0), (64, .t (tI r4.2)), (65, .tup [])], [(1000000, .box (lset (q10 v3) [(63, .own 1000001)])), (1000001, .rows 79 7 v3.out.Fires.length (v3.out.Fires.map q12))]⟩) (q17 s r4.2) rfl rfl rfl rfl rfl rfl rfl (fun _ => rfl) (fun _ => rfl) (fun _ => rfl) (fun _ => .of rfl rfl) fun v3 hv3 => ?_))))
 refine TieO.nil (.seq (.region (.run 6 rfl (.call _ rfl rfl rfl (q432 v3.b r4.1 (minI 1012 v2)) (fun _ => rfl) fun r5 => ?_))))
 refine TieO.run 5 rfl (.nil (.region (.run 3 rfl (.call _ rfl rfl rfl (q271 r5.1 r5.2 1000) (fun _ => rfl) fun v4 => ?_))))
 exact TieO.run 4 rfl (.nil (.leaf ⟨.inr rfl, ⟨[(1000000, 1000000), (1000001, 1000001)], _, _, rfl, rfl, rfl, rfl, rfl⟩⟩))
set_option maxRecDepth 100000 in
theorem q393 (cylinders : Int) (fired : Int) (cycle : Int) : TieF Tryz.prog 28 [.t (tI cylinders), .t (tI fired), .t (tI cycle)] (q196 cylinders fired cycle) (fun r => .tup [.t (tS Pv.encB r.1), .t (tI r.2)]) := by
 refine TieF.intro htab 54 [.tmp 6, .tmp 7] Tryz.call28 Tryz.func28 rfl rfl rfl (Nat.le_of_ble_eq_true rfl) fun w0 L => ?_
 refine TieS.seq (.region (.run 2 rfl (.nil (.seq ?_))))
 refine TieS.seq (.region (.run 1 rfl (.call _ rfl rfl rfl (q30 cylinders 1 8) (fun _ => rfl) fun v => .run 2 rfl ?_)))
 refine TieO.bind 5 (fun b2 => ⟨[(0, .t (tI cylinders)), (1, .t (tI fired)), (2, .t (tI cycle)), (19, .t (tB b2))], []⟩) (TieO.split 14 rfl ?_ ?_) fun b2 _ => ?_
 ·exact TieO.run 5 rfl (.nil (.leaf ⟨rfl, .of rfl rfl⟩))
 ·exact TieO.run 2 rfl (.call _ rfl rfl rfl (q30 fired 0 cylinders) (fun _ => rfl) fun v2 => .run 2 rfl (.nil (.leaf ⟨rfl, .of rfl rfl⟩)))
 refine TieO.run 1 rfl (.bind 4 (fun b3 => ⟨[(0, .t (tI cylinders)), (1, .t (tI fired)), (2, .t (tI cycle)), (24, .t (tB b3))], []⟩) (TieO.split 20 rfl ?_ ?_) fun b3 _ => ?_)
 ·exact TieO.run 4 rfl (.nil (.leaf ⟨rfl, .of rfl rfl⟩))
 ·exact TieO.run 1 rfl (.call _ rfl rfl rfl (q30 cycle 0 1099511627776) (fun _ => rfl) fun v3 => .run 2 rfl (.nil (.leaf ⟨rfl, .of rfl rfl⟩)))
 refine TieO.nil (.cond rfl ?_ ?_)
 ·exact TieS.seq (.region (.run 2 rfl (.nil (.ret ⟨.inl rfl, rfl⟩))))
 ·refine TieS.skip (.seq (.region (.run 1 rfl (.makeO (enc := Pv.encB) 2208 false rfl rfl rfl rfl rfl rfl rfl rfl rfl rfl rfl rfl rfl fun l hl => ?_))))
  refine TieO.run 1 rfl (.nil (.seq (.seq (.region ?_))))
  refine TieO.run 3 rfl (.nil (.block (.loop (fun p => ⟨[(0, .t (tI cylinders)), (1, .t (tI fired)), (2, .t (tI cycle)), (8, .own 2208), (28, .t (tI (l.length : Int))), (29, .t (tI p.1))], [(2208, .rows 4 1 p.2.length (p.2.map Pv.encB))]⟩) (fun b e σ' => match b with | .inl t => e = .exit 0 ∧ Sub ⟨[(8, .own 2208)], [(2208, .rows 4 1 t.length (t.map Pv.encB))]⟩ σ' | .inr t => False) (.of rfl rfl) ?_ ?_)))
  ·rintro ⟨i, f2⟩
   refine TieS.seq (.region (.run 1 rfl (.nil (.seq ?_))))
   refine TieS.cond rfl ?_ ?_
   ·refine TieS.skip (.seq (TieX.sub (σ' := ⟨[(0, .t (tI cylinders)), (1, .t (tI fired)), (2, .t (tI cycle)), (8, .own 2208), (28, .t (tI (l.length : Int))), (29, .t (tI i))], [(2208, .rows 4 1 f2.length (f2.map Pv.encB))]⟩) (.of rfl rfl) (TieS.bind (Q₁ := fun f e σ' => match f with | .next t => e = .normal ∧ Sub ⟨[(0, .t (tI cylinders)), (1, .t (tI fired)), (2, .t (tI cycle)), (8, .own 2208), (28, .t (tI (l.length : Int))), (29, .t (tI i))], [(2208, .rows 4 1 t.length (t.map Pv.encB))]⟩ σ' | .brk t => e = .exit 0 ∧ Sub ⟨[(8, .own 2208)], [(2208, .rows 4 1 t.length (t.map Pv.encB))]⟩ σ' | .ret r => False) ?_ ?_)))
    ·refine TieS.block (.seq (.region (.run 2 rfl (.nil ?_))))
     refine TieS.seq (.region (.run 4 rfl (.rem rfl rfl rfl rfl rfl rfl fun q => .run 1 rfl ?_)))
     refine TieO.nil (TieX.pre fun q2 hq2 => TieX.pre fun q3 hq3 => TieX.pre fun x hx => TieS.draw 15 [_, _, _, _, _, _, _, _, _, _, _, _, _, _, _] [(0, .t (tI cylinders)), (1, .t (tI fired)), (2, .t (tI cycle)), (8, .own 2208), (9, .t (tI i)), (10, .t (tI q)), (28, .t (tI (l.length : Int))), (29, .t (tI i))] [(2208, .rows 4 1 f2.length (f2.map Pv.encB))] mixed (.of rfl rfl) rfl rfl rfl rfl (.cons (.quiet rfl rfl rfl) (.cons (.quiet rfl rfl rfl) (.cons (.quiet rfl rfl rfl) (.cons (.quiet rfl rfl rfl) (.cons (.quiet rfl rfl rfl) (.cons (.quiet rfl rfl rfl) (.cons (.quiet rfl rfl rfl) (.cons (.quo hq2 rfl rfl rfl rfl) (.cons (.quiet rfl rfl rfl) (.cons (.quiet rfl rfl rfl) (.cons (.quiet rfl rfl rfl) (.cons (.quiet rfl rfl rfl) (.cons (.quo hq3 rfl rfl rfl rfl) (.cons (.quiet rfl rfl rfl) (.cons (.indexO (sz := 1) hx rfl rfl rfl rfl rfl rfl rfl rfl) (.nil)))))))))))))))) ?_)
     exact TieO.storeY (decide (q2 > q3)) [tB (decide (q2 > q3))] hx rfl rfl rfl rfl rfl rfl rfl rfl rfl rfl rfl rfl fun l2 hl2 => .nil (.endb (.leaf ⟨rfl, .of rfl rfl⟩))
    rintro (t | t | r) e σ' _ hq
    ·obtain ⟨rfl, hs⟩ := hq
     exact TieX.sub hs (TieS.region (.run 2 rfl (.nil (.leaf ⟨rfl, .of rfl rfl⟩))))
    ·obtain ⟨rfl, hs⟩ := hq
     exact TieX.exitOut rfl ⟨(fun h => by cases h), rfl, hs⟩
    ·exact hq.elim
   ·exact TieS.exitOut rfl ⟨(fun h => by cases h), rfl, .of rfl rfl⟩
  rintro (f3 | r) e σ' _ hq
  ·obtain ⟨rfl, hs⟩ := hq
   refine TieX.exit rfl (TieX.sub hs ?_)
   exact TieS.seq (.region (.run 3 rfl (.nil (.ret ⟨.inl rfl, rfl⟩))))
  ·exact hq.elim
end Go.Proofs.YtalanclpiojanaaGreat
