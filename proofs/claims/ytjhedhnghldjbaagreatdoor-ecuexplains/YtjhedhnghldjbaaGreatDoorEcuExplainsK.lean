/- This file joins: Models that know their code, printed by gen3.py. Models that know their code, printed by gen3.py. Models that know their code, printed by gen3.py. What the arguments are known to be. Printed by law.py. What the arguments of the rows hold. Printed by law.py. -/
import Derived.Test.YtjhedhnghldjbaaGreatDoorEcuExplainsJ
import Derived.Test.YtjhedhnghldjbaaGreatDoorProg
import Derived.KernelRfl
set_option linter.unusedSimpArgs false
set_option linter.unusedVariables false
namespace Go.Proofs.YtjhedhnghldjbaaGreatDoor
open Go Go.Pv Go.Proofs
set_option maxRecDepth 100000
set_option maxHeartbeats 4000000
noncomputable def ecu_step_test_b1 (s : Secu_step) (v : (Bool × Bool × Bool × Bool × Bool × Bool × Bool)) (s2 : Int × SFaults) : M Tryz.prog Secu_step ((Int × SFaults) ⊕ ((Int × SFaults) ⊕ Empty)) :=
  .I (decide (s2.1 < 7)) (.O (.arr (fun y => .t (tB y)) ([v.1, v.2.1, v.2.2.1, v.2.2.2.1, v.2.2.2.2.1, v.2.2.2.2.2.1, v.2.2.2.2.2.2] : List Bool) s2.1) fun x => .O (.ix enc_SConfig s2.2.Configs s2.1) fun x2 => .Mk Pv.encI x2.Frame 0 fun l => .D [] [] <| .K (ecu_step_reading ({ s with u := (⟨s.u.Tables, s.u.Controls, s.u.Scheduler, s.u.Sync, s.u.Phase, s.u.Filter, s.u.Guard, s.u.Quiz, s.u.Stage, s2.2, s.u.Plant, s.u.Body, s.u.Time⟩ : SEcu) } : Secu_step) 2) fun v2 => .U (.cp Pv.encI l ([s.speed, v2] : List Int)) fun l2 => .Z (.fr 23) <| .D [] [] <| .K (ecu_keep_Faults s2.2) fun v3 => .K (fault_Result s2.2 s2.1 x l2) fun r2 => .K (ecu_keep_Faults_1 r2.1 r2.2 v3) fun v4 => .R (.inl (w64 (s2.1 + 1), v4))) (.R (.inr (.inl (s2.1, s2.2))))
noncomputable def ecu_step_test (s : Secu_step) : CG Tryz.prog Secu_step := .of Z Tryz.call119 Tryz.func119 [.ptr 1000000 0] [(1000000, .box (lset (B_Secu_step s) [(107, .own 1000001), (113, .own 1000002)])), (1000001, .rs 293 7 s.outputs.Fires enc_SFire), (1000002, .rs 409 3 s.switches enc_SSwitch)] (fun _ => .tup []) (fun r => [(1000000, .box (lset (B_Secu_step r) [(107, .own 1000001), (113, .own 1000002)])), (1000001, .rs 293 7 r.outputs.Fires enc_SFire), (1000002, .rs 409 3 r.switches enc_SSwitch)]) [] (
  .K (ecu_step_bad s) fun v => .L (fun (t : Int × SFaults) => [.t 9 (.t (tI t.1)), .x 0, .x 7, .c 1000000 74 [.t (tS enc_SConfig t.2.Configs), .t (tS enc_SFault t.2.L), .t (tI t.2.Cycle), .t (tB t.2.Running)]]) 0 (.e) (ecu_step_test_b1 s v) (0, s.u.Faults) (fun s3 => .K (ecu_Reactions) fun v5 => .D [] [(13, 1000000)] <| .K (reaction_Active v5 s3.2) fun r3 => .Z (.fb 5) <| .D [] [] <| .KG (ecu_step_test_1 0 10000 v5 ({ s with u := (⟨s.u.Tables, s.u.Controls, s.u.Scheduler, s.u.Sync, s.u.Phase, s.u.Filter, s.u.Guard, s.u.Quiz, s.u.Stage, s3.2, s.u.Plant, s.u.Body, s.u.Time⟩ : SEcu), active := r3.1 } : Secu_step)) [] fun v6 => .D [] [] <| .K (ecu_step_reading ({ s with u := (⟨s.u.Tables, s.u.Controls, s.u.Scheduler, s.u.Sync, s.u.Phase, s.u.Filter, s.u.Guard, s.u.Quiz, s.u.Stage, s3.2, s.u.Plant, s.u.Body, s.u.Time⟩ : SEcu), active := r3.1, limit := v6 } : Secu_step) 2) fun v7 => .KG (ecu_step_test_1 1 v7 v5 ({ s with u := (⟨s.u.Tables, s.u.Controls, s.u.Scheduler, s.u.Sync, s.u.Phase, s.u.Filter, s.u.Guard, s.u.Quiz, s.u.Stage, s3.2, s.u.Plant, s.u.Body, s.u.Time⟩ : SEcu), active := r3.1, limit := v6 } : Secu_step)) [] fun v8 => .K (arith_Clamp v8 50 1013) fun v9 => .D [] [] <| .K (ecu_step_reading ({ s with u := (⟨s.u.Tables, s.u.Controls, s.u.Scheduler, s.u.Sync, s.u.Phase, s.u.Filter, s.u.Guard, s.u.Quiz, s.u.Stage, s3.2, s.u.Plant, s.u.Body, s.u.Time⟩ : SEcu), active := r3.1, limit := v6, pressure := v9 } : Secu_step) 3) fun v10 => .KG (ecu_step_test_1 2 v10 v5 ({ s with u := (⟨s.u.Tables, s.u.Controls, s.u.Scheduler, s.u.Sync, s.u.Phase, s.u.Filter, s.u.Guard, s.u.Quiz, s.u.Stage, s3.2, s.u.Plant, s.u.Body, s.u.Time⟩ : SEcu), active := r3.1, limit := v6, pressure := v9 } : Secu_step)) [] fun v11 => .K (arith_Clamp v11 (-40) 150) fun v12 => .D [] [] <| .K (ecu_step_reading ({ s with u := (⟨s.u.Tables, s.u.Controls, s.u.Scheduler, s.u.Sync, s.u.Phase, s.u.Filter, s.u.Guard, s.u.Quiz, s.u.Stage, s3.2, s.u.Plant, s.u.Body, s.u.Time⟩ : SEcu), active := r3.1, limit := v6, pressure := v9, heat := v12 } : Secu_step) 4) fun v13 => .KG (ecu_step_test_1 3 v13 v5 ({ s with u := (⟨s.u.Tables, s.u.Controls, s.u.Scheduler, s.u.Sync, s.u.Phase, s.u.Filter, s.u.Guard, s.u.Quiz, s.u.Stage, s3.2, s.u.Plant, s.u.Body, s.u.Time⟩ : SEcu), active := r3.1, limit := v6, pressure := v9, heat := v12 } : Secu_step)) [] fun v14 => .K (arith_Clamp v14 (-40) 150) fun v15 => .D [] [] <| .K (ecu_step_reading ({ s with u := (⟨s.u.Tables, s.u.Controls, s.u.Scheduler, s.u.Sync, s.u.Phase, s.u.Filter, s.u.Guard, s.u.Quiz, s.u.Stage, s3.2, s.u.Plant, s.u.Body, s.u.Time⟩ : SEcu), active := r3.1, limit := v6, pressure := v9, heat := v12, coolant := v15 } : Secu_step) 5) fun v16 => .KG (ecu_step_test_1 4 v16 v5 ({ s with u := (⟨s.u.Tables, s.u.Controls, s.u.Scheduler, s.u.Sync, s.u.Phase, s.u.Filter, s.u.Guard, s.u.Quiz, s.u.Stage, s3.2, s.u.Plant, s.u.Body, s.u.Time⟩ : SEcu), active := r3.1, limit := v6, pressure := v9, heat := v12, coolant := v15 } : Secu_step)) [] fun v17 => .K (arith_Clamp v17 0 20000) fun v18 => .R ({ s with u := (⟨s.u.Tables, s.u.Controls, s.u.Scheduler, s.u.Sync, s.u.Phase, s.u.Filter, s.u.Guard, s.u.Quiz, s.u.Stage, s3.2, s.u.Plant, s.u.Body, s.u.Time⟩ : SEcu), active := r3.1, limit := v6, pressure := v9, heat := v12, coolant := v15, probe := v18 } : Secu_step)) (fun t => t.elim)) (by kernel_rfl)
noncomputable def ecu_step_request (s : Secu_step) : C Tryz.prog SRequest := .of Z Tryz.call177 Tryz.func177 [.el (enc_Secu_step s)] (fun r => A_SRequest r) (
  .R (⟨9, 1, s.limit, 15⟩ : SRequest)) (by kernel_rfl)
noncomputable def slices_IndexFunc_sRequest_b1 (s : List SRequest) (f2 : Cl Tryz.prog SRequest Bool (fun x => [A_SRequest x]) (fun r => .t (tB r))) (i : Int) (_ : Unit) : M Tryz.prog Int (Fl Unit Int) :=
  .O (.ix enc_SRequest s i) fun x => .K (f2.at x) fun v => .I v (.R (.ret i)) (.R (.next ()))
noncomputable def slices_IndexFunc_sRequest (s : List SRequest) (f2 : Cl Tryz.prog SRequest Bool (fun x => [A_SRequest x]) (fun r => .t (tB r))) : C Tryz.prog Int := .of Z Tryz.call349 Tryz.func349 [.t (tS enc_SRequest s), .fz f2.n f2.cs] (fun r => .t (tI r)) (
  M.QN (s.length : Int) 2 8 (fun (_ : Unit) => []) 0 (.one .rt) (slices_IndexFunc_sRequest_b1 s f2) () (fun _ => .R (-1)) (fun r2 => .R r2)) (by kernel_rfl)
noncomputable def slices_ContainsFunc_sRequest (s : List SRequest) (f2 : Cl Tryz.prog SRequest Bool (fun x => [A_SRequest x]) (fun r => .t (tB r))) : C Tryz.prog Bool := .of Z Tryz.call264 Tryz.func264 [.t (tS enc_SRequest s), .fz f2.n f2.cs] (fun r => .t (tB r)) (
  .K (slices_IndexFunc_sRequest s f2) fun v => .R (decide (v ≥ 0))) (by kernel_rfl)
noncomputable def arbiter_torque (t2 : Int) : C Tryz.prog Bool := .of Z Tryz.call350 Tryz.func350 [.t (tI t2)] (fun r => .t (tB r)) (
  .R ((decide (t2 ≥ (-5000))) && (decide (t2 ≤ 10000)))) (by kernel_rfl)
noncomputable def arbiter_Valid (r2 : SRequest) : C Tryz.prog Bool := .of Z Tryz.call266 Tryz.func266 [A_SRequest r2] (fun r => .t (tB r)) (
  .G ((((decide (r2.Source < 0)) || (decide (r2.Source > 15))) || (decide (r2.Priority < 0))) || (decide (r2.Priority > 15))) (.R true) (.K (arbiter_torque r2.Torque) fun v => .R (!v)) fun b2 => .I b2 (.R false) (.R ((r2.Kind == 1) || ((decide (r2.Source ≤ 1)) && ((r2.Kind == 2) || (r2.Kind == 3)))))) (by kernel_rfl)
noncomputable def control_Check_1 (r2 : SRequest) : C Tryz.prog Bool := .of Z Tryz.call325 Tryz.func325 [A_SRequest r2] (fun r => .t (tB r)) (
  .K (arbiter_Valid r2) fun v => .R (!v)) (by kernel_rfl)
noncomputable def control_Check (i : SInputs) (cylinders : Int) : C Tryz.prog Bool := .of Z Tryz.call254 Tryz.func254 [A_SInputs i, .t (tI cylinders)] (fun r => .t (tB r)) (
  .K (control_in cylinders 1 8) fun v => .I (((!v) || ((i.Intensity.length : Int) != cylinders)) || (decide ((i.Requests.length : Int) > 30))) (.R false) (.K (control_in i.Speed 0 12000) fun v2 => .G v2 (.K (control_in i.Pressure 50 3000) fun v3 => .R v3) (.R false) fun b2 => .G b2 (.K (control_in i.AirTemp (-40) 150) fun v4 => .R v4) (.R false) fun b3 => .G b3 (.K (control_in i.Coolant (-40) 150) fun v5 => .R v5) (.R false) fun b4 => .G b4 (.K (control_in i.Voltage 0 20000) fun v6 => .R v6) (.R false) fun b5 => .G b5 (.K (control_in i.Lambda 0 20000) fun v7 => .R v7) (.R false) fun b6 => .G b6 (.K (control_all i.Intensity 0 4095) fun v8 => .R v8) (.R false) fun b7 => .G b7 (.K (slices_ContainsFunc_sRequest i.Requests (.of (fun z_ => control_Check_1 z_) 325 [] (fun _ => rfl) (fun _ => rfl) (fun _ => rfl))) fun v9 => .R (!v9)) (.R false) fun b8 => .R b8)) (by kernel_rfl)
noncomputable def idle_speedy (n2 : Int) : C Tryz.prog Bool := .of Z Tryz.call262 Tryz.func262 [.t (tI n2)] (fun r => .t (tB r)) (
  .R ((decide (n2 ≥ 0)) && (decide (n2 ≤ 12000)))) (by kernel_rfl)
noncomputable def idle_Target (coolant : Int) : C Tryz.prog Int := .of Z Tryz.call330 Tryz.func330 [.t (tI coolant)] (fun r => .t (tI r)) (
  .I (decide (coolant ≤ (-20))) (.R 1200) (.I (decide (coolant ≥ 70)) (.R 800) (.R (w64 (1200 - (w64 (Int.tdiv (w64 (400 * (w64 (coolant + 20)))) 90))))))) (by kernel_rfl)
noncomputable def idle_near (speed : Int) (coolant : Int) : C Tryz.prog Bool := .of Z Tryz.call263 Tryz.func263 [.t (tI speed), .t (tI coolant)] (fun r => .t (tB r)) (
  .K (idle_Target coolant) fun v => .R (decide (speed < (w64 (v + 300))))) (by kernel_rfl)
noncomputable def idle_Active (pedal : Int) (speed : Int) (coolant : Int) : C Tryz.prog Bool := .of Z Tryz.call181 Tryz.func181 [.t (tI pedal), .t (tI speed), .t (tI coolant)] (fun r => .t (tB r)) (
  .G ((decide (pedal ≥ 0)) && (decide (pedal < 20))) (.K (idle_speedy speed) fun v => .R v) (.R false) fun b2 => .G b2 (.K (idle_near speed coolant) fun v2 => .R v2) (.R false) fun b3 => .R b3) (by kernel_rfl)
noncomputable def pedal_Step (p2 : SPedal) (first : Int) (second : Int) : C Tryz.prog (SPedal × Int) := .of Z Tryz.call326 Tryz.func326 [A_SPedal p2, .t (tI first), .t (tI second)] (fun r => .tup [A_SPedal r.1, .t (tI r.2)]) (
  .K (pedal_Valid p2) fun v => .I (!v) (.R ((⟨0, 0, false⟩ : SPedal), 1)) (.K (arith_Clamp first 0 1000) fun v2 => .K (arith_Clamp second 0 500) fun v3 => .J0 0 (fun (t : Int) => [.c 11 1 [.t (tI t)]]) (.I (decide ((maxI (w64 (v2 - (w64 (2 * v3)))) (w64 ((w64 (2 * v3)) - v2))) > 50)) (.R (minI 3 (w64 (p2.Differ + 1)))) (.I (!p2.Fault) (.R 0) (.R p2.Differ))) fun f2 => .I (f2 == 3) (.R ((⟨minI (minI v2 (w64 (2 * v3))) 200, f2, (f2 == 3)⟩ : SPedal), 0)) (.I (decide ((maxI (w64 (v2 - (w64 (2 * v3)))) (w64 ((w64 (2 * v3)) - v2))) > 50)) (.R ((⟨minI (minI v2 (w64 (2 * v3))) p2.Value, f2, (f2 == 3)⟩ : SPedal), 0)) (.R ((⟨v2, f2, (f2 == 3)⟩ : SPedal), 0))))) (by kernel_rfl)
noncomputable def control_step_note (s : Scontrol_step) (e2 : Int) : CG Tryz.prog Scontrol_step := .of Z Tryz.call327 Tryz.func327 [.ptr 1000000 0, .t (tI e2)] [(1000000, .box (lset (B_Scontrol_step s) [(63, .own 1000001)])), (1000001, .rs 293 7 s.out.Fires enc_SFire)] (fun _ => .tup []) (fun r => [(1000000, .box (lset (B_Scontrol_step r) [(63, .own 1000001)])), (1000001, .rs 293 7 r.out.Fires enc_SFire)]) [] (
  .I (s.fail == 0) (.R ({ s with fail := e2 } : Scontrol_step)) (.R s)) (by kernel_rfl)
noncomputable def sort_Search_b1 (f2 : Cl Tryz.prog Int Bool (fun x => [.t (tI x)]) (fun r => .t (tB r))) (s : Int × Int) : M Tryz.prog Int ((Int × Int) ⊕ ((Int × Int) ⊕ Empty)) :=
  .I (decide (s.1 < s.2)) (.K (f2.at (w64 (bitShr .u64 (IntKind.u64.wrap (w64 (s.1 + s.2))) 1))) fun v => .I (!v) (.R (.inl (w64 ((w64 (bitShr .u64 (IntKind.u64.wrap (w64 (s.1 + s.2))) 1)) + 1), s.2))) (.R (.inl (s.1, w64 (bitShr .u64 (IntKind.u64.wrap (w64 (s.1 + s.2))) 1))))) (.R (.inr (.inl (s.1, s.2))))
noncomputable def sort_Search (n2 : Int) (f2 : Cl Tryz.prog Int Bool (fun x => [.t (tI x)]) (fun r => .t (tB r))) : C Tryz.prog Int := .of Z Tryz.call385 Tryz.func385 [.t (tI n2), .fz f2.n f2.cs] (fun r => .t (tI r)) (
  .L (fun (t : Int × Int) => [.t 5 (.t (tI t.1)), .t 6 (.t (tI t.2))]) 0 (.e) (sort_Search_b1 f2) (0, n2) (fun s2 => .R s2.1) (fun t => t.elim)) (by kernel_rfl)
noncomputable def surface_segment_1 (i : Int) (c : List Int) (c2 : Int) : C Tryz.prog Bool := .of Z Tryz.call457 Tryz.func457 [.t (tI i), .el ((Pv.encS Pv.encI) c), .el (Pv.encI c2)] (fun r => .t (tB r)) (
  .D [] [] <| .O (.ix Pv.encI c i) fun x => .R (decide (x > c2))) (by kernel_rfl)
noncomputable def surface_segment (l : List Int) (x : Int) : C Tryz.prog (Int × Int) := .of Z Tryz.call435 Tryz.func435 [.t (tS Pv.encI l), .t (tI x)] (fun r => .tup [.t (tI r.1), .t (tI r.2)]) (
  .D [] [] <| .O (.ix Pv.encI l 0) fun x2 => .O (.ix Pv.encI l (w64 ((l.length : Int) - 1))) fun x3 => .K (arith_Clamp x x2 x3) fun v => .Z (.fb 2) <| .Z (.fb 3) <| .K (sort_Search (l.length : Int) (.of (fun z_ => surface_segment_1 z_ l v) 457 [(Pv.encS Pv.encI) l, Pv.encI v] (fun _ => rfl) (fun _ => rfl) (fun _ => rfl))) fun v2 => .D [] [] <| .R (minI (w64 (v2 - 1)) (w64 ((l.length : Int) - 2)), v)) (by kernel_rfl)
noncomputable def math_bits_Mul64 (x y : Int) : C Tryz.prog (Int × Int) := ⟨316, [.t (tK .u64 x), .t (tK .u64 y)], mul64M x y, fun _ => mul64M x y, fun r => .tup [.t (tK .u64 r.1), .t (tK .u64 r.2)], true, otie_math_bits_Mul64 x y, fun _ _ h => h⟩
noncomputable def arith_magnitude (n2 : Int) : C Tryz.prog Int := .of Z Tryz.call439 Tryz.func439 [.t (tI n2)] (fun r => .t (tK .u64 r)) (
  .I (decide (n2 < 0)) (.R (IntKind.u64.wrap ((IntKind.u64.wrap (w64 (0 - (w64 (n2 + 1))))) + 1))) (.R (IntKind.u64.wrap n2))) (by kernel_rfl)
def len64L377_ren : Go.Shelf.Ren := ⟨fun | 129 => 377 | n => n, fun | 3 => 3 | 4 => 4 | 5 => 5 | 9 => 9 | 46 => 265 | 53 => 413 | n => n, fun  | n => n⟩
open Go.Shelf in
theorem len64L377 : Lays.n129 Tryz.prog len64L377_ren := {
  mixed := by kernel_rfl,
  f129 := Tryz.func377.trans (congrArg some (by kernel_rfl)),
  t3 := Tryz.underlying3,
  a3 := Tryz.isAgg3,
  z3 := Tryz.sizeOf3,
  v3 := Tryz.zeroValue3,
  t4 := Tryz.underlying4,
  a4 := Tryz.isAgg4,
  z4 := Tryz.sizeOf4,
  v4 := Tryz.zeroValue4,
  t5 := Tryz.underlying5,
  a5 := Tryz.isAgg5,
  z5 := Tryz.sizeOf5,
  v5 := Tryz.zeroValue5,
  t9 := Tryz.underlying9,
  a9 := Tryz.isAgg9,
  z9 := Tryz.sizeOf9,
  v9 := Tryz.zeroValue9,
  t46 := Tryz.underlying265,
  a46 := Tryz.isAgg265,
  z46 := Tryz.sizeOf265,
  v46 := Tryz.zeroValue265,
  t53 := Tryz.underlying413,
  a53 := Tryz.isAgg413,
  z53 := Tryz.sizeOf413,
  v53 := Tryz.zeroValue413 }
theorem tie_math_bits_Len64 (x : Int) : TieF Tryz.prog 377 [.t (tK .u64 x)] (len64M x) (fun r => .t (tI r)) :=
  len64_tie (ρ := len64L377_ren) len64L377 Tryz.call377 x
noncomputable def math_bits_Len64 (x : Int) : C Tryz.prog Int := ⟨377, [.t (tK .u64 x)], len64M x, fun _ => len64M x, fun r => .t (tI r), true, tie_math_bits_Len64 x, fun _ _ h => h⟩
noncomputable def math_bits_LeadingZeros64 (x : Int) : C Tryz.prog Int := .of Z Tryz.call459 Tryz.func459 [.t (tK .u64 x)] (fun r => .t (tI r)) (
  .K (math_bits_Len64 x) fun v => .R (w64 (64 - v))) (by kernel_rfl)
noncomputable def math_bits_Div64_b1 (q3 : Int) (q6 : Int) (s3 : Int × Int) : M Tryz.prog (Int × Int) ((Int × Int) ⊕ ((Int × Int) ⊕ Empty)) :=
  .I ((decide (s3.1 ≥ 4294967296)) || (decide ((IntKind.u64.wrap (s3.1 * (bitAnd .u64 q3 4294967295))) > (IntKind.u64.wrap ((IntKind.u64.wrap (4294967296 * s3.2)) + (bitShr .u64 q6 32)))))) (.I (decide ((IntKind.u64.wrap (s3.2 + (bitShr .u64 q3 32))) ≥ 4294967296)) (.R (.inr (.inl (IntKind.u64.wrap (s3.1 - 1), IntKind.u64.wrap (s3.2 + (bitShr .u64 q3 32)))))) (.R (.inl (IntKind.u64.wrap (s3.1 - 1), IntKind.u64.wrap (s3.2 + (bitShr .u64 q3 32)))))) (.R (.inr (.inl (s3.1, s3.2))))
noncomputable def math_bits_Div64_b2 (q3 : Int) (q6 : Int) (s5 : Int × Int) : M Tryz.prog (Int × Int) ((Int × Int) ⊕ ((Int × Int) ⊕ Empty)) :=
  .I ((decide (s5.2 ≥ 4294967296)) || (decide ((IntKind.u64.wrap (s5.2 * (bitAnd .u64 q3 4294967295))) > (IntKind.u64.wrap ((IntKind.u64.wrap (4294967296 * s5.1)) + (bitAnd .u64 q6 4294967295)))))) (.I (decide ((IntKind.u64.wrap (s5.1 + (bitShr .u64 q3 32))) ≥ 4294967296)) (.R (.inr (.inl (IntKind.u64.wrap (s5.1 + (bitShr .u64 q3 32)), IntKind.u64.wrap (s5.2 - 1))))) (.R (.inl (IntKind.u64.wrap (s5.1 + (bitShr .u64 q3 32)), IntKind.u64.wrap (s5.2 - 1))))) (.R (.inr (.inl (s5.1, s5.2))))
noncomputable def math_bits_Div64 (hi : Int) (lo : Int) (y : Int) : C Tryz.prog (Int × Int) := .of Z Tryz.call440 Tryz.func440 [.t (tK .u64 hi), .t (tK .u64 lo), .t (tK .u64 y)] (fun r => .tup [.t (tK .u64 r.1), .t (tK .u64 r.2)]) (
  .J0 0 (fun (_ : Unit) => []) (.I (y == 0) (M.N) (.R ())) fun _ => .J0 0 (fun (_ : Unit) => []) (.I (decide (y ≤ hi)) (M.N) (.R ())) fun _ => .I (hi == 0) (.D [] [] <| .O (.quo .u64 lo y) fun q => .O (.rem lo y) fun q2 => .R (q, q2)) (.K (math_bits_LeadingZeros64 y) fun v => .O (.shl .u64 y (IntKind.u64.wrap v)) fun q3 => .O (.shl .u64 hi (IntKind.u64.wrap v)) fun q4 => .O (.shr .u64 lo (IntKind.u64.wrap (64 - (IntKind.u64.wrap v)))) fun q5 => .O (.shl .u64 lo (IntKind.u64.wrap v)) fun q6 => .O (.quo .u64 (bitOr .u64 q4 q5) (bitShr .u64 q3 32)) fun q7 => .L (fun (t : Int × Int) => [.t 15 (.t (tK .u64 t.1)), .t 16 (.t (tK .u64 t.2))]) 0 (.e) (math_bits_Div64_b1 q3 q6) (q7, IntKind.u64.wrap ((bitOr .u64 q4 q5) - (IntKind.u64.wrap (q7 * (bitShr .u64 q3 32))))) (fun s4 => .O (.quo .u64 (IntKind.u64.wrap ((IntKind.u64.wrap ((IntKind.u64.wrap ((bitOr .u64 q4 q5) * 4294967296)) + (bitShr .u64 q6 32))) - (IntKind.u64.wrap (s4.1 * q3)))) (bitShr .u64 q3 32)) fun q8 => .L (fun (t : Int × Int) => [.t 16 (.t (tK .u64 t.1)), .t 18 (.t (tK .u64 t.2))]) 2 (.e) (math_bits_Div64_b2 q3 q6) (IntKind.u64.wrap ((IntKind.u64.wrap ((IntKind.u64.wrap ((IntKind.u64.wrap ((bitOr .u64 q4 q5) * 4294967296)) + (bitShr .u64 q6 32))) - (IntKind.u64.wrap (s4.1 * q3)))) - (IntKind.u64.wrap (q8 * (bitShr .u64 q3 32)))), q8) (fun s6 => .O (.shr .u64 (IntKind.u64.wrap ((IntKind.u64.wrap ((IntKind.u64.wrap ((IntKind.u64.wrap ((IntKind.u64.wrap ((IntKind.u64.wrap ((bitOr .u64 q4 q5) * 4294967296)) + (bitShr .u64 q6 32))) - (IntKind.u64.wrap (s4.1 * q3)))) * 4294967296)) + (bitAnd .u64 q6 4294967295))) - (IntKind.u64.wrap (s6.2 * q3)))) (IntKind.u64.wrap v)) fun q9 => .R (IntKind.u64.wrap ((IntKind.u64.wrap (s4.1 * 4294967296)) + s6.2), q9)) (fun t => t.elim)) (fun t => t.elim))) (by kernel_rfl)
noncomputable def arith_rounded (r2 : Int) (c : Int) (negative : Bool) (mode : Int) : C Tryz.prog Bool := .of Z Tryz.call441 Tryz.func441 [.t (tK .u64 r2), .t (tK .u64 c), .t (tB negative), .t (tI mode)] (fun r => .t (tB r)) (
  .I (mode == 1) (.R (negative && (decide (r2 > 0)))) (.I (mode == 2) (.R ((!negative) && (decide (r2 > 0)))) (.I negative (.R (decide (r2 > (IntKind.u64.wrap (c - r2))))) (.R (decide (r2 ≥ (IntKind.u64.wrap (c - r2)))))))) (by kernel_rfl)
noncomputable def arith_MulDiv (a : Int) (b2 : Int) (c : Int) (mode : Int) : C Tryz.prog (Int × Int) := .of Z Tryz.call409 Tryz.func409 [.t (tI a), .t (tI b2), .t (tI c), .t (tI mode)] (fun r => .tup [.t (tI r.1), .t (tI r.2)]) (
  .I ((decide (mode < 1)) || (decide (mode > 3))) (.R (0, 1)) (.I (c == 0) (.R (0, 10)) (.K (arith_magnitude a) fun v => .K (arith_magnitude b2) fun v2 => .K (math_bits_Mul64 v v2) fun r2 => .K (arith_magnitude c) fun v3 => .I (decide (r2.1 ≥ v3)) (.R (0, 9)) (.K (math_bits_Div64 r2.1 r2.2 v3) fun r3 => .I (decide (r3.1 > 9223372036854775808)) (.R (0, 9)) (.K (arith_rounded r3.2 v3 (!((!((decide (a < 0)) == (decide (b2 < 0)))) == (decide (c < 0)))) mode) fun v4 => .J0 0 (fun (t : Int) => [.t 14 (.t (tK .u64 t))]) (.I v4 (.R (IntKind.u64.wrap (r3.1 + 1))) (.R r3.1)) fun q => .I ((!((!((decide (a < 0)) == (decide (b2 < 0)))) == (decide (c < 0)))) && (decide (q ≤ 9223372036854775808))) (.R (w64 ((w64 (0 - (w64 (IntKind.u64.wrap (q - 1))))) - 1), 0)) (.I ((!(!((!((decide (a < 0)) == (decide (b2 < 0)))) == (decide (c < 0))))) && (decide (q < 9223372036854775808))) (.R (w64 q, 0)) (.R (0, 9)))))))) (by kernel_rfl)
noncomputable def arith_Div (a : Int) (b2 : Int) (mode : Int) : C Tryz.prog (Int × Int) := .of Z Tryz.call360 Tryz.func360 [.t (tI a), .t (tI b2), .t (tI mode)] (fun r => .tup [.t (tI r.1), .t (tI r.2)]) (
  .K (arith_MulDiv a 1 b2 mode) fun r2 => .R (r2.1, r2.2)) (by kernel_rfl)
noncomputable def arith_Floor (a : Int) (b2 : Int) : C Tryz.prog Int := .of Z Tryz.call294 Tryz.func294 [.t (tI a), .t (tI b2)] (fun r => .t (tI r)) (
  .K (arith_Div a b2 1) fun r2 => .R r2.1) (by kernel_rfl)
noncomputable def surface_between (x0 : Int) (x1 : Int) (y0 : Int) (y1 : Int) (x : Int) : C Tryz.prog Int := .of Z Tryz.call437 Tryz.func437 [.t (tI x0), .t (tI x1), .t (tI y0), .t (tI y1), .t (tI x)] (fun r => .t (tI r)) (
  .K (arith_Floor (w64 ((w64 (x - x0)) * (w64 (y1 - y0)))) (w64 (x1 - x0))) fun v => .R (w64 (y0 + v))) (by kernel_rfl)
noncomputable def surface_at_1 (j : Int) (c : SMap) (c2 : Int) (c3 : Int) : C Tryz.prog Int := .of Z Tryz.call436 Tryz.func436 [.t (tI j), .el (enc_SMap c), .el (Pv.encI c2), .el (Pv.encI c3)] (fun r => .t (tI r)) (
  .D [] [] <| .O (.ix Pv.encI c.X c2) fun x => .O (.ix Pv.encI c.X (w64 (c2 + 1))) fun x2 => .O (.ix (Pv.encS Pv.encI) c.Z c2) fun x3 => .O (.ix Pv.encI x3 j) fun x4 => .O (.ix (Pv.encS Pv.encI) c.Z (w64 (c2 + 1))) fun x5 => .O (.ix Pv.encI x5 j) fun x6 => .K (surface_between x x2 x4 x6 c3) fun v => .R v) (by kernel_rfl)
noncomputable def surface_at (m2 : SMap) (x : Int) (y : Int) : C Tryz.prog Int := .of Z Tryz.call407 Tryz.func407 [A_SMap m2, .t (tI x), .t (tI y)] (fun r => .t (tI r)) (
  .K (surface_segment m2.X x) fun r2 => .K (surface_segment m2.Y y) fun r3 => .Z (.fb 3) <| .Z (.fb 7) <| .Z (.fb 4) <| .D [] [] <| .O (.ix Pv.encI m2.Y r3.1) fun x2 => .O (.ix Pv.encI m2.Y (w64 (r3.1 + 1))) fun x3 => .K (surface_at_1 r3.1 m2 r2.1 r2.2) fun v => .K (surface_at_1 (w64 (r3.1 + 1)) m2 r2.1 r2.2) fun v2 => .K (surface_between x2 x3 v v2 r3.2) fun v3 => .R v3) (by kernel_rfl)
noncomputable def surface_At (m2 : SMap) (x : Int) (y : Int) : C Tryz.prog Int := .of Z Tryz.call352 Tryz.func352 [A_SMap m2, .t (tI x), .t (tI y)] (fun r => .t (tI r)) (
  .K (surface_Valid m2) fun v => .I (!v) (.R 0) (.K (surface_at m2 x y) fun v2 => .R v2)) (by kernel_rfl)
noncomputable def pedal_Wish (t2 : STables) (value : Int) (speed : Int) : C Tryz.prog (Int × Int) := .of Z Tryz.call328 Tryz.func328 [A_STables t2, .t (tI value), .t (tI speed)] (fun r => .tup [.t (tI r.1), .t (tI r.2)]) (
  .K (surface_Valid t2.Wish) fun v => .I (!v) (.R (0, 1)) (.I ((((decide (value < 0)) || (decide (value > 1000))) || (decide (speed < 0))) || (decide (speed > 12000))) (.R (0, 2)) (.K (surface_At t2.Wish speed value) fun v2 => .K (arith_Clamp v2 (-5000) 10000) fun v3 => .R (v3, 0)))) (by kernel_rfl)
noncomputable def filter_Control (s : SIntegral) (g : SGain) (e2 : Int) : C Tryz.prog (SIntegral × Int × Int) := .of Z Tryz.call382 Tryz.func382 [A_SIntegral s, A_SGain g, .t (tI e2)] (fun r => .tup [A_SIntegral r.1, .t (tI r.2.1), .t (tI r.2.2)]) (
  .K (filter_ValidGain g) fun v => .I (((!v) || (decide (s.Sum < (-4398046511104)))) || (decide (s.Sum > 4398046511104))) (.R ((⟨0⟩ : SIntegral), 0, 1)) (.I ((decide (e2 < (-1048576))) || (decide (e2 > 1048576))) (.R ((⟨0⟩ : SIntegral), 0, 2)) (.J0 0 (fun (t : Int) => [.x 33, .x 37, .x 42, .b 3 (.box [.t (tI t)])]) (.I (((decide ((bitShr .i64 (w64 ((w64 (g.P * e2)) + s.Sum)) 10) ≤ g.High)) || (decide (e2 ≤ 0))) && ((decide ((bitShr .i64 (w64 ((w64 (g.P * e2)) + s.Sum)) 10) ≥ g.Low)) || (decide (e2 ≥ 0)))) (.K (arith_Clamp (w64 (s.Sum + (w64 (g.I * e2)))) (-4398046511104) 4398046511104) fun v2 => .R v2) (.R s.Sum)) fun f2 => .D [] [] <| .K (arith_Clamp (bitShr .i64 (w64 ((w64 (g.P * e2)) + s.Sum)) 10) g.Low g.High) fun v3 => .R ((⟨f2⟩ : SIntegral), v3, 0)))) (by kernel_rfl)
noncomputable def idle_Step (s : SIntegral) (g : SGain) (target : Int) (speed : Int) : C Tryz.prog (SIntegral × Int × Int) := .of Z Tryz.call329 Tryz.func329 [A_SIntegral s, A_SGain g, .t (tI target), .t (tI speed)] (fun r => .tup [A_SIntegral r.1, .t (tI r.2.1), .t (tI r.2.2)]) (
  .K (filter_ValidGain g) fun v => .I (!v) (.R ((⟨0⟩ : SIntegral), 0, 1)) (.K (idle_speedy target) fun v2 => .G (!v2) (.R true) (.K (idle_speedy speed) fun v3 => .R (!v3)) fun b2 => .I b2 (.R ((⟨0⟩ : SIntegral), 0, 2)) (.K (filter_Control s g (w64 (target - speed))) fun r2 => .R (r2.1, r2.2.1, r2.2.2)))) (by kernel_rfl)
noncomputable def arbiter_given_1 (r2 : SRequest) : C Tryz.prog Bool := .of Z Tryz.call423 Tryz.func423 [A_SRequest r2] (fun r => .t (tB r)) (
  .K (arbiter_Valid r2) fun v => .R (!v)) (by kernel_rfl)
noncomputable def arbiter_given (l : List SRequest) (low : Int) (high : Int) : C Tryz.prog Int := .of Z Tryz.call383 Tryz.func383 [.t (tS enc_SRequest l), .t (tI low), .t (tI high)] (fun r => .t (tI r)) (
  .K (slices_ContainsFunc_sRequest l (.of (fun z_ => arbiter_given_1 z_) 423 [] (fun _ => rfl) (fun _ => rfl) (fun _ => rfl))) fun v => .I v (.R 1) (.I (decide ((l.length : Int) > 32)) (.R 5) (.K (arbiter_torque low) fun v2 => .G (!v2) (.R true) (.K (arbiter_torque high) fun v3 => .R (!v3)) fun b2 => .I (b2 || (decide (low > high))) (.R 2) (.R 0)))) (by kernel_rfl)
noncomputable def slices_Clone_sRequest (s : List SRequest) : CG Tryz.prog (List SRequest) := .of Z Tryz.call424 Tryz.func424 [.t (tS enc_SRequest s)] [] (fun _ => .own 900000) (fun r => [(900000, .rs 276 4 r enc_SRequest)]) [900000] (
  .Nl enc_SRequest s (.I true (.Z (.np 2 70000 276 4 []) <| .R ([] : List SRequest)) .N) (fun s => .I false .N (.U (.ap enc_SRequest ([] : List SRequest) s 5) fun l => .R l))) (by kernel_rfl)
noncomputable def slices_insertionSortCmpFunc_Request_b2 (a : Int) (cmp : Cl Tryz.prog (SRequest × SRequest) Int (fun x => [A_SRequest x.1, A_SRequest x.2]) (fun r => .t (tI r))) (s2 : Int × List SRequest) : M Tryz.prog (List SRequest) ((Int × List SRequest) ⊕ ((Int × List SRequest) ⊕ Empty)) :=
  .J0 1 (fun (t : Bool) => [.t 34 (.t (tB t))]) (.D [] [] <| .Sp (decide (s2.1 > a)) (.O (.ix enc_SRequest s2.2 s2.1) fun x => .W (.ly 0) <| .O (.ix enc_SRequest s2.2 (w64 (s2.1 - 1))) fun x2 => .W (.ly 0) <| .K (cmp.at (x, x2)) fun v => .R (decide (v < 0))) (.R false)) fun v2 => .I v2 (.D [] [(15, 1000000)] <| .O (.ix enc_SRequest s2.2 (w64 (s2.1 - 1))) fun x3 => .W (.ly 0) <| .O (.ix enc_SRequest s2.2 s2.1) fun x4 => .W (.ly 0) <| .W (.hx 0) <| .U (.st enc_SRequest s2.2 s2.1 x3 0) fun l => .O (.ix enc_SRequest l (w64 (s2.1 - 1))) fun _ => .U (.st enc_SRequest l (w64 (s2.1 - 1)) x4 0) fun l2 => .R (.inl (w64 (s2.1 - 1), l2))) (.R (.inr (.inl (s2.1, s2.2))))
noncomputable def slices_insertionSortCmpFunc_Request_b1 (a : Int) (b2 : Int) (cmp : Cl Tryz.prog (SRequest × SRequest) Int (fun x => [A_SRequest x.1, A_SRequest x.2]) (fun r => .t (tI r))) (s : Int × List SRequest) : M Tryz.prog (List SRequest) ((Int × List SRequest) ⊕ ((Int × List SRequest) ⊕ Empty)) :=
  .I (decide (s.1 < b2)) (.L (fun (t : Int × List SRequest) => [.t 9 (.t (tI t.1)), .b 1000000 (.rs 276 4 t.2 enc_SRequest)]) 2 (.e) (slices_insertionSortCmpFunc_Request_b2 a cmp) (s.1, s.2) (fun s3 => .R (.inl (w64 (s.1 + 1), s3.2))) (fun t => t.elim)) (.R (.inr (.inl (s.1, s.2))))
noncomputable def slices_insertionSortCmpFunc_Request (data : List SRequest) (a : Int) (b2 : Int) (cmp : Cl Tryz.prog (SRequest × SRequest) Int (fun x => [A_SRequest x.1, A_SRequest x.2]) (fun r => .t (tI r))) : CG Tryz.prog (List SRequest) := .of Z Tryz.call477 Tryz.func477 [.own 1000000, .t (tI a), .t (tI b2), .fz cmp.n cmp.cs] [(1000000, .rs 276 4 data enc_SRequest)] (fun _ => .tup []) (fun r => [(1000000, .rs 276 4 r enc_SRequest)]) [] (
  .L (fun (t : Int × List SRequest) => [.t 8 (.t (tI t.1)), .b 1000000 (.rs 276 4 t.2 enc_SRequest)]) 0 (.e) (slices_insertionSortCmpFunc_Request_b1 a b2 cmp) (w64 (a + 1), data) (fun s4 => .R s4.2) (fun t => t.elim)) (by kernel_rfl)
noncomputable def slices_symMergeCmpFunc_Request (data : List SRequest) (a : Int) (m2 : Int) (b2 : Int) (cmp : Cl Tryz.prog (SRequest × SRequest) Int (fun x => [A_SRequest x.1, A_SRequest x.2]) (fun r => .t (tI r))) : CG Tryz.prog (List SRequest) := ⟨478, [.own 1000000, .t (tI a), .t (tI m2), .t (tI b2), .fz cmp.n cmp.cs], [(1000000, .rs 276 4 data enc_SRequest)], none, fun _ => none, (fun _ => .tup []), (fun r => [(1000000, .rs 276 4 r enc_SRequest)]), [], true, ⟨Tryz.call478, fun _ h => by cases h⟩, fun _ _ h => by cases h⟩
noncomputable def slices_stableCmpFunc_Request_b1 (n2 : Int) (cmp : Cl Tryz.prog (SRequest × SRequest) Int (fun x => [A_SRequest x.1, A_SRequest x.2]) (fun r => .t (tI r))) (s : Int × Int × List SRequest) : M Tryz.prog (List SRequest) ((Int × Int × List SRequest) ⊕ ((Int × Int × List SRequest) ⊕ Empty)) :=
  .I (decide (s.2.1 ≤ n2)) (.KG (slices_insertionSortCmpFunc_Request s.2.2 s.1 s.2.1 cmp) [] fun v => .R (.inl (s.2.1, w64 (s.2.1 + 20), v))) (.R (.inr (.inl (s.1, s.2.1, s.2.2))))
noncomputable def slices_stableCmpFunc_Request_b3 (n2 : Int) (cmp : Cl Tryz.prog (SRequest × SRequest) Int (fun x => [A_SRequest x.1, A_SRequest x.2]) (fun r => .t (tI r))) (s3 : Int × List SRequest) (s4 : Int × Int × List SRequest) : M Tryz.prog (List SRequest) ((Int × Int × List SRequest) ⊕ ((Int × Int × List SRequest) ⊕ Empty)) :=
  .I (decide (s4.2.1 ≤ n2)) (.KG (slices_symMergeCmpFunc_Request s4.2.2 s4.1 (w64 (s4.1 + s3.1)) s4.2.1 cmp) [] fun v3 => .R (.inl (s4.2.1, w64 (s4.2.1 + (w64 (2 * s3.1))), v3))) (.R (.inr (.inl (s4.1, s4.2.1, s4.2.2))))
noncomputable def slices_stableCmpFunc_Request_b2 (n2 : Int) (cmp : Cl Tryz.prog (SRequest × SRequest) Int (fun x => [A_SRequest x.1, A_SRequest x.2]) (fun r => .t (tI r))) (s3 : Int × List SRequest) : M Tryz.prog (List SRequest) ((Int × List SRequest) ⊕ ((Int × List SRequest) ⊕ Empty)) :=
  .I (decide (s3.1 < n2)) (.L (fun (t : Int × Int × List SRequest) => [.t 7 (.t (tI t.1)), .t 8 (.t (tI t.2.1)), .b 1000000 (.rs 276 4 t.2.2 enc_SRequest)]) 4 (.e) (slices_stableCmpFunc_Request_b3 n2 cmp s3) (0, w64 (2 * s3.1), s3.2) (fun s5 => .I (decide ((w64 (s5.1 + s3.1)) < n2)) (.KG (slices_symMergeCmpFunc_Request s5.2.2 s5.1 (w64 (s5.1 + s3.1)) n2 cmp) [] fun v4 => .R (.inl (w64 (s3.1 * 2), v4))) (.R (.inl (w64 (s3.1 * 2), s5.2.2)))) (fun t => t.elim)) (.R (.inr (.inl (s3.1, s3.2))))
noncomputable def slices_stableCmpFunc_Request (data : List SRequest) (n2 : Int) (cmp : Cl Tryz.prog (SRequest × SRequest) Int (fun x => [A_SRequest x.1, A_SRequest x.2]) (fun r => .t (tI r))) : CG Tryz.prog (List SRequest) := .of Z Tryz.call450 Tryz.func450 [.own 1000000, .t (tI n2), .fz cmp.n cmp.cs] [(1000000, .rs 276 4 data enc_SRequest)] (fun _ => .tup []) (fun r => [(1000000, .rs 276 4 r enc_SRequest)]) [] (
  .L (fun (t : Int × Int × List SRequest) => [.t 7 (.t (tI t.1)), .t 8 (.t (tI t.2.1)), .b 1000000 (.rs 276 4 t.2.2 enc_SRequest)]) 0 (.e) (slices_stableCmpFunc_Request_b1 n2 cmp) (0, 20, data) (fun s2 => .KG (slices_insertionSortCmpFunc_Request s2.2.2 s2.1 n2 cmp) [] fun v2 => .L (fun (t : Int × List SRequest) => [.t 6 (.t (tI t.1)), .x 23, .b 1000000 (.rs 276 4 t.2 enc_SRequest)]) 2 (.e) (slices_stableCmpFunc_Request_b2 n2 cmp) (20, v2) (fun s6 => .R s6.2) (fun t => t.elim)) (fun t => t.elim)) (by kernel_rfl)
noncomputable def slices_SortStableFunc_sRequest (x : List SRequest) (cmp : Cl Tryz.prog (SRequest × SRequest) Int (fun x => [A_SRequest x.1, A_SRequest x.2]) (fun r => .t (tI r))) : CG Tryz.prog (List SRequest) := .of Z Tryz.call425 Tryz.func425 [.own 1000000, .fz cmp.n cmp.cs] [(1000000, .rs 276 4 x enc_SRequest)] (fun _ => .tup []) (fun r => [(1000000, .rs 276 4 r enc_SRequest)]) [] (
  .KG (slices_stableCmpFunc_Request x (x.length : Int) cmp) [] fun v => .R v) (by kernel_rfl)
noncomputable def arbiter_decide_1 (a : SRequest) (b2 : SRequest) : C Tryz.prog Int := .of Z Tryz.call426 Tryz.func426 [A_SRequest a, A_SRequest b2] (fun r => .t (tI r)) (
  .R (w64 (b2.Priority - a.Priority))) (by kernel_rfl)
noncomputable def arbiter_span_atMost (s : Sarbiter_span) (t2 : Int) : CG Tryz.prog Sarbiter_span := .of Z Tryz.call451 Tryz.func451 [.ptr 1000000 0, .t (tI t2)] [(1000000, .box [.t (tI s.low), .t (tI s.high), .t (tI s.source)])] (fun _ => .tup []) (fun r => [(1000000, .box [.t (tI r.low), .t (tI r.high), .t (tI r.source)])]) [] (
  .D [] [] <| .R (⟨s.low, maxI s.low (minI s.high t2), s.source⟩ : Sarbiter_span)) (by kernel_rfl)
noncomputable def arbiter_span_atLeast (s : Sarbiter_span) (t2 : Int) : CG Tryz.prog Sarbiter_span := .of Z Tryz.call452 Tryz.func452 [.ptr 1000000 0, .t (tI t2)] [(1000000, .box [.t (tI s.low), .t (tI s.high), .t (tI s.source)])] (fun _ => .tup []) (fun r => [(1000000, .box [.t (tI r.low), .t (tI r.high), .t (tI r.source)])]) [] (
  .D [] [] <| .R ({ s with low := minI s.high (maxI s.low t2) } : Sarbiter_span)) (by kernel_rfl)
noncomputable def arbiter_span_exactly (s : Sarbiter_span) (t2 : Int) : CG Tryz.prog Sarbiter_span := .of Z Tryz.call453 Tryz.func453 [.ptr 1000000 0, .t (tI t2)] [(1000000, .box [.t (tI s.low), .t (tI s.high), .t (tI s.source)])] (fun _ => .tup []) (fun r => [(1000000, .box [.t (tI r.low), .t (tI r.high), .t (tI r.source)])]) [] (
  .D [] [] <| .K (arith_Clamp t2 s.low s.high) fun v => .R (⟨v, v, s.source⟩ : Sarbiter_span)) (by kernel_rfl)
noncomputable def arbiter_span_narrow (s : Sarbiter_span) (r2 : SRequest) : CG Tryz.prog (Bool × Sarbiter_span) := .of Z Tryz.call427 Tryz.func427 [.ptr 1000000 0, A_SRequest r2] [(1000000, .box [.t (tI s.low), .t (tI s.high), .t (tI s.source)])] (fun r => .t (tB r.1)) (fun r => [(1000000, .box [.t (tI r.2.low), .t (tI r.2.high), .t (tI r.2.source)])]) [] (
  .J0 0 (fun (t : Sarbiter_span) => [.x 6, .x 7, .x 9, .b 1000000 (.box [.t (tI t.low), .t (tI t.high), .t (tI t.source)])]) (.I (r2.Kind == 1) (.KG (arbiter_span_atMost s r2.Torque) [] fun v => .R v) (.I (r2.Kind == 2) (.KG (arbiter_span_atLeast s r2.Torque) [] fun v2 => .R v2) (.I (r2.Kind == 3) (.KG (arbiter_span_exactly s r2.Torque) [] fun v3 => .R v3) (.R s)))) fun f2 => .D [] [] <| .J0 0 (fun (t : Int) => [.x 3, .x 29, .x 30, .x 31, .x 33, .c 1000000 2 [.t (tI t)], .d 3]) (.I (f2.low != s.low) (.R r2.Source) (.R f2.source)) fun f3 => .J0 1 (fun (t : Bool) => [.t 4 (.t (tB t)), .x 0, .x 5, .d 5]) (.D [] [] <| .Sp (f2.low != s.low) (.R true) (.R (f2.high != s.high))) fun v4 => .R (v4, (⟨f2.low, f2.high, f3⟩ : Sarbiter_span))) (by kernel_rfl)
def sortI428_ren : Go.Shelf.Ren := ⟨fun | 125 => 449 | 128 => 476 | 129 => 377 | 189 => 428 | 215 => 221 | 216 => 130 | 257 => 454 | 294 => 479 | 295 => 480 | 296 => 481 | 297 => 482 | 298 => 483 | 299 => 484 | 300 => 485 | 301 => 486 | 328 => 496 | 329 => 491 | 330 => 492 | 331 => 497 | 332 => 498 | 343 => 510 | n => n, fun | 0 => 0 | 3 => 3 | 4 => 4 | 5 => 5 | 9 => 9 | 28 => 29 | 46 => 265 | 51 => 364 | 53 => 413 | 131 => 261 | 182 => 523 | 183 => 524 | 218 => 538 | 222 => 542 | 228 => 551 | 229 => 362 | n => n, fun  | n => n⟩
open Go.Shelf in
theorem sortI428 : Lays.n189 Tryz.prog sortI428_ren := {
  mixed := by kernel_rfl,
  f125 := Tryz.func449.trans (congrArg some (by kernel_rfl)),
  f128 := Tryz.func476.trans (congrArg some (by kernel_rfl)),
  f129 := Tryz.func377.trans (congrArg some (by kernel_rfl)),
  f189 := Tryz.func428.trans (congrArg some (by kernel_rfl)),
  f215 := Tryz.func221.trans (congrArg some (by kernel_rfl)),
  f216 := Tryz.func130.trans (congrArg some (by kernel_rfl)),
  f257 := Tryz.func454.trans (congrArg some (by kernel_rfl)),
  f294 := Tryz.func479.trans (congrArg some (by kernel_rfl)),
  f295 := Tryz.func480.trans (congrArg some (by kernel_rfl)),
  f296 := Tryz.func481.trans (congrArg some (by kernel_rfl)),
  f297 := Tryz.func482.trans (congrArg some (by kernel_rfl)),
  f298 := Tryz.func483.trans (congrArg some (by kernel_rfl)),
  f299 := Tryz.func484.trans (congrArg some (by kernel_rfl)),
  f300 := Tryz.func485.trans (congrArg some (by kernel_rfl)),
  f301 := Tryz.func486.trans (congrArg some (by kernel_rfl)),
  f328 := Tryz.func496.trans (congrArg some (by kernel_rfl)),
  f329 := Tryz.func491.trans (congrArg some (by kernel_rfl)),
  f330 := Tryz.func492.trans (congrArg some (by kernel_rfl)),
  f331 := Tryz.func497.trans (congrArg some (by kernel_rfl)),
  f332 := Tryz.func498.trans (congrArg some (by kernel_rfl)),
  f343 := Tryz.func510.trans (congrArg some (by kernel_rfl)),
  t0 := Tryz.underlying0,
  a0 := Tryz.isAgg0,
  z0 := Tryz.sizeOf0,
  v0 := Tryz.zeroValue0,
  t3 := Tryz.underlying3,
  a3 := Tryz.isAgg3,
  z3 := Tryz.sizeOf3,
  v3 := Tryz.zeroValue3,
  t4 := Tryz.underlying4,
  a4 := Tryz.isAgg4,
  z4 := Tryz.sizeOf4,
  v4 := Tryz.zeroValue4,
  t5 := Tryz.underlying5,
  a5 := Tryz.isAgg5,
  z5 := Tryz.sizeOf5,
  v5 := Tryz.zeroValue5,
  t9 := Tryz.underlying9,
  a9 := Tryz.isAgg9,
  z9 := Tryz.sizeOf9,
  v9 := Tryz.zeroValue9,
  t28 := Tryz.underlying29,
  a28 := Tryz.isAgg29,
  z28 := Tryz.sizeOf29,
  v28 := Tryz.zeroValue29,
  t46 := Tryz.underlying265,
  a46 := Tryz.isAgg265,
  z46 := Tryz.sizeOf265,
  v46 := Tryz.zeroValue265,
  t51 := Tryz.underlying364,
  a51 := Tryz.isAgg364,
  z51 := Tryz.sizeOf364,
  v51 := Tryz.zeroValue364,
  t53 := Tryz.underlying413,
  a53 := Tryz.isAgg413,
  z53 := Tryz.sizeOf413,
  v53 := Tryz.zeroValue413,
  t131 := Tryz.underlying261,
  a131 := Tryz.isAgg261,
  z131 := Tryz.sizeOf261,
  v131 := Tryz.zeroValue261,
  t182 := Tryz.underlying523,
  a182 := Tryz.isAgg523,
  z182 := Tryz.sizeOf523,
  v182 := Tryz.zeroValue523,
  t183 := Tryz.underlying524,
  a183 := Tryz.isAgg524,
  z183 := Tryz.sizeOf524,
  v183 := Tryz.zeroValue524,
  t218 := Tryz.underlying538,
  a218 := Tryz.isAgg538,
  z218 := Tryz.sizeOf538,
  v218 := Tryz.zeroValue538,
  t222 := Tryz.underlying542,
  a222 := Tryz.isAgg542,
  z222 := Tryz.sizeOf542,
  v222 := Tryz.zeroValue542,
  t228 := Tryz.underlying551,
  a228 := Tryz.isAgg551,
  z228 := Tryz.sizeOf551,
  v228 := Tryz.zeroValue551,
  t229 := Tryz.underlying362,
  a229 := Tryz.isAgg362,
  z229 := Tryz.sizeOf362,
  v229 := Tryz.zeroValue362 }
theorem tie_slices_Sort_sint (s : List Int) : TieG Tryz.prog 428 [.own 1000000] [(1000000, .rows 3 1 s.length (s.map Pv.encI))] (sortIM s) (fun _ => .tup []) (fun r => [(1000000, .rows 3 1 r.length (r.map Pv.encI))]) :=
  sortInts_tie (ρ := sortI428_ren) sortI428 Tryz.call428 s
noncomputable def slices_Sort_sint (s : List Int) : CG Tryz.prog (List Int) := ⟨428, [.own 1000000], [(1000000, .rows 3 1 s.length (s.map Pv.encI))], sortIM s, fun _ => sortIE s, fun _ => .tup [], fun r => [(1000000, .rows 3 1 r.length (r.map Pv.encI))], [], true, tie_slices_Sort_sint s, fun _ r h => sortIE_le h⟩
def compI429_ren : Go.Shelf.Ren := ⟨fun | 20 => 429 | n => n, fun | 0 => 0 | 3 => 3 | 4 => 4 | 22 => 29 | n => n, fun  | n => n⟩
open Go.Shelf in
theorem compI429 : Lays2.n20 Tryz.prog compI429_ren := {
  mixed := by kernel_rfl,
  f20 := Tryz.func429.trans (congrArg some (by kernel_rfl)),
  t0 := Tryz.underlying0,
  a0 := Tryz.isAgg0,
  z0 := Tryz.sizeOf0,
  v0 := Tryz.zeroValue0,
  t3 := Tryz.underlying3,
  a3 := Tryz.isAgg3,
  z3 := Tryz.sizeOf3,
  v3 := Tryz.zeroValue3,
  t4 := Tryz.underlying4,
  a4 := Tryz.isAgg4,
  z4 := Tryz.sizeOf4,
  v4 := Tryz.zeroValue4,
  t22 := Tryz.underlying29,
  a22 := Tryz.isAgg29,
  z22 := Tryz.sizeOf29,
  v22 := Tryz.zeroValue29,
  i3 := by kernel_rfl }
theorem tie_slices_Compact_sint (s : List Int) : TieG Tryz.prog 429 [.own 1000000] [(1000000, .rows 3 1 s.length (s.map Pv.encI))] (compactM s) (fun _ => .own 900000) (fun r => [(900000, .rows 3 1 r.length (r.map Pv.encI))]) :=
  compactInts_tie (ρ := compI429_ren) compI429 Tryz.call429 s
noncomputable def slices_Compact_sint (s : List Int) : CG Tryz.prog (List Int) := ⟨429, [.own 1000000], [(1000000, .rows 3 1 s.length (s.map Pv.encI))], compactM s, fun _ => compactM s, fun _ => .own 900000, fun r => [(900000, .rows 3 1 r.length (r.map Pv.encI))], [900000], true, tie_slices_Compact_sint s, fun _ r h => h⟩
noncomputable def arbiter_decide_b1 (_ : Int) (x : SRequest) (s : List Int × Sarbiter_span) : M Tryz.prog (Sarbiter_span × List Int) (Fl (List Int × Sarbiter_span) Empty) :=
  .W (.hx 0) <| .W (.ly 0) <| .KG (arbiter_span_narrow s.2 x) [] fun r2 => .I r2.1 (.U (.ap Pv.encI s.1 ([x.Source] : List Int) 2248) fun l2 => .R (.next (l2, r2.2))) (.R (.next (s.1, r2.2)))
noncomputable def arbiter_decide (l : List SRequest) (low : Int) (high : Int) : C Tryz.prog (Sarbiter_span × List Int) := .of Z Tryz.call384 Tryz.func384 [.t (tS enc_SRequest l), .t (tI low), .t (tI high)] (fun r => .tup [A_Sarbiter_span r.1, .t (tS Pv.encI r.2)]) (
  .KG (slices_Clone_sRequest l) [2104] fun v => .KG (slices_SortStableFunc_sRequest v (.of (fun z_ => arbiter_decide_1 z_.1 z_.2) 426 [] (fun _ => rfl) (fun _ => rfl) (fun _ => rfl))) [] fun v2 => .Z (.np 9 2248 3 1 []) <| M.Q enc_SRequest v2 2 21 (fun (t : List Int × Sarbiter_span) => [.t 9 (.own 2248), .x 0, .x 13, .x 14, .b 8 (.box [.t (tI t.2.low), .t (tI t.2.high), .t (tI t.2.source)]), .b 2248 (.rs 3 1 t.1 Pv.encI)]) 0 (.e) (arbiter_decide_b1) (([] : List Int), (⟨low, high, (-1)⟩ : Sarbiter_span)) (fun s2 => .KG (slices_Sort_sint s2.1) [] fun v3 => .Pn 2248 <| .D [] [(2, 2248)] <| .KG (slices_Compact_sint v3) [2248] fun v4 => .R (s2.2, v4)) (fun t => t.elim)) (by kernel_rfl)
noncomputable def arbiter_Step (g : SGrant) (l : List SRequest) (low : Int) (high : Int) (up : Int) (down : Int) : C Tryz.prog (SGrant × Int) := .of Z Tryz.call331 Tryz.func331 [A_SGrant g, .t (tS enc_SRequest l), .t (tI low), .t (tI high), .t (tI up), .t (tI down)] (fun r => .tup [A_SGrant r.1, .t (tI r.2)]) (
  .K (arbiter_torque g.Torque) fun v => .I (((!v) || (decide (g.Source < (-1)))) || (decide (g.Source > 15))) (.R ((⟨0, 0⟩ : SGrant), 1)) (.K (arbiter_given l low high) fun v2 => .I (v2 != 0) (.R ((⟨0, 0⟩ : SGrant), v2)) (.I ((((decide (up < 0)) || (decide (up > 20000))) || (decide (down < 0))) || (decide (down > 20000))) (.R ((⟨0, 0⟩ : SGrant), 2)) (.K (arbiter_decide l low high) fun r2 => .R ((⟨maxI (minI (minI (maxI r2.1.low (w64 (g.Torque - down))) (w64 (g.Torque + up))) r2.1.high) low, r2.1.source⟩ : SGrant), 0))))) (by kernel_rfl)
noncomputable def control_step_torque (s : Scontrol_step) : CG Tryz.prog Scontrol_step := .of Z Tryz.call255 Tryz.func255 [.ptr 1000000 0] [(1000000, .box (lset (B_Scontrol_step s) [(63, .own 1000001)])), (1000001, .rs 293 7 s.out.Fires enc_SFire)] (fun _ => .tup []) (fun r => [(1000000, .box (lset (B_Scontrol_step r) [(63, .own 1000001)])), (1000001, .rs 293 7 r.out.Fires enc_SFire)]) [] (
  .D [] [(23, 1000000)] <| .K (pedal_Step s.c.Pedal s.i.Pedal1 s.i.Pedal2) fun r2 => .KG (control_step_note ({ s with c := (⟨r2.1, s.c.Idle, s.c.Knock, s.c.Probe, s.c.Film, s.c.Grant⟩ : SControls) } : Scontrol_step) r2.2) [] fun v => .D [] [] <| .K (pedal_Wish v.t v.c.Pedal.Value v.i.Speed) fun r3 => .KG (control_step_note v r3.2) [] fun v2 => .D [] [] <| .K (idle_Active v2.c.Pedal.Value v2.i.Speed v2.i.Coolant) fun v3 => .J0 0 (fun (t : Scontrol_step × List SRequest) => [.t 4 (.own 56), .x 7, .x 8, .x 9, .x 10, .x 11, .x 13, .x 14, .x 15, .x 16, .x 18, .x 19, .x 20, .x 21, .x 26, .x 27, .x 28, .x 29, .x 33, .x 34, .x 35, .x 37, .x 38, .x 39, .x 40, .x 41, .x 43, .x 44, .x 45, .x 46, .x 51, .x 56, .x 57, .x 58, .x 59, .x 60, .x 61, .x 63, .x 64, .x 65, .x 66, .x 68, .x 69, .x 70, .x 71, .b 56 (.rs 276 4 t.2 enc_SRequest), .b 1000000 (.box (lset (B_Scontrol_step t.1) [(63, .own 1000001)])), .b 1000001 (.rs 293 7 t.1.out.Fires enc_SFire)]) (.I v3 (.D [] [(30, 1000000)] <| .K (idle_Target v2.i.Coolant) fun v4 => .K (idle_Step v2.c.Idle v2.t.Idle v4 v2.i.Speed) fun r4 => .KG (control_step_note ({ v2 with c := (⟨v2.c.Pedal, r4.1, v2.c.Knock, v2.c.Probe, v2.c.Film, v2.c.Grant⟩ : SControls) } : Scontrol_step) r4.2.2) [] fun v5 => .K (arith_Clamp r4.2.1 (-5000) 10000) fun v6 => .U (.ap enc_SRequest ([(⟨0, 3, r3.1, 0⟩ : SRequest)] : List SRequest) ([(⟨1, 2, v6, 1⟩ : SRequest)] : List SRequest) 56) fun l => .R (v5, l)) (.R (({ v2 with c := (⟨v2.c.Pedal, (⟨0⟩ : SIntegral), v2.c.Knock, v2.c.Probe, v2.c.Film, v2.c.Grant⟩ : SControls) } : Scontrol_step), ([(⟨0, 3, r3.1, 0⟩ : SRequest)] : List SRequest)))) fun s2 => .Pn 56 <| .D [] [(12, 56), (20, 1000000)] <| .U (.ap enc_SRequest s2.2 s2.1.i.Requests 56) fun l2 => .K (arbiter_Step s2.1.c.Grant l2 (-5000) 10000 300 1000) fun r5 => .KG (control_step_note (⟨s2.1.t, s2.1.e, s2.1.b, (⟨s2.1.c.Pedal, s2.1.c.Idle, s2.1.c.Knock, s2.1.c.Probe, s2.1.c.Film, r5.1⟩ : SControls), s2.1.i, s2.1.wanted, s2.1.charge, s2.1.fired, s2.1.late, s2.1.pattern, s2.1.time, s2.1.out, s2.1.fail⟩ : Scontrol_step) r5.2) [] fun v7 => .R ({ v7 with wanted := maxI 0 v7.c.Grant.Torque } : Scontrol_step)) (by kernel_rfl)
noncomputable def torque_Charge_1 (i : Int) (c : STables) (c2 : Int) (c3 : Int) (c4 : Int) : C Tryz.prog Bool := .of Z Tryz.call386 Tryz.func386 [.t (tI i), .el (enc_STables c), .el (Pv.encI c2), .el (Pv.encI c3), .el (Pv.encI c4)] (fun r => .t (tB r)) (
  .D [] [] <| .K (surface_At c.Torque c2 (w64 (c3 + i))) fun v => .R (decide (v ≥ c4))) (by kernel_rfl)
noncomputable def torque_Charge (t2 : STables) (speed : Int) (torque : Int) : C Tryz.prog (Int × Int) := .of Z Tryz.call332 Tryz.func332 [A_STables t2, .t (tI speed), .t (tI torque)] (fun r => .tup [.t (tI r.1), .t (tI r.2)]) (
  .K (torque_Valid t2) fun v => .I (!v) (.R (0, 1)) (.K (torque_within speed 0 12000) fun v2 => .I (!v2) (.R (0, 2)) (.O (.ix Pv.encI t2.Torque.Y 0) fun x => .D [] [] <| .O (.ix Pv.encI t2.Torque.Y (w64 ((t2.Torque.Y.length : Int) - 1))) fun x2 => .Z (.fb 3) <| .Z (.fb 4) <| .Z (.fb 8) <| .Z (.fb 5) <| .K (sort_Search (w64 ((w64 (x2 - x)) + 1)) (.of (fun z_ => torque_Charge_1 z_ t2 speed x torque) 386 [enc_STables t2, Pv.encI speed, Pv.encI x, Pv.encI torque] (fun _ => rfl) (fun _ => rfl) (fun _ => rfl))) fun v3 => .I (v3 == (w64 ((w64 (x2 - x)) + 1))) (.R (0, 7)) (.R (w64 (x + v3), 0))))) (by kernel_rfl)
noncomputable def control_or (x : Int) (e2 : Int) (other : Int) : C Tryz.prog Int := .of Z Tryz.call333 Tryz.func333 [.t (tI x), .t (tI e2), .t (tI other)] (fun r => .t (tI r)) (
  .I (e2 != 0) (.R other) (.R x)) (by kernel_rfl)
noncomputable def curve_segment_1 (i : Int) (c : SCurve) (c2 : Int) : C Tryz.prog Bool := .of Z Tryz.call458 Tryz.func458 [.t (tI i), .el (enc_SCurve c), .el (Pv.encI c2)] (fun r => .t (tB r)) (
  .D [] [] <| .O (.ix Pv.encI c.X i) fun x => .R (decide (x > c2))) (by kernel_rfl)
noncomputable def curve_segment (c : SCurve) (x : Int) : C Tryz.prog Int := .of Z Tryz.call438 Tryz.func438 [A_SCurve c, .t (tI x)] (fun r => .t (tI r)) (
  .Z (.fb 2) <| .Z (.fb 3) <| .K (sort_Search (c.X.length : Int) (.of (fun z_ => curve_segment_1 z_ c x) 458 [enc_SCurve c, Pv.encI x] (fun _ => rfl) (fun _ => rfl) (fun _ => rfl))) fun v => .R (w64 (v - 1))) (by kernel_rfl)
noncomputable def curve_value (c : SCurve) (x : Int) : C Tryz.prog Int := .of Z Tryz.call408 Tryz.func408 [A_SCurve c, .t (tI x)] (fun r => .t (tI r)) (
  .O (.ix Pv.encI c.X 0) fun x2 => .I (decide (x ≤ x2)) (.O (.ix Pv.encI c.Y 0) fun x3 => .R x3) (.O (.ix Pv.encI c.X (w64 ((c.X.length : Int) - 1))) fun x4 => .I (decide (x ≥ x4)) (.O (.ix Pv.encI c.Y (w64 ((c.X.length : Int) - 1))) fun x5 => .R x5) (.K (curve_segment c x) fun v => .D [] [] <| .O (.ix Pv.encI c.Y v) fun x6 => .O (.ix Pv.encI c.X v) fun x7 => .O (.ix Pv.encI c.Y (w64 (v + 1))) fun x8 => .W (.hx 2) <| .O (.ix Pv.encI c.X (w64 (v + 1))) fun x9 => .W (.hx 2) <| .K (arith_Floor (w64 ((w64 (x - x7)) * (w64 (x8 - x6)))) (w64 (x9 - x7))) fun v2 => .R (w64 (x6 + v2))))) (by kernel_rfl)
noncomputable def curve_At (c : SCurve) (x : Int) : C Tryz.prog Int := .of Z Tryz.call353 Tryz.func353 [A_SCurve c, .t (tI x)] (fun r => .t (tI r)) (
  .K (curve_Valid c) fun v => .I (!v) (.R 0) (.K (curve_value c x) fun v2 => .R v2)) (by kernel_rfl)
noncomputable def air_charge (t2 : STables) (speed : Int) (pressure : Int) (temperature : Int) : C Tryz.prog Int := .of Z Tryz.call269 Tryz.func269 [A_STables t2, .t (tI speed), .t (tI pressure), .t (tI temperature)] (fun r => .t (tI r)) (
  .D [] [] <| .K (surface_At t2.Air speed pressure) fun v => .K (curve_At t2.AirTemp temperature) fun v2 => .K (arith_Floor (w64 (v * v2)) 1000) fun v3 => .R (minI 1048576 v3)) (by kernel_rfl)
noncomputable def air_Pressure_1 (k : Int) (c : STables) (c2 : Int) (c3 : Int) (c4 : Int) : C Tryz.prog Bool := .of Z Tryz.call387 Tryz.func387 [.t (tI k), .el (enc_STables c), .el (Pv.encI c2), .el (Pv.encI c3), .el (Pv.encI c4)] (fun r => .t (tB r)) (
  .D [] [] <| .K (air_charge c c2 (w64 (50 + k)) c3) fun v => .R (decide (v ≥ c4))) (by kernel_rfl)
noncomputable def air_Pressure (t2 : STables) (speed : Int) (want : Int) (temperature : Int) : C Tryz.prog (Int × Int) := .of Z Tryz.call334 Tryz.func334 [A_STables t2, .t (tI speed), .t (tI want), .t (tI temperature)] (fun r => .tup [.t (tI r.1), .t (tI r.2)]) (
  .K (air_Valid t2) fun v => .I (!v) (.R (0, 1)) (.K (air_between speed 0 12000) fun v2 => .G (!v2) (.R true) (.K (air_between want 0 1048576) fun v3 => .R (!v3)) fun b2 => .G b2 (.R true) (.K (air_between temperature (-40) 150) fun v4 => .R (!v4)) fun b3 => .I b3 (.R (0, 2)) (.Z (.fb 4) <| .Z (.fb 5) <| .Z (.fb 7) <| .Z (.fb 6) <| .K (sort_Search 2951 (.of (fun z_ => air_Pressure_1 z_ t2 speed temperature want) 387 [enc_STables t2, Pv.encI speed, Pv.encI temperature, Pv.encI want] (fun _ => rfl) (fun _ => rfl) (fun _ => rfl))) fun v5 => .I (decide ((w64 (50 + v5)) > 3000)) (.R (0, 7)) (.R (w64 (50 + v5), 0))))) (by kernel_rfl)
noncomputable def motion_FromRpm (rpm : Int) : C Tryz.prog (Int × Int) := .of Z Tryz.call388 Tryz.func388 [.t (tI rpm)] (fun r => .tup [.t (tI r.1), .t (tI r.2)]) (
  .I ((decide (rpm < 0)) || (decide (rpm > 20000))) (.R (0, 2)) (.K (arith_Div (w64 ((w64 (rpm * 65536)) * 23040)) 60000000 2) fun r2 => .R (r2.1, r2.2))) (by kernel_rfl)
noncomputable def air_Flow (speed : Int) (pressure : Int) : C Tryz.prog (Int × Int) := .of Z Tryz.call335 Tryz.func335 [.t (tI speed), .t (tI pressure)] (fun r => .tup [.t (tI r.1), .t (tI r.2)]) (
  .K (air_between speed 0 12000) fun v => .G (!v) (.R true) (.K (air_between pressure 50 3000) fun v2 => .R (!v2)) fun b2 => .I b2 (.R (0, 2)) (.K (motion_FromRpm speed) fun r2 => .R (w64 (Int.tdiv (w64 (r2.1 * pressure)) 1024), r2.2))) (by kernel_rfl)
noncomputable def air_Throttle_1 (k : Int) (c : SBody) (c2 : Int) (c3 : Int) : C Tryz.prog Bool := .of Z Tryz.call389 Tryz.func389 [.t (tI k), .el (enc_SBody c), .el (Pv.encI c2), .el (Pv.encI c3)] (fun r => .t (tB r)) (
  .R (decide ((w64 (Int.tdiv (w64 ((w64 (c.Throttle * k)) * (w64 (1013 - c2)))) 1000)) ≥ c3))) (by kernel_rfl)
noncomputable def air_Throttle (b2 : SBody) (flow : Int) (pressure : Int) : C Tryz.prog (Int × Int) := .of Z Tryz.call336 Tryz.func336 [A_SBody b2, .t (tI flow), .t (tI pressure)] (fun r => .tup [.t (tI r.1), .t (tI r.2)]) (
  .K (plant_Valid b2) fun v => .I (!v) (.R (0, 1)) (.K (air_between flow 0 1099511627776) fun v2 => .G (!v2) (.R true) (.K (air_between pressure 50 1013) fun v3 => .R (!v3)) fun b3 => .I b3 (.R (0, 2)) (.Z (.fb 3) <| .Z (.fb 5) <| .Z (.fb 4) <| .K (sort_Search 1001 (.of (fun z_ => air_Throttle_1 z_ b2 pressure flow) 389 [enc_SBody b2, Pv.encI pressure, Pv.encI flow] (fun _ => rfl) (fun _ => rfl) (fun _ => rfl))) fun v4 => .I (decide (v4 > 1000)) (.R (0, 7)) (.R (v4, 0))))) (by kernel_rfl)
noncomputable def control_step_throttle (s : Scontrol_step) : CG Tryz.prog Scontrol_step := .of Z Tryz.call256 Tryz.func256 [.ptr 1000000 0] [(1000000, .box (lset (B_Scontrol_step s) [(63, .own 1000001)])), (1000001, .rs 293 7 s.out.Fires enc_SFire)] (fun _ => .tup []) (fun r => [(1000000, .box (lset (B_Scontrol_step r) [(63, .own 1000001)])), (1000001, .rs 293 7 r.out.Fires enc_SFire)]) [] (
  .D [] [] <| .K (torque_Charge s.t s.i.Speed s.wanted) fun r2 => .K (control_or r2.1 r2.2 1048576) fun v => .D [] [] <| .K (air_Pressure s.t s.i.Speed (maxI 0 v) s.i.AirTemp) fun r3 => .K (control_or r3.1 r3.2 3000) fun v2 => .K (air_Flow s.i.Speed (minI 1012 v2)) fun r4 => .KG (control_step_note s r4.2) [] fun v3 => .K (air_Throttle v3.b r4.1 (minI 1012 v2)) fun r5 => .K (control_or r5.1 r5.2 1000) fun v4 => .R ({ v3 with out := (⟨v4, v3.out.Fires, v3.out.Torque⟩ : SOutputs) } : Scontrol_step)) (by kernel_rfl)
noncomputable def air_Charge (t2 : STables) (speed : Int) (pressure : Int) (temperature : Int) : C Tryz.prog (Int × Int) := .of Z Tryz.call183 Tryz.func183 [A_STables t2, .t (tI speed), .t (tI pressure), .t (tI temperature)] (fun r => .tup [.t (tI r.1), .t (tI r.2)]) (
  .K (air_Valid t2) fun v => .I (!v) (.R (0, 1)) (.K (air_between speed 0 12000) fun v2 => .G (!v2) (.R true) (.K (air_between pressure 50 3000) fun v3 => .R (!v3)) fun b2 => .G b2 (.R true) (.K (air_between temperature (-40) 150) fun v4 => .R (!v4)) fun b3 => .I b3 (.R (0, 2)) (.K (air_charge t2 speed pressure temperature) fun v5 => .R (v5, 0)))) (by kernel_rfl)
noncomputable def torque_Optimal (t2 : STables) (speed : Int) (charge : Int) : C Tryz.prog (Int × Int) := .of Z Tryz.call390 Tryz.func390 [A_STables t2, .t (tI speed), .t (tI charge)] (fun r => .tup [.t (tI r.1), .t (tI r.2)]) (
  .K (torque_Valid t2) fun v => .I (!v) (.R (0, 1)) (.K (torque_within speed 0 12000) fun v2 => .G (!v2) (.R true) (.K (torque_within charge 0 1048576) fun v3 => .R (!v3)) fun b2 => .I b2 (.R (0, 2)) (.K (surface_At t2.Torque speed charge) fun v4 => .R (v4, 0)))) (by kernel_rfl)
noncomputable def torque_torque (t2 : STables) (optimal : Int) (late : Int) (fired : Int) (cylinders : Int) : C Tryz.prog Int := .of Z Tryz.call391 Tryz.func391 [A_STables t2, .t (tI optimal), .t (tI late), .t (tI fired), .t (tI cylinders)] (fun r => .t (tI r)) (
  .K (curve_At t2.Efficiency late) fun v => .O (.quo .i64 (w64 ((w64 (optimal * v)) * fired)) (w64 (1000 * cylinders))) fun q => .R q) (by kernel_rfl)
noncomputable def torque_Share_1 (late : Int) (c : STables) (c2 : Int) (c3 : Int) (c4 : Int) (c5 : Int) : C Tryz.prog Bool := .of Z Tryz.call392 Tryz.func392 [.t (tI late), .el (enc_STables c), .el (Pv.encI c2), .el (Pv.encI c3), .el (Pv.encI c4), .el (Pv.encI c5)] (fun r => .t (tB r)) (
  .D [] [] <| .K (torque_torque c c2 late c3 c4) fun v => .R (decide (v ≤ c5))) (by kernel_rfl)
noncomputable def torque_Share_b1 (t2 : STables) (most : Int) (cylinders : Int) (r2 : Int × Int) (f2 : Int) : M Tryz.prog (Int × Int × Int) (Int ⊕ (Int ⊕ Empty)) :=
  .I (decide (f2 > 0)) (.D [] [] <| .K (torque_torque t2 r2.1 2560 f2 cylinders) fun v2 => .I (decide (v2 ≤ most)) (.R (.inr (.inl f2))) (.R (.inl (w64 (f2 - 1))))) (.R (.inr (.inl f2)))
noncomputable def torque_Share (t2 : STables) (speed : Int) (charge : Int) (most : Int) (cylinders : Int) : C Tryz.prog (Int × Int × Int) := .of Z Tryz.call337 Tryz.func337 [A_STables t2, .t (tI speed), .t (tI charge), .t (tI most), .t (tI cylinders)] (fun r => .tup [.t (tI r.1), .t (tI r.2.1), .t (tI r.2.2)]) (
  .K (torque_Optimal t2 speed charge) fun r2 => .I (r2.2 != 0) (.R (0, 0, r2.2)) (.K (torque_within cylinders 1 8) fun v => .I ((!v) || (decide (most < 0))) (.R (0, 0, 2)) (.L (fun (t : Int) => [.b 10 (.box [.t (tI t)])]) 1 (.e) (torque_Share_b1 t2 most cylinders r2) cylinders (fun f3 => .Z (.fb 5) <| .Z (.fb 13) <| .Z (.fb 9) <| .Z (.fb 8) <| .K (sort_Search 2560 (.of (fun z_ => torque_Share_1 z_ t2 r2.1 f3 cylinders most) 392 [enc_STables t2, Pv.encI r2.1, Pv.encI f3, Pv.encI cylinders, Pv.encI most] (fun _ => rfl) (fun _ => rfl) (fun _ => rfl))) fun v3 => .R (f3, v3, 0)) (fun t => t.elim)))) (by kernel_rfl)
noncomputable def torque_Pattern_b1 (cylinders : Int) (fired : Int) (cycle : Int) (i : Int) (f2 : List Bool) : M Tryz.prog (List Bool × Int) (Fl (List Bool) Empty) :=
  .O (.rem (w64 (i + cycle)) cylinders) fun q => .D [] [] <| .O (.quo .i64 (w64 ((w64 (q + 1)) * fired)) cylinders) fun q2 => .O (.quo .i64 (w64 (q * fired)) cylinders) fun q3 => .O (.ix Pv.encB f2 i) fun _ => .U (.st Pv.encB f2 i (decide (q2 > q3)) 0) fun l2 => .R (.next l2)
noncomputable def torque_Pattern (cylinders : Int) (fired : Int) (cycle : Int) : C Tryz.prog (List Bool × Int) := .of Z Tryz.call338 Tryz.func338 [.t (tI cylinders), .t (tI fired), .t (tI cycle)] (fun r => .tup [.t (tS Pv.encB r.1), .t (tI r.2)]) (
  .K (torque_within cylinders 1 8) fun v => .G (!v) (.R true) (.K (torque_within fired 0 cylinders) fun v2 => .R (!v2)) fun b2 => .G b2 (.R true) (.K (torque_within cycle 0 1099511627776) fun v3 => .R (!v3)) fun b3 => .I b3 (.R (([] : List Bool), 2)) (.Mk Pv.encB cylinders false fun l => M.QN (l.length : Int) 2 29 (fun (t : List Bool) => [.x 26, .x 27, .b 26 (.rs 4 1 t Pv.encB)]) 0 (.e) (torque_Pattern_b1 cylinders fired cycle) l (fun f3 => .R (f3, 0)) (fun t => t.elim))) (by kernel_rfl)
noncomputable def torque_Torque (t2 : STables) (speed : Int) (charge : Int) (late : Int) (fired : Int) (cylinders : Int) : C Tryz.prog (Int × Int) := .of Z Tryz.call339 Tryz.func339 [A_STables t2, .t (tI speed), .t (tI charge), .t (tI late), .t (tI fired), .t (tI cylinders)] (fun r => .tup [.t (tI r.1), .t (tI r.2)]) (
  .K (torque_Optimal t2 speed charge) fun r2 => .I (r2.2 != 0) (.R (0, r2.2)) (.K (torque_within late 0 2560) fun v => .G (!v) (.R true) (.K (torque_within cylinders 1 8) fun v2 => .R (!v2)) fun b2 => .G b2 (.R true) (.K (torque_within fired 0 cylinders) fun v3 => .R (!v3)) fun b3 => .I b3 (.R (0, 2)) (.K (torque_torque t2 r2.1 late fired cylinders) fun v4 => .R (v4, 0)))) (by kernel_rfl)
noncomputable def control_step_share (s : Scontrol_step) : CG Tryz.prog Scontrol_step := .of Z Tryz.call257 Tryz.func257 [.ptr 1000000 0] [(1000000, .box (lset (B_Scontrol_step s) [(63, .own 1000001)])), (1000001, .rs 293 7 s.out.Fires enc_SFire)] (fun _ => .tup []) (fun r => [(1000000, .box (lset (B_Scontrol_step r) [(63, .own 1000001)])), (1000001, .rs 293 7 r.out.Fires enc_SFire)]) [] (
  .D [] [(26, 1000000)] <| .K (air_Charge s.t s.i.Speed s.i.Pressure s.i.AirTemp) fun r2 => .KG (control_step_note ({ s with charge := r2.1 } : Scontrol_step) r2.2) [] fun v => .D [] [(27, 1000000), (30, 1000000)] <| .K (torque_Share v.t v.i.Speed v.charge v.wanted (s.e.Order.length : Int)) fun r3 => .KG (control_step_note ({ v with fired := r3.1, late := r3.2.1 } : Scontrol_step) r3.2.2) [] fun v2 => .K (torque_Pattern (s.e.Order.length : Int) v2.fired 0) fun r4 => .KG (control_step_note ({ v2 with pattern := r4.1 } : Scontrol_step) r4.2) [] fun v3 => .D [] [(30, 1000000)] <| .K (torque_Torque v3.t v3.i.Speed v3.charge v3.late v3.fired (s.e.Order.length : Int)) fun r5 => .KG (control_step_note ({ v3 with out := (⟨v3.out.Throttle, v3.out.Fires, r5.1⟩ : SOutputs) } : Scontrol_step) r5.2) [] fun v4 => .R v4) (by kernel_rfl)
noncomputable def mixture_point (speed : Int) (charge : Int) : C Tryz.prog Bool := .of Z Tryz.call393 Tryz.func393 [.t (tI speed), .t (tI charge)] (fun r => .t (tB r)) (
  .K (mixture_in speed 0 12000) fun v => .G v (.K (mixture_in charge 0 1048576) fun v2 => .R v2) (.R false) fun b2 => .R b2) (by kernel_rfl)
noncomputable def slices_Clone_sCell (s : List SCell) : C Tryz.prog (List SCell) := .of Z Tryz.call430 Tryz.func430 [.t (tS enc_SCell s)] (fun r => .t (tS enc_SCell r)) (
  .Nl enc_SCell s (.I true (.R ([] : List SCell)) .N) (fun s => .I false .N (.U (.ap enc_SCell ([] : List SCell) s 5) fun l => .R l))) (by kernel_rfl)
noncomputable def mixture_copied (p2 : SProbe) : C Tryz.prog SProbe := .of Z Tryz.call394 Tryz.func394 [A_SProbe p2] (fun r => A_SProbe r) (
  .K (slices_Clone_sCell p2.Cells) fun v => .R ({ p2 with Cells := v } : SProbe)) (by kernel_rfl)
noncomputable def mixture_Step (p2 : SProbe) (millivolts : Int) (speed : Int) (charge : Int) : C Tryz.prog (SProbe × Int) := .of Z Tryz.call340 Tryz.func340 [A_SProbe p2, .t (tI millivolts), .t (tI speed), .t (tI charge)] (fun r => .tup [A_SProbe r.1, .t (tI r.2)]) (
  .K (mixture_Valid p2) fun v => .I (!v) (.R ((⟨false, false, 0, 0, ([] : List SCell)⟩ : SProbe), 1)) (.K (mixture_point speed charge) fun v2 => .G (!v2) (.R true) (.K (mixture_in millivolts 0 20000) fun v3 => .R (!v3)) fun b2 => .I b2 (.R ((⟨false, false, 0, 0, ([] : List SCell)⟩ : SProbe), 2)) (.K (mixture_copied p2) fun v4 => .I (!v4.Active) (.R (({ v4 with Active := ((decide (millivolts < 300)) || (decide (millivolts > 600))), Rich := decide (millivolts > 600) } : SProbe), 0)) (.J0 0 (fun (t : Int × Int) => [.t 11 (.t (tI t.1)), .x 30, .x 55, .c 4 3 [.t (tI t.2)]]) (.I (!(((decide (millivolts > 500)) || ((decide (millivolts ≥ 400)) && v4.Rich)) == v4.Rich)) (.R (15, 0)) (.R (1, minI 1000 (w64 (v4.Wait + 1))))) fun s => .J0 0 (fun (t : Int) => [.t 11 (.t (tI t))]) (.I ((decide (millivolts > 500)) || ((decide (millivolts ≥ 400)) && v4.Rich)) (.R (w64 (0 - s.1))) (.R s.1)) fun v_by => .K (arith_Clamp (w64 (v4.Factor + v_by)) 750 1250) fun v5 => .R ((⟨v4.Active, ((decide (millivolts > 500)) || ((decide (millivolts ≥ 400)) && v4.Rich)), v5, s.2, v4.Cells⟩ : SProbe), 0))))) (by kernel_rfl)
noncomputable def mixture_class_b1 (x : Int) (_ : Int) (x2 : Int) (n2 : Int) : M Tryz.prog Int (Fl Int Empty) :=
  .W (.hx 0) <| .I (decide (x ≥ x2)) (.R (.next (w64 (n2 + 1)))) (.R (.next n2))
noncomputable def mixture_class (x : Int) (thresholds : List Int) : C Tryz.prog Int := .of Z Tryz.call431 Tryz.func431 [.t (tI x), .t (tS Pv.encI thresholds)] (fun r => .t (tI r)) (
  M.Q Pv.encI thresholds 2 10 (fun (t : Int) => [.t 5 (.t (tI t))]) 0 (.e) (mixture_class_b1 x) 0 (fun n3 => .R n3) (fun t => t.elim)) (by kernel_rfl)
noncomputable def mixture_Cell (speed : Int) (charge : Int) : C Tryz.prog Int := .of Z Tryz.call395 Tryz.func395 [.t (tI speed), .t (tI charge)] (fun r => .t (tI r)) (
  .K (mixture_point speed charge) fun v => .I (!v) (.R (-1)) (.K (mixture_class speed ([1500, 3500] : List Int)) fun v2 => .K (mixture_class charge ([150000, 350000] : List Int)) fun v3 => .R (w64 ((w64 (3 * v2)) + v3)))) (by kernel_rfl)
noncomputable def mixture_Factor (p2 : SProbe) (speed : Int) (charge : Int) : C Tryz.prog (Int × Int) := .of Z Tryz.call341 Tryz.func341 [A_SProbe p2, .t (tI speed), .t (tI charge)] (fun r => .tup [.t (tI r.1), .t (tI r.2)]) (
  .K (mixture_Valid p2) fun v => .I (!v) (.R (0, 1)) (.K (mixture_point speed charge) fun v2 => .I (!v2) (.R (0, 2)) (.D [] [] <| .K (mixture_Cell speed charge) fun v3 => .O (.ix enc_SCell p2.Cells v3) fun x => .K (arith_Clamp (w64 (p2.Factor + x.Value)) 700 1300) fun v4 => .R (v4, 0)))) (by kernel_rfl)
noncomputable def fuel_in (x : Int) (low : Int) (high : Int) : C Tryz.prog Bool := .of Z Tryz.call374 Tryz.func374 [.t (tI x), .t (tI low), .t (tI high)] (fun r => .t (tB r)) (
  .R ((decide (x ≥ low)) && (decide (x ≤ high)))) (by kernel_rfl)
noncomputable def fuel_Mass (charge : Int) (factor : Int) : C Tryz.prog (Int × Int) := .of Z Tryz.call342 Tryz.func342 [.t (tI charge), .t (tI factor)] (fun r => .tup [.t (tI r.1), .t (tI r.2)]) (
  .K (fuel_in charge 0 1048576) fun v => .G (!v) (.R true) (.K (fuel_in factor 500 2000) fun v2 => .R (!v2)) fun b2 => .I b2 (.R (0, 2)) (.O (.quo .i64 (w64 (charge * 10000)) (w64 (factor * 147))) fun q => .R (q, 0))) (by kernel_rfl)
noncomputable def fuel_good (b2 : SBody) : C Tryz.prog Bool := .of Z Tryz.call396 Tryz.func396 [A_SBody b2] (fun r => .t (tB r)) (
  .K (fuel_in b2.Film 0 1023) fun v => .G v (.K (fuel_in b2.Evaporate 0 1024) fun v2 => .R v2) (.R false) fun b3 => .R b3) (by kernel_rfl)
noncomputable def sort_Find_b1 (cmp : Cl Tryz.prog Int Int (fun x => [.t (tI x)]) (fun r => .t (tI r))) (s : Int × Int) : M Tryz.prog (Int × Bool) ((Int × Int) ⊕ ((Int × Int) ⊕ Empty)) :=
  .I (decide (s.1 < s.2)) (.K (cmp.at (w64 (bitShr .u64 (IntKind.u64.wrap (w64 (s.1 + s.2))) 1))) fun v => .I (decide (v > 0)) (.R (.inl (w64 ((w64 (bitShr .u64 (IntKind.u64.wrap (w64 (s.1 + s.2))) 1)) + 1), s.2))) (.R (.inl (s.1, w64 (bitShr .u64 (IntKind.u64.wrap (w64 (s.1 + s.2))) 1))))) (.R (.inr (.inl (s.1, s.2))))
noncomputable def sort_Find (n2 : Int) (cmp : Cl Tryz.prog Int Int (fun x => [.t (tI x)]) (fun r => .t (tI r))) : C Tryz.prog (Int × Bool) := .of Z Tryz.call397 Tryz.func397 [.t (tI n2), .fz cmp.n cmp.cs] (fun r => .tup [.t (tI r.1), .t (tB r.2)]) (
  .L (fun (t : Int × Int) => [.t 4 (.t (tI t.1)), .t 6 (.t (tI t.2))]) 0 (.e) (sort_Find_b1 cmp) (0, n2) (fun s2 => .G (decide (s2.1 < n2)) (.K (cmp.at s2.1) fun v2 => .R (v2 == 0)) (.R false) fun b2 => .R (s2.1, b2)) (fun t => t.elim)) (by kernel_rfl)
noncomputable def fuel_step (b2 : SBody) (film : Int) (inject : Int) : C Tryz.prog (Int × Int) := .of Z Tryz.call399 Tryz.func399 [A_SBody b2, .t (tI film), .t (tI inject)] (fun r => .tup [.t (tI r.1), .t (tI r.2)]) (
  .D [] [] <| .R (w64 ((w64 (inject - (w64 (Int.tdiv (w64 (inject * b2.Film)) 1024)))) + (w64 (Int.tdiv (w64 (film * b2.Evaporate)) 1024))), w64 ((w64 (film + (w64 (Int.tdiv (w64 (inject * b2.Film)) 1024)))) - (w64 (Int.tdiv (w64 (film * b2.Evaporate)) 1024))))) (by kernel_rfl)
noncomputable def fuel_Want_1 (i : Int) (c : SBody) (c2 : Int) (c3 : Int) : C Tryz.prog Int := .of Z Tryz.call398 Tryz.func398 [.t (tI i), .el (enc_SBody c), .el (Pv.encI c2), .el (Pv.encI c3)] (fun r => .t (tI r)) (
  .K (fuel_step c c2 i) fun r2 => .R (w64 (c3 - r2.1))) (by kernel_rfl)
noncomputable def fuel_Want (b2 : SBody) (film : Int) (mass : Int) : C Tryz.prog (Int × Int × Int) := .of Z Tryz.call343 Tryz.func343 [A_SBody b2, .t (tI film), .t (tI mass)] (fun r => .tup [.t (tI r.1), .t (tI r.2.1), .t (tI r.2.2)]) (
  .K (fuel_good b2) fun v => .I (!v) (.R (0, 0, 1)) (.K (fuel_in film 0 1073741824) fun v2 => .G (!v2) (.R true) (.K (fuel_in mass 0 1048576) fun v3 => .R (!v3)) fun b3 => .I b3 (.R (0, 0, 2)) (.Z (.fb 3) <| .Z (.fb 4) <| .Z (.fb 5) <| .K (sort_Find 1048577 (.of (fun z_ => fuel_Want_1 z_ b2 film mass) 398 [enc_SBody b2, Pv.encI film, Pv.encI mass] (fun _ => rfl) (fun _ => rfl) (fun _ => rfl))) fun r2 => .I (decide (r2.1 > 1048576)) (.R (0, 0, 9)) (.K (fuel_step b2 film r2.1) fun r3 => .I (decide (r3.2 > 1073741824)) (.R (0, 0, 9)) (.R (r2.1, r3.2, 0)))))) (by kernel_rfl)
noncomputable def fuel_Film (b2 : SBody) (film : Int) (inject : Int) : C Tryz.prog (Int × Int × Int) := .of Z Tryz.call344 Tryz.func344 [A_SBody b2, .t (tI film), .t (tI inject)] (fun r => .tup [.t (tI r.1), .t (tI r.2.1), .t (tI r.2.2)]) (
  .K (fuel_good b2) fun v => .I (!v) (.R (0, 0, 1)) (.K (fuel_in film 0 1073741824) fun v2 => .G (!v2) (.R true) (.K (fuel_in inject 0 1048576) fun v3 => .R (!v3)) fun b3 => .I b3 (.R (0, 0, 2)) (.K (fuel_step b2 film inject) fun r2 => .I (decide (r2.2 > 1073741824)) (.R (0, 0, 9)) (.R (r2.1, r2.2, 0))))) (by kernel_rfl)
noncomputable def fuel_dead_1 (y : Int) : C Tryz.prog Bool := .of Z Tryz.call373 Tryz.func373 [.t (tI y)] (fun r => .t (tB r)) (
  .K (fuel_in y 0 10000) fun v => .R (!v)) (by kernel_rfl)
noncomputable def fuel_dead (t2 : STables) (amount : Int) (millivolts : Int) : C Tryz.prog (Int × Int) := .of Z Tryz.call303 Tryz.func303 [A_STables t2, .t (tI amount), .t (tI millivolts)] (fun r => .tup [.t (tI r.1), .t (tI r.2)]) (
  .K (curve_Valid t2.Dead) fun v => .G (!v) (.R true) (.K (slices_ContainsFunc_sint t2.Dead.Y (.of (fun z_ => fuel_dead_1 z_) 373 [] (fun _ => rfl) (fun _ => rfl) (fun _ => rfl))) fun v2 => .R v2) fun b2 => .I b2 (.R (0, 1)) (.K (fuel_in amount 0 1048576) fun v3 => .G (!v3) (.R true) (.K (fuel_in millivolts 0 20000) fun v4 => .R (!v4)) fun b3 => .I b3 (.R (0, 2)) (.K (curve_At t2.Dead millivolts) fun v5 => .R (v5, 0)))) (by kernel_rfl)
noncomputable def fuel_Time (t2 : STables) (mass : Int) (millivolts : Int) : C Tryz.prog (Int × Int) := .of Z Tryz.call345 Tryz.func345 [A_STables t2, .t (tI mass), .t (tI millivolts)] (fun r => .tup [.t (tI r.1), .t (tI r.2)]) (
  .K (fuel_dead t2 mass millivolts) fun r2 => .I ((r2.2 != 0) || (mass == 0)) (.R (0, r2.2)) (.K (arith_Div mass 3 2) fun r3 => .R (w64 (r2.1 + r3.1), r3.2))) (by kernel_rfl)
noncomputable def control_step_fuel (s : Scontrol_step) : CG Tryz.prog Scontrol_step := .of Z Tryz.call258 Tryz.func258 [.ptr 1000000 0] [(1000000, .box (lset (B_Scontrol_step s) [(63, .own 1000001)])), (1000001, .rs 293 7 s.out.Fires enc_SFire)] (fun _ => .tup []) (fun r => [(1000000, .box (lset (B_Scontrol_step r) [(63, .own 1000001)])), (1000001, .rs 293 7 r.out.Fires enc_SFire)]) [] (
  .D [] [(27, 1000000)] <| .K (mixture_Step s.c.Probe s.i.Lambda s.i.Speed s.charge) fun r2 => .KG (control_step_note ({ s with c := (⟨s.c.Pedal, s.c.Idle, s.c.Knock, r2.1, s.c.Film, s.c.Grant⟩ : SControls) } : Scontrol_step) r2.2) [] fun v => .D [] [] <| .K (mixture_Factor v.c.Probe v.i.Speed v.charge) fun r3 => .KG (control_step_note v r3.2) [] fun v2 => .K (fuel_Mass v2.charge 1000) fun r4 => .KG (control_step_note v2 r4.2) [] fun v3 => .D [] [] <| .K (fuel_Want v3.b v3.c.Film (minI 1048576 (w64 (Int.tdiv (w64 (r4.1 * r3.1)) 1000)))) fun r5 => .J0 0 (fun (t : Int × Int × Scontrol_step) => [.t 5 (.t (tI t.1)), .t 6 (.t (tI t.2.1)), .x 10, .x 11, .x 12, .x 13, .x 14, .x 16, .x 17, .x 18, .x 19, .x 21, .x 22, .x 23, .x 24, .x 26, .x 27, .x 28, .x 33, .x 34, .x 35, .x 36, .x 40, .x 41, .x 42, .x 43, .x 45, .x 46, .x 47, .x 48, .x 50, .x 51, .x 52, .x 57, .x 61, .x 62, .x 63, .x 68, .x 77, .x 78, .x 79, .x 81, .x 82, .x 83, .x 84, .x 91, .x 92, .x 93, .b 1000000 (.box (lset (B_Scontrol_step t.2.2) [(63, .own 1000001)])), .b 1000001 (.rs 293 7 t.2.2.out.Fires enc_SFire)]) (.I ((v3.fired == 0) || (r5.2.2 != 0)) (.D [] [] <| .K (fuel_Film v3.b v3.c.Film 0) fun r6 => .KG (control_step_note v3 r6.2.2) [] fun v4 => .R (0, r6.2.1, v4)) (.R (r5.1, r5.2.1, v3))) fun s2 => .I (decide (s2.1 > 0)) (.D [] [] <| .K (fuel_Time s2.2.2.t s2.1 s2.2.2.i.Voltage) fun r7 => .KG (control_step_note (⟨s2.2.2.t, s2.2.2.e, s2.2.2.b, (⟨s2.2.2.c.Pedal, s2.2.2.c.Idle, s2.2.2.c.Knock, s2.2.2.c.Probe, s2.2.1, s2.2.2.c.Grant⟩ : SControls), s2.2.2.i, s2.2.2.wanted, s2.2.2.charge, s2.2.2.fired, s2.2.2.late, s2.2.2.pattern, s2.2.2.time, s2.2.2.out, s2.2.2.fail⟩ : Scontrol_step) r7.2) [] fun v5 => .K (arith_Clamp r7.1 200 20000) fun v6 => .R ({ v5 with time := v6 } : Scontrol_step)) (.R (⟨s2.2.2.t, s2.2.2.e, s2.2.2.b, (⟨s2.2.2.c.Pedal, s2.2.2.c.Idle, s2.2.2.c.Knock, s2.2.2.c.Probe, s2.2.1, s2.2.2.c.Grant⟩ : SControls), s2.2.2.i, s2.2.2.wanted, s2.2.2.charge, s2.2.2.fired, s2.2.2.late, s2.2.2.pattern, s2.2.2.time, s2.2.2.out, s2.2.2.fail⟩ : Scontrol_step))) (by kernel_rfl)
noncomputable def knock_All_1 (k : SKnock) : C Tryz.prog Bool := .of Z Tryz.call400 Tryz.func400 [A_SKnock k] (fun r => .t (tB r)) (
  .K (knock_Valid k) fun v => .R (!v)) (by kernel_rfl)
noncomputable def knock_All_2 (n2 : Int) : C Tryz.prog Bool := .of Z Tryz.call401 Tryz.func401 [.t (tI n2)] (fun r => .t (tB r)) (
  .K (knock_intensity n2) fun v => .R (!v)) (by kernel_rfl)
noncomputable def slices_Clone_sKnock (s : List SKnock) : CG Tryz.prog (List SKnock) := .of Z Tryz.call402 Tryz.func402 [.t (tS enc_SKnock s)] [] (fun _ => .own 900000) (fun r => [(900000, .rs 237 3 r enc_SKnock)]) [900000] (
  .Nl enc_SKnock s (.I true (.Z (.np 2 70000 237 3 []) <| .R ([] : List SKnock)) .N) (fun s => .I false .N (.U (.ap enc_SKnock ([] : List SKnock) s 5) fun l => .R l))) (by kernel_rfl)
noncomputable def knock_step (k : SKnock) (n2 : Int) : C Tryz.prog (SKnock × Bool) := .of Z Tryz.call403 Tryz.func403 [A_SKnock k, .t (tI n2)] (fun r => .tup [A_SKnock r.1, .t (tB r.2)]) (
  .I (decide (n2 > (w64 ((w64 (3 * k.Noise)) + 40)))) (.R ((⟨minI (w64 (k.Retard + 96)) 960, k.Noise, 0⟩ : SKnock), true)) (.J0 0 (fun (t : Int × Int) => [.x 7, .x 19, .x 22, .x 23, .b 2 (.box [.t (tI t.1), .t (tI k.Noise), .t (tI t.2)])]) (.I ((w64 (k.Quiet + 1)) == 100) (.R (maxI (w64 (k.Retard - 16)) 0, 0)) (.R (k.Retard, w64 (k.Quiet + 1)))) fun s => .D [] [] <| .K (arith_Floor (w64 (n2 - k.Noise)) 8) fun v => .R ((⟨s.1, w64 (k.Noise + v), s.2⟩ : SKnock), false))) (by kernel_rfl)
noncomputable def knock_All_b1 (l : List SKnock) (intensities : List Int) (i : Int) (f2 : List SKnock) : M Tryz.prog (List SKnock × Int) (Fl (List SKnock) Empty) :=
  .D [] [(15, 2240)] <| .O (.ix enc_SKnock l i) fun x => .O (.ix Pv.encI intensities i) fun x2 => .K (knock_step x x2) fun r2 => .O (.ix enc_SKnock f2 i) fun _ => .U (.st enc_SKnock f2 i r2.1 0) fun l2 => .R (.next l2)
noncomputable def knock_All (l : List SKnock) (intensities : List Int) : C Tryz.prog (List SKnock × Int) := .of Z Tryz.call346 Tryz.func346 [.t (tS enc_SKnock l), .t (tS Pv.encI intensities)] (fun r => .tup [.t (tS enc_SKnock r.1), .t (tI r.2)]) (
  .G (((decide ((l.length : Int) < 1)) || (decide ((l.length : Int) > 8))) || ((intensities.length : Int) != (l.length : Int))) (.R true) (.K (slices_ContainsFunc_sKnock l (.of (fun z_ => knock_All_1 z_) 400 [] (fun _ => rfl) (fun _ => rfl) (fun _ => rfl))) fun v => .R v) fun b2 => .I b2 (.R (([] : List SKnock), 1)) (.K (slices_ContainsFunc_sint intensities (.of (fun z_ => knock_All_2 z_) 401 [] (fun _ => rfl) (fun _ => rfl) (fun _ => rfl))) fun v2 => .I v2 (.R (([] : List SKnock), 2)) (.KG (slices_Clone_sKnock l) [2240] fun v3 => M.QN (v3.length : Int) 2 33 (fun (t : List SKnock) => [.x 30, .x 31, .b 2240 (.rs 237 3 t enc_SKnock)]) 0 (.e) (knock_All_b1 l intensities) v3 (fun f3 => .R (f3, 0)) (fun t => t.elim)))) (by kernel_rfl)
noncomputable def spark_falls_1 (a : Int) (b2 : Int) : C Tryz.prog Int := .of Z Tryz.call455 Tryz.func455 [.t (tI a), .t (tI b2)] (fun r => .t (tI r)) (
  .R (w64 (b2 - a))) (by kernel_rfl)
noncomputable def spark_falls (l : List Int) : C Tryz.prog Bool := .of Z Tryz.call432 Tryz.func432 [.t (tS Pv.encI l)] (fun r => .t (tB r)) (
  .K (slices_IsSortedFunc_sint l (.of (fun z_ => spark_falls_1 z_.1 z_.2) 455 [] (fun _ => rfl) (fun _ => rfl) (fun _ => rfl))) fun v => .R v) (by kernel_rfl)
noncomputable def spark_within (x : Int) (low : Int) (high : Int) : C Tryz.prog Bool := .of Z Tryz.call405 Tryz.func405 [.t (tI x), .t (tI low), .t (tI high)] (fun r => .t (tB r)) (
  .R ((decide (x ≥ low)) && (decide (x ≤ high)))) (by kernel_rfl)
noncomputable def spark_outside_1 (x : Int) (c : Int) (c2 : Int) : C Tryz.prog Bool := .of Z Tryz.call456 Tryz.func456 [.t (tI x), .el (Pv.encI c), .el (Pv.encI c2)] (fun r => .t (tB r)) (
  .K (spark_within x c c2) fun v => .R (!v)) (by kernel_rfl)
noncomputable def spark_outside (l : List Int) (low : Int) (high : Int) : C Tryz.prog Bool := .of Z Tryz.call434 Tryz.func434 [.t (tS Pv.encI l), .t (tI low), .t (tI high)] (fun r => .t (tB r)) (
  .Z (.fb 4) <| .Z (.fb 5) <| .K (slices_ContainsFunc_sint l (.of (fun z_ => spark_outside_1 z_ low high) 456 [Pv.encI low, Pv.encI high] (fun _ => rfl) (fun _ => rfl) (fun _ => rfl))) fun v => .R v) (by kernel_rfl)
noncomputable def spark_right_1 (l : List Int) : C Tryz.prog Bool := .of Z Tryz.call433 Tryz.func433 [.t (tS Pv.encI l)] (fun r => .t (tB r)) (
  .K (spark_outside l (-1280) 3840) fun v => .R v) (by kernel_rfl)
noncomputable def spark_right (t2 : STables) : C Tryz.prog Bool := .of Z Tryz.call404 Tryz.func404 [A_STables t2] (fun r => .t (tB r)) (
  .K (surface_Valid t2.Spark) fun v => .G (!v) (.R true) (.K (curve_Valid t2.Dwell) fun v2 => .R (!v2)) fun b2 => .G b2 (.R true) (.K (curve_Valid t2.Efficiency) fun v3 => .R (!v3)) fun b3 => .G b3 (.R true) (.K (spark_falls t2.Efficiency.Y) fun v4 => .R (!v4)) fun b4 => .I b4 (.R false) (.K (slices_ContainsFunc_ssint t2.Spark.Z (.of (fun z_ => spark_right_1 z_) 433 [] (fun _ => rfl) (fun _ => rfl) (fun _ => rfl))) fun v5 => .G (!v5) (.K (spark_outside t2.Dwell.Y 500 10000) fun v6 => .R (!v6)) (.R false) fun b5 => .G b5 (.K (spark_outside t2.Efficiency.Y 0 1000) fun v7 => .R (!v7)) (.R false) fun b6 => .R b6)) (by kernel_rfl)
noncomputable def spark_Dwell (t2 : STables) (millivolts : Int) (ticks : Int) : C Tryz.prog (Int × Int) := .of Z Tryz.call347 Tryz.func347 [A_STables t2, .t (tI millivolts), .t (tI ticks)] (fun r => .tup [.t (tI r.1), .t (tI r.2)]) (
  .K (spark_right t2) fun v => .I (!v) (.R (0, 1)) (.K (spark_within millivolts 0 20000) fun v2 => .G (!v2) (.R true) (.K (spark_within ticks 4000 1000000) fun v3 => .R (!v3)) fun b2 => .I b2 (.R (0, 2)) (.K (curve_At t2.Dwell millivolts) fun v4 => .R (minI v4 (w64 (Int.tdiv (w64 (3 * ticks)) 4)), 0)))) (by kernel_rfl)
noncomputable def spark_Base (t2 : STables) (speed : Int) (charge : Int) : C Tryz.prog (Int × Int) := .of Z Tryz.call406 Tryz.func406 [A_STables t2, .t (tI speed), .t (tI charge)] (fun r => .tup [.t (tI r.1), .t (tI r.2)]) (
  .K (spark_right t2) fun v => .I (!v) (.R (0, 1)) (.K (spark_within speed 0 12000) fun v2 => .G (!v2) (.R true) (.K (spark_within charge 0 1048576) fun v3 => .R (!v3)) fun b2 => .I b2 (.R (0, 2)) (.K (surface_At t2.Spark speed charge) fun v4 => .R (v4, 0)))) (by kernel_rfl)
noncomputable def spark_Angle (t2 : STables) (speed : Int) (charge : Int) (coolant : Int) (retard : Int) : C Tryz.prog (Int × Int) := .of Z Tryz.call348 Tryz.func348 [A_STables t2, .t (tI speed), .t (tI charge), .t (tI coolant), .t (tI retard)] (fun r => .tup [.t (tI r.1), .t (tI r.2)]) (
  .K (spark_Base t2 speed charge) fun r2 => .I (r2.2 != 0) (.R (0, r2.2)) (.K (spark_within coolant (-40) 150) fun v => .G (!v) (.R true) (.K (spark_within retard 0 1280) fun v2 => .R (!v2)) fun b2 => .I b2 (.R (0, 2)) (.I (decide (coolant < 20)) (.K (arith_Clamp (w64 ((w64 (r2.1 + (w64 (2 * (w64 (20 - coolant)))))) - retard)) (-1280) 3840) fun v3 => .R (v3, 0)) (.I (decide (coolant > 100)) (.K (arith_Clamp (w64 ((w64 (r2.1 - (w64 (8 * (w64 (coolant - 100)))))) - retard)) (-1280) 3840) fun v4 => .R (v4, 0)) (.K (arith_Clamp (w64 (r2.1 - retard)) (-1280) 3840) fun v5 => .R (v5, 0)))))) (by kernel_rfl)
noncomputable def control_step_fires_b1 (r3 : Int × Int) (i : Int) (f2 : Scontrol_step) : M Tryz.prog Scontrol_step (Fl Scontrol_step Empty) :=
  .D [] [] <| .O (.ix enc_SKnock f2.c.Knock i) fun x => .K (spark_Angle f2.t f2.i.Speed f2.charge f2.i.Coolant x.Retard) fun r4 => .KG (control_step_note f2 r4.2) [] fun v4 => .O (.ix Pv.encB v4.pattern i) fun x2 => .J0 0 (fun (t : Int) => [.x 70, .x 71, .x 72, .x 74, .x 75, .x 76, .x 77, .x 79, .x 80, .x 81, .x 83, .x 84, .x 85, .x 86, .x 88, .x 89, .x 90, .x 91, .x 100, .x 106, .x 107, .x 108, .x 115, .x 116, .x 117, .c 8 4 [.t (tI t)]]) (.I x2 (.R v4.time) (.R 0)) fun f3 => .Pn 40000 <| .D [] [(8, 40000)] <| .U (.ap enc_SFire v4.out.Fires ([(⟨w64 (i + 1), maxI (-1280) (w64 (r4.1 - v4.late)), maxI 500 r3.1, 5760, f3, 0, 0⟩ : SFire)] : List SFire) 40000) fun l => .R (.next ({ v4 with out := (⟨v4.out.Throttle, l, v4.out.Torque⟩ : SOutputs) } : Scontrol_step))
noncomputable def control_step_fires (s : Scontrol_step) : CG Tryz.prog Scontrol_step := .of Z Tryz.call259 Tryz.func259 [.ptr 1000000 0] [(1000000, .box (lset (B_Scontrol_step s) [(63, .own 1000001)])), (1000001, .rs 293 7 s.out.Fires enc_SFire)] (fun _ => .tup []) (fun r => [(900000, .rs 293 7 r.out.Fires enc_SFire), (1000000, .box (lset (B_Scontrol_step r) [(63, .own 900000)]))]) [900000] (
  .D [] [(18, 1000000)] <| .K (knock_All s.c.Knock s.i.Intensity) fun r2 => .KG (control_step_note ({ s with c := (⟨s.c.Pedal, s.c.Idle, r2.1, s.c.Probe, s.c.Film, s.c.Grant⟩ : SControls) } : Scontrol_step) r2.2) [] fun v => .O (.quo .i64 60000000 (maxI 1 v.i.Speed)) fun q => .K (arith_Clamp q 4000 1000000) fun v2 => .D [] [] <| .K (spark_Dwell v.t v.i.Voltage v2) fun r3 => .KG (control_step_note v r3.2) [] fun v3 => .I (v3.fail != 0) (.R v3) (.Z (.rn [(1000001, 40000)]) <| M.QN (v3.e.Order.length : Int) 2 66 (fun (t : Scontrol_step) => [.x 10, .x 11, .x 12, .x 13, .x 14, .x 16, .x 17, .x 18, .x 19, .x 24, .x 25, .x 26, .x 27, .x 30, .x 31, .x 32, .x 33, .x 39, .x 40, .x 41, .x 43, .x 44, .x 45, .x 46, .x 52, .x 55, .x 56, .x 57, .x 60, .x 61, .x 62, .x 63, .b 40000 (.rs 293 7 t.out.Fires enc_SFire), .b 1000000 (.box (lset (B_Scontrol_step t) [(63, .own 40000)]))]) 0 (.e) (control_step_fires_b1 r3) v3 (fun f4 => .R f4) (fun t => t.elim))) (by kernel_rfl)
noncomputable def control_Step (t2 : STables) (e2 : SEngine) (b2 : SBody) (c : SControls) (i : SInputs) : CG Tryz.prog (SControls × SOutputs × Int) := .of Z Tryz.call178 Tryz.func178 [A_STables t2, A_SEngine e2, A_SBody b2, A_SControls c, A_SInputs i] [] (fun r => .tup [A_SControls r.1, .agg [.t (tI r.2.1.Throttle), .own 900000, .t (tI r.2.1.Torque)], .t (tI r.2.2)]) (fun r => [(900000, .rs 293 7 r.2.1.Fires enc_SFire)]) [900000] (
  .K (control_Valid t2) fun v => .G (!v) (.R true) (.K (plant_Valid b2) fun v2 => .R (!v2)) fun b3 => .G b3 (.R true) (.K (control_Good e2 c) fun v3 => .R (!v3)) fun b4 => .I b4 (.Z (.nb 11 70000 293 7 [1]) <| .R ((⟨(⟨0, 0, false⟩ : SPedal), (⟨0⟩ : SIntegral), ([] : List SKnock), (⟨false, false, 0, 0, ([] : List SCell)⟩ : SProbe), 0, (⟨0, 0⟩ : SGrant)⟩ : SControls), (⟨0, ([] : List SFire), 0⟩ : SOutputs), 1)) (.K (control_Check i (e2.Order.length : Int)) fun v4 => .I (!v4) (.Z (.nb 11 70000 293 7 [1]) <| .R ((⟨(⟨0, 0, false⟩ : SPedal), (⟨0⟩ : SIntegral), ([] : List SKnock), (⟨false, false, 0, 0, ([] : List SCell)⟩ : SProbe), 0, (⟨0, 0⟩ : SGrant)⟩ : SControls), (⟨0, ([] : List SFire), 0⟩ : SOutputs), 2)) (.Z (.nb 46 2388 293 7 [63]) <| .KG (control_step_torque (⟨t2, e2, b2, c, i, 0, 0, 0, 0, ([] : List Bool), 0, (⟨0, ([] : List SFire), 0⟩ : SOutputs), 0⟩ : Scontrol_step)) [] fun v5 => .KG (control_step_throttle v5) [] fun v6 => .KG (control_step_share v6) [] fun v7 => .KG (control_step_fuel v7) [] fun v8 => .KG (control_step_fires v8) [2448] fun v9 => .I (v9.fail != 0) (.D [] [(6, 10), (7, 11)] <| .Z (.nb 11 70000 293 7 [1]) <| .R ((⟨(⟨0, 0, false⟩ : SPedal), (⟨0⟩ : SIntegral), ([] : List SKnock), (⟨false, false, 0, 0, ([] : List SCell)⟩ : SProbe), 0, (⟨0, 0⟩ : SGrant)⟩ : SControls), (⟨0, ([] : List SFire), 0⟩ : SOutputs), v9.fail)) (.D [] [(8, 10)] <| .R (v9.c, v9.out, 0))))) (by kernel_rfl)
noncomputable def ecu_keep_Controls (old : SControls) : C Tryz.prog SControls := .of Z Tryz.call179 Tryz.func179 [A_SControls old] (fun r => .fz 260 [enc_SControls r]) (
  .Z (.fb 1) <| .R old) (by kernel_rfl)
noncomputable def ecu_keep_Outputs (old : SOutputs) : C Tryz.prog SOutputs := .of Z Tryz.call180 Tryz.func180 [A_SOutputs old] (fun r => .fz 261 [enc_SOutputs r]) (
  .Z (.fb 1) <| .R old) (by kernel_rfl)
noncomputable def ecu_keep_Controls_1 (v_next : SControls) (e2 : Int) (c : SControls) : C Tryz.prog SControls := .of Z Tryz.call260 Tryz.func260 [A_SControls v_next, .t (tI e2), .el (enc_SControls c)] (fun r => A_SControls r) (
  .I (e2 != 0) (.R c) (.R v_next)) (by kernel_rfl)
noncomputable def ecu_keep_Outputs_1 (v_next : SOutputs) (e2 : Int) (c : SOutputs) : CG Tryz.prog SOutputs := .of Z Tryz.call261 Tryz.func261 [.agg [.t (tI v_next.Throttle), .own 1000000, .t (tI v_next.Torque)], .t (tI e2), .el (enc_SOutputs c)] [(1000000, .rs 293 7 v_next.Fires enc_SFire)] (fun r => .agg [.t (tI r.Throttle), .own 900000, .t (tI r.Torque)]) (fun r => [(900000, .rs 293 7 r.Fires enc_SFire)]) [900000] (
  .I (e2 != 0) (M.N) (.R v_next)) (by kernel_rfl)
noncomputable def ecu_step_control (s : Secu_step) : CG Tryz.prog Secu_step := .of Z Tryz.call120 Tryz.func120 [.ptr 1000000 0] [(1000000, .box (lset (B_Secu_step s) [(107, .own 1000001), (113, .own 1000002)])), (1000001, .rs 293 7 s.outputs.Fires enc_SFire), (1000002, .rs 409 3 s.switches enc_SSwitch)] (fun _ => .tup []) (fun r => [(900000, .rs 293 7 r.outputs.Fires enc_SFire), (1000000, .box (lset (B_Secu_step r) [(107, .own 900000), (113, .own 1000002)])), (1000002, .rs 409 3 r.switches enc_SSwitch)]) [900000] (
  .D [] [] <| .K (ecu_step_reading s 0) fun v => .K (ecu_step_reading s 1) fun v2 => .Mk Pv.encI (s.u.Scheduler.Engine.Order.length : Int) 0 fun l => .K (ecu_step_request s) fun v3 => .Z (.fr 40) <| .Z (.fr 43) <| .D [] [(17, 2504), (24, 4), (25, 5)] <| .KG (control_Step s.u.Tables s.u.Scheduler.Engine s.u.Body s.u.Controls (⟨v, v2, s.speed, s.pressure, s.heat, 13500, s.probe, s.coolant, l, ([v3] : List SRequest)⟩ : SInputs)) [2504] fun r2 => .D [] [] <| .K (ecu_keep_Controls s.u.Controls) fun v4 => .K (ecu_keep_Controls_1 r2.1 r2.2.2 v4) fun v5 => .Pn 2504 <| .D [] [(5, 2504)] <| .K (ecu_keep_Outputs (⟨0, ([] : List SFire), 0⟩ : SOutputs)) fun v6 => .KG (ecu_keep_Outputs_1 r2.2.1 r2.2.2 v6) [2504] fun v7 => .R ({ s with u := (⟨s.u.Tables, v5, s.u.Scheduler, s.u.Sync, s.u.Phase, s.u.Filter, s.u.Guard, s.u.Quiz, s.u.Stage, s.u.Faults, s.u.Plant, s.u.Body, s.u.Time⟩ : SEcu), outputs := v7 } : Secu_step)) (by kernel_rfl)
noncomputable def monitor_Permitted_1 (r2 : SRequest) : C Tryz.prog Bool := .of Z Tryz.call265 Tryz.func265 [A_SRequest r2] (fun r => .t (tB r)) (
  .K (arbiter_Valid r2) fun v => .R (!v)) (by kernel_rfl)
noncomputable def monitor_around_b1 (axis : List Int) (x : Int) (i : Int) (below : Int) : M Tryz.prog (Int × Int) (Fl Int Empty) :=
  .O (.ix Pv.encI axis i) fun x2 => .I (decide (x2 ≤ x)) (.R (.next i)) (.R (.next below))
noncomputable def monitor_around_b2 (axis : List Int) (x : Int) (s : Int × Int) : M Tryz.prog (Int × Int) ((Int × Int) ⊕ ((Int × Int) ⊕ Empty)) :=
  .I (decide (s.1 ≥ 0)) (.O (.ix Pv.encI axis s.1) fun x3 => .I (decide (x3 ≥ x)) (.R (.inl (w64 (s.1 - 1), s.1))) (.R (.inl (w64 (s.1 - 1), s.2)))) (.R (.inr (.inl (s.1, s.2))))
noncomputable def monitor_around (axis : List Int) (x : Int) : C Tryz.prog (Int × Int) := .of Z Tryz.call351 Tryz.func351 [.t (tS Pv.encI axis), .t (tI x)] (fun r => .tup [.t (tI r.1), .t (tI r.2)]) (
  M.QN (axis.length : Int) 2 11 (fun (t : Int) => [.t 4 (.t (tI t))]) 0 (.e) (monitor_around_b1 axis x) 0 (fun below2 => .L (fun (t : Int × Int) => [.t 5 (.t (tI t.2)), .t 8 (.t (tI t.1))]) 2 (.e) (monitor_around_b2 axis x) (w64 ((axis.length : Int) - 1), w64 ((axis.length : Int) - 1)) (fun s2 => .O (.ix Pv.encI axis 0) fun x4 => .I (decide (x < x4)) (.R (below2, 0)) (.R (below2, s2.2))) (fun t => t.elim)) (fun t => t.elim)) (by kernel_rfl)
noncomputable def monitor_corner (m2 : SMap) (x : Int) (y : Int) : C Tryz.prog Int := .of Z Tryz.call267 Tryz.func267 [A_SMap m2, .t (tI x), .t (tI y)] (fun r => .t (tI r)) (
  .K (monitor_around m2.X x) fun r2 => .K (monitor_around m2.Y y) fun r3 => .D [] [] <| .O (.ix (Pv.encS Pv.encI) m2.Z r2.1) fun x2 => .O (.ix Pv.encI x2 r3.1) fun x3 => .W (.hx 1) <| .O (.ix Pv.encI x2 r3.2) fun x4 => .O (.ix (Pv.encS Pv.encI) m2.Z r2.2) fun x5 => .O (.ix Pv.encI x5 r3.1) fun x6 => .W (.hx 1) <| .O (.ix Pv.encI x5 r3.2) fun x7 => .R (maxI (maxI (maxI x3 x4) x6) x7)) (by kernel_rfl)
noncomputable def monitor_raises (r2 : SRequest) : C Tryz.prog Bool := .of Z Tryz.call268 Tryz.func268 [A_SRequest r2] (fun r => .t (tB r)) (
  .R ((r2.Kind == 2) || (r2.Kind == 3))) (by kernel_rfl)
end Go.Proofs.YtjhedhnghldjbaaGreatDoor
namespace Go.Proofs.YtjhedhnghldjbaaGreatDoor
open Go Go.Pv Go.Proofs
set_option maxRecDepth 100000
set_option maxHeartbeats 4000000
noncomputable def monitor_Permitted_b1 (_ : Int) (x : SRequest) (s : Int × Int) : M Tryz.prog (Int × Int) (Fl (Int × Int) Empty) :=
  .W (.hx 0) <| .K (monitor_raises x) fun v6 => .I (!v6) (.R (.next (s.1, s.2))) (.I (x.Source == 1) (.R (.next (maxI s.1 (minI x.Torque 1500), maxI s.2 x.Priority))) (.R (.next (s.1, maxI s.2 x.Priority))))
noncomputable def monitor_Permitted_b2 (s2 : Int × Int) (_ : Int) (x2 : SRequest) (limit : Int) : M Tryz.prog (Int × Int) (Fl Int Empty) :=
  .W (.hx 0) <| .I ((x2.Kind == 1) && (decide (x2.Priority > s2.2))) (.R (.next (minI limit x2.Torque))) (.R (.next limit))
noncomputable def monitor_Permitted (t2 : STables) (pedal : Int) (speed : Int) (l : List SRequest) : C Tryz.prog (Int × Int) := .of Z Tryz.call182 Tryz.func182 [A_STables t2, .t (tI pedal), .t (tI speed), .t (tS enc_SRequest l)] (fun r => .tup [.t (tI r.1), .t (tI r.2)]) (
  .K (surface_Valid t2.Wish) fun v => .G (!v) (.R true) (.K (slices_ContainsFunc_sRequest l (.of (fun z_ => monitor_Permitted_1 z_) 265 [] (fun _ => rfl) (fun _ => rfl) (fun _ => rfl))) fun v2 => .R v2) fun b2 => .I b2 (.R (0, 1)) (.I (decide ((l.length : Int) > 32)) (.R (0, 5)) (.K (monitor_within pedal 0 1000) fun v3 => .G (!v3) (.R true) (.K (monitor_within speed 0 12000) fun v4 => .R (!v4)) fun b3 => .I b3 (.R (0, 2)) (.K (monitor_corner t2.Wish speed pedal) fun v5 => M.Q enc_SRequest l 2 49 (fun (t : Int × Int) => [.t 11 (.t (tI t.1)), .t 12 (.t (tI t.2)), .x 4, .x 19, .x 40, .d 4]) 1 (.e) (monitor_Permitted_b1) ((-5000), (-1)) (fun s2 => M.Q enc_SRequest l 2 71 (fun (t : Int) => [.t 15 (.t (tI t))]) 3 (.e) (monitor_Permitted_b2 s2) 10000 (fun limit2 => .R (w64 ((maxI 0 (minI limit2 (maxI (minI (maxI v5 (-5000)) 10000) s2.1))) + 100), 0)) (fun t => t.elim)) (fun t => t.elim))))) (by kernel_rfl)
noncomputable def monitor_Actual_b1 (_ : Int) (x : SFire) (n2 : Int) : M Tryz.prog (Int × Int) (Fl Int Empty) :=
  .W (.hx 0) <| .I (x.Inject != 0) (.R (.next (w64 (n2 + 1)))) (.R (.next n2))
noncomputable def monitor_Actual (t2 : STables) (speed : Int) (charge : Int) (l : List SFire) : C Tryz.prog (Int × Int) := .of Z Tryz.call185 Tryz.func185 [A_STables t2, .t (tI speed), .t (tI charge), .t (tS enc_SFire l)] (fun r => .tup [.t (tI r.1), .t (tI r.2)]) (
  .K (surface_Valid t2.Torque) fun v => .I (!v) (.R (0, 1)) (.I (decide ((l.length : Int) > 8)) (.R (0, 5)) (.K (monitor_within speed 0 12000) fun v2 => .G (!v2) (.R true) (.K (monitor_within charge 0 1048576) fun v3 => .R (!v3)) fun b2 => .I b2 (.R (0, 2)) (.I ((l.length : Int) == 0) (.R (0, 0)) (M.Q enc_SFire l 2 38 (fun (t : Int) => [.t 10 (.t (tI t)), .x 15]) 1 (.e) (monitor_Actual_b1) 0 (fun n3 => .K (monitor_corner t2.Torque speed charge) fun v4 => .O (.quo .i64 (w64 ((w64 ((w64 ((minI (maxI v4 0) 10000) * n3)) + (l.length : Int))) - 1)) (l.length : Int)) fun q => .R (q, 0)) (fun t => t.elim)))))) (by kernel_rfl)
noncomputable def ecu_step_monitor_1 (c : Secu_step) : CG Tryz.prog Int := .of Z Tryz.call184 Tryz.func184 [.ptr 1000000 0] [(1000000, .box [.ptr 1000001 0]), (1000001, .box (lset (B_Secu_step c) [(107, .own 1000002), (113, .own 1000003)])), (1000002, .rs 293 7 c.outputs.Fires enc_SFire), (1000003, .rs 409 3 c.switches enc_SSwitch)] (fun r => .t (tI r)) (fun _ => [(1000000, .box [.ptr 1000001 0]), (1000001, .box (lset (B_Secu_step c) [(107, .own 1000002), (113, .own 1000003)])), (1000002, .rs 293 7 c.outputs.Fires enc_SFire), (1000003, .rs 409 3 c.switches enc_SSwitch)]) [] (
  .D [] [] <| .K (monitor_Actual c.u.Tables c.speed c.charge c.outputs.Fires) fun r2 => .R r2.1) (by kernel_rfl)
noncomputable def ecu_keep_Guard (old : SGuard) : C Tryz.prog SGuard := .of Z Tryz.call187 Tryz.func187 [A_SGuard old] (fun r => .fz 270 [enc_SGuard r]) (
  .Z (.fb 1) <| .R old) (by kernel_rfl)
noncomputable def monitor_Step_1 (t2 : Int) : C Tryz.prog Bool := .of Z Tryz.call271 Tryz.func271 [.t (tI t2)] (fun r => .t (tB r)) (
  .K (monitor_within t2 (-20000) 20000) fun v => .R v) (by kernel_rfl)
noncomputable def monitor_Step (g : SGuard) (permitted : Int) (actual : Int) : C Tryz.prog (SGuard × Int) := .of Z Tryz.call188 Tryz.func188 [A_SGuard g, .t (tI permitted), .t (tI actual)] (fun r => .tup [A_SGuard r.1, .t (tI r.2)]) (
  .K (monitor_Valid g) fun v => .I (!v) (.R ((⟨0, 0, false⟩ : SGuard), 1)) (.K (monitor_Step_1 permitted) fun v2 => .G (!v2) (.R true) (.K (monitor_Step_1 actual) fun v3 => .R (!v3)) fun b2 => .I b2 (.R ((⟨0, 0, false⟩ : SGuard), 2)) (.I (decide (actual > permitted)) (.R ((⟨minI 5 (w64 (g.Over + 1)), 0, (g.Off || ((minI 5 (w64 (g.Over + 1))) == 5))⟩ : SGuard), 0)) (.R ((⟨0, minI 1000 (w64 (g.Calm + 1)), g.Off⟩ : SGuard), 0))))) (by kernel_rfl)
noncomputable def ecu_keep_Guard_1 (v_next : SGuard) (e2 : Int) (c : SGuard) : C Tryz.prog SGuard := .of Z Tryz.call270 Tryz.func270 [A_SGuard v_next, .t (tI e2), .el (enc_SGuard c)] (fun r => A_SGuard r) (
  .I (e2 != 0) (.R c) (.R v_next)) (by kernel_rfl)
noncomputable def ecu_step_monitor_b1 (i : Int) (f3 : List SFire) : M Tryz.prog Secu_step (Fl (List SFire) Empty) :=
  .O (.ix enc_SFire f3 i) fun x => .U (.st enc_SFire f3 i ({ x with Inject := 0 } : SFire) 0) fun l2 => .R (.next l2)
noncomputable def ecu_step_monitor (s : Secu_step) : CG Tryz.prog Secu_step := .of Z Tryz.call121 Tryz.func121 [.ptr 1000000 0] [(1000000, .box (lset (B_Secu_step s) [(107, .own 1000001), (113, .own 1000002)])), (1000001, .rs 293 7 s.outputs.Fires enc_SFire), (1000002, .rs 409 3 s.switches enc_SSwitch)] (fun _ => .tup []) (fun r => [(1000000, .box (lset (B_Secu_step r) [(107, .own 1000001), (113, .own 1000002)])), (1000001, .rs 293 7 r.outputs.Fires enc_SFire), (1000002, .rs 409 3 r.switches enc_SSwitch)]) [] (
  .K (ecu_step_request s) fun v => .D [] [] <| .K (idle_Active s.u.Controls.Pedal.Value s.speed s.coolant) fun v2 => .J0 0 (fun (t : List SRequest) => [.t 2 (.own 11), .x 0, .x 9, .x 11, .x 12, .x 13, .x 14, .x 15, .x 16, .x 17, .x 20, .x 21, .x 22, .x 24, .x 25, .x 26, .b 11 (.rs 276 4 t enc_SRequest)]) (.I v2 (.U (.ap enc_SRequest ([v] : List SRequest) ([(⟨1, 2, 1500, 1⟩ : SRequest)] : List SRequest) 11) fun l => .R l) (.R ([v] : List SRequest))) fun f2 => .D [] [(18, 1000000)] <| .K (monitor_Permitted s.u.Tables s.u.Controls.Pedal.Value s.speed f2) fun r2 => .D [] [(24, 1000000)] <| .K (air_Charge s.u.Tables s.speed s.pressure s.heat) fun r3 => .KG (ecu_step_monitor_1 ({ s with permitted := r2.1, charge := r3.1 } : Secu_step)) [] fun v3 => .K (ecu_step_broken ({ s with permitted := r2.1, charge := r3.1 } : Secu_step) 7) fun r4 => .J0 0 (fun (t : Int × Bool × List SFire) => [.t 5 (.t (tI t.1)), .x 2, .x 4, .x 34, .x 35, .x 36, .x 37, .x 38, .x 41, .x 42, .x 43, .x 45, .x 49, .x 50, .x 52, .x 53, .x 54, .x 55, .x 56, .x 58, .x 59, .x 60, .x 62, .x 63, .x 64, .x 66, .x 67, .x 68, .x 73, .x 74, .x 75, .x 76, .x 79, .x 84, .x 85, .x 86, .c 1000000 112 [.t (tB t.2.1)], .b 1000001 (.rs 293 7 t.2.2 enc_SFire), .d 11]) (.I ((decide (v3 > r2.1)) && (!r4.2)) (M.QN (s.outputs.Fires.length : Int) 2 102 (fun (t : List SFire) => [.x 2, .x 34, .x 35, .x 36, .x 37, .x 38, .x 41, .x 42, .x 43, .x 45, .x 49, .x 50, .x 52, .x 53, .x 54, .x 55, .x 56, .x 58, .x 59, .x 60, .x 62, .x 63, .x 64, .x 66, .x 67, .x 68, .x 73, .x 74, .x 75, .x 76, .x 79, .x 84, .x 85, .x 86, .x 93, .x 94, .x 95, .x 96, .x 97, .x 98, .x 99, .x 100, .b 1000001 (.rs 293 7 t enc_SFire), .d 11]) 0 (.e) (ecu_step_monitor_b1) s.outputs.Fires (fun f4 => .KG (ecu_step_monitor_1 ({ s with outputs := (⟨s.outputs.Throttle, f4, s.outputs.Torque⟩ : SOutputs), permitted := r2.1, charge := r3.1, cut := true } : Secu_step)) [] fun v4 => .R (v4, true, f4)) (fun t => t.elim)) (.R (v3, s.cut, s.outputs.Fires))) fun s2 => .D [] [] <| .K (ecu_keep_Guard s.u.Guard) fun v5 => .K (monitor_Step s.u.Guard r2.1 s2.1) fun r5 => .K (ecu_keep_Guard_1 r5.1 r5.2 v5) fun v6 => .R ({ s with u := (⟨s.u.Tables, s.u.Controls, s.u.Scheduler, s.u.Sync, s.u.Phase, s.u.Filter, v6, s.u.Quiz, s.u.Stage, s.u.Faults, s.u.Plant, s.u.Body, s.u.Time⟩ : SEcu), outputs := (⟨s.outputs.Throttle, s2.2.2, s.outputs.Torque⟩ : SOutputs), permitted := r2.1, charge := r3.1, cut := s2.2.1 } : Secu_step)) (by kernel_rfl)
noncomputable def arith_Mod (a : Int) (b2 : Int) : C Tryz.prog Int := .of Z Tryz.call189 Tryz.func189 [.t (tI a), .t (tI b2)] (fun r => .t (tI r)) (
  .I ((b2 == 0) || (b2 == (-1))) (.R 0) (.O (.rem a b2) fun q => .I ((q != 0) && (!((decide (q < 0)) == (decide (b2 < 0))))) (.R (w64 (q + b2))) (.R q))) (by kernel_rfl)
noncomputable def quiz_word (n2 : Int) : C Tryz.prog Bool := .of Z Tryz.call274 Tryz.func274 [.t (tI n2)] (fun r => .t (tB r)) (
  .R ((decide (n2 ≥ 0)) && (decide (n2 ≤ 65535)))) (by kernel_rfl)
noncomputable def quiz_parts_1 (p2 : Int) : C Tryz.prog Bool := .of Z Tryz.call354 Tryz.func354 [.t (tI p2)] (fun r => .t (tB r)) (
  .K (quiz_word p2) fun v => .R (!v)) (by kernel_rfl)
noncomputable def quiz_parts (l : List Int) : C Tryz.prog Bool := .of Z Tryz.call272 Tryz.func272 [.t (tS Pv.encI l)] (fun r => .t (tB r)) (
  .G ((decide ((l.length : Int) ≥ 1)) && (decide ((l.length : Int) ≤ 16))) (.K (slices_ContainsFunc_sint l (.of (fun z_ => quiz_parts_1 z_) 354 [] (fun _ => rfl) (fun _ => rfl) (fun _ => rfl))) fun v => .R (!v)) (.R false) fun b2 => .R b2) (by kernel_rfl)
noncomputable def quiz_Answer_b1 (_ : Int) (x : Int) (a : Int) : M Tryz.prog (Int × Int) (Fl Int Empty) :=
  .W (.hx 0) <| .R (.next (bitAnd .i64 (w64 ((w64 ((w64 (5 * a)) + x)) + 1)) 65535))
noncomputable def quiz_Answer (n2 : Int) (l : List Int) : C Tryz.prog (Int × Int) := .of Z Tryz.call190 Tryz.func190 [.t (tI n2), .t (tS Pv.encI l)] (fun r => .tup [.t (tI r.1), .t (tI r.2)]) (
  .K (quiz_parts l) fun v => .I (!v) (.R (0, 1)) (.K (quiz_question n2) fun v2 => .I (!v2) (.R (0, 2)) (M.Q Pv.encI l 2 18 (fun (t : Int) => [.t 6 (.t (tI t))]) 0 (.e) (quiz_Answer_b1) n2 (fun a2 => .R (a2, 0)) (fun t => t.elim)))) (by kernel_rfl)
noncomputable def ecu_keep_Quiz (old : SQuiz) : C Tryz.prog SQuiz := .of Z Tryz.call191 Tryz.func191 [A_SQuiz old] (fun r => .fz 273 [enc_SQuiz r]) (
  .Z (.fb 1) <| .R old) (by kernel_rfl)
noncomputable def quiz_end (q : SQuiz) (right : Bool) : C Tryz.prog SQuiz := .of Z Tryz.call275 Tryz.func275 [A_SQuiz q, .t (tB right)] (fun r => A_SQuiz r) (
  .J0 0 (fun (t : Int) => [.x 5, .x 6, .c 2 2 [.t (tI t)]]) (.I right (.R (maxI (w64 (q.Errors - 1)) 0)) (.R (minI (w64 (q.Errors + 2)) 7))) fun f2 => .R (⟨q.Question, 0, f2, false, (f2 == 7)⟩ : SQuiz)) (by kernel_rfl)
noncomputable def quiz_Reply (q : SQuiz) (now : Int) (answer : Int) (l : List Int) : C Tryz.prog (SQuiz × Int) := .of Z Tryz.call192 Tryz.func192 [A_SQuiz q, .t (tI now), .t (tI answer), .t (tS Pv.encI l)] (fun r => .tup [A_SQuiz r.1, .t (tI r.2)]) (
  .K (quiz_Valid q) fun v => .G (!v) (.R true) (.K (quiz_parts l) fun v2 => .R (!v2)) fun b2 => .I b2 (.R ((⟨0, 0, 0, false, false⟩ : SQuiz), 1)) (.K (quiz_instant now) fun v3 => .G (!v3) (.R true) (.K (quiz_word answer) fun v4 => .R (!v4)) fun b3 => .I b3 (.R ((⟨0, 0, 0, false, false⟩ : SQuiz), 2)) (.I (!q.Open) (.R ((⟨0, 0, 0, false, false⟩ : SQuiz), 6)) (.I (decide (now < q.Asked)) (.R ((⟨0, 0, 0, false, false⟩ : SQuiz), 16)) (.K (quiz_Answer q.Question l) fun r2 => .K (quiz_end q (((r2.1 == answer) && (decide ((w64 (now - q.Asked)) ≥ 10000))) && (decide ((w64 (now - q.Asked)) ≤ 20000)))) fun v5 => .R (v5, 0)))))) (by kernel_rfl)
noncomputable def quiz_Next (n2 : Int) : C Tryz.prog Int := .of Z Tryz.call276 Tryz.func276 [.t (tI n2)] (fun r => .t (tI r)) (
  .K (quiz_question n2) fun v => .I (!v) (.R 0) (.I ((bitAnd .i64 n2 1) == 1) (.R (bitXor .i64 (bitShr .i64 n2 1) 46080)) (.R (bitShr .i64 n2 1)))) (by kernel_rfl)
noncomputable def quiz_Ask (q : SQuiz) (now : Int) : C Tryz.prog (SQuiz × Int × Int) := .of Z Tryz.call193 Tryz.func193 [A_SQuiz q, .t (tI now)] (fun r => .tup [A_SQuiz r.1, .t (tI r.2.1), .t (tI r.2.2)]) (
  .K (quiz_Valid q) fun v => .I (!v) (.R ((⟨0, 0, 0, false, false⟩ : SQuiz), 0, 1)) (.K (quiz_instant now) fun v2 => .I (!v2) (.R ((⟨0, 0, 0, false, false⟩ : SQuiz), 0, 2)) (.I (q.Open || q.Off) (.R ((⟨0, 0, 0, false, false⟩ : SQuiz), 0, 6)) (.K (quiz_Next q.Question) fun v3 => .D [] [(3, 4)] <| .R ((⟨v3, now, q.Errors, true, q.Off⟩ : SQuiz), v3, 0))))) (by kernel_rfl)
noncomputable def ecu_keep_Quiz_1 (v_next : SQuiz) (e2 : Int) (c : SQuiz) : C Tryz.prog SQuiz := .of Z Tryz.call273 Tryz.func273 [A_SQuiz v_next, .t (tI e2), .el (enc_SQuiz c)] (fun r => A_SQuiz r) (
  .I (e2 != 0) (.R c) (.R v_next)) (by kernel_rfl)
noncomputable def ecu_step_ask (s : Secu_step) : CG Tryz.prog Secu_step := .of Z Tryz.call122 Tryz.func122 [.ptr 1000000 0] [(1000000, .box (lset (B_Secu_step s) [(113, .own 1000001)])), (1000001, .rs 409 3 s.switches enc_SSwitch)] (fun _ => .tup []) (fun r => [(1000000, .box (lset (B_Secu_step r) [(113, .own 1000001)])), (1000001, .rs 409 3 r.switches enc_SSwitch)]) [] (
  .J0 0 (fun (t : SQuiz) => [.x 10, .x 11, .x 12, .x 13, .x 14, .c 1000000 66 [.t (tI t.Question), .t (tI t.Asked), .t (tI t.Errors), .t (tB t.Open), .t (tB t.Off)]]) (.I s.u.Quiz.Open (.D [] [] <| .K (arith_Mod s.permitted 65536) fun v => .K (quiz_Answer s.u.Quiz.Question ([s.speed, v, 7] : List Int)) fun r2 => .K (ecu_step_broken s 6) fun r3 => .J0 0 (fun (t : Int) => [.t 3 (.t (tI t)), .x 10, .x 11, .x 12, .x 13, .x 14, .x 16, .x 17, .x 18, .x 20, .x 21, .x 22, .x 25, .x 27, .x 28, .x 29, .x 30, .x 31, .x 33, .x 38]) (.I r3.2 (.K (arith_Mod (w64 (r2.1 + r3.1)) 65536) fun v2 => .R v2) (.R r2.1)) fun answer => .D [] [] <| .K (ecu_keep_Quiz s.u.Quiz) fun v3 => .K (quiz_Reply s.u.Quiz s.t answer ([s.speed, v, 7] : List Int)) fun r4 => .K (ecu_keep_Quiz_1 r4.1 r4.2 v3) fun v4 => .R v4) (.R s.u.Quiz)) fun f2 => .D [] [(15, 7)] <| .K (quiz_Ask f2 s.t) fun r5 => .D [] [] <| .K (ecu_keep_Quiz f2) fun v5 => .K (ecu_keep_Quiz_1 r5.1 r5.2.2 v5) fun v6 => .R ({ s with u := (⟨s.u.Tables, s.u.Controls, s.u.Scheduler, s.u.Sync, s.u.Phase, s.u.Filter, s.u.Guard, v6, s.u.Stage, s.u.Faults, s.u.Plant, s.u.Body, s.u.Time⟩ : SEcu) } : Secu_step)) (by kernel_rfl)
noncomputable def ecu_keep_Stage (old : SStage) : C Tryz.prog SStage := .of Z Tryz.call194 Tryz.func194 [A_SStage old] (fun r => .fz 277 [enc_SStage r]) (
  .Z (.fb 1) <| .R old) (by kernel_rfl)
noncomputable def stage_cause (key : Bool) (g : SGuard) (q : SQuiz) : C Tryz.prog Int := .of Z Tryz.call278 Tryz.func278 [.t (tB key), A_SGuard g, A_SQuiz q] (fun r => .t (tI r)) (
  .I (!key) (.R 1) (.I g.Off (.R 2) (.I q.Off (.R 3) (.R 0)))) (by kernel_rfl)
noncomputable def stage_Step (s : SStage) (key : Bool) (g : SGuard) (q : SQuiz) (now : Int) : C Tryz.prog (SStage × Int) := .of Z Tryz.call195 Tryz.func195 [A_SStage s, .t (tB key), A_SGuard g, A_SQuiz q, .t (tI now)] (fun r => .tup [A_SStage r.1, .t (tI r.2)]) (
  .K (stage_Valid s) fun v => .G (!v) (.R true) (.K (monitor_Valid g) fun v2 => .R (!v2)) fun b2 => .G b2 (.R true) (.K (quiz_Valid q) fun v3 => .R (!v3)) fun b3 => .I b3 (.R ((⟨false, 0, 0⟩ : SStage), 1)) (.K (stage_time now) fun v4 => .I (!v4) (.R ((⟨false, 0, 0⟩ : SStage), 2)) (.I (decide (now < s.Since)) (.R ((⟨false, 0, 0⟩ : SStage), 16)) (.D [] [] <| .K (stage_cause key g q) fun v5 => .I (!((v5 == 0) == s.Enabled)) (.R ((⟨(v5 == 0), v5, now⟩ : SStage), 0)) (.R ((⟨(v5 == 0), v5, s.Since⟩ : SStage), 0)))))) (by kernel_rfl)
noncomputable def ecu_keep_Scheduler (old : SScheduler) : C Tryz.prog SScheduler := .of Z Tryz.call198 Tryz.func198 [A_SScheduler old] (fun r => .fz 284 [enc_SScheduler r]) (
  .Z (.fb 1) <| .R old) (by kernel_rfl)
noncomputable def ecu_keep_Scheduler_1 (v_next : SScheduler) (e2 : Int) (c : SScheduler) : C Tryz.prog SScheduler := .of Z Tryz.call284 Tryz.func284 [A_SScheduler v_next, .t (tI e2), .el (enc_SScheduler c)] (fun r => A_SScheduler r) (
  .I (e2 != 0) (.R c) (.R v_next)) (by kernel_rfl)
noncomputable def ecu_step_take (s : Secu_step) (v_next : SScheduler) (l : List SSwitch) (e2 : Int) : CG Tryz.prog Secu_step := .of Z Tryz.call196 Tryz.func196 [.ptr 1000000 0, A_SScheduler v_next, .t (tS enc_SSwitch l), .t (tI e2)] [(1000000, .box (lset (B_Secu_step s) [(113, .own 1000001)])), (1000001, .rs 409 3 s.switches enc_SSwitch)] (fun _ => .tup []) (fun r => [(900000, .rs 409 3 r.switches enc_SSwitch), (1000000, .box (lset (B_Secu_step r) [(113, .own 900000)]))]) [900000] (
  .D [] [] <| .K (ecu_keep_Scheduler s.u.Scheduler) fun v => .K (ecu_keep_Scheduler_1 v_next e2 v) fun v2 => .I (e2 == 0) (.Z (.rn [(1000001, 2232)]) <| .U (.ap enc_SSwitch s.switches l 2232) fun l2 => .R ({ s with u := (⟨s.u.Tables, s.u.Controls, v2, s.u.Sync, s.u.Phase, s.u.Filter, s.u.Guard, s.u.Quiz, s.u.Stage, s.u.Faults, s.u.Plant, s.u.Body, s.u.Time⟩ : SEcu), switches := l2 } : Secu_step)) (.R ({ s with u := (⟨s.u.Tables, s.u.Controls, v2, s.u.Sync, s.u.Phase, s.u.Filter, s.u.Guard, s.u.Quiz, s.u.Stage, s.u.Faults, s.u.Plant, s.u.Body, s.u.Time⟩ : SEcu) } : Secu_step))) (by kernel_rfl)
noncomputable def slices_Clone_sFire (s : List SFire) : C Tryz.prog (List SFire) := .of Z Tryz.call286 Tryz.func286 [.t (tS enc_SFire s)] (fun r => .t (tS enc_SFire r)) (
  .Nl enc_SFire s (.I true (.R ([] : List SFire)) .N) (fun s => .I false .N (.U (.ap enc_SFire ([] : List SFire) s 5) fun l => .R l))) (by kernel_rfl)
noncomputable def slices_Clone_sJob (s : List SJob) : CG Tryz.prog (List SJob) := .of Z Tryz.call355 Tryz.func355 [.t (tS enc_SJob s)] [] (fun _ => .own 900000) (fun r => [(900000, .rs 248 7 r enc_SJob)]) [900000] (
  .Nl enc_SJob s (.I true (.Z (.np 2 70000 248 7 []) <| .R ([] : List SJob)) .N) (fun s => .I false .N (.U (.ap enc_SJob ([] : List SJob) s 5) fun l => .R l))) (by kernel_rfl)
noncomputable def scheduler_copyOf (s : SScheduler) : CG Tryz.prog SScheduler := .of Z Tryz.call279 Tryz.func279 [A_SScheduler s] [] (fun r => .agg [.t (tS Pv.encI r.Engine.Order), .t (tI r.Engine.First), .t (tB r.Clock.Valid), .t (tI r.Clock.At), .t (tI r.Clock.Angle), .t (tI r.Clock.Period), .t (tI r.Clock.Space), .t (tI r.Clock.Ahead), .t (tI r.Timer.Now), .t (tS enc_SChannel r.Timer.Channels), .t (tS enc_SFire r.Next), .own 900000, .t (tB r.Cut)]) (fun r => [(900000, .rs 248 7 r.Jobs enc_SJob)]) [900000] (
  .KG (slices_Clone_sJob s.Jobs) [2040] fun v => .K (slices_Clone_sFire s.Next) fun v2 => .R ({ s with Next := v2, Jobs := v } : SScheduler)) (by kernel_rfl)
noncomputable def timer_begin (t2 : STimer) (channel : Int) : CG Tryz.prog (STimer × Int) := .of Z Tryz.call356 Tryz.func356 [A_STimer t2, .t (tI channel)] [] (fun r => .tup [.agg [.t (tI r.1.Now), .own 900000], .t (tI r.2)]) (fun r => [(900000, .rs 351 4 r.1.Channels enc_SChannel)]) [900000] (
  .K (timer_Valid t2) fun v => .I (!v) (.Z (.nb 4 70000 351 4 [1]) <| .R ((⟨0, ([] : List SChannel)⟩ : STimer), 1)) (.I ((decide (channel < 0)) || (decide (channel ≥ (t2.Channels.length : Int)))) (.Z (.nb 4 70000 351 4 [1]) <| .R ((⟨0, ([] : List SChannel)⟩ : STimer), 2)) (.Mk enc_SChannel (t2.Channels.length : Int) (⟨false, 0, false, false⟩ : SChannel) fun l => .U (.cp enc_SChannel l t2.Channels) fun l2 => .R ((⟨t2.Now, l2⟩ : STimer), 0)))) (by kernel_rfl)
noncomputable def timer_Force (t2 : STimer) (channel : Int) (level : Bool) : C Tryz.prog (STimer × List SSwitch × Int) := .of Z Tryz.call280 Tryz.func280 [A_STimer t2, .t (tI channel), .t (tB level)] (fun r => .tup [A_STimer r.1, .t (tS enc_SSwitch r.2.1), .t (tI r.2.2)]) (
  .KG (timer_begin t2 channel) [2112] fun r2 => .I (r2.2 != 0) (.R ((⟨0, ([] : List SChannel)⟩ : STimer), ([] : List SSwitch), r2.2)) (.O (.ix enc_SChannel r2.1.Channels channel) fun _ => .U (.st enc_SChannel r2.1.Channels channel (⟨false, 0, false, level⟩ : SChannel) 0) fun l => .O (.ix enc_SChannel t2.Channels channel) fun x2 => .I (x2.Level == level) (.R ((⟨r2.1.Now, l⟩ : STimer), ([] : List SSwitch), 0)) (.D [] [(7, 6)] <| .R ((⟨r2.1.Now, l⟩ : STimer), ([(⟨t2.Now, channel, level⟩ : SSwitch)] : List SSwitch), 0)))) (by kernel_rfl)
noncomputable def timer_Disarm (t2 : STimer) (channel : Int) : C Tryz.prog (STimer × Int) := .of Z Tryz.call281 Tryz.func281 [A_STimer t2, .t (tI channel)] (fun r => .tup [A_STimer r.1, .t (tI r.2)]) (
  .KG (timer_begin t2 channel) [2088] fun r2 => .I (r2.2 != 0) (.R ((⟨0, ([] : List SChannel)⟩ : STimer), r2.2)) (.D [] [] <| .O (.ix enc_SChannel t2.Channels channel) fun x => .O (.ix enc_SChannel r2.1.Channels channel) fun _ => .U (.st enc_SChannel r2.1.Channels channel (⟨false, 0, false, x.Level⟩ : SChannel) 0) fun l => .R ((⟨r2.1.Now, l⟩ : STimer), 0))) (by kernel_rfl)
noncomputable def scheduler_Cut_1 (j : SJob) (c : Int) : C Tryz.prog Bool := .of Z Tryz.call282 Tryz.func282 [A_SJob j, .el (Pv.encI c)] (fun r => .t (tB r)) (
  .D [] [] <| .K (scheduler_channelOf j.Event) fun v => .R (v == c)) (by kernel_rfl)
noncomputable def timer_Arm (t2 : STimer) (channel : Int) (v_at : Int) (level : Bool) : C Tryz.prog (STimer × Int) := .of Z Tryz.call283 Tryz.func283 [A_STimer t2, .t (tI channel), .t (tI v_at), .t (tB level)] (fun r => .tup [A_STimer r.1, .t (tI r.2)]) (
  .KG (timer_begin t2 channel) [2120] fun r2 => .I (r2.2 != 0) (.R ((⟨0, ([] : List SChannel)⟩ : STimer), r2.2)) (.I (decide (v_at ≤ t2.Now)) (.R ((⟨0, ([] : List SChannel)⟩ : STimer), 16)) (.I (decide (v_at > 1099511627776)) (.R ((⟨0, ([] : List SChannel)⟩ : STimer), 2)) (.D [] [] <| .O (.ix enc_SChannel t2.Channels channel) fun x => .O (.ix enc_SChannel r2.1.Channels channel) fun _ => .U (.st enc_SChannel r2.1.Channels channel (⟨true, v_at, level, x.Level⟩ : SChannel) 0) fun l => .R ((⟨r2.1.Now, l⟩ : STimer), 0))))) (by kernel_rfl)
noncomputable def scheduler_Cut_b1 (s : SScheduler) (i : Int) (s2 : List SSwitch × STimer × List SJob) : M Tryz.prog (SScheduler × List SSwitch × Int) (Fl (List SSwitch × STimer × List SJob) Empty) :=
  .O (.ix enc_SChannel s.Timer.Channels i) fun x => .I (x.Level && ((!((Int.tmod i 2) == 0)) || (s.Timer.Now == 1099511627776))) (.K (timer_Force s2.2.1 i false) fun r2 => .U (.ap enc_SSwitch s2.1 r2.2.1 2528) fun l => .R (.next (l, r2.1, s2.2.2))) (.K (timer_Disarm s2.2.1 i) fun r3 => .I (!x.Level) (.R (.next (s2.1, r3.1, s2.2.2))) (.Z (.fb 8) <| .K (slices_IndexFunc_sJob s.Jobs (.of (fun z_ => scheduler_Cut_1 z_ i) 282 [Pv.encI i] (fun _ => rfl) (fun _ => rfl) (fun _ => rfl))) fun v3 => .O (.ix enc_SJob s.Jobs v3) fun x2 => .J0 0 (fun (t : Int) => [.x 9, .x 44, .x 68, .x 75, .x 76, .x 79, .x 83, .x 88, .c 17 6 [.t (tI t)], .d 9]) (.I ((!x2.Armed) || (decide (x2.At > (w64 (s.Timer.Now + 5000))))) (.R (minI (w64 (s.Timer.Now + 5000)) 1099511627776)) (.R x2.At)) fun f2 => .K (timer_Arm r3.1 i f2 false) fun r4 => .U (.ap enc_SJob s2.2.2 ([(⟨x2.Event, x2.Left, true, f2⟩ : SJob)] : List SJob) 2944) fun l2 => .R (.next (s2.1, r4.1, l2))))
noncomputable def scheduler_Cut (s : SScheduler) : C Tryz.prog (SScheduler × List SSwitch × Int) := .of Z Tryz.call197 Tryz.func197 [A_SScheduler s] (fun r => .tup [A_SScheduler r.1, .t (tS enc_SSwitch r.2.1), .t (tI r.2.2)]) (
  .K (scheduler_Valid s) fun v => .I (!v) (.R ((⟨(⟨([] : List Int), 0⟩ : SEngine), (⟨false, 0, 0, 0, 0, 0⟩ : SClock), (⟨0, ([] : List SChannel)⟩ : STimer), ([] : List SFire), ([] : List SJob), false⟩ : SScheduler), ([] : List SSwitch), 1)) (.K ((scheduler_copyOf s).f rfl (fun _ => rfl)) fun v2 => .I s.Cut (.R (v2, ([] : List SSwitch), 0)) (.Z (.np 7 2528 409 3 []) <| .Z (.nb 5 2944 248 7 [11]) <| M.QN (s.Timer.Channels.length : Int) 2 36 (fun (t : List SSwitch × STimer × List SJob) => [.t 7 (.own 2528), .x 24, .x 27, .x 28, .x 29, .x 30, .x 32, .x 33, .c 5 8 [.t (tI t.2.1.Now), .t (tS enc_SChannel t.2.1.Channels)], .b 2528 (.rs 409 3 t.1 enc_SSwitch), .b 2944 (.rs 248 7 t.2.2 enc_SJob)]) 0 (.e) (scheduler_Cut_b1 s) (([] : List SSwitch), v2.Timer, ([] : List SJob)) (fun s3 => .R ((⟨v2.Engine, v2.Clock, s3.2.1, v2.Next, s3.2.2, true⟩ : SScheduler), s3.1, 0)) (fun t => t.elim)))) (by kernel_rfl)
noncomputable def scheduler_Resume_1 (x : SChannel) : C Tryz.prog Bool := .of Z Tryz.call285 Tryz.func285 [A_SChannel x] (fun r => .t (tB r)) (
  .R x.Level) (by kernel_rfl)
noncomputable def scheduler_Resume (s : SScheduler) : C Tryz.prog (SScheduler × Int) := .of Z Tryz.call199 Tryz.func199 [A_SScheduler s] (fun r => .tup [A_SScheduler r.1, .t (tI r.2)]) (
  .K (scheduler_Valid s) fun v => .I (!v) (.R ((⟨(⟨([] : List Int), 0⟩ : SEngine), (⟨false, 0, 0, 0, 0, 0⟩ : SClock), (⟨0, ([] : List SChannel)⟩ : STimer), ([] : List SFire), ([] : List SJob), false⟩ : SScheduler), 1)) (.G (!s.Cut) (.R true) (.K (slices_ContainsFunc_sChannel s.Timer.Channels (.of (fun z_ => scheduler_Resume_1 z_) 285 [] (fun _ => rfl) (fun _ => rfl) (fun _ => rfl))) fun v2 => .R v2) fun b2 => .I b2 (.R ((⟨(⟨([] : List Int), 0⟩ : SEngine), (⟨false, 0, 0, 0, 0, 0⟩ : SClock), (⟨0, ([] : List SChannel)⟩ : STimer), ([] : List SFire), ([] : List SJob), false⟩ : SScheduler), 6)) (.K ((scheduler_copyOf s).f rfl (fun _ => rfl)) fun v3 => .R (({ v3 with Cut := false } : SScheduler), 0)))) (by kernel_rfl)
noncomputable def scheduler_Wish (s : SScheduler) (l : List SFire) : C Tryz.prog (SScheduler × Int) := .of Z Tryz.call200 Tryz.func200 [A_SScheduler s, .t (tS enc_SFire l)] (fun r => .tup [A_SScheduler r.1, .t (tI r.2)]) (
  .K (scheduler_Valid s) fun v => .G (!v) (.R true) (.K (scheduler_fires s.Engine l) fun v2 => .R (!v2)) fun b2 => .I b2 (.R ((⟨(⟨([] : List Int), 0⟩ : SEngine), (⟨false, 0, 0, 0, 0, 0⟩ : SClock), (⟨0, ([] : List SChannel)⟩ : STimer), ([] : List SFire), ([] : List SJob), false⟩ : SScheduler), 1)) (.K ((scheduler_copyOf s).f rfl (fun _ => rfl)) fun v3 => .K (slices_Clone_sFire l) fun v4 => .R (({ v3 with Next := v4 } : SScheduler), 0))) (by kernel_rfl)
noncomputable def ecu_keep_Stage_1 (v_next : SStage) (e2 : Int) (c : SStage) : C Tryz.prog SStage := .of Z Tryz.call277 Tryz.func277 [A_SStage v_next, .t (tI e2), .el (enc_SStage c)] (fun r => A_SStage r) (
  .I (e2 != 0) (.R c) (.R v_next)) (by kernel_rfl)
noncomputable def ecu_step_enable (s : Secu_step) : CG Tryz.prog Secu_step := .of Z Tryz.call123 Tryz.func123 [.ptr 1000000 0] [(1000000, .box (lset (B_Secu_step s) [(113, .own 1000001)])), (1000001, .rs 409 3 s.switches enc_SSwitch)] (fun _ => .tup []) (fun r => [(900000, .rs 409 3 r.switches enc_SSwitch), (1000000, .box (lset (B_Secu_step r) [(113, .own 900000)]))]) [900000] (
  .D [] [] <| .K (ecu_keep_Stage s.u.Stage) fun v => .K (stage_Step s.u.Stage true s.u.Guard s.u.Quiz s.t) fun r2 => .K (ecu_keep_Stage_1 r2.1 r2.2 v) fun v2 => .I (!v2.Enabled) (.K (scheduler_Cut s.u.Scheduler) fun r3 => .KG (ecu_step_take ({ s with u := (⟨s.u.Tables, s.u.Controls, s.u.Scheduler, s.u.Sync, s.u.Phase, s.u.Filter, s.u.Guard, s.u.Quiz, v2, s.u.Faults, s.u.Plant, s.u.Body, s.u.Time⟩ : SEcu) } : Secu_step) r3.1 r3.2.1 r3.2.2) [2416] fun v3 => .R v3) (.J0 0 (fun (t : SScheduler) => [.x 2, .x 3, .x 4, .x 5, .x 6, .x 9, .x 10, .x 11, .x 12, .x 14, .x 15, .x 16, .x 17, .x 19, .x 20, .x 21, .x 22, .x 24, .x 25, .x 26, .x 32, .x 33, .x 34, .x 35, .x 36, .x 37, .x 38, .x 39, .x 53, .x 54, .x 55, .x 56, .x 57, .c 1000000 37 [.t (tS Pv.encI t.Engine.Order), .t (tI t.Engine.First), .t (tB t.Clock.Valid), .t (tI t.Clock.At), .t (tI t.Clock.Angle), .t (tI t.Clock.Period), .t (tI t.Clock.Space), .t (tI t.Clock.Ahead), .t (tI t.Timer.Now), .t (tS enc_SChannel t.Timer.Channels), .t (tS enc_SFire t.Next), .t (tS enc_SJob t.Jobs), .t (tB t.Cut)]]) (.I s.u.Scheduler.Cut (.D [] [] <| .K (ecu_keep_Scheduler s.u.Scheduler) fun v4 => .K (scheduler_Resume s.u.Scheduler) fun r4 => .K (ecu_keep_Scheduler_1 r4.1 r4.2 v4) fun v5 => .R v5) (.R s.u.Scheduler)) fun f2 => .D [] [] <| .K (ecu_keep_Scheduler f2) fun v6 => .K (scheduler_Wish f2 s.outputs.Fires) fun r5 => .K (ecu_keep_Scheduler_1 r5.1 r5.2 v6) fun v7 => .R ({ s with u := (⟨s.u.Tables, s.u.Controls, v7, s.u.Sync, s.u.Phase, s.u.Filter, s.u.Guard, s.u.Quiz, v2, s.u.Faults, s.u.Plant, s.u.Body, s.u.Time⟩ : SEcu) } : Secu_step))) (by kernel_rfl)
noncomputable def scheduler_arm_1 (j : SJob) (c : Int) : C Tryz.prog Bool := .of Z Tryz.call416 Tryz.func416 [A_SJob j, .el (Pv.encI c)] (fun r => .t (tB r)) (
  .D [] [] <| .K (scheduler_channelOf j.Event) fun v => .R (v == c)) (by kernel_rfl)
noncomputable def scheduler_up (a : Int) (b2 : Int) : C Tryz.prog Int := .of Z Tryz.call417 Tryz.func417 [.t (tI a), .t (tI b2)] (fun r => .t (tI r)) (
  .O (.quo .i64 a b2) fun q => .O (.rem a b2) fun q2 => .I (decide (q2 > 0)) (.R (w64 (q + 1))) (.R q)) (by kernel_rfl)
noncomputable def scheduler_arm_b1 (s : SScheduler) (i : Int) (s2 : STimer × List SJob) : M Tryz.prog SScheduler (Fl (STimer × List SJob) Empty) :=
  .Z (.fb 2) <| .K (slices_IndexFunc_sJob s2.2 (.of (fun z_ => scheduler_arm_1 z_ i) 416 [Pv.encI i] (fun _ => rfl) (fun _ => rfl) (fun _ => rfl))) fun v => .J0 1 (fun (t : Bool) => [.t 44 (.t (tB t)), .x 21, .x 22, .x 23, .x 24]) (.D [] [] <| .Sp (decide (v < 0)) (.R true) (.O (.ix enc_SJob s2.2 v) fun x => .W (.ly 0) <| .R (decide (x.Left > s.Clock.Ahead)))) fun v2 => .I v2 (.R (.next (s2.1, s2.2))) (.O (.ix enc_SJob s2.2 v) fun x2 => .D [] [] <| .W (.ly 0) <| .K (scheduler_up (w64 (x2.Left * s.Clock.Period)) s.Clock.Space) fun v3 => .I (decide ((maxI (w64 (s.Clock.At + v3)) (w64 (s2.1.Now + 1))) > 1099511627776)) (.R (.next (s2.1, s2.2))) (.D [] [(17, 6)] <| .W (.ly 0) <| .K (scheduler_on x2.Event.Kind) fun v4 => .K (timer_Arm s2.1 i (maxI (w64 (s.Clock.At + v3)) (w64 (s2.1.Now + 1))) v4) fun r2 => .I (r2.2 == 0) (.U (.st enc_SJob s2.2 v ({ x2 with Armed := true } : SJob) 0) fun l => .U (.st enc_SJob l v (⟨x2.Event, x2.Left, true, maxI (w64 (s.Clock.At + v3)) (w64 (s2.1.Now + 1))⟩ : SJob) 0) fun l2 => .R (.next (r2.1, l2))) (.R (.next (s2.1, s2.2)))))
noncomputable def scheduler_arm (s : SScheduler) : CG Tryz.prog SScheduler := .of Z Tryz.call368 Tryz.func368 [.ptr 1000000 0] [(1000000, .box (lset (B_SScheduler s) [(11, .own 1000001)])), (1000001, .rs 248 7 s.Jobs enc_SJob)] (fun _ => .tup []) (fun r => [(1000000, .box (lset (B_SScheduler r) [(11, .own 1000001)])), (1000001, .rs 248 7 r.Jobs enc_SJob)]) [] (
  .I s.Cut (.R s) (M.QN (s.Timer.Channels.length : Int) 2 18 (fun (t : STimer × List SJob) => [.x 8, .x 9, .x 10, .x 12, .x 13, .x 14, .x 15, .c 1000000 8 [.t (tI t.1.Now), .t (tS enc_SChannel t.1.Channels)], .b 1000001 (.rs 248 7 t.2 enc_SJob)]) 0 (.e) (scheduler_arm_b1 s) (s.Timer, s.Jobs) (fun s3 => .R ({ s with Timer := s3.1, Jobs := s3.2 } : SScheduler)) (fun t => t.elim))) (by kernel_rfl)
noncomputable def timer_Next_b1 (_ : Int) (x : SChannel) (s : Int × Bool) : M Tryz.prog (Int × Bool) (Fl (Int × Bool) Empty) :=
  .W (.hx 0) <| .I (x.Armed && ((!s.2) || (decide (x.At < s.1)))) (.R (.next (x.At, true))) (.R (.next (s.1, s.2)))
noncomputable def timer_Next (t2 : STimer) : C Tryz.prog (Int × Bool) := .of Z Tryz.call369 Tryz.func369 [A_STimer t2] (fun r => .tup [.t (tI r.1), .t (tB r.2)]) (
  .K (timer_Valid t2) fun v => .I (!v) (.R (0, false)) (M.Q enc_SChannel t2.Channels 2 14 (fun (t : Int × Bool) => [.t 4 (.t (tI t.1)), .t 5 (.t (tB t.2)), .x 1, .x 11, .d 1]) 0 (.e) (timer_Next_b1) (0, false) (fun s2 => .R (s2.1, s2.2)) (fun t => t.elim))) (by kernel_rfl)
def sortL418_ren : Go.Shelf.Ren := ⟨fun | 6 => 418 | 14 => 448 | 15 => 449 | 20 => 468 | 21 => 469 | 22 => 470 | 23 => 471 | 24 => 472 | 25 => 473 | 26 => 474 | 27 => 475 | 28 => 476 | 29 => 377 | 46 => 490 | 47 => 491 | 48 => 492 | 49 => 493 | 50 => 494 | 57 => 508 | n => n, fun | 0 => 0 | 3 => 3 | 4 => 4 | 5 => 5 | 9 => 9 | 22 => 22 | 24 => 409 | 25 => 491 | 39 => 265 | 45 => 523 | 46 => 524 | 50 => 261 | 53 => 364 | 55 => 413 | 66 => 538 | 70 => 542 | 76 => 551 | 77 => 362 | n => n, fun  | n => n⟩
open Go.Shelf in
theorem sortL418 : SlLaysF0.n6 Tryz.prog sortL418_ren := {
  mixed := by kernel_rfl,
  f6 := ⟨Tryz.f418.name, by decide, Tryz.func418.trans (congrArg some (by kernel_rfl))⟩,
  f14 := ⟨Tryz.f448.name, by decide, Tryz.func448.trans (congrArg some (by kernel_rfl))⟩,
  f15 := Tryz.func449.trans (congrArg some (by kernel_rfl)),
  f20 := ⟨Tryz.f468.name, by decide, Tryz.func468.trans (congrArg some (by kernel_rfl))⟩,
  f21 := ⟨Tryz.f469.name, by decide, Tryz.func469.trans (congrArg some (by kernel_rfl))⟩,
  f22 := ⟨Tryz.f470.name, by decide, Tryz.func470.trans (congrArg some (by kernel_rfl))⟩,
  f23 := ⟨Tryz.f471.name, by decide, Tryz.func471.trans (congrArg some (by kernel_rfl))⟩,
  f24 := ⟨Tryz.f472.name, by decide, Tryz.func472.trans (congrArg some (by kernel_rfl))⟩,
  f25 := ⟨Tryz.f473.name, by decide, Tryz.func473.trans (congrArg some (by kernel_rfl))⟩,
  f26 := ⟨Tryz.f474.name, by decide, Tryz.func474.trans (congrArg some (by kernel_rfl))⟩,
  f27 := ⟨Tryz.f475.name, by decide, Tryz.func475.trans (congrArg some (by kernel_rfl))⟩,
  f28 := Tryz.func476.trans (congrArg some (by kernel_rfl)),
  f29 := Tryz.func377.trans (congrArg some (by kernel_rfl)),
  f46 := ⟨Tryz.f490.name, by decide, Tryz.func490.trans (congrArg some (by kernel_rfl))⟩,
  f47 := Tryz.func491.trans (congrArg some (by kernel_rfl)),
  f48 := Tryz.func492.trans (congrArg some (by kernel_rfl)),
  f49 := ⟨Tryz.f493.name, by decide, Tryz.func493.trans (congrArg some (by kernel_rfl))⟩,
  f50 := ⟨Tryz.f494.name, by decide, Tryz.func494.trans (congrArg some (by kernel_rfl))⟩,
  f57 := ⟨Tryz.f508.name, by decide, Tryz.func508.trans (congrArg some (by kernel_rfl))⟩,
  t0 := Tryz.underlying0,
  a0 := Tryz.isAgg0,
  z0 := Tryz.sizeOf0,
  v0 := Tryz.zeroValue0,
  t3 := Tryz.underlying3,
  a3 := Tryz.isAgg3,
  z3 := Tryz.sizeOf3,
  v3 := Tryz.zeroValue3,
  t4 := Tryz.underlying4,
  a4 := Tryz.isAgg4,
  z4 := Tryz.sizeOf4,
  v4 := Tryz.zeroValue4,
  t5 := Tryz.underlying5,
  a5 := Tryz.isAgg5,
  z5 := Tryz.sizeOf5,
  v5 := Tryz.zeroValue5,
  t9 := Tryz.underlying9,
  a9 := Tryz.isAgg9,
  z9 := Tryz.sizeOf9,
  v9 := Tryz.zeroValue9,
  t22 := Tryz.underlying22,
  a22 := Tryz.isAgg22,
  z22 := Tryz.sizeOf22,
  v22 := Tryz.zeroValue22,
  t25 := Tryz.underlying491,
  a25 := Tryz.isAgg491,
  z25 := Tryz.sizeOf491,
  v25 := Tryz.zeroValue491,
  t39 := Tryz.underlying265,
  a39 := Tryz.isAgg265,
  z39 := Tryz.sizeOf265,
  v39 := Tryz.zeroValue265,
  t45 := Tryz.underlying523,
  a45 := Tryz.isAgg523,
  z45 := Tryz.sizeOf523,
  v45 := Tryz.zeroValue523,
  t46 := Tryz.underlying524,
  a46 := Tryz.isAgg524,
  z46 := Tryz.sizeOf524,
  v46 := Tryz.zeroValue524,
  t50 := Tryz.underlying261,
  a50 := Tryz.isAgg261,
  z50 := Tryz.sizeOf261,
  v50 := Tryz.zeroValue261,
  t53 := Tryz.underlying364,
  a53 := Tryz.isAgg364,
  z53 := Tryz.sizeOf364,
  v53 := Tryz.zeroValue364,
  t55 := Tryz.underlying413,
  a55 := Tryz.isAgg413,
  z55 := Tryz.sizeOf413,
  v55 := Tryz.zeroValue413,
  t66 := Tryz.underlying538,
  a66 := Tryz.isAgg538,
  z66 := Tryz.sizeOf538,
  v66 := Tryz.zeroValue538,
  t70 := Tryz.underlying542,
  a70 := Tryz.isAgg542,
  z70 := Tryz.sizeOf542,
  v70 := Tryz.zeroValue542,
  t76 := Tryz.underlying551,
  a76 := Tryz.isAgg551,
  z76 := Tryz.sizeOf551,
  v76 := Tryz.zeroValue551,
  t77 := Tryz.underlying362,
  a77 := Tryz.isAgg362,
  z77 := Tryz.sizeOf362,
  v77 := Tryz.zeroValue362 }
theorem tie_slices_SortFunc_sSwitch (s : List SSwitch) (n : Nat) (cs : List (List Tree)) (f : SSwitch → SSwitch → Option Int) (h : ∀ x0 x1, TieF Tryz.prog n ([A_SSwitch x0, A_SSwitch x1] ++ cs.map T.el) (f x0 x1) (fun r => .t (tI r))) :
    TieG Tryz.prog 418 [.own 1000000, .fz n cs] [(1000000, .rows 409 3 s.length (s.map enc_SSwitch))] (sortM f s) (fun _ => .tup []) (fun r => [(1000000, .rows 409 3 r.length (r.map enc_SSwitch))]) :=
  sortFunc_tie (E := SSwitch) (enc := enc_SSwitch) (ρ := sortL418_ren) sortL418 (k := 3) (fun x => [.int .i64 x.At, .int .i64 x.Channel, .bool x.Level]) (fun _ => rfl) (fun _ => rfl) (fun x v hv => by simp only [List.mem_cons, List.not_mem_nil, or_false] at hv; rcases hv with rfl | rfl | rfl <;> rfl) (fun w => Tryz.isAgg409 w) (fun w => Tryz.sizeOf409 w) (A := A_SSwitch) (fun _ => rfl) f h s
noncomputable def slices_SortFunc_sSwitch (s : List SSwitch) (f : Cl Tryz.prog (SSwitch × SSwitch) Int (fun x => [A_SSwitch x.1, A_SSwitch x.2]) (fun r => .t (tI r))) : CG Tryz.prog (List SSwitch) :=
  ⟨418, [.own 1000000, .fz f.n f.cs], [(1000000, .rows 409 3 s.length (s.map enc_SSwitch))], sortM (fun x y => f.f (x, y)) s, fun k => sortE (fun x y => f.e k (x, y)) s, fun _ => .tup [], fun r => [(1000000, .rows 409 3 r.length (r.map enc_SSwitch))], [], true, tie_slices_SortFunc_sSwitch s f.n f.cs _ (fun x y => f.ok (x, y)), fun k r h => sortE_le (fun x y r h => f.le k (x, y) r h) h⟩
noncomputable def cmp_Or_int_b1 (_ : Int) (x : Int) (_ : Unit) : M Tryz.prog Int (Fl Unit Int) :=
  .W (.hx 0) <| .I (x != 0) (.R (.ret x)) (.R (.next ()))
noncomputable def cmp_Or_int (vals : List Int) : C Tryz.prog Int := .of Z Tryz.call420 Tryz.func420 [.t (tS Pv.encI vals)] (fun r => .t (tI r)) (
  M.Q Pv.encI vals 2 8 (fun (_ : Unit) => []) 0 (.one .rt) (cmp_Or_int_b1) () (fun _ => .R 0) (fun r2 => .R r2)) (by kernel_rfl)
noncomputable def timer_Advance_1 (a : SSwitch) (b2 : SSwitch) : C Tryz.prog Int := .of Z Tryz.call419 Tryz.func419 [A_SSwitch a, A_SSwitch b2] (fun r => .t (tI r)) (
  .D [] [] <| .K (cmp_Compare_int a.At b2.At) fun v => .K (cmp_Compare_int a.Channel b2.Channel) fun v2 => .K (cmp_Or_int ([v, v2] : List Int)) fun v3 => .R v3) (by kernel_rfl)
noncomputable def timer_Advance_b1 (t2 : STimer) (v_to : Int) (i : Int) (s : List SSwitch × List SChannel) : M Tryz.prog (STimer × List SSwitch × Int) (Fl (List SSwitch × List SChannel) Empty) :=
  .O (.ix enc_SChannel t2.Channels i) fun x => .I ((!x.Armed) || (decide (x.At > v_to))) (.R (.next (s.1, s.2))) (.J0 0 (fun (t : List SSwitch) => [.t 9 (.own 2496), .x 40, .x 49, .x 51, .b 2496 (.rs 409 3 t enc_SSwitch)]) (.I (!(x.Next == x.Level)) (.U (.ap enc_SSwitch s.1 ([(⟨x.At, i, x.Next⟩ : SSwitch)] : List SSwitch) 2496) fun l => .R l) (.R s.1)) fun f2 => .O (.ix enc_SChannel s.2 i) fun _ => .U (.st enc_SChannel s.2 i (⟨false, 0, false, x.Next⟩ : SChannel) 0) fun l2 => .R (.next (f2, l2)))
noncomputable def timer_Advance (t2 : STimer) (v_to : Int) : C Tryz.prog (STimer × List SSwitch × Int) := .of Z Tryz.call370 Tryz.func370 [A_STimer t2, .t (tI v_to)] (fun r => .tup [A_STimer r.1, .t (tS enc_SSwitch r.2.1), .t (tI r.2.2)]) (
  .KG (timer_begin t2 0) [2112] fun r2 => .I (r2.2 != 0) (.R ((⟨0, ([] : List SChannel)⟩ : STimer), ([] : List SSwitch), r2.2)) (.I (decide (v_to < t2.Now)) (.R ((⟨0, ([] : List SChannel)⟩ : STimer), ([] : List SSwitch), 16)) (.I (decide (v_to > 1099511627776)) (.R ((⟨0, ([] : List SChannel)⟩ : STimer), ([] : List SSwitch), 2)) (.Z (.np 9 2496 409 3 []) <| M.QN (t2.Channels.length : Int) 2 35 (fun (t : List SSwitch × List SChannel) => [.t 9 (.own 2496), .x 2, .x 12, .x 14, .x 15, .x 24, .x 32, .b 2112 (.rs 351 4 t.2 enc_SChannel), .b 2496 (.rs 409 3 t.1 enc_SSwitch), .d 2]) 1 (.e) (timer_Advance_b1 t2 v_to) (([] : List SSwitch), r2.1.Channels) (fun s2 => .KG (slices_SortFunc_sSwitch s2.1 (.of (fun z_ => timer_Advance_1 z_.1 z_.2) 419 [] (fun _ => rfl) (fun _ => rfl) (fun _ => rfl))) [] fun v => .R ((⟨v_to, s2.2⟩ : STimer), v, 0)) (fun t => t.elim))))) (by kernel_rfl)
noncomputable def slices_DeleteFunc_sJob (s : List SJob) (del : Cl Tryz.prog SJob Bool (fun x => [A_SJob x]) (fun r => .t (tB r))) : CG Tryz.prog (List SJob) := ⟨371, [.own 1000000, .fz del.n del.cs], [(1000000, .rs 248 7 s enc_SJob)], Go.Pv.slices_DeleteFunc_sJob s (fun x0 => del.f x0), fun _ => delE s, (fun _ => .own 900000), (fun r => [(900000, .rs 248 7 r enc_SJob)]), [900000], true, otie_slices_DeleteFunc_sJob s del.n del.cs (fun x0 => del.f x0) (fun x0 => del.ok x0), fun _ r h => delE_slices_DeleteFunc_sJob h⟩
noncomputable def scheduler_goOn_1 (j : SJob) (c : Int) : C Tryz.prog Bool := .of Z Tryz.call372 Tryz.func372 [A_SJob j, .el (Pv.encI c)] (fun r => .t (tB r)) (
  .R (j.Armed && (j.At == c))) (by kernel_rfl)
noncomputable def scheduler_goOn_b1 (v_to : Int) (s2 : List SSwitch × SScheduler) : M Tryz.prog (List SSwitch × SScheduler) ((List SSwitch × SScheduler) ⊕ ((List SSwitch × SScheduler) ⊕ Empty)) :=
  .K (timer_Next s2.2.Timer) fun r2 => .I ((!r2.2) || (decide (r2.1 > v_to))) (.R (.inr (.inl (s2.1, s2.2)))) (.D [] [(11, 8)] <| .K (timer_Advance s2.2.Timer r2.1) fun r3 => .U (.ap enc_SSwitch s2.1 r3.2.1 2360) fun l => .Z (.fb 6) <| .KG (slices_DeleteFunc_sJob s2.2.Jobs (.of (fun z_ => scheduler_goOn_1 z_ r2.1) 372 [Pv.encI r2.1] (fun _ => rfl) (fun _ => rfl) (fun _ => rfl))) [2417] fun v => .KG (scheduler_arm (⟨s2.2.Engine, s2.2.Clock, r3.1, s2.2.Next, v, s2.2.Cut⟩ : SScheduler)) [] fun v2 => .Z (.rn [(2417, 2416)]) <| .R (.inl (l, v2)))
noncomputable def scheduler_goOn (s : SScheduler) (v_to : Int) : CG Tryz.prog (List SSwitch × SScheduler) := .of Z Tryz.call302 Tryz.func302 [.ptr 1000000 0, .t (tI v_to)] [(1000000, .box (lset (B_SScheduler s) [(11, .own 1000001)])), (1000001, .rs 248 7 s.Jobs enc_SJob)] (fun r => .t (tS enc_SSwitch r.1)) (fun r => [(900000, .rs 248 7 r.2.Jobs enc_SJob), (1000000, .box (lset (B_SScheduler r.2) [(11, .own 900000)]))]) [900000] (
  .Z (.np 5 2360 409 3 []) <| .Z (.rn [(1000001, 2416)]) <| .L (fun (t : List SSwitch × SScheduler) => [.t 5 (.own 2360), .b 2360 (.rs 409 3 t.1 enc_SSwitch), .b 2416 (.rs 248 7 t.2.Jobs enc_SJob), .b 1000000 (.box (lset (B_SScheduler t.2) [(11, .own 2416)]))]) 0 (.e) (scheduler_goOn_b1 v_to) (([] : List SSwitch), s) (fun s3 => .K (timer_Advance s3.2.Timer v_to) fun r4 => .U (.ap enc_SSwitch s3.1 r4.2.1 2360) fun l2 => .Z (.fr 2360) <| .R (l2, (⟨s3.2.Engine, s3.2.Clock, r4.1, s3.2.Next, s3.2.Jobs, s3.2.Cut⟩ : SScheduler))) (fun t => t.elim)) (by kernel_rfl)
noncomputable def scheduler_Advance (s : SScheduler) (v_to : Int) : C Tryz.prog (SScheduler × List SSwitch × Int) := .of Z Tryz.call211 Tryz.func211 [A_SScheduler s, .t (tI v_to)] (fun r => .tup [A_SScheduler r.1, .t (tS enc_SSwitch r.2.1), .t (tI r.2.2)]) (
  .K (scheduler_Valid s) fun v => .I (!v) (.R ((⟨(⟨([] : List Int), 0⟩ : SEngine), (⟨false, 0, 0, 0, 0, 0⟩ : SClock), (⟨0, ([] : List SChannel)⟩ : STimer), ([] : List SFire), ([] : List SJob), false⟩ : SScheduler), ([] : List SSwitch), 1)) (.I (decide (v_to < s.Timer.Now)) (.R ((⟨(⟨([] : List Int), 0⟩ : SEngine), (⟨false, 0, 0, 0, 0, 0⟩ : SClock), (⟨0, ([] : List SChannel)⟩ : STimer), ([] : List SFire), ([] : List SJob), false⟩ : SScheduler), ([] : List SSwitch), 16)) (.I (decide (v_to > 1099511627776)) (.R ((⟨(⟨([] : List Int), 0⟩ : SEngine), (⟨false, 0, 0, 0, 0, 0⟩ : SClock), (⟨0, ([] : List SChannel)⟩ : STimer), ([] : List SFire), ([] : List SJob), false⟩ : SScheduler), ([] : List SSwitch), 2)) (.KG (scheduler_copyOf s) [2208] fun v2 => .KG (scheduler_goOn v2 v_to) [2224] fun r2 => .R (r2.2, r2.1, 0))))) (by kernel_rfl)
noncomputable def ecu_step_stop (s : Secu_step) (v_at : Int) : CG Tryz.prog Secu_step := .of Z Tryz.call287 Tryz.func287 [.ptr 1000000 0, .t (tI v_at)] [(1000000, .box (lset (B_Secu_step s) [(113, .own 1000001)])), (1000001, .rs 409 3 s.switches enc_SSwitch)] (fun _ => .tup []) (fun r => [(900000, .rs 409 3 r.switches enc_SSwitch), (1000000, .box (lset (B_Secu_step r) [(113, .own 900000)]))]) [900000] (
  .K (scheduler_Advance s.u.Scheduler v_at) fun r2 => .KG (ecu_step_take s r2.1 r2.2.1 r2.2.2) [2120] fun v => .K (scheduler_Cut v.u.Scheduler) fun r3 => .KG (ecu_step_take v r3.1 r3.2.1 r3.2.2) [2208] fun v2 => .R v2) (by kernel_rfl)
noncomputable def ecu_step_follow (s : Secu_step) (v_next : SSync) (v_at : Int) : CG Tryz.prog Secu_step := .of Z Tryz.call201 Tryz.func201 [.ptr 1000000 0, A_SSync v_next, .t (tI v_at)] [(1000000, .box (lset (B_Secu_step s) [(113, .own 1000001)])), (1000001, .rs 409 3 s.switches enc_SSwitch)] (fun _ => .tup []) (fun r => [(900000, .rs 409 3 r.switches enc_SSwitch), (1000000, .box (lset (B_Secu_step r) [(113, .own 900000)]))]) [900000] (
  .I ((s.u.Sync.Mode != 0) && (v_next.Mode == 0)) (.K (phase_New) fun v => .KG (ecu_step_stop ({ s with u := (⟨s.u.Tables, s.u.Controls, s.u.Scheduler, v_next, v, s.u.Filter, s.u.Guard, s.u.Quiz, s.u.Stage, s.u.Faults, s.u.Plant, s.u.Body, s.u.Time⟩ : SEcu) } : Secu_step) v_at) [2256] fun v2 => .R v2) (.R ({ s with u := (⟨s.u.Tables, s.u.Controls, s.u.Scheduler, v_next, s.u.Phase, s.u.Filter, s.u.Guard, s.u.Quiz, s.u.Stage, s.u.Faults, s.u.Plant, s.u.Body, s.u.Time⟩ : SEcu) } : Secu_step))) (by kernel_rfl)
noncomputable def ecu_keep_Sync (old : SSync) : C Tryz.prog SSync := .of Z Tryz.call202 Tryz.func202 [A_SSync old] (fun r => .fz 288 [enc_SSync r]) (
  .Z (.fb 1) <| .R old) (by kernel_rfl)
noncomputable def sync_last (w : SWheel) (s : SSync) : C Tryz.prog Bool := .of Z Tryz.call357 Tryz.func357 [A_SWheel w, A_SSync s] (fun r => .t (tB r)) (
  .D [] [] <| .K (wheel_Teeth w) fun v => .R (s.Tooth == (w64 (v - 1)))) (by kernel_rfl)
noncomputable def sync_expected (w : SWheel) (s : SSync) : C Tryz.prog Int := .of Z Tryz.call289 Tryz.func289 [A_SWheel w, A_SSync s] (fun r => .t (tI r)) (
  .K (sync_last w s) fun v => .I v (.R (w64 ((w64 (w.Missing + 1)) * s.Normal))) (.R s.Normal)) (by kernel_rfl)
noncomputable def sync_Stall (w : SWheel) (s : SSync) (now : Int) : C Tryz.prog (SSync × Int) := .of Z Tryz.call203 Tryz.func203 [A_SWheel w, A_SSync s, .t (tI now)] (fun r => .tup [A_SSync r.1, .t (tI r.2)]) (
  .K (sync_Valid w s) fun v => .I (!v) (.R ((⟨0, 0, 0, 0, 0, 0⟩ : SSync), 1)) (.K (sync_instant now) fun v2 => .I (!v2) (.R ((⟨0, 0, 0, 0, 0, 0⟩ : SSync), 2)) (.I ((s.Mode != 0) && (decide (now < s.Last))) (.R ((⟨0, 0, 0, 0, 0, 0⟩ : SSync), 16)) (.J0 0 (fun (t : Int) => [.t 8 (.t (tI t)), .x 3, .x 21, .d 3]) (.I (s.Mode == 2) (.K (sync_expected w s) fun v3 => .R (w64 (4 * v3))) (.I (decide (s.Teeth > 0)) (.R (w64 (4 * s.Normal))) (.R 1000000))) fun most => .I ((s.Mode != 0) && (decide ((w64 (now - s.Last)) > most))) (.R ((⟨0, 0, 0, 0, 0, 0⟩ : SSync), 0)) (.R (s, 0)))))) (by kernel_rfl)
noncomputable def wheel_position (p2 : Int) : C Tryz.prog Bool := .of Z Tryz.call358 Tryz.func358 [.t (tI p2)] (fun r => .t (tB r)) (
  .R ((decide (p2 ≥ 0)) && (decide (p2 ≤ 1099511627776)))) (by kernel_rfl)
noncomputable def wheel_collect_b1 (b2 : Int) (v_next : Cl Tryz.prog Int Int (fun x => [.t (tI x)]) (fun r => .t (tI r))) (s : List Int × Int) : M Tryz.prog (List Int × Int) ((List Int × Int) ⊕ ((List Int × Int) ⊕ (List Int × Int))) :=
  .I (decide (s.2 ≤ b2)) (.I ((s.1.length : Int) == 1000) (.R (.inr (.inr (([] : List Int), 5)))) (.U (.ap Pv.encI s.1 ([s.2] : List Int) 2304) fun l => .K (v_next.at s.2) fun v4 => .R (.inl (l, v4)))) (.R (.inr (.inl (s.1, s.2))))
noncomputable def wheel_collect (a : Int) (b2 : Int) (v_next : Cl Tryz.prog Int Int (fun x => [.t (tI x)]) (fun r => .t (tI r))) : C Tryz.prog (List Int × Int) := .of Z Tryz.call290 Tryz.func290 [.t (tI a), .t (tI b2), .fz v_next.n v_next.cs] (fun r => .tup [.t (tS Pv.encI r.1), .t (tI r.2)]) (
  .K (wheel_position a) fun v => .G (!v) (.R true) (.K (wheel_position b2) fun v2 => .R (!v2)) fun b3 => .I (b3 || (decide (a > b2))) (.R (([] : List Int), 2)) (.K (v_next.at a) fun v3 => .Z (.np 8 2304 3 1 []) <| .L (fun (t : List Int × Int) => [.t 8 (.own 2304), .t 9 (.t (tI t.2)), .b 2304 (.rs 3 1 t.1 Pv.encI)]) 0 (.one .rt) (wheel_collect_b1 b2 v_next) (([] : List Int), v3) (fun s2 => .R (s2.1, 0)) (fun r2 => .R r2))) (by kernel_rfl)
noncomputable def wheel_Space (w : SWheel) : C Tryz.prog Int := .of Z Tryz.call359 Tryz.func359 [A_SWheel w] (fun r => .t (tI r)) (
  .K (wheel_Valid w) fun v => .I (!v) (.R 0) (.O (.quo .i64 23040 w.Teeth) fun q => .R q)) (by kernel_rfl)
noncomputable def wheel_next (w : SWheel) (p2 : Int) : C Tryz.prog (Int × Int) := .of Z Tryz.call292 Tryz.func292 [A_SWheel w, .t (tI p2)] (fun r => .tup [.t (tI r.1), .t (tI r.2)]) (
  .K (arith_Mod p2 23040) fun v => .K (wheel_Space w) fun v2 => .O (.quo .i64 (w64 (p2 - (w64 (p2 - v)))) v2) fun q => .K (wheel_Teeth w) fun v3 => .I (decide ((w64 (q + 1)) ≥ v3)) (.R (w64 ((w64 (p2 - v)) + 23040), 0)) (.K (wheel_Space w) fun v4 => .R (w64 ((w64 (p2 - v)) + (w64 ((w64 (q + 1)) * v4))), w64 (q + 1)))) (by kernel_rfl)
noncomputable def wheel_Between_1 (p2 : Int) (c : SWheel) : C Tryz.prog Int := .of Z Tryz.call291 Tryz.func291 [.t (tI p2), .el (enc_SWheel c)] (fun r => .t (tI r)) (
  .K (wheel_next c p2) fun r2 => .R r2.1) (by kernel_rfl)
noncomputable def wheel_Between (w : SWheel) (a : Int) (b2 : Int) : C Tryz.prog (List Int × Int) := .of Z Tryz.call204 Tryz.func204 [A_SWheel w, .t (tI a), .t (tI b2)] (fun r => .tup [.t (tS Pv.encI r.1), .t (tI r.2)]) (
  .K (wheel_Valid w) fun v => .I (!v) (.R (([] : List Int), 1)) (.Z (.fb 3) <| .K (wheel_collect a b2 (.of (fun z_ => wheel_Between_1 z_ w) 291 [enc_SWheel w] (fun _ => rfl) (fun _ => rfl) (fun _ => rfl))) fun r2 => .R (r2.1, r2.2))) (by kernel_rfl)
noncomputable def wheel_CamBetween_1_b1 (p2 : Int) (v : Int) (_ : Int) (x : Int) (_ : Unit) : M Tryz.prog Int (Fl Unit Int) :=
  .W (.hx 0) <| .I (decide ((w64 ((w64 (p2 - v)) + x)) > p2)) (.R (.ret (w64 ((w64 (p2 - v)) + x)))) (.R (.next ()))
noncomputable def wheel_CamBetween_1 (p2 : Int) (c : SCam) : C Tryz.prog Int := .of Z Tryz.call293 Tryz.func293 [.t (tI p2), .el (enc_SCam c)] (fun r => .t (tI r)) (
  .K (arith_Mod p2 46080) fun v => M.Q Pv.encI c.Edges 2 14 (fun (_ : Unit) => []) 0 (.one .rt) (wheel_CamBetween_1_b1 p2 v) () (fun _ => .O (.ix Pv.encI c.Edges 0) fun x2 => .R (w64 ((w64 ((w64 (p2 - v)) + 46080)) + x2))) (fun r2 => .R r2)) (by kernel_rfl)
noncomputable def wheel_CamBetween (c : SCam) (a : Int) (b2 : Int) : C Tryz.prog (List Int × Int) := .of Z Tryz.call205 Tryz.func205 [A_SCam c, .t (tI a), .t (tI b2)] (fun r => .tup [.t (tS Pv.encI r.1), .t (tI r.2)]) (
  .K (wheel_ValidCam c) fun v => .I (!v) (.R (([] : List Int), 1)) (.Z (.fb 3) <| .K (wheel_collect a b2 (.of (fun z_ => wheel_CamBetween_1 z_ c) 293 [enc_SCam c] (fun _ => rfl) (fun _ => rfl) (fun _ => rfl))) fun r2 => .R (r2.1, r2.2))) (by kernel_rfl)
noncomputable def ecu_step_times_b1 (s : Secu_step) (_ : Int) (x : Int) (out : List Int) : M Tryz.prog (List Int) (Fl (List Int) Empty) :=
  .W (.hx 0) <| .D [] [] <| .K (arith_Floor (w64 (s.u.Plant.Position - (w64 (65536 * x)))) s.u.Plant.Speed) fun v => .U (.ap Pv.encI out ([w64 (s.t - v)] : List Int) 2328) fun l2 => .R (.next l2)
noncomputable def ecu_step_times (s : Secu_step) (l : List Int) : CG Tryz.prog (List Int) := .of Z Tryz.call206 Tryz.func206 [.ptr 1000000 0, .t (tS Pv.encI l)] [(1000000, .box (lset (B_Secu_step s) [(113, .own 1000001)])), (1000001, .rs 409 3 s.switches enc_SSwitch)] (fun r => .t (tS Pv.encI r)) (fun _ => [(1000000, .box (lset (B_Secu_step s) [(113, .own 1000001)])), (1000001, .rs 409 3 s.switches enc_SSwitch)]) [] (
  .D [] [] <| .Z (.np 7 2328 3 1 []) <| M.Q Pv.encI l 2 24 (fun (t : List Int) => [.t 7 (.own 2328), .x 10, .x 11, .x 12, .x 13, .x 14, .x 16, .x 17, .x 18, .x 19, .x 20, .b 2328 (.rs 3 1 t Pv.encI)]) 0 (.e) (ecu_step_times_b1 s) ([] : List Int) (fun out2 => .Z (.fr 2328) <| .R out2) (fun t => t.elim)) (by kernel_rfl)
noncomputable def ecu_keep_Phase (old : SPhase) : C Tryz.prog SPhase := .of Z Tryz.call208 Tryz.func208 [A_SPhase old] (fun r => .fz 295 [enc_SPhase r]) (
  .Z (.fb 1) <| .R old) (by kernel_rfl)
noncomputable def phase_Cam (c : SCam) (p2 : SPhase) : C Tryz.prog (SPhase × Int) := .of Z Tryz.call209 Tryz.func209 [A_SCam c, A_SPhase p2] (fun r => .tup [A_SPhase r.1, .t (tI r.2)]) (
  .K (phase_Valid c p2) fun v => .I (!v) (.R ((⟨false, 0, 0, false⟩ : SPhase), 1)) (.I p2.Seen (.R (({ p2 with Count := minI 16 (w64 (p2.Count + 1)) } : SPhase), 0)) (.R (p2, 0)))) (by kernel_rfl)
noncomputable def ecu_keep_Phase_1 (v_next : SPhase) (e2 : Int) (c : SPhase) : C Tryz.prog SPhase := .of Z Tryz.call295 Tryz.func295 [A_SPhase v_next, .t (tI e2), .el (enc_SPhase c)] (fun r => A_SPhase r) (
  .I (e2 != 0) (.R c) (.R v_next)) (by kernel_rfl)
noncomputable def ecu_step_turn_1 (c : Secu_step) (c2 : List Int) : CG Tryz.prog (Secu_step × List Int) := .of Z Tryz.call207 Tryz.func207 [.ptr 1000000 0, .ptr 1000003 0] [(1000000, .box [.ptr 1000001 0]), (1000001, .box (lset (B_Secu_step c) [(113, .own 1000002)])), (1000002, .rs 409 3 c.switches enc_SSwitch), (1000003, .box [.t (tS Pv.encI c2)])] (fun _ => .tup []) (fun r => [(1000000, .box [.ptr 1000001 0]), (1000001, .box (lset (B_Secu_step r.1) [(113, .own 1000002)])), (1000002, .rs 409 3 r.1.switches enc_SSwitch), (1000003, .box [.t (tS Pv.encI r.2)])]) [] (
  .D [] [] <| .K (ecu_keep_Phase c.u.Phase) fun v => .K (ecu_edges) fun v2 => .K (phase_Cam v2 c.u.Phase) fun r2 => .K (ecu_keep_Phase_1 r2.1 r2.2 v) fun v3 => .U (.sF Pv.encI c2 1 (c2.length : Int)) fun l => .R (({ c with u := (⟨c.u.Tables, c.u.Controls, c.u.Scheduler, c.u.Sync, v3, c.u.Filter, c.u.Guard, c.u.Quiz, c.u.Stage, c.u.Faults, c.u.Plant, c.u.Body, c.u.Time⟩ : SEcu) } : Secu_step), l)) (by kernel_rfl)
noncomputable def ecu_keep_Sync_1 (v_next : SSync) (e2 : Int) (c : SSync) : C Tryz.prog SSync := .of Z Tryz.call288 Tryz.func288 [A_SSync v_next, .t (tI e2), .el (enc_SSync c)] (fun r => A_SSync r) (
  .I (e2 != 0) (.R c) (.R v_next)) (by kernel_rfl)
noncomputable def toothfilter_Blank (f2 : SFilter) : C Tryz.prog Int := .of Z Tryz.call361 Tryz.func361 [A_SFilter f2] (fun r => .t (tI r)) (
  .K (toothfilter_Valid f2) fun v => .I ((!v) || (!f2.Seen)) (.R 0) (.R (maxI 20 (w64 (Int.tdiv f2.Period 4))))) (by kernel_rfl)
noncomputable def toothfilter_Step (f2 : SFilter) (t2 : Int) : C Tryz.prog (SFilter × Bool × Int) := .of Z Tryz.call296 Tryz.func296 [A_SFilter f2, .t (tI t2)] (fun r => .tup [A_SFilter r.1, .t (tB r.2.1), .t (tI r.2.2)]) (
  .K (toothfilter_Valid f2) fun v => .I (!v) (.R ((⟨false, 0, 0⟩ : SFilter), false, 1)) (.K (toothfilter_time t2) fun v2 => .I (!v2) (.R ((⟨false, 0, 0⟩ : SFilter), false, 2)) (.I (f2.Seen && (decide (t2 < f2.Last))) (.R ((⟨false, 0, 0⟩ : SFilter), false, 16)) (.J0 1 (fun (t : Bool) => [.t 28 (.t (tB t)), .x 19]) (.D [] [] <| .Sp f2.Seen (.K (toothfilter_Blank f2) fun v3 => .R (decide ((w64 (t2 - f2.Last)) < v3))) (.R false)) fun v4 => .I v4 (.R (f2, false, 0)) (.I f2.Seen (.R ((⟨true, t2, w64 (t2 - f2.Last)⟩ : SFilter), true, 0)) (.R ((⟨true, t2, 0⟩ : SFilter), true, 0))))))) (by kernel_rfl)
noncomputable def ecu_keep_Filter (old : SFilter) : C Tryz.prog SFilter := .of Z Tryz.call297 Tryz.func297 [A_SFilter old] (fun r => .fz 362 [enc_SFilter r]) (
  .Z (.fb 1) <| .R old) (by kernel_rfl)
noncomputable def sync_gap (w : SWheel) (normal : Int) (period : Int) : C Tryz.prog Bool := .of Z Tryz.call410 Tryz.func410 [A_SWheel w, .t (tI normal), .t (tI period)] (fun r => .t (tB r)) (
  .I (w.Missing == 1) (.R (decide ((w64 (2 * period)) > (w64 (3 * normal))))) (.R (decide (period > (w64 (2 * normal)))))) (by kernel_rfl)
noncomputable def sync_fits (p2 : Int) (q : Int) : C Tryz.prog Bool := .of Z Tryz.call411 Tryz.func411 [.t (tI p2), .t (tI q)] (fun r => .t (tB r)) (
  .R (decide ((w64 (4 * (maxI (w64 (p2 - q)) (w64 (q - p2))))) ≤ q))) (by kernel_rfl)
noncomputable def sync_step (w : SWheel) (s : SSync) (t2 : Int) : C Tryz.prog SSync := .of Z Tryz.call363 Tryz.func363 [A_SWheel w, A_SSync s, .t (tI t2)] (fun r => A_SSync r) (
  .I (s.Mode == 1) (.G (s.Teeth == 2) (.K (sync_gap w s.Normal (w64 (t2 - s.Last))) fun v => .R v) (.R false) fun b2 => .I b2 (.O (.quo .i64 (w64 (t2 - s.Last)) (w64 (w.Missing + 1))) fun q => .R (⟨2, 0, t2, w64 (t2 - s.Last), q, 0⟩ : SSync)) (.G (s.Teeth != 0) (.K (sync_fits (w64 (t2 - s.Last)) s.Normal) fun v2 => .R v2) (.R false) fun b3 => .I b3 (.R (⟨1, 0, t2, w64 (t2 - s.Last), w64 (t2 - s.Last), 2⟩ : SSync)) (.R (⟨1, 0, t2, w64 (t2 - s.Last), w64 (t2 - s.Last), 1⟩ : SSync)))) (.I (s.Mode == 2) (.K (sync_expected w s) fun v3 => .K (sync_fits (w64 (t2 - s.Last)) v3) fun v4 => .I (!v4) (.R (⟨0, 0, 0, 0, 0, 0⟩ : SSync)) (.K (sync_last w s) fun v5 => .I v5 (.O (.quo .i64 (w64 (t2 - s.Last)) (w64 (w.Missing + 1))) fun q2 => .R (⟨2, 0, t2, w64 (t2 - s.Last), q2, 0⟩ : SSync)) (.R (⟨2, w64 (s.Tooth + 1), t2, w64 (t2 - s.Last), w64 (t2 - s.Last), 0⟩ : SSync)))) (.R (⟨1, 0, t2, 0, 0, 0⟩ : SSync)))) (by kernel_rfl)
noncomputable def sync_Step (w : SWheel) (s : SSync) (t2 : Int) : C Tryz.prog (SSync × Int) := .of Z Tryz.call298 Tryz.func298 [A_SWheel w, A_SSync s, .t (tI t2)] (fun r => .tup [A_SSync r.1, .t (tI r.2)]) (
  .K (sync_Valid w s) fun v => .I (!v) (.R ((⟨0, 0, 0, 0, 0, 0⟩ : SSync), 1)) (.K (sync_instant t2) fun v2 => .I (!v2) (.R ((⟨0, 0, 0, 0, 0, 0⟩ : SSync), 2)) (.I ((s.Mode != 0) && (decide (t2 ≤ s.Last))) (.R ((⟨0, 0, 0, 0, 0, 0⟩ : SSync), 16)) (.K (sync_step w s t2) fun v3 => .R (v3, 0))))) (by kernel_rfl)
noncomputable def wheel_Halves (c : SCam) : C Tryz.prog (Int × Int) := .of Z Tryz.call364 Tryz.func364 [A_SCam c] (fun r => .tup [.t (tI r.1), .t (tI r.2)]) (
  .K (wheel_ValidCam c) fun v => .I (!v) (.R (0, 0)) (.K (wheel_halves c) fun r2 => .R (r2.1, r2.2))) (by kernel_rfl)
noncomputable def phase_Turn (c : SCam) (p2 : SPhase) : C Tryz.prog (SPhase × Int) := .of Z Tryz.call299 Tryz.func299 [A_SCam c, A_SPhase p2] (fun r => .tup [A_SPhase r.1, .t (tI r.2)]) (
  .K (phase_Valid c p2) fun v => .I (!v) (.R ((⟨false, 0, 0, false⟩ : SPhase), 1)) (.I (!p2.Seen) (.R ((⟨false, 0, 0, true⟩ : SPhase), 0)) (.K (wheel_Halves c) fun r2 => .J0 0 (fun (t : Int) => [.t 9 (.t (tI t)), .x 2, .x 16, .x 25, .d 2]) (.I (p2.Count == r2.1) (.R 0) (.I (p2.Count == r2.2) (.R 1) (.R (-1)))) fun half => .I ((decide (half ≥ 0)) && ((!p2.Known) || (p2.Half == half))) (.R ((⟨true, w64 (1 - half), 0, true⟩ : SPhase), 0)) (.R ((⟨false, 0, 0, true⟩ : SPhase), 0))))) (by kernel_rfl)
noncomputable def wheel_Angle (w : SWheel) (tooth : Int) : C Tryz.prog (Int × Int) := .of Z Tryz.call365 Tryz.func365 [A_SWheel w, .t (tI tooth)] (fun r => .tup [.t (tI r.1), .t (tI r.2)]) (
  .K (wheel_Valid w) fun v => .I (!v) (.R (0, 1)) (.G (decide (tooth < 0)) (.R true) (.K (wheel_Teeth w) fun v2 => .R (decide (tooth ≥ v2))) fun b2 => .I b2 (.R (0, 2)) (.K (wheel_Space w) fun v3 => .R (w64 (tooth * v3), 0)))) (by kernel_rfl)
noncomputable def angle_Tooth (w : SWheel) (t2 : Int) (tooth : Int) (half : Int) (period : Int) : C Tryz.prog (SClock × Int) := .of Z Tryz.call300 Tryz.func300 [A_SWheel w, .t (tI t2), .t (tI tooth), .t (tI half), .t (tI period)] (fun r => .tup [A_SClock r.1, .t (tI r.2)]) (
  .K (wheel_Valid w) fun v => .I (!v) (.R ((⟨false, 0, 0, 0, 0, 0⟩ : SClock), 1)) (.K (wheel_Angle w tooth) fun r2 => .G (r2.2 != 0) (.R true) (.K (angle_isTime t2) fun v2 => .R (!v2)) fun b2 => .I ((((b2 || (decide (half < 0))) || (decide (half > 1))) || (decide (period < (w64 (w.Missing + 1))))) || (decide (period > 1073741824))) (.R ((⟨false, 0, 0, 0, 0, 0⟩ : SClock), 2)) (.K (wheel_Space w) fun v3 => .J0 0 (fun (t : Int) => [.c 15 3 [.t (tI t)]]) (.I (tooth == 0) (.O (.quo .i64 period (w64 (w.Missing + 1))) fun q => .R q) (.R period)) fun f2 => .K (wheel_Teeth w) fun v4 => .I (tooth == (w64 (v4 - 1))) (.R ((⟨true, t2, w64 ((w64 (half * 23040)) + r2.1), f2, v3, w64 (v3 * (w64 (w.Missing + 1)))⟩ : SClock), 0)) (.R ((⟨true, t2, w64 ((w64 (half * 23040)) + r2.1), f2, v3, v3⟩ : SClock), 0))))) (by kernel_rfl)
noncomputable def events_Distance (v_from : Int) (v_to : Int) : C Tryz.prog Int := .of Z Tryz.call366 Tryz.func366 [.t (tI v_from), .t (tI v_to)] (fun r => .t (tI r)) (
  .K (events_angle v_from) fun v => .G (!v) (.R true) (.K (events_angle v_to) fun v2 => .R (!v2)) fun b2 => .I b2 (.R (-1)) (.K (arith_Mod (w64 (v_to - v_from)) 46080) fun v3 => .R v3)) (by kernel_rfl)
noncomputable def angle_check (c : SClock) : C Tryz.prog Int := .of Z Tryz.call442 Tryz.func442 [A_SClock c] (fun r => .t (tI r)) (
  .K (angle_Valid c) fun v => .I (!v) (.R 1) (.I (!c.Valid) (.R 6) (.R 0))) (by kernel_rfl)
noncomputable def angle_up (a : Int) (b2 : Int) : C Tryz.prog Int := .of Z Tryz.call443 Tryz.func443 [.t (tI a), .t (tI b2)] (fun r => .t (tI r)) (
  .K (arith_Div a b2 2) fun r2 => .R r2.1) (by kernel_rfl)
noncomputable def angle_Ticks (c : SClock) (units : Int) : C Tryz.prog (Int × Int) := .of Z Tryz.call412 Tryz.func412 [A_SClock c, .t (tI units)] (fun r => .tup [.t (tI r.1), .t (tI r.2)]) (
  .K (angle_check c) fun v => .I (v != 0) (.R (0, v)) (.I ((decide (units < 0)) || (decide (units > 46080))) (.R (0, 2)) (.K (angle_up (w64 (units * c.Period)) c.Space) fun v2 => .R (v2, 0)))) (by kernel_rfl)
noncomputable def events_center (e2 : SEngine) (cylinder : Int) : C Tryz.prog (Int × Bool) := .of Z Tryz.call444 Tryz.func444 [A_SEngine e2, .t (tI cylinder)] (fun r => .tup [.t (tI r.1), .t (tB r.2)]) (
  .K (slices_Index_sint e2.Order cylinder) fun v => .D [] [] <| .O (.quo .i64 (w64 ((maxI v 0) * 46080)) (e2.Order.length : Int)) fun q => .R (Int.tmod (w64 (e2.First + q)) 46080, decide (v ≥ 0))) (by kernel_rfl)
noncomputable def events_Center (e2 : SEngine) (cylinder : Int) : C Tryz.prog (Int × Int) := .of Z Tryz.call413 Tryz.func413 [A_SEngine e2, .t (tI cylinder)] (fun r => .tup [.t (tI r.1), .t (tI r.2)]) (
  .K (events_Valid e2) fun v => .I (!v) (.R (0, 1)) (.K (events_center e2 cylinder) fun r2 => .I (!r2.2) (.R (0, 7)) (.R (r2.1, 0)))) (by kernel_rfl)
noncomputable def scheduler_begin_1 (f2 : SFire) (c : Int) : C Tryz.prog Bool := .of Z Tryz.call414 Tryz.func414 [A_SFire f2, .el (Pv.encI c)] (fun r => .t (tB r)) (
  .R (f2.Cylinder == c)) (by kernel_rfl)
noncomputable def events_Plan_1 (f2 : SFire) (c : SEngine) : C Tryz.prog Bool := .of Z Tryz.call460 Tryz.func460 [A_SFire f2, .el (enc_SEngine c)] (fun r => .t (tB r)) (
  .K (events_ValidFire c f2) fun v => .R (!v)) (by kernel_rfl)
noncomputable def events_Plan_2 (g : SFire) (c : SFire) : C Tryz.prog Bool := .of Z Tryz.call461 Tryz.func461 [A_SFire g, .el (enc_SFire c)] (fun r => .t (tB r)) (
  .R (g.Cylinder == c.Cylinder)) (by kernel_rfl)
noncomputable def events_Plan_3 (v_at : Int) (kind : Int) (pulse : Int) (c : List SEvent) (c2 : SFire) : CG Tryz.prog (List SEvent) := .of Z Tryz.call462 Tryz.func462 [.t (tI v_at), .t (tI kind), .t (tI pulse), .ptr 1000000 0, .el (enc_SFire c2)] [(1000000, .box [.own 1000001]), (1000001, .rs 246 4 c enc_SEvent)] (fun _ => .tup []) (fun r => [(900000, .rs 246 4 r enc_SEvent), (1000000, .box [.own 900000])]) [900000] (
  .D [] [] <| .K (arith_Mod v_at 46080) fun v => .Z (.rn [(1000001, 2136)]) <| .U (.ap enc_SEvent c ([(⟨v, kind, c2.Cylinder, pulse⟩ : SEvent)] : List SEvent) 2136) fun l => .R l) (by kernel_rfl)
noncomputable def events_Plan_4 (d : Int) (c : Int) : C Tryz.prog Int := .of Z Tryz.call463 Tryz.func463 [.t (tI d), .el (Pv.encI c)] (fun r => .t (tI r)) (
  .O (.quo .i64 (w64 (d * 23040)) c) fun q => .R q) (by kernel_rfl)
noncomputable def events_Pulses (f2 : SFire) : C Tryz.prog Int := .of Z Tryz.call464 Tryz.func464 [A_SFire f2] (fun r => .t (tI r)) (
  .I (f2.Inject == 0) (.R 0) (.I (f2.Extra == 0) (.R 1) (.R 2))) (by kernel_rfl)
def sortL465_ren : Go.Shelf.Ren := ⟨fun | 6 => 465 | 14 => 487 | 15 => 449 | 20 => 499 | 21 => 500 | 22 => 501 | 23 => 502 | 24 => 503 | 25 => 504 | 26 => 505 | 27 => 506 | 28 => 476 | 29 => 377 | 46 => 511 | 47 => 491 | 48 => 492 | 49 => 512 | 50 => 513 | 57 => 515 | n => n, fun | 0 => 0 | 3 => 3 | 4 => 4 | 5 => 5 | 9 => 9 | 22 => 505 | 24 => 246 | 25 => 520 | 39 => 265 | 45 => 523 | 46 => 524 | 50 => 261 | 53 => 364 | 55 => 413 | 66 => 538 | 70 => 542 | 76 => 551 | 77 => 362 | n => n, fun  | n => n⟩
open Go.Shelf in
theorem sortL465 : SlLaysF0.n6 Tryz.prog sortL465_ren := {
  mixed := by kernel_rfl,
  f6 := ⟨Tryz.f465.name, by decide, Tryz.func465.trans (congrArg some (by kernel_rfl))⟩,
  f14 := ⟨Tryz.f487.name, by decide, Tryz.func487.trans (congrArg some (by kernel_rfl))⟩,
  f15 := Tryz.func449.trans (congrArg some (by kernel_rfl)),
  f20 := ⟨Tryz.f499.name, by decide, Tryz.func499.trans (congrArg some (by kernel_rfl))⟩,
  f21 := ⟨Tryz.f500.name, by decide, Tryz.func500.trans (congrArg some (by kernel_rfl))⟩,
  f22 := ⟨Tryz.f501.name, by decide, Tryz.func501.trans (congrArg some (by kernel_rfl))⟩,
  f23 := ⟨Tryz.f502.name, by decide, Tryz.func502.trans (congrArg some (by kernel_rfl))⟩,
  f24 := ⟨Tryz.f503.name, by decide, Tryz.func503.trans (congrArg some (by kernel_rfl))⟩,
  f25 := ⟨Tryz.f504.name, by decide, Tryz.func504.trans (congrArg some (by kernel_rfl))⟩,
  f26 := ⟨Tryz.f505.name, by decide, Tryz.func505.trans (congrArg some (by kernel_rfl))⟩,
  f27 := ⟨Tryz.f506.name, by decide, Tryz.func506.trans (congrArg some (by kernel_rfl))⟩,
  f28 := Tryz.func476.trans (congrArg some (by kernel_rfl)),
  f29 := Tryz.func377.trans (congrArg some (by kernel_rfl)),
  f46 := ⟨Tryz.f511.name, by decide, Tryz.func511.trans (congrArg some (by kernel_rfl))⟩,
  f47 := Tryz.func491.trans (congrArg some (by kernel_rfl)),
  f48 := Tryz.func492.trans (congrArg some (by kernel_rfl)),
  f49 := ⟨Tryz.f512.name, by decide, Tryz.func512.trans (congrArg some (by kernel_rfl))⟩,
  f50 := ⟨Tryz.f513.name, by decide, Tryz.func513.trans (congrArg some (by kernel_rfl))⟩,
  f57 := ⟨Tryz.f515.name, by decide, Tryz.func515.trans (congrArg some (by kernel_rfl))⟩,
  t0 := Tryz.underlying0,
  a0 := Tryz.isAgg0,
  z0 := Tryz.sizeOf0,
  v0 := Tryz.zeroValue0,
  t3 := Tryz.underlying3,
  a3 := Tryz.isAgg3,
  z3 := Tryz.sizeOf3,
  v3 := Tryz.zeroValue3,
  t4 := Tryz.underlying4,
  a4 := Tryz.isAgg4,
  z4 := Tryz.sizeOf4,
  v4 := Tryz.zeroValue4,
  t5 := Tryz.underlying5,
  a5 := Tryz.isAgg5,
  z5 := Tryz.sizeOf5,
  v5 := Tryz.zeroValue5,
  t9 := Tryz.underlying9,
  a9 := Tryz.isAgg9,
  z9 := Tryz.sizeOf9,
  v9 := Tryz.zeroValue9,
  t22 := Tryz.underlying505,
  a22 := Tryz.isAgg505,
  z22 := Tryz.sizeOf505,
  v22 := Tryz.zeroValue505,
  t25 := Tryz.underlying520,
  a25 := Tryz.isAgg520,
  z25 := Tryz.sizeOf520,
  v25 := Tryz.zeroValue520,
  t39 := Tryz.underlying265,
  a39 := Tryz.isAgg265,
  z39 := Tryz.sizeOf265,
  v39 := Tryz.zeroValue265,
  t45 := Tryz.underlying523,
  a45 := Tryz.isAgg523,
  z45 := Tryz.sizeOf523,
  v45 := Tryz.zeroValue523,
  t46 := Tryz.underlying524,
  a46 := Tryz.isAgg524,
  z46 := Tryz.sizeOf524,
  v46 := Tryz.zeroValue524,
  t50 := Tryz.underlying261,
  a50 := Tryz.isAgg261,
  z50 := Tryz.sizeOf261,
  v50 := Tryz.zeroValue261,
  t53 := Tryz.underlying364,
  a53 := Tryz.isAgg364,
  z53 := Tryz.sizeOf364,
  v53 := Tryz.zeroValue364,
  t55 := Tryz.underlying413,
  a55 := Tryz.isAgg413,
  z55 := Tryz.sizeOf413,
  v55 := Tryz.zeroValue413,
  t66 := Tryz.underlying538,
  a66 := Tryz.isAgg538,
  z66 := Tryz.sizeOf538,
  v66 := Tryz.zeroValue538,
  t70 := Tryz.underlying542,
  a70 := Tryz.isAgg542,
  z70 := Tryz.sizeOf542,
  v70 := Tryz.zeroValue542,
  t76 := Tryz.underlying551,
  a76 := Tryz.isAgg551,
  z76 := Tryz.sizeOf551,
  v76 := Tryz.zeroValue551,
  t77 := Tryz.underlying362,
  a77 := Tryz.isAgg362,
  z77 := Tryz.sizeOf362,
  v77 := Tryz.zeroValue362 }
theorem tie_slices_SortFunc_sEvent (s : List SEvent) (n : Nat) (cs : List (List Tree)) (f : SEvent → SEvent → Option Int) (h : ∀ x0 x1, TieF Tryz.prog n ([A_SEvent x0, A_SEvent x1] ++ cs.map T.el) (f x0 x1) (fun r => .t (tI r))) :
    TieG Tryz.prog 465 [.own 1000000, .fz n cs] [(1000000, .rows 246 4 s.length (s.map enc_SEvent))] (sortM f s) (fun _ => .tup []) (fun r => [(1000000, .rows 246 4 r.length (r.map enc_SEvent))]) :=
  sortFunc_tie (E := SEvent) (enc := enc_SEvent) (ρ := sortL465_ren) sortL465 (k := 4) (fun x => [.int .i64 x.Angle, .int .i64 x.Kind, .int .i64 x.Cylinder, .int .i64 x.Pulse]) (fun _ => rfl) (fun _ => rfl) (fun x v hv => by simp only [List.mem_cons, List.not_mem_nil, or_false] at hv; rcases hv with rfl | rfl | rfl | rfl <;> rfl) (fun w => Tryz.isAgg246 w) (fun w => Tryz.sizeOf246 w) (A := A_SEvent) (fun _ => rfl) f h s
noncomputable def slices_SortFunc_sEvent (s : List SEvent) (f : Cl Tryz.prog (SEvent × SEvent) Int (fun x => [A_SEvent x.1, A_SEvent x.2]) (fun r => .t (tI r))) : CG Tryz.prog (List SEvent) :=
  ⟨465, [.own 1000000, .fz f.n f.cs], [(1000000, .rows 246 4 s.length (s.map enc_SEvent))], sortM (fun x y => f.f (x, y)) s, fun k => sortE (fun x y => f.e k (x, y)) s, fun _ => .tup [], fun r => [(1000000, .rows 246 4 r.length (r.map enc_SEvent))], [], true, tie_slices_SortFunc_sEvent s f.n f.cs _ (fun x y => f.ok (x, y)), fun k r h => sortE_le (fun x y r h => f.le k (x, y) r h) h⟩
noncomputable def events_order (a : SEvent) (b2 : SEvent) : C Tryz.prog Int := .of Z Tryz.call466 Tryz.func466 [A_SEvent a, A_SEvent b2] (fun r => .t (tI r)) (
  .D [] [] <| .K (cmp_Compare_int a.Angle b2.Angle) fun v => .K (cmp_Compare_int a.Cylinder b2.Cylinder) fun v2 => .K (cmp_Compare_int a.Kind b2.Kind) fun v3 => .K (cmp_Compare_int a.Pulse b2.Pulse) fun v4 => .K (cmp_Or_int ([v, v2, v3, v4] : List Int)) fun v5 => .R v5) (by kernel_rfl)
noncomputable def events_Plan_b1 (l : List SFire) (i : Int) (_ : Unit) : M Tryz.prog (List SEvent × Int) (Fl Unit (List SEvent × Int)) :=
  .O (.ix enc_SFire l i) fun x => .U (.sF enc_SFire l 0 i) fun l2 => .Z (.fb 9) <| .K (slices_ContainsFunc_sFire l2 (.of (fun z_ => events_Plan_2 z_ x) 461 [enc_SFire x] (fun _ => rfl) (fun _ => rfl) (fun _ => rfl))) fun v4 => .I v4 (.R (.ret (([] : List SEvent), 8))) (.R (.next ()))
noncomputable def events_Plan_b2 (e2 : SEngine) (ticks : Int) (_ : Int) (x2 : SFire) (f2 : List SEvent) : M Tryz.prog (List SEvent × Int) (Fl (List SEvent) (List SEvent × Int)) :=
  .W (.hx 0) <| .K (events_center e2 x2.Cylinder) fun r2 => .Z (.fb 12) <| .KG (events_Plan_3 (w64 (r2.1 - x2.Spark)) 2 0 f2 x2) [2512] fun v5 => .K (events_Plan_4 x2.Dwell ticks) fun v6 => .KG (events_Plan_3 (w64 ((w64 (r2.1 - x2.Spark)) - (minI v6 23040))) 1 0 v5 x2) [2584] fun v7 => .D [] [] <| .K (events_Plan_4 x2.Inject ticks) fun v8 => .K (events_Plan_4 x2.Gap ticks) fun v9 => .K (events_Plan_4 x2.Extra ticks) fun v10 => .I (decide ((maxI (maxI v8 v9) v10) > 23040)) (.R (.ret (([] : List SEvent), 2))) (.K (events_Pulses x2) fun v11 => .J0 0 (fun (t : List SEvent) => [.x 56, .x 62, .x 65, .b 10 (.box [.own 2840]), .b 2840 (.rs 246 4 t enc_SEvent), .d 2584]) (.I (decide (v11 > 0)) (.KG (events_Plan_3 (w64 (r2.1 - x2.End)) 4 1 v7 x2) [2776] fun v12 => .K (events_Plan_4 x2.Inject ticks) fun v13 => .KG (events_Plan_3 (w64 ((w64 (r2.1 - x2.End)) - v13)) 3 1 v12 x2) [2840] fun v14 => .R v14) (.Z (.rn [(2584, 2840)]) <| .R v7)) fun f3 => .K (events_Pulses x2) fun v15 => .I (decide (v15 > 1)) (.K (events_Plan_4 x2.Gap ticks) fun v16 => .KG (events_Plan_3 (w64 ((w64 (r2.1 - x2.End)) + v16)) 3 2 f3 x2) [2928] fun v17 => .D [] [] <| .K (events_Plan_4 x2.Gap ticks) fun v18 => .K (events_Plan_4 x2.Extra ticks) fun v19 => .KG (events_Plan_3 (w64 ((w64 ((w64 (r2.1 - x2.End)) + v18)) + v19)) 4 2 v17 x2) [3032] fun v20 => .R (.next v20)) (.Z (.rn [(2840, 3032)]) <| .R (.next f3)))
noncomputable def events_Plan (e2 : SEngine) (l : List SFire) (ticks : Int) : C Tryz.prog (List SEvent × Int) := .of Z Tryz.call445 Tryz.func445 [A_SEngine e2, .t (tS enc_SFire l), .t (tI ticks)] (fun r => .tup [.t (tS enc_SEvent r.1), .t (tI r.2)]) (
  .K (events_Valid e2) fun v => .Z (.fb 3) <| .G (!v) (.R true) (.K (slices_ContainsFunc_sFire l (.of (fun z_ => events_Plan_1 z_ e2) 460 [enc_SEngine e2] (fun _ => rfl) (fun _ => rfl) (fun _ => rfl))) fun v2 => .R v2) fun b2 => .I b2 (.R (([] : List SEvent), 1)) (.K (events_within ticks 4000 1000000) fun v3 => .I (!v3) (.R (([] : List SEvent), 2)) (M.QN (l.length : Int) 2 32 (fun (_ : Unit) => []) 0 (.one .rt) (events_Plan_b1 l) () (fun _ => .Z (.fb 5) <| .Z (.nb 10 3032 246 4 [0]) <| M.Q enc_SFire l 2 45 (fun (t : List SEvent) => [.b 3032 (.rs 246 4 t enc_SEvent)]) 2 (.one .rt) (events_Plan_b2 e2 ticks) ([] : List SEvent) (fun f4 => .KG (slices_SortFunc_sEvent f4 (.of (fun z_ => events_order z_.1 z_.2) 466 [] (fun _ => rfl) (fun _ => rfl) (fun _ => rfl))) [] fun v21 => .R (v21, 0)) (fun r3 => .R r3)) (fun r4 => .R r4)))) (by kernel_rfl)
noncomputable def slices_insertionSortCmpFunc_scheduler_planned_b2 (a : Int) (cmp : Cl Tryz.prog (Sscheduler_planned × Sscheduler_planned) Int (fun x => [A_Sscheduler_planned x.1, A_Sscheduler_planned x.2]) (fun r => .t (tI r))) (s2 : Int × List Sscheduler_planned) : M Tryz.prog (List Sscheduler_planned) ((Int × List Sscheduler_planned) ⊕ ((Int × List Sscheduler_planned) ⊕ Empty)) :=
  .J0 1 (fun (t : Bool) => [.t 34 (.t (tB t))]) (.D [] [] <| .Sp (decide (s2.1 > a)) (.O (.ix enc_Sscheduler_planned s2.2 s2.1) fun x => .W (.ly 0) <| .O (.ix enc_Sscheduler_planned s2.2 (w64 (s2.1 - 1))) fun x2 => .W (.ly 0) <| .K (cmp.at (x, x2)) fun v => .R (decide (v < 0))) (.R false)) fun v2 => .I v2 (.D [] [(15, 1000000)] <| .O (.ix enc_Sscheduler_planned s2.2 (w64 (s2.1 - 1))) fun x3 => .W (.ly 0) <| .O (.ix enc_Sscheduler_planned s2.2 s2.1) fun x4 => .W (.ly 0) <| .W (.hx 0) <| .U (.st enc_Sscheduler_planned s2.2 s2.1 x3 0) fun l => .O (.ix enc_Sscheduler_planned l (w64 (s2.1 - 1))) fun _ => .U (.st enc_Sscheduler_planned l (w64 (s2.1 - 1)) x4 0) fun l2 => .R (.inl (w64 (s2.1 - 1), l2))) (.R (.inr (.inl (s2.1, s2.2))))
noncomputable def slices_insertionSortCmpFunc_scheduler_planned_b1 (a : Int) (b2 : Int) (cmp : Cl Tryz.prog (Sscheduler_planned × Sscheduler_planned) Int (fun x => [A_Sscheduler_planned x.1, A_Sscheduler_planned x.2]) (fun r => .t (tI r))) (s : Int × List Sscheduler_planned) : M Tryz.prog (List Sscheduler_planned) ((Int × List Sscheduler_planned) ⊕ ((Int × List Sscheduler_planned) ⊕ Empty)) :=
  .I (decide (s.1 < b2)) (.L (fun (t : Int × List Sscheduler_planned) => [.t 9 (.t (tI t.1)), .b 1000000 (.rs 487 5 t.2 enc_Sscheduler_planned)]) 2 (.e) (slices_insertionSortCmpFunc_scheduler_planned_b2 a cmp) (s.1, s.2) (fun s3 => .R (.inl (w64 (s.1 + 1), s3.2))) (fun t => t.elim)) (.R (.inr (.inl (s.1, s.2))))
noncomputable def slices_insertionSortCmpFunc_scheduler_planned (data : List Sscheduler_planned) (a : Int) (b2 : Int) (cmp : Cl Tryz.prog (Sscheduler_planned × Sscheduler_planned) Int (fun x => [A_Sscheduler_planned x.1, A_Sscheduler_planned x.2]) (fun r => .t (tI r))) : CG Tryz.prog (List Sscheduler_planned) := .of Z Tryz.call488 Tryz.func488 [.own 1000000, .t (tI a), .t (tI b2), .fz cmp.n cmp.cs] [(1000000, .rs 487 5 data enc_Sscheduler_planned)] (fun _ => .tup []) (fun r => [(1000000, .rs 487 5 r enc_Sscheduler_planned)]) [] (
  .L (fun (t : Int × List Sscheduler_planned) => [.t 8 (.t (tI t.1)), .b 1000000 (.rs 487 5 t.2 enc_Sscheduler_planned)]) 0 (.e) (slices_insertionSortCmpFunc_scheduler_planned_b1 a b2 cmp) (w64 (a + 1), data) (fun s4 => .R s4.2) (fun t => t.elim)) (by kernel_rfl)
noncomputable def slices_symMergeCmpFunc_scheduler_planned (data : List Sscheduler_planned) (a : Int) (m2 : Int) (b2 : Int) (cmp : Cl Tryz.prog (Sscheduler_planned × Sscheduler_planned) Int (fun x => [A_Sscheduler_planned x.1, A_Sscheduler_planned x.2]) (fun r => .t (tI r))) : CG Tryz.prog (List Sscheduler_planned) := ⟨489, [.own 1000000, .t (tI a), .t (tI m2), .t (tI b2), .fz cmp.n cmp.cs], [(1000000, .rs 487 5 data enc_Sscheduler_planned)], none, fun _ => none, (fun _ => .tup []), (fun r => [(1000000, .rs 487 5 r enc_Sscheduler_planned)]), [], true, ⟨Tryz.call489, fun _ h => by cases h⟩, fun _ _ h => by cases h⟩
noncomputable def slices_stableCmpFunc_scheduler_planned_b1 (n2 : Int) (cmp : Cl Tryz.prog (Sscheduler_planned × Sscheduler_planned) Int (fun x => [A_Sscheduler_planned x.1, A_Sscheduler_planned x.2]) (fun r => .t (tI r))) (s : Int × Int × List Sscheduler_planned) : M Tryz.prog (List Sscheduler_planned) ((Int × Int × List Sscheduler_planned) ⊕ ((Int × Int × List Sscheduler_planned) ⊕ Empty)) :=
  .I (decide (s.2.1 ≤ n2)) (.KG (slices_insertionSortCmpFunc_scheduler_planned s.2.2 s.1 s.2.1 cmp) [] fun v => .R (.inl (s.2.1, w64 (s.2.1 + 20), v))) (.R (.inr (.inl (s.1, s.2.1, s.2.2))))
noncomputable def slices_stableCmpFunc_scheduler_planned_b3 (n2 : Int) (cmp : Cl Tryz.prog (Sscheduler_planned × Sscheduler_planned) Int (fun x => [A_Sscheduler_planned x.1, A_Sscheduler_planned x.2]) (fun r => .t (tI r))) (s3 : Int × List Sscheduler_planned) (s4 : Int × Int × List Sscheduler_planned) : M Tryz.prog (List Sscheduler_planned) ((Int × Int × List Sscheduler_planned) ⊕ ((Int × Int × List Sscheduler_planned) ⊕ Empty)) :=
  .I (decide (s4.2.1 ≤ n2)) (.KG (slices_symMergeCmpFunc_scheduler_planned s4.2.2 s4.1 (w64 (s4.1 + s3.1)) s4.2.1 cmp) [] fun v3 => .R (.inl (s4.2.1, w64 (s4.2.1 + (w64 (2 * s3.1))), v3))) (.R (.inr (.inl (s4.1, s4.2.1, s4.2.2))))
noncomputable def slices_stableCmpFunc_scheduler_planned_b2 (n2 : Int) (cmp : Cl Tryz.prog (Sscheduler_planned × Sscheduler_planned) Int (fun x => [A_Sscheduler_planned x.1, A_Sscheduler_planned x.2]) (fun r => .t (tI r))) (s3 : Int × List Sscheduler_planned) : M Tryz.prog (List Sscheduler_planned) ((Int × List Sscheduler_planned) ⊕ ((Int × List Sscheduler_planned) ⊕ Empty)) :=
  .I (decide (s3.1 < n2)) (.L (fun (t : Int × Int × List Sscheduler_planned) => [.t 7 (.t (tI t.1)), .t 8 (.t (tI t.2.1)), .b 1000000 (.rs 487 5 t.2.2 enc_Sscheduler_planned)]) 4 (.e) (slices_stableCmpFunc_scheduler_planned_b3 n2 cmp s3) (0, w64 (2 * s3.1), s3.2) (fun s5 => .I (decide ((w64 (s5.1 + s3.1)) < n2)) (.KG (slices_symMergeCmpFunc_scheduler_planned s5.2.2 s5.1 (w64 (s5.1 + s3.1)) n2 cmp) [] fun v4 => .R (.inl (w64 (s3.1 * 2), v4))) (.R (.inl (w64 (s3.1 * 2), s5.2.2)))) (fun t => t.elim)) (.R (.inr (.inl (s3.1, s3.2))))
noncomputable def slices_stableCmpFunc_scheduler_planned (data : List Sscheduler_planned) (n2 : Int) (cmp : Cl Tryz.prog (Sscheduler_planned × Sscheduler_planned) Int (fun x => [A_Sscheduler_planned x.1, A_Sscheduler_planned x.2]) (fun r => .t (tI r))) : CG Tryz.prog (List Sscheduler_planned) := .of Z Tryz.call467 Tryz.func467 [.own 1000000, .t (tI n2), .fz cmp.n cmp.cs] [(1000000, .rs 487 5 data enc_Sscheduler_planned)] (fun _ => .tup []) (fun r => [(1000000, .rs 487 5 r enc_Sscheduler_planned)]) [] (
  .L (fun (t : Int × Int × List Sscheduler_planned) => [.t 7 (.t (tI t.1)), .t 8 (.t (tI t.2.1)), .b 1000000 (.rs 487 5 t.2.2 enc_Sscheduler_planned)]) 0 (.e) (slices_stableCmpFunc_scheduler_planned_b1 n2 cmp) (0, 20, data) (fun s2 => .KG (slices_insertionSortCmpFunc_scheduler_planned s2.2.2 s2.1 n2 cmp) [] fun v2 => .L (fun (t : Int × List Sscheduler_planned) => [.t 6 (.t (tI t.1)), .x 23, .b 1000000 (.rs 487 5 t.2 enc_Sscheduler_planned)]) 2 (.e) (slices_stableCmpFunc_scheduler_planned_b2 n2 cmp) (20, v2) (fun s6 => .R s6.2) (fun t => t.elim)) (fun t => t.elim)) (by kernel_rfl)
noncomputable def slices_SortStableFunc_sscheduler_planned (x : List Sscheduler_planned) (cmp : Cl Tryz.prog (Sscheduler_planned × Sscheduler_planned) Int (fun x => [A_Sscheduler_planned x.1, A_Sscheduler_planned x.2]) (fun r => .t (tI r))) : CG Tryz.prog (List Sscheduler_planned) := .of Z Tryz.call446 Tryz.func446 [.own 1000000, .fz cmp.n cmp.cs] [(1000000, .rs 487 5 x enc_Sscheduler_planned)] (fun _ => .tup []) (fun r => [(1000000, .rs 487 5 r enc_Sscheduler_planned)]) [] (
  .KG (slices_stableCmpFunc_scheduler_planned x (x.length : Int) cmp) [] fun v => .R v) (by kernel_rfl)
noncomputable def scheduler_plan_1 (a : Sscheduler_planned) (b2 : Sscheduler_planned) : C Tryz.prog Int := .of Z Tryz.call447 Tryz.func447 [A_Sscheduler_planned a, A_Sscheduler_planned b2] (fun r => .t (tI r)) (
  .D [] [] <| .K (cmp_Compare_int a.f_at b2.f_at) fun v => .K (scheduler_channelOf a.x) fun v2 => .K (scheduler_channelOf b2.x) fun v3 => .K (cmp_Compare_int v2 v3) fun v4 => .K (cmp_Or_int ([v, v4] : List Int)) fun v5 => .R v5) (by kernel_rfl)
noncomputable def scheduler_plan_b1 (begin : Int) (_ : Int) (x : SEvent) (out : List Sscheduler_planned) : M Tryz.prog (List Sscheduler_planned × Bool) (Fl (List Sscheduler_planned) Empty) :=
  .W (.hx 0) <| .D [] [] <| .K (events_Distance begin x.Angle) fun v => .U (.ap enc_Sscheduler_planned out ([(⟨x, v⟩ : Sscheduler_planned)] : List Sscheduler_planned) 2368) fun l => .R (.next l)
noncomputable def scheduler_plan_b3 (x2 : (Int × Int)) (_ : Int) (x3 : Sscheduler_planned) (s : Int × Int × Int) : M Tryz.prog (List Sscheduler_planned × Bool) (Fl (Int × Int × Int) (List Sscheduler_planned × Bool)) :=
  .W (.hx 0) <| .W (.ly 0) <| .I ((x3.x.Kind != x2.1) && (x3.x.Kind != x2.2)) (.R (.next (s.1, s.2.1, s.2.2))) (.I (((x3.x.Kind != s.2.2) || (decide (x3.f_at ≤ s.1))) || (decide (x3.x.Pulse < s.2.1))) (.R (.ret (([] : List Sscheduler_planned), false))) (.D [] [] <| .R (.next (x3.f_at, x3.x.Pulse, w64 ((w64 (x2.1 + x2.2)) - s.2.2)))))
noncomputable def scheduler_plan_b2 (v2 : List Sscheduler_planned) (v3 : Int) : M Tryz.prog (List Sscheduler_planned × Bool) (Int ⊕ (Int ⊕ (List Sscheduler_planned × Bool))) :=
  .I (decide (v3 < 2)) (.O (.arr (fun y => .agg [.t (tI y.1), .t (tI y.2)]) ([(1, 2), (3, 4)] : List (Int × Int)) v3) fun x2 => .D [] [] <| M.Q enc_Sscheduler_planned v2 2 60 (fun (t : Int × Int × Int) => [.t 17 (.t (tI t.1)), .t 18 (.t (tI t.2.1)), .t 19 (.t (tI t.2.2)), .x 56]) 4 (.one .rt) (scheduler_plan_b3 x2) ((-1), 0, x2.1) (fun _ => .R (.inl (w64 (v3 + 1)))) (fun r3 => .R (.inr (.inr r3)))) (.R (.inr (.inl v3)))
noncomputable def scheduler_plan (e2 : SEngine) (f2 : SFire) (begin : Int) (ticks : Int) : C Tryz.prog (List Sscheduler_planned × Bool) := .of Z Tryz.call415 Tryz.func415 [A_SEngine e2, A_SFire f2, .t (tI begin), .t (tI ticks)] (fun r => .tup [.t (tS enc_Sscheduler_planned r.1), .t (tB r.2)]) (
  .Z (.fr 25) <| .K (events_Plan e2 ([f2] : List SFire) ticks) fun r2 => .I (r2.2 != 0) (.R (([] : List Sscheduler_planned), false)) (.Z (.np 12 2368 487 5 []) <| M.Q enc_SEvent r2.1 2 34 (fun (t : List Sscheduler_planned) => [.t 12 (.own 2368), .x 4, .x 5, .b 2368 (.rs 487 5 t enc_Sscheduler_planned), .d 4, .d 5]) 0 (.e) (scheduler_plan_b1 begin) ([] : List Sscheduler_planned) (fun out2 => .KG (slices_SortStableFunc_sscheduler_planned out2 (.of (fun z_ => scheduler_plan_1 z_.1 z_.2) 447 [] (fun _ => rfl) (fun _ => rfl) (fun _ => rfl))) [] fun v2 => .L (fun (t : Int) => [.t 53 (.t (tI t)), .x 48]) 2 (.one .rt) (scheduler_plan_b2 v2) 0 (fun _ => .R (v2, true)) (fun r4 => .R r4)) (fun t => t.elim))) (by kernel_rfl)
noncomputable def scheduler_begin_b2 (v : Int) (_ : Int) (x3 : Sscheduler_planned) (f3 : List SJob) : M Tryz.prog SScheduler (Fl (List SJob) Empty) :=
  .W (.hx 0) <| .Pn 40000 <| .D [] [(13, 40000)] <| .U (.ap enc_SJob f3 ([(⟨x3.x, w64 (v + x3.f_at), false, 0⟩ : SJob)] : List SJob) 40000) fun l => .R (.next l)
noncomputable def scheduler_begin_b1 (s : SScheduler) (r2 : Int × Int) (_ : Int) (x : Int) (f2 : List SJob) : M Tryz.prog SScheduler (Fl (List SJob) Empty) :=
  .W (.hx 0) <| .D [] [] <| .K (events_Center s.Engine x) fun r3 => .K (events_Distance s.Clock.Angle (Int.tmod (w64 (r3.1 + 5760)) 46080)) fun v => .Z (.fb 5) <| .K (slices_IndexFunc_sFire s.Next (.of (fun z_ => scheduler_begin_1 z_ x) 414 [Pv.encI x] (fun _ => rfl) (fun _ => rfl) (fun _ => rfl))) fun v2 => .I ((decide (v ≥ s.Clock.Ahead)) || (decide (v2 < 0))) (.R (.next f2)) (.D [] [] <| .O (.ix enc_SFire s.Next v2) fun x2 => .K (scheduler_plan s.Engine x2 (Int.tmod (w64 (r3.1 + 5760)) 46080) r2.1) fun r4 => .I (!r4.2) (.R (.next f2)) (M.Q enc_Sscheduler_planned r4.1 2 90 (fun (t : List SJob) => [.x 34, .x 35, .x 36, .x 45, .x 46, .x 47, .x 48, .x 52, .x 53, .x 54, .x 59, .x 60, .x 61, .x 62, .x 70, .x 71, .x 72, .x 74, .x 75, .x 76, .b 40000 (.rs 248 7 t enc_SJob)]) 2 (.e) (scheduler_begin_b2 v) f2 (fun f4 => .R (.next f4)) (fun t => t.elim)))
noncomputable def scheduler_begin (s : SScheduler) : CG Tryz.prog SScheduler := .of Z Tryz.call367 Tryz.func367 [.ptr 1000000 0] [(1000000, .box (lset (B_SScheduler s) [(11, .own 1000001)])), (1000001, .rs 248 7 s.Jobs enc_SJob)] (fun _ => .tup []) (fun r => [(900000, .rs 248 7 r.Jobs enc_SJob), (1000000, .box (lset (B_SScheduler r) [(11, .own 900000)]))]) [900000] (
  .K (angle_Ticks s.Clock 23040) fun r2 => .Z (.rn [(1000001, 40000)]) <| M.Q Pv.encI s.Engine.Order 2 29 (fun (t : List SJob) => [.x 16, .x 17, .x 18, .x 23, .x 24, .x 25, .x 26, .b 40000 (.rs 248 7 t enc_SJob)]) 0 (.e) (scheduler_begin_b1 s r2) s.Jobs (fun f5 => .R ({ s with Jobs := f5 } : SScheduler)) (fun t => t.elim)) (by kernel_rfl)
noncomputable def scheduler_Tooth_b1 (v4 : Int) (i : Int) (f2 : List SJob) : M Tryz.prog (SScheduler × List SSwitch × Int) (Fl (List SJob) Empty) :=
  .D [] [] <| .O (.ix enc_SJob f2 i) fun x => .W (.ly 0) <| .W (.hx 0) <| .U (.st enc_SJob f2 i ({ x with Left := maxI (-1048576) (w64 (x.Left - v4)) } : SJob) 0) fun l => .R (.next l)
noncomputable def scheduler_Tooth (s : SScheduler) (c : SClock) : C Tryz.prog (SScheduler × List SSwitch × Int) := .of Z Tryz.call301 Tryz.func301 [A_SScheduler s, A_SClock c] (fun r => .tup [A_SScheduler r.1, .t (tS enc_SSwitch r.2.1), .t (tI r.2.2)]) (
  .K (scheduler_Valid s) fun v => .G (!v) (.R true) (.K (angle_Valid c) fun v2 => .R (!v2)) fun b2 => .I b2 (.R ((⟨(⟨([] : List Int), 0⟩ : SEngine), (⟨false, 0, 0, 0, 0, 0⟩ : SClock), (⟨0, ([] : List SChannel)⟩ : STimer), ([] : List SFire), ([] : List SJob), false⟩ : SScheduler), ([] : List SSwitch), 1)) (.I (!c.Valid) (.R ((⟨(⟨([] : List Int), 0⟩ : SEngine), (⟨false, 0, 0, 0, 0, 0⟩ : SClock), (⟨0, ([] : List SChannel)⟩ : STimer), ([] : List SFire), ([] : List SJob), false⟩ : SScheduler), ([] : List SSwitch), 6)) (.I (decide (c.At < s.Timer.Now)) (.R ((⟨(⟨([] : List Int), 0⟩ : SEngine), (⟨false, 0, 0, 0, 0, 0⟩ : SClock), (⟨0, ([] : List SChannel)⟩ : STimer), ([] : List SFire), ([] : List SJob), false⟩ : SScheduler), ([] : List SSwitch), 16)) (.KG (scheduler_copyOf s) [2280] fun v3 => .KG (scheduler_goOn v3 c.At) [2304] fun r2 => .J0 0 (fun (t : List SJob) => [.x 2, .x 22, .x 27, .x 29, .x 30, .x 36, .x 39, .x 40, .b 2304 (.rs 248 7 t enc_SJob), .d 2]) (.I s.Clock.Valid (.K (events_Distance s.Clock.Angle c.Angle) fun v4 => M.QN (r2.2.Jobs.length : Int) 2 51 (fun (t : List SJob) => [.x 2, .x 22, .x 27, .x 29, .x 30, .x 36, .x 39, .x 40, .x 42, .x 43, .x 45, .x 48, .x 49, .b 2304 (.rs 248 7 t enc_SJob), .d 2]) 1 (.e) (scheduler_Tooth_b1 v4) r2.2.Jobs (fun f3 => .R f3) (fun t => t.elim)) (.R r2.2.Jobs)) fun f4 => .I (!r2.2.Cut) (.KG (scheduler_begin (⟨r2.2.Engine, c, r2.2.Timer, r2.2.Next, f4, r2.2.Cut⟩ : SScheduler)) [2592] fun v5 => .I (decide ((v5.Jobs.length : Int) > 200)) (.R ((⟨(⟨([] : List Int), 0⟩ : SEngine), (⟨false, 0, 0, 0, 0, 0⟩ : SClock), (⟨0, ([] : List SChannel)⟩ : STimer), ([] : List SFire), ([] : List SJob), false⟩ : SScheduler), ([] : List SSwitch), 5)) (.KG (scheduler_arm v5) [] fun v6 => .R (v6, r2.1, 0))) (.R ((⟨r2.2.Engine, c, r2.2.Timer, r2.2.Next, f4, r2.2.Cut⟩ : SScheduler), r2.1, 0)))))) (by kernel_rfl)
end Go.Proofs.YtjhedhnghldjbaaGreatDoor
namespace Go.Proofs.YtjhedhnghldjbaaGreatDoor
open Go Go.Pv Go.Proofs
set_option maxRecDepth 100000
set_option maxHeartbeats 4000000
noncomputable def ecu_keep_Filter_1 (v_next : SFilter) (e2 : Int) (c : SFilter) : C Tryz.prog SFilter := .of Z Tryz.call362 Tryz.func362 [A_SFilter v_next, .t (tI e2), .el (enc_SFilter c)] (fun r => A_SFilter r) (
  .I (e2 != 0) (.R c) (.R v_next)) (by kernel_rfl)
noncomputable def ecu_step_tooth (s : Secu_step) (v_at : Int) : CG Tryz.prog Secu_step := .of Z Tryz.call210 Tryz.func210 [.ptr 1000000 0, .t (tI v_at)] [(1000000, .box (lset (B_Secu_step s) [(113, .own 1000001)])), (1000001, .rs 409 3 s.switches enc_SSwitch)] (fun _ => .tup []) (fun r => [(900000, .rs 409 3 r.switches enc_SSwitch), (1000000, .box (lset (B_Secu_step r) [(113, .own 900000)]))]) [900000] (
  .K (toothfilter_Step s.u.Filter v_at) fun r2 => .D [] [] <| .K (ecu_keep_Filter s.u.Filter) fun v => .K (ecu_keep_Filter_1 r2.1 r2.2.2 v) fun v2 => .I ((r2.2.2 != 0) || (!r2.2.1)) (.R ({ s with u := (⟨s.u.Tables, s.u.Controls, s.u.Scheduler, s.u.Sync, s.u.Phase, v2, s.u.Guard, s.u.Quiz, s.u.Stage, s.u.Faults, s.u.Plant, s.u.Body, s.u.Time⟩ : SEcu) } : Secu_step)) (.D [] [] <| .K (ecu_keep_Sync s.u.Sync) fun v3 => .K (ecu_teeth) fun v4 => .K (sync_Step v4 s.u.Sync v_at) fun r3 => .K (ecu_keep_Sync_1 r3.1 r3.2 v3) fun v5 => .KG (ecu_step_follow ({ s with u := (⟨s.u.Tables, s.u.Controls, s.u.Scheduler, s.u.Sync, s.u.Phase, v2, s.u.Guard, s.u.Quiz, s.u.Stage, s.u.Faults, s.u.Plant, s.u.Body, s.u.Time⟩ : SEcu) } : Secu_step) v5 v_at) [2464] fun v6 => .I (v6.u.Sync.Mode != 2) (.R v6) (.J0 0 (fun (t : Secu_step) => [.x 4, .x 10, .x 11, .x 12, .x 13, .x 20, .x 21, .x 22, .x 23, .x 24, .x 30, .x 31, .x 32, .x 39, .x 40, .x 41, .x 42, .x 43, .x 47, .x 48, .x 49, .x 50, .x 59, .x 60, .x 61, .x 62, .x 63, .x 66, .x 67, .x 68, .x 69, .x 70, .b 2816 (.rs 409 3 t.switches enc_SSwitch), .b 1000000 (.box (lset (B_Secu_step t) [(113, .own 2816)])), .d 4, .d 2464]) (.I (v6.u.Sync.Tooth == 0) (.D [] [] <| .K (ecu_keep_Phase v6.u.Phase) fun v7 => .K (ecu_edges) fun v8 => .K (phase_Turn v8 v6.u.Phase) fun r4 => .K (ecu_keep_Phase_1 r4.1 r4.2 v7) fun v9 => .I (!v9.Known) (.KG (ecu_step_stop ({ v6 with u := (⟨v6.u.Tables, v6.u.Controls, v6.u.Scheduler, v6.u.Sync, v9, v6.u.Filter, v6.u.Guard, v6.u.Quiz, v6.u.Stage, v6.u.Faults, v6.u.Plant, v6.u.Body, v6.u.Time⟩ : SEcu) } : Secu_step) v_at) [2816] fun v10 => .R v10) (.Z (.rn [(2464, 2816)]) <| .R ({ v6 with u := (⟨v6.u.Tables, v6.u.Controls, v6.u.Scheduler, v6.u.Sync, v9, v6.u.Filter, v6.u.Guard, v6.u.Quiz, v6.u.Stage, v6.u.Faults, v6.u.Plant, v6.u.Body, v6.u.Time⟩ : SEcu) } : Secu_step))) (.Z (.rn [(2464, 2816)]) <| .R v6)) fun f2 => .I f2.u.Phase.Known (.D [] [(25, 7)] <| .K (ecu_teeth) fun v11 => .K (angle_Tooth v11 v_at f2.u.Sync.Tooth f2.u.Phase.Half f2.u.Sync.Period) fun r5 => .D [] [] <| .K (scheduler_Tooth f2.u.Scheduler r5.1) fun r6 => .KG (ecu_step_take f2 r6.1 r6.2.1 r6.2.2) [3152] fun v12 => .R v12) (.R f2)))) (by kernel_rfl)
noncomputable def ecu_step_turn_b2 (x : Int) (s3 : List Int × Secu_step) : M Tryz.prog Secu_step ((List Int × Secu_step) ⊕ ((List Int × Secu_step) ⊕ Empty)) :=
  .G (decide ((s3.1.length : Int) > 0)) (.O (.ix Pv.encI s3.1 0) fun x2 => .R (decide (x2 ≤ x))) (.R false) fun b2 => .I b2 (.KG (ecu_step_turn_1 s3.2 s3.1) [] fun r5 => .R (.inl (r5.2, r5.1))) (.R (.inr (.inl (s3.1, s3.2))))
noncomputable def ecu_step_turn_b1 (_ : Int) (x : Int) (s2 : List Int × Secu_step) : M Tryz.prog Secu_step (Fl (List Int × Secu_step) Empty) :=
  .W (.hx 0) <| .L (fun (t : List Int × Secu_step) => [.b 10 (.box [.t (tS Pv.encI t.1)]), .b 2312 (.rs 409 3 t.2.switches enc_SSwitch), .b 1000000 (.box (lset (B_Secu_step t.2) [(113, .own 2312)]))]) 2 (.e) (ecu_step_turn_b2 x) (s2.1, s2.2) (fun s4 => .KG (ecu_step_tooth s4.2 x) [2792] fun v9 => .Z (.rn [(2792, 2312)]) <| .R (.next (s4.1, v9))) (fun t => t.elim)
noncomputable def ecu_step_turn_b3 (s6 : List Int × Secu_step) : M Tryz.prog Secu_step ((List Int × Secu_step) ⊕ ((List Int × Secu_step) ⊕ Empty)) :=
  .I (decide ((s6.1.length : Int) > 0)) (.KG (ecu_step_turn_1 s6.2 s6.1) [] fun r6 => .R (.inl (r6.2, r6.1))) (.R (.inr (.inl (s6.1, s6.2))))
noncomputable def ecu_step_turn (s : Secu_step) : CG Tryz.prog Secu_step := .of Z Tryz.call124 Tryz.func124 [.ptr 1000000 0] [(1000000, .box (lset (B_Secu_step s) [(113, .own 1000001)])), (1000001, .rs 409 3 s.switches enc_SSwitch)] (fun _ => .tup []) (fun r => [(900000, .rs 409 3 r.switches enc_SSwitch), (1000000, .box (lset (B_Secu_step r) [(113, .own 900000)]))]) [900000] (
  .D [] [] <| .K (ecu_keep_Sync s.u.Sync) fun v => .K (ecu_teeth) fun v2 => .K (sync_Stall v2 s.u.Sync s.t) fun r2 => .K (ecu_keep_Sync_1 r2.1 r2.2 v) fun v3 => .KG (ecu_step_follow s v3 s.t) [2312] fun v4 => .D [] [] <| .K (ecu_teeth) fun v5 => .K (wheel_Between v5 (w64 (Int.tdiv v4.u.Plant.Position 65536)) (w64 (Int.tdiv (w64 (v4.u.Plant.Position + (w64 (10000 * v4.u.Plant.Speed)))) 65536))) fun r3 => .K (ecu_edges) fun v6 => .K (wheel_CamBetween v6 (w64 (Int.tdiv v4.u.Plant.Position 65536)) (w64 (Int.tdiv (w64 (v4.u.Plant.Position + (w64 (10000 * v4.u.Plant.Speed)))) 65536))) fun r4 => .KG (ecu_step_times v4 r4.1) [] fun v7 => .KG (ecu_step_times v4 r3.1) [] fun v8 => M.Q Pv.encI v8 2 81 (fun (t : List Int × Secu_step) => [.x 0, .x 14, .x 15, .x 16, .x 17, .x 18, .x 22, .x 23, .x 24, .x 25, .x 27, .x 28, .x 29, .x 35, .x 36, .x 37, .x 40, .x 41, .x 42, .x 43, .x 44, .x 46, .x 47, .x 48, .x 49, .x 50, .x 73, .x 76, .x 77, .b 10 (.box [.t (tS Pv.encI t.1)]), .b 2312 (.rs 409 3 t.2.switches enc_SSwitch), .b 1000000 (.box (lset (B_Secu_step t.2) [(113, .own 2312)]))]) 0 (.e) (ecu_step_turn_b1) (v7, v4) (fun s5 => .L (fun (t : List Int × Secu_step) => [.b 10 (.box [.t (tS Pv.encI t.1)]), .b 2312 (.rs 409 3 t.2.switches enc_SSwitch), .b 1000000 (.box (lset (B_Secu_step t.2) [(113, .own 2312)]))]) 4 (.e) (ecu_step_turn_b3) (s5.1, s5.2) (fun s7 => .D [] [] <| .K (scheduler_Advance s7.2.u.Scheduler (w64 (s7.2.t + 10000))) fun r7 => .KG (ecu_step_take s7.2 r7.1 r7.2.1 r7.2.2) [2968] fun v10 => .R v10) (fun t => t.elim)) (fun t => t.elim)) (by kernel_rfl)
noncomputable def ecu_step_drive_1 (f2 : SFire) : C Tryz.prog Bool := .of Z Tryz.call213 Tryz.func213 [A_SFire f2] (fun r => .t (tB r)) (
  .R (f2.Inject != 0)) (by kernel_rfl)
noncomputable def fuel_MassOf (t2 : STables) (ticks : Int) (millivolts : Int) : C Tryz.prog (Int × Int) := .of Z Tryz.call214 Tryz.func214 [A_STables t2, .t (tI ticks), .t (tI millivolts)] (fun r => .tup [.t (tI r.1), .t (tI r.2)]) (
  .K (fuel_dead t2 ticks millivolts) fun r2 => .I (r2.2 != 0) (.R (0, r2.2)) (.R (w64 (3 * (maxI 0 (w64 (ticks - r2.1)))), 0))) (by kernel_rfl)
noncomputable def plant_Inject (b2 : SBody) (p2 : SPlant) (fuel : Int) (air : Int) : C Tryz.prog (SPlant × Int × Int) := .of Z Tryz.call215 Tryz.func215 [A_SBody b2, A_SPlant p2, .t (tI fuel), .t (tI air)] (fun r => .tup [A_SPlant r.1, .t (tI r.2.1), .t (tI r.2.2)]) (
  .K (plant_Good b2 p2) fun v => .I (!v) (.R ((⟨0, 0, 0, 0, 0, ([] : List Int)⟩ : SPlant), 0, 1)) (.K (plant_within fuel 0 1048576) fun v2 => .G (!v2) (.R true) (.K (plant_within air 0 1048576) fun v3 => .R (!v3)) fun b3 => .I b3 (.R ((⟨0, 0, 0, 0, 0, ([] : List Int)⟩ : SPlant), 0, 2)) (.D [] [] <| .J0 0 (fun (t : Int) => [.t 14 (.t (tI t)), .x 33, .x 37, .x 39, .x 48, .x 54]) (.I (decide ((w64 ((w64 (fuel - (w64 (Int.tdiv (w64 (fuel * b2.Film)) 1024)))) + (w64 (Int.tdiv (w64 (p2.Film * b2.Evaporate)) 1024)))) > 0)) (.O (.quo .i64 (w64 (10000 * air)) (w64 (147 * (w64 ((w64 (fuel - (w64 (Int.tdiv (w64 (fuel * b2.Film)) 1024)))) + (w64 (Int.tdiv (w64 (p2.Film * b2.Evaporate)) 1024))))))) fun q => .K (arith_Clamp q 500 2000) fun v4 => .R v4) (.R 2000)) fun mixture => .U (.ap Pv.encI ([] : List Int) p2.Path 63) fun l => .U (.ap Pv.encI l ([mixture] : List Int) 63) fun l2 => .J0 0 (fun (t : List Int) => [.t 15 (.t (tS Pv.encI t)), .x 4, .x 64, .x 68, .x 69, .x 70, .x 72, .d 4, .d 63, .d 68]) (.I (decide ((l2.length : Int) > (w64 (b2.Delay + 1)))) (.Z (.fr 63) <| .U (.sF Pv.encI l2 1 (l2.length : Int)) fun l3 => .R l3) (.Z (.fr 63) <| .R l2)) fun path => .R (({ p2 with Film := w64 (p2.Film + (w64 ((w64 (Int.tdiv (w64 (fuel * b2.Film)) 1024)) - (w64 (Int.tdiv (w64 (p2.Film * b2.Evaporate)) 1024))))), Path := path } : SPlant), w64 ((w64 (fuel - (w64 (Int.tdiv (w64 (fuel * b2.Film)) 1024)))) + (w64 (Int.tdiv (w64 (p2.Film * b2.Evaporate)) 1024))), 0)))) (by kernel_rfl)
noncomputable def ecu_keep_Plant (old : SPlant) : C Tryz.prog SPlant := .of Z Tryz.call216 Tryz.func216 [A_SPlant old] (fun r => .fz 304 [enc_SPlant r]) (
  .Z (.fb 1) <| .R old) (by kernel_rfl)
noncomputable def plant_world_turns (w : Splant_world) (torque : Int) (load : Int) (ticks : Int) : CG Tryz.prog Splant_world := .of Z Tryz.call305 Tryz.func305 [.ptr 1000000 0, .t (tI torque), .t (tI load), .t (tI ticks)] [(1000000, .box (B_Splant_world w))] (fun _ => .tup []) (fun r => [(1000000, .box (B_Splant_world r))]) [] (
  .D [] [] <| .D [] [] <| .K (arith_Floor (w64 ((w64 ((w64 ((w64 (torque - load)) - (w64 (Int.tdiv (w64 (w.b.Friction * w.Plant.Speed)) 65536)))) * ticks)) + w.Plant.Rest)) w.b.Inertia) fun v => .K (arith_Mod (w64 ((w64 ((w64 ((w64 (torque - load)) - (w64 (Int.tdiv (w64 (w.b.Friction * w.Plant.Speed)) 65536)))) * ticks)) + w.Plant.Rest)) w.b.Inertia) fun v2 => .J0 0 (fun (t : Int) => [.t 10 (.t (tI t)), .x 15, .x 16, .x 17, .x 18, .x 20, .x 21, .x 22, .x 23, .x 30, .x 31, .x 32, .x 33, .x 37, .x 38, .x 39, .x 40, .x 44, .x 45, .x 46, .x 47, .x 50, .x 51, .x 52, .x 53]) (.I ((decide ((w64 (w.Plant.Speed + v)) < 0)) || (decide ((w64 (w.Plant.Speed + v)) > 262144))) (.R 0) (.R v2)) fun rest => .K (arith_Clamp (w64 (w.Plant.Speed + v)) 0 262144) fun v3 => .R (⟨(⟨w.Plant.Position, v3, rest, w.Plant.Pressure, w.Plant.Film, w.Plant.Path⟩ : SPlant), w.b⟩ : Splant_world)) (by kernel_rfl)
noncomputable def plant_world_breathes (w : Splant_world) (throttle : Int) (speed : Int) (ticks : Int) : CG Tryz.prog Splant_world := .of Z Tryz.call306 Tryz.func306 [.ptr 1000000 0, .t (tI throttle), .t (tI speed), .t (tI ticks)] [(1000000, .box (B_Splant_world w))] (fun _ => .tup []) (fun r => [(1000000, .box (B_Splant_world r))]) [] (
  .D [] [] <| .D [] [] <| .K (arith_Floor (w64 ((w64 ((w64 (Int.tdiv (w64 ((w64 (w.b.Throttle * throttle)) * (w64 (1013 - w.Plant.Pressure)))) 1000)) - (w64 (Int.tdiv (w64 (speed * w.Plant.Pressure)) 1024)))) * ticks)) (w64 (65536 * w.b.Volume))) fun v => .K (arith_Clamp (w64 (w.Plant.Pressure + v)) 50 1013) fun v2 => .R (⟨(⟨w.Plant.Position, w.Plant.Speed, w.Plant.Rest, v2, w.Plant.Film, w.Plant.Path⟩ : SPlant), w.b⟩ : Splant_world)) (by kernel_rfl)
noncomputable def plant_Step (b2 : SBody) (p2 : SPlant) (throttle : Int) (torque : Int) (load : Int) (ticks : Int) : C Tryz.prog (SPlant × SRun × Int) := .of Z Tryz.call217 Tryz.func217 [A_SBody b2, A_SPlant p2, .t (tI throttle), .t (tI torque), .t (tI load), .t (tI ticks)] (fun r => .tup [A_SPlant r.1, A_SRun r.2.1, .t (tI r.2.2)]) (
  .K (plant_Good b2 p2) fun v => .I (!v) (.R ((⟨0, 0, 0, 0, 0, ([] : List Int)⟩ : SPlant), (⟨0, 0⟩ : SRun), 1)) (.K (plant_within throttle 0 1000) fun v2 => .G (!v2) (.R true) (.K (plant_within torque (-5000) 10000) fun v3 => .R (!v3)) fun b3 => .G b3 (.R true) (.K (plant_within load (-10000) 10000) fun v4 => .R (!v4)) fun b4 => .G b4 (.R true) (.K (plant_within ticks 1 10000) fun v5 => .R (!v5)) fun b5 => .I b5 (.R ((⟨0, 0, 0, 0, 0, ([] : List Int)⟩ : SPlant), (⟨0, 0⟩ : SRun), 2)) (.U (.ap Pv.encI ([] : List Int) p2.Path 49) fun l => .Z (.fr 49) <| .KG (plant_world_turns (⟨({ p2 with Path := l } : SPlant), b2⟩ : Splant_world) torque load ticks) [] fun v6 => .D [] [] <| .KG (plant_world_breathes (⟨(⟨Int.tmod (w64 (v6.Plant.Position + (w64 (p2.Speed * ticks)))) 3019898880, v6.Plant.Speed, v6.Plant.Rest, v6.Plant.Pressure, v6.Plant.Film, v6.Plant.Path⟩ : SPlant), v6.b⟩ : Splant_world) throttle p2.Speed ticks) [] fun v7 => .D [] [(8, 12)] <| .R (v7.Plant, (⟨ticks, p2.Speed⟩ : SRun), 0)))) (by kernel_rfl)
noncomputable def ecu_keep_Plant_1 (v_next : SPlant) (e2 : Int) (c : SPlant) : C Tryz.prog SPlant := .of Z Tryz.call304 Tryz.func304 [A_SPlant v_next, .t (tI e2), .el (enc_SPlant c)] (fun r => A_SPlant r) (
  .I (e2 != 0) (.R c) (.R v_next)) (by kernel_rfl)
noncomputable def ecu_step_drive (s : Secu_step) : CG Tryz.prog Secu_step := .of Z Tryz.call125 Tryz.func125 [.ptr 1000000 0] [(1000000, .box (B_Secu_step s))] (fun _ => .tup []) (fun r => [(1000000, .box (B_Secu_step r))]) [] (
  .J0 0 (fun (t : Int) => [.x 14, .x 15, .x 16, .x 17, .x 18, .x 20, .x 21, .x 22, .c 1000000 114 [.t (tI t)]]) (.I (((!s.cut) && s.u.Stage.Enabled) && s.known) (.R s.outputs.Torque) (.R s.torque)) fun f2 => .J0 0 (fun (t : SPlant) => [.x 42, .x 43, .x 44, .c 1000000 78 [.t (tI t.Position), .t (tI t.Speed), .t (tI t.Rest), .t (tI t.Pressure), .t (tI t.Film), .t (tS Pv.encI t.Path)]]) (.I (decide (f2 > 0)) (.K (slices_IndexFunc_sFire s.outputs.Fires (.of (fun z_ => ecu_step_drive_1 z_) 213 [] (fun _ => rfl) (fun _ => rfl) (fun _ => rfl))) fun v => .J0 0 (fun (t : Int) => [.t 3 (.t (tI t)), .x 42, .x 43, .x 44, .x 47, .x 48, .x 49, .x 50]) (.I (decide (v ≥ 0)) (.D [] [] <| .O (.ix enc_SFire s.outputs.Fires v) fun x => .K (fuel_MassOf s.u.Tables x.Inject 13500) fun r2 => .R r2.1) (.R 0)) fun mass => .D [] [(21, 5)] <| .K (plant_Inject s.u.Body s.u.Plant mass s.charge) fun r3 => .D [] [] <| .K (ecu_keep_Plant s.u.Plant) fun v2 => .K (ecu_keep_Plant_1 r3.1 r3.2.2 v2) fun v3 => .R v3) (.R s.u.Plant)) fun f3 => .J0 0 (fun (t : Int) => [.t 8 (.t (tI t)), .x 106, .x 107, .x 108, .x 110, .x 111, .x 112]) (.I (decide (s.speed < 400)) (.R (w64 (f2 + 800))) (.R f2)) fun torque => .J0 0 (fun (t : Int) => [.t 9 (.t (tI t))]) (.I s.u.Stage.Enabled (.R s.outputs.Throttle) (.R 0)) fun throttle => .J0 0 (fun (t : Int) => [.t 10 (.t (tI t)), .x 123, .x 124, .x 125, .x 126]) (.I (s.d.Gear != 0) (.D [] [] <| .R (w64 (s.d.Load + s.d.Brake))) (.R 0)) fun load => .D [] [(21, 11), (22, 12)] <| .K (plant_Step s.u.Body f3 throttle (minI torque 10000) load 10000) fun r4 => .D [] [] <| .K (ecu_keep_Plant f3) fun v4 => .K (ecu_keep_Plant_1 r4.1 r4.2.2 v4) fun v5 => .R ({ s with u := (⟨s.u.Tables, s.u.Controls, s.u.Scheduler, s.u.Sync, s.u.Phase, s.u.Filter, s.u.Guard, s.u.Quiz, s.u.Stage, s.u.Faults, v5, s.u.Body, s.u.Time⟩ : SEcu), torque := f2 } : Secu_step)) (by kernel_rfl)
noncomputable def stage_list_b1 (_ : Int) (x : SSwitch) (last : Int) : M Tryz.prog Bool (Fl Int Bool) :=
  .W (.hx 0) <| .K (stage_time x.At) fun v => .I ((((!v) || (decide (x.At < last))) || (decide (x.Channel < 0))) || (decide (x.Channel ≥ 16))) (.R (.ret false)) (.R (.next x.At))
noncomputable def stage_list (l : List SSwitch) : C Tryz.prog Bool := .of Z Tryz.call307 Tryz.func307 [.t (tS enc_SSwitch l)] (fun r => .t (tB r)) (
  .I (decide ((l.length : Int) > 1000)) (.R false) (M.Q enc_SSwitch l 2 11 (fun (t : Int) => [.t 3 (.t (tI t))]) 0 (.one .rt) (stage_list_b1) 0 (fun _ => .R true) (fun r2 => .R r2))) (by kernel_rfl)
noncomputable def slices_DeleteFunc_sSwitch (s : List SSwitch) (del : Cl Tryz.prog SSwitch Bool (fun x => [A_SSwitch x]) (fun r => .t (tB r))) : CG Tryz.prog (List SSwitch) := ⟨308, [.own 1000000, .fz del.n del.cs], [(1000000, .rs 409 3 s enc_SSwitch)], Go.Pv.slices_DeleteFunc_sSwitch s (fun x0 => del.f x0), fun _ => delE s, (fun r => .t (tS enc_SSwitch r)), (fun _ => []), [], true, otie_slices_DeleteFunc_sSwitch s del.n del.cs (fun x0 => del.f x0) (fun x0 => del.ok x0), fun _ r h => delE_slices_DeleteFunc_sSwitch h⟩
noncomputable def slices_Clone_sSwitch (s : List SSwitch) : CG Tryz.prog (List SSwitch) := .of Z Tryz.call309 Tryz.func309 [.t (tS enc_SSwitch s)] [] (fun _ => .own 900000) (fun r => [(900000, .rs 409 3 r enc_SSwitch)]) [900000] (
  .Nl enc_SSwitch s (.I true (.Z (.np 2 70000 409 3 []) <| .R ([] : List SSwitch)) .N) (fun s => .I false .N (.U (.ap enc_SSwitch ([] : List SSwitch) s 5) fun l => .R l))) (by kernel_rfl)
noncomputable def stage_Pass_1 (x : SSwitch) (c : SStage) : C Tryz.prog Bool := .of Z Tryz.call310 Tryz.func310 [A_SSwitch x, .el (enc_SStage c)] (fun r => .t (tB r)) (
  .R (x.Level && (!c.Enabled))) (by kernel_rfl)
noncomputable def stage_Pass (s : SStage) (l : List SSwitch) : C Tryz.prog (List SSwitch × Int) := .of Z Tryz.call218 Tryz.func218 [A_SStage s, .t (tS enc_SSwitch l)] (fun r => .tup [.t (tS enc_SSwitch r.1), .t (tI r.2)]) (
  .K (stage_Valid s) fun v => .G (!v) (.R true) (.K (stage_list l) fun v2 => .R (!v2)) fun b2 => .I b2 (.R (([] : List SSwitch), 1)) (.KG (slices_Clone_sSwitch l) [2120] fun v3 => .Z (.fb 2) <| .KG (slices_DeleteFunc_sSwitch v3 (.of (fun z_ => stage_Pass_1 z_ s) 310 [enc_SStage s] (fun _ => rfl) (fun _ => rfl) (fun _ => rfl))) [] fun v4 => .R (v4, 0))) (by kernel_rfl)
noncomputable def ecu_step_record (s : Secu_step) : CG Tryz.prog SRecord := .of Z Tryz.call126 Tryz.func126 [.ptr 1000000 0] [(1000000, .box (B_Secu_step s))] (fun r => A_SRecord r) (fun _ => [(1000000, .box (B_Secu_step s))]) [] (
  .D [] [] <| .K (stage_Pass s.u.Stage s.switches) fun r2 => .D [] [] <| .R (⟨s.t, s.speed, s.torque, s.permitted, r2.1, s.active, (!s.u.Stage.Enabled)⟩ : SRecord)) (by kernel_rfl)
noncomputable def ecu_perform (u : SEcu) (d : SDrive) (k : List SBreak) : C Tryz.prog (SEcu × SRecord) := .of Z Tryz.call66 Tryz.func66 [A_SEcu u, A_SDrive d, .t (tS enc_SBreak k)] (fun r => .tup [A_SEcu r.1, A_SRecord r.2]) (
  .K (motion_Rpm u.Plant.Speed) fun r2 => .Z (.nb 24 2292 293 7 [107]) <| .Z (.nb 24 2293 409 3 [113]) <| .KG (ecu_step_test (⟨u, d, k, u.Time, r2.1, ([] : List SActive), 0, 0, 0, 0, 0, (⟨0, ([] : List SFire), 0⟩ : SOutputs), 0, 0, ((u.Sync.Mode == 2) && u.Phase.Known), false, ([] : List SSwitch), 0⟩ : Secu_step)) [] fun v => .KG (ecu_step_control v) [2304] fun v2 => .KG (ecu_step_monitor v2) [] fun v3 => .Z (.fr 2304) <| .KG (ecu_step_ask v3) [] fun v4 => .KG (ecu_step_enable v4) [2352] fun v5 => .KG (ecu_step_turn v5) [2368] fun v6 => .Z (.fr 2368) <| .KG (ecu_step_drive v6) [] fun v7 => .D [] [] <| .KG (ecu_step_record ({ v7 with u := (⟨v7.u.Tables, v7.u.Controls, v7.u.Scheduler, v7.u.Sync, v7.u.Phase, v7.u.Filter, v7.u.Guard, v7.u.Quiz, v7.u.Stage, v7.u.Faults, v7.u.Plant, v7.u.Body, w64 (v7.t + 10000)⟩ : SEcu) } : Secu_step)) [] fun v8 => .R ((⟨v7.u.Tables, v7.u.Controls, v7.u.Scheduler, v7.u.Sync, v7.u.Phase, v7.u.Filter, v7.u.Guard, v7.u.Quiz, v7.u.Stage, v7.u.Faults, v7.u.Plant, v7.u.Body, w64 (v7.t + 10000)⟩ : SEcu), v8)) (by kernel_rfl)
noncomputable def ecu_Step (u : SEcu) (d : SDrive) (k : List SBreak) : C Tryz.prog (SEcu × SRecord × Int) := .of Z Tryz.call29 Tryz.func29 [A_SEcu u, A_SDrive d, .t (tS enc_SBreak k)] (fun r => .tup [A_SEcu r.1, A_SRecord r.2.1, .t (tI r.2.2)]) (
  .K (ecu_valid u) fun v => .G (!v) (.R true) (.K (ecu_breaks k) fun v2 => .R (!v2)) fun b2 => .G b2 (.R true) (.K (ecu_order d) fun v3 => .R (!v3)) fun b3 => .I b3 (.R ((⟨(⟨(⟨([] : List Int), ([] : List Int), ([] : List (List Int))⟩ : SMap), (⟨([] : List Int), ([] : List Int), ([] : List (List Int))⟩ : SMap), (⟨([] : List Int), ([] : List Int), ([] : List (List Int))⟩ : SMap), (⟨([] : List Int), ([] : List Int), ([] : List (List Int))⟩ : SMap), (⟨([] : List Int), ([] : List Int)⟩ : SCurve), (⟨([] : List Int), ([] : List Int)⟩ : SCurve), (⟨([] : List Int), ([] : List Int)⟩ : SCurve), (⟨([] : List Int), ([] : List Int)⟩ : SCurve), (⟨0, 0, 0, 0⟩ : SGain)⟩ : STables), (⟨(⟨0, 0, false⟩ : SPedal), (⟨0⟩ : SIntegral), ([] : List SKnock), (⟨false, false, 0, 0, ([] : List SCell)⟩ : SProbe), 0, (⟨0, 0⟩ : SGrant)⟩ : SControls), (⟨(⟨([] : List Int), 0⟩ : SEngine), (⟨false, 0, 0, 0, 0, 0⟩ : SClock), (⟨0, ([] : List SChannel)⟩ : STimer), ([] : List SFire), ([] : List SJob), false⟩ : SScheduler), (⟨0, 0, 0, 0, 0, 0⟩ : SSync), (⟨false, 0, 0, false⟩ : SPhase), (⟨false, 0, 0⟩ : SFilter), (⟨0, 0, false⟩ : SGuard), (⟨0, 0, 0, false, false⟩ : SQuiz), (⟨false, 0, 0⟩ : SStage), (⟨([] : List SConfig), ([] : List SFault), 0, false⟩ : SFaults), (⟨0, 0, 0, 0, 0, ([] : List Int)⟩ : SPlant), (⟨0, 0, 0, 0, 0, 0, 0⟩ : SBody), 0⟩ : SEcu), (⟨0, 0, 0, 0, ([] : List SSwitch), ([] : List SActive), false⟩ : SRecord), 1)) (.I (decide ((w64 (u.Time + 10000)) > 549755813888)) (.R ((⟨(⟨(⟨([] : List Int), ([] : List Int), ([] : List (List Int))⟩ : SMap), (⟨([] : List Int), ([] : List Int), ([] : List (List Int))⟩ : SMap), (⟨([] : List Int), ([] : List Int), ([] : List (List Int))⟩ : SMap), (⟨([] : List Int), ([] : List Int), ([] : List (List Int))⟩ : SMap), (⟨([] : List Int), ([] : List Int)⟩ : SCurve), (⟨([] : List Int), ([] : List Int)⟩ : SCurve), (⟨([] : List Int), ([] : List Int)⟩ : SCurve), (⟨([] : List Int), ([] : List Int)⟩ : SCurve), (⟨0, 0, 0, 0⟩ : SGain)⟩ : STables), (⟨(⟨0, 0, false⟩ : SPedal), (⟨0⟩ : SIntegral), ([] : List SKnock), (⟨false, false, 0, 0, ([] : List SCell)⟩ : SProbe), 0, (⟨0, 0⟩ : SGrant)⟩ : SControls), (⟨(⟨([] : List Int), 0⟩ : SEngine), (⟨false, 0, 0, 0, 0, 0⟩ : SClock), (⟨0, ([] : List SChannel)⟩ : STimer), ([] : List SFire), ([] : List SJob), false⟩ : SScheduler), (⟨0, 0, 0, 0, 0, 0⟩ : SSync), (⟨false, 0, 0, false⟩ : SPhase), (⟨false, 0, 0⟩ : SFilter), (⟨0, 0, false⟩ : SGuard), (⟨0, 0, 0, false, false⟩ : SQuiz), (⟨false, 0, 0⟩ : SStage), (⟨([] : List SConfig), ([] : List SFault), 0, false⟩ : SFaults), (⟨0, 0, 0, 0, 0, ([] : List Int)⟩ : SPlant), (⟨0, 0, 0, 0, 0, 0, 0⟩ : SBody), 0⟩ : SEcu), (⟨0, 0, 0, 0, ([] : List SSwitch), ([] : List SActive), false⟩ : SRecord), 2)) (.K (ecu_perform u d k) fun r2 => .D [] [(2, 6)] <| .R (r2.1, r2.2, 0)))) (by kernel_rfl)
noncomputable def magnetolaw56_awake : C Tryz.prog Bool := .of Z Tryz.call5 Tryz.func5 [] (fun r => .t (tB r)) (
  .K (ecu_Tables) fun v => .K (ecu_Body) fun v2 => .K (magnetolaw56_single) fun v3 => .K (ecu_Configs) fun v4 => .K (ecu_New v v2 v3 v4) fun r2 => .K (ecu_Step r2.1 (⟨0, 0, 0, 0, 0⟩ : SDrive) ([] : List SBreak)) fun r3 => .R (((((((r2.2 == 0) && (r3.2.2 == 0)) && (!r3.2.1.Off)) && (r3.2.1.Speed == 0)) && (r3.2.1.Torque == 0)) && (decide (r3.1.Plant.Speed > 0))) && (r3.1.Time == 10000))) (by kernel_rfl)
noncomputable def magnetolaw56_EcuExplains_1 (a : SActive) : C Tryz.prog Bool := .of Z Tryz.call7 Tryz.func7 [A_SActive a] (fun r => .t (tB r)) (
  .R (decide ((a.Causes.length : Int) > 20))) (by kernel_rfl)
noncomputable def ecu_Explain (r : SRecord) (l : List SConfig) : C Tryz.prog (ByteArray × Int) := ⟨8, [A_SRecord r, .t (tS enc_SConfig l)], exM r l, fun _ => exM r l, fun x => .tup [.t (.v (.string x.1)), .t (tI x.2)], false, ex_tie r l, fun _ _ h => h⟩
noncomputable def magnetoref56_Reactions : C Tryz.prog (List SReaction) := .of Z Tryz.call11 Tryz.func11 [] (fun r => .t (tS enc_SReaction r)) (
  .Z (.fr 1) <| .Z (.fr 3) <| .Z (.fr 5) <| .Z (.fr 7) <| .Z (.fr 9) <| .Z (.fr 11) <| .Z (.fr 13) <| .R ([(⟨(ByteArray.mk #[108, 105, 109, 112]), 0, 2, ([0] : List Int), 600⟩ : SReaction), (⟨(ByteArray.mk #[100, 114, 111, 112]), 0, 2, ([1, 4] : List Int), 1500⟩ : SReaction), (⟨(ByteArray.mk #[115, 116, 111, 112]), 0, 9, ([5, 6] : List Int), 0⟩ : SReaction), (⟨(ByteArray.mk #[112, 114, 101, 115, 115, 117, 114, 101]), 1, 0, ([1] : List Int), 500⟩ : SReaction), (⟨(ByteArray.mk #[97, 105, 114]), 2, 0, ([2] : List Int), 40⟩ : SReaction), (⟨(ByteArray.mk #[99, 111, 111, 108, 97, 110, 116]), 3, 0, ([3] : List Int), 90⟩ : SReaction), (⟨(ByteArray.mk #[112, 114, 111, 98, 101]), 4, 0, ([4] : List Int), 450⟩ : SReaction)] : List SReaction)) (by kernel_rfl)
noncomputable def magnetoref56_digits_b1 (s : Int × ByteArray) : M Tryz.prog ByteArray ((Int × ByteArray) ⊕ ((Int × ByteArray) ⊕ Empty)) :=
  .I (decide (s.1 > 9)) (.Z (.fr 10) <| .O (.b2s ([IntKind.u8.wrap (w64 (48 + (Int.tmod s.1 10)))] : List Int)) fun z => .O (.scat z s.2) fun z2 => .R (.inl (w64 (Int.tdiv s.1 10), z2))) (.R (.inr (.inl (s.1, s.2))))
noncomputable def magnetoref56_digits (n2 : Int) : C Tryz.prog ByteArray := .of Z Tryz.call70 Tryz.func70 [.t (tI n2)] (fun r => .t (.v (.string r))) (
  .L (fun (t : Int × ByteArray) => [.t 0 (.t (tI t.1)), .t 3 (.t (.v (.string t.2)))]) 0 (.e) (magnetoref56_digits_b1) (n2, (ByteArray.mk #[])) (fun s2 => .Z (.fr 19) <| .O (.b2s ([IntKind.u8.wrap (w64 (48 + s2.1))] : List Int)) fun z3 => .O (.scat z3 s2.2) fun z4 => .R z4) (fun t => t.elim)) (by kernel_rfl)
noncomputable def magnetoref56_number (n2 : Int) : C Tryz.prog ByteArray := .of Z Tryz.call35 Tryz.func35 [.t (tI n2)] (fun r => .t (.v (.string r))) (
  .I (decide (n2 ≤ (-10))) (.K (magnetoref56_digits (w64 (0 - (w64 (Int.tdiv n2 10))))) fun v => .O (.scat (ByteArray.mk #[45]) v) fun z => .K (magnetoref56_digits (w64 (0 - (Int.tmod n2 10)))) fun v2 => .O (.scat z v2) fun z2 => .R z2) (.I (decide (n2 < 0)) (.K (magnetoref56_digits (w64 (0 - n2))) fun v3 => .O (.scat (ByteArray.mk #[45]) v3) fun z3 => .R z3) (.K (magnetoref56_digits n2) fun v4 => .R v4))) (by kernel_rfl)
noncomputable def magnetoref56_Explain_b2 (l : List SConfig) (x : SActive) (s2 : ByteArray × Int) : M Tryz.prog (ByteArray × Bool) ((ByteArray × Int) ⊕ ((ByteArray × Int) ⊕ (ByteArray × Bool))) :=
  .I (decide (s2.2 < (x.Causes.length : Int))) (.O (.ix Pv.encI x.Causes s2.2) fun x3 => .G (decide (x3 < 0)) (.R true) (.W (.hx 0) <| .R (decide (x3 ≥ (l.length : Int)))) fun b2 => .I b2 (.R (.inr (.inr ((ByteArray.mk #[]), false)))) (.J0 0 (fun (t : ByteArray) => [.t 7 (.t (.v (.string t))), .x 44, .x 50]) (.I (decide (s2.2 > 0)) (.O (.scat s2.1 (ByteArray.mk #[44, 32])) fun z3 => .R z3) (.R s2.1)) fun s3 => .W (.hx 0) <| .O (.ix enc_SConfig l x3) fun x4 => .K (magnetoref56_number x4.Code) fun v2 => .O (.scat s3 v2) fun z4 => .R (.inl (z4, w64 (s2.2 + 1))))) (.R (.inr (.inl (s2.1, s2.2))))
noncomputable def magnetoref56_Explain_b1 (r2 : SRecord) (l : List SConfig) (v : List SReaction) (s : ByteArray × Int) : M Tryz.prog (ByteArray × Bool) ((ByteArray × Int) ⊕ ((ByteArray × Int) ⊕ (ByteArray × Bool))) :=
  .I (decide (s.2 < (r2.Active.length : Int))) (.O (.ix enc_SActive r2.Active s.2) fun x => .I ((decide (x.Reaction < 0)) || (decide (x.Reaction ≥ (v.length : Int)))) (.R (.inr (.inr ((ByteArray.mk #[]), false)))) (.O (.ix enc_SReaction v x.Reaction) fun x2 => .O (.scat s.1 x2.Name) fun z => .O (.scat z (ByteArray.mk #[58, 32])) fun z2 => .L (fun (t : ByteArray × Int) => [.t 7 (.t (.v (.string t.1))), .t 10 (.t (tI t.2)), .x 13, .x 19, .x 24, .x 36]) 2 (.one .rt) (magnetoref56_Explain_b2 l x) (z2, 0) (fun s4 => .O (.scat s4.1 (ByteArray.mk #[10])) fun z5 => .R (.inl (z5, w64 (s.2 + 1)))) (fun r3 => .R (.inr (.inr r3))))) (.R (.inr (.inl (s.1, s.2))))
noncomputable def magnetoref56_Explain (r2 : SRecord) (l : List SConfig) : C Tryz.prog (ByteArray × Bool) := .of Z Tryz.call9 Tryz.func9 [A_SRecord r2, .t (tS enc_SConfig l)] (fun r => .tup [.t (.v (.string r.1)), .t (tB r.2)]) (
  .K (magnetoref56_Reactions) fun v => .L (fun (t : ByteArray × Int) => [.t 7 (.t (.v (.string t.1))), .t 8 (.t (tI t.2))]) 0 (.one .rt) (magnetoref56_Explain_b1 r2 l v) ((ByteArray.mk #[]), 0) (fun s5 => .R (s5.1, true)) (fun r4 => .R r4)) (by kernel_rfl)
noncomputable def magnetoref46_in (x : Int) (low : Int) (high : Int) : C Tryz.prog Bool := .of Z Tryz.call71 Tryz.func71 [.t (tI x), .t (tI low), .t (tI high)] (fun r => .t (tB r)) (
  .R ((decide (x ≥ low)) && (decide (x ≤ high)))) (by kernel_rfl)
noncomputable def magnetoref46_Config (c : SConfig) : C Tryz.prog Bool := .of Z Tryz.call36 Tryz.func36 [A_SConfig c] (fun r => .t (tB r)) (
  .K (magnetoref46_in c.Code 1 16777215) fun v => .G v (.K (magnetoref46_in c.Fail 1 100) fun v2 => .R v2) (.R false) fun b2 => .G b2 (.K (magnetoref46_in c.Pass 1 100) fun v3 => .R v3) (.R false) fun b3 => .G b3 (.K (magnetoref46_in c.Heal 1 100) fun v4 => .R v4) (.R false) fun b4 => .G b4 (.K (magnetoref46_in c.Age c.Heal 255) fun v5 => .R v5) (.R false) fun b5 => .G b5 (.K (magnetoref46_in c.Priority 0 255) fun v6 => .R v6) (.R false) fun b6 => .G b6 (.K (magnetoref46_in c.Frame 0 8) fun v7 => .R v7) (.R false) fun b7 => .R b7) (by kernel_rfl)
noncomputable def magnetoref46_Configs_b1 (l : List SConfig) (i : Int) : M Tryz.prog Int (Int ⊕ (Int ⊕ Int)) :=
  .I (decide (i < (l.length : Int))) (.O (.ix enc_SConfig l i) fun x => .K (magnetoref46_Config x) fun v => .I (!v) (.R (.inr (.inr 1))) (.R (.inl (w64 (i + 1))))) (.R (.inr (.inl i)))
noncomputable def magnetoref46_Configs_b3 (l : List SConfig) (i3 : Int) (k : Int) : M Tryz.prog Int (Int ⊕ (Int ⊕ Int)) :=
  .I (decide (k < i3)) (.D [] [] <| .O (.ix enc_SConfig l k) fun x2 => .O (.ix enc_SConfig l i3) fun x3 => .I (x2.Code == x3.Code) (.R (.inr (.inr 8))) (.R (.inl (w64 (k + 1))))) (.R (.inr (.inl k)))
noncomputable def magnetoref46_Configs_b2 (l : List SConfig) (i3 : Int) : M Tryz.prog Int (Int ⊕ (Int ⊕ Int)) :=
  .I (decide (i3 < (l.length : Int))) (.L (fun (t : Int) => [.t 5 (.t (tI t))]) 4 (.one .rt) (magnetoref46_Configs_b3 l i3) 0 (fun _ => .R (.inl (w64 (i3 + 1)))) (fun r2 => .R (.inr (.inr r2)))) (.R (.inr (.inl i3)))
noncomputable def magnetoref46_Configs (l : List SConfig) : C Tryz.prog Int := .of Z Tryz.call13 Tryz.func13 [.t (tS enc_SConfig l)] (fun r => .t (tI r)) (
  .I (decide ((l.length : Int) > 64)) (.R 5) (.L (fun (t : Int) => [.t 3 (.t (tI t))]) 0 (.one .rt) (magnetoref46_Configs_b1 l) 0 (fun _ => .L (fun (t : Int) => [.t 4 (.t (tI t))]) 2 (.one .rt) (magnetoref46_Configs_b2 l) 0 (fun _ => .R 0) (fun r3 => .R r3)) (fun r4 => .R r4))) (by kernel_rfl)
noncomputable def magnetolaw56_EcuExplains_2 (c : SConfig) : C Tryz.prog Bool := .of Z Tryz.call15 Tryz.func15 [A_SConfig c] (fun r => .t (tB r)) (
  .R ((c.Fail != 3) || (c.Frame != 2))) (by kernel_rfl)
noncomputable def slices_EqualFunc_sReaction_b1 (s1 : List SReaction) (s2 : List SReaction) (eq : Cl Tryz.prog (SReaction × SReaction) Bool (fun x => [A_SReaction x.1, A_SReaction x.2]) (fun r => .t (tB r))) (i : Int) (_ : Unit) : M Tryz.prog Bool (Fl Unit Bool) :=
  .O (.ix enc_SReaction s1 i) fun x => .O (.ix enc_SReaction s2 i) fun x2 => .K (eq.at (x, x2)) fun v => .I (!v) (.R (.ret false)) (.R (.next ()))
noncomputable def slices_EqualFunc_sReaction (s1 : List SReaction) (s2 : List SReaction) (eq : Cl Tryz.prog (SReaction × SReaction) Bool (fun x => [A_SReaction x.1, A_SReaction x.2]) (fun r => .t (tB r))) : C Tryz.prog Bool := .of Z Tryz.call20 Tryz.func20 [.t (tS enc_SReaction s1), .t (tS enc_SReaction s2), .fz eq.n eq.cs] (fun r => .t (tB r)) (
  .I ((s1.length : Int) != (s2.length : Int)) (.R false) (M.QN (s1.length : Int) 2 17 (fun (_ : Unit) => []) 0 (.one .rt) (slices_EqualFunc_sReaction_b1 s1 s2 eq) () (fun _ => .R true) (fun r2 => .R r2))) (by kernel_rfl)
noncomputable def slices_Equal_sint_b1 (s1 : List Int) (s2 : List Int) (i : Int) (_ : Unit) : M Tryz.prog Bool (Fl Unit Bool) :=
  .D [] [] <| .O (.ix Pv.encI s1 i) fun x => .O (.ix Pv.encI s2 i) fun x2 => .I (x != x2) (.R (.ret false)) (.R (.next ()))
noncomputable def slices_Equal_sint (s1 : List Int) (s2 : List Int) : C Tryz.prog Bool := .of Z Tryz.call22 Tryz.func22 [.t (tS Pv.encI s1), .t (tS Pv.encI s2)] (fun r => .t (tB r)) (
  .I ((s1.length : Int) != (s2.length : Int)) (.R false) (M.QN (s1.length : Int) 2 13 (fun (_ : Unit) => []) 0 (.one .rt) (slices_Equal_sint_b1 s1 s2) () (fun _ => .R true) (fun r2 => .R r2))) (by kernel_rfl)
noncomputable def magnetolaw56_EcuExplains_3 (x : SReaction) (y : SReaction) : C Tryz.prog Bool := .of Z Tryz.call21 Tryz.func21 [A_SReaction x, A_SReaction y] (fun r => .t (tB r)) (
  .O (.sseq true x.Name y.Name) fun q => .G (((q && (x.Group == y.Group)) && (x.Priority == y.Priority)) && (x.Limit == y.Limit)) (.K (slices_Equal_sint x.Causes y.Causes) fun v => .R v) (.R false) fun b2 => .R b2) (by kernel_rfl)
noncomputable def magnetolaw56_EcuExplains (r2 : SRecord) (l : List SConfig) : C Tryz.prog Bool := .of Zd Tryz.call3 Tryz.func3 [A_SRecord r2, .t (tS enc_SConfig l)] (fun r => .t (tB r)) (
  .K (magnetolaw56_awake) fun v => .G (((!v) || (decide ((r2.Active.length : Int) > 70))) || (decide ((l.length : Int) > 70))) (.R true) (.K (slices_ContainsFunc_sActive r2.Active (.of (fun z_ => magnetolaw56_EcuExplains_1 z_) 7 [] (fun _ => rfl) (fun _ => rfl) (fun _ => rfl))) fun v2 => .R v2) fun b2 => .I b2 (.K (magnetolaw56_awake) fun v3 => .R v3) (.K (ecu_Explain r2 l) fun r3 => .K (magnetoref56_Explain r2 l) fun r4 => .J0 0 (fun (t : ByteArray) => [.t 7 (.t (.v (.string t))), .x 2, .d 2]) (.I (!r4.2) (.R (ByteArray.mk #[])) (.R r4.1)) fun want => .K (ecu_Reactions) fun v4 => .K (magnetoref56_Reactions) fun v5 => .K (ecu_Configs) fun v6 => .G ((v6.length : Int) != 7) (.R true) (.K (magnetoref46_Configs v6) fun v7 => .R (v7 != 0)) fun b3 => .G b3 (.R true) (.K (slices_ContainsFunc_sConfig v6 (.of (fun z_ => magnetolaw56_EcuExplains_2 z_) 15 [] (fun _ => rfl) (fun _ => rfl) (fun _ => rfl))) fun v8 => .R v8) fun b4 => .G b4 (.R true) (.K (ecu_Tables) fun v9 => .K (control_Valid v9) fun v10 => .R (!v10)) fun b5 => .G b5 (.R true) (.K (ecu_Body) fun v11 => .K (plant_Valid v11) fun v12 => .R (!v12)) fun b6 => .I b6 (.R false) (.O (.sseq true r3.1 want) fun q => .G ((q && ((r3.2 == 0) == r4.2)) && (r4.2 || (r3.2 == 1))) (.K (slices_EqualFunc_sReaction v4 v5 (.of (fun z_ => magnetolaw56_EcuExplains_3 z_.1 z_.2) 21 [] (fun _ => rfl) (fun _ => rfl) (fun _ => rfl))) fun v13 => .R v13) (.R false) fun b7 => .R b7))) (by kernel_rfl)
end Go.Proofs.YtjhedhnghldjbaaGreatDoor
namespace Go.Pv
open Go
structure wf_SSwitch (x : SSwitch) : Prop where
  At : (fun n => (Lit.int .i64 n).wf = true) x.At
  Channel : (fun n => (Lit.int .i64 n).wf = true) x.Channel
  Level : (fun _ => True) x.Level
structure wf_SActive (x : SActive) : Prop where
  Reaction : (fun n => (Lit.int .i64 n).wf = true) x.Reaction
  Causes : (wfL (fun n => (Lit.int .i64 n).wf = true)) x.Causes
structure wf_SRecord (x : SRecord) : Prop where
  Time : (fun n => (Lit.int .i64 n).wf = true) x.Time
  Speed : (fun n => (Lit.int .i64 n).wf = true) x.Speed
  Torque : (fun n => (Lit.int .i64 n).wf = true) x.Torque
  Bound : (fun n => (Lit.int .i64 n).wf = true) x.Bound
  Switches : (wfL wf_SSwitch) x.Switches
  Active : (wfL wf_SActive) x.Active
  Off : (fun _ => True) x.Off
structure wf_SConfig (x : SConfig) : Prop where
  Code : (fun n => (Lit.int .i64 n).wf = true) x.Code
  Fail : (fun n => (Lit.int .i64 n).wf = true) x.Fail
  Pass : (fun n => (Lit.int .i64 n).wf = true) x.Pass
  Heal : (fun n => (Lit.int .i64 n).wf = true) x.Heal
  Age : (fun n => (Lit.int .i64 n).wf = true) x.Age
  Priority : (fun n => (Lit.int .i64 n).wf = true) x.Priority
  Lamp : (fun _ => True) x.Lamp
  Frame : (fun n => (Lit.int .i64 n).wf = true) x.Frame
structure wf_SMap (x : SMap) : Prop where
  X : (wfL (fun n => (Lit.int .i64 n).wf = true)) x.X
  Y : (wfL (fun n => (Lit.int .i64 n).wf = true)) x.Y
  Z : (wfL (wfL (fun n => (Lit.int .i64 n).wf = true))) x.Z
structure wf_SCurve (x : SCurve) : Prop where
  X : (wfL (fun n => (Lit.int .i64 n).wf = true)) x.X
  Y : (wfL (fun n => (Lit.int .i64 n).wf = true)) x.Y
structure wf_SGain (x : SGain) : Prop where
  P : (fun n => (Lit.int .i64 n).wf = true) x.P
  I : (fun n => (Lit.int .i64 n).wf = true) x.I
  Low : (fun n => (Lit.int .i64 n).wf = true) x.Low
  High : (fun n => (Lit.int .i64 n).wf = true) x.High
structure wf_STables (x : STables) : Prop where
  Air : wf_SMap x.Air
  Spark : wf_SMap x.Spark
  Torque : wf_SMap x.Torque
  Wish : wf_SMap x.Wish
  AirTemp : wf_SCurve x.AirTemp
  Dwell : wf_SCurve x.Dwell
  Dead : wf_SCurve x.Dead
  Efficiency : wf_SCurve x.Efficiency
  Idle : wf_SGain x.Idle
structure wf_SBody (x : SBody) : Prop where
  Inertia : (fun n => (Lit.int .i64 n).wf = true) x.Inertia
  Friction : (fun n => (Lit.int .i64 n).wf = true) x.Friction
  Volume : (fun n => (Lit.int .i64 n).wf = true) x.Volume
  Throttle : (fun n => (Lit.int .i64 n).wf = true) x.Throttle
  Film : (fun n => (Lit.int .i64 n).wf = true) x.Film
  Evaporate : (fun n => (Lit.int .i64 n).wf = true) x.Evaporate
  Delay : (fun n => (Lit.int .i64 n).wf = true) x.Delay
structure wf_SEngine (x : SEngine) : Prop where
  Order : (wfL (fun n => (Lit.int .i64 n).wf = true)) x.Order
  First : (fun n => (Lit.int .i64 n).wf = true) x.First
end Go.Pv
namespace Go.Proofs.YtjhedhnghldjbaaGreatDoor
open Go Go.Pv Go.Proofs
theorem reads_3 : Reads Tryz.prog 3 Pv.encI (fun n => (Lit.int .i64 n).wf = true) := reads_int Tryz.underlying3 (fun _ => rfl)
theorem reads_4 : Reads Tryz.prog 4 Pv.encB (fun _ => True) := reads_bool Tryz.underlying4 (fun _ => rfl)
theorem reads_409 : Reads Tryz.prog 409 enc_SSwitch wf_SSwitch := by
  intro H e w fuel cs x h
  obtain ⟨xs, n, _, rfl, hl, hlen, hf⟩ := DataW.trod_struct Tryz.underlying409 h
  obtain ⟨y0, w0, r0⟩ := field_of hlen hf 0 rfl reads_3
  obtain ⟨y1, w1, r1⟩ := field_of hlen hf 1 rfl reads_3
  obtain ⟨y2, w2, r2⟩ := field_of hlen hf 2 rfl reads_4
  exact ⟨⟨y0, y1, y2⟩, ⟨w0, w1, w2⟩, rtl_cons (o := 0) (o' := 1) r0 (by kernel_rfl) (rtl_cons (o := 1) (o' := 2) r1 (by kernel_rfl) (rtl_cons (o := 2) (o' := 3) r2 (by kernel_rfl) (rtl_nil (hl.trans (by kernel_rfl)))))⟩
theorem reads_22 : Reads Tryz.prog 22 (Pv.encS enc_SSwitch) (wfL wf_SSwitch) := reads_slice (sz := 3) Tryz.underlying22 reads_409 (by kernel_rfl) (by decide) (fun _ => rfl)
theorem reads_29 : Reads Tryz.prog 29 (Pv.encS Pv.encI) (wfL (fun n => (Lit.int .i64 n).wf = true)) := reads_slice (sz := 1) Tryz.underlying29 reads_3 (by kernel_rfl) (by decide) (fun _ => rfl)
theorem reads_31 : Reads Tryz.prog 31 enc_SActive wf_SActive := by
  intro H e w fuel cs x h
  obtain ⟨xs, n, _, rfl, hl, hlen, hf⟩ := DataW.trod_struct Tryz.underlying31 h
  obtain ⟨y0, w0, r0⟩ := field_of hlen hf 0 rfl reads_3
  obtain ⟨y1, w1, r1⟩ := field_of hlen hf 1 rfl reads_29
  exact ⟨⟨y0, y1⟩, ⟨w0, w1⟩, rtl_cons (o := 0) (o' := 1) r0 (by kernel_rfl) (rtl_cons (o := 1) (o' := 2) r1 (by kernel_rfl) (rtl_nil (hl.trans (by kernel_rfl))))⟩
theorem reads_23 : Reads Tryz.prog 23 (Pv.encS enc_SActive) (wfL wf_SActive) := reads_slice (sz := 2) Tryz.underlying23 reads_31 (by kernel_rfl) (by decide) (fun _ => rfl)
theorem reads_25 : Reads Tryz.prog 25 enc_SRecord wf_SRecord := by
  intro H e w fuel cs x h
  obtain ⟨xs, n, _, rfl, hl, hlen, hf⟩ := DataW.trod_struct Tryz.underlying25 h
  obtain ⟨y0, w0, r0⟩ := field_of hlen hf 0 rfl reads_3
  obtain ⟨y1, w1, r1⟩ := field_of hlen hf 1 rfl reads_3
  obtain ⟨y2, w2, r2⟩ := field_of hlen hf 2 rfl reads_3
  obtain ⟨y3, w3, r3⟩ := field_of hlen hf 3 rfl reads_3
  obtain ⟨y4, w4, r4⟩ := field_of hlen hf 4 rfl reads_22
  obtain ⟨y5, w5, r5⟩ := field_of hlen hf 5 rfl reads_23
  obtain ⟨y6, w6, r6⟩ := field_of hlen hf 6 rfl reads_4
  exact ⟨⟨y0, y1, y2, y3, y4, y5, y6⟩, ⟨w0, w1, w2, w3, w4, w5, w6⟩, rtl_cons (o := 0) (o' := 1) r0 (by kernel_rfl) (rtl_cons (o := 1) (o' := 2) r1 (by kernel_rfl) (rtl_cons (o := 2) (o' := 3) r2 (by kernel_rfl) (rtl_cons (o := 3) (o' := 4) r3 (by kernel_rfl) (rtl_cons (o := 4) (o' := 5) r4 (by kernel_rfl) (rtl_cons (o := 5) (o' := 6) r5 (by kernel_rfl) (rtl_cons (o := 6) (o' := 7) r6 (by kernel_rfl) (rtl_nil (hl.trans (by kernel_rfl)))))))))⟩
theorem arg_25 : ArgOk Tryz.prog 25 (fun x => A_SRecord x) wf_SRecord := arg_struct Tryz.underlying25 reads_25 (fun _ => rfl)
theorem reads_44 : Reads Tryz.prog 44 enc_SConfig wf_SConfig := by
  intro H e w fuel cs x h
  obtain ⟨xs, n, _, rfl, hl, hlen, hf⟩ := DataW.trod_struct Tryz.underlying44 h
  obtain ⟨y0, w0, r0⟩ := field_of hlen hf 0 rfl reads_3
  obtain ⟨y1, w1, r1⟩ := field_of hlen hf 1 rfl reads_3
  obtain ⟨y2, w2, r2⟩ := field_of hlen hf 2 rfl reads_3
  obtain ⟨y3, w3, r3⟩ := field_of hlen hf 3 rfl reads_3
  obtain ⟨y4, w4, r4⟩ := field_of hlen hf 4 rfl reads_3
  obtain ⟨y5, w5, r5⟩ := field_of hlen hf 5 rfl reads_3
  obtain ⟨y6, w6, r6⟩ := field_of hlen hf 6 rfl reads_4
  obtain ⟨y7, w7, r7⟩ := field_of hlen hf 7 rfl reads_3
  exact ⟨⟨y0, y1, y2, y3, y4, y5, y6, y7⟩, ⟨w0, w1, w2, w3, w4, w5, w6, w7⟩, rtl_cons (o := 0) (o' := 1) r0 (by kernel_rfl) (rtl_cons (o := 1) (o' := 2) r1 (by kernel_rfl) (rtl_cons (o := 2) (o' := 3) r2 (by kernel_rfl) (rtl_cons (o := 3) (o' := 4) r3 (by kernel_rfl) (rtl_cons (o := 4) (o' := 5) r4 (by kernel_rfl) (rtl_cons (o := 5) (o' := 6) r5 (by kernel_rfl) (rtl_cons (o := 6) (o' := 7) r6 (by kernel_rfl) (rtl_cons (o := 7) (o' := 8) r7 (by kernel_rfl) (rtl_nil (hl.trans (by kernel_rfl))))))))))⟩
theorem reads_26 : Reads Tryz.prog 26 (Pv.encS enc_SConfig) (wfL wf_SConfig) := reads_slice (sz := 8) Tryz.underlying26 reads_44 (by kernel_rfl) (by decide) (fun _ => rfl)
theorem arg_26 : ArgOk Tryz.prog 26 (fun x => .t (tS enc_SConfig x)) (wfL wf_SConfig) := arg_slice Tryz.underlying26 reads_26 (fun _ => rfl)
theorem reads_47 : Reads Tryz.prog 47 (Pv.encS (Pv.encS Pv.encI)) (wfL (wfL (fun n => (Lit.int .i64 n).wf = true))) := reads_slice (sz := 1) Tryz.underlying47 reads_29 (by kernel_rfl) (by decide) (fun _ => rfl)
theorem reads_49 : Reads Tryz.prog 49 enc_SMap wf_SMap := by
  intro H e w fuel cs x h
  obtain ⟨xs, n, _, rfl, hl, hlen, hf⟩ := DataW.trod_struct Tryz.underlying49 h
  obtain ⟨y0, w0, r0⟩ := field_of hlen hf 0 rfl reads_29
  obtain ⟨y1, w1, r1⟩ := field_of hlen hf 1 rfl reads_29
  obtain ⟨y2, w2, r2⟩ := field_of hlen hf 2 rfl reads_47
  exact ⟨⟨y0, y1, y2⟩, ⟨w0, w1, w2⟩, rtl_cons (o := 0) (o' := 1) r0 (by kernel_rfl) (rtl_cons (o := 1) (o' := 2) r1 (by kernel_rfl) (rtl_cons (o := 2) (o' := 3) r2 (by kernel_rfl) (rtl_nil (hl.trans (by kernel_rfl)))))⟩
theorem reads_51 : Reads Tryz.prog 51 enc_SCurve wf_SCurve := by
  intro H e w fuel cs x h
  obtain ⟨xs, n, _, rfl, hl, hlen, hf⟩ := DataW.trod_struct Tryz.underlying51 h
  obtain ⟨y0, w0, r0⟩ := field_of hlen hf 0 rfl reads_29
  obtain ⟨y1, w1, r1⟩ := field_of hlen hf 1 rfl reads_29
  exact ⟨⟨y0, y1⟩, ⟨w0, w1⟩, rtl_cons (o := 0) (o' := 1) r0 (by kernel_rfl) (rtl_cons (o := 1) (o' := 2) r1 (by kernel_rfl) (rtl_nil (hl.trans (by kernel_rfl))))⟩
theorem reads_53 : Reads Tryz.prog 53 enc_SGain wf_SGain := by
  intro H e w fuel cs x h
  obtain ⟨xs, n, _, rfl, hl, hlen, hf⟩ := DataW.trod_struct Tryz.underlying53 h
  obtain ⟨y0, w0, r0⟩ := field_of hlen hf 0 rfl reads_3
  obtain ⟨y1, w1, r1⟩ := field_of hlen hf 1 rfl reads_3
  obtain ⟨y2, w2, r2⟩ := field_of hlen hf 2 rfl reads_3
  obtain ⟨y3, w3, r3⟩ := field_of hlen hf 3 rfl reads_3
  exact ⟨⟨y0, y1, y2, y3⟩, ⟨w0, w1, w2, w3⟩, rtl_cons (o := 0) (o' := 1) r0 (by kernel_rfl) (rtl_cons (o := 1) (o' := 2) r1 (by kernel_rfl) (rtl_cons (o := 2) (o' := 3) r2 (by kernel_rfl) (rtl_cons (o := 3) (o' := 4) r3 (by kernel_rfl) (rtl_nil (hl.trans (by kernel_rfl))))))⟩
theorem reads_55 : Reads Tryz.prog 55 enc_STables wf_STables := by
  intro H e w fuel cs x h
  obtain ⟨xs, n, _, rfl, hl, hlen, hf⟩ := DataW.trod_struct Tryz.underlying55 h
  obtain ⟨y0, w0, r0⟩ := field_of hlen hf 0 rfl reads_49
  obtain ⟨y1, w1, r1⟩ := field_of hlen hf 1 rfl reads_49
  obtain ⟨y2, w2, r2⟩ := field_of hlen hf 2 rfl reads_49
  obtain ⟨y3, w3, r3⟩ := field_of hlen hf 3 rfl reads_49
  obtain ⟨y4, w4, r4⟩ := field_of hlen hf 4 rfl reads_51
  obtain ⟨y5, w5, r5⟩ := field_of hlen hf 5 rfl reads_51
  obtain ⟨y6, w6, r6⟩ := field_of hlen hf 6 rfl reads_51
  obtain ⟨y7, w7, r7⟩ := field_of hlen hf 7 rfl reads_51
  obtain ⟨y8, w8, r8⟩ := field_of hlen hf 8 rfl reads_53
  exact ⟨⟨y0, y1, y2, y3, y4, y5, y6, y7, y8⟩, ⟨w0, w1, w2, w3, w4, w5, w6, w7, w8⟩, rtl_cons (o := 0) (o' := 3) r0 (by kernel_rfl) (rtl_cons (o := 3) (o' := 6) r1 (by kernel_rfl) (rtl_cons (o := 6) (o' := 9) r2 (by kernel_rfl) (rtl_cons (o := 9) (o' := 12) r3 (by kernel_rfl) (rtl_cons (o := 12) (o' := 14) r4 (by kernel_rfl) (rtl_cons (o := 14) (o' := 16) r5 (by kernel_rfl) (rtl_cons (o := 16) (o' := 18) r6 (by kernel_rfl) (rtl_cons (o := 18) (o' := 20) r7 (by kernel_rfl) (rtl_cons (o := 20) (o' := 24) r8 (by kernel_rfl) (rtl_nil (hl.trans (by kernel_rfl)))))))))))⟩
theorem arg_55 : ArgOk Tryz.prog 55 (fun x => A_STables x) wf_STables := arg_struct Tryz.underlying55 reads_55 (fun _ => rfl)
theorem reads_59 : Reads Tryz.prog 59 enc_SBody wf_SBody := by
  intro H e w fuel cs x h
  obtain ⟨xs, n, _, rfl, hl, hlen, hf⟩ := DataW.trod_struct Tryz.underlying59 h
  obtain ⟨y0, w0, r0⟩ := field_of hlen hf 0 rfl reads_3
  obtain ⟨y1, w1, r1⟩ := field_of hlen hf 1 rfl reads_3
  obtain ⟨y2, w2, r2⟩ := field_of hlen hf 2 rfl reads_3
  obtain ⟨y3, w3, r3⟩ := field_of hlen hf 3 rfl reads_3
  obtain ⟨y4, w4, r4⟩ := field_of hlen hf 4 rfl reads_3
  obtain ⟨y5, w5, r5⟩ := field_of hlen hf 5 rfl reads_3
  obtain ⟨y6, w6, r6⟩ := field_of hlen hf 6 rfl reads_3
  exact ⟨⟨y0, y1, y2, y3, y4, y5, y6⟩, ⟨w0, w1, w2, w3, w4, w5, w6⟩, rtl_cons (o := 0) (o' := 1) r0 (by kernel_rfl) (rtl_cons (o := 1) (o' := 2) r1 (by kernel_rfl) (rtl_cons (o := 2) (o' := 3) r2 (by kernel_rfl) (rtl_cons (o := 3) (o' := 4) r3 (by kernel_rfl) (rtl_cons (o := 4) (o' := 5) r4 (by kernel_rfl) (rtl_cons (o := 5) (o' := 6) r5 (by kernel_rfl) (rtl_cons (o := 6) (o' := 7) r6 (by kernel_rfl) (rtl_nil (hl.trans (by kernel_rfl)))))))))⟩
theorem arg_59 : ArgOk Tryz.prog 59 (fun x => A_SBody x) wf_SBody := arg_struct Tryz.underlying59 reads_59 (fun _ => rfl)
theorem reads_68 : Reads Tryz.prog 68 enc_SEngine wf_SEngine := by
  intro H e w fuel cs x h
  obtain ⟨xs, n, _, rfl, hl, hlen, hf⟩ := DataW.trod_struct Tryz.underlying68 h
  obtain ⟨y0, w0, r0⟩ := field_of hlen hf 0 rfl reads_29
  obtain ⟨y1, w1, r1⟩ := field_of hlen hf 1 rfl reads_3
  exact ⟨⟨y0, y1⟩, ⟨w0, w1⟩, rtl_cons (o := 0) (o' := 1) r0 (by kernel_rfl) (rtl_cons (o := 1) (o' := 2) r1 (by kernel_rfl) (rtl_nil (hl.trans (by kernel_rfl))))⟩
theorem arg_68 : ArgOk Tryz.prog 68 (fun x => A_SEngine x) wf_SEngine := arg_struct Tryz.underlying68 reads_68 (fun _ => rfl)
theorem arg_4 : ArgOk Tryz.prog 4 (fun x => .t (tB x)) (fun _ => True) := arg_bool Tryz.underlying4 reads_4 (fun _ => rfl) (fun _ => rfl)
theorem reads_5 : Reads Tryz.prog 5 enc_u8 (fun n => (Lit.int .u8 n).wf = true) := reads_int Tryz.underlying5 (fun _ => rfl)
theorem arg_5 : ArgOk Tryz.prog 5 (fun x => .t (tK .u8 x)) (fun n => (Lit.int .u8 n).wf = true) := arg_int Tryz.underlying5 reads_5 (fun _ => rfl) (fun _ => rfl)
theorem reads_69 : Reads Tryz.prog 69 enc_u16 (fun n => (Lit.int .u16 n).wf = true) := reads_int Tryz.underlying69 (fun _ => rfl)
theorem arg_69 : ArgOk Tryz.prog 69 (fun x => .t (tK .u16 x)) (fun n => (Lit.int .u16 n).wf = true) := arg_int Tryz.underlying69 reads_69 (fun _ => rfl) (fun _ => rfl)
end Go.Proofs.YtjhedhnghldjbaaGreatDoor
