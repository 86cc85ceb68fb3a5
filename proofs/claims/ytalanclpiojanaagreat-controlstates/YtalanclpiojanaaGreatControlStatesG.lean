/- This file joins: Ties, printed by gen.py: each function of the loaded program computes its model. What the arguments are known to be. Printed by law.py. What the arguments of the rows hold. Printed by law.py. Part Xg: loops by invariants, lists. Plain Lean. Part Xk: slices.SortStableFunc, as it computes: that it sorts, and keeps the order of equals. Plain Lean. (The functions are those that gen2.py prints for an instance, with a type in the element's place.) Maps: surface.Valid and its reference answer alike. Plain Lean. Plain Lean: axes, and maps that are valid. Plain Lean: curves that are valid. Plain Lean: tables of the torque that are valid. Plain Lean: the tables of the control that are valid, and what the references say of them. The events' functions, as they compute. Plain Lean. Plain Lean: the states of the control. ControlStates, in plain Lean. -/
import Derived.Test.YtalanclpiojanaaGreatControlStatesF
import Derived.Test.YtalanclpiojanaaGreatProg
import Derived.KernelRfl
set_option linter.unusedSimpArgs false
set_option linter.unusedVariables false
namespace Go.Proofs.YtalanclpiojanaaGreat
open Go Go.Pv Go.Proofs
-- magneto/magnetolaw38.ControlStates
set_option maxRecDepth 100000 in
theorem tie_magnetolaw38_ControlStates (t2 : STables) (e2 : SEngine) (c : SControls) (v_in : SInputs) (cylinders : Int) : TieF Tryz.prog 3 [A_STables t2, A_SEngine e2, A_SControls c, A_SInputs v_in, .t (tI cylinders)] (magnetolaw38_ControlStates t2 e2 c v_in cylinders) (fun r => .t (tB r)) := by
  refine TieF.intro htab 70 [.tmp 10] Tryz.call3 Tryz.func3 rfl rfl rfl (Nat.le_of_ble_eq_true rfl) fun w0 L => ?_
  refine TieS.seq (.region (.run 5 rfl (.nil (.seq ?_))))
  refine TieS.seq (.region (.call _ rfl rfl rfl (tie_magnetolaw38_awake) (fun _ => rfl) fun v => .run 1 rfl (.nil ?_)))
  refine TieS.cond rfl ?_ ?_
  · exact TieS.seq (.region (.run 1 rfl (.nil (.ret ⟨.inl rfl, rfl⟩))))
  · refine TieS.skip (.seq (.seq (.region (.run 1 rfl ?_))))
    refine TieO.call _ rfl rfl rfl (tie_magnetolaw38_few t2) (fun _ => rfl) fun v2 => .run 2 rfl (.bind 6 (fun b2 => ⟨[(4, .t (tI cylinders)), (5, .ptr 5 0), (6, .ptr 6 0), (7, .ptr 7 0), (8, .ptr 8 0), (26, .t (tB b2))], [(5, .box (B_STables t2)), (6, .box [.t (tS Pv.encI e2.Order), .t (tI e2.First)]), (7, .box (B_SControls c)), (8, .box (B_SInputs v_in))]⟩) (TieO.split 20 rfl ?_ ?_) fun b2 _ => ?_)
    · exact TieO.run 6 rfl (.nil (.leaf ⟨rfl, .of rfl rfl⟩))
    · exact TieO.run 3 rfl (.call _ rfl rfl rfl (tie_magnetolaw38_small e2 c v_in) (fun _ => rfl) fun v3 => .run 2 rfl (.nil (.leaf ⟨rfl, .of rfl rfl⟩)))
    refine TieO.nil (.cond rfl ?_ ?_)
    · exact TieS.seq (.region (.run 1 rfl (.nil (.ret ⟨.inl rfl, rfl⟩))))
    · refine TieS.skip (.seq (.region (.run 1 rfl (.call _ rfl rfl rfl (tie_control_New e2) (fun _ => rfl) fun r2 => ?_))))
      refine TieO.run 6 rfl (.nil (.seq (.region (.run 1 rfl ?_))))
      refine TieO.call _ rfl rfl rfl (tie_magnetoref38_New e2) (fun _ => rfl) fun r3 => .run 6 rfl (.nil (.seq (TieX.pre fun v4 hv4 => ?_)))
      refine TieX.pre fun v5 hv5 => TieX.split (fun hg => ?_) (fun hg8 => ?_)
      · refine TieX.split (fun hg2 => ?_) (fun hg7 => ?_)
        · refine TieX.pre fun v6 hv6 => TieX.split (fun hg3 => ?_) (fun hg6 => ?_)
          · refine TieX.pre fun v7 hv7 => TieX.pre fun v8 hv8 => TieX.split (fun hg4 => ?_) (fun hg5 => ?_)
            · exact TieX.pre fun v9 hv9 => TieX.pre fun v10 hv10 => TieS.draw 34 [_, _, _, _, _, _, _, _, _, _, _, _, _, _, _, _, _, _, _, _, _, _, _, _, _, _, _, _, _, _, _, _, _, _] [(4, .t (tI cylinders)), (5, .ptr 5 0), (6, .ptr 6 0), (7, .ptr 7 0), (8, .ptr 8 0), (11, .ptr 11 0), (12, .t (tI r2.2)), (13, .ptr 13 0), (14, .t (tI r3.2))] [(5, .box (B_STables t2)), (6, .box [.t (tS Pv.encI e2.Order), .t (tI e2.First)]), (7, .box (B_SControls c)), (8, .box (B_SInputs v_in)), (11, .box (B_SControls r2.1)), (13, .box (B_SControls r3.1))] mixed (.of rfl rfl) rfl rfl rfl rfl (.cons (.quiet rfl rfl rfl) (.cons (.callV (tie_control_Valid t2) hv4 rfl rfl rfl rfl) (.cons (.quiet rfl rfl rfl) (.cons (.callV (tie_magnetoref38_Valid t2) hv5 rfl rfl rfl rfl) (.cons (.quiet rfl rfl rfl) (.cons (.cast (congrArg T.B hg) (.quiet rfl rfl rfl)) (.cons (.quiet rfl rfl rfl) (.cons (.quiet rfl rfl rfl) (.cons (.quiet rfl rfl rfl) (.cons (.quiet rfl rfl rfl) (.cons (.cast (congrArg T.B hg2) (.quiet rfl rfl rfl)) (.cons (.quiet rfl rfl rfl) (.cons (.quiet rfl rfl rfl) (.cons (.callV (tie_magnetoref38_Same (⟨(⟨r2.1.Pedal.Value, r2.1.Pedal.Differ, r2.1.Pedal.Fault⟩ : SPedal), (⟨r2.1.Idle.Sum⟩ : SIntegral), r2.1.Knock, (⟨r2.1.Probe.Active, r2.1.Probe.Rich, r2.1.Probe.Factor, r2.1.Probe.Wait, r2.1.Probe.Cells⟩ : SProbe), r2.1.Film, (⟨r2.1.Grant.Torque, r2.1.Grant.Source⟩ : SGrant)⟩ : SControls) (⟨(⟨r3.1.Pedal.Value, r3.1.Pedal.Differ, r3.1.Pedal.Fault⟩ : SPedal), (⟨r3.1.Idle.Sum⟩ : SIntegral), r3.1.Knock, (⟨r3.1.Probe.Active, r3.1.Probe.Rich, r3.1.Probe.Factor, r3.1.Probe.Wait, r3.1.Probe.Cells⟩ : SProbe), r3.1.Film, (⟨r3.1.Grant.Torque, r3.1.Grant.Source⟩ : SGrant)⟩ : SControls)) hv6 rfl rfl rfl rfl) (.cons (.quiet rfl rfl rfl) (.cons (.cast (congrArg T.B hg3) (.quiet rfl rfl rfl)) (.cons (.quiet rfl rfl rfl) (.cons (.quiet rfl rfl rfl) (.cons (.callV (tie_control_Good e2 c) hv7 rfl rfl rfl rfl) (.cons (.quiet rfl rfl rfl) (.cons (.quiet rfl rfl rfl) (.cons (.callV (tie_magnetoref38_Good e2 c) hv8 rfl rfl rfl rfl) (.cons (.quiet rfl rfl rfl) (.cons (.quiet rfl rfl rfl) (.cons (.cast (congrArg T.B hg4) (.quiet rfl rfl rfl)) (.cons (.quiet rfl rfl rfl) (.cons (.quiet rfl rfl rfl) (.cons (.callV (tie_control_Check v_in cylinders) hv9 rfl rfl rfl rfl) (.cons (.quiet rfl rfl rfl) (.cons (.quiet rfl rfl rfl) (.cons (.callV (tie_magnetoref38_Check v_in cylinders) hv10 rfl rfl rfl rfl) (.cons (.quiet rfl rfl rfl) (.cons (.quiet rfl rfl rfl) (.cons (.quiet rfl rfl rfl) (.nil))))))))))))))))))))))))))))))))))) (.nil (.ret ⟨.inl rfl, rfl⟩))
            · exact TieS.draw 34 [_, _, _, _, _, _, _, _, _, _, _, _, _, _, _, _, _, _, _, _, _, _, _, _, _, _, _, _, _, _, _, _, _, _] [(4, .t (tI cylinders)), (5, .ptr 5 0), (6, .ptr 6 0), (7, .ptr 7 0), (8, .ptr 8 0), (11, .ptr 11 0), (12, .t (tI r2.2)), (13, .ptr 13 0), (14, .t (tI r3.2))] [(5, .box (B_STables t2)), (6, .box [.t (tS Pv.encI e2.Order), .t (tI e2.First)]), (7, .box (B_SControls c)), (8, .box (B_SInputs v_in)), (11, .box (B_SControls r2.1)), (13, .box (B_SControls r3.1))] mixed (.of rfl rfl) rfl rfl rfl rfl (.cons (.quiet rfl rfl rfl) (.cons (.callV (tie_control_Valid t2) hv4 rfl rfl rfl rfl) (.cons (.quiet rfl rfl rfl) (.cons (.callV (tie_magnetoref38_Valid t2) hv5 rfl rfl rfl rfl) (.cons (.quiet rfl rfl rfl) (.cons (.cast (congrArg T.B hg) (.quiet rfl rfl rfl)) (.cons (.quiet rfl rfl rfl) (.cons (.quiet rfl rfl rfl) (.cons (.quiet rfl rfl rfl) (.cons (.quiet rfl rfl rfl) (.cons (.cast (congrArg T.B hg2) (.quiet rfl rfl rfl)) (.cons (.quiet rfl rfl rfl) (.cons (.quiet rfl rfl rfl) (.cons (.callV (tie_magnetoref38_Same (⟨(⟨r2.1.Pedal.Value, r2.1.Pedal.Differ, r2.1.Pedal.Fault⟩ : SPedal), (⟨r2.1.Idle.Sum⟩ : SIntegral), r2.1.Knock, (⟨r2.1.Probe.Active, r2.1.Probe.Rich, r2.1.Probe.Factor, r2.1.Probe.Wait, r2.1.Probe.Cells⟩ : SProbe), r2.1.Film, (⟨r2.1.Grant.Torque, r2.1.Grant.Source⟩ : SGrant)⟩ : SControls) (⟨(⟨r3.1.Pedal.Value, r3.1.Pedal.Differ, r3.1.Pedal.Fault⟩ : SPedal), (⟨r3.1.Idle.Sum⟩ : SIntegral), r3.1.Knock, (⟨r3.1.Probe.Active, r3.1.Probe.Rich, r3.1.Probe.Factor, r3.1.Probe.Wait, r3.1.Probe.Cells⟩ : SProbe), r3.1.Film, (⟨r3.1.Grant.Torque, r3.1.Grant.Source⟩ : SGrant)⟩ : SControls)) hv6 rfl rfl rfl rfl) (.cons (.quiet rfl rfl rfl) (.cons (.cast (congrArg T.B hg3) (.quiet rfl rfl rfl)) (.cons (.quiet rfl rfl rfl) (.cons (.quiet rfl rfl rfl) (.cons (.callV (tie_control_Good e2 c) hv7 rfl rfl rfl rfl) (.cons (.quiet rfl rfl rfl) (.cons (.quiet rfl rfl rfl) (.cons (.callV (tie_magnetoref38_Good e2 c) hv8 rfl rfl rfl rfl) (.cons (.quiet rfl rfl rfl) (.cons (.quiet rfl rfl rfl) (.cons (.cast (congrArg T.B hg5) (.quiet rfl rfl rfl)) (.cons (.skip rfl) (.cons (.skip rfl) (.cons (.skip rfl) (.cons (.skip rfl) (.cons (.skip rfl) (.cons (.skip rfl) (.cons (.skip rfl) (.cons (.quiet rfl rfl rfl) (.cons (.quiet rfl rfl rfl) (.nil))))))))))))))))))))))))))))))))))) (.nil (.ret ⟨.inl rfl, rfl⟩))
          · exact TieS.draw 34 [_, _, _, _, _, _, _, _, _, _, _, _, _, _, _, _, _, _, _, _, _, _, _, _, _, _, _, _, _, _, _, _, _, _] [(4, .t (tI cylinders)), (5, .ptr 5 0), (6, .ptr 6 0), (7, .ptr 7 0), (8, .ptr 8 0), (11, .ptr 11 0), (12, .t (tI r2.2)), (13, .ptr 13 0), (14, .t (tI r3.2))] [(5, .box (B_STables t2)), (6, .box [.t (tS Pv.encI e2.Order), .t (tI e2.First)]), (7, .box (B_SControls c)), (8, .box (B_SInputs v_in)), (11, .box (B_SControls r2.1)), (13, .box (B_SControls r3.1))] mixed (.of rfl rfl) rfl rfl rfl rfl (.cons (.quiet rfl rfl rfl) (.cons (.callV (tie_control_Valid t2) hv4 rfl rfl rfl rfl) (.cons (.quiet rfl rfl rfl) (.cons (.callV (tie_magnetoref38_Valid t2) hv5 rfl rfl rfl rfl) (.cons (.quiet rfl rfl rfl) (.cons (.cast (congrArg T.B hg) (.quiet rfl rfl rfl)) (.cons (.quiet rfl rfl rfl) (.cons (.quiet rfl rfl rfl) (.cons (.quiet rfl rfl rfl) (.cons (.quiet rfl rfl rfl) (.cons (.cast (congrArg T.B hg2) (.quiet rfl rfl rfl)) (.cons (.quiet rfl rfl rfl) (.cons (.quiet rfl rfl rfl) (.cons (.callV (tie_magnetoref38_Same (⟨(⟨r2.1.Pedal.Value, r2.1.Pedal.Differ, r2.1.Pedal.Fault⟩ : SPedal), (⟨r2.1.Idle.Sum⟩ : SIntegral), r2.1.Knock, (⟨r2.1.Probe.Active, r2.1.Probe.Rich, r2.1.Probe.Factor, r2.1.Probe.Wait, r2.1.Probe.Cells⟩ : SProbe), r2.1.Film, (⟨r2.1.Grant.Torque, r2.1.Grant.Source⟩ : SGrant)⟩ : SControls) (⟨(⟨r3.1.Pedal.Value, r3.1.Pedal.Differ, r3.1.Pedal.Fault⟩ : SPedal), (⟨r3.1.Idle.Sum⟩ : SIntegral), r3.1.Knock, (⟨r3.1.Probe.Active, r3.1.Probe.Rich, r3.1.Probe.Factor, r3.1.Probe.Wait, r3.1.Probe.Cells⟩ : SProbe), r3.1.Film, (⟨r3.1.Grant.Torque, r3.1.Grant.Source⟩ : SGrant)⟩ : SControls)) hv6 rfl rfl rfl rfl) (.cons (.quiet rfl rfl rfl) (.cons (.cast (congrArg T.B hg6) (.quiet rfl rfl rfl)) (.cons (.skip rfl) (.cons (.skip rfl) (.cons (.skip rfl) (.cons (.skip rfl) (.cons (.skip rfl) (.cons (.skip rfl) (.cons (.skip rfl) (.cons (.quiet rfl rfl rfl) (.cons (.quiet rfl rfl rfl) (.cons (.skip rfl) (.cons (.skip rfl) (.cons (.skip rfl) (.cons (.skip rfl) (.cons (.skip rfl) (.cons (.skip rfl) (.cons (.skip rfl) (.cons (.quiet rfl rfl rfl) (.cons (.quiet rfl rfl rfl) (.nil))))))))))))))))))))))))))))))))))) (.nil (.ret ⟨.inl rfl, rfl⟩))
        · exact TieS.draw 34 [_, _, _, _, _, _, _, _, _, _, _, _, _, _, _, _, _, _, _, _, _, _, _, _, _, _, _, _, _, _, _, _, _, _] [(4, .t (tI cylinders)), (5, .ptr 5 0), (6, .ptr 6 0), (7, .ptr 7 0), (8, .ptr 8 0), (11, .ptr 11 0), (12, .t (tI r2.2)), (13, .ptr 13 0), (14, .t (tI r3.2))] [(5, .box (B_STables t2)), (6, .box [.t (tS Pv.encI e2.Order), .t (tI e2.First)]), (7, .box (B_SControls c)), (8, .box (B_SInputs v_in)), (11, .box (B_SControls r2.1)), (13, .box (B_SControls r3.1))] mixed (.of rfl rfl) rfl rfl rfl rfl (.cons (.quiet rfl rfl rfl) (.cons (.callV (tie_control_Valid t2) hv4 rfl rfl rfl rfl) (.cons (.quiet rfl rfl rfl) (.cons (.callV (tie_magnetoref38_Valid t2) hv5 rfl rfl rfl rfl) (.cons (.quiet rfl rfl rfl) (.cons (.cast (congrArg T.B hg) (.quiet rfl rfl rfl)) (.cons (.quiet rfl rfl rfl) (.cons (.quiet rfl rfl rfl) (.cons (.quiet rfl rfl rfl) (.cons (.quiet rfl rfl rfl) (.cons (.cast (congrArg T.B hg7) (.quiet rfl rfl rfl)) (.cons (.skip rfl) (.cons (.skip rfl) (.cons (.skip rfl) (.cons (.quiet rfl rfl rfl) (.cons (.quiet rfl rfl rfl) (.cons (.skip rfl) (.cons (.skip rfl) (.cons (.skip rfl) (.cons (.skip rfl) (.cons (.skip rfl) (.cons (.skip rfl) (.cons (.skip rfl) (.cons (.quiet rfl rfl rfl) (.cons (.quiet rfl rfl rfl) (.cons (.skip rfl) (.cons (.skip rfl) (.cons (.skip rfl) (.cons (.skip rfl) (.cons (.skip rfl) (.cons (.skip rfl) (.cons (.skip rfl) (.cons (.quiet rfl rfl rfl) (.cons (.quiet rfl rfl rfl) (.nil))))))))))))))))))))))))))))))))))) (.nil (.ret ⟨.inl rfl, rfl⟩))
      · exact TieS.draw 34 [_, _, _, _, _, _, _, _, _, _, _, _, _, _, _, _, _, _, _, _, _, _, _, _, _, _, _, _, _, _, _, _, _, _] [(4, .t (tI cylinders)), (5, .ptr 5 0), (6, .ptr 6 0), (7, .ptr 7 0), (8, .ptr 8 0), (11, .ptr 11 0), (12, .t (tI r2.2)), (13, .ptr 13 0), (14, .t (tI r3.2))] [(5, .box (B_STables t2)), (6, .box [.t (tS Pv.encI e2.Order), .t (tI e2.First)]), (7, .box (B_SControls c)), (8, .box (B_SInputs v_in)), (11, .box (B_SControls r2.1)), (13, .box (B_SControls r3.1))] mixed (.of rfl rfl) rfl rfl rfl rfl (.cons (.quiet rfl rfl rfl) (.cons (.callV (tie_control_Valid t2) hv4 rfl rfl rfl rfl) (.cons (.quiet rfl rfl rfl) (.cons (.callV (tie_magnetoref38_Valid t2) hv5 rfl rfl rfl rfl) (.cons (.quiet rfl rfl rfl) (.cons (.cast (congrArg T.B hg8) (.quiet rfl rfl rfl)) (.cons (.skip rfl) (.cons (.skip rfl) (.cons (.skip rfl) (.cons (.quiet rfl rfl rfl) (.cons (.quiet rfl rfl rfl) (.cons (.skip rfl) (.cons (.skip rfl) (.cons (.skip rfl) (.cons (.quiet rfl rfl rfl) (.cons (.quiet rfl rfl rfl) (.cons (.skip rfl) (.cons (.skip rfl) (.cons (.skip rfl) (.cons (.skip rfl) (.cons (.skip rfl) (.cons (.skip rfl) (.cons (.skip rfl) (.cons (.quiet rfl rfl rfl) (.cons (.quiet rfl rfl rfl) (.cons (.skip rfl) (.cons (.skip rfl) (.cons (.skip rfl) (.cons (.skip rfl) (.cons (.skip rfl) (.cons (.skip rfl) (.cons (.skip rfl) (.cons (.quiet rfl rfl rfl) (.cons (.quiet rfl rfl rfl) (.nil))))))))))))))))))))))))))))))))))) (.nil (.ret ⟨.inl rfl, rfl⟩))
end Go.Proofs.YtalanclpiojanaaGreat
namespace Go.Pv
open Go
structure wf_SMap (x : SMap) : Prop where
  X : (wfL (fun n => (Lit.int .i64 n).wf = true)) x.X
  Y : (wfL (fun n => (Lit.int .i64 n).wf = true)) x.Y
  Z : (wfL (wfL (fun n => (Lit.int .i64 n).wf = true))) x.Z
structure wf_SCurve (x : SCurve) : Prop where
  X : (wfL (fun n => (Lit.int .i64 n).wf = true)) x.X
  Y : (wfL (fun n => (Lit.int .i64 n).wf = true)) x.Y
structure wf_SGain (x : SGain) : Prop where
  P : (fun n => (Lit.int .i64 n).wf = true) x.P
  I : (fun n => (Lit.int .i64 n).wf = true) x.I
  Low : (fun n => (Lit.int .i64 n).wf = true) x.Low
  High : (fun n => (Lit.int .i64 n).wf = true) x.High
structure wf_STables (x : STables) : Prop where
  Air : wf_SMap x.Air
  Spark : wf_SMap x.Spark
  Torque : wf_SMap x.Torque
  Wish : wf_SMap x.Wish
  AirTemp : wf_SCurve x.AirTemp
  Dwell : wf_SCurve x.Dwell
  Dead : wf_SCurve x.Dead
  Efficiency : wf_SCurve x.Efficiency
  Idle : wf_SGain x.Idle
structure wf_SEngine (x : SEngine) : Prop where
  Order : (wfL (fun n => (Lit.int .i64 n).wf = true)) x.Order
  First : (fun n => (Lit.int .i64 n).wf = true) x.First
structure wf_SPedal (x : SPedal) : Prop where
  Value : (fun n => (Lit.int .i64 n).wf = true) x.Value
  Differ : (fun n => (Lit.int .i64 n).wf = true) x.Differ
  Fault : (fun _ => True) x.Fault
structure wf_SIntegral (x : SIntegral) : Prop where
  Sum : (fun n => (Lit.int .i64 n).wf = true) x.Sum
structure wf_SKnock (x : SKnock) : Prop where
  Retard : (fun n => (Lit.int .i64 n).wf = true) x.Retard
  Noise : (fun n => (Lit.int .i64 n).wf = true) x.Noise
  Quiet : (fun n => (Lit.int .i64 n).wf = true) x.Quiet
structure wf_SCell (x : SCell) : Prop where
  Value : (fun n => (Lit.int .i64 n).wf = true) x.Value
  Count : (fun n => (Lit.int .i64 n).wf = true) x.Count
structure wf_SProbe (x : SProbe) : Prop where
  Active : (fun _ => True) x.Active
  Rich : (fun _ => True) x.Rich
  Factor : (fun n => (Lit.int .i64 n).wf = true) x.Factor
  Wait : (fun n => (Lit.int .i64 n).wf = true) x.Wait
  Cells : (wfL wf_SCell) x.Cells
structure wf_SGrant (x : SGrant) : Prop where
  Torque : (fun n => (Lit.int .i64 n).wf = true) x.Torque
  Source : (fun n => (Lit.int .i64 n).wf = true) x.Source
structure wf_SControls (x : SControls) : Prop where
  Pedal : wf_SPedal x.Pedal
  Idle : wf_SIntegral x.Idle
  Knock : (wfL wf_SKnock) x.Knock
  Probe : wf_SProbe x.Probe
  Film : (fun n => (Lit.int .i64 n).wf = true) x.Film
  Grant : wf_SGrant x.Grant
structure wf_SRequest (x : SRequest) : Prop where
  Source : (fun n => (Lit.int .i64 n).wf = true) x.Source
  Kind : (fun n => (Lit.int .i64 n).wf = true) x.Kind
  Torque : (fun n => (Lit.int .i64 n).wf = true) x.Torque
  Priority : (fun n => (Lit.int .i64 n).wf = true) x.Priority
structure wf_SInputs (x : SInputs) : Prop where
  Pedal1 : (fun n => (Lit.int .i64 n).wf = true) x.Pedal1
  Pedal2 : (fun n => (Lit.int .i64 n).wf = true) x.Pedal2
  Speed : (fun n => (Lit.int .i64 n).wf = true) x.Speed
  Pressure : (fun n => (Lit.int .i64 n).wf = true) x.Pressure
  AirTemp : (fun n => (Lit.int .i64 n).wf = true) x.AirTemp
  Voltage : (fun n => (Lit.int .i64 n).wf = true) x.Voltage
  Lambda : (fun n => (Lit.int .i64 n).wf = true) x.Lambda
  Coolant : (fun n => (Lit.int .i64 n).wf = true) x.Coolant
  Intensity : (wfL (fun n => (Lit.int .i64 n).wf = true)) x.Intensity
  Requests : (wfL wf_SRequest) x.Requests
end Go.Pv
namespace Go.Proofs.YtalanclpiojanaaGreat
open Go Go.Pv Go.Proofs
theorem reads_3 : Reads Tryz.prog 3 Pv.encI (fun n => (Lit.int .i64 n).wf = true) := reads_int Tryz.underlying3 (fun _ => rfl)
theorem reads_22 : Reads Tryz.prog 22 (Pv.encS Pv.encI) (wfL (fun n => (Lit.int .i64 n).wf = true)) := reads_slice (sz := 1) Tryz.underlying22 reads_3 (by kernel_rfl) (by decide) (fun _ => rfl)
theorem reads_23 : Reads Tryz.prog 23 (Pv.encS (Pv.encS Pv.encI)) (wfL (wfL (fun n => (Lit.int .i64 n).wf = true))) := reads_slice (sz := 1) Tryz.underlying23 reads_22 (by kernel_rfl) (by decide) (fun _ => rfl)
theorem reads_25 : Reads Tryz.prog 25 enc_SMap wf_SMap := by
  intro H e w fuel cs x h
  obtain ⟨xs, n, _, rfl, hl, hlen, hf⟩ := DataW.trod_struct Tryz.underlying25 h
  obtain ⟨y0, w0, r0⟩ := field_of hlen hf 0 rfl reads_22
  obtain ⟨y1, w1, r1⟩ := field_of hlen hf 1 rfl reads_22
  obtain ⟨y2, w2, r2⟩ := field_of hlen hf 2 rfl reads_23
  exact ⟨⟨y0, y1, y2⟩, ⟨w0, w1, w2⟩, rtl_cons (o := 0) (o' := 1) r0 (by kernel_rfl) (rtl_cons (o := 1) (o' := 2) r1 (by kernel_rfl) (rtl_cons (o := 2) (o' := 3) r2 (by kernel_rfl) (rtl_nil (hl.trans (by kernel_rfl)))))⟩
theorem reads_27 : Reads Tryz.prog 27 enc_SCurve wf_SCurve := by
  intro H e w fuel cs x h
  obtain ⟨xs, n, _, rfl, hl, hlen, hf⟩ := DataW.trod_struct Tryz.underlying27 h
  obtain ⟨y0, w0, r0⟩ := field_of hlen hf 0 rfl reads_22
  obtain ⟨y1, w1, r1⟩ := field_of hlen hf 1 rfl reads_22
  exact ⟨⟨y0, y1⟩, ⟨w0, w1⟩, rtl_cons (o := 0) (o' := 1) r0 (by kernel_rfl) (rtl_cons (o := 1) (o' := 2) r1 (by kernel_rfl) (rtl_nil (hl.trans (by kernel_rfl))))⟩
theorem reads_29 : Reads Tryz.prog 29 enc_SGain wf_SGain := by
  intro H e w fuel cs x h
  obtain ⟨xs, n, _, rfl, hl, hlen, hf⟩ := DataW.trod_struct Tryz.underlying29 h
  obtain ⟨y0, w0, r0⟩ := field_of hlen hf 0 rfl reads_3
  obtain ⟨y1, w1, r1⟩ := field_of hlen hf 1 rfl reads_3
  obtain ⟨y2, w2, r2⟩ := field_of hlen hf 2 rfl reads_3
  obtain ⟨y3, w3, r3⟩ := field_of hlen hf 3 rfl reads_3
  exact ⟨⟨y0, y1, y2, y3⟩, ⟨w0, w1, w2, w3⟩, rtl_cons (o := 0) (o' := 1) r0 (by kernel_rfl) (rtl_cons (o := 1) (o' := 2) r1 (by kernel_rfl) (rtl_cons (o := 2) (o' := 3) r2 (by kernel_rfl) (rtl_cons (o := 3) (o' := 4) r3 (by kernel_rfl) (rtl_nil (hl.trans (by kernel_rfl))))))⟩
theorem reads_31 : Reads Tryz.prog 31 enc_STables wf_STables := by
  intro H e w fuel cs x h
  obtain ⟨xs, n, _, rfl, hl, hlen, hf⟩ := DataW.trod_struct Tryz.underlying31 h
  obtain ⟨y0, w0, r0⟩ := field_of hlen hf 0 rfl reads_25
  obtain ⟨y1, w1, r1⟩ := field_of hlen hf 1 rfl reads_25
  obtain ⟨y2, w2, r2⟩ := field_of hlen hf 2 rfl reads_25
  obtain ⟨y3, w3, r3⟩ := field_of hlen hf 3 rfl reads_25
  obtain ⟨y4, w4, r4⟩ := field_of hlen hf 4 rfl reads_27
  obtain ⟨y5, w5, r5⟩ := field_of hlen hf 5 rfl reads_27
  obtain ⟨y6, w6, r6⟩ := field_of hlen hf 6 rfl reads_27
  obtain ⟨y7, w7, r7⟩ := field_of hlen hf 7 rfl reads_27
  obtain ⟨y8, w8, r8⟩ := field_of hlen hf 8 rfl reads_29
  exact ⟨⟨y0, y1, y2, y3, y4, y5, y6, y7, y8⟩, ⟨w0, w1, w2, w3, w4, w5, w6, w7, w8⟩, rtl_cons (o := 0) (o' := 3) r0 (by kernel_rfl) (rtl_cons (o := 3) (o' := 6) r1 (by kernel_rfl) (rtl_cons (o := 6) (o' := 9) r2 (by kernel_rfl) (rtl_cons (o := 9) (o' := 12) r3 (by kernel_rfl) (rtl_cons (o := 12) (o' := 14) r4 (by kernel_rfl) (rtl_cons (o := 14) (o' := 16) r5 (by kernel_rfl) (rtl_cons (o := 16) (o' := 18) r6 (by kernel_rfl) (rtl_cons (o := 18) (o' := 20) r7 (by kernel_rfl) (rtl_cons (o := 20) (o' := 24) r8 (by kernel_rfl) (rtl_nil (hl.trans (by kernel_rfl)))))))))))⟩
theorem arg_31 : ArgOk Tryz.prog 31 (fun x => A_STables x) wf_STables := arg_struct Tryz.underlying31 reads_31 (fun _ => rfl)
theorem reads_33 : Reads Tryz.prog 33 enc_SEngine wf_SEngine := by
  intro H e w fuel cs x h
  obtain ⟨xs, n, _, rfl, hl, hlen, hf⟩ := DataW.trod_struct Tryz.underlying33 h
  obtain ⟨y0, w0, r0⟩ := field_of hlen hf 0 rfl reads_22
  obtain ⟨y1, w1, r1⟩ := field_of hlen hf 1 rfl reads_3
  exact ⟨⟨y0, y1⟩, ⟨w0, w1⟩, rtl_cons (o := 0) (o' := 1) r0 (by kernel_rfl) (rtl_cons (o := 1) (o' := 2) r1 (by kernel_rfl) (rtl_nil (hl.trans (by kernel_rfl))))⟩
theorem arg_33 : ArgOk Tryz.prog 33 (fun x => A_SEngine x) wf_SEngine := arg_struct Tryz.underlying33 reads_33 (fun _ => rfl)
theorem reads_4 : Reads Tryz.prog 4 Pv.encB (fun _ => True) := reads_bool Tryz.underlying4 (fun _ => rfl)
theorem reads_35 : Reads Tryz.prog 35 enc_SPedal wf_SPedal := by
  intro H e w fuel cs x h
  obtain ⟨xs, n, _, rfl, hl, hlen, hf⟩ := DataW.trod_struct Tryz.underlying35 h
  obtain ⟨y0, w0, r0⟩ := field_of hlen hf 0 rfl reads_3
  obtain ⟨y1, w1, r1⟩ := field_of hlen hf 1 rfl reads_3
  obtain ⟨y2, w2, r2⟩ := field_of hlen hf 2 rfl reads_4
  exact ⟨⟨y0, y1, y2⟩, ⟨w0, w1, w2⟩, rtl_cons (o := 0) (o' := 1) r0 (by kernel_rfl) (rtl_cons (o := 1) (o' := 2) r1 (by kernel_rfl) (rtl_cons (o := 2) (o' := 3) r2 (by kernel_rfl) (rtl_nil (hl.trans (by kernel_rfl)))))⟩
theorem reads_37 : Reads Tryz.prog 37 enc_SIntegral wf_SIntegral := by
  intro H e w fuel cs x h
  obtain ⟨xs, n, _, rfl, hl, hlen, hf⟩ := DataW.trod_struct Tryz.underlying37 h
  obtain ⟨y0, w0, r0⟩ := field_of hlen hf 0 rfl reads_3
  exact ⟨⟨y0⟩, ⟨w0⟩, rtl_cons (o := 0) (o' := 1) r0 (by kernel_rfl) (rtl_nil (hl.trans (by kernel_rfl)))⟩
theorem reads_95 : Reads Tryz.prog 95 enc_SKnock wf_SKnock := by
  intro H e w fuel cs x h
  obtain ⟨xs, n, _, rfl, hl, hlen, hf⟩ := DataW.trod_struct Tryz.underlying95 h
  obtain ⟨y0, w0, r0⟩ := field_of hlen hf 0 rfl reads_3
  obtain ⟨y1, w1, r1⟩ := field_of hlen hf 1 rfl reads_3
  obtain ⟨y2, w2, r2⟩ := field_of hlen hf 2 rfl reads_3
  exact ⟨⟨y0, y1, y2⟩, ⟨w0, w1, w2⟩, rtl_cons (o := 0) (o' := 1) r0 (by kernel_rfl) (rtl_cons (o := 1) (o' := 2) r1 (by kernel_rfl) (rtl_cons (o := 2) (o' := 3) r2 (by kernel_rfl) (rtl_nil (hl.trans (by kernel_rfl)))))⟩
theorem reads_38 : Reads Tryz.prog 38 (Pv.encS enc_SKnock) (wfL wf_SKnock) := reads_slice (sz := 3) Tryz.underlying38 reads_95 (by kernel_rfl) (by decide) (fun _ => rfl)
theorem reads_105 : Reads Tryz.prog 105 enc_SCell wf_SCell := by
  intro H e w fuel cs x h
  obtain ⟨xs, n, _, rfl, hl, hlen, hf⟩ := DataW.trod_struct Tryz.underlying105 h
  obtain ⟨y0, w0, r0⟩ := field_of hlen hf 0 rfl reads_3
  obtain ⟨y1, w1, r1⟩ := field_of hlen hf 1 rfl reads_3
  exact ⟨⟨y0, y1⟩, ⟨w0, w1⟩, rtl_cons (o := 0) (o' := 1) r0 (by kernel_rfl) (rtl_cons (o := 1) (o' := 2) r1 (by kernel_rfl) (rtl_nil (hl.trans (by kernel_rfl))))⟩
theorem reads_39 : Reads Tryz.prog 39 (Pv.encS enc_SCell) (wfL wf_SCell) := reads_slice (sz := 2) Tryz.underlying39 reads_105 (by kernel_rfl) (by decide) (fun _ => rfl)
theorem reads_41 : Reads Tryz.prog 41 enc_SProbe wf_SProbe := by
  intro H e w fuel cs x h
  obtain ⟨xs, n, _, rfl, hl, hlen, hf⟩ := DataW.trod_struct Tryz.underlying41 h
  obtain ⟨y0, w0, r0⟩ := field_of hlen hf 0 rfl reads_4
  obtain ⟨y1, w1, r1⟩ := field_of hlen hf 1 rfl reads_4
  obtain ⟨y2, w2, r2⟩ := field_of hlen hf 2 rfl reads_3
  obtain ⟨y3, w3, r3⟩ := field_of hlen hf 3 rfl reads_3
  obtain ⟨y4, w4, r4⟩ := field_of hlen hf 4 rfl reads_39
  exact ⟨⟨y0, y1, y2, y3, y4⟩, ⟨w0, w1, w2, w3, w4⟩, rtl_cons (o := 0) (o' := 1) r0 (by kernel_rfl) (rtl_cons (o := 1) (o' := 2) r1 (by kernel_rfl) (rtl_cons (o := 2) (o' := 3) r2 (by kernel_rfl) (rtl_cons (o := 3) (o' := 4) r3 (by kernel_rfl) (rtl_cons (o := 4) (o' := 5) r4 (by kernel_rfl) (rtl_nil (hl.trans (by kernel_rfl)))))))⟩
theorem reads_43 : Reads Tryz.prog 43 enc_SGrant wf_SGrant := by
  intro H e w fuel cs x h
  obtain ⟨xs, n, _, rfl, hl, hlen, hf⟩ := DataW.trod_struct Tryz.underlying43 h
  obtain ⟨y0, w0, r0⟩ := field_of hlen hf 0 rfl reads_3
  obtain ⟨y1, w1, r1⟩ := field_of hlen hf 1 rfl reads_3
  exact ⟨⟨y0, y1⟩, ⟨w0, w1⟩, rtl_cons (o := 0) (o' := 1) r0 (by kernel_rfl) (rtl_cons (o := 1) (o' := 2) r1 (by kernel_rfl) (rtl_nil (hl.trans (by kernel_rfl))))⟩
theorem reads_45 : Reads Tryz.prog 45 enc_SControls wf_SControls := by
  intro H e w fuel cs x h
  obtain ⟨xs, n, _, rfl, hl, hlen, hf⟩ := DataW.trod_struct Tryz.underlying45 h
  obtain ⟨y0, w0, r0⟩ := field_of hlen hf 0 rfl reads_35
  obtain ⟨y1, w1, r1⟩ := field_of hlen hf 1 rfl reads_37
  obtain ⟨y2, w2, r2⟩ := field_of hlen hf 2 rfl reads_38
  obtain ⟨y3, w3, r3⟩ := field_of hlen hf 3 rfl reads_41
  obtain ⟨y4, w4, r4⟩ := field_of hlen hf 4 rfl reads_3
  obtain ⟨y5, w5, r5⟩ := field_of hlen hf 5 rfl reads_43
  exact ⟨⟨y0, y1, y2, y3, y4, y5⟩, ⟨w0, w1, w2, w3, w4, w5⟩, rtl_cons (o := 0) (o' := 3) r0 (by kernel_rfl) (rtl_cons (o := 3) (o' := 4) r1 (by kernel_rfl) (rtl_cons (o := 4) (o' := 5) r2 (by kernel_rfl) (rtl_cons (o := 5) (o' := 10) r3 (by kernel_rfl) (rtl_cons (o := 10) (o' := 11) r4 (by kernel_rfl) (rtl_cons (o := 11) (o' := 13) r5 (by kernel_rfl) (rtl_nil (hl.trans (by kernel_rfl))))))))⟩
theorem arg_45 : ArgOk Tryz.prog 45 (fun x => A_SControls x) wf_SControls := arg_struct Tryz.underlying45 reads_45 (fun _ => rfl)
theorem reads_73 : Reads Tryz.prog 73 enc_SRequest wf_SRequest := by
  intro H e w fuel cs x h
  obtain ⟨xs, n, _, rfl, hl, hlen, hf⟩ := DataW.trod_struct Tryz.underlying73 h
  obtain ⟨y0, w0, r0⟩ := field_of hlen hf 0 rfl reads_3
  obtain ⟨y1, w1, r1⟩ := field_of hlen hf 1 rfl reads_3
  obtain ⟨y2, w2, r2⟩ := field_of hlen hf 2 rfl reads_3
  obtain ⟨y3, w3, r3⟩ := field_of hlen hf 3 rfl reads_3
  exact ⟨⟨y0, y1, y2, y3⟩, ⟨w0, w1, w2, w3⟩, rtl_cons (o := 0) (o' := 1) r0 (by kernel_rfl) (rtl_cons (o := 1) (o' := 2) r1 (by kernel_rfl) (rtl_cons (o := 2) (o' := 3) r2 (by kernel_rfl) (rtl_cons (o := 3) (o' := 4) r3 (by kernel_rfl) (rtl_nil (hl.trans (by kernel_rfl))))))⟩
theorem reads_46 : Reads Tryz.prog 46 (Pv.encS enc_SRequest) (wfL wf_SRequest) := reads_slice (sz := 4) Tryz.underlying46 reads_73 (by kernel_rfl) (by decide) (fun _ => rfl)
theorem reads_48 : Reads Tryz.prog 48 enc_SInputs wf_SInputs := by
  intro H e w fuel cs x h
  obtain ⟨xs, n, _, rfl, hl, hlen, hf⟩ := DataW.trod_struct Tryz.underlying48 h
  obtain ⟨y0, w0, r0⟩ := field_of hlen hf 0 rfl reads_3
  obtain ⟨y1, w1, r1⟩ := field_of hlen hf 1 rfl reads_3
  obtain ⟨y2, w2, r2⟩ := field_of hlen hf 2 rfl reads_3
  obtain ⟨y3, w3, r3⟩ := field_of hlen hf 3 rfl reads_3
  obtain ⟨y4, w4, r4⟩ := field_of hlen hf 4 rfl reads_3
  obtain ⟨y5, w5, r5⟩ := field_of hlen hf 5 rfl reads_3
  obtain ⟨y6, w6, r6⟩ := field_of hlen hf 6 rfl reads_3
  obtain ⟨y7, w7, r7⟩ := field_of hlen hf 7 rfl reads_3
  obtain ⟨y8, w8, r8⟩ := field_of hlen hf 8 rfl reads_22
  obtain ⟨y9, w9, r9⟩ := field_of hlen hf 9 rfl reads_46
  exact ⟨⟨y0, y1, y2, y3, y4, y5, y6, y7, y8, y9⟩, ⟨w0, w1, w2, w3, w4, w5, w6, w7, w8, w9⟩, rtl_cons (o := 0) (o' := 1) r0 (by kernel_rfl) (rtl_cons (o := 1) (o' := 2) r1 (by kernel_rfl) (rtl_cons (o := 2) (o' := 3) r2 (by kernel_rfl) (rtl_cons (o := 3) (o' := 4) r3 (by kernel_rfl) (rtl_cons (o := 4) (o' := 5) r4 (by kernel_rfl) (rtl_cons (o := 5) (o' := 6) r5 (by kernel_rfl) (rtl_cons (o := 6) (o' := 7) r6 (by kernel_rfl) (rtl_cons (o := 7) (o' := 8) r7 (by kernel_rfl) (rtl_cons (o := 8) (o' := 9) r8 (by kernel_rfl) (rtl_cons (o := 9) (o' := 10) r9 (by kernel_rfl) (rtl_nil (hl.trans (by kernel_rfl))))))))))))⟩
theorem arg_48 : ArgOk Tryz.prog 48 (fun x => A_SInputs x) wf_SInputs := arg_struct Tryz.underlying48 reads_48 (fun _ => rfl)
theorem arg_3 : ArgOk Tryz.prog 3 (fun x => .t (tI x)) (fun n => (Lit.int .i64 n).wf = true) := arg_int Tryz.underlying3 reads_3 (fun _ => rfl) (fun _ => rfl)
end Go.Proofs.YtalanclpiojanaaGreat
namespace Go.Pv
open Go.RowKit
theorem getI_get {α : Type} (l : List α) (i : Nat) (h : i < l.length) : getI l (i : Int) = some l[i] := by rw [getI_nat, List.getElem?_eq_getElem h]
theorem appendM_ok {α : Type} (l r : List α) (h : l.length + r.length ≤ 1073741824) : appendM l r = some (l ++ r) := by
  unfold appendM; rw [if_pos h]
end Go.Pv
set_option linter.unusedSimpArgs false
namespace Go.Pv
open Go
section
variable {α β : Type}
/-! Ranges change places. -/
/-! Rotation. -/
end
section
variable {α : Type} {D : α → Prop} {g : α → α → Option Int}
/-- What is asked of a comparison on what D holds: it answers; less is a strict weak order. -/
structure SW (D : α → Prop) (g : α → α → Option Int) : Prop where
  ans : ∀ x y, D x → D y → ∃ c, g x y = some c
  asym : ∀ x y, D x → D y → ltM g x y = true → ltM g y x = false
  ntrans : ∀ x y z, D x → D y → D z → ltM g x y = false → ltM g y z = false → ltM g x z = false
theorem SW.cmp (h : SW D g) {x y : α} (hx : D x) (hy : D y) : ∃ c, g x y = some c ∧ decide (c < 0) = ltM g x y := by
  obtain ⟨c, hc⟩ := h.ans x y hx hy
  exact ⟨c, hc, by unfold ltM; rw [hc]; rfl⟩
abbrev AllD (D : α → Prop) (l : List α) : Prop := ∀ x ∈ l, D x
def eqv (g : α → α → Option Int) (x y : α) : Bool := !ltM g x y && !ltM g y x
/-- The same elements; those that are alike in their order. -/
structure Sta (D : α → Prop) (g : α → α → Option Int) (l r : List α) : Prop where
  perm : r.Perm l
  same : ∀ x, D x → r.filter (eqv g x) = l.filter (eqv g x)
theorem Sta.refl (l : List α) : Sta D g l l := ⟨.refl _, fun _ _ => rfl⟩
theorem Sta.trans {l r s : List α} (h : Sta D g l r) (k : Sta D g r s) : Sta D g l s := ⟨k.perm.trans h.perm, fun x hx => (k.same x hx).trans (h.same x hx)⟩
theorem Sta.len {l r : List α} (h : Sta D g l r) : r.length = l.length := h.perm.length_eq
theorem Sta.all {l r : List α} (h : Sta D g l r) (hl : AllD D l) : AllD D r := fun x hx => hl x (h.perm.mem_iff.1 hx)
/-! Insertion. -/
/-! A search by halves. -/
end
section
variable {α : Type} {D : α → Prop} {g : α → α → Option Int}
end
section
variable {α : Type} {D : α → Prop} {g : α → α → Option Int}
end
section
variable {α : Type} {D : α → Prop} {g : α → α → Option Int}
/-! The blocks. -/
end
end Go.Pv
set_option linter.unusedSimpArgs false
namespace Go.Pv
open Go
def elB (n : Int) : Bool := decide (n ≥ -1073741824) && decide (n ≤ 1073741824)
theorem element_eq (n : Int) : surface_element n = some (elB n) := rfl
theorem far_eq (n : Int) : magnetoref06_far n = some (!elB n) := by
  unfold magnetoref06_far elB
  rw [Option.some.injEq, Bool.eq_iff_iff]
  simp only [Bool.or_eq_true, Bool.not_eq_true', Bool.and_eq_false_iff, decide_eq_true_eq, decide_eq_false_iff_not]
  omega
def axP (l : List Int) (i : Nat) : Bool := match l[i]? with
  | none => false
  | some x => elB x && (i == 0 || (match l[i - 1]? with | none => false | some y => decide (y < x)))
def axB (l : List Int) : Bool := !(decide ((l.length : Int) < 2) || decide ((l.length : Int) > 32)) && (List.range' 0 l.length).all (axP l)
theorem w64_pred (k : Nat) (h : k < 1000000) : w64 (((k + 1 : Nat) : Int) - 1) = (k : Int) := by rw [w64_of (by omega) (by omega)]; omega
theorem w64_succ (k : Nat) (h : k < 9000000000000000000) : w64 ((k : Int) + 1) = ((k + 1 : Nat) : Int) := by rw [w64_of (by omega) (by omega)]; omega
theorem obs {α : Type} (o : Option α) : (o.bind fun b => some b) = o := by cases o <;> rfl
theorem axis_step (l : List Int) (j : Nat) (hj : j < l.length) (hl : l.length ≤ 32) :
    (Option.bind (getI l j) fun x => Option.bind (surface_element x) fun v => Option.bind (bif (!v) then (some true) else (Option.bind (bif (decide ((j : Int) > 0)) then (Option.bind (getI l (w64 (j - 1))) fun x2 => some (decide (x ≤ x2))) else (some false)) fun b2 => some b2)) fun b3 => some b3) = some (!axP l j) := by
  rw [getI_nat, List.getElem?_eq_getElem hj]
  simp only [Option.bind_some, element_eq]
  unfold axP
  rw [List.getElem?_eq_getElem hj]
  simp only
  cases elB l[j]
  · rfl
  · simp only [Bool.not_true, cond_false, Bool.true_and]
    cases j with
    | zero => rfl
    | succ k =>
      have e : decide (((k + 1 : Nat) : Int) > 0) = true := by rw [decide_eq_true_eq]; omega
      have hk : k < l.length := by omega
      rw [e, w64_pred k (by omega), getI_nat, List.getElem?_eq_getElem hk]
      simp only [cond_true, Option.bind_some, Nat.add_sub_cancel, List.getElem?_eq_getElem hk, Option.some.injEq]
      rw [Bool.eq_iff_iff]
      simp
theorem axis_eq (l : List Int) : surface_axis l = some (axB l) := by
  unfold surface_axis axB
  cases h : (decide ((l.length : Int) < 2) || decide ((l.length : Int) > 32))
  · have hl : l.length ≤ 32 := by simp at h; omega
    have k := stepsN_all (f := surface_axis_b1 l) (p := axP l) (r := false) l.length 0 (fun j _ hj => by
      have s := axis_step l j (by omega) hl
      unfold surface_axis_b1
      rw [getI_nat, List.getElem?_eq_getElem (by omega)] at s ⊢
      simp only [Option.bind_some, element_eq] at s ⊢
      simp only [obs] at s ⊢
      rw [s]
      cases axP l j <;> rfl)
    rw [rangeN_steps _ (by omega)]
    rw [show ((0 : Nat) : Int) = 0 from rfl] at k
    rw [k]
    cases (List.range' 0 l.length).all (axP l) <;> rfl
  · rfl
theorem refAxis_eq (l : List Int) : magnetoref06_Axis l = some (axB l) := by
  unfold magnetoref06_Axis axB
  cases h : (decide ((l.length : Int) < 2) || decide ((l.length : Int) > 32))
  · have hl : l.length ≤ 32 := by simp at h; omega
    have k := loopM_all (mb := magnetoref06_Axis_b1 l) (fun i => (i : Int)) (p := axP l) (b0 := .inl (l.length : Int)) (b1 := .inr false) l.length (by simp [magnetoref06_Axis_b1]) (fun j hj => by
      have s := axis_step l j (by omega) hl
      unfold magnetoref06_Axis_b1
      have e : decide ((j : Int) < (l.length : Int)) = true := by simp; omega
      rw [e]
      rw [getI_nat, List.getElem?_eq_getElem (by omega)] at s ⊢
      simp only [Option.bind_some, element_eq, far_eq, cond_true] at s ⊢
      simp only [obs] at s ⊢
      rw [s, w64_succ j (by omega)]
      cases axP l j <;> rfl)
    rw [show ((0 : Nat) : Int) = 0 from rfl] at k
    rw [k]
    cases (List.range' 0 l.length).all (axP l) <;> rfl
  · rfl
theorem valid1_eq (z : Int) : surface_Valid_1 z = some (!elB z) := rfl
theorem contains_eq (l : List Int) (hn : l.length ≤ 9223372036854775807) : slices_ContainsFunc_sint l surface_Valid_1 = some (l.any fun z => !elB z) :=
  index_any l hn surface_Valid_1 _ (fun y _ => valid1_eq y)
def rowB (m : SMap) (x : List Int) : Bool := !((x.length : Int) != (m.Y.length : Int)) && !(x.any fun z => !elB z)
def mapB (m : SMap) : Bool := axB m.X && axB m.Y && !((m.Z.length : Int) != (m.X.length : Int)) && m.Z.all (rowB m)
theorem axB_len {l : List Int} (h : axB l = true) : 2 ≤ l.length ∧ l.length ≤ 32 := by
  unfold axB at h
  simp at h
  omega
theorem valid_eq (m : SMap) : surface_Valid m = some (mapB m) := by
  unfold surface_Valid mapB
  rw [axis_eq, axis_eq]
  simp only [Option.bind_some]
  cases h1 : axB m.X
  · rfl
  · cases h2 : axB m.Y
    · rfl
    · have l1 := axB_len h1
      have l2 := axB_len h2
      simp only [Bool.not_true, cond_false, Option.bind_some, Bool.false_or, Bool.and_true, Bool.true_and]
      cases h3 : ((m.Z.length : Int) != (m.X.length : Int))
      · have l3 : m.Z.length = m.X.length := by simp at h3; omega
        rw [rangeM_steps _ (by omega), stepsL_all (p := rowB m) (r := false)]
        · simp only [cond_false, Bool.not_false, Bool.true_and, Option.bind_some]
          cases m.Z.all (rowB m) <;> rfl
        · intro i y hy
          unfold surface_Valid_b1 rowB
          cases h4 : ((y.length : Int) != (m.Y.length : Int))
          · have l4 : y.length = m.Y.length := by simp at h4; omega
            rw [contains_eq y (by omega)]
            simp only [cond_false, Option.bind_some, Bool.not_false, Bool.true_and]
            cases (y.any fun z => !elB z) <;> rfl
          · rfl
      · rfl
theorem refValid_eq (m : SMap) : magnetoref06_Valid m = some (mapB m) := by
  unfold magnetoref06_Valid mapB
  rw [refAxis_eq, refAxis_eq]
  simp only [Option.bind_some]
  cases h1 : axB m.X
  · rfl
  · cases h2 : axB m.Y
    · rfl
    · have l1 := axB_len h1
      have l2 := axB_len h2
      simp only [Bool.not_true, cond_false, Option.bind_some, Bool.false_or, Bool.and_true, Bool.true_and]
      cases h3 : ((m.Z.length : Int) != (m.X.length : Int))
      · have l3 : m.Z.length = m.X.length := by simp at h3; omega
        have k := loopM_allL (mb := magnetoref06_Valid_b1 m) (fun i => (i : Int)) (p := rowB m) (b0 := .inl (m.Z.length : Int)) (b1 := .inr false) m.Z (by simp [magnetoref06_Valid_b1]) (fun j y hy => by
          have hj := (List.getElem?_eq_some_iff.1 hy).1
          unfold magnetoref06_Valid_b1 rowB
          have e : decide ((j : Int) < (m.Z.length : Int)) = true := by simp; omega
          rw [e, getI_nat, hy]
          simp only [Option.bind_some, cond_true]
          cases h4 : ((y.length : Int) != (m.Y.length : Int))
          · have l4 : y.length = m.Y.length := by simp at h4; omega
            have k2 := loopM_allL (mb := magnetoref06_Valid_b2 m y) (fun i => (i : Int)) (p := elB) (b0 := .inl (y.length : Int)) (b1 := .inr false) y (by simp [magnetoref06_Valid_b2, l4]) (fun i x hx => by
              have hi := (List.getElem?_eq_some_iff.1 hx).1
              unfold magnetoref06_Valid_b2
              have e : decide ((i : Int) < (m.Y.length : Int)) = true := by simp; omega
              rw [e, getI_nat, hx]
              simp only [Option.bind_some, cond_true, far_eq]
              rw [w64_succ i (by omega)]
              cases elB x <;> rfl)
            rw [show ((0 : Nat) : Int) = 0 from rfl] at k2
            rw [k2, w64_succ j (by omega)]
            have e2 : (y.any fun z => !elB z) = !y.all elB := by rw [List.any_eq_not_all_not]; simp
            rw [e2]
            cases y.all elB <;> rfl
          · rfl)
        rw [show ((0 : Nat) : Int) = 0 from rfl] at k
        rw [k]
        simp only [cond_false, Bool.not_false, Bool.true_and, Option.bind_some]
        cases m.Z.all (rowB m) <;> rfl
      · rfl
end Go.Pv
set_option linter.unusedSimpArgs false
namespace Go.Pv
open Go
/-- What an axis is. -/
structure Axis (l : List Int) : Prop where
  two : 2 ≤ l.length
  most : l.length ≤ 32
  el : ∀ i (h : i < l.length), -1073741824 ≤ l[i] ∧ l[i] ≤ 1073741824
  asc : ∀ i (h : i + 1 < l.length), l[i] < l[i + 1]
theorem axis_of {l : List Int} (h : axB l = true) : Axis l := by
  obtain ⟨h2, h3⟩ := axB_len h
  unfold axB at h
  rw [Bool.and_eq_true, List.all_eq_true] at h
  have hp : ∀ i (hi : i < l.length), axP l i = true := fun i hi => h.2 i (by rw [List.mem_range']; exact ⟨i, hi, by omega⟩)
  refine ⟨h2, h3, fun i hi => ?_, fun i hi => ?_⟩
  · have := hp i hi
    unfold axP at this
    rw [List.getElem?_eq_getElem hi] at this
    simp [elB] at this
    omega
  · have := hp (i + 1) hi
    unfold axP at this
    rw [List.getElem?_eq_getElem hi, Nat.add_sub_cancel, List.getElem?_eq_getElem (by omega : i < l.length)] at this
    simp at this
    exact this.2
theorem Axis.lt {l : List Int} (h : Axis l) : ∀ (j i : Nat) (hj : j < l.length) (hi : i < j), l[i] < l[j]
  | 0, _, _, hi => absurd hi (by omega)
  | j + 1, i, hj, hi => by
    rcases Nat.lt_or_ge i j with h1 | h1
    · exact Int.lt_trans (h.lt j i (by omega) h1) (h.asc j hj)
    · have : i = j := by omega
      subst this
      exact h.asc i hj
theorem Axis.le {l : List Int} (h : Axis l) (j i : Nat) (hj : j < l.length) (hi : i ≤ j) : l[i] ≤ l[j] := by
  rcases Nat.lt_or_ge i j with h1 | h1
  · exact Int.le_of_lt (h.lt j i hj h1)
  · have : i = j := by omega
    subst this
    exact Int.le_refl _
def nd (l : List Int) (i : Nat) : Int := l.getD i 0
def zz (m : SMap) (i j : Nat) : Int := (m.Z.getD i []).getD j 0
theorem nd_get {l : List Int} {i : Nat} (h : i < l.length) : nd l i = l[i] := by unfold nd; rw [List.getD_eq_getElem?_getD, List.getElem?_eq_getElem h]; rfl
theorem zz_get {m : SMap} {i j : Nat} (h : i < m.Z.length) (h2 : j < m.Z[i].length) : zz m i j = m.Z[i][j] := by
  unfold zz
  have e : m.Z.getD i [] = m.Z[i] := by rw [List.getD_eq_getElem?_getD, List.getElem?_eq_getElem h]; rfl
  rw [e, List.getD_eq_getElem?_getD, List.getElem?_eq_getElem h2]; rfl
structure MapOk (m : SMap) : Prop where
  x : Axis m.X
  y : Axis m.Y
  zl : m.Z.length = m.X.length
  rl : ∀ i (h : i < m.Z.length), m.Z[i].length = m.Y.length
  el : ∀ i j, i < m.X.length → j < m.Y.length → -1073741824 ≤ zz m i j ∧ zz m i j ≤ 1073741824
theorem mapOk {m : SMap} (h : mapB m = true) : MapOk m := by
  unfold mapB at h
  simp only [Bool.and_eq_true, Bool.not_eq_true', List.all_eq_true] at h
  obtain ⟨⟨⟨hx, hy⟩, hz⟩, hr⟩ := h
  have lz : m.Z.length = m.X.length := by simp at hz; omega
  have len : ∀ r ∈ m.Z, r.length = m.Y.length ∧ ∀ z ∈ r, -1073741824 ≤ z ∧ z ≤ 1073741824 := by
    intro r hrm
    have := hr r hrm
    unfold rowB at this
    simp [elB] at this
    refine ⟨by omega, fun z hz => ?_⟩
    have := this.2 z hz
    omega
  refine ⟨axis_of hx, axis_of hy, lz, fun i hi => (len _ (List.getElem_mem hi)).1, fun i j hi hj => ?_⟩
  have hiz : i < m.Z.length := by omega
  have := len _ (List.getElem_mem hiz)
  have hj' : j < m.Z[i].length := by omega
  rw [zz_get hiz hj']
  exact this.2 _ (List.getElem_mem hj')
theorem axB_iff {l : List Int} : axB l = true ↔ Axis l := by
  refine ⟨axis_of, fun h => ?_⟩
  have h2 := h.two
  have h3 := h.most
  unfold axB
  rw [Bool.and_eq_true, List.all_eq_true]
  refine ⟨by simp; omega, fun i hi => ?_⟩
  rw [List.mem_range'] at hi
  obtain ⟨j, hj, rfl⟩ := hi
  have hj' : 0 + 1 * j = j := by omega
  rw [hj']
  unfold axP
  rw [List.getElem?_eq_getElem hj]
  have e := h.el j hj
  cases j with
  | zero => simp [elB]; omega
  | succ k =>
    have a := h.asc k hj
    rw [Nat.add_sub_cancel, List.getElem?_eq_getElem (by omega : k < l.length)]
    simp [elB]; omega
theorem bool_of_iff {a b : Bool} (h : a = true ↔ b = true) : a = b := Bool.eq_iff_iff.2 h
end Go.Pv
set_option linter.unusedSimpArgs false
namespace Go.Pv
open Go
theorem contains_int (l : List Int) (hn : l.length ≤ 9223372036854775807) (f : Int → Option Bool) (p : Int → Bool) (h : ∀ y ∈ l, f y = some (p y)) : slices_ContainsFunc_sint l f = some (l.any p) :=
  index_any l hn f p h
theorem far_el (n : Int) : curve_far n = some (!elB n) := by
  unfold curve_far elB
  rw [Option.some.injEq, Bool.eq_iff_iff]
  simp only [Bool.or_eq_true, Bool.not_eq_true', Bool.and_eq_false_iff, decide_eq_true_eq, decide_eq_false_iff_not]
  omega
theorem cAxis_eq (l : List Int) : curve_axis l = some (axB l) := by
  unfold curve_axis
  cases h : (decide ((l.length : Int) < 2) || decide ((l.length : Int) > 32))
  · have hl : 2 ≤ l.length ∧ l.length ≤ 32 := by simp at h; omega
    rw [cond_false, contains_int l (by omega) curve_far _ (fun y _ => far_el y)]
    simp only [Option.bind_some]
    cases hf : (l.any fun n => !elB n)
    · have hall : ∀ i (hi : i < l.length), -1073741824 ≤ l[i] ∧ l[i] ≤ 1073741824 := fun i hi => by
        rw [List.any_eq_false] at hf
        have := hf _ (List.getElem_mem hi)
        simp [elB] at this
        omega
      have e : w64 ((l.length : Int) - 1) = ((l.length - 1 : Nat) : Int) := by rw [w64_of (by omega) (by omega)]; omega
      have k := stepsN_all (f := curve_axis_b1 l) (p := fun j => decide (nd l j < nd l (j + 1))) (r := false) (l.length - 1) 0 (fun j _ hj => by
        unfold curve_axis_b1
        rw [w64_of (by omega) (by omega), show (j : Int) + 1 = ((j + 1 : Nat) : Int) from rfl, getI_get l j (by omega), Option.bind_some, getI_get l (j + 1) (by omega), Option.bind_some, nd_get (by omega), nd_get (by omega)]
        by_cases q : l[j] < l[j + 1]
        · rw [decide_eq_true q, decide_eq_false (by omega)]; rfl
        · rw [decide_eq_false q, decide_eq_true (by omega)]; rfl)
      rw [show ((0 : Nat) : Int) = 0 from rfl] at k
      rw [cond_false, e, rangeN_steps _ (by omega), k]
      have : ((List.range' 0 (l.length - 1)).all fun j => decide (nd l j < nd l (j + 1))) = axB l := by
        apply bool_of_iff
        rw [axB_iff, List.all_eq_true]
        constructor
        · intro q
          refine ⟨hl.1, hl.2, hall, fun i hi => ?_⟩
          have := q i (by rw [List.mem_range']; exact ⟨i, by omega, by omega⟩)
          rw [decide_eq_true_eq, nd_get (by omega), nd_get hi] at this
          exact this
        · intro q i hi
          rw [List.mem_range'] at hi
          obtain ⟨j, hj, rfl⟩ := hi
          rw [show 0 + 1 * j = j by omega, decide_eq_true_eq, nd_get (by omega), nd_get (by omega)]
          exact q.asc j (by omega)
      rw [this]
      cases axB l <;> rfl
    · have : axB l = false := by
        cases q : axB l
        · rfl
        · have := (axB_iff.1 q).el
          rw [List.any_eq_true] at hf
          obtain ⟨z, hz, hz2⟩ := hf
          obtain ⟨i, hi, rfl⟩ := List.mem_iff_getElem.1 hz
          have := this i hi
          simp [elB] at hz2
          omega
      rw [this]
      rfl
  · unfold axB
    rw [h]
    rfl
def curB (c : SCurve) : Bool := ((c.X.length : Int) == (c.Y.length : Int)) && axB c.X && !(c.Y.any fun n => !elB n)
theorem curve_valid_eq (c : SCurve) : curve_Valid c = some (curB c) := by
  unfold curve_Valid curB
  cases h : ((c.X.length : Int) == (c.Y.length : Int))
  · rfl
  · rw [cond_true, cAxis_eq]
    simp only [Option.bind_some, Bool.true_and]
    cases h2 : axB c.X
    · rfl
    · have := axB_len h2
      have hl : c.Y.length = c.X.length := by simp at h; omega
      rw [cond_true, contains_int c.Y (by omega) curve_far _ (fun y _ => far_el y)]
      rfl
structure CurOk (c : SCurve) : Prop where
  x : Axis c.X
  yl : c.Y.length = c.X.length
  el : ∀ i, i < c.X.length → -1073741824 ≤ nd c.Y i ∧ nd c.Y i ≤ 1073741824
theorem curOk {c : SCurve} (h : curB c = true) : CurOk c := by
  unfold curB at h
  simp only [Bool.and_eq_true, Bool.not_eq_true', List.any_eq_false] at h
  obtain ⟨⟨h1, h2⟩, h3⟩ := h
  have hl : c.Y.length = c.X.length := by simp at h1; omega
  refine ⟨axis_of h2, hl, fun i hi => ?_⟩
  rw [nd_get (by omega)]
  have := h3 _ (List.getElem_mem (by omega : i < c.Y.length))
  simp [elB] at this
  omega
end Go.Pv
set_option linter.unusedSimpArgs false
namespace Go.Pv
open Go
theorem all_congr {α : Type} {l : List α} {p q : α → Bool} (h : ∀ x ∈ l, p x = q x) : l.all p = l.all q := by
  induction l with
  | nil => rfl
  | cons x l ih => rw [List.all_cons, List.all_cons, h x (List.mem_cons_self ..), ih (fun y hy => h y (List.mem_cons_of_mem _ hy))]
/-- A loop down that leaves at the first number that is bad. -/
theorem down_all {mb : Int → Option (Int ⊕ (Int ⊕ Bool))} (bad : Nat → Bool) : ∀ (k : Nat), (∀ i : Nat, i < k → mb ((i + 1 : Nat) : Int) = some (bif bad i then .inr (.inr false) else .inl (i : Int))) → (∀ i : Int, i ≤ 0 → mb i = some (.inr (.inl i))) →
    ∃ t : Int ⊕ Bool, loopM mb (k : Int) = some t ∧ (match t with | .inl _ => ∀ i, i < k → bad i = false | .inr r => r = false ∧ ∃ i, i < k ∧ bad i = true)
  | 0, _, h0 => ⟨.inl 0, loopM_out (h0 0 (Int.le_refl _)), fun i hi => absurd hi (by omega)⟩
  | k + 1, h, h0 => by
    have h1 := h k (by omega)
    cases hb : bad k
    · rw [hb] at h1
      obtain ⟨t, a, b⟩ := down_all bad k (fun i hi => h i (by omega)) h0
      refine ⟨t, by rw [loopM_next h1]; exact a, ?_⟩
      cases t with
      | inl i =>
        exact fun i hi => by
          rcases Nat.lt_or_ge i k with q | q
          · exact b i q
          · have : i = k := by omega
            subst this; exact hb
      | inr r => exact ⟨b.1, b.2.imp fun i hi => ⟨by omega, hi.2⟩⟩
    · rw [hb] at h1
      exact ⟨.inr false, loopM_out h1, rfl, k, by omega, hb⟩
def ascB (l : List Int) : Bool := (List.range' 0 (l.length - 1)).all fun j => decide (nd l j ≤ nd l (j + 1))
def descB (l : List Int) : Bool := (List.range' 0 (l.length - 1)).all fun j => decide (nd l (j + 1) ≤ nd l j)
theorem range_all {n : Nat} {p : Nat → Bool} : (List.range' 0 n).all p = true ↔ ∀ i, i < n → p i = true := by
  rw [List.all_eq_true]
  constructor
  · exact fun h i hi => h i (by rw [List.mem_range']; exact ⟨i, hi, by omega⟩)
  · intro h i hi
    rw [List.mem_range'] at hi
    obtain ⟨j, hj, rfl⟩ := hi
    rw [show 0 + 1 * j = j by omega]
    exact h j hj
theorem pred_len {l : List Int} (h : l.length ≤ 9223372036854775807) (h0 : 0 < l.length) : w64 ((l.length : Int) - 1) = ((l.length - 1 : Nat) : Int) := by rw [w64_of (by omega) (by omega)]; omega
theorem isSorted_eq (l : List Int) (h : l.length ≤ 9223372036854775807) : slices_IsSorted_sint l = some (ascB l) := by
  have h0 : ∀ i : Int, i ≤ 0 → slices_IsSorted_sint_b1 l i = some (.inr (.inl i)) := fun i hi => by
    unfold slices_IsSorted_sint_b1
    rw [decide_eq_false (by omega)]; rfl
  unfold slices_IsSorted_sint
  rcases Nat.eq_zero_or_pos l.length with hz | hz
  · have e : w64 ((l.length : Int) - 1) = -1 := by rw [hz]; decide
    rw [e, loopM_out (h0 (-1) (by omega))]
    unfold ascB
    rw [hz]; rfl
  · rw [pred_len h hz]
    obtain ⟨t, a, b⟩ := down_all (mb := slices_IsSorted_sint_b1 l) (fun i => decide (nd l (i + 1) < nd l i)) (l.length - 1) (fun i hi => by
      unfold slices_IsSorted_sint_b1
      rw [decide_eq_true (by omega), cond_true, getI_get l (i + 1) (by omega), Option.bind_some, w64_of (by omega) (by omega), show ((i + 1 : Nat) : Int) - 1 = (i : Int) by omega, getI_get l i (by omega), Option.bind_some, nd_get (by omega), nd_get (by omega)]
      have e : cmp_Less_int l[i + 1] l[i] = some (decide (l[i + 1] < l[i])) := by
        unfold cmp_Less_int cmp_isNaN_int
        simp
      rw [e, Option.bind_some]
      cases decide (l[i + 1] < l[i]) <;> rfl) h0
    rw [a]
    cases t with
    | inl i =>
      have : ascB l = true := range_all.2 fun i hi => by
        have := b i hi
        rw [decide_eq_false_iff_not] at this
        rw [decide_eq_true_eq]; omega
      rw [this]; rfl
    | inr r =>
      obtain ⟨rfl, i, hi, q⟩ := b
      have : ascB l = false := by
        cases z : ascB l
        · rfl
        · have := range_all.1 z i hi
          rw [decide_eq_true_eq] at this q
          omega
      rw [this]; rfl
theorem isDesc_eq (l : List Int) (h : l.length ≤ 9223372036854775807) (hb : ∀ i, i < l.length → -1073741824 ≤ nd l i ∧ nd l i ≤ 1073741824) : slices_IsSortedFunc_sint l torque_Valid_1 = some (descB l) := by
  have h0 : ∀ i : Int, i ≤ 0 → slices_IsSortedFunc_sint_b1 l torque_Valid_1 i = some (.inr (.inl i)) := fun i hi => by
    unfold slices_IsSortedFunc_sint_b1
    rw [decide_eq_false (by omega)]; rfl
  unfold slices_IsSortedFunc_sint
  rcases Nat.eq_zero_or_pos l.length with hz | hz
  · have e : w64 ((l.length : Int) - 1) = -1 := by rw [hz]; decide
    rw [e, loopM_out (h0 (-1) (by omega))]
    unfold descB
    rw [hz]; rfl
  · rw [pred_len h hz]
    obtain ⟨t, a, b⟩ := down_all (mb := slices_IsSortedFunc_sint_b1 l torque_Valid_1) (fun i => decide (nd l i < nd l (i + 1))) (l.length - 1) (fun i hi => by
      unfold slices_IsSortedFunc_sint_b1
      rw [decide_eq_true (by omega), cond_true, getI_get l (i + 1) (by omega), Option.bind_some, w64_of (by omega) (by omega), show ((i + 1 : Nat) : Int) - 1 = (i : Int) by omega, getI_get l i (by omega), Option.bind_some, ← nd_get (by omega), ← nd_get (by omega)]
      have b1 := hb i (by omega)
      have b2 := hb (i + 1) (by omega)
      have e : torque_Valid_1 (nd l (i + 1)) (nd l i) = some (nd l i - nd l (i + 1)) := by
        unfold torque_Valid_1
        rw [w64_of (by omega) (by omega)]
      rw [e, Option.bind_some]
      by_cases q : nd l i < nd l (i + 1)
      · rw [decide_eq_true q, decide_eq_true (by omega)]; rfl
      · rw [decide_eq_false q, decide_eq_false (by omega)]; rfl) h0
    rw [a]
    cases t with
    | inl i =>
      have : descB l = true := range_all.2 fun i hi => by
        have := b i hi
        rw [decide_eq_false_iff_not] at this
        rw [decide_eq_true_eq]; omega
      rw [this]; rfl
    | inr r =>
      obtain ⟨rfl, i, hi, q⟩ := b
      have : descB l = false := by
        cases z : descB l
        · rfl
        · have := range_all.1 z i hi
          rw [decide_eq_true_eq] at this q
          omega
      rw [this]; rfl
def inR (lo hi x : Int) : Bool := decide (x ≥ lo) && decide (x ≤ hi)
theorem outside_eq (l : List Int) (h : l.length ≤ 9223372036854775807) (lo hi : Int) : torque_outside l lo hi = some (!l.all (inR lo hi)) := by
  unfold torque_outside
  rw [contains_int l h (fun x0 => torque_outside_1 x0 lo hi) (fun x => !inR lo hi x) (fun y _ => rfl)]
  have : (l.any fun x => !inR lo hi x) = !l.all (inR lo hi) := by rw [List.any_eq_not_all_not]; simp
  rw [this]; rfl
def torB (t : STables) : Bool := mapB t.Torque && curB t.Efficiency && t.Efficiency.Y.all (inR 0 1000) && descB t.Efficiency.Y && t.Torque.Z.all fun r => r.all (inR 0 10000) && ascB r
theorem torque_valid_eq (t : STables) : torque_Valid t = some (torB t) := by
  unfold torque_Valid torB
  rw [valid_eq]
  cases h1 : mapB t.Torque
  · rfl
  · have hm := mapOk h1
    simp only [Option.bind_some, Bool.not_true, cond_false, Bool.true_and, curve_valid_eq]
    cases h2 : curB t.Efficiency
    · rfl
    · have hc := curOk h2
      have l1 := hc.x.most
      have l2 := hc.yl
      simp only [Option.bind_some, Bool.not_true, cond_false, Bool.true_and]
      rw [outside_eq _ (by omega)]
      cases h3 : t.Efficiency.Y.all (inR 0 1000)
      · rfl
      · simp only [Option.bind_some, Bool.not_true, cond_false, Bool.true_and]
        rw [isDesc_eq _ (by omega) (fun i hi => hc.el i (by omega))]
        cases h4 : descB t.Efficiency.Y
        · rfl
        · simp only [Option.bind_some, Bool.not_true, cond_false, Bool.true_and]
          have k : slices_ContainsFunc_ssint t.Torque.Z torque_Valid_2 = some (t.Torque.Z.any fun r => !(r.all (inR 0 10000) && ascB r)) :=
            index_any t.Torque.Z (by have := hm.zl; have := hm.x.most; omega) torque_Valid_2 _ (fun r hr => by
              obtain ⟨i, hi, rfl⟩ := List.mem_iff_getElem.1 hr
              have lr : t.Torque.Z[i].length ≤ 32 := by rw [hm.rl i hi]; exact hm.y.most
              unfold torque_Valid_2
              rw [outside_eq _ (by omega), Option.bind_some, isSorted_eq _ (by omega)]
              cases t.Torque.Z[i].all (inR 0 10000) <;> cases ascB t.Torque.Z[i] <;> rfl)
          rw [k, Option.bind_some, List.any_eq_not_all_not]
          simp
end Go.Pv
set_option linter.unusedSimpArgs false
namespace Go.Pv
open Go
theorem fits_eq (n : Int) : magnetoref05_Fits n = some (elB n) := rfl
theorem ref05Axis_eq (l : List Int) : magnetoref05_Axis l = some (axB l) := by
  unfold magnetoref05_Axis axB
  cases h : (decide ((l.length : Int) < 2) || decide ((l.length : Int) > 32))
  · have hl : l.length ≤ 32 := by simp at h; omega
    have k := loopM_all (mb := magnetoref05_Axis_b1 l) (fun i => (i : Int)) (p := axP l) (b0 := .inl (l.length : Int)) (b1 := .inr false) l.length (by simp [magnetoref05_Axis_b1]) (fun j hj => by
      have s := axis_step l j (by omega) hl
      unfold magnetoref05_Axis_b1
      have e : decide ((j : Int) < (l.length : Int)) = true := by simp; omega
      rw [e]
      rw [getI_nat, List.getElem?_eq_getElem (by omega)] at s ⊢
      simp only [Option.bind_some, element_eq, fits_eq, cond_true] at s ⊢
      simp only [obs] at s ⊢
      rw [s, w64_succ j (by omega)]
      cases axP l j <;> rfl)
    rw [show ((0 : Nat) : Int) = 0 from rfl] at k
    rw [k]
    cases (List.range' 0 l.length).all (axP l) <;> rfl
  · rfl
theorem any_not_el (l : List Int) : (!(l.any fun n => !elB n)) = l.all elB := by
  rw [List.any_eq_not_all_not, Bool.not_not]
  exact all_congr fun x _ => by rw [Bool.not_not]
/-- A loop up over a list that leaves at the first element that is bad. -/
theorem up_all {α : Type} {mb : Int → Option (Int ⊕ (Int ⊕ Bool))} (p : α → Bool) (l : List α) (hend : mb (l.length : Int) = some (.inr (.inl (l.length : Int))))
    (h : ∀ (k : Nat) (hk : k < l.length), mb (k : Int) = some (bif p l[k] then .inl ((k + 1 : Nat) : Int) else .inr (.inr false))) :
    loopM mb 0 = some (bif l.all p then .inl (l.length : Int) else .inr false) := by
  have k := loopM_allL (mb := mb) (fun i => (i : Int)) (p := p) (b0 := .inl (l.length : Int)) (b1 := .inr false) l hend (fun k y hy => by
    obtain ⟨hk, rfl⟩ := List.getElem?_eq_some_iff.1 hy
    exact h k hk)
  rw [show ((0 : Nat) : Int) = 0 from rfl] at k
  rw [k]
theorem up_idx {mb : Int → Option (Int ⊕ (Int ⊕ Bool))} (p : Nat → Bool) (n : Nat) (hend : mb (n : Int) = some (.inr (.inl (n : Int))))
    (h : ∀ k, k < n → mb (k : Int) = some (bif p k then .inl ((k + 1 : Nat) : Int) else .inr (.inr false))) :
    loopM mb 0 = some (bif (List.range' 0 n).all p then .inl (n : Int) else .inr false) := by
  have k := loopM_all (mb := mb) (fun i => (i : Int)) (p := p) (b0 := .inl (n : Int)) (b1 := .inr false) n hend h
  rw [show ((0 : Nat) : Int) = 0 from rfl] at k
  rw [k]
theorem ltN {k n : Nat} (h : k < n) : decide ((k : Int) < (n : Int)) = true := by rw [decide_eq_true_eq]; omega
theorem ltNN (n : Nat) : decide ((n : Int) < (n : Int)) = false := by rw [decide_eq_false_iff_not]; omega
theorem ref05_valid_eq (c : SCurve) : magnetoref05_Valid c = some (curB c) := by
  unfold magnetoref05_Valid curB
  rw [ref05Axis_eq, Option.bind_some]
  cases h : axB c.X
  · rw [Bool.and_false, Bool.false_and]; rfl
  · have hx := axB_len h
    cases h2 : ((c.X.length : Int) == (c.Y.length : Int))
    · have : ((c.Y.length : Int) != (c.X.length : Int)) = true := by simp at h2 ⊢; omega
      rw [this]; rfl
    · have hl : c.Y.length = c.X.length := by simp at h2; omega
      have : ((c.Y.length : Int) != (c.X.length : Int)) = false := by simp; omega
      rw [this, Bool.not_true, Bool.or_false, cond_false, up_all elB c.Y (by unfold magnetoref05_Valid_b1; rw [ltNN]; rfl) (fun k hk => by
        unfold magnetoref05_Valid_b1
        rw [ltN hk, cond_true, getI_get _ k hk, Option.bind_some, fits_eq, Option.bind_some, w64_succ k (by omega)]
        cases elB c.Y[k] <;> rfl), any_not_el]
      cases c.Y.all elB <;> rfl
theorem asc_le {l : List Int} (h : ascB l = true) : ∀ (j i : Nat), i ≤ j → j < l.length → nd l i ≤ nd l j
  | 0, i, hi, _ => by have : i = 0 := by omega
                      subst this; exact Int.le_refl _
  | j + 1, i, hi, hj => by
    rcases Nat.lt_or_ge i (j + 1) with q | q
    · have a := asc_le h j i (by omega) (by omega)
      have b := range_all.1 h j (by omega)
      rw [decide_eq_true_eq] at b
      omega
    · have : i = j + 1 := by omega
      subst this; exact Int.le_refl _
/-- Element by element: in a range, and not less than the one before. -/
theorem steps_asc (l : List Int) (q : Int → Bool) : ((List.range' 0 l.length).all fun j => q (nd l j) && (decide (j = 0) || decide (nd l (j - 1) ≤ nd l j))) = (l.all q && ascB l) := by
  apply bool_of_iff
  rw [range_all, Bool.and_eq_true]
  unfold ascB
  rw [range_all, List.all_eq_true]
  constructor
  · intro h
    refine ⟨fun x hx => ?_, fun i hi => ?_⟩
    · obtain ⟨i, hi, rfl⟩ := List.mem_iff_getElem.1 hx
      have := h i hi
      rw [Bool.and_eq_true, nd_get hi] at this
      exact this.1
    · have := h (i + 1) (by omega)
      rw [Bool.and_eq_true, Bool.or_eq_true, decide_eq_true_eq] at this
      rcases this.2 with z | z
      · omega
      · exact z
  · rintro ⟨a, b⟩ i hi
    rw [Bool.and_eq_true, Bool.or_eq_true, decide_eq_true_eq]
    refine ⟨by rw [nd_get hi]; exact a _ (List.getElem_mem hi), ?_⟩
    cases i with
    | zero => exact .inl rfl
    | succ i => exact .inr (b i (by omega))
def airRow (r : List Int) : Bool := r.all (inR 0 1048576) && ascB r
def airB (t : STables) : Bool := mapB t.Air && curB t.AirTemp && t.Air.Z.all airRow && t.AirTemp.Y.all (inR 100 3000)
theorem air_between_eq (x lo hi : Int) : air_between x lo hi = some (inR lo hi x) := rfl
theorem ref29_in_eq (x lo hi : Int) : magnetoref29_in x lo hi = some (inR lo hi x) := rfl
theorem airRow_ends {r : List Int} (h0 : 0 < r.length) (ha : ascB r = true) : (inR 0 1048576 (nd r 0) && inR 0 1048576 (nd r (r.length - 1))) = r.all (inR 0 1048576) := by
  apply bool_of_iff
  rw [Bool.and_eq_true, List.all_eq_true]
  unfold inR
  constructor
  · rintro ⟨a, b⟩ x hx
    obtain ⟨i, hi, rfl⟩ := List.mem_iff_getElem.1 hx
    have u := asc_le ha i 0 (by omega) hi
    have v := asc_le ha (r.length - 1) i (by omega) (by omega)
    rw [nd_get hi] at u v
    rw [Bool.and_eq_true, decide_eq_true_eq, decide_eq_true_eq] at *
    omega
  · intro h
    rw [nd_get h0, nd_get (by omega : r.length - 1 < r.length)]
    exact ⟨h _ (List.getElem_mem _), h _ (List.getElem_mem _)⟩
theorem air_valid_eq (t : STables) : air_Valid t = some (airB t) := by
  unfold air_Valid airB
  rw [valid_eq]
  cases h1 : mapB t.Air
  · rfl
  · have hm := mapOk h1
    simp only [Option.bind_some, Bool.not_true, cond_false, Bool.true_and, curve_valid_eq]
    cases h2 : curB t.AirTemp
    · rfl
    · have hc := curOk h2
      have l1 := hc.x.most
      have l2 := hc.yl
      have zl := hm.zl
      have xm := hm.x.most
      have ym := hm.y.most
      have y2 := hm.y.two
      simp only [Option.bind_some, Bool.not_true, cond_false, Bool.true_and]
      rw [rangeM_steps _ (by omega), stepsL_all (p := airRow) (r := false)]
      · cases h3 : t.Air.Z.all airRow
        · rfl
        · rw [cond_true, Option.bind_some]
          simp only
          rw [contains_int _ (by omega) air_Valid_1 (fun y => !inR 100 3000 y) (fun y _ => rfl), Option.bind_some, List.any_eq_not_all_not, Bool.not_not]
          simp only [Bool.not_not, Bool.true_and]
      · intro i r hr
        obtain ⟨k, hk, rfl⟩ := List.mem_iff_getElem.1 hr
        have rl := hm.rl k hk
        unfold air_Valid_b1 airRow
        rw [isSorted_eq _ (by omega), Option.bind_some]
        cases h4 : ascB t.Air.Z[k]
        · rw [Bool.and_false]; rfl
        · have g0 : getI t.Air.Z[k] 0 = some (t.Air.Z[k][0]'(by omega)) := getI_get _ 0 (by omega)
          rw [Bool.not_true, cond_false, Bool.and_true, g0, pred_len (by omega) (by omega), getI_get _ _ (by omega : t.Air.Z[k].length - 1 < t.Air.Z[k].length), ← nd_get, ← nd_get, ← airRow_ends (by omega) h4]
          simp only [Option.bind_some, air_between_eq]
          cases inR 0 1048576 (nd t.Air.Z[k] 0) <;> cases inR 0 1048576 (nd t.Air.Z[k] (t.Air.Z[k].length - 1)) <;> rfl
/-- One row, element by element. -/
theorem row_loop {mb : Int → Option (Int ⊕ (Int ⊕ Bool))} (r : List Int) (q : Int → Bool) (hend : mb (r.length : Int) = some (.inr (.inl (r.length : Int))))
    (h : ∀ k, k < r.length → mb (k : Int) = some (bif q (nd r k) && (decide (k = 0) || decide (nd r (k - 1) ≤ nd r k)) then .inl ((k + 1 : Nat) : Int) else .inr (.inr false))) :
    loopM mb 0 = some (bif r.all q && ascB r then .inl (r.length : Int) else .inr false) := by
  rw [up_idx (fun k => q (nd r k) && (decide (k = 0) || decide (nd r (k - 1) ≤ nd r k))) r.length hend h, steps_asc]
theorem prevB (r : List Int) (k : Nat) (hk : k < r.length) (hl : r.length ≤ 1000) (y : Int) (hy : y = nd r k) :
    (bif (decide ((k : Int) > 0)) then (Option.bind (getI r (w64 (k - 1))) fun x3 => some (decide (y < x3))) else (some false)) = some (!(decide (k = 0) || decide (nd r (k - 1) ≤ nd r k))) := by
  subst hy
  cases k with
  | zero => rfl
  | succ k =>
    rw [decide_eq_true (by omega), cond_true, w64_pred k (by omega), getI_get r k (by omega), Option.bind_some, ← nd_get, decide_eq_false (by omega : ¬ k + 1 = 0), Bool.false_or, Nat.add_sub_cancel]
    by_cases q : nd r k ≤ nd r (k + 1)
    · rw [decide_eq_true q, decide_eq_false (by omega)]; rfl
    · rw [decide_eq_false q, decide_eq_true (by omega)]; rfl
theorem ref29_valid_eq (t : STables) : magnetoref29_Valid t = some (airB t) := by
  unfold magnetoref29_Valid airB
  rw [refValid_eq]
  cases h1 : mapB t.Air
  · rfl
  · have hm := mapOk h1
    simp only [Option.bind_some, Bool.not_true, cond_false, Bool.true_and, ref05_valid_eq]
    cases h2 : curB t.AirTemp
    · rfl
    · have hc := curOk h2
      have l1 := hc.x.most
      have l2 := hc.yl
      have zl := hm.zl
      have xm := hm.x.most
      have ym := hm.y.most
      simp only [Option.bind_some, Bool.not_true, cond_false, Bool.true_and]
      rw [up_all airRow t.Air.Z (by unfold magnetoref29_Valid_b1; rw [ltNN]; rfl) (fun k hk => by
        have rl := hm.rl k hk
        unfold magnetoref29_Valid_b1 airRow
        rw [ltN hk, cond_true, row_loop t.Air.Z[k] (inR 0 1048576) (by unfold magnetoref29_Valid_b2; rw [getI_get _ k hk, Option.bind_some, ltNN]; rfl) (fun j hj => by
          unfold magnetoref29_Valid_b2
          rw [getI_get _ k hk, Option.bind_some, ltN hj, cond_true, getI_get _ j hj, Option.bind_some, ← nd_get hj, ref29_in_eq, Option.bind_some, prevB _ j hj (by omega) _ rfl, w64_succ j (by omega)]
          cases inR 0 1048576 (nd t.Air.Z[k] j)
          · rfl
          · cases (decide (j = 0) || decide (nd t.Air.Z[k] (j - 1) ≤ nd t.Air.Z[k] j)) <;> rfl), w64_succ k (by omega)]
        cases (t.Air.Z[k].all (inR 0 1048576) && ascB t.Air.Z[k]) <;> rfl)]
      cases h3 : t.Air.Z.all airRow
      · rfl
      · rw [cond_true, Option.bind_some]
        simp only
        rw [up_all (inR 100 3000) t.AirTemp.Y (by unfold magnetoref29_Valid_b3; rw [ltNN]; rfl) (fun k hk => by
          unfold magnetoref29_Valid_b3
          rw [ltN hk, cond_true, getI_get _ k hk, Option.bind_some, ref29_in_eq, Option.bind_some, w64_succ k (by omega)]
          cases inR 100 3000 t.AirTemp.Y[k] <;> rfl)]
        cases t.AirTemp.Y.all (inR 100 3000) <;> rfl
def sparkB (t : STables) : Bool := mapB t.Spark && curB t.Dwell && (t.Spark.Z.all fun r => r.all (inR (-1280) 3840)) && t.Dwell.Y.all (inR 500 10000)
theorem r38_between (x lo hi : Int) : magnetoref38_between x lo hi = some (inR lo hi x) := rfl
theorem ref38_spark_eq (t : STables) : magnetoref38_spark t = some (sparkB t) := by
  unfold magnetoref38_spark sparkB
  rw [refValid_eq]
  cases h1 : mapB t.Spark
  · rfl
  · have hm := mapOk h1
    simp only [Option.bind_some, Bool.not_true, cond_false, Bool.true_and, ref05_valid_eq]
    cases h2 : curB t.Dwell
    · rfl
    · have hc := curOk h2
      have l1 := hc.x.most
      have l2 := hc.yl
      have zl := hm.zl
      have xm := hm.x.most
      have ym := hm.y.most
      simp only [Option.bind_some, Bool.not_true, cond_false, Bool.true_and]
      rw [up_all (fun r => r.all (inR (-1280) 3840)) t.Spark.Z (by unfold magnetoref38_spark_b1; rw [ltNN]; rfl) (fun k hk => by
        have rl := hm.rl k hk
        unfold magnetoref38_spark_b1
        rw [ltN hk, cond_true, up_all (inR (-1280) 3840) t.Spark.Z[k] (by unfold magnetoref38_spark_b2; rw [getI_get _ k hk, Option.bind_some, ltNN]; rfl) (fun j hj => by
          unfold magnetoref38_spark_b2
          rw [getI_get _ k hk, Option.bind_some, ltN hj, cond_true, getI_get _ j hj, Option.bind_some, r38_between, Option.bind_some, w64_succ j (by omega)]
          cases inR (-1280) 3840 t.Spark.Z[k][j] <;> rfl), w64_succ k (by omega)]
        cases t.Spark.Z[k].all (inR (-1280) 3840) <;> rfl)]
      cases h3 : t.Spark.Z.all fun r => r.all (inR (-1280) 3840)
      · rfl
      · rw [cond_true, Option.bind_some]
        simp only
        rw [up_all (inR 500 10000) t.Dwell.Y (by unfold magnetoref38_spark_b3; rw [ltNN]; rfl) (fun k hk => by
          unfold magnetoref38_spark_b3
          rw [ltN hk, cond_true, getI_get _ k hk, Option.bind_some, r38_between, Option.bind_some, w64_succ k (by omega)]
          cases inR 500 10000 t.Dwell.Y[k] <;> rfl)]
        cases t.Dwell.Y.all (inR 500 10000) <;> rfl
theorem falls_eq (l : List Int) (hl : l.length ≤ 1000) : magnetoref31_Falls l = some (descB l) := by
  have e : l.length - 1 = l.length ∨ l.length - 1 + 1 = l.length := by omega
  have k := loopM_all (mb := magnetoref31_Falls_b1 l) (fun i => ((i + 1 : Nat) : Int)) (p := fun j => decide (nd l (j + 1) ≤ nd l j)) (b0 := .inl ((l.length - 1 + 1 : Nat) : Int)) (b1 := .inr false) (l.length - 1) (by
      unfold magnetoref31_Falls_b1
      rw [decide_eq_false (by omega)]; rfl) (fun j hj => by
      unfold magnetoref31_Falls_b1
      rw [decide_eq_true (by omega), cond_true, getI_get l (j + 1) (by omega), Option.bind_some, w64_pred j (by omega), getI_get l j (by omega), Option.bind_some, w64_succ (j + 1) (by omega), ← nd_get, ← nd_get]
      by_cases q : nd l (j + 1) ≤ nd l j
      · rw [decide_eq_true q, decide_eq_false (by omega)]; rfl
      · rw [decide_eq_false q, decide_eq_true (by omega)]; rfl)
  unfold magnetoref31_Falls
  rw [show ((0 + 1 : Nat) : Int) = 1 from rfl] at k
  rw [k]
  unfold descB
  cases (List.range' 0 (l.length - 1)).all fun j => decide (nd l (j + 1) ≤ nd l j) <;> rfl
theorem all31_eq (l : List Int) (hl : l.length ≤ 1000) (lo hi : Int) : magnetoref31_all l lo hi = some (l.all (inR lo hi)) := by
  unfold magnetoref31_all
  rw [up_all (inR lo hi) l (by unfold magnetoref31_all_b1; rw [ltNN]; rfl) (fun k hk => by
    unfold magnetoref31_all_b1
    rw [ltN hk, cond_true, getI_get _ k hk, Option.bind_some, show magnetoref31_In l[k] lo hi = some (inR lo hi l[k]) from rfl, Option.bind_some, w64_succ k (by omega)]
    cases inR lo hi l[k] <;> rfl)]
  cases l.all (inR lo hi) <;> rfl
theorem ref31_curve_eq (c : SCurve) : magnetoref31_Curve c = some (curB c && descB c.Y && c.Y.all (inR 0 1000)) := by
  unfold magnetoref31_Curve
  rw [ref05_valid_eq]
  cases h : curB c
  · rfl
  · have hc := curOk h
    have l1 := hc.x.most
    have l2 := hc.yl
    simp only [Option.bind_some, cond_true, falls_eq c.Y (by omega), Bool.true_and]
    cases descB c.Y
    · rfl
    · simp only [cond_true, all31_eq c.Y (by omega), Option.bind_some, Bool.true_and]
theorem ref35_valid_eq (t : STables) : magnetoref35_Valid t = some (torB t) := by
  unfold magnetoref35_Valid torB
  rw [refValid_eq]
  cases h1 : mapB t.Torque
  · rfl
  · have hm := mapOk h1
    have zl := hm.zl
    have xm := hm.x.most
    have ym := hm.y.most
    simp only [Option.bind_some, Bool.not_true, cond_false, Bool.true_and, ref31_curve_eq]
    have e : (curB t.Efficiency && descB t.Efficiency.Y && t.Efficiency.Y.all (inR 0 1000)) = (curB t.Efficiency && t.Efficiency.Y.all (inR 0 1000) && descB t.Efficiency.Y) := by
      rw [Bool.and_assoc, Bool.and_assoc, Bool.and_comm (descB _)]
    rw [e]
    cases h2 : (curB t.Efficiency && t.Efficiency.Y.all (inR 0 1000) && descB t.Efficiency.Y)
    · rfl
    · rw [Bool.not_true, cond_false, Bool.true_and, up_all (fun r => r.all (inR 0 10000) && ascB r) t.Torque.Z (by unfold magnetoref35_Valid_b1; rw [ltNN]; rfl) (fun k hk => by
        have rl := hm.rl k hk
        unfold magnetoref35_Valid_b1
        rw [ltN hk, cond_true, row_loop t.Torque.Z[k] (inR 0 10000) (by unfold magnetoref35_Valid_b2; rw [rl, ltNN]; rfl) (fun j hj => by
          unfold magnetoref35_Valid_b2
          rw [decide_eq_true (by omega), cond_true, getI_get _ k hk, Option.bind_some, getI_get _ j hj, Option.bind_some, ← nd_get hj, prevB _ j hj (by omega) _ rfl, w64_succ j (by omega)]
          have : (decide (nd t.Torque.Z[k] j < 0) || decide (nd t.Torque.Z[k] j > 10000)) = !inR 0 10000 (nd t.Torque.Z[k] j) := by
            unfold inR
            apply bool_of_iff
            simp only [Bool.or_eq_true, Bool.not_eq_true', Bool.and_eq_false_iff, decide_eq_true_eq, decide_eq_false_iff_not]
            omega
          rw [this]
          cases inR 0 10000 (nd t.Torque.Z[k] j)
          · rfl
          · cases (decide (j = 0) || decide (nd t.Torque.Z[k] (j - 1) ≤ nd t.Torque.Z[k] j)) <;> rfl), w64_succ k (by omega)]
        cases (t.Torque.Z[k].all (inR 0 10000) && ascB t.Torque.Z[k]) <;> rfl)]
      cases t.Torque.Z.all (fun r => r.all (inR 0 10000) && ascB r) <;> rfl
theorem ref30_dead_eq (t : STables) : magnetoref30_Dead t = some (curB t.Dead && t.Dead.Y.all (inR 0 10000)) := by
  unfold magnetoref30_Dead
  rw [ref05_valid_eq, Option.bind_some]
  cases h : curB t.Dead
  · rfl
  · have hc := curOk h
    have l1 := hc.x.most
    have l2 := hc.yl
    rw [Bool.not_true, cond_false, Bool.true_and, up_all (inR 0 10000) t.Dead.Y (by unfold magnetoref30_Dead_b1; rw [ltNN]; rfl) (fun k hk => by
      unfold magnetoref30_Dead_b1
      rw [ltN hk, cond_true, getI_get _ k hk, Option.bind_some, w64_succ k (by omega)]
      have e : (bif decide (t.Dead.Y[k] < 0) then some true else some (decide (t.Dead.Y[k] > 10000))) = some (!inR 0 10000 t.Dead.Y[k]) := by
        unfold inR
        by_cases a : t.Dead.Y[k] < 0
        · rw [decide_eq_true a, decide_eq_false (by omega : ¬ t.Dead.Y[k] ≥ 0)]; rfl
        · rw [decide_eq_false a, decide_eq_true (by omega : t.Dead.Y[k] ≥ 0)]
          by_cases b : t.Dead.Y[k] > 10000
          · rw [decide_eq_true b, decide_eq_false (by omega : ¬ t.Dead.Y[k] ≤ 10000)]; rfl
          · rw [decide_eq_false b, decide_eq_true (by omega : t.Dead.Y[k] ≤ 10000)]; rfl
      rw [e, Option.bind_some]
      cases inR 0 10000 t.Dead.Y[k] <;> rfl)]
    cases t.Dead.Y.all (inR 0 10000) <;> rfl
def gainB (g : SGain) : Bool := ((((((decide (g.P ≥ 0)) && (decide (g.P ≤ 65536))) && (decide (g.I ≥ 0))) && (decide (g.I ≤ 65536))) && (decide (g.Low ≥ (-1073741824)))) && (decide (g.Low ≤ g.High))) && (decide (g.High ≤ 1073741824))
def ctlB (t : STables) : Bool := airB t && sparkB t && torB t && (curB t.Dead && t.Dead.Y.all (inR 0 10000)) && mapB t.Wish && gainB t.Idle
theorem ref38_valid_eq (t : STables) : magnetoref38_Valid t = some (ctlB t) := by
  unfold magnetoref38_Valid ctlB
  rw [ref29_valid_eq, ref38_spark_eq, ref35_valid_eq, ref30_dead_eq, refValid_eq, show magnetoref07_Gain t.Idle = some (gainB t.Idle) from rfl]
  simp only [Option.bind_some]
  cases airB t <;> cases sparkB t <;> cases torB t <;> cases (curB t.Dead && t.Dead.Y.all (inR 0 10000)) <;> cases mapB t.Wish <;> rfl
theorem control_all_eq (l : List Int) (h : l.length ≤ 9223372036854775807) (lo hi : Int) : control_all l lo hi = some (l.all (inR lo hi)) := by
  unfold control_all
  rw [contains_int l h (fun x0 => control_all_1 x0 lo hi) (fun x => !inR lo hi x) (fun y _ => rfl), Option.bind_some, List.any_eq_not_all_not, Bool.not_not]
  simp only [Bool.not_not]
theorem control_valid_eq (t : STables) : control_Valid t = some (ctlB t) := by
  unfold control_Valid ctlB sparkB
  rw [air_valid_eq, torque_valid_eq, valid_eq, valid_eq, curve_valid_eq, curve_valid_eq, show filter_ValidGain t.Idle = some (gainB t.Idle) from rfl]
  simp only [Option.bind_some]
  cases airB t
  · rfl
  cases torB t
  · simp only [Bool.not_true, Bool.not_false, cond_false, cond_true, Option.bind_some, Bool.and_false, Bool.false_and]
  cases h1 : mapB t.Spark
  · rfl
  cases mapB t.Wish
  · simp only [Bool.not_true, Bool.not_false, cond_false, cond_true, Option.bind_some, Bool.and_false, Bool.false_and]
  cases h2 : curB t.Dwell
  · rfl
  cases h3 : curB t.Dead
  · simp only [Bool.not_true, Bool.not_false, cond_false, cond_true, Option.bind_some, Bool.and_false, Bool.false_and]
  have hm := mapOk h1
  have zl := hm.zl
  have xm := hm.x.most
  have ym := hm.y.most
  have a1 := (curOk h2).x.most
  have a2 := (curOk h2).yl
  have b1 := (curOk h3).x.most
  have b2 := (curOk h3).yl
  simp only [Bool.not_true, Bool.not_false, cond_false, cond_true, Option.bind_some, Bool.true_and, Bool.and_true]
  rw [rangeM_steps _ (by omega), stepsL_all (p := fun r => r.all (inR (-1280) 3840)) (r := false)]
  · rw [control_all_eq _ (by omega), control_all_eq _ (by omega)]
    cases t.Spark.Z.all fun r => r.all (inR (-1280) 3840)
    · rfl
    · cases t.Dwell.Y.all (inR 500 10000) <;> cases t.Dead.Y.all (inR 0 10000) <;> rfl
  · intro i r hr
    obtain ⟨k, hk, rfl⟩ := List.mem_iff_getElem.1 hr
    have rl := hm.rl k hk
    unfold control_Valid_b1
    rw [control_all_eq _ (by omega), Option.bind_some]
    cases t.Spark.Z[k].all (inR (-1280) 3840) <;> rfl
end Go.Pv
set_option linter.unusedSimpArgs false
namespace Go.Pv.Ev
open Go Go.Pv
theorem dec_of {p : Prop} [Decidable p] {b : Bool} (h : p ↔ b = true) : decide p = b := by
  cases b
  · exact decide_eq_false fun hp => Bool.noConfusion (h.1 hp)
  · exact decide_eq_true (h.2 rfl)
/-! Lists. -/
theorem perm_of_sub {α : Type} [DecidableEq α] : ∀ {l m : List α}, l.Nodup → (∀ x ∈ l, x ∈ m) → m.length ≤ l.length → l.Perm m
  | [], m, _, _, h => by
    have : m = [] := List.length_eq_zero_iff.1 (Nat.le_zero.1 h)
    rw [this]
  | x :: l, m, hn, hs, hl => by
    have hx : x ∈ m := hs x (List.mem_cons_self ..)
    have hp := List.perm_cons_erase hx
    rw [List.nodup_cons] at hn
    have hlen := hp.length_eq
    simp only [List.length_cons] at hlen hl
    refine (List.Perm.cons x (perm_of_sub hn.2 (fun y hy => ?_) (by omega))).trans hp.symm
    have hne : y ≠ x := fun h => hn.1 (h ▸ hy)
    exact (List.mem_erase_of_ne hne).2 (hs y (List.mem_cons_of_mem _ hy))
theorem nodup_iff_take {l : List Int} : l.Nodup ↔ ∀ i (h : i < l.length), l[i] ∉ l.take i := by
  unfold List.Nodup
  rw [List.pairwise_iff_getElem]
  constructor
  · intro hp i hi hm
    obtain ⟨j, hj, e⟩ := List.mem_iff_getElem.1 hm
    rw [List.length_take] at hj
    rw [List.getElem_take] at e
    exact hp j i (by omega) hi (by omega) e
  · intro hp i j hi hj hij e
    exact hp j hj (List.mem_iff_getElem.2 ⟨i, by rw [List.length_take]; omega, by rw [List.getElem_take]; exact e⟩)
/-- The order holds 1 to its length each once: two ways to say it. -/
theorem order_iff {l : List Int} : (∀ k, k < l.length → ((k : Int) + 1) ∈ l) ↔ (∀ x ∈ l, 1 ≤ x ∧ x ≤ l.length) ∧ l.Nodup := by
  have hN : ((List.range l.length).map (fun k : Nat => (k : Int) + 1)).Nodup := by
    unfold List.Nodup
    rw [List.pairwise_map]
    exact List.Pairwise.imp (fun {a b} h => by omega) List.pairwise_lt_range
  have hm : ∀ x : Int, x ∈ (List.range l.length).map (fun k : Nat => (k : Int) + 1) ↔ 1 ≤ x ∧ x ≤ l.length := by
    intro x
    rw [List.mem_map]
    constructor
    · rintro ⟨k, hk, rfl⟩
      rw [List.mem_range] at hk
      omega
    · intro h
      exact ⟨(x - 1).toNat, by rw [List.mem_range]; omega, by omega⟩
  constructor
  · intro h
    have hp : ((List.range l.length).map (fun k : Nat => (k : Int) + 1)).Perm l := perm_of_sub hN (fun x hx => by
      rw [List.mem_map] at hx
      obtain ⟨k, hk, rfl⟩ := hx
      exact h k (List.mem_range.1 hk)) (by simp)
    exact ⟨fun x hx => (hm x).1 (hp.mem_iff.2 hx), hp.nodup_iff.1 hN⟩
  · rintro ⟨h1, h2⟩ k hk
    have hp : l.Perm ((List.range l.length).map (fun k : Nat => (k : Int) + 1)) := perm_of_sub h2 (fun x hx => (hm x).2 (h1 x hx)) (by simp)
    exact hp.mem_iff.2 ((hm _).2 (by omega))
/-! The place of a number in a list. -/
def idx (v : Int) : List Int → Nat → Int
  | [], _ => -1
  | x :: l, i => bif v == x then (i : Int) else idx v l (i + 1)
theorem idx_spec (v : Int) : ∀ (l : List Int) (i : Nat), (idx v l i = -1 ∧ v ∉ l) ∨ ∃ k : Nat, idx v l i = ((i + k : Nat) : Int) ∧ l[k]? = some v
  | [], i => .inl ⟨rfl, by simp⟩
  | x :: l, i => by
    unfold idx
    cases h : v == x
    · have hne : v ≠ x := by simpa using h
      rcases idx_spec v l (i + 1) with ⟨h1, h2⟩ | ⟨k, h1, h2⟩
      · exact .inl ⟨h1, by simp [hne, h2]⟩
      · exact .inr ⟨k + 1, by simp only [cond_false]; rw [h1]; omega, by simpa using h2⟩
    · have : v = x := by simpa using h
      exact .inr ⟨0, by simp, by simp [this]⟩
theorem idx_mem (v : Int) (l : List Int) : decide (idx v l 0 ≥ 0) = decide (v ∈ l) := by
  rcases idx_spec v l 0 with ⟨h1, h2⟩ | ⟨k, h1, h2⟩
  · rw [h1]; simp [h2]
  · rw [h1]; simp [List.mem_of_getElem? h2]
theorem idx_steps (v : Int) : ∀ (l : List Int) (i : Nat), (Option.bind (stepsL (fun (i : Int) x (_ : Unit) => bif (v == x) then (some (Fl.ret i)) else (some (Fl.next ()))) l (i : Int) ()) fun (t : Unit ⊕ Int) => match t with | .inl _ => (some (-1)) | .inr r2 => some r2) = some (idx v l i)
  | [], i => rfl
  | x :: l, i => by
    simp only [stepsL, idx]
    cases v == x
    · simpa using idx_steps v l (i + 1)
    · rfl
theorem index_eq (s : List Int) (v : Int) (h : s.length ≤ 9223372036854775807) : slices_Index_sint s v = some (idx v s 0) := by
  unfold slices_Index_sint
  have : rangeN (s.length : Int) (slices_Index_sint_b1 s v) () = stepsL (fun (i : Int) x (_ : Unit) => bif (v == x) then (some (Fl.ret i)) else (some (Fl.next ()))) s 0 () := rangeN_list s h _ ()
  rw [this]
  exact idx_steps v s 0
theorem contains_eq (s : List Int) (v : Int) (h : s.length ≤ 9223372036854775807) : slices_Contains_sint s v = some (decide (v ∈ s)) := by
  unfold slices_Contains_sint
  rw [index_eq s v h, Option.bind_some, idx_mem]
def engP (e : SEngine) : Prop := 1 ≤ e.Order.length ∧ e.Order.length ≤ 8 ∧ 0 ≤ e.First ∧ e.First < 46080 ∧ (∀ x ∈ e.Order, 1 ≤ x ∧ x ≤ (e.Order.length : Int)) ∧ e.Order.Nodup
instance (e : SEngine) : Decidable (engP e) := by unfold engP; infer_instance
theorem eng_head {e : SEngine} (h : (((decide ((e.Order.length : Int) < 1)) || (decide ((e.Order.length : Int) > 8))) || !((decide (e.First ≥ 0)) && (decide (e.First < 46080)))) = true) : ¬ engP e := by
  rintro ⟨h1, h2, h3, h4, _⟩
  simp only [Bool.or_eq_true, Bool.not_eq_true', Bool.and_eq_false_iff, decide_eq_true_eq, decide_eq_false_iff_not] at h
  omega
theorem eng_tail {e : SEngine} (h : (((decide ((e.Order.length : Int) < 1)) || (decide ((e.Order.length : Int) > 8))) || !((decide (e.First ≥ 0)) && (decide (e.First < 46080)))) = false) : 1 ≤ e.Order.length ∧ e.Order.length ≤ 8 ∧ 0 ≤ e.First ∧ e.First < 46080 := by
  simp only [Bool.or_eq_false_iff, Bool.not_eq_false', Bool.and_eq_true, decide_eq_true_eq, decide_eq_false_iff_not] at h
  omega
theorem all_range' {n : Nat} {p : Nat → Bool} : (List.range' 0 n).all p = true ↔ ∀ k, k < n → p k = true := by
  rw [List.all_eq_true]
  constructor
  · intro h k hk
    exact h k (by rw [List.mem_range'_1]; omega)
  · intro h k hk
    rw [List.mem_range'_1] at hk
    exact h k (by omega)
theorem valid_eq (e : SEngine) : events_Valid e = some (decide (engP e)) := by
  unfold events_Valid events_angle
  have hb : (Option.bind (bif ((decide ((e.Order.length : Int) < 1)) || (decide ((e.Order.length : Int) > 8))) then (some true) else (Option.bind (some ((decide (e.First ≥ 0)) && (decide (e.First < 46080)))) fun v => some (!v))) : (Bool → Option Bool) → Option Bool) = fun k => k (((decide ((e.Order.length : Int) < 1)) || (decide ((e.Order.length : Int) > 8))) || !((decide (e.First ≥ 0)) && (decide (e.First < 46080)))) := by
    funext k
    cases ((decide ((e.Order.length : Int) < 1)) || (decide ((e.Order.length : Int) > 8))) <;> rfl
  rw [hb]
  cases hh : (((decide ((e.Order.length : Int) < 1)) || (decide ((e.Order.length : Int) > 8))) || !((decide (e.First ≥ 0)) && (decide (e.First < 46080))))
  · obtain ⟨h1, h2, h3, h4⟩ := eng_tail hh
    have k := loopM_all (mb := events_Valid_b1 e) (fun i => (i : Int) + 1) (p := fun i => decide (((i : Int) + 1) ∈ e.Order)) (b0 := .inl ((e.Order.length : Int) + 1)) (b1 := .inr false) e.Order.length (by
      unfold events_Valid_b1
      rw [show decide ((e.Order.length : Int) + 1 ≤ (e.Order.length : Int)) = false by simp; omega]; rfl) (fun k hk => by
      unfold events_Valid_b1
      simp only [show decide ((k : Int) + 1 ≤ (e.Order.length : Int)) = true by simp; omega, cond_true, contains_eq e.Order _ (by omega), Option.bind_some, w64_of (n := (k : Int) + 1 + 1) (by omega) (by omega)]
      cases decide (((k : Int) + 1) ∈ e.Order) <;> rfl)
    simp only [show ((0 : Nat) : Int) + 1 = 1 from rfl] at k
    simp only [cond_false]
    rw [k]
    have hP : engP e ↔ (List.range' 0 e.Order.length).all (fun i => decide (((i : Int) + 1) ∈ e.Order)) = true := by
      rw [all_range']
      simp only [decide_eq_true_eq]
      rw [order_iff]
      unfold engP
      constructor
      · rintro ⟨_, _, _, _, h5, h6⟩; exact ⟨h5, h6⟩
      · rintro ⟨h5, h6⟩; exact ⟨h1, h2, h3, h4, h5, h6⟩
    rw [dec_of hP]
    cases (List.range' 0 e.Order.length).all (fun i => decide (((i : Int) + 1) ∈ e.Order)) <;> rfl
  · simp only [cond_true]
    rw [decide_eq_false (eng_head hh)]
theorem rvalid_eq (e : SEngine) : magnetoref23_Valid e = some (decide (engP e)) := by
  unfold magnetoref23_Valid magnetoref23_Angle
  have hb : (Option.bind (bif ((decide ((e.Order.length : Int) < 1)) || (decide ((e.Order.length : Int) > 8))) then (some true) else (Option.bind (some ((decide (e.First ≥ 0)) && (decide (e.First < 46080)))) fun v => some (!v))) : (Bool → Option Bool) → Option Bool) = fun k => k (((decide ((e.Order.length : Int) < 1)) || (decide ((e.Order.length : Int) > 8))) || !((decide (e.First ≥ 0)) && (decide (e.First < 46080)))) := by
    funext k
    cases ((decide ((e.Order.length : Int) < 1)) || (decide ((e.Order.length : Int) > 8))) <;> rfl
  rw [hb]
  cases hh : (((decide ((e.Order.length : Int) < 1)) || (decide ((e.Order.length : Int) > 8))) || !((decide (e.First ≥ 0)) && (decide (e.First < 46080))))
  · obtain ⟨h1, h2, h3, h4⟩ := eng_tail hh
    have k := loopM_all (mb := magnetoref23_Valid_b1 e) (fun i => (i : Int)) (p := fun i => decide (1 ≤ e.Order.getD i 0 ∧ e.Order.getD i 0 ≤ (e.Order.length : Int)) && (e.Order.take i).all fun y => !(y == e.Order.getD i 0)) (b0 := .inl (e.Order.length : Int)) (b1 := .inr false) e.Order.length (by
      unfold magnetoref23_Valid_b1
      rw [show decide ((e.Order.length : Int) < (e.Order.length : Int)) = false by simp]; rfl) (fun k hk => by
      have hg : e.Order.getD k 0 = e.Order[k] := by simp [List.getD, List.getElem?_eq_getElem hk]
      have hlt : (e.Order.take k).length = k := by rw [List.length_take]; omega
      have k2 := loopM_allL (mb := magnetoref23_Valid_b2 e (k : Int) e.Order[k]) (fun i => (i : Int)) (p := fun y => !(y == e.Order[k])) (b0 := .inl (k : Int)) (b1 := .inr false) (e.Order.take k) (by
        rw [hlt]
        unfold magnetoref23_Valid_b2
        rw [show decide ((k : Int) < (k : Int)) = false by simp]; rfl) (fun j y hy => by
        have hj : j < k := by have := (List.getElem?_eq_some_iff.1 hy).1; omega
        have hy2 : e.Order[j]? = some y := by rw [← hy, List.getElem?_take, if_pos hj]
        unfold magnetoref23_Valid_b2
        simp only [show decide ((j : Int) < (k : Int)) = true by simp; omega, cond_true, getI_nat, hy2, Option.bind_some, w64_of (n := (j : Int) + 1) (by omega) (by omega)]
        cases y == e.Order[k] <;> rfl)
      rw [show ((0 : Nat) : Int) = 0 from rfl] at k2
      unfold magnetoref23_Valid_b1
      simp only [show decide ((k : Int) < (e.Order.length : Int)) = true by simp; omega, cond_true, getI_get _ _ hk, Option.bind_some, hg, w64_of (n := (k : Int) + 1) (by omega) (by omega), k2]
      have e1 : (Option.bind (bif (decide (e.Order[k] < 1)) then (some true) else (some (decide (e.Order[k] > (e.Order.length : Int))))) : (Bool → Option (Int ⊕ (Int ⊕ Bool))) → Option (Int ⊕ (Int ⊕ Bool))) = fun f => f (!decide (1 ≤ e.Order[k] ∧ e.Order[k] ≤ (e.Order.length : Int))) := by
        funext f
        have : (!decide (1 ≤ e.Order[k] ∧ e.Order[k] ≤ (e.Order.length : Int))) = (decide (e.Order[k] < 1) || decide (e.Order[k] > (e.Order.length : Int))) := by
          rw [Bool.eq_iff_iff]; simp only [Bool.not_eq_true', decide_eq_false_iff_not, Bool.or_eq_true, decide_eq_true_eq]; omega
        rw [this]
        cases decide (e.Order[k] < 1) <;> rfl
      rw [e1]
      cases decide (1 ≤ e.Order[k] ∧ e.Order[k] ≤ (e.Order.length : Int))
      · rfl
      · simp only [Bool.not_true, cond_false, Bool.true_and]
        cases (e.Order.take k).all fun y => !(y == e.Order[k]) <;> rfl)
    simp only [show ((0 : Nat) : Int) = 0 from rfl] at k
    simp only [cond_false]
    rw [k]
    have hP : engP e ↔ (List.range' 0 e.Order.length).all (fun i => decide (1 ≤ e.Order.getD i 0 ∧ e.Order.getD i 0 ≤ (e.Order.length : Int)) && (e.Order.take i).all fun y => !(y == e.Order.getD i 0)) = true := by
      rw [all_range']
      unfold engP
      rw [nodup_iff_take]
      have hg : ∀ k (hk : k < e.Order.length), e.Order.getD k 0 = e.Order[k] := fun k hk => by simp [List.getD, List.getElem?_eq_getElem hk]
      constructor
      · rintro ⟨_, _, _, _, h5, h6⟩ k hk
        rw [hg k hk, Bool.and_eq_true, decide_eq_true_eq, List.all_eq_true]
        refine ⟨h5 _ (List.getElem_mem hk), fun y hy => ?_⟩
        simp only [Bool.not_eq_true', beq_eq_false_iff_ne]
        exact fun h => h6 k hk (h ▸ hy)
      · intro h
        refine ⟨h1, h2, h3, h4, fun x hx => ?_, fun k hk hm => ?_⟩
        · obtain ⟨k, hk, rfl⟩ := List.mem_iff_getElem.1 hx
          have := h k hk
          rw [hg k hk, Bool.and_eq_true, decide_eq_true_eq] at this
          exact this.1
        · have := h k hk
          rw [hg k hk, Bool.and_eq_true, List.all_eq_true] at this
          have := this.2 _ hm
          simp at this
    rw [dec_of hP]
    cases (List.range' 0 e.Order.length).all (fun i => decide (1 ≤ e.Order.getD i 0 ∧ e.Order.getD i 0 ≤ (e.Order.length : Int)) && (e.Order.take i).all fun y => !(y == e.Order.getD i 0)) <;> rfl
  · simp only [cond_true]
    rw [decide_eq_false (eng_head hh)]
/-! The centers. -/
end Go.Pv.Ev
set_option linter.unusedSimpArgs false
namespace Go.Pv
open Go
def k0 : SKnock := ⟨0, 100, 0⟩
def zeroC : SControls := ⟨⟨0, 0, false⟩, ⟨0⟩, [], ⟨false, false, 0, 0, []⟩, 0, ⟨0, 0⟩⟩
def probe0 : SProbe := ⟨false, false, 1000, 0, List.replicate 9 ⟨0, 0⟩⟩
def newC (n : Nat) : SControls := ⟨⟨0, 0, false⟩, ⟨0⟩, List.replicate n k0, probe0, 0, ⟨0, -1⟩⟩
theorem repeat_eq (n : Nat) (h1 : 1 ≤ n) (h8 : n ≤ 8) : slices_Repeat_sKnock [k0] (n : Int) = some (List.replicate n k0) := by
  have key : loopM slices_Repeat_sKnock_b1 (1, copyL (List.replicate n ⟨0, 0, 0⟩) [k0]) = some (.inl ((n : Int), List.replicate n k0)) := by
    have : n = 1 ∨ n = 2 ∨ n = 3 ∨ n = 4 ∨ n = 5 ∨ n = 6 ∨ n = 7 ∨ n = 8 := by omega
    rcases this with rfl | rfl | rfl | rfl | rfl | rfl | rfl | rfl
    · exact loopM_out (by rfl)
    · exact (loopM_next (s' := (2, [k0, k0])) (by rfl)).trans (loopM_out (by rfl))
    · exact (loopM_next (s' := (2, [k0, k0, ⟨0, 0, 0⟩])) (by rfl)).trans ((loopM_next (s' := (3, [k0, k0, k0])) (by rfl)).trans (loopM_out (by rfl)))
    · exact (loopM_next (s' := (2, [k0, k0, ⟨0, 0, 0⟩, ⟨0, 0, 0⟩])) (by rfl)).trans ((loopM_next (s' := (4, [k0, k0, k0, k0])) (by rfl)).trans (loopM_out (by rfl)))
    · exact (loopM_next (s' := (2, [k0, k0, ⟨0, 0, 0⟩, ⟨0, 0, 0⟩, ⟨0, 0, 0⟩])) (by rfl)).trans ((loopM_next (s' := (4, [k0, k0, k0, k0, ⟨0, 0, 0⟩])) (by rfl)).trans ((loopM_next (s' := (5, [k0, k0, k0, k0, k0])) (by rfl)).trans (loopM_out (by rfl))))
    · exact (loopM_next (s' := (2, [k0, k0, ⟨0, 0, 0⟩, ⟨0, 0, 0⟩, ⟨0, 0, 0⟩, ⟨0, 0, 0⟩])) (by rfl)).trans ((loopM_next (s' := (4, [k0, k0, k0, k0, ⟨0, 0, 0⟩, ⟨0, 0, 0⟩])) (by rfl)).trans ((loopM_next (s' := (6, [k0, k0, k0, k0, k0, k0])) (by rfl)).trans (loopM_out (by rfl))))
    · exact (loopM_next (s' := (2, [k0, k0, ⟨0, 0, 0⟩, ⟨0, 0, 0⟩, ⟨0, 0, 0⟩, ⟨0, 0, 0⟩, ⟨0, 0, 0⟩])) (by rfl)).trans ((loopM_next (s' := (4, [k0, k0, k0, k0, ⟨0, 0, 0⟩, ⟨0, 0, 0⟩, ⟨0, 0, 0⟩])) (by rfl)).trans ((loopM_next (s' := (7, [k0, k0, k0, k0, k0, k0, k0])) (by rfl)).trans (loopM_out (by rfl))))
    · exact (loopM_next (s' := (2, [k0, k0, ⟨0, 0, 0⟩, ⟨0, 0, 0⟩, ⟨0, 0, 0⟩, ⟨0, 0, 0⟩, ⟨0, 0, 0⟩, ⟨0, 0, 0⟩])) (by rfl)).trans ((loopM_next (s' := (4, [k0, k0, k0, k0, ⟨0, 0, 0⟩, ⟨0, 0, 0⟩, ⟨0, 0, 0⟩, ⟨0, 0, 0⟩])) (by rfl)).trans ((loopM_next (s' := (8, [k0, k0, k0, k0, k0, k0, k0, k0])) (by rfl)).trans (loopM_out (by rfl))))
  have a1 : math_bits_Mul (IntKind.u64.wrap (([k0] : List SKnock).length : Int)) (IntKind.u64.wrap (n : Int)) = some (0, (n : Int)) := by
    have : n = 1 ∨ n = 2 ∨ n = 3 ∨ n = 4 ∨ n = 5 ∨ n = 6 ∨ n = 7 ∨ n = 8 := by omega
    rcases this with rfl | rfl | rfl | rfl | rfl | rfl | rfl | rfl <;> rfl
  have a2 : makeM (w64 (n : Int)) (⟨0, 0, 0⟩ : SKnock) = some (List.replicate n ⟨0, 0, 0⟩) := by
    have : n = 1 ∨ n = 2 ∨ n = 3 ∨ n = 4 ∨ n = 5 ∨ n = 6 ∨ n = 7 ∨ n = 8 := by omega
    rcases this with rfl | rfl | rfl | rfl | rfl | rfl | rfl | rfl <;> rfl
  have a3 : (((min ([k0] : List SKnock).length (List.replicate n (⟨0, 0, 0⟩ : SKnock)).length : Nat) : Int)) = 1 := by rw [List.length_replicate, List.length_singleton]; omega
  unfold slices_Repeat_sKnock
  rw [decide_eq_false (by omega), cond_false, Option.bind_some, a1, Option.bind_some]
  simp only
  rw [decide_eq_false (by omega : ¬ (0 : Int) > 0), decide_eq_false (by omega), Bool.or_false, cond_false, Option.bind_some, a2, Option.bind_some, a3, key]
  rfl
theorem probe_new : mixture_New = some probe0 := rfl
theorem probe_new' : magnetoref34_New = some probe0 := rfl
theorem control_new_eq (e : SEngine) : control_New e = some (bif decide (Ev.engP e) then (newC e.Order.length, 0) else (zeroC, 1)) := by
  unfold control_New
  rw [Ev.valid_eq, Option.bind_some]
  by_cases h : Ev.engP e
  · rw [decide_eq_true h, Bool.not_true, cond_false]
    have h1 := h.1
    have h8 := h.2.1
    have : knock_New (e.Order.length : Int) = some (List.replicate e.Order.length k0, 0) := by
      unfold knock_New
      rw [decide_eq_false (by omega), decide_eq_false (by omega), Bool.or_false, cond_false, show ([(⟨0, 100, 0⟩ : SKnock)] : List SKnock) = [k0] from rfl, repeat_eq _ h1 h8]
      rfl
    rw [this, probe_new]
    rfl
  · rw [decide_eq_false h]; rfl
theorem ref38_new_eq (e : SEngine) : magnetoref38_New e = some (bif decide (Ev.engP e) then (newC e.Order.length, 0) else (zeroC, 1)) := by
  unfold magnetoref38_New
  rw [Ev.rvalid_eq, Option.bind_some]
  by_cases h : Ev.engP e
  · rw [decide_eq_true h, Bool.not_true, cond_false, probe_new', Option.bind_some]
    have h8 := h.2.1
    have := loopM_count (mb := magnetoref38_New_b1 e) (fun k => ((k : Int), List.replicate k k0)) (b0 := .inl ((e.Order.length : Int), List.replicate e.Order.length k0)) e.Order.length (by
      unfold magnetoref38_New_b1; simp only; rw [ltNN]; rfl) (fun k hk => by
      unfold magnetoref38_New_b1
      simp only
      rw [ltN hk, cond_true, appendM_ok _ _ (by rw [List.length_replicate, List.length_singleton]; omega), Option.bind_some, w64_succ k (by omega), List.replicate_succ']
      rfl)
    rw [show ((0 : Nat) : Int) = 0 from rfl, show List.replicate 0 k0 = [] from rfl] at this
    rw [this]
    rfl
  · rw [decide_eq_false h]; rfl
theorem all_true {n : Nat} : ((List.range' 0 n).all fun _ => true) = true := range_all.2 fun _ _ => rfl
theorem probe_same (p : SProbe) (h : p.Cells.length ≤ 1000) : magnetoref34_Same p p = some true := by
  unfold magnetoref34_Same
  rw [up_idx (fun _ => true) p.Cells.length (by unfold magnetoref34_Same_b1; rw [ltNN]; rfl) (fun k hk => by
    unfold magnetoref34_Same_b1
    rw [ltN hk, cond_true, getI_get _ k hk, Option.bind_some, Option.bind_some, w64_succ k (by omega)]
    simp), all_true]
  simp
theorem control_same (c : SControls) (h : c.Probe.Cells.length ≤ 1000) (hk : c.Knock.length ≤ 1000) : magnetoref38_Same c c = some true := by
  unfold magnetoref38_Same
  rw [probe_same _ h, up_idx (fun _ => true) c.Knock.length (by unfold magnetoref38_Same_b1; rw [ltNN]; rfl) (fun k hk => by
    unfold magnetoref38_Same_b1
    rw [ltN hk, cond_true, getI_get _ k hk, Option.bind_some, Option.bind_some, w64_succ k (by omega)]
    simp), all_true]
  simp
/-! What states are good. -/
def pedB (p : SPedal) : Bool := decide (0 ≤ p.Value ∧ p.Value ≤ 1000 ∧ 0 ≤ p.Differ ∧ p.Differ ≤ 3 ∧ (p.Fault = true ↔ p.Differ = 3) ∧ (p.Fault = true → p.Value ≤ 200))
theorem ped_eq (p : SPedal) : pedal_Valid p = some (pedB p) := by
  obtain ⟨v, d, f⟩ := p
  unfold pedal_Valid pedB
  cases f
  · simp only [cond_false, Option.bind_some, Option.some.injEq]
    apply bool_of_iff
    by_cases q : d = 3 <;> simp [q] <;> omega
  · simp only [cond_true, Option.bind_some, Option.some.injEq]
    apply bool_of_iff
    by_cases q : d = 3 <;> simp [q] <;> omega
theorem rped_eq (p : SPedal) : magnetoref37_Valid p = some (pedB p) := by
  obtain ⟨v, d, f⟩ := p
  unfold magnetoref37_Valid pedB
  simp only
  cases hb : (((((decide (v < 0)) || (decide (v > 1000))) || (decide (d < 0))) || (decide (d > 3))) || (!(f == (d == 3))))
  · rw [cond_false, Option.some.injEq]
    apply bool_of_iff
    cases f <;> by_cases q : d = 3 <;> simp [q] at hb ⊢ <;> omega
  · rw [cond_true, Option.some.injEq]
    symm
    rw [decide_eq_false_iff_not]
    intro h
    cases f <;> by_cases q : d = 3 <;> simp [q] at hb h <;> omega
def cellB (c : SCell) : Bool := inR (-100) 100 c.Value && inR 0 1000 c.Count
def mixB (p : SProbe) : Bool := inR 750 1250 p.Factor && inR 0 1000 p.Wait && decide (p.Cells.length = 9) && (p.Active || (decide (p.Factor = 1000) && decide (p.Wait = 0) && !p.Rich)) && p.Cells.all cellB
theorem cell1_eq (c : SCell) : mixture_Valid_1 c = some (!cellB c) := by
  unfold mixture_Valid_1 cellB
  rw [show mixture_in c.Value (-100) 100 = some (inR (-100) 100 c.Value) from rfl, show mixture_in c.Count 0 1000 = some (inR 0 1000 c.Count) from rfl]
  cases inR (-100) 100 c.Value <;> rfl
theorem mix_eq (p : SProbe) : mixture_Valid p = some (mixB p) := by
  unfold mixture_Valid mixB
  rw [show mixture_in p.Factor 750 1250 = some (inR 750 1250 p.Factor) from rfl, show mixture_in p.Wait 0 1000 = some (inR 0 1000 p.Wait) from rfl, Option.bind_some]
  cases inR 750 1250 p.Factor
  · rfl
  cases inR 0 1000 p.Wait
  · rfl
  by_cases h9 : p.Cells.length = 9
  · have : ((p.Cells.length : Int) != 9) = false := by simp; omega
    have k : slices_ContainsFunc_sCell p.Cells mixture_Valid_1 = some (p.Cells.any fun c => !cellB c) := index_any p.Cells (by omega) mixture_Valid_1 _ (fun c _ => cell1_eq c)
    rw [this, k, decide_eq_true h9, List.any_eq_not_all_not]
    simp only [Bool.not_true, Bool.not_false, cond_false, cond_true, Option.bind_some, Bool.true_and, Bool.or_false, Bool.not_not]
    cases p.Active
    · have e : ((p.Factor != 1000 || p.Wait != 0) || p.Rich) = !(decide (p.Factor = 1000) && decide (p.Wait = 0) && !p.Rich) := by
        cases p.Rich <;> by_cases a : p.Factor = 1000 <;> by_cases b : p.Wait = 0 <;> simp [a, b]
      simp only [Bool.not_false, cond_true, Option.bind_some, Bool.false_or]
      rw [e]
      cases (decide (p.Factor = 1000) && decide (p.Wait = 0) && !p.Rich) <;> rfl
    · rfl
  · have : ((p.Cells.length : Int) != 9) = true := by simp; omega
    rw [this, decide_eq_false h9]
    rfl
theorem r34_between (x lo hi : Int) : magnetoref34_between x lo hi = some (inR lo hi x) := rfl
theorem rmix_eq (p : SProbe) : magnetoref34_Valid p = some (mixB p) := by
  unfold magnetoref34_Valid mixB
  rw [r34_between, r34_between, Option.bind_some]
  cases inR 750 1250 p.Factor
  · rfl
  cases inR 0 1000 p.Wait
  · rfl
  by_cases h9 : p.Cells.length = 9
  · have : ((p.Cells.length : Int) != 9) = false := by simp; omega
    rw [this, decide_eq_true h9, up_all cellB p.Cells (by unfold magnetoref34_Valid_b1; rw [decide_eq_false (by omega)]; rfl) (fun k hk => by
      unfold magnetoref34_Valid_b1 cellB
      rw [decide_eq_true (by omega), cond_true, getI_get _ k hk, Option.bind_some, r34_between, r34_between, w64_succ k (by omega)]
      cases inR (-100) 100 p.Cells[k].Value
      · rfl
      · cases inR 0 1000 p.Cells[k].Count <;> rfl)]
    simp only [Bool.not_true, Bool.not_false, cond_false, cond_true, Option.bind_some, Bool.true_and, Bool.or_false, Bool.not_not]
    cases p.Cells.all cellB
    · rw [Bool.and_false]; rfl
    · rw [Bool.and_true, cond_true]
      simp only
      cases p.Active
      · have e : ((p.Factor == 1000 && p.Wait == 0) && !p.Rich) = (decide (p.Factor = 1000) && decide (p.Wait = 0) && !p.Rich) := by
          cases p.Rich <;> by_cases a : p.Factor = 1000 <;> by_cases b : p.Wait = 0 <;> simp [a, b]
        rw [cond_false, e]; rfl
      · rfl
  · have : ((p.Cells.length : Int) != 9) = true := by simp; omega
    rw [this, decide_eq_false h9]
    rfl
def knB (k : SKnock) : Bool := inR 0 960 k.Retard && inR 0 4095 k.Noise && decide (k.Quiet ≥ 0) && decide (k.Quiet ≤ 99)
theorem kn_eq (k : SKnock) : knock_Valid k = some (knB k) := by
  unfold knock_Valid knB
  rw [show knock_intensity k.Noise = some (inR 0 4095 k.Noise) from rfl, show (decide (k.Retard ≥ 0) && decide (k.Retard ≤ 960)) = inR 0 960 k.Retard from rfl]
  have e : decide (k.Quiet < 100) = decide (k.Quiet ≤ 99) := by apply bool_of_iff; rw [decide_eq_true_eq, decide_eq_true_eq]; omega
  rw [e]
  cases inR 0 960 k.Retard <;> rfl
theorem rkn_eq (k : SKnock) : magnetoref32_Valid k = some (knB k) := by
  unfold magnetoref32_Valid knB
  rw [show magnetoref32_Intensity k.Noise = some (inR 0 4095 k.Noise) from rfl, show (decide (k.Retard ≥ 0) && decide (k.Retard ≤ 960)) = inR 0 960 k.Retard from rfl]
  cases inR 0 960 k.Retard <;> rfl
def goodB (e : SEngine) (c : SControls) : Bool := decide (Ev.engP e) && pedB c.Pedal && mixB c.Probe && decide (c.Knock.length = e.Order.length) && c.Knock.all knB && inR (-4398046511104) 4398046511104 c.Idle.Sum && inR 0 1073741824 c.Film && inR (-5000) 10000 c.Grant.Torque && inR (-1) 15 c.Grant.Source
theorem good_eq (e : SEngine) (c : SControls) : control_Good e c = some (goodB e c) := by
  unfold control_Good goodB
  rw [Ev.valid_eq, ped_eq, mix_eq]
  simp only [Option.bind_some]
  by_cases h : Ev.engP e
  · rw [decide_eq_true h]
    cases pedB c.Pedal
    · rfl
    cases mixB c.Probe
    · rfl
    by_cases hl : c.Knock.length = e.Order.length
    · have : ((c.Knock.length : Int) != (e.Order.length : Int)) = false := by simp; omega
      have h8 := h.2.1
      have k : slices_ContainsFunc_sKnock c.Knock control_Good_1 = some (c.Knock.any fun k => !knB k) := index_any c.Knock (by omega) control_Good_1 _ (fun k _ => by unfold control_Good_1; rw [kn_eq]; rfl)
      rw [this, decide_eq_true hl, k, List.any_eq_not_all_not]
      simp only [Bool.not_true, Bool.not_false, cond_false, cond_true, Option.bind_some, Bool.true_and, Bool.or_false, Bool.not_not]
      rw [show control_in c.Idle.Sum (-4398046511104) 4398046511104 = some (inR (-4398046511104) 4398046511104 c.Idle.Sum) from rfl, show control_in c.Film 0 1073741824 = some (inR 0 1073741824 c.Film) from rfl,
        show control_in c.Grant.Torque (-5000) 10000 = some (inR (-5000) 10000 c.Grant.Torque) from rfl, show control_in c.Grant.Source (-1) 15 = some (inR (-1) 15 c.Grant.Source) from rfl]
      cases c.Knock.all knB
      · rfl
      cases inR (-4398046511104) 4398046511104 c.Idle.Sum
      · rfl
      cases inR 0 1073741824 c.Film
      · rfl
      cases inR (-5000) 10000 c.Grant.Torque <;> rfl
    · have : ((c.Knock.length : Int) != (e.Order.length : Int)) = true := by simp; omega
      rw [this, decide_eq_false hl]; rfl
  · rw [decide_eq_false h]; rfl
theorem rgood_eq (e : SEngine) (c : SControls) : magnetoref38_Good e c = some (goodB e c) := by
  unfold magnetoref38_Good goodB
  rw [Ev.rvalid_eq, rped_eq, rmix_eq, show magnetoref07_Integral c.Idle = some (inR (-4398046511104) 4398046511104 c.Idle.Sum) from rfl, r38_between, r38_between, show magnetoref36_Torque c.Grant.Torque = some (inR (-5000) 10000 c.Grant.Torque) from rfl]
  simp only [Option.bind_some]
  by_cases h : Ev.engP e
  · rw [decide_eq_true h]
    cases pedB c.Pedal
    · rfl
    cases mixB c.Probe
    · rfl
    by_cases hl : c.Knock.length = e.Order.length
    · have : ((c.Knock.length : Int) != (e.Order.length : Int)) = false := by simp; omega
      have h8 := h.2.1
      rw [this, decide_eq_true hl, up_all knB c.Knock (by unfold magnetoref38_Good_b1; rw [ltNN]; rfl) (fun k hk => by
        unfold magnetoref38_Good_b1
        rw [ltN hk, cond_true, getI_get _ k hk, Option.bind_some, rkn_eq, Option.bind_some, w64_succ k (by omega)]
        cases knB c.Knock[k] <;> rfl)]
      cases inR (-4398046511104) 4398046511104 c.Idle.Sum
      · simp
      cases inR 0 1073741824 c.Film
      · simp
      cases c.Knock.all knB
      · rfl
      cases inR (-5000) 10000 c.Grant.Torque <;> rfl
    · have : ((c.Knock.length : Int) != (e.Order.length : Int)) = true := by simp; omega
      rw [this, decide_eq_false hl]
      cases inR (-4398046511104) 4398046511104 c.Idle.Sum <;> rfl
  · rw [decide_eq_false h]; simp
/-! What is asked for. -/
def reqB (r : SRequest) : Bool := decide (0 ≤ r.Source ∧ r.Source ≤ 15 ∧ 0 ≤ r.Priority ∧ r.Priority ≤ 15 ∧ -5000 ≤ r.Torque ∧ r.Torque ≤ 10000 ∧ (r.Kind = 1 ∨ (r.Source ≤ 1 ∧ (r.Kind = 2 ∨ r.Kind = 3))))
theorem req_eq (r : SRequest) : arbiter_Valid r = some (reqB r) := by
  obtain ⟨s, k, t, p⟩ := r
  unfold arbiter_Valid reqB arbiter_torque
  simp only
  cases hb : ((((decide (s < 0)) || (decide (s > 15))) || (decide (p < 0))) || (decide (p > 15)))
  · rw [cond_false, Option.bind_some, Option.bind_some]
    cases ht : (decide (t ≥ -5000) && decide (t ≤ 10000))
    · rw [Bool.not_false, cond_true, Option.some.injEq]
      symm; rw [decide_eq_false_iff_not]
      simp at hb ht; omega
    · rw [Bool.not_true, cond_false]
      simp at hb ht
      by_cases q : k = 1
      · subst q
        simp; omega
      · have : (k == 1) = false := by simp; exact q
        rw [this, cond_false]
        by_cases z : s ≤ 1
        · rw [decide_eq_true z, cond_true, Option.bind_some, Option.bind_some, Option.some.injEq]
          apply bool_of_iff
          simp; omega
        · rw [decide_eq_false z, cond_false, Option.bind_some, Option.bind_some, Option.some.injEq]
          symm; rw [decide_eq_false_iff_not]; omega
  · rw [cond_true, Option.bind_some, cond_true, Option.some.injEq]
    symm; rw [decide_eq_false_iff_not]
    simp at hb; omega
theorem rreq_eq (r : SRequest) : magnetoref36_Valid r = some (reqB r) := by
  obtain ⟨s, k, t, p⟩ := r
  unfold magnetoref36_Valid reqB magnetoref36_Torque
  simp only
  cases hb : ((((decide (s < 0)) || (decide (s > 15))) || (decide (p < 0))) || (decide (p > 15)))
  · rw [cond_false, Option.bind_some, Option.bind_some]
    cases ht : (decide (t ≥ -5000) && decide (t ≤ 10000))
    · rw [Bool.not_false, Bool.true_or, Bool.true_or, cond_true, Option.some.injEq]
      symm; rw [decide_eq_false_iff_not]
      simp at hb ht; omega
    · rw [Bool.not_true, Bool.false_or]
      cases hk : (decide (k < 1) || decide (k > 3))
      · rw [cond_false, Option.some.injEq]
        apply bool_of_iff
        simp at hb ht hk ⊢; omega
      · rw [cond_true, Option.some.injEq]
        symm; rw [decide_eq_false_iff_not]
        simp at hb ht hk; omega
  · rw [cond_true, Option.bind_some, Bool.true_or, Bool.true_or, cond_true, Option.some.injEq]
    symm; rw [decide_eq_false_iff_not]
    simp at hb; omega
def askB (i : SInputs) (n : Int) : Bool := inR 1 8 n && decide ((i.Intensity.length : Int) = n) && decide (i.Requests.length ≤ 30) && inR 0 12000 i.Speed && inR 50 3000 i.Pressure && inR (-40) 150 i.AirTemp && inR (-40) 150 i.Coolant && inR 0 20000 i.Voltage && inR 0 20000 i.Lambda && i.Intensity.all (inR 0 4095) && i.Requests.all reqB
theorem ctl_in (x lo hi : Int) : control_in x lo hi = some (inR lo hi x) := rfl
theorem ask_eq (i : SInputs) (n : Int) : control_Check i n = some (askB i n) := by
  unfold control_Check askB
  simp only [ctl_in, Option.bind_some]
  cases hn : inR 1 8 n
  · rfl
  have hn' : 1 ≤ n ∧ n ≤ 8 := by unfold inR at hn; simp at hn; omega
  by_cases hl : (i.Intensity.length : Int) = n
  · by_cases hr : i.Requests.length ≤ 30
    · have k : slices_ContainsFunc_sRequest i.Requests control_Check_1 = some (i.Requests.any fun k => !reqB k) := index_any i.Requests (by omega) control_Check_1 _ (fun k _ => by unfold control_Check_1; rw [req_eq]; rfl)
      have h1 : ((i.Intensity.length : Int) != n) = false := by simp; exact hl
      rw [h1, decide_eq_false (by omega), decide_eq_true hl, decide_eq_true hr, k, control_all_eq _ (by omega), List.any_eq_not_all_not]
      simp only [Bool.not_true, Bool.not_false, cond_false, cond_true, Option.bind_some, Bool.true_and, Bool.or_false, Bool.not_not]
      cases inR 0 12000 i.Speed
      · rfl
      cases inR 50 3000 i.Pressure
      · rfl
      cases inR (-40) 150 i.AirTemp
      · rfl
      cases inR (-40) 150 i.Coolant
      · rfl
      cases inR 0 20000 i.Voltage
      · rfl
      cases inR 0 20000 i.Lambda
      · rfl
      cases i.Intensity.all (inR 0 4095) <;> rfl
    · rw [decide_eq_true (by omega : (i.Requests.length : Int) > 30), decide_eq_false hr, Bool.or_true, Bool.and_false]; rfl
  · have h1 : ((i.Intensity.length : Int) != n) = true := by simp; exact hl
    rw [h1, decide_eq_false hl]; rfl
theorem rask_eq (i : SInputs) (n : Int) : magnetoref38_Check i n = some (askB i n) := by
  unfold magnetoref38_Check askB
  simp only [r38_between, Option.bind_some]
  cases hn : inR 1 8 n
  · rfl
  have hn' : 1 ≤ n ∧ n ≤ 8 := by unfold inR at hn; simp at hn; omega
  by_cases hl : (i.Intensity.length : Int) = n
  · by_cases hr : i.Requests.length ≤ 30
    · have h1 : ((i.Intensity.length : Int) != n) = false := by simp; exact hl
      rw [h1, decide_eq_false (by omega), decide_eq_true hl, decide_eq_true hr, up_all (inR 0 4095) i.Intensity (by unfold magnetoref38_Check_b1; rw [decide_eq_false (by omega)]; rfl) (fun k hk => by
        unfold magnetoref38_Check_b1
        rw [decide_eq_true (by omega), cond_true, getI_get _ k hk, Option.bind_some, show magnetoref32_Intensity i.Intensity[k] = some (inR 0 4095 i.Intensity[k]) from rfl, Option.bind_some, w64_succ k (by omega)]
        cases inR 0 4095 i.Intensity[k] <;> rfl), up_all reqB i.Requests (by unfold magnetoref38_Check_b2; rw [ltNN]; rfl) (fun k hk => by
        unfold magnetoref38_Check_b2
        rw [ltN hk, cond_true, getI_get _ k hk, Option.bind_some, rreq_eq, Option.bind_some, w64_succ k (by omega)]
        cases reqB i.Requests[k] <;> rfl)]
      simp only [Bool.not_true, Bool.not_false, cond_false, cond_true, Option.bind_some, Bool.true_and, Bool.or_false, Bool.not_not]
      cases inR 0 12000 i.Speed
      · rfl
      cases inR 50 3000 i.Pressure
      · rfl
      cases inR (-40) 150 i.AirTemp
      · rfl
      cases inR (-40) 150 i.Coolant
      · rfl
      cases inR 0 20000 i.Voltage
      · rfl
      cases inR 0 20000 i.Lambda
      · rfl
      cases i.Intensity.all (inR 0 4095)
      · rfl
      cases i.Requests.all reqB <;> rfl
    · rw [decide_eq_true (by omega : (i.Requests.length : Int) > 30), decide_eq_false hr, Bool.or_true, Bool.and_false]
      cases inR 0 12000 i.Speed
      · rfl
      cases inR 50 3000 i.Pressure
      · rfl
      cases inR (-40) 150 i.AirTemp
      · rfl
      cases inR (-40) 150 i.Coolant
      · rfl
      cases inR 0 20000 i.Voltage
      · rfl
      cases inR 0 20000 i.Lambda <;> rfl
  · have h1 : ((i.Intensity.length : Int) != n) = true := by simp; exact hl
    rw [h1, decide_eq_false hl]
    cases inR 0 12000 i.Speed
    · rfl
    cases inR 50 3000 i.Pressure
    · rfl
    cases inR (-40) 150 i.AirTemp
    · rfl
    cases inR (-40) 150 i.Coolant
    · rfl
    cases inR 0 20000 i.Voltage
    · rfl
    cases inR 0 20000 i.Lambda <;> rfl
end Go.Pv
set_option linter.unusedSimpArgs false
namespace Go.Pv
open Go
theorem engP1 : Ev.engP ⟨[1], 0⟩ := by
  have : decide (Ev.engP ⟨[1], 0⟩) = true := by decide
  exact of_decide_eq_true this
theorem awake38 : magnetolaw38_awake = some true := by
  unfold magnetolaw38_awake
  rw [control_new_eq, decide_eq_true engP1]
  simp only [cond_true, Option.bind_some, good_eq]
  have g1 : goodB ⟨[1], 0⟩ (newC 1) = true := by unfold goodB; rw [decide_eq_true engP1]; decide
  have g2 : goodB ⟨[1], 0⟩ zeroC = false := by unfold goodB; rw [decide_eq_true engP1]; decide
  rw [show (([1] : List Int).length) = 1 from rfl]
  rw [show (⟨⟨(newC 1).Pedal.Value, (newC 1).Pedal.Differ, (newC 1).Pedal.Fault⟩, ⟨(newC 1).Idle.Sum⟩, (newC 1).Knock, ⟨(newC 1).Probe.Active, (newC 1).Probe.Rich, (newC 1).Probe.Factor, (newC 1).Probe.Wait, (newC 1).Probe.Cells⟩, (newC 1).Film, ⟨(newC 1).Grant.Torque, (newC 1).Grant.Source⟩⟩ : SControls) = newC 1 from rfl, g1]
  rw [show (⟨⟨0, 0, false⟩, ⟨0⟩, [], ⟨false, false, 0, 0, []⟩, 0, ⟨0, 0⟩⟩ : SControls) = zeroC from rfl, g2]
  rfl
theorem few38 (t : STables) : ∃ b, magnetolaw38_few t = some b := by
  have f1 : ∀ m : SMap, ∃ b, magnetolaw38_few_1 m = some b := fun m => by
    unfold magnetolaw38_few_1
    cases h : ((decide ((m.X.length : Int) > 40) || decide ((m.Y.length : Int) > 40)) || decide ((m.Z.length : Int) > 40))
    · have hz : m.Z.length ≤ 40 := by simp at h; omega
      have k : slices_ContainsFunc_ssint m.Z magnetolaw38_few_1_1 = some (m.Z.any fun l => decide ((l.length : Int) > 40)) := index_any m.Z (by omega) magnetolaw38_few_1_1 _ (fun l _ => rfl)
      rw [k]; exact ⟨_, rfl⟩
    · exact ⟨_, rfl⟩
  have e : ∀ (l : List SMap), l.length ≤ 4 → ∃ b, slices_ContainsFunc_sMap l magnetolaw38_few_1 = some b := fun l hl =>
    ⟨_, index_any l (by omega) magnetolaw38_few_1 (fun m => (f1 m).choose) (fun m _ => (f1 m).choose_spec)⟩
  have e2 : ∀ (l : List SCurve), l.length ≤ 4 → ∃ b, slices_ContainsFunc_sCurve l magnetolaw38_few_2 = some b := fun l hl =>
    ⟨_, index_any l (by omega) magnetolaw38_few_2 (fun c => decide ((c.X.length : Int) > 40) || decide ((c.Y.length : Int) > 40)) (fun m _ => rfl)⟩
  unfold magnetolaw38_few
  obtain ⟨b, hb⟩ := e [t.Air, t.Spark, t.Torque, t.Wish] (Nat.le_refl _)
  obtain ⟨b2, hb2⟩ := e2 [t.AirTemp, t.Dwell, t.Dead, t.Efficiency] (Nat.le_refl _)
  rw [hb, hb2]
  cases b <;> exact ⟨_, rfl⟩
theorem plain_ControlStates (x0 : STables) (x1 : SEngine) (x2 : SControls) (x3 : SInputs) (x4 : Int) (_ : wf_STables x0) (_ : wf_SEngine x1) (_ : wf_SControls x2) (_ : wf_SInputs x3) (_ : (fun n => (Lit.int .i64 n).wf = true) x4) : magnetolaw38_ControlStates x0 x1 x2 x3 x4 = some true := by
  unfold magnetolaw38_ControlStates
  obtain ⟨b, hb⟩ := few38 x0
  rw [awake38, hb, show magnetolaw38_small x1 x2 x3 = some _ from rfl]
  simp only [Option.bind_some, Bool.not_true, cond_false]
  have tail : (Option.bind (control_Good x1 x2) fun v7 => Option.bind (magnetoref38_Good x1 x2) fun v8 => bif (v7 == v8) then (Option.bind (control_Check x3 x4) fun v9 => Option.bind (magnetoref38_Check x3 x4) fun v10 => some (v9 == v10)) else (some false)) = some true := by
    rw [good_eq, rgood_eq, ask_eq, rask_eq]
    simp
  have same : ∀ c : SControls, c.Probe.Cells.length ≤ 1000 → c.Knock.length ≤ 1000 → magnetoref38_Same ⟨⟨c.Pedal.Value, c.Pedal.Differ, c.Pedal.Fault⟩, ⟨c.Idle.Sum⟩, c.Knock, ⟨c.Probe.Active, c.Probe.Rich, c.Probe.Factor, c.Probe.Wait, c.Probe.Cells⟩, c.Film, ⟨c.Grant.Torque, c.Grant.Source⟩⟩ ⟨⟨c.Pedal.Value, c.Pedal.Differ, c.Pedal.Fault⟩, ⟨c.Idle.Sum⟩, c.Knock, ⟨c.Probe.Active, c.Probe.Rich, c.Probe.Factor, c.Probe.Wait, c.Probe.Cells⟩, c.Film, ⟨c.Grant.Torque, c.Grant.Source⟩⟩ = some true := fun c h1 h2 => control_same c h1 h2
  rw [control_new_eq, ref38_new_eq, control_valid_eq, ref38_valid_eq]
  simp only [Option.bind_some, beq_self_eq_true, cond_true]
  by_cases h : Ev.engP x1
  · have h8 := h.2.1
    simp only [decide_eq_true h, cond_true]
    rw [same (newC x1.Order.length) (show (9 : Nat) ≤ 1000 by decide) (by unfold newC; simp only [List.length_replicate]; omega), Option.bind_some, cond_true, tail]
    cases b
    · rfl
    · simp only [Bool.not_true, cond_false, Option.bind_some]
      cases !_ <;> rfl
  · simp only [decide_eq_false h, cond_false]
    rw [same zeroC (by decide) (by decide), Option.bind_some, cond_true, tail]
    cases b
    · rfl
    · simp only [Bool.not_true, cond_false, Option.bind_some]
      cases !_ <;> rfl
end Go.Pv
