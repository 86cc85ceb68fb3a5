/- This file joins: Ties, printed by gen.py: each function of the loaded program computes its model. -/
import Derived.Test.YtalanclpiojanaaGreatControlPartsE
import Derived.Test.YtalanclpiojanaaGreatProg
import Derived.KernelRfl
set_option linter.unusedSimpArgs false
set_option linter.unusedVariables false
namespace Go.Proofs.YtalanclpiojanaaGreat
open Go Go.Pv Go.Proofs
abbrev u11_0 (s : SControls) (x : SPedal) : SControls := ⟨x, s.Idle, s.Knock, s.Probe, s.Film, s.Grant⟩
abbrev u11_1 (s : SControls) (x : SIntegral) : SControls := ⟨s.Pedal, x, s.Knock, s.Probe, s.Film, s.Grant⟩
abbrev u11_2 (s : SControls) (x : List SKnock) : SControls := ⟨s.Pedal, s.Idle, x, s.Probe, s.Film, s.Grant⟩
abbrev u11_3 (s : SControls) (x : SProbe) : SControls := ⟨s.Pedal, s.Idle, s.Knock, x, s.Film, s.Grant⟩
abbrev u11_5 (s : SControls) (x : SGrant) : SControls := ⟨s.Pedal, s.Idle, s.Knock, s.Probe, s.Film, x⟩
abbrev u16_1 (s : SOutputs) (x : List SFire) : SOutputs := ⟨s.Throttle, x, s.Torque⟩
abbrev u16_2 (s : SOutputs) (x : Int) : SOutputs := ⟨s.Throttle, s.Fires, x⟩
abbrev u17_0 (s : Scontrol_step) (x : STables) : Scontrol_step := ⟨x, s.e, s.b, s.c, s.i, s.wanted, s.charge, s.fired, s.late, s.pattern, s.time, s.out, s.fail⟩
abbrev u17_1 (s : Scontrol_step) (x : SEngine) : Scontrol_step := ⟨s.t, x, s.b, s.c, s.i, s.wanted, s.charge, s.fired, s.late, s.pattern, s.time, s.out, s.fail⟩
abbrev u17_2 (s : Scontrol_step) (x : SBody) : Scontrol_step := ⟨s.t, s.e, x, s.c, s.i, s.wanted, s.charge, s.fired, s.late, s.pattern, s.time, s.out, s.fail⟩
abbrev u17_3 (s : Scontrol_step) (x : SControls) : Scontrol_step := ⟨s.t, s.e, s.b, x, s.i, s.wanted, s.charge, s.fired, s.late, s.pattern, s.time, s.out, s.fail⟩
abbrev u17_4 (s : Scontrol_step) (x : SInputs) : Scontrol_step := ⟨s.t, s.e, s.b, s.c, x, s.wanted, s.charge, s.fired, s.late, s.pattern, s.time, s.out, s.fail⟩
abbrev u17_6 (s : Scontrol_step) (x : Int) : Scontrol_step := ⟨s.t, s.e, s.b, s.c, s.i, s.wanted, x, s.fired, s.late, s.pattern, s.time, s.out, s.fail⟩
abbrev u17_7 (s : Scontrol_step) (x : Int) : Scontrol_step := ⟨s.t, s.e, s.b, s.c, s.i, s.wanted, s.charge, x, s.late, s.pattern, s.time, s.out, s.fail⟩
abbrev u17_8 (s : Scontrol_step) (x : Int) : Scontrol_step := ⟨s.t, s.e, s.b, s.c, s.i, s.wanted, s.charge, s.fired, x, s.pattern, s.time, s.out, s.fail⟩
abbrev u17_9 (s : Scontrol_step) (x : List Bool) : Scontrol_step := ⟨s.t, s.e, s.b, s.c, s.i, s.wanted, s.charge, s.fired, s.late, x, s.time, s.out, s.fail⟩
abbrev u17_11 (s : Scontrol_step) (x : SOutputs) : Scontrol_step := ⟨s.t, s.e, s.b, s.c, s.i, s.wanted, s.charge, s.fired, s.late, s.pattern, s.time, x, s.fail⟩
theorem mixed : Tryz.prog.follows .mixedOrders = true := by kernel_rfl
def tab : Tab := [(3, ⟨1, .int .i64, [.int .i64 0]⟩),
 (4, ⟨1, .bool, [.bool false]⟩),
 (5, ⟨1, .int .u8, [.int .u8 0]⟩),
 (22, ⟨1, .slice 3, [.slice none 0 0]⟩),
 (23, ⟨1, .slice 22, [.slice none 0 0]⟩),
 (25, ⟨3, .struct [(0, 1), (1, 1), (2, 1)], [.slice none 0 0, .slice none 0 0, .slice none 0 0]⟩),
 (27, ⟨2, .struct [(0, 1), (1, 1)], [.slice none 0 0, .slice none 0 0]⟩),
 (29, ⟨4, .struct [(0, 1), (1, 1), (2, 1), (3, 1)], [.int .i64 0, .int .i64 0, .int .i64 0, .int .i64 0]⟩),
 (31, ⟨24, .struct [(0, 3), (3, 3), (6, 3), (9, 3), (12, 2), (14, 2), (16, 2), (18, 2), (20, 4)], [.slice none 0 0, .slice none 0 0, .slice none 0 0, .slice none 0 0, .slice none 0 0, .slice none 0 0, .slice none 0 0, .slice none 0 0, .slice none 0 0, .slice none 0 0, .slice none 0 0, .slice none 0 0, .slice none 0 0, .slice none 0 0, .slice none 0 0, .slice none 0 0, .slice none 0 0, .slice none 0 0, .slice none 0 0, .slice none 0 0, .int .i64 0, .int .i64 0, .int .i64 0, .int .i64 0]⟩),
 (33, ⟨2, .struct [(0, 1), (1, 1)], [.slice none 0 0, .int .i64 0]⟩),
 (35, ⟨3, .struct [(0, 1), (1, 1), (2, 1)], [.int .i64 0, .int .i64 0, .bool false]⟩),
 (37, ⟨1, .struct [(0, 1)], [.int .i64 0]⟩),
 (38, ⟨1, .slice 95, [.slice none 0 0]⟩),
 (39, ⟨1, .slice 105, [.slice none 0 0]⟩),
 (41, ⟨5, .struct [(0, 1), (1, 1), (2, 1), (3, 1), (4, 1)], [.bool false, .bool false, .int .i64 0, .int .i64 0, .slice none 0 0]⟩),
 (43, ⟨2, .struct [(0, 1), (1, 1)], [.int .i64 0, .int .i64 0]⟩),
 (45, ⟨13, .struct [(0, 3), (3, 1), (4, 1), (5, 5), (10, 1), (11, 2)], [.int .i64 0, .int .i64 0, .bool false, .int .i64 0, .slice none 0 0, .bool false, .bool false, .int .i64 0, .int .i64 0, .slice none 0 0, .int .i64 0, .int .i64 0, .int .i64 0]⟩),
 (46, ⟨1, .slice 73, [.slice none 0 0]⟩),
 (48, ⟨10, .struct [(0, 1), (1, 1), (2, 1), (3, 1), (4, 1), (5, 1), (6, 1), (7, 1), (8, 1), (9, 1)], [.int .i64 0, .int .i64 0, .int .i64 0, .int .i64 0, .int .i64 0, .int .i64 0, .int .i64 0, .int .i64 0, .slice none 0 0, .slice none 0 0]⟩),
 (52, ⟨1, .int .i64, [.int .i64 0]⟩),
 (62, ⟨7, .struct [(0, 1), (1, 1), (2, 1), (3, 1), (4, 1), (5, 1), (6, 1)], [.int .i64 0, .int .i64 0, .int .i64 0, .int .i64 0, .int .i64 0, .int .i64 0, .int .i64 0]⟩),
 (63, ⟨1, .slice 79, [.slice none 0 0]⟩),
 (65, ⟨3, .struct [(0, 1), (1, 1), (2, 1)], [.int .i64 0, .slice none 0 0, .int .i64 0]⟩),
 (73, ⟨4, .struct [(0, 1), (1, 1), (2, 1), (3, 1)], [.int .i64 0, .int .i64 0, .int .i64 0, .int .i64 0]⟩),
 (79, ⟨7, .struct [(0, 1), (1, 1), (2, 1), (3, 1), (4, 1), (5, 1), (6, 1)], [.int .i64 0, .int .i64 0, .int .i64 0, .int .i64 0, .int .i64 0, .int .i64 0, .int .i64 0]⟩),
 (82, ⟨1, .slice 4, [.slice none 0 0]⟩),
 (85, ⟨1, .slice 48, [.slice none 0 0]⟩),
 (95, ⟨3, .struct [(0, 1), (1, 1), (2, 1)], [.int .i64 0, .int .i64 0, .int .i64 0]⟩),
 (105, ⟨2, .struct [(0, 1), (1, 1)], [.int .i64 0, .int .i64 0]⟩),
 (106, ⟨1, .slice 25, [.slice none 0 0]⟩),
 (107, ⟨1, .slice 27, [.slice none 0 0]⟩),
 (131, ⟨66, .struct [(0, 24), (24, 2), (26, 7), (33, 13), (46, 10), (56, 1), (57, 1), (58, 1), (59, 1), (60, 1), (61, 1), (62, 3), (65, 1)], [.slice none 0 0, .slice none 0 0, .slice none 0 0, .slice none 0 0, .slice none 0 0, .slice none 0 0, .slice none 0 0, .slice none 0 0, .slice none 0 0, .slice none 0 0, .slice none 0 0, .slice none 0 0, .slice none 0 0, .slice none 0 0, .slice none 0 0, .slice none 0 0, .slice none 0 0, .slice none 0 0, .slice none 0 0, .slice none 0 0, .int .i64 0, .int .i64 0, .int .i64 0, .int .i64 0, .slice none 0 0, .int .i64 0, .int .i64 0, .int .i64 0, .int .i64 0, .int .i64 0, .int .i64 0, .int .i64 0, .int .i64 0, .int .i64 0, .int .i64 0, .bool false, .int .i64 0, .slice none 0 0, .bool false, .bool false, .int .i64 0, .int .i64 0, .slice none 0 0, .int .i64 0, .int .i64 0, .int .i64 0, .int .i64 0, .int .i64 0, .int .i64 0, .int .i64 0, .int .i64 0, .int .i64 0, .int .i64 0, .int .i64 0, .slice none 0 0, .slice none 0 0, .int .i64 0, .int .i64 0, .int .i64 0, .int .i64 0, .slice none 0 0, .int .i64 0, .int .i64 0, .slice none 0 0, .int .i64 0, .int .i64 0]⟩),
 (163, ⟨3, .struct [(0, 1), (1, 1), (2, 1)], [.int .i64 0, .int .i64 0, .int .i64 0]⟩),
 (199, ⟨1, .int .u64, [.int .u64 0]⟩),
 (222, ⟨1, .int .u32, [.int .u32 0]⟩),
 (225, ⟨1, .int .u64, [.int .u64 0]⟩)]
theorem ti3 : TIok Tryz.prog 3 ⟨1, .int .i64, [.int .i64 0]⟩ := ⟨Tryz.t3, _, by kernel_rfl, rfl, Tryz.underlying3, rfl, ⟨_, rfl, rfl⟩, Nat.le_of_ble_eq_true rfl⟩
theorem ti4 : TIok Tryz.prog 4 ⟨1, .bool, [.bool false]⟩ := ⟨Tryz.t4, _, by kernel_rfl, rfl, Tryz.underlying4, rfl, ⟨_, rfl, rfl⟩, Nat.le_of_ble_eq_true rfl⟩
theorem ti5 : TIok Tryz.prog 5 ⟨1, .int .u8, [.int .u8 0]⟩ := ⟨Tryz.t5, _, by kernel_rfl, rfl, Tryz.underlying5, rfl, ⟨_, rfl, rfl⟩, Nat.le_of_ble_eq_true rfl⟩
theorem ti22 : TIok Tryz.prog 22 ⟨1, .slice 3, [.slice none 0 0]⟩ := ⟨Tryz.t22, _, by kernel_rfl, rfl, Tryz.underlying22, rfl, ⟨_, rfl, rfl⟩, Nat.le_of_ble_eq_true rfl⟩
theorem ti23 : TIok Tryz.prog 23 ⟨1, .slice 22, [.slice none 0 0]⟩ := ⟨Tryz.t23, _, by kernel_rfl, rfl, Tryz.underlying23, rfl, ⟨_, rfl, rfl⟩, Nat.le_of_ble_eq_true rfl⟩
theorem ti25 : TIok Tryz.prog 25 ⟨3, .struct [(0, 1), (1, 1), (2, 1)], [.slice none 0 0, .slice none 0 0, .slice none 0 0]⟩ := by
 refine ⟨Tryz.t25, _, by kernel_rfl, rfl, Tryz.underlying25, ⟨_, rfl, rfl, fun f o n h => ?_⟩, ⟨_, rfl, rfl⟩, Nat.le_of_ble_eq_true rfl⟩
 match f, h with
 | 0, h => cases h; exact ⟨_, Tryz.t22, rfl, rfl, by kernel_rfl, rfl⟩
 | 1, h => cases h; exact ⟨_, Tryz.t22, rfl, rfl, by kernel_rfl, rfl⟩
 | 2, h => cases h; exact ⟨_, Tryz.t23, rfl, rfl, by kernel_rfl, rfl⟩
 | _ + 3, h => simp at h
theorem ti27 : TIok Tryz.prog 27 ⟨2, .struct [(0, 1), (1, 1)], [.slice none 0 0, .slice none 0 0]⟩ := by
 refine ⟨Tryz.t27, _, by kernel_rfl, rfl, Tryz.underlying27, ⟨_, rfl, rfl, fun f o n h => ?_⟩, ⟨_, rfl, rfl⟩, Nat.le_of_ble_eq_true rfl⟩
 match f, h with
 | 0, h => cases h; exact ⟨_, Tryz.t22, rfl, rfl, by kernel_rfl, rfl⟩
 | 1, h => cases h; exact ⟨_, Tryz.t22, rfl, rfl, by kernel_rfl, rfl⟩
 | _ + 2, h => simp at h
theorem ti29 : TIok Tryz.prog 29 ⟨4, .struct [(0, 1), (1, 1), (2, 1), (3, 1)], [.int .i64 0, .int .i64 0, .int .i64 0, .int .i64 0]⟩ := by
 refine ⟨Tryz.t29, _, by kernel_rfl, rfl, Tryz.underlying29, ⟨_, rfl, rfl, fun f o n h => ?_⟩, ⟨_, rfl, rfl⟩, Nat.le_of_ble_eq_true rfl⟩
 match f, h with
 | 0, h => cases h; exact ⟨_, Tryz.t3, rfl, rfl, by kernel_rfl, rfl⟩
 | 1, h => cases h; exact ⟨_, Tryz.t3, rfl, rfl, by kernel_rfl, rfl⟩
 | 2, h => cases h; exact ⟨_, Tryz.t3, rfl, rfl, by kernel_rfl, rfl⟩
 | 3, h => cases h; exact ⟨_, Tryz.t3, rfl, rfl, by kernel_rfl, rfl⟩
 | _ + 4, h => simp at h
theorem ti31 : TIok Tryz.prog 31 ⟨24, .struct [(0, 3), (3, 3), (6, 3), (9, 3), (12, 2), (14, 2), (16, 2), (18, 2), (20, 4)], [.slice none 0 0, .slice none 0 0, .slice none 0 0, .slice none 0 0, .slice none 0 0, .slice none 0 0, .slice none 0 0, .slice none 0 0, .slice none 0 0, .slice none 0 0, .slice none 0 0, .slice none 0 0, .slice none 0 0, .slice none 0 0, .slice none 0 0, .slice none 0 0, .slice none 0 0, .slice none 0 0, .slice none 0 0, .slice none 0 0, .int .i64 0, .int .i64 0, .int .i64 0, .int .i64 0]⟩ := by
 refine ⟨Tryz.t31, _, by kernel_rfl, rfl, Tryz.underlying31, ⟨_, rfl, rfl, fun f o n h => ?_⟩, ⟨_, rfl, rfl⟩, Nat.le_of_ble_eq_true rfl⟩
 match f, h with
 | 0, h => cases h; exact ⟨_, Tryz.t25, rfl, rfl, by kernel_rfl, rfl⟩
 | 1, h => cases h; exact ⟨_, Tryz.t25, rfl, rfl, by kernel_rfl, rfl⟩
 | 2, h => cases h; exact ⟨_, Tryz.t25, rfl, rfl, by kernel_rfl, rfl⟩
 | 3, h => cases h; exact ⟨_, Tryz.t25, rfl, rfl, by kernel_rfl, rfl⟩
 | 4, h => cases h; exact ⟨_, Tryz.t27, rfl, rfl, by kernel_rfl, rfl⟩
 | 5, h => cases h; exact ⟨_, Tryz.t27, rfl, rfl, by kernel_rfl, rfl⟩
 | 6, h => cases h; exact ⟨_, Tryz.t27, rfl, rfl, by kernel_rfl, rfl⟩
 | 7, h => cases h; exact ⟨_, Tryz.t27, rfl, rfl, by kernel_rfl, rfl⟩
 | 8, h => cases h; exact ⟨_, Tryz.t29, rfl, rfl, by kernel_rfl, rfl⟩
 | _ + 9, h => simp at h
theorem ti33 : TIok Tryz.prog 33 ⟨2, .struct [(0, 1), (1, 1)], [.slice none 0 0, .int .i64 0]⟩ := by
 refine ⟨Tryz.t33, _, by kernel_rfl, rfl, Tryz.underlying33, ⟨_, rfl, rfl, fun f o n h => ?_⟩, ⟨_, rfl, rfl⟩, Nat.le_of_ble_eq_true rfl⟩
 match f, h with
 | 0, h => cases h; exact ⟨_, Tryz.t22, rfl, rfl, by kernel_rfl, rfl⟩
 | 1, h => cases h; exact ⟨_, Tryz.t3, rfl, rfl, by kernel_rfl, rfl⟩
 | _ + 2, h => simp at h
theorem ti35 : TIok Tryz.prog 35 ⟨3, .struct [(0, 1), (1, 1), (2, 1)], [.int .i64 0, .int .i64 0, .bool false]⟩ := by
 refine ⟨Tryz.t35, _, by kernel_rfl, rfl, Tryz.underlying35, ⟨_, rfl, rfl, fun f o n h => ?_⟩, ⟨_, rfl, rfl⟩, Nat.le_of_ble_eq_true rfl⟩
 match f, h with
 | 0, h => cases h; exact ⟨_, Tryz.t3, rfl, rfl, by kernel_rfl, rfl⟩
 | 1, h => cases h; exact ⟨_, Tryz.t3, rfl, rfl, by kernel_rfl, rfl⟩
 | 2, h => cases h; exact ⟨_, Tryz.t4, rfl, rfl, by kernel_rfl, rfl⟩
 | _ + 3, h => simp at h
theorem ti37 : TIok Tryz.prog 37 ⟨1, .struct [(0, 1)], [.int .i64 0]⟩ := by
 refine ⟨Tryz.t37, _, by kernel_rfl, rfl, Tryz.underlying37, ⟨_, rfl, rfl, fun f o n h => ?_⟩, ⟨_, rfl, rfl⟩, Nat.le_of_ble_eq_true rfl⟩
 match f, h with
 | 0, h => cases h; exact ⟨_, Tryz.t3, rfl, rfl, by kernel_rfl, rfl⟩
 | _ + 1, h => simp at h
theorem ti38 : TIok Tryz.prog 38 ⟨1, .slice 95, [.slice none 0 0]⟩ := ⟨Tryz.t38, _, by kernel_rfl, rfl, Tryz.underlying38, rfl, ⟨_, rfl, rfl⟩, Nat.le_of_ble_eq_true rfl⟩
theorem ti39 : TIok Tryz.prog 39 ⟨1, .slice 105, [.slice none 0 0]⟩ := ⟨Tryz.t39, _, by kernel_rfl, rfl, Tryz.underlying39, rfl, ⟨_, rfl, rfl⟩, Nat.le_of_ble_eq_true rfl⟩
theorem ti41 : TIok Tryz.prog 41 ⟨5, .struct [(0, 1), (1, 1), (2, 1), (3, 1), (4, 1)], [.bool false, .bool false, .int .i64 0, .int .i64 0, .slice none 0 0]⟩ := by
 refine ⟨Tryz.t41, _, by kernel_rfl, rfl, Tryz.underlying41, ⟨_, rfl, rfl, fun f o n h => ?_⟩, ⟨_, rfl, rfl⟩, Nat.le_of_ble_eq_true rfl⟩
 match f, h with
 | 0, h => cases h; exact ⟨_, Tryz.t4, rfl, rfl, by kernel_rfl, rfl⟩
 | 1, h => cases h; exact ⟨_, Tryz.t4, rfl, rfl, by kernel_rfl, rfl⟩
 | 2, h => cases h; exact ⟨_, Tryz.t3, rfl, rfl, by kernel_rfl, rfl⟩
 | 3, h => cases h; exact ⟨_, Tryz.t3, rfl, rfl, by kernel_rfl, rfl⟩
 | 4, h => cases h; exact ⟨_, Tryz.t39, rfl, rfl, by kernel_rfl, rfl⟩
 | _ + 5, h => simp at h
theorem ti43 : TIok Tryz.prog 43 ⟨2, .struct [(0, 1), (1, 1)], [.int .i64 0, .int .i64 0]⟩ := by
 refine ⟨Tryz.t43, _, by kernel_rfl, rfl, Tryz.underlying43, ⟨_, rfl, rfl, fun f o n h => ?_⟩, ⟨_, rfl, rfl⟩, Nat.le_of_ble_eq_true rfl⟩
 match f, h with
 | 0, h => cases h; exact ⟨_, Tryz.t3, rfl, rfl, by kernel_rfl, rfl⟩
 | 1, h => cases h; exact ⟨_, Tryz.t3, rfl, rfl, by kernel_rfl, rfl⟩
 | _ + 2, h => simp at h
theorem ti45 : TIok Tryz.prog 45 ⟨13, .struct [(0, 3), (3, 1), (4, 1), (5, 5), (10, 1), (11, 2)], [.int .i64 0, .int .i64 0, .bool false, .int .i64 0, .slice none 0 0, .bool false, .bool false, .int .i64 0, .int .i64 0, .slice none 0 0, .int .i64 0, .int .i64 0, .int .i64 0]⟩ := by
 refine ⟨Tryz.t45, _, by kernel_rfl, rfl, Tryz.underlying45, ⟨_, rfl, rfl, fun f o n h => ?_⟩, ⟨_, rfl, rfl⟩, Nat.le_of_ble_eq_true rfl⟩
 match f, h with
 | 0, h => cases h; exact ⟨_, Tryz.t35, rfl, rfl, by kernel_rfl, rfl⟩
 | 1, h => cases h; exact ⟨_, Tryz.t37, rfl, rfl, by kernel_rfl, rfl⟩
 | 2, h => cases h; exact ⟨_, Tryz.t38, rfl, rfl, by kernel_rfl, rfl⟩
 | 3, h => cases h; exact ⟨_, Tryz.t41, rfl, rfl, by kernel_rfl, rfl⟩
 | 4, h => cases h; exact ⟨_, Tryz.t3, rfl, rfl, by kernel_rfl, rfl⟩
 | 5, h => cases h; exact ⟨_, Tryz.t43, rfl, rfl, by kernel_rfl, rfl⟩
 | _ + 6, h => simp at h
theorem ti46 : TIok Tryz.prog 46 ⟨1, .slice 73, [.slice none 0 0]⟩ := ⟨Tryz.t46, _, by kernel_rfl, rfl, Tryz.underlying46, rfl, ⟨_, rfl, rfl⟩, Nat.le_of_ble_eq_true rfl⟩
theorem ti48 : TIok Tryz.prog 48 ⟨10, .struct [(0, 1), (1, 1), (2, 1), (3, 1), (4, 1), (5, 1), (6, 1), (7, 1), (8, 1), (9, 1)], [.int .i64 0, .int .i64 0, .int .i64 0, .int .i64 0, .int .i64 0, .int .i64 0, .int .i64 0, .int .i64 0, .slice none 0 0, .slice none 0 0]⟩ := by
 refine ⟨Tryz.t48, _, by kernel_rfl, rfl, Tryz.underlying48, ⟨_, rfl, rfl, fun f o n h => ?_⟩, ⟨_, rfl, rfl⟩, Nat.le_of_ble_eq_true rfl⟩
 match f, h with
 | 0, h => cases h; exact ⟨_, Tryz.t3, rfl, rfl, by kernel_rfl, rfl⟩
 | 1, h => cases h; exact ⟨_, Tryz.t3, rfl, rfl, by kernel_rfl, rfl⟩
 | 2, h => cases h; exact ⟨_, Tryz.t3, rfl, rfl, by kernel_rfl, rfl⟩
 | 3, h => cases h; exact ⟨_, Tryz.t3, rfl, rfl, by kernel_rfl, rfl⟩
 | 4, h => cases h; exact ⟨_, Tryz.t3, rfl, rfl, by kernel_rfl, rfl⟩
 | 5, h => cases h; exact ⟨_, Tryz.t3, rfl, rfl, by kernel_rfl, rfl⟩
 | 6, h => cases h; exact ⟨_, Tryz.t3, rfl, rfl, by kernel_rfl, rfl⟩
 | 7, h => cases h; exact ⟨_, Tryz.t3, rfl, rfl, by kernel_rfl, rfl⟩
 | 8, h => cases h; exact ⟨_, Tryz.t22, rfl, rfl, by kernel_rfl, rfl⟩
 | 9, h => cases h; exact ⟨_, Tryz.t46, rfl, rfl, by kernel_rfl, rfl⟩
 | _ + 10, h => simp at h
theorem ti52 : TIok Tryz.prog 52 ⟨1, .int .i64, [.int .i64 0]⟩ := ⟨Tryz.t52, _, by kernel_rfl, rfl, Tryz.underlying52, rfl, ⟨_, rfl, rfl⟩, Nat.le_of_ble_eq_true rfl⟩
theorem ti62 : TIok Tryz.prog 62 ⟨7, .struct [(0, 1), (1, 1), (2, 1), (3, 1), (4, 1), (5, 1), (6, 1)], [.int .i64 0, .int .i64 0, .int .i64 0, .int .i64 0, .int .i64 0, .int .i64 0, .int .i64 0]⟩ := by
 refine ⟨Tryz.t62, _, by kernel_rfl, rfl, Tryz.underlying62, ⟨_, rfl, rfl, fun f o n h => ?_⟩, ⟨_, rfl, rfl⟩, Nat.le_of_ble_eq_true rfl⟩
 match f, h with
 | 0, h => cases h; exact ⟨_, Tryz.t3, rfl, rfl, by kernel_rfl, rfl⟩
 | 1, h => cases h; exact ⟨_, Tryz.t3, rfl, rfl, by kernel_rfl, rfl⟩
 | 2, h => cases h; exact ⟨_, Tryz.t3, rfl, rfl, by kernel_rfl, rfl⟩
 | 3, h => cases h; exact ⟨_, Tryz.t3, rfl, rfl, by kernel_rfl, rfl⟩
 | 4, h => cases h; exact ⟨_, Tryz.t3, rfl, rfl, by kernel_rfl, rfl⟩
 | 5, h => cases h; exact ⟨_, Tryz.t3, rfl, rfl, by kernel_rfl, rfl⟩
 | 6, h => cases h; exact ⟨_, Tryz.t3, rfl, rfl, by kernel_rfl, rfl⟩
 | _ + 7, h => simp at h
theorem ti63 : TIok Tryz.prog 63 ⟨1, .slice 79, [.slice none 0 0]⟩ := ⟨Tryz.t63, _, by kernel_rfl, rfl, Tryz.underlying63, rfl, ⟨_, rfl, rfl⟩, Nat.le_of_ble_eq_true rfl⟩
theorem ti65 : TIok Tryz.prog 65 ⟨3, .struct [(0, 1), (1, 1), (2, 1)], [.int .i64 0, .slice none 0 0, .int .i64 0]⟩ := by
 refine ⟨Tryz.t65, _, by kernel_rfl, rfl, Tryz.underlying65, ⟨_, rfl, rfl, fun f o n h => ?_⟩, ⟨_, rfl, rfl⟩, Nat.le_of_ble_eq_true rfl⟩
 match f, h with
 | 0, h => cases h; exact ⟨_, Tryz.t3, rfl, rfl, by kernel_rfl, rfl⟩
 | 1, h => cases h; exact ⟨_, Tryz.t63, rfl, rfl, by kernel_rfl, rfl⟩
 | 2, h => cases h; exact ⟨_, Tryz.t3, rfl, rfl, by kernel_rfl, rfl⟩
 | _ + 3, h => simp at h
theorem ti73 : TIok Tryz.prog 73 ⟨4, .struct [(0, 1), (1, 1), (2, 1), (3, 1)], [.int .i64 0, .int .i64 0, .int .i64 0, .int .i64 0]⟩ := by
 refine ⟨Tryz.t73, _, by kernel_rfl, rfl, Tryz.underlying73, ⟨_, rfl, rfl, fun f o n h => ?_⟩, ⟨_, rfl, rfl⟩, Nat.le_of_ble_eq_true rfl⟩
 match f, h with
 | 0, h => cases h; exact ⟨_, Tryz.t3, rfl, rfl, by kernel_rfl, rfl⟩
 | 1, h => cases h; exact ⟨_, Tryz.t3, rfl, rfl, by kernel_rfl, rfl⟩
 | 2, h => cases h; exact ⟨_, Tryz.t3, rfl, rfl, by kernel_rfl, rfl⟩
 | 3, h => cases h; exact ⟨_, Tryz.t3, rfl, rfl, by kernel_rfl, rfl⟩
 | _ + 4, h => simp at h
theorem ti79 : TIok Tryz.prog 79 ⟨7, .struct [(0, 1), (1, 1), (2, 1), (3, 1), (4, 1), (5, 1), (6, 1)], [.int .i64 0, .int .i64 0, .int .i64 0, .int .i64 0, .int .i64 0, .int .i64 0, .int .i64 0]⟩ := by
 refine ⟨Tryz.t79, _, by kernel_rfl, rfl, Tryz.underlying79, ⟨_, rfl, rfl, fun f o n h => ?_⟩, ⟨_, rfl, rfl⟩, Nat.le_of_ble_eq_true rfl⟩
 match f, h with
 | 0, h => cases h; exact ⟨_, Tryz.t3, rfl, rfl, by kernel_rfl, rfl⟩
 | 1, h => cases h; exact ⟨_, Tryz.t3, rfl, rfl, by kernel_rfl, rfl⟩
 | 2, h => cases h; exact ⟨_, Tryz.t3, rfl, rfl, by kernel_rfl, rfl⟩
 | 3, h => cases h; exact ⟨_, Tryz.t3, rfl, rfl, by kernel_rfl, rfl⟩
 | 4, h => cases h; exact ⟨_, Tryz.t3, rfl, rfl, by kernel_rfl, rfl⟩
 | 5, h => cases h; exact ⟨_, Tryz.t3, rfl, rfl, by kernel_rfl, rfl⟩
 | 6, h => cases h; exact ⟨_, Tryz.t3, rfl, rfl, by kernel_rfl, rfl⟩
 | _ + 7, h => simp at h
theorem ti82 : TIok Tryz.prog 82 ⟨1, .slice 4, [.slice none 0 0]⟩ := ⟨Tryz.t82, _, by kernel_rfl, rfl, Tryz.underlying82, rfl, ⟨_, rfl, rfl⟩, Nat.le_of_ble_eq_true rfl⟩
theorem ti85 : TIok Tryz.prog 85 ⟨1, .slice 48, [.slice none 0 0]⟩ := ⟨Tryz.t85, _, by kernel_rfl, rfl, Tryz.underlying85, rfl, ⟨_, rfl, rfl⟩, Nat.le_of_ble_eq_true rfl⟩
theorem ti95 : TIok Tryz.prog 95 ⟨3, .struct [(0, 1), (1, 1), (2, 1)], [.int .i64 0, .int .i64 0, .int .i64 0]⟩ := by
 refine ⟨Tryz.t95, _, by kernel_rfl, rfl, Tryz.underlying95, ⟨_, rfl, rfl, fun f o n h => ?_⟩, ⟨_, rfl, rfl⟩, Nat.le_of_ble_eq_true rfl⟩
 match f, h with
 | 0, h => cases h; exact ⟨_, Tryz.t3, rfl, rfl, by kernel_rfl, rfl⟩
 | 1, h => cases h; exact ⟨_, Tryz.t3, rfl, rfl, by kernel_rfl, rfl⟩
 | 2, h => cases h; exact ⟨_, Tryz.t3, rfl, rfl, by kernel_rfl, rfl⟩
 | _ + 3, h => simp at h
theorem ti105 : TIok Tryz.prog 105 ⟨2, .struct [(0, 1), (1, 1)], [.int .i64 0, .int .i64 0]⟩ := by
 refine ⟨Tryz.t105, _, by kernel_rfl, rfl, Tryz.underlying105, ⟨_, rfl, rfl, fun f o n h => ?_⟩, ⟨_, rfl, rfl⟩, Nat.le_of_ble_eq_true rfl⟩
 match f, h with
 | 0, h => cases h; exact ⟨_, Tryz.t3, rfl, rfl, by kernel_rfl, rfl⟩
 | 1, h => cases h; exact ⟨_, Tryz.t3, rfl, rfl, by kernel_rfl, rfl⟩
 | _ + 2, h => simp at h
theorem ti106 : TIok Tryz.prog 106 ⟨1, .slice 25, [.slice none 0 0]⟩ := ⟨Tryz.t106, _, by kernel_rfl, rfl, Tryz.underlying106, rfl, ⟨_, rfl, rfl⟩, Nat.le_of_ble_eq_true rfl⟩
theorem ti107 : TIok Tryz.prog 107 ⟨1, .slice 27, [.slice none 0 0]⟩ := ⟨Tryz.t107, _, by kernel_rfl, rfl, Tryz.underlying107, rfl, ⟨_, rfl, rfl⟩, Nat.le_of_ble_eq_true rfl⟩
theorem ti131 : TIok Tryz.prog 131 ⟨66, .struct [(0, 24), (24, 2), (26, 7), (33, 13), (46, 10), (56, 1), (57, 1), (58, 1), (59, 1), (60, 1), (61, 1), (62, 3), (65, 1)], [.slice none 0 0, .slice none 0 0, .slice none 0 0, .slice none 0 0, .slice none 0 0, .slice none 0 0, .slice none 0 0, .slice none 0 0, .slice none 0 0, .slice none 0 0, .slice none 0 0, .slice none 0 0, .slice none 0 0, .slice none 0 0, .slice none 0 0, .slice none 0 0, .slice none 0 0, .slice none 0 0, .slice none 0 0, .slice none 0 0, .int .i64 0, .int .i64 0, .int .i64 0, .int .i64 0, .slice none 0 0, .int .i64 0, .int .i64 0, .int .i64 0, .int .i64 0, .int .i64 0, .int .i64 0, .int .i64 0, .int .i64 0, .int .i64 0, .int .i64 0, .bool false, .int .i64 0, .slice none 0 0, .bool false, .bool false, .int .i64 0, .int .i64 0, .slice none 0 0, .int .i64 0, .int .i64 0, .int .i64 0, .int .i64 0, .int .i64 0, .int .i64 0, .int .i64 0, .int .i64 0, .int .i64 0, .int .i64 0, .int .i64 0, .slice none 0 0, .slice none 0 0, .int .i64 0, .int .i64 0, .int .i64 0, .int .i64 0, .slice none 0 0, .int .i64 0, .int .i64 0, .slice none 0 0, .int .i64 0, .int .i64 0]⟩ := by
 refine ⟨Tryz.t131, _, by kernel_rfl, rfl, Tryz.underlying131, ⟨_, rfl, rfl, fun f o n h => ?_⟩, ⟨_, rfl, rfl⟩, Nat.le_of_ble_eq_true rfl⟩
 match f, h with
 | 0, h => cases h; exact ⟨_, Tryz.t31, rfl, rfl, by kernel_rfl, rfl⟩
 | 1, h => cases h; exact ⟨_, Tryz.t33, rfl, rfl, by kernel_rfl, rfl⟩
 | 2, h => cases h; exact ⟨_, Tryz.t62, rfl, rfl, by kernel_rfl, rfl⟩
 | 3, h => cases h; exact ⟨_, Tryz.t45, rfl, rfl, by kernel_rfl, rfl⟩
 | 4, h => cases h; exact ⟨_, Tryz.t48, rfl, rfl, by kernel_rfl, rfl⟩
 | 5, h => cases h; exact ⟨_, Tryz.t3, rfl, rfl, by kernel_rfl, rfl⟩
 | 6, h => cases h; exact ⟨_, Tryz.t3, rfl, rfl, by kernel_rfl, rfl⟩
 | 7, h => cases h; exact ⟨_, Tryz.t3, rfl, rfl, by kernel_rfl, rfl⟩
 | 8, h => cases h; exact ⟨_, Tryz.t3, rfl, rfl, by kernel_rfl, rfl⟩
 | 9, h => cases h; exact ⟨_, Tryz.t82, rfl, rfl, by kernel_rfl, rfl⟩
 | 10, h => cases h; exact ⟨_, Tryz.t3, rfl, rfl, by kernel_rfl, rfl⟩
 | 11, h => cases h; exact ⟨_, Tryz.t65, rfl, rfl, by kernel_rfl, rfl⟩
 | 12, h => cases h; exact ⟨_, Tryz.t52, rfl, rfl, by kernel_rfl, rfl⟩
 | _ + 13, h => simp at h
theorem ti163 : TIok Tryz.prog 163 ⟨3, .struct [(0, 1), (1, 1), (2, 1)], [.int .i64 0, .int .i64 0, .int .i64 0]⟩ := by
 refine ⟨Tryz.t163, _, by kernel_rfl, rfl, Tryz.underlying163, ⟨_, rfl, rfl, fun f o n h => ?_⟩, ⟨_, rfl, rfl⟩, Nat.le_of_ble_eq_true rfl⟩
 match f, h with
 | 0, h => cases h; exact ⟨_, Tryz.t3, rfl, rfl, by kernel_rfl, rfl⟩
 | 1, h => cases h; exact ⟨_, Tryz.t3, rfl, rfl, by kernel_rfl, rfl⟩
 | 2, h => cases h; exact ⟨_, Tryz.t3, rfl, rfl, by kernel_rfl, rfl⟩
 | _ + 3, h => simp at h
theorem ti199 : TIok Tryz.prog 199 ⟨1, .int .u64, [.int .u64 0]⟩ := ⟨Tryz.t199, _, by kernel_rfl, rfl, Tryz.underlying199, rfl, ⟨_, rfl, rfl⟩, Nat.le_of_ble_eq_true rfl⟩
theorem ti222 : TIok Tryz.prog 222 ⟨1, .int .u32, [.int .u32 0]⟩ := ⟨Tryz.t222, _, by kernel_rfl, rfl, Tryz.underlying222, rfl, ⟨_, rfl, rfl⟩, Nat.le_of_ble_eq_true rfl⟩
theorem ti225 : TIok Tryz.prog 225 ⟨1, .int .u64, [.int .u64 0]⟩ := ⟨Tryz.t225, _, by kernel_rfl, rfl, Tryz.underlying225, rfl, ⟨_, rfl, rfl⟩, Nat.le_of_ble_eq_true rfl⟩
theorem htab : TabOk Tryz.prog tab := by
 intro t ti h
 unfold tab at h
 refine tab_step h ti3 fun h => ?_
 refine tab_step h ti4 fun h => ?_
 refine tab_step h ti5 fun h => ?_
 refine tab_step h ti22 fun h => ?_
 refine tab_step h ti23 fun h => ?_
 refine tab_step h ti25 fun h => ?_
 refine tab_step h ti27 fun h => ?_
 refine tab_step h ti29 fun h => ?_
 refine tab_step h ti31 fun h => ?_
 refine tab_step h ti33 fun h => ?_
 refine tab_step h ti35 fun h => ?_
 refine tab_step h ti37 fun h => ?_
 refine tab_step h ti38 fun h => ?_
 refine tab_step h ti39 fun h => ?_
 refine tab_step h ti41 fun h => ?_
 refine tab_step h ti43 fun h => ?_
 refine tab_step h ti45 fun h => ?_
 refine tab_step h ti46 fun h => ?_
 refine tab_step h ti48 fun h => ?_
 refine tab_step h ti52 fun h => ?_
 refine tab_step h ti62 fun h => ?_
 refine tab_step h ti63 fun h => ?_
 refine tab_step h ti65 fun h => ?_
 refine tab_step h ti73 fun h => ?_
 refine tab_step h ti79 fun h => ?_
 refine tab_step h ti82 fun h => ?_
 refine tab_step h ti85 fun h => ?_
 refine tab_step h ti95 fun h => ?_
 refine tab_step h ti105 fun h => ?_
 refine tab_step h ti106 fun h => ?_
 refine tab_step h ti107 fun h => ?_
 refine tab_step h ti131 fun h => ?_
 refine tab_step h ti163 fun h => ?_
 refine tab_step h ti199 fun h => ?_
 refine tab_step h ti222 fun h => ?_
 refine tab_step h ti225 fun h => ?_
 cases h
theorem eqi_35 (d : Nat) (w : World) (a0 : Int) (a1 : Int) (a2 : Bool) (b0 : Int) (b1 : Int) (b2 : Bool) : (Op.equalIn (d + 2) 35 (.agg #[.int .i64 a0, .int .i64 a1, .bool a2]) (.agg #[.int .i64 b0, .int .i64 b1, .bool b2])).run Tryz.prog w = .ok ((a0 == b0) && ((a1 == b1) && ((a2 == b2) && true))) w :=
 eq_struct (d := d + 1) (fs := [⟨ "Value", 3, 0, false, "", "", 0⟩, ⟨ "Differ", 3, 1, false, "", "", 8⟩, ⟨ "Fault", 4, 2, false, "", "", 16⟩]) (by kernel_rfl) (by kernel_rfl) (by kernel_rfl) (eqf_cons (by decide) (part_one ti3 rfl rfl) (part_one ti3 rfl rfl) (run_equalIn_int w _ 3 _ _ _ _ Tryz.underlying3) (eqf_cons (by decide) (part_one ti3 rfl rfl) (part_one ti3 rfl rfl) (run_equalIn_int w _ 3 _ _ _ _ Tryz.underlying3) (eqf_cons (by decide) (part_one ti4 rfl rfl) (part_one ti4 rfl rfl) (run_equalIn_bool' w _ 4 _ _ Tryz.underlying4) (eqf_nil))))
theorem eqv_35 (a0 : Int) (a1 : Int) (a2 : Bool) (b0 : Int) (b1 : Int) (b2 : Bool) : EqOk Tryz.prog 35 [.int .i64 a0, .int .i64 a1, .bool a2] [.int .i64 b0, .int .i64 b1, .bool b2] ((a0 == b0) && ((a1 == b1) && ((a2 == b2) && true))) := ⟨fun w => eqi_35 9998 w a0 a1 a2 b0 b1 b2, by kernel_rfl⟩
theorem eqi_37 (d : Nat) (w : World) (a0 : Int) (b0 : Int) : (Op.equalIn (d + 2) 37 (.agg #[.int .i64 a0]) (.agg #[.int .i64 b0])).run Tryz.prog w = .ok ((a0 == b0) && true) w :=
 eq_struct (d := d + 1) (fs := [⟨ "Sum", 3, 0, false, "", "", 0⟩]) (by kernel_rfl) (by kernel_rfl) (by kernel_rfl) (eqf_cons (by decide) (part_one ti3 rfl rfl) (part_one ti3 rfl rfl) (run_equalIn_int w _ 3 _ _ _ _ Tryz.underlying3) (eqf_nil))
theorem eqv_37 (a0 : Int) (b0 : Int) : EqOk Tryz.prog 37 [.int .i64 a0] [.int .i64 b0] ((a0 == b0) && true) := ⟨fun w => eqi_37 9998 w a0 b0, by kernel_rfl⟩
theorem eqi_43 (d : Nat) (w : World) (a0 : Int) (a1 : Int) (b0 : Int) (b1 : Int) : (Op.equalIn (d + 2) 43 (.agg #[.int .i64 a0, .int .i64 a1]) (.agg #[.int .i64 b0, .int .i64 b1])).run Tryz.prog w = .ok ((a0 == b0) && ((a1 == b1) && true)) w :=
 eq_struct (d := d + 1) (fs := [⟨ "Torque", 3, 0, false, "", "", 0⟩, ⟨ "Source", 3, 1, false, "", "", 8⟩]) (by kernel_rfl) (by kernel_rfl) (by kernel_rfl) (eqf_cons (by decide) (part_one ti3 rfl rfl) (part_one ti3 rfl rfl) (run_equalIn_int w _ 3 _ _ _ _ Tryz.underlying3) (eqf_cons (by decide) (part_one ti3 rfl rfl) (part_one ti3 rfl rfl) (run_equalIn_int w _ 3 _ _ _ _ Tryz.underlying3) (eqf_nil)))
theorem eqv_43 (a0 : Int) (a1 : Int) (b0 : Int) (b1 : Int) : EqOk Tryz.prog 43 [.int .i64 a0, .int .i64 a1] [.int .i64 b0, .int .i64 b1] ((a0 == b0) && ((a1 == b1) && true)) := ⟨fun w => eqi_43 9998 w a0 a1 b0 b1, by kernel_rfl⟩
theorem eqi_95 (d : Nat) (w : World) (a0 : Int) (a1 : Int) (a2 : Int) (b0 : Int) (b1 : Int) (b2 : Int) : (Op.equalIn (d + 2) 95 (.agg #[.int .i64 a0, .int .i64 a1, .int .i64 a2]) (.agg #[.int .i64 b0, .int .i64 b1, .int .i64 b2])).run Tryz.prog w = .ok ((a0 == b0) && ((a1 == b1) && ((a2 == b2) && true))) w :=
 eq_struct (d := d + 1) (fs := [⟨ "Retard", 3, 0, false, "", "", 0⟩, ⟨ "Noise", 3, 1, false, "", "", 8⟩, ⟨ "Quiet", 3, 2, false, "", "", 16⟩]) (by kernel_rfl) (by kernel_rfl) (by kernel_rfl) (eqf_cons (by decide) (part_one ti3 rfl rfl) (part_one ti3 rfl rfl) (run_equalIn_int w _ 3 _ _ _ _ Tryz.underlying3) (eqf_cons (by decide) (part_one ti3 rfl rfl) (part_one ti3 rfl rfl) (run_equalIn_int w _ 3 _ _ _ _ Tryz.underlying3) (eqf_cons (by decide) (part_one ti3 rfl rfl) (part_one ti3 rfl rfl) (run_equalIn_int w _ 3 _ _ _ _ Tryz.underlying3) (eqf_nil))))
theorem eqv_95 (a0 : Int) (a1 : Int) (a2 : Int) (b0 : Int) (b1 : Int) (b2 : Int) : EqOk Tryz.prog 95 [.int .i64 a0, .int .i64 a1, .int .i64 a2] [.int .i64 b0, .int .i64 b1, .int .i64 b2] ((a0 == b0) && ((a1 == b1) && ((a2 == b2) && true))) := ⟨fun w => eqi_95 9998 w a0 a1 a2 b0 b1 b2, by kernel_rfl⟩
theorem eqi_105 (d : Nat) (w : World) (a0 : Int) (a1 : Int) (b0 : Int) (b1 : Int) : (Op.equalIn (d + 2) 105 (.agg #[.int .i64 a0, .int .i64 a1]) (.agg #[.int .i64 b0, .int .i64 b1])).run Tryz.prog w = .ok ((a0 == b0) && ((a1 == b1) && true)) w :=
 eq_struct (d := d + 1) (fs := [⟨ "Value", 3, 0, false, "", "", 0⟩, ⟨ "Count", 3, 1, false, "", "", 8⟩]) (by kernel_rfl) (by kernel_rfl) (by kernel_rfl) (eqf_cons (by decide) (part_one ti3 rfl rfl) (part_one ti3 rfl rfl) (run_equalIn_int w _ 3 _ _ _ _ Tryz.underlying3) (eqf_cons (by decide) (part_one ti3 rfl rfl) (part_one ti3 rfl rfl) (run_equalIn_int w _ 3 _ _ _ _ Tryz.underlying3) (eqf_nil)))
theorem eqv_105 (a0 : Int) (a1 : Int) (b0 : Int) (b1 : Int) : EqOk Tryz.prog 105 [.int .i64 a0, .int .i64 a1] [.int .i64 b0, .int .i64 b1] ((a0 == b0) && ((a1 == b1) && true)) := ⟨fun w => eqi_105 9998 w a0 a1 b0 b1, by kernel_rfl⟩
set_option maxRecDepth 100000 in
theorem q433 (a : Int) : TieF Tryz.prog 118 [.t (tI a)] (q334 a) (fun r => .t (tB r)) := by
 refine TieF.intro htab 9 [.tmp 2] Tryz.call118 Tryz.func118 rfl rfl rfl (Nat.le_of_ble_eq_true rfl) fun w0 L => ?_
 refine TieS.seq (.region (.run 1 rfl (.nil (.seq ?_))))
 refine TieS.region (.run 3 rfl (.selAnd (v := decide (a < 46080)) 3 5 (fun b => ⟨[(8, .t (tB b))], []⟩) rfl ?_ ?_ ?_))
 ·exact TieO.run 3 rfl (.nil (.leaf ⟨rfl, .of rfl rfl⟩))
 ·exact TieO.run 3 rfl (.nil (.leaf ⟨rfl, .of rfl rfl⟩))
 exact TieO.run 1 rfl (.nil (.ret ⟨.inl rfl, rfl⟩))
set_option maxRecDepth 100000 in
theorem q364 (s : List Int) (v : Int) : TieF Tryz.prog 205 [.t (tS Pv.encI s), .t (tI v)] (q137 s v) (fun r => .t (tI r)) := by
 refine TieF.intro htab 19 [.tmp 4] Tryz.call205 Tryz.func205 rfl rfl rfl (Nat.le_of_ble_eq_true rfl) fun w0 L => ?_
 refine TieS.seq (.region (.run 1 rfl (.nil (.seq ?_))))
 refine TieS.seq (.region (.run 3 rfl (.nil (.block ?_))))
 refine TieS.loop (fun p => ⟨[(0, .t (tS Pv.encI s)), (1, .t (tI v)), (7, .t (tI (s.length : Int))), (8, .t (tI p.1))], []⟩) (fun b e σ' => match b with | .inl t => e = .exit 0 ∧ Sub ⟨[], []⟩ σ' | .inr t => e = .ret ∧ retT tab σ' [.tmp 4] = some (((fun r => .t (tI r)) : Int → T) t)) (.of rfl rfl) ?_ ?_
 ·rintro ⟨i, s2⟩
  refine TieS.seq (.region (.run 1 rfl (.nil (.seq ?_))))
  refine TieS.cond rfl ?_ ?_
  ·refine TieS.skip (.seq (TieX.sub (σ' := ⟨[(0, .t (tS Pv.encI s)), (1, .t (tI v)), (7, .t (tI (s.length : Int))), (8, .t (tI i))], []⟩) (.of rfl rfl) (TieS.bind (Q₁ := fun f e σ' => match f with | .next t => e = .normal ∧ Sub ⟨[(0, .t (tS Pv.encI s)), (1, .t (tI v)), (7, .t (tI (s.length : Int))), (8, .t (tI i))], []⟩ σ' | .brk t => e = .exit 0 ∧ Sub ⟨[], []⟩ σ' | .ret t => e = .ret ∧ retT tab σ' [.tmp 4] = some (((fun r => .t (tI r)) : Int → T) t)) ?_ ?_)))
   ·refine TieS.block (.seq (.region (.run 2 rfl (.nil ?_))))
    refine TieS.seq (.region (.run 3 rfl (.index rfl rfl rfl rfl rfl rfl rfl rfl (fun _ => rfl) fun x hx => .run 2 rfl ?_)))
    refine TieO.nil (.cond rfl ?_ ?_)
    ·exact TieS.seq (.region (.run 2 rfl (.nil (.ret ⟨rfl, rfl⟩))))
    ·exact TieS.skip (.endb (.leaf ⟨rfl, .of rfl rfl⟩))
   rintro (t | t | t) e σ' _ hq
   ·obtain ⟨rfl, hs⟩ := hq
    exact TieX.sub hs (TieS.region (.run 2 rfl (.nil (.leaf ⟨rfl, .of rfl rfl⟩))))
   ·obtain ⟨rfl, hs⟩ := hq
    exact TieX.exitOut rfl ⟨(fun h => by cases h), rfl, hs⟩
   ·obtain ⟨rfl, hs⟩ := hq
    exact TieX.ret ⟨(fun h => by cases h), rfl, hs⟩
  ·exact TieS.exitOut rfl ⟨(fun h => by cases h), rfl, .of rfl rfl⟩
 rintro (s3 | r2) e σ' _ hq
 ·obtain ⟨rfl, hs⟩ := hq
  refine TieX.exit rfl (TieX.sub hs ?_)
  exact TieS.seq (.region (.run 1 rfl (.nil (.ret ⟨.inl rfl, rfl⟩))))
 ·obtain ⟨rfl, hs⟩ := hq
  exact TieX.ret ⟨.inl rfl, hs⟩
set_option maxRecDepth 100000 in
theorem q316 (s : List Int) (v : Int) : TieF Tryz.prog 119 [.t (tS Pv.encI s), .t (tI v)] (q97 s v) (fun r => .t (tB r)) := by
 refine TieF.intro htab 9 [.tmp 4] Tryz.call119 Tryz.func119 rfl rfl rfl (Nat.le_of_ble_eq_true rfl) fun w0 L => ?_
 refine TieS.seq (.region (.run 1 rfl (.nil (.seq ?_))))
 refine TieS.region (.run 2 rfl (.call _ rfl rfl rfl (q364 s v) (fun _ => rfl) fun v2 => .run 2 rfl (.nil ?_)))
 exact TieS.ret ⟨.inl rfl, rfl⟩
set_option maxRecDepth 100000 in
theorem q323 (e2 : SEngine) : TieF Tryz.prog 30 [q186 e2] (q181 e2) (fun r => .t (tB r)) := by
 refine TieF.intro htab 30 [.tmp 2] Tryz.call30 Tryz.func30 rfl rfl rfl (Nat.le_of_ble_eq_true rfl) fun w0 L => ?_
 refine TieS.seq (.region (.run 2 rfl (.nil (.seq ?_))))
 refine TieS.region (.run 4 rfl (.nil (.seq (.seq ?_))))
 refine TieS.region (.run 3 rfl (.selOr (v := decide ((e2.Order.length : Int) > 8)) 3 10 (fun b => ⟨[(1, .ptr 1 0), (3, .t (tI (e2.Order.length : Int))), (13, .t (tB b))], [(1, .box [.t (tS Pv.encI e2.Order), .t (tI e2.First)])]⟩) rfl ?_ ?_ ?_))
 ·exact TieO.run 3 rfl (.nil (.leaf ⟨rfl, .of rfl rfl⟩))
 ·exact TieO.run 3 rfl (.nil (.leaf ⟨rfl, .of rfl rfl⟩))
 refine TieO.run 1 rfl (.bind 5 (fun b2 => ⟨[(1, .ptr 1 0), (3, .t (tI (e2.Order.length : Int))), (19, .t (tB b2))], [(1, .box [.t (tS Pv.encI e2.Order), .t (tI e2.First)])]⟩) (TieO.split 14 rfl ?_ ?_) fun b2 _ => ?_)
 ·exact TieO.run 5 rfl (.nil (.leaf ⟨rfl, .of rfl rfl⟩))
 ·exact TieO.run 2 rfl (.call _ rfl rfl rfl (q433 e2.First) (fun _ => rfl) fun v => .run 2 rfl (.nil (.leaf ⟨rfl, .of rfl rfl⟩)))
 refine TieO.nil (.cond rfl ?_ ?_)
 ·exact TieS.seq (.region (.run 1 rfl (.nil (.ret ⟨.inl rfl, rfl⟩))))
 ·refine TieS.skip (.seq (.seq (.region (.run 1 rfl ?_))))
  refine TieO.nil (.block (.loop (fun t => ⟨[(1, .ptr 1 0), (3, .t (tI (e2.Order.length : Int))), (4, .t (tI t))], [(1, .box [.t (tS Pv.encI e2.Order), .t (tI e2.First)])]⟩) (fun b e σ' => match b with | .inl t => e = .exit 0 ∧ Sub ⟨[], []⟩ σ' | .inr t => e = .ret ∧ retT tab σ' [.tmp 2] = some (((fun r => .t (tB r)) : Bool → T) t)) (.of rfl rfl) ?_ ?_))
  ·intro i
   refine TieS.seq (.seq (.region (.run 3 rfl (.nil ?_))))
   refine TieS.cond rfl ?_ ?_
   ·refine TieS.skip (.seq (.block (.seq (.region ?_))))
    refine TieO.run 3 rfl (.call _ rfl rfl rfl (q316 e2.Order i) (fun _ => rfl) fun v2 => .run 1 rfl (.nil (.cond rfl ?_ ?_)))
    ·exact TieS.seq (.region (.run 1 rfl (.nil (.ret ⟨(fun h => by cases h), rfl, rfl⟩))))
    ·refine TieS.skip (.endb (.region (.run 3 rfl (.nil ?_))))
     exact TieS.leaf ⟨rfl, .of rfl rfl⟩
   ·exact TieS.exitOut rfl ⟨(fun h => by cases h), rfl, .of rfl rfl⟩
  rintro (i2 | r2) e σ' _ hq
  ·obtain ⟨rfl, hs⟩ := hq
   refine TieX.exit rfl (TieX.sub hs ?_)
   exact TieS.seq (.region (.run 1 rfl (.nil (.ret ⟨.inl rfl, rfl⟩))))
  ·obtain ⟨rfl, hs⟩ := hq
   exact TieX.ret ⟨.inl rfl, hs⟩
set_option maxRecDepth 100000 in
def q383 : Go.Shelf.Ren := ⟨fun | 264 => 256 | n => n, fun | 46 => 199 | 53 => 225 | n => n, fun  | n => n⟩
open Go.Shelf in
theorem mul64L256 : Lays.n264 Tryz.prog q383 := {
 mixed := by kernel_rfl,
 f264 := Tryz.func256.trans (congrArg some (by kernel_rfl)),
 t46 := Tryz.underlying199,
 a46 := Tryz.isAgg199,
 z46 := Tryz.sizeOf199,
 v46 := Tryz.zeroValue199,
 t53 := Tryz.underlying225,
 a53 := Tryz.isAgg225,
 z53 := Tryz.sizeOf225,
 v53 := Tryz.zeroValue225 }
theorem q261 (x y : Int) : TieF Tryz.prog 256 [.t (tK .u64 x), .t (tK .u64 y)] (q172 x y) (fun r => .tup [.t (tK .u64 r.1), .t (tK .u64 r.2)]) :=
 mul64_tie (ρ := q383) mul64L256 Tryz.call256 x y
set_option maxRecDepth 100000 in
theorem q421 (x : Int) (y : Int) : TieF Tryz.prog 216 [.t (tK .u64 x), .t (tK .u64 y)] (q300 x y) (fun r => .tup [.t (tK .u64 r.1), .t (tK .u64 r.2)]) := by
 refine TieF.intro htab 30 [.tmp 4, .tmp 5] Tryz.call216 Tryz.func216 rfl rfl rfl (Nat.le_of_ble_eq_true rfl) fun w0 L => ?_
 refine TieS.seq (.region (.run 2 rfl (.nil (.seq ?_))))
 refine TieS.condR rfl (.skip (.seq (.region (.run 2 rfl ?_))))
 refine TieO.call _ rfl rfl rfl (q261 x y) (fun _ => rfl) fun r2 => .run 5 rfl (.nil (.seq (.region ?_)))
 exact TieO.run 4 rfl (.nil (.ret ⟨.inl rfl, rfl⟩))
set_option maxRecDepth 100000 in
theorem q317 (x : List SKnock) (count : Int) : TieF Tryz.prog 137 [.t (tS q14 x), .t (tI count)] (q98 x count) (fun r => .t (tS q14 r)) := by
 refine TieF.intro htab 48 [.tmp 4] Tryz.call137 Tryz.func137 rfl rfl rfl (Nat.le_of_ble_eq_true rfl) fun w0 L => ?_
 refine TieS.seq (.region (.run 1 rfl (.nil (.seq ?_))))
 refine TieS.seq (.region (.run 2 rfl (.nil (.bind (Q₁ := fun t e σ' => e = .normal ∧ Sub ⟨[(0, .t (tS q14 x)), (1, .t (tI count))], []⟩ σ') ?_ ?_))))
 ·refine TieS.cond rfl ?_ ?_
  ·exact TieS.region (.fail)
  ·exact TieS.skip (.leaf ⟨rfl, .of rfl rfl⟩)
 rintro s e σ' _ ⟨rfl, hs⟩
 refine TieX.sub hs (TieS.seq (.region (.run 5 rfl (.call _ rfl rfl rfl (q421 (IntKind.u64.wrap (x.length : Int)) (IntKind.u64.wrap count)) (fun _ => rfl) fun r2 => ?_))))
 refine TieO.run 5 rfl (.nil (.seq (.seq (.region ?_))))
 refine TieO.run 3 rfl (.selOr (v := decide (r2.2 > 9223372036854775807)) 3 23 (fun b => ⟨[(0, .t (tS q14 x)), (6, .t (tK .u64 r2.2)), (26, .t (tB b))], []⟩) rfl ?_ ?_ ?_)
 ·exact TieO.run 3 rfl (.nil (.leaf ⟨rfl, .of rfl rfl⟩))
 ·exact TieO.run 3 rfl (.nil (.leaf ⟨rfl, .of rfl rfl⟩))
 refine TieO.nil (.bind (Q₁ := fun t e σ' => e = .normal ∧ Sub ⟨[(0, .t (tS q14 x)), (6, .t (tK .u64 r2.2))], []⟩ σ') ?_ ?_)
 ·refine TieS.cond rfl ?_ ?_
  ·exact TieS.region (.fail)
  ·exact TieS.skip (.leaf ⟨rfl, .of rfl rfl⟩)
 rintro s2 e σ' _ ⟨rfl, hs⟩
 refine TieX.sub hs (TieS.seq (.region (.run 2 rfl (.makeO (enc := q14) 2240 (⟨0, 0, 0⟩ : SKnock) rfl rfl rfl rfl rfl rfl rfl rfl rfl rfl rfl rfl rfl fun l hl => ?_))))
 refine TieO.run 1 rfl (.nil (.seq (.region (.run 2 rfl ?_))))
 refine TieO.copyO (e2 := 0) (l := l) (r := x) rfl rfl rfl rfl (fun _ => rfl) (fun _ => rfl) rfl rfl (.inl rfl) rfl (.run 1 rfl (.nil (.seq (.block ?_))))
 refine TieS.loop (fun t => ⟨[(7, .own 2240), (8, .t (tI t.1))], [(2240, .rows 95 3 t.2.length (t.2.map q14))]⟩) (fun b e σ' => match b with | .inl t => e = .exit 0 ∧ Sub ⟨[(7, .own 2240)], [(2240, .rows 95 3 t.2.length (t.2.map q14))]⟩ σ' | .inr t => False) (.of rfl rfl) ?_ ?_
 ·intro s3
  refine TieS.seq (.seq (.region (.run 4 rfl (.nil ?_))))
  refine TieS.cond rfl ?_ ?_
  ·refine TieS.skip (.block (.bind (Q₁ := fun t e σ' => e = .normal ∧ Sub ⟨[(7, .own 2240), (8, .t (tI t.1))], [(2240, .rows 95 3 t.2.length (t.2.map q14))]⟩ σ') ?_ ?_))
   ·refine TieX.pre fun u hu => TieX.pre fun u2 hu2 => TieS.draws 8 (bm 10 0) (bm 10 255) ⟨[(7, .own 2240), (8, .t (tI s3.1)), (38, .t (tI s3.1)), (45, .t (tI ((min (Int.toNat s3.1 - Int.toNat 0) (Int.toNat (s3.2.length : Int) - Int.toNat s3.1) : Nat) : Int)))], [(2240, .rows 95 3 (copyVM s3.2 s3.1 (s3.2.length : Int) 0 s3.1).length ((copyVM s3.2 s3.1 (s3.2.length : Int) 0 s3.1).map q14))]⟩ mixed (fun _ _ _ h => by cases h.1) rfl rfl rfl rfl ?_ ?_
    ·refine TieA.have_ (fuel₁ := 3) (l₁ := (bm 10 127)) (σ₁ := ⟨[(7, .own 2240), (8, .t (tI s3.1)), (38, .t (tI s3.1)), (41, .vw 2240 (Int.toNat s3.1) (Int.toNat (s3.2.length : Int) - Int.toNat s3.1) 3), (44, .vw 2240 (Int.toNat 0) (Int.toNat s3.1 - Int.toNat 0) 3)], [(2240, .rows 95 3 s3.2.length (s3.2.map q14))]⟩) ?_ fun A_0 => ?_
     ·refine TieA.all [7] (by kernel_rfl) rfl (AllA.cons (σ₁ := ⟨[(7, .own 2240), (8, .t (tI s3.1)), (38, .t (tI s3.1)), (45, .t (tI ((min (Int.toNat s3.1 - Int.toNat 0) (Int.toNat (s3.2.length : Int) - Int.toNat s3.1) : Nat) : Int)))], [(2240, .rows 95 3 (copyVM s3.2 s3.1 (s3.2.length : Int) 0 s3.1).length ((copyVM s3.2 s3.1 (s3.2.length : Int) 0 s3.1).map q14))]⟩) _ rfl rfl ?_ ?_ ?_)
      ·exact TieO.copyV hu hu2 chk_le chk_le rfl rfl rfl rfl (fun _ => rfl) (fun _ => rfl) rfl rfl rfl rfl (.nil (TieS.leaf ⟨rfl, .of rfl rfl⟩))
      ·exact TieA.done (.of rfl rfl)
      exact AllA.nil
     refine TieA.mv 0 rfl (.inl rfl) rfl (by kernel_rfl) rfl (.mv 1 rfl (.inl rfl) rfl (by kernel_rfl) rfl (.mv 2 rfl (.inl rfl) rfl (by kernel_rfl) rfl (.mv 4 rfl (.inl rfl) rfl (by kernel_rfl) rfl (.mv 5 rfl (.inl rfl) rfl (by kernel_rfl) rfl ?_))))
     refine TieA.all [3, 6] (by kernel_rfl) rfl (AllA.cons (σ₁ := ⟨[(7, .own 2240), (8, .t (tI s3.1)), (38, .t (tI s3.1)), (41, .vw 2240 (Int.toNat s3.1) (Int.toNat (s3.2.length : Int) - Int.toNat s3.1) 3), (42, .own 2240), (43, .t (tI s3.1))], [(2240, .rows 95 3 s3.2.length (s3.2.map q14))]⟩) _ rfl rfl ?_ ?_ ?_)
     ·refine TieO.withH hu (TieO.viewO rfl rfl rfl rfl rfl rfl rfl rfl rfl rfl rfl (TieO.ifG ?_))
      exact TieO.nil (TieS.leaf ⟨rfl, .of rfl rfl⟩)
     ·refine TieA.all [6] (by kernel_rfl) rfl (AllA.cons _ rfl rfl ?_ A_0 ?_)
      ·refine TieO.withH hu2 (TieO.viewO rfl rfl rfl rfl rfl rfl rfl rfl rfl rfl rfl (TieO.ifG ?_))
       exact TieO.nil (TieS.leaf ⟨rfl, .of rfl rfl⟩)
      exact AllA.nil
     refine AllA.cons (σ₁ := ⟨[(7, .own 2240), (8, .t (tI s3.1)), (38, .t (tI s3.1)), (39, .own 2240), (40, .t (tI s3.1)), (44, .vw 2240 (Int.toNat 0) (Int.toNat s3.1 - Int.toNat 0) 3)], [(2240, .rows 95 3 s3.2.length (s3.2.map q14))]⟩) _ rfl rfl ?_ ?_ ?_
     ·refine TieO.withH hu2 (TieO.viewO rfl rfl rfl rfl rfl rfl rfl rfl rfl rfl rfl (TieO.ifG ?_))
      exact TieO.nil (TieS.leaf ⟨rfl, .of rfl rfl⟩)
     ·refine TieA.all [3] (by kernel_rfl) rfl (AllA.cons _ rfl rfl ?_ A_0 ?_)
      ·refine TieO.withH hu (TieO.viewO rfl rfl rfl rfl rfl rfl rfl rfl rfl rfl rfl (TieO.ifG ?_))
       exact TieO.nil (TieS.leaf ⟨rfl, .of rfl rfl⟩)
      exact AllA.nil
     exact AllA.nil
    exact TieO.run 2 rfl (.nil (.leaf ⟨rfl, .of rfl rfl⟩))
   rintro s4 e σ' _ ⟨rfl, hs⟩
   exact TieX.sub hs (TieS.endb (.leaf ⟨rfl, .of rfl rfl⟩))
  ·exact TieS.exitOut rfl ⟨(fun h => by cases h), rfl, .of rfl rfl⟩
 rintro (s5 | r) e σ' _ hq
 ·obtain ⟨rfl, hs⟩ := hq
  refine TieX.exit rfl (TieX.sub hs ?_)
  exact TieS.seq (.region (.run 2 rfl (.nil (.ret ⟨.inl rfl, rfl⟩))))
 ·exact hq.elim
set_option maxRecDepth 100000 in
theorem q485 (n2 : Int) : TieF Tryz.prog 46 [.t (tI n2)] (q343 n2) (fun r => .tup [.t (tS q14 r.1), .t (tI r.2)]) := by
 refine TieF.intro htab 14 [.tmp 2, .tmp 3] Tryz.call46 Tryz.func46 rfl rfl rfl (Nat.le_of_ble_eq_true rfl) fun w0 L => ?_
 refine TieS.seq (.region (.run 2 rfl (.nil (.seq ?_))))
 refine TieS.seq (.region (.run 3 rfl (.selOr (v := decide (n2 > 8)) 3 6 (fun b => ⟨[(0, .t (tI n2)), (9, .t (tB b))], []⟩) rfl ?_ ?_ ?_)))
 ·exact TieO.run 3 rfl (.nil (.leaf ⟨rfl, .of rfl rfl⟩))
 ·exact TieO.run 3 rfl (.nil (.leaf ⟨rfl, .of rfl rfl⟩))
 refine TieO.nil (.cond rfl ?_ ?_)
 ·exact TieS.seq (.region (.run 2 rfl (.nil (.ret ⟨.inl rfl, rfl⟩))))
 ·refine TieS.skip (.seq (.region (.run 3 rfl (.frz 11 rfl ?_))))
  exact TieO.call _ rfl rfl rfl (q317 ([(⟨0, 100, 0⟩ : SKnock)] : List SKnock) n2) (fun _ => rfl) fun v => .run 2 rfl (.nil (.ret ⟨.inl rfl, rfl⟩))
set_option maxRecDepth 100000 in
theorem q487 : TieF Tryz.prog 47 [] (q473) (fun r => q371 r) := by
 refine TieF.intro htab 2 [.cell 0 35] Tryz.call47 Tryz.func47 rfl rfl rfl (Nat.le_of_ble_eq_true rfl) fun w0 L => ?_
 refine TieS.seq (.region (.run 1 rfl (.nil (.seq ?_))))
 exact TieS.region (.run 2 rfl (.nil (.ret ⟨.inl rfl, rfl⟩)))
set_option maxRecDepth 100000 in
theorem q454 : TieF Tryz.prog 48 [] (q351) (fun r => q233 r) := by
 refine TieF.intro htab 3 [.cell 0 41] Tryz.call48 Tryz.func48 rfl rfl rfl (Nat.le_of_ble_eq_true rfl) fun w0 L => ?_
 refine TieS.seq (.region (.run 1 rfl (.nil (.seq ?_))))
 exact TieS.region (.makeO (enc := q17) 2008 (⟨0, 0⟩ : SCell) rfl rfl rfl rfl rfl rfl rfl rfl rfl rfl rfl rfl rfl fun l hl => .run 2 rfl (.nil (.ret ⟨.inl rfl, rfl⟩)))
set_option maxRecDepth 100000 in
theorem q464 (e2 : SEngine) : TieF Tryz.prog 13 [q186 e2] (q280 e2) (fun r => .tup [q129 r.1, .t (tI r.2)]) := by
 refine TieF.intro htab 25 [.cell 2 45, .tmp 3] Tryz.call13 Tryz.func13 rfl rfl rfl (Nat.le_of_ble_eq_true rfl) fun w0 L => ?_
 refine TieS.seq (.region (.run 3 rfl (.nil (.seq ?_))))
 refine TieS.seq (.region (.run 1 rfl (.call _ rfl rfl rfl (q323 e2) (fun _ => rfl) fun v => .run 1 rfl ?_)))
 refine TieO.nil (.cond rfl ?_ ?_)
 ·exact TieS.seq (.region (.run 3 rfl (.nil (.ret ⟨.inl rfl, rfl⟩))))
 ·refine TieS.skip (.seq (.region (.run 3 rfl (.call _ rfl rfl rfl (q485 (e2.Order.length : Int)) (fun _ => rfl) fun r2 => ?_))))
  refine TieO.run 5 rfl (.nil (.seq (.seq (.region ?_))))
  refine TieO.run 2 rfl (.nil (.cond rfl ?_ ?_))
  ·exact TieS.seq (.region (.run 3 rfl (.nil (.ret ⟨.inl rfl, rfl⟩))))
  ·refine TieS.skip (.seq (.region (.call _ rfl rfl rfl (q487) (fun _ => rfl) fun v2 => .run 1 rfl ?_)))
   exact TieO.call _ rfl rfl rfl (q454) (fun _ => rfl) fun v3 => .run 4 rfl (.nil (.ret ⟨.inl rfl, rfl⟩))
set_option maxRecDepth 100000 in
theorem q348 (p2 : SPedal) : TieF Tryz.prog 64 [q371 p2] (q206 p2) (fun r => .t (tB r)) := by
 refine TieF.intro htab 33 [.tmp 2] Tryz.call64 Tryz.func64 rfl rfl rfl (Nat.le_of_ble_eq_true rfl) fun w0 L => ?_
 refine TieS.seq (.region (.run 2 rfl (.nil (.seq ?_))))
 refine TieS.region (.run 1 rfl (.nil (.seq (.seq ?_))))
 refine TieS.region (.run 2 rfl (.nil (.bind (Q₁ := fun t e σ' => e = .normal ∧ Sub ⟨[(1, .ptr 1 0), (3, .t (tI t))], [(1, .box [.t (tI p2.Value), .t (tI p2.Differ), .t (tB p2.Fault)])]⟩ σ') ?_ ?_)))
 ·refine TieS.cond rfl ?_ ?_
  ·exact TieS.region (.run 1 rfl (.nil (.leaf ⟨rfl, .of rfl rfl⟩)))
  ·exact TieS.skip (.leaf ⟨rfl, .of rfl rfl⟩)
 rintro most e σ' _ ⟨rfl, hs⟩
 refine TieX.sub hs (TieS.seq (.region (.run 4 rfl (.selAnd (v := decide (p2.Value ≤ most)) 5 9 (fun b => ⟨[(1, .ptr 1 0), (14, .t (tB b))], [(1, .box [.t (tI p2.Value), .t (tI p2.Differ), .t (tB p2.Fault)])]⟩) rfl ?_ ?_ ?_))))
 ·exact TieO.run 5 rfl (.nil (.leaf ⟨rfl, .of rfl rfl⟩))
 ·exact TieO.run 5 rfl (.nil (.leaf ⟨rfl, .of rfl rfl⟩))
 refine TieO.run 1 rfl (.selAnd (v := decide (p2.Differ ≥ 0)) 4 15 (fun b => ⟨[(1, .ptr 1 0), (19, .t (tB b))], [(1, .box [.t (tI p2.Value), .t (tI p2.Differ), .t (tB p2.Fault)])]⟩) rfl ?_ ?_ ?_)
 ·exact TieO.run 4 rfl (.nil (.leaf ⟨rfl, .of rfl rfl⟩))
 ·exact TieO.run 4 rfl (.nil (.leaf ⟨rfl, .of rfl rfl⟩))
 refine TieO.run 1 rfl (.selAnd (v := decide (p2.Differ ≤ 3)) 4 20 (fun b => ⟨[(1, .ptr 1 0), (24, .t (tB b))], [(1, .box [.t (tI p2.Value), .t (tI p2.Differ), .t (tB p2.Fault)])]⟩) rfl ?_ ?_ ?_)
 ·exact TieO.run 4 rfl (.nil (.leaf ⟨rfl, .of rfl rfl⟩))
 ·exact TieO.run 4 rfl (.nil (.leaf ⟨rfl, .of rfl rfl⟩))
 refine TieO.run 1 rfl (.selAnd (v := (p2.Fault == (p2.Differ == 3))) 7 25 (fun b => ⟨[(32, .t (tB b))], []⟩) rfl ?_ ?_ ?_)
 ·exact TieO.run 7 rfl (.nil (.leaf ⟨rfl, .of rfl rfl⟩))
 ·exact TieO.run 7 rfl (.nil (.leaf ⟨rfl, .of rfl rfl⟩))
 exact TieO.run 1 rfl (.nil (.ret ⟨.inl rfl, rfl⟩))
set_option maxRecDepth 100000 in
theorem q79 (x : Int) (low : Int) (high : Int) : TieF Tryz.prog 132 [.t (tI x), .t (tI low), .t (tI high)] (q50 x low high) (fun r => .t (tB r)) := by
 refine TieF.intro htab 15 [.tmp 6] Tryz.call132 Tryz.func132 rfl rfl rfl (Nat.le_of_ble_eq_true rfl) fun w0 L => ?_
 refine TieS.seq (.region (.run 1 rfl (.nil (.seq ?_))))
 refine TieS.region (.run 4 rfl (.selAnd (v := decide (x ≤ high)) 4 10 (fun b => ⟨[(14, .t (tB b))], []⟩) rfl ?_ ?_ ?_))
 ·exact TieO.run 4 rfl (.nil (.leaf ⟨rfl, .of rfl rfl⟩))
 ·exact TieO.run 4 rfl (.nil (.leaf ⟨rfl, .of rfl rfl⟩))
 exact TieO.run 1 rfl (.nil (.ret ⟨.inl rfl, rfl⟩))
set_option maxRecDepth 100000 in
theorem q299 (s : List SCell) (n2 : Nat) (cs : List (List Tree)) (f2 : SCell → Option Bool) (h2 : ∀ x0, TieF Tryz.prog n2 ([A_SCell x0] ++ cs.map T.el) (f2 x0) (fun r => .t (tB r))) : TieF Tryz.prog 223 [.t (tS q17 s), .fz n2 cs] (q213 s f2) (fun r => .t (tI r)) := by
 refine TieF.intro htab 19 [.tmp 4] Tryz.call223 Tryz.func223 rfl rfl rfl (Nat.le_of_ble_eq_true rfl) fun w0 L => ?_
 refine TieS.seq (.region (.run 1 rfl (.nil (.seq ?_))))
 refine TieS.seq (.region (.run 3 rfl (.nil (.block ?_))))
 refine TieS.loop (fun p => ⟨[(0, .t (tS q17 s)), (1, .fz n2 cs), (7, .t (tI (s.length : Int))), (8, .t (tI p.1))], []⟩) (fun b e σ' => match b with | .inl t => e = .exit 0 ∧ Sub ⟨[], []⟩ σ' | .inr t => e = .ret ∧ retT tab σ' [.tmp 4] = some (((fun r => .t (tI r)) : Int → T) t)) (.of rfl rfl) ?_ ?_
 ·rintro ⟨i, s2⟩
  refine TieS.seq (.region (.run 1 rfl (.nil (.seq ?_))))
  refine TieS.cond rfl ?_ ?_
  ·refine TieS.skip (.seq (TieX.sub (σ' := ⟨[(0, .t (tS q17 s)), (1, .fz n2 cs), (7, .t (tI (s.length : Int))), (8, .t (tI i))], []⟩) (.of rfl rfl) (TieS.bind (Q₁ := fun f e σ' => match f with | .next t => e = .normal ∧ Sub ⟨[(0, .t (tS q17 s)), (1, .fz n2 cs), (7, .t (tI (s.length : Int))), (8, .t (tI i))], []⟩ σ' | .brk t => e = .exit 0 ∧ Sub ⟨[], []⟩ σ' | .ret t => e = .ret ∧ retT tab σ' [.tmp 4] = some (((fun r => .t (tI r)) : Int → T) t)) ?_ ?_)))
   ·refine TieS.block (.seq (.region (.run 2 rfl (.nil ?_))))
    refine TieS.seq (.region (.run 3 rfl (.index rfl rfl rfl rfl rfl rfl rfl rfl (fun _ => rfl) fun x hx => .run 1 rfl ?_)))
    refine TieO.call _ rfl rfl rfl (h2 x) (fun _ => rfl) fun v => .nil (.cond rfl ?_ ?_)
    ·exact TieS.seq (.region (.run 2 rfl (.nil (.ret ⟨rfl, rfl⟩))))
    ·exact TieS.skip (.endb (.leaf ⟨rfl, .of rfl rfl⟩))
   rintro (t | t | t) e σ' _ hq
   ·obtain ⟨rfl, hs⟩ := hq
    exact TieX.sub hs (TieS.region (.run 2 rfl (.nil (.leaf ⟨rfl, .of rfl rfl⟩))))
   ·obtain ⟨rfl, hs⟩ := hq
    exact TieX.exitOut rfl ⟨(fun h => by cases h), rfl, hs⟩
   ·obtain ⟨rfl, hs⟩ := hq
    exact TieX.ret ⟨(fun h => by cases h), rfl, hs⟩
  ·exact TieS.exitOut rfl ⟨(fun h => by cases h), rfl, .of rfl rfl⟩
 rintro (s3 | r2) e σ' _ hq
 ·obtain ⟨rfl, hs⟩ := hq
  refine TieX.exit rfl (TieX.sub hs ?_)
  exact TieS.seq (.region (.run 1 rfl (.nil (.ret ⟨.inl rfl, rfl⟩))))
 ·obtain ⟨rfl, hs⟩ := hq
  exact TieX.ret ⟨.inl rfl, hs⟩
set_option maxRecDepth 100000 in
theorem q260 (s : List SCell) (n2 : Nat) (cs : List (List Tree)) (f2 : SCell → Option Bool) (h2 : ∀ x0, TieF Tryz.prog n2 ([A_SCell x0] ++ cs.map T.el) (f2 x0) (fun r => .t (tB r))) : TieF Tryz.prog 157 [.t (tS q17 s), .fz n2 cs] (q96 s f2) (fun r => .t (tB r)) := by
 refine TieF.intro htab 9 [.tmp 4] Tryz.call157 Tryz.func157 rfl rfl rfl (Nat.le_of_ble_eq_true rfl) fun w0 L => ?_
 refine TieS.seq (.region (.run 1 rfl (.nil (.seq ?_))))
 refine TieS.region (.run 2 rfl (.call _ rfl rfl rfl (q299 s n2 cs f2 h2) (fun _ => rfl) fun v => .run 2 rfl (.nil ?_)))
 exact TieS.ret ⟨.inl rfl, rfl⟩
set_option maxRecDepth 100000 in
theorem q389 (c : SCell) : TieF Tryz.prog 158 [A_SCell c] (q71 c) (fun r => .t (tB r)) := by
 refine TieF.intro htab 13 [.tmp 2] Tryz.call158 Tryz.func158 rfl rfl rfl (Nat.le_of_ble_eq_true rfl) fun w0 L => ?_
 refine TieS.seq (.region (.run 2 rfl (.nil (.seq ?_))))
 refine TieS.region (.run 2 rfl (.call _ rfl rfl rfl (q79 c.Value (-100) 100) (fun _ => rfl) fun v => .run 2 rfl (.bind 5 (fun b2 => ⟨[(12, .t (tB b2))], []⟩) (TieO.split 7 rfl ?_ ?_) fun b2 _ => ?_)))
 ·exact TieO.run 5 rfl (.nil (.leaf ⟨rfl, .of rfl rfl⟩))
 ·exact TieO.run 2 rfl (.call _ rfl rfl rfl (q79 c.Count 0 1000) (fun _ => rfl) fun v2 => .run 2 rfl (.nil (.leaf ⟨rfl, .of rfl rfl⟩)))
 exact TieO.run 1 rfl (.nil (.ret ⟨.inl rfl, rfl⟩))
set_option maxRecDepth 100000 in
theorem q199 (p2 : SProbe) : TieF Tryz.prog 65 [q233 p2] (q115 p2) (fun r => .t (tB r)) := by
 refine TieF.intro htab 40 [.tmp 2] Tryz.call65 Tryz.func65 rfl rfl rfl (Nat.le_of_ble_eq_true rfl) fun w0 L => ?_
 refine TieS.seq (.region (.run 2 rfl (.nil (.seq ?_))))
 refine TieS.seq (.region (.run 2 rfl (.call _ rfl rfl rfl (q79 p2.Factor 750 1250) (fun _ => rfl) fun v => .run 2 rfl ?_)))
 refine TieO.bind 5 (fun b2 => ⟨[(1, .ptr 1 0), (12, .t (tB b2))], [(1, .box [.t (tB p2.Active), .t (tB p2.Rich), .t (tI p2.Factor), .t (tI p2.Wait), .t (tS q17 p2.Cells)])]⟩) (TieO.split 7 rfl ?_ ?_) fun b2 _ => ?_
 ·exact TieO.run 5 rfl (.nil (.leaf ⟨rfl, .of rfl rfl⟩))
 ·exact TieO.run 2 rfl (.call _ rfl rfl rfl (q79 p2.Wait 0 1000) (fun _ => rfl) fun v2 => .run 2 rfl (.nil (.leaf ⟨rfl, .of rfl rfl⟩)))
 refine TieO.run 1 rfl (.selOr (v := ((p2.Cells.length : Int) != 9)) 5 13 (fun b => ⟨[(1, .ptr 1 0), (18, .t (tB b))], [(1, .box [.t (tB p2.Active), .t (tB p2.Rich), .t (tI p2.Factor), .t (tI p2.Wait), .t (tS q17 p2.Cells)])]⟩) rfl ?_ ?_ ?_)
 ·exact TieO.run 5 rfl (.nil (.leaf ⟨rfl, .of rfl rfl⟩))
 ·exact TieO.run 5 rfl (.nil (.leaf ⟨rfl, .of rfl rfl⟩))
 refine TieO.nil (.cond rfl ?_ ?_)
 ·exact TieS.seq (.region (.run 1 rfl (.nil (.ret ⟨.inl rfl, rfl⟩))))
 ·refine TieS.skip (.seq (.seq (.region (.run 4 rfl ?_))))
  refine TieO.bind 13 (fun b3 => ⟨[(1, .ptr 1 0), (35, .t (tB b3))], [(1, .box [.t (tB p2.Active), .t (tB p2.Rich), .t (tI p2.Factor), .t (tI p2.Wait), .t (tS q17 p2.Cells)])]⟩) (TieO.split 22 rfl ?_ ?_) fun b3 _ => ?_
  ·refine TieO.run 4 rfl (.selOr (v := (p2.Wait != 0)) 4 26 (fun b => ⟨[(1, .ptr 1 0), (22, .t (tB true)), (30, .t (tB b))], [(1, .box [.t (tB p2.Active), .t (tB p2.Rich), .t (tI p2.Factor), .t (tI p2.Wait), .t (tS q17 p2.Cells)])]⟩) rfl ?_ ?_ ?_)
   ·exact TieO.run 4 rfl (.nil (.leaf ⟨rfl, .of rfl rfl⟩))
   ·exact TieO.run 4 rfl (.nil (.leaf ⟨rfl, .of rfl rfl⟩))
   refine TieO.run 1 rfl (.selOr (v := p2.Rich) 3 31 (fun b => ⟨[(1, .ptr 1 0), (22, .t (tB true)), (34, .t (tB b))], [(1, .box [.t (tB p2.Active), .t (tB p2.Rich), .t (tI p2.Factor), .t (tI p2.Wait), .t (tS q17 p2.Cells)])]⟩) rfl ?_ ?_ ?_)
   ·exact TieO.run 3 rfl (.nil (.leaf ⟨rfl, .of rfl rfl⟩))
   ·exact TieO.run 3 rfl (.nil (.leaf ⟨rfl, .of rfl rfl⟩))
   exact TieO.run 1 rfl (.nil (.leaf ⟨rfl, .of rfl rfl⟩))
  ·exact TieO.run 13 rfl (.nil (.leaf ⟨rfl, .of rfl rfl⟩))
  refine TieO.nil (.cond rfl ?_ ?_)
  ·exact TieS.seq (.region (.run 1 rfl (.nil (.ret ⟨.inl rfl, rfl⟩))))
  ·refine TieS.skip (.seq (.region (.run 2 rfl (.call _ rfl rfl rfl (q260 p2.Cells 158 [] q71 q389) (fun _ => rfl) fun v3 => ?_))))
   exact TieO.run 2 rfl (.nil (.ret ⟨.inl rfl, rfl⟩))
set_option maxRecDepth 100000 in
theorem q287 (s : List SKnock) (n2 : Nat) (cs : List (List Tree)) (f2 : SKnock → Option Bool) (h2 : ∀ x0, TieF Tryz.prog n2 ([q234 x0] ++ cs.map T.el) (f2 x0) (fun r => .t (tB r))) : TieF Tryz.prog 159 [.t (tS q14 s), .fz n2 cs] (q196 s f2) (fun r => .t (tI r)) := by
 refine TieF.intro htab 19 [.tmp 4] Tryz.call159 Tryz.func159 rfl rfl rfl (Nat.le_of_ble_eq_true rfl) fun w0 L => ?_
 refine TieS.seq (.region (.run 1 rfl (.nil (.seq ?_))))
 refine TieS.seq (.region (.run 3 rfl (.nil (.block ?_))))
 refine TieS.loop (fun p => ⟨[(0, .t (tS q14 s)), (1, .fz n2 cs), (7, .t (tI (s.length : Int))), (8, .t (tI p.1))], []⟩) (fun b e σ' => match b with | .inl t => e = .exit 0 ∧ Sub ⟨[], []⟩ σ' | .inr t => e = .ret ∧ retT tab σ' [.tmp 4] = some (((fun r => .t (tI r)) : Int → T) t)) (.of rfl rfl) ?_ ?_
 ·rintro ⟨i, s2⟩
  refine TieS.seq (.region (.run 1 rfl (.nil (.seq ?_))))
  refine TieS.cond rfl ?_ ?_
  ·refine TieS.skip (.seq (TieX.sub (σ' := ⟨[(0, .t (tS q14 s)), (1, .fz n2 cs), (7, .t (tI (s.length : Int))), (8, .t (tI i))], []⟩) (.of rfl rfl) (TieS.bind (Q₁ := fun f e σ' => match f with | .next t => e = .normal ∧ Sub ⟨[(0, .t (tS q14 s)), (1, .fz n2 cs), (7, .t (tI (s.length : Int))), (8, .t (tI i))], []⟩ σ' | .brk t => e = .exit 0 ∧ Sub ⟨[], []⟩ σ' | .ret t => e = .ret ∧ retT tab σ' [.tmp 4] = some (((fun r => .t (tI r)) : Int → T) t)) ?_ ?_)))
   ·refine TieS.block (.seq (.region (.run 2 rfl (.nil ?_))))
    refine TieS.seq (.region (.run 3 rfl (.index rfl rfl rfl rfl rfl rfl rfl rfl (fun _ => rfl) fun x hx => .run 1 rfl ?_)))
    refine TieO.call _ rfl rfl rfl (h2 x) (fun _ => rfl) fun v => .nil (.cond rfl ?_ ?_)
    ·exact TieS.seq (.region (.run 2 rfl (.nil (.ret ⟨rfl, rfl⟩))))
    ·exact TieS.skip (.endb (.leaf ⟨rfl, .of rfl rfl⟩))
   rintro (t | t | t) e σ' _ hq
   ·obtain ⟨rfl, hs⟩ := hq
    exact TieX.sub hs (TieS.region (.run 2 rfl (.nil (.leaf ⟨rfl, .of rfl rfl⟩))))
   ·obtain ⟨rfl, hs⟩ := hq
    exact TieX.exitOut rfl ⟨(fun h => by cases h), rfl, hs⟩
   ·obtain ⟨rfl, hs⟩ := hq
    exact TieX.ret ⟨(fun h => by cases h), rfl, hs⟩
  ·exact TieS.exitOut rfl ⟨(fun h => by cases h), rfl, .of rfl rfl⟩
 rintro (s3 | r2) e σ' _ hq
 ·obtain ⟨rfl, hs⟩ := hq
  refine TieX.exit rfl (TieX.sub hs ?_)
  exact TieS.seq (.region (.run 1 rfl (.nil (.ret ⟨.inl rfl, rfl⟩))))
 ·obtain ⟨rfl, hs⟩ := hq
  exact TieX.ret ⟨.inl rfl, hs⟩
set_option maxRecDepth 100000 in
theorem q118 (s : List SKnock) (n2 : Nat) (cs : List (List Tree)) (f2 : SKnock → Option Bool) (h2 : ∀ x0, TieF Tryz.prog n2 ([q234 x0] ++ cs.map T.el) (f2 x0) (fun r => .t (tB r))) : TieF Tryz.prog 66 [.t (tS q14 s), .fz n2 cs] (q43 s f2) (fun r => .t (tB r)) := by
 refine TieF.intro htab 9 [.tmp 4] Tryz.call66 Tryz.func66 rfl rfl rfl (Nat.le_of_ble_eq_true rfl) fun w0 L => ?_
 refine TieS.seq (.region (.run 1 rfl (.nil (.seq ?_))))
 refine TieS.region (.run 2 rfl (.call _ rfl rfl rfl (q287 s n2 cs f2 h2) (fun _ => rfl) fun v => .run 2 rfl (.nil ?_)))
 exact TieS.ret ⟨.inl rfl, rfl⟩
set_option maxRecDepth 100000 in
theorem q265 (n2 : Int) : TieF Tryz.prog 124 [.t (tI n2)] (q170 n2) (fun r => .t (tB r)) := by
 refine TieF.intro htab 9 [.tmp 2] Tryz.call124 Tryz.func124 rfl rfl rfl (Nat.le_of_ble_eq_true rfl) fun w0 L => ?_
 refine TieS.seq (.region (.run 1 rfl (.nil (.seq ?_))))
 refine TieS.region (.run 3 rfl (.selAnd (v := decide (n2 ≤ 4095)) 3 5 (fun b => ⟨[(8, .t (tB b))], []⟩) rfl ?_ ?_ ?_))
 ·exact TieO.run 3 rfl (.nil (.leaf ⟨rfl, .of rfl rfl⟩))
 ·exact TieO.run 3 rfl (.nil (.leaf ⟨rfl, .of rfl rfl⟩))
 exact TieO.run 1 rfl (.nil (.ret ⟨.inl rfl, rfl⟩))
set_option maxRecDepth 100000 in
theorem q346 (k : SKnock) : TieF Tryz.prog 68 [q234 k] (q210 k) (fun r => .t (tB r)) := by
 refine TieF.intro htab 26 [.tmp 2] Tryz.call68 Tryz.func68 rfl rfl rfl (Nat.le_of_ble_eq_true rfl) fun w0 L => ?_
 refine TieS.seq (.region (.run 2 rfl (.nil (.seq ?_))))
 refine TieS.region (.run 4 rfl (.selAnd (v := decide (k.Retard ≤ 960)) 4 6 (fun b => ⟨[(1, .ptr 1 0), (10, .t (tB b))], [(1, .box [.t (tI k.Retard), .t (tI k.Noise), .t (tI k.Quiet)])]⟩) rfl ?_ ?_ ?_))
 ·exact TieO.run 4 rfl (.nil (.leaf ⟨rfl, .of rfl rfl⟩))
 ·exact TieO.run 4 rfl (.nil (.leaf ⟨rfl, .of rfl rfl⟩))
 refine TieO.run 1 rfl (.bind 4 (fun b2 => ⟨[(1, .ptr 1 0), (15, .t (tB b2))], [(1, .box [.t (tI k.Retard), .t (tI k.Noise), .t (tI k.Quiet)])]⟩) (TieO.split 11 rfl ?_ ?_) fun b2 _ => ?_)
 ·exact TieO.run 2 rfl (.call _ rfl rfl rfl (q265 k.Noise) (fun _ => rfl) fun v => .run 1 rfl (.nil (.leaf ⟨rfl, .of rfl rfl⟩)))
 ·exact TieO.run 4 rfl (.nil (.leaf ⟨rfl, .of rfl rfl⟩))
 refine TieO.run 1 rfl (.selAnd (v := decide (k.Quiet ≥ 0)) 4 16 (fun b => ⟨[(1, .ptr 1 0), (20, .t (tB b))], [(1, .box [.t (tI k.Retard), .t (tI k.Noise), .t (tI k.Quiet)])]⟩) rfl ?_ ?_ ?_)
 ·exact TieO.run 4 rfl (.nil (.leaf ⟨rfl, .of rfl rfl⟩))
 ·exact TieO.run 4 rfl (.nil (.leaf ⟨rfl, .of rfl rfl⟩))
 refine TieO.run 1 rfl (.selAnd (v := decide (k.Quiet < 100)) 4 21 (fun b => ⟨[(25, .t (tB b))], []⟩) rfl ?_ ?_ ?_)
 ·exact TieO.run 4 rfl (.nil (.leaf ⟨rfl, .of rfl rfl⟩))
 ·exact TieO.run 4 rfl (.nil (.leaf ⟨rfl, .of rfl rfl⟩))
 exact TieO.run 1 rfl (.nil (.ret ⟨.inl rfl, rfl⟩))
set_option maxRecDepth 100000 in
theorem q416 (k : SKnock) : TieF Tryz.prog 67 [q234 k] (q103 k) (fun r => .t (tB r)) := by
 refine TieF.intro htab 6 [.tmp 2] Tryz.call67 Tryz.func67 rfl rfl rfl (Nat.le_of_ble_eq_true rfl) fun w0 L => ?_
 refine TieS.seq (.region (.run 2 rfl (.nil (.seq ?_))))
 refine TieS.region (.run 1 rfl (.call _ rfl rfl rfl (q346 k) (fun _ => rfl) fun v => .run 2 rfl (.nil ?_)))
 exact TieS.ret ⟨.inl rfl, rfl⟩
set_option maxRecDepth 100000 in
theorem q34 (x : Int) (low : Int) (high : Int) : TieF Tryz.prog 69 [.t (tI x), .t (tI low), .t (tI high)] (q33 x low high) (fun r => .t (tB r)) := by
 refine TieF.intro htab 15 [.tmp 6] Tryz.call69 Tryz.func69 rfl rfl rfl (Nat.le_of_ble_eq_true rfl) fun w0 L => ?_
 refine TieS.seq (.region (.run 1 rfl (.nil (.seq ?_))))
 refine TieS.region (.run 4 rfl (.selAnd (v := decide (x ≤ high)) 4 10 (fun b => ⟨[(14, .t (tB b))], []⟩) rfl ?_ ?_ ?_))
 ·exact TieO.run 4 rfl (.nil (.leaf ⟨rfl, .of rfl rfl⟩))
 ·exact TieO.run 4 rfl (.nil (.leaf ⟨rfl, .of rfl rfl⟩))
 exact TieO.run 1 rfl (.nil (.ret ⟨.inl rfl, rfl⟩))
set_option maxRecDepth 100000 in
theorem q236 (e2 : SEngine) (c : SControls) : TieF Tryz.prog 18 [q186 e2, q129 c] (q147 e2 c) (fun r => .t (tB r)) := by
 refine TieF.intro htab 53 [.tmp 4] Tryz.call18 Tryz.func18 rfl rfl rfl (Nat.le_of_ble_eq_true rfl) fun w0 L => ?_
 refine TieS.seq (.region (.run 3 rfl (.nil (.seq ?_))))
 refine TieS.seq (.region (.run 1 rfl (.call _ rfl rfl rfl (q323 e2) (fun _ => rfl) fun v => .run 2 rfl ?_)))
 refine TieO.bind 5 (fun b2 => ⟨[(2, .ptr 2 0), (3, .ptr 3 0), (13, .t (tB b2))], [(2, .box [.t (tS Pv.encI e2.Order), .t (tI e2.First)]), (3, .box (q13 c))]⟩) (TieO.split 8 rfl ?_ ?_) fun b2 _ => ?_
 ·exact TieO.run 5 rfl (.nil (.leaf ⟨rfl, .of rfl rfl⟩))
 ·exact TieO.run 2 rfl (.call _ rfl rfl rfl (q348 c.Pedal) (fun _ => rfl) fun v2 => .run 2 rfl (.nil (.leaf ⟨rfl, .of rfl rfl⟩)))
 refine TieO.run 1 rfl (.bind 5 (fun b3 => ⟨[(2, .ptr 2 0), (3, .ptr 3 0), (19, .t (tB b3))], [(2, .box [.t (tS Pv.encI e2.Order), .t (tI e2.First)]), (3, .box (q13 c))]⟩) (TieO.split 14 rfl ?_ ?_) fun b3 _ => ?_)
 ·exact TieO.run 5 rfl (.nil (.leaf ⟨rfl, .of rfl rfl⟩))
 ·exact TieO.run 2 rfl (.call _ rfl rfl rfl (q199 c.Probe) (fun _ => rfl) fun v3 => .run 2 rfl (.nil (.leaf ⟨rfl, .of rfl rfl⟩)))
 refine TieO.run 1 rfl (.selOr (v := ((c.Knock.length : Int) != (e2.Order.length : Int))) 8 20 (fun b => ⟨[(3, .ptr 3 0), (28, .t (tB b))], [(3, .box (q13 c))]⟩) rfl ?_ ?_ ?_)
 ·exact TieO.run 8 rfl (.nil (.leaf ⟨rfl, .of rfl rfl⟩))
 ·exact TieO.run 8 rfl (.nil (.leaf ⟨rfl, .of rfl rfl⟩))
 refine TieO.nil (.cond rfl ?_ ?_)
 ·exact TieS.seq (.region (.run 1 rfl (.nil (.ret ⟨.inl rfl, rfl⟩))))
 ·refine TieS.skip (.seq (.seq (.region (.run 2 rfl ?_))))
  refine TieO.call _ rfl rfl rfl (q118 c.Knock 67 [] q103 q416) (fun _ => rfl) fun v4 => .nil (.cond rfl ?_ ?_)
  ·exact TieS.seq (.region (.run 1 rfl (.nil (.ret ⟨.inl rfl, rfl⟩))))
  ·refine TieS.skip (.seq (.region (.run 3 rfl (.call _ rfl rfl rfl (q34 c.Idle.Sum (-4398046511104) 4398046511104) (fun _ => rfl) fun v5 => ?_))))
   refine TieO.run 1 rfl (.bind 4 (fun b4 => ⟨[(3, .ptr 3 0), (40, .t (tB b4))], [(3, .box (q13 c))]⟩) (TieO.split 36 rfl ?_ ?_) fun b4 _ => ?_)
   ·exact TieO.run 2 rfl (.call _ rfl rfl rfl (q34 c.Film 0 1073741824) (fun _ => rfl) fun v6 => .run 1 rfl (.nil (.leaf ⟨rfl, .of rfl rfl⟩)))
   ·exact TieO.run 4 rfl (.nil (.leaf ⟨rfl, .of rfl rfl⟩))
   refine TieO.run 1 rfl (.bind 5 (fun b5 => ⟨[(3, .ptr 3 0), (46, .t (tB b5))], [(3, .box (q13 c))]⟩) (TieO.split 41 rfl ?_ ?_) fun b5 _ => ?_)
   ·exact TieO.run 3 rfl (.call _ rfl rfl rfl (q34 c.Grant.Torque (-5000) 10000) (fun _ => rfl) fun v7 => .run 1 rfl (.nil (.leaf ⟨rfl, .of rfl rfl⟩)))
   ·exact TieO.run 5 rfl (.nil (.leaf ⟨rfl, .of rfl rfl⟩))
   refine TieO.run 1 rfl (.bind 5 (fun b6 => ⟨[(52, .t (tB b6))], []⟩) (TieO.split 47 rfl ?_ ?_) fun b6 _ => ?_)
   ·exact TieO.run 3 rfl (.call _ rfl rfl rfl (q34 c.Grant.Source (-1) 15) (fun _ => rfl) fun v8 => .run 1 rfl (.nil (.leaf ⟨rfl, .of rfl rfl⟩)))
   ·exact TieO.run 5 rfl (.nil (.leaf ⟨rfl, .of rfl rfl⟩))
   exact TieO.run 1 rfl (.nil (.ret ⟨.inl rfl, rfl⟩))
set_option maxRecDepth 100000 in
theorem q354 : TieF Tryz.prog 10 [] (q119) (fun r => .t (tB r)) := by
 refine TieF.intro htab 30 [.tmp 0] Tryz.call10 Tryz.func10 rfl rfl rfl (Nat.le_of_ble_eq_true rfl) fun w0 L => ?_
 refine TieS.seq (.region (.run 1 rfl (.nil (.seq ?_))))
 refine TieS.region (.run 4 rfl (.nil (.seq (.region ?_))))
 refine TieO.run 1 rfl (.frz 4 rfl (.call _ rfl rfl rfl (q464 (⟨([1] : List Int), 0⟩ : SEngine)) (fun _ => rfl) fun r2 => .run 6 rfl (.nil ?_)))
 refine TieS.seq (.region (.run 3 rfl (.bind 4 (fun b2 => ⟨[(1, .ptr 1 0), (2, .ptr 2 0), (17, .t (tB b2))], [(1, .box [.t (tS Pv.encI ([1] : List Int)), .t (tI 0)]), (2, .box (q13 r2.1))]⟩) (TieO.split 13 rfl ?_ ?_) fun b2 _ => ?_)))
 ·exact TieO.run 2 rfl (.call _ rfl rfl rfl (q236 (⟨([1] : List Int), 0⟩ : SEngine) (u11_5 (u11_3 (u11_1 (u11_0 r2.1 (⟨r2.1.Pedal.Value, r2.1.Pedal.Differ, r2.1.Pedal.Fault⟩ : SPedal)) (⟨r2.1.Idle.Sum⟩ : SIntegral)) (⟨r2.1.Probe.Active, r2.1.Probe.Rich, r2.1.Probe.Factor, r2.1.Probe.Wait, r2.1.Probe.Cells⟩ : SProbe)) (⟨r2.1.Grant.Torque, r2.1.Grant.Source⟩ : SGrant))) (fun _ => rfl) fun v => .run 1 rfl (.nil (.leaf ⟨rfl, .of rfl rfl⟩)))
 ·exact TieO.run 4 rfl (.nil (.leaf ⟨rfl, .of rfl rfl⟩))
 refine TieO.run 1 rfl (.bind 5 (fun b3 => ⟨[(2, .ptr 2 0), (23, .t (tB b3))], [(2, .box (q13 r2.1))]⟩) (TieO.split 18 rfl ?_ ?_) fun b3 _ => ?_)
 ·exact TieO.run 2 rfl (.call _ rfl rfl rfl (q236 (⟨([1] : List Int), 0⟩ : SEngine) (⟨(⟨0, 0, false⟩ : SPedal), (⟨0⟩ : SIntegral), ([] : List SKnock), (⟨false, false, 0, 0, ([] : List SCell)⟩ : SProbe), 0, (⟨0, 0⟩ : SGrant)⟩ : SControls)) (fun _ => rfl) fun v2 => .run 2 rfl (.nil (.leaf ⟨rfl, .of rfl rfl⟩)))
 ·exact TieO.run 5 rfl (.nil (.leaf ⟨rfl, .of rfl rfl⟩))
 refine TieO.run 1 rfl (.selAnd (v := (r2.1.Grant.Source == (-1))) 5 24 (fun b => ⟨[(29, .t (tB b))], []⟩) rfl ?_ ?_ ?_)
 ·exact TieO.run 5 rfl (.nil (.leaf ⟨rfl, .of rfl rfl⟩))
 ·exact TieO.run 5 rfl (.nil (.leaf ⟨rfl, .of rfl rfl⟩))
 exact TieO.run 1 rfl (.nil (.ret ⟨.inl rfl, rfl⟩))
set_option maxRecDepth 100000 in
theorem q311 (s : List SMap) (n2 : Nat) (cs : List (List Tree)) (f2 : SMap → Option Bool) (h2 : ∀ x0, TieF Tryz.prog n2 ([A_SMap x0] ++ cs.map T.el) (f2 x0) (fun r => .t (tB r))) : TieF Tryz.prog 134 [.t (tS q72 s), .fz n2 cs] (q237 s f2) (fun r => .t (tI r)) := by
 refine TieF.intro htab 19 [.tmp 4] Tryz.call134 Tryz.func134 rfl rfl rfl (Nat.le_of_ble_eq_true rfl) fun w0 L => ?_
 refine TieS.seq (.region (.run 1 rfl (.nil (.seq ?_))))
 refine TieS.seq (.region (.run 3 rfl (.nil (.block ?_))))
 refine TieS.loop (fun p => ⟨[(0, .t (tS q72 s)), (1, .fz n2 cs), (7, .t (tI (s.length : Int))), (8, .t (tI p.1))], []⟩) (fun b e σ' => match b with | .inl t => e = .exit 0 ∧ Sub ⟨[], []⟩ σ' | .inr t => e = .ret ∧ retT tab σ' [.tmp 4] = some (((fun r => .t (tI r)) : Int → T) t)) (.of rfl rfl) ?_ ?_
 ·rintro ⟨i, s2⟩
  refine TieS.seq (.region (.run 1 rfl (.nil (.seq ?_))))
  refine TieS.cond rfl ?_ ?_
  ·refine TieS.skip (.seq (TieX.sub (σ' := ⟨[(0, .t (tS q72 s)), (1, .fz n2 cs), (7, .t (tI (s.length : Int))), (8, .t (tI i))], []⟩) (.of rfl rfl) (TieS.bind (Q₁ := fun f e σ' => match f with | .next t => e = .normal ∧ Sub ⟨[(0, .t (tS q72 s)), (1, .fz n2 cs), (7, .t (tI (s.length : Int))), (8, .t (tI i))], []⟩ σ' | .brk t => e = .exit 0 ∧ Sub ⟨[], []⟩ σ' | .ret t => e = .ret ∧ retT tab σ' [.tmp 4] = some (((fun r => .t (tI r)) : Int → T) t)) ?_ ?_)))
   ·refine TieS.block (.seq (.region (.run 2 rfl (.nil ?_))))
    refine TieS.seq (.region (.run 3 rfl (.index rfl rfl rfl rfl rfl rfl rfl rfl (fun _ => rfl) fun x hx => .run 1 rfl ?_)))
    refine TieO.call _ rfl rfl rfl (h2 x) (fun _ => rfl) fun v => .nil (.cond rfl ?_ ?_)
    ·exact TieS.seq (.region (.run 2 rfl (.nil (.ret ⟨rfl, rfl⟩))))
    ·exact TieS.skip (.endb (.leaf ⟨rfl, .of rfl rfl⟩))
   rintro (t | t | t) e σ' _ hq
   ·obtain ⟨rfl, hs⟩ := hq
    exact TieX.sub hs (TieS.region (.run 2 rfl (.nil (.leaf ⟨rfl, .of rfl rfl⟩))))
   ·obtain ⟨rfl, hs⟩ := hq
    exact TieX.exitOut rfl ⟨(fun h => by cases h), rfl, hs⟩
   ·obtain ⟨rfl, hs⟩ := hq
    exact TieX.ret ⟨(fun h => by cases h), rfl, hs⟩
  ·exact TieS.exitOut rfl ⟨(fun h => by cases h), rfl, .of rfl rfl⟩
 rintro (s3 | r2) e σ' _ hq
 ·obtain ⟨rfl, hs⟩ := hq
  refine TieX.exit rfl (TieX.sub hs ?_)
  exact TieS.seq (.region (.run 1 rfl (.nil (.ret ⟨.inl rfl, rfl⟩))))
 ·obtain ⟨rfl, hs⟩ := hq
  exact TieX.ret ⟨.inl rfl, hs⟩
set_option maxRecDepth 100000 in
theorem q269 (s : List SMap) (n2 : Nat) (cs : List (List Tree)) (f2 : SMap → Option Bool) (h2 : ∀ x0, TieF Tryz.prog n2 ([A_SMap x0] ++ cs.map T.el) (f2 x0) (fun r => .t (tB r))) : TieF Tryz.prog 40 [.t (tS q72 s), .fz n2 cs] (q107 s f2) (fun r => .t (tB r)) := by
 refine TieF.intro htab 9 [.tmp 4] Tryz.call40 Tryz.func40 rfl rfl rfl (Nat.le_of_ble_eq_true rfl) fun w0 L => ?_
 refine TieS.seq (.region (.run 1 rfl (.nil (.seq ?_))))
 refine TieS.region (.run 2 rfl (.call _ rfl rfl rfl (q311 s n2 cs f2 h2) (fun _ => rfl) fun v => .run 2 rfl (.nil ?_)))
 exact TieS.ret ⟨.inl rfl, rfl⟩
set_option maxRecDepth 100000 in
theorem q298 (s : List (List Int)) (n2 : Nat) (cs : List (List Tree)) (f2 : (List Int) → Option Bool) (h2 : ∀ x0, TieF Tryz.prog n2 ([.t (tS Pv.encI x0)] ++ cs.map T.el) (f2 x0) (fun r => .t (tB r))) : TieF Tryz.prog 135 [.t (tS (Pv.encS Pv.encI) s), .fz n2 cs] (q215 s f2) (fun r => .t (tI r)) := by
 refine TieF.intro htab 19 [.tmp 4] Tryz.call135 Tryz.func135 rfl rfl rfl (Nat.le_of_ble_eq_true rfl) fun w0 L => ?_
 refine TieS.seq (.region (.run 1 rfl (.nil (.seq ?_))))
 refine TieS.seq (.region (.run 3 rfl (.nil (.block ?_))))
 refine TieS.loop (fun p => ⟨[(0, .t (tS (Pv.encS Pv.encI) s)), (1, .fz n2 cs), (7, .t (tI (s.length : Int))), (8, .t (tI p.1))], []⟩) (fun b e σ' => match b with | .inl t => e = .exit 0 ∧ Sub ⟨[], []⟩ σ' | .inr t => e = .ret ∧ retT tab σ' [.tmp 4] = some (((fun r => .t (tI r)) : Int → T) t)) (.of rfl rfl) ?_ ?_
 ·rintro ⟨i, s2⟩
  refine TieS.seq (.region (.run 1 rfl (.nil (.seq ?_))))
  refine TieS.cond rfl ?_ ?_
  ·refine TieS.skip (.seq (TieX.sub (σ' := ⟨[(0, .t (tS (Pv.encS Pv.encI) s)), (1, .fz n2 cs), (7, .t (tI (s.length : Int))), (8, .t (tI i))], []⟩) (.of rfl rfl) (TieS.bind (Q₁ := fun f e σ' => match f with | .next t => e = .normal ∧ Sub ⟨[(0, .t (tS (Pv.encS Pv.encI) s)), (1, .fz n2 cs), (7, .t (tI (s.length : Int))), (8, .t (tI i))], []⟩ σ' | .brk t => e = .exit 0 ∧ Sub ⟨[], []⟩ σ' | .ret t => e = .ret ∧ retT tab σ' [.tmp 4] = some (((fun r => .t (tI r)) : Int → T) t)) ?_ ?_)))
   ·refine TieS.block (.seq (.region (.run 2 rfl (.nil ?_))))
    refine TieS.seq (.region (.run 3 rfl (.index rfl rfl rfl rfl rfl rfl rfl rfl (fun _ => rfl) fun x hx => .run 1 rfl ?_)))
    refine TieO.call _ rfl rfl rfl (h2 x) (fun _ => rfl) fun v => .nil (.cond rfl ?_ ?_)
    ·exact TieS.seq (.region (.run 2 rfl (.nil (.ret ⟨rfl, rfl⟩))))
    ·exact TieS.skip (.endb (.leaf ⟨rfl, .of rfl rfl⟩))
   rintro (t | t | t) e σ' _ hq
   ·obtain ⟨rfl, hs⟩ := hq
    exact TieX.sub hs (TieS.region (.run 2 rfl (.nil (.leaf ⟨rfl, .of rfl rfl⟩))))
   ·obtain ⟨rfl, hs⟩ := hq
    exact TieX.exitOut rfl ⟨(fun h => by cases h), rfl, hs⟩
   ·obtain ⟨rfl, hs⟩ := hq
    exact TieX.ret ⟨(fun h => by cases h), rfl, hs⟩
  ·exact TieS.exitOut rfl ⟨(fun h => by cases h), rfl, .of rfl rfl⟩
 rintro (s3 | r2) e σ' _ hq
 ·obtain ⟨rfl, hs⟩ := hq
  refine TieX.exit rfl (TieX.sub hs ?_)
  exact TieS.seq (.region (.run 1 rfl (.nil (.ret ⟨.inl rfl, rfl⟩))))
 ·obtain ⟨rfl, hs⟩ := hq
  exact TieX.ret ⟨.inl rfl, hs⟩
set_option maxRecDepth 100000 in
theorem q77 (s : List (List Int)) (n2 : Nat) (cs : List (List Tree)) (f2 : (List Int) → Option Bool) (h2 : ∀ x0, TieF Tryz.prog n2 ([.t (tS Pv.encI x0)] ++ cs.map T.el) (f2 x0) (fun r => .t (tB r))) : TieF Tryz.prog 42 [.t (tS (Pv.encS Pv.encI) s), .fz n2 cs] (q31 s f2) (fun r => .t (tB r)) := by
 refine TieF.intro htab 9 [.tmp 4] Tryz.call42 Tryz.func42 rfl rfl rfl (Nat.le_of_ble_eq_true rfl) fun w0 L => ?_
 refine TieS.seq (.region (.run 1 rfl (.nil (.seq ?_))))
 refine TieS.region (.run 2 rfl (.call _ rfl rfl rfl (q298 s n2 cs f2 h2) (fun _ => rfl) fun v => .run 2 rfl (.nil ?_)))
 exact TieS.ret ⟨.inl rfl, rfl⟩
set_option maxRecDepth 100000 in
theorem q331 (l : List Int) : TieF Tryz.prog 43 [.t (tS Pv.encI l)] (q75 l) (fun r => .t (tB r)) := by
 refine TieF.intro htab 6 [.tmp 2] Tryz.call43 Tryz.func43 rfl rfl rfl (Nat.le_of_ble_eq_true rfl) fun w0 L => ?_
 refine TieS.seq (.region (.run 1 rfl (.nil (.seq ?_))))
 exact TieS.region (.run 4 rfl (.nil (.ret ⟨.inl rfl, rfl⟩)))
set_option maxRecDepth 100000 in
theorem q361 (m2 : SMap) : TieF Tryz.prog 41 [A_SMap m2] (q47 m2) (fun r => .t (tB r)) := by
 refine TieF.intro htab 24 [.tmp 2] Tryz.call41 Tryz.func41 rfl rfl rfl (Nat.le_of_ble_eq_true rfl) fun w0 L => ?_
 refine TieS.seq (.region (.run 2 rfl (.nil (.seq ?_))))
 refine TieS.region (.run 5 rfl (.selOr (v := decide ((m2.Y.length : Int) > 40)) 5 7 (fun b => ⟨[(1, .ptr 1 0), (12, .t (tB b))], [(1, .box [.t (tS Pv.encI m2.X), .t (tS Pv.encI m2.Y), .t (tS (Pv.encS Pv.encI) m2.Z)])]⟩) rfl ?_ ?_ ?_))
 ·exact TieO.run 5 rfl (.nil (.leaf ⟨rfl, .of rfl rfl⟩))
 ·exact TieO.run 5 rfl (.nil (.leaf ⟨rfl, .of rfl rfl⟩))
 refine TieO.run 1 rfl (.selOr (v := decide ((m2.Z.length : Int) > 40)) 5 13 (fun b => ⟨[(1, .ptr 1 0), (18, .t (tB b))], [(1, .box [.t (tS Pv.encI m2.X), .t (tS Pv.encI m2.Y), .t (tS (Pv.encS Pv.encI) m2.Z)])]⟩) rfl ?_ ?_ ?_)
 ·exact TieO.run 5 rfl (.nil (.leaf ⟨rfl, .of rfl rfl⟩))
 ·exact TieO.run 5 rfl (.nil (.leaf ⟨rfl, .of rfl rfl⟩))
 refine TieO.run 1 rfl (.bind 4 (fun b2 => ⟨[(23, .t (tB b2))], []⟩) (TieO.split 19 rfl ?_ ?_) fun b2 _ => ?_)
 ·exact TieO.run 4 rfl (.nil (.leaf ⟨rfl, .of rfl rfl⟩))
 ·exact TieO.run 2 rfl (.call _ rfl rfl rfl (q77 m2.Z 43 [] q75 q331) (fun _ => rfl) fun v => .run 1 rfl (.nil (.leaf ⟨rfl, .of rfl rfl⟩)))
 exact TieO.run 1 rfl (.nil (.ret ⟨.inl rfl, rfl⟩))
set_option maxRecDepth 100000 in
theorem q282 (s : List SCurve) (n2 : Nat) (cs : List (List Tree)) (f2 : SCurve → Option Bool) (h2 : ∀ x0, TieF Tryz.prog n2 ([q230 x0] ++ cs.map T.el) (f2 x0) (fun r => .t (tB r))) : TieF Tryz.prog 136 [.t (tS q58 s), .fz n2 cs] (q197 s f2) (fun r => .t (tI r)) := by
 refine TieF.intro htab 19 [.tmp 4] Tryz.call136 Tryz.func136 rfl rfl rfl (Nat.le_of_ble_eq_true rfl) fun w0 L => ?_
 refine TieS.seq (.region (.run 1 rfl (.nil (.seq ?_))))
 refine TieS.seq (.region (.run 3 rfl (.nil (.block ?_))))
 refine TieS.loop (fun p => ⟨[(0, .t (tS q58 s)), (1, .fz n2 cs), (7, .t (tI (s.length : Int))), (8, .t (tI p.1))], []⟩) (fun b e σ' => match b with | .inl t => e = .exit 0 ∧ Sub ⟨[], []⟩ σ' | .inr t => e = .ret ∧ retT tab σ' [.tmp 4] = some (((fun r => .t (tI r)) : Int → T) t)) (.of rfl rfl) ?_ ?_
 ·rintro ⟨i, s2⟩
  refine TieS.seq (.region (.run 1 rfl (.nil (.seq ?_))))
  refine TieS.cond rfl ?_ ?_
  ·refine TieS.skip (.seq (TieX.sub (σ' := ⟨[(0, .t (tS q58 s)), (1, .fz n2 cs), (7, .t (tI (s.length : Int))), (8, .t (tI i))], []⟩) (.of rfl rfl) (TieS.bind (Q₁ := fun f e σ' => match f with | .next t => e = .normal ∧ Sub ⟨[(0, .t (tS q58 s)), (1, .fz n2 cs), (7, .t (tI (s.length : Int))), (8, .t (tI i))], []⟩ σ' | .brk t => e = .exit 0 ∧ Sub ⟨[], []⟩ σ' | .ret t => e = .ret ∧ retT tab σ' [.tmp 4] = some (((fun r => .t (tI r)) : Int → T) t)) ?_ ?_)))
   ·refine TieS.block (.seq (.region (.run 2 rfl (.nil ?_))))
    refine TieS.seq (.region (.run 3 rfl (.index rfl rfl rfl rfl rfl rfl rfl rfl (fun _ => rfl) fun x hx => .run 1 rfl ?_)))
    refine TieO.call _ rfl rfl rfl (h2 x) (fun _ => rfl) fun v => .nil (.cond rfl ?_ ?_)
    ·exact TieS.seq (.region (.run 2 rfl (.nil (.ret ⟨rfl, rfl⟩))))
    ·exact TieS.skip (.endb (.leaf ⟨rfl, .of rfl rfl⟩))
   rintro (t | t | t) e σ' _ hq
   ·obtain ⟨rfl, hs⟩ := hq
    exact TieX.sub hs (TieS.region (.run 2 rfl (.nil (.leaf ⟨rfl, .of rfl rfl⟩))))
   ·obtain ⟨rfl, hs⟩ := hq
    exact TieX.exitOut rfl ⟨(fun h => by cases h), rfl, hs⟩
   ·obtain ⟨rfl, hs⟩ := hq
    exact TieX.ret ⟨(fun h => by cases h), rfl, hs⟩
  ·exact TieS.exitOut rfl ⟨(fun h => by cases h), rfl, .of rfl rfl⟩
 rintro (s3 | r2) e σ' _ hq
 ·obtain ⟨rfl, hs⟩ := hq
  refine TieX.exit rfl (TieX.sub hs ?_)
  exact TieS.seq (.region (.run 1 rfl (.nil (.ret ⟨.inl rfl, rfl⟩))))
 ·obtain ⟨rfl, hs⟩ := hq
  exact TieX.ret ⟨.inl rfl, hs⟩
set_option maxRecDepth 100000 in
theorem q245 (s : List SCurve) (n2 : Nat) (cs : List (List Tree)) (f2 : SCurve → Option Bool) (h2 : ∀ x0, TieF Tryz.prog n2 ([q230 x0] ++ cs.map T.el) (f2 x0) (fun r => .t (tB r))) : TieF Tryz.prog 44 [.t (tS q58 s), .fz n2 cs] (q91 s f2) (fun r => .t (tB r)) := by
 refine TieF.intro htab 9 [.tmp 4] Tryz.call44 Tryz.func44 rfl rfl rfl (Nat.le_of_ble_eq_true rfl) fun w0 L => ?_
 refine TieS.seq (.region (.run 1 rfl (.nil (.seq ?_))))
 refine TieS.region (.run 2 rfl (.call _ rfl rfl rfl (q282 s n2 cs f2 h2) (fun _ => rfl) fun v => .run 2 rfl (.nil ?_)))
 exact TieS.ret ⟨.inl rfl, rfl⟩
set_option maxRecDepth 100000 in
theorem q358 (c : SCurve) : TieF Tryz.prog 45 [q230 c] (q83 c) (fun r => .t (tB r)) := by
 refine TieF.intro htab 13 [.tmp 2] Tryz.call45 Tryz.func45 rfl rfl rfl (Nat.le_of_ble_eq_true rfl) fun w0 L => ?_
 refine TieS.seq (.region (.run 2 rfl (.nil (.seq ?_))))
 refine TieS.region (.run 5 rfl (.selOr (v := decide ((c.Y.length : Int) > 40)) 5 7 (fun b => ⟨[(12, .t (tB b))], []⟩) rfl ?_ ?_ ?_))
 ·exact TieO.run 5 rfl (.nil (.leaf ⟨rfl, .of rfl rfl⟩))
 ·exact TieO.run 5 rfl (.nil (.leaf ⟨rfl, .of rfl rfl⟩))
 exact TieO.run 1 rfl (.nil (.ret ⟨.inl rfl, rfl⟩))
set_option maxRecDepth 100000 in
theorem q368 (t2 : STables) : TieF Tryz.prog 11 [q29 t2] (q152 t2) (fun r => .t (tB r)) := by
 refine TieF.intro htab 31 [.tmp 2] Tryz.call11 Tryz.func11 rfl rfl rfl (Nat.le_of_ble_eq_true rfl) fun w0 L => ?_
 refine TieS.seq (.region (.run 2 rfl (.nil (.seq ?_))))
 refine TieS.region (.run 10 rfl (.nil (.seq (.region ?_))))
 refine TieO.run 10 rfl (.nil (.seq (.region (.run 1 rfl ?_))))
 refine TieO.callS _ rfl rfl rfl (q269 ([t2.Air, t2.Spark, t2.Torque, t2.Wish] : List SMap) 41 [] q47 q361) (fun _ => rfl) (fun _ => rfl) fun v => .run 2 rfl (.bind 4 (fun b2 => ⟨[(30, .t (tB b2))], []⟩) (TieO.split 26 rfl ?_ ?_) fun b2 _ => ?_)
 ·exact TieO.run 1 rfl (.callS _ rfl rfl rfl (q245 ([t2.AirTemp, t2.Dwell, t2.Dead, t2.Efficiency] : List SCurve) 45 [] q83 q358) (fun _ => rfl) (fun _ => rfl) fun v2 => .run 2 rfl (.nil (.leaf ⟨rfl, .of rfl rfl⟩)))
 ·exact TieO.run 4 rfl (.nil (.leaf ⟨rfl, .of rfl rfl⟩))
 exact TieO.run 1 rfl (.nil (.ret ⟨.inl rfl, rfl⟩))
set_option maxRecDepth 100000 in
theorem q360 (e2 : SEngine) (c : SControls) (v_in : SInputs) : TieF Tryz.prog 12 [q186 e2, q129 c, q283 v_in] (q182 e2 c v_in) (fun r => .t (tB r)) := by
 refine TieF.intro htab 36 [.tmp 6] Tryz.call12 Tryz.func12 rfl rfl rfl (Nat.le_of_ble_eq_true rfl) fun w0 L => ?_
 refine TieS.seq (.region (.run 4 rfl (.nil (.seq ?_))))
 refine TieS.region (.run 5 rfl (.selAnd (v := decide ((c.Knock.length : Int) ≤ 40)) 5 11 (fun b => ⟨[(4, .ptr 4 0), (5, .ptr 5 0), (16, .t (tB b))], [(4, .box (q13 c)), (5, .box (q16 v_in))]⟩) rfl ?_ ?_ ?_))
 ·exact TieO.run 5 rfl (.nil (.leaf ⟨rfl, .of rfl rfl⟩))
 ·exact TieO.run 5 rfl (.nil (.leaf ⟨rfl, .of rfl rfl⟩))
 refine TieO.run 1 rfl (.selAnd (v := decide ((c.Probe.Cells.length : Int) ≤ 40)) 6 17 (fun b => ⟨[(5, .ptr 5 0), (23, .t (tB b))], [(5, .box (q16 v_in))]⟩) rfl ?_ ?_ ?_)
 ·exact TieO.run 6 rfl (.nil (.leaf ⟨rfl, .of rfl rfl⟩))
 ·exact TieO.run 6 rfl (.nil (.leaf ⟨rfl, .of rfl rfl⟩))
 refine TieO.run 1 rfl (.selAnd (v := decide ((v_in.Intensity.length : Int) ≤ 40)) 5 24 (fun b => ⟨[(5, .ptr 5 0), (29, .t (tB b))], [(5, .box (q16 v_in))]⟩) rfl ?_ ?_ ?_)
 ·exact TieO.run 5 rfl (.nil (.leaf ⟨rfl, .of rfl rfl⟩))
 ·exact TieO.run 5 rfl (.nil (.leaf ⟨rfl, .of rfl rfl⟩))
 refine TieO.run 1 rfl (.selAnd (v := decide ((v_in.Requests.length : Int) ≤ 40)) 5 30 (fun b => ⟨[(35, .t (tB b))], []⟩) rfl ?_ ?_ ?_)
 ·exact TieO.run 5 rfl (.nil (.leaf ⟨rfl, .of rfl rfl⟩))
 ·exact TieO.run 5 rfl (.nil (.leaf ⟨rfl, .of rfl rfl⟩))
 exact TieO.run 1 rfl (.nil (.ret ⟨.inl rfl, rfl⟩))
set_option maxRecDepth 100000 in
theorem q310 (s : List Int) (n2 : Nat) (cs : List (List Tree)) (f2 : Int → Option Bool) (h2 : ∀ x0, TieF Tryz.prog n2 ([.t (tI x0)] ++ cs.map T.el) (f2 x0) (fun r => .t (tB r))) : TieF Tryz.prog 206 [.t (tS Pv.encI s), .fz n2 cs] (q240 s f2) (fun r => .t (tI r)) := by
 refine TieF.intro htab 19 [.tmp 4] Tryz.call206 Tryz.func206 rfl rfl rfl (Nat.le_of_ble_eq_true rfl) fun w0 L => ?_
 refine TieS.seq (.region (.run 1 rfl (.nil (.seq ?_))))
 refine TieS.seq (.region (.run 3 rfl (.nil (.block ?_))))
 refine TieS.loop (fun p => ⟨[(0, .t (tS Pv.encI s)), (1, .fz n2 cs), (7, .t (tI (s.length : Int))), (8, .t (tI p.1))], []⟩) (fun b e σ' => match b with | .inl t => e = .exit 0 ∧ Sub ⟨[], []⟩ σ' | .inr t => e = .ret ∧ retT tab σ' [.tmp 4] = some (((fun r => .t (tI r)) : Int → T) t)) (.of rfl rfl) ?_ ?_
 ·rintro ⟨i, s2⟩
  refine TieS.seq (.region (.run 1 rfl (.nil (.seq ?_))))
  refine TieS.cond rfl ?_ ?_
  ·refine TieS.skip (.seq (TieX.sub (σ' := ⟨[(0, .t (tS Pv.encI s)), (1, .fz n2 cs), (7, .t (tI (s.length : Int))), (8, .t (tI i))], []⟩) (.of rfl rfl) (TieS.bind (Q₁ := fun f e σ' => match f with | .next t => e = .normal ∧ Sub ⟨[(0, .t (tS Pv.encI s)), (1, .fz n2 cs), (7, .t (tI (s.length : Int))), (8, .t (tI i))], []⟩ σ' | .brk t => e = .exit 0 ∧ Sub ⟨[], []⟩ σ' | .ret t => e = .ret ∧ retT tab σ' [.tmp 4] = some (((fun r => .t (tI r)) : Int → T) t)) ?_ ?_)))
   ·refine TieS.block (.seq (.region (.run 2 rfl (.nil ?_))))
    refine TieS.seq (.region (.run 3 rfl (.index rfl rfl rfl rfl rfl rfl rfl rfl (fun _ => rfl) fun x hx => .run 1 rfl ?_)))
    refine TieO.call _ rfl rfl rfl (h2 x) (fun _ => rfl) fun v => .nil (.cond rfl ?_ ?_)
    ·exact TieS.seq (.region (.run 2 rfl (.nil (.ret ⟨rfl, rfl⟩))))
    ·exact TieS.skip (.endb (.leaf ⟨rfl, .of rfl rfl⟩))
   rintro (t | t | t) e σ' _ hq
   ·obtain ⟨rfl, hs⟩ := hq
    exact TieX.sub hs (TieS.region (.run 2 rfl (.nil (.leaf ⟨rfl, .of rfl rfl⟩))))
   ·obtain ⟨rfl, hs⟩ := hq
    exact TieX.exitOut rfl ⟨(fun h => by cases h), rfl, hs⟩
   ·obtain ⟨rfl, hs⟩ := hq
    exact TieX.ret ⟨(fun h => by cases h), rfl, hs⟩
  ·exact TieS.exitOut rfl ⟨(fun h => by cases h), rfl, .of rfl rfl⟩
 rintro (s3 | r2) e σ' _ hq
 ·obtain ⟨rfl, hs⟩ := hq
  refine TieX.exit rfl (TieX.sub hs ?_)
  exact TieS.seq (.region (.run 1 rfl (.nil (.ret ⟨.inl rfl, rfl⟩))))
 ·obtain ⟨rfl, hs⟩ := hq
  exact TieX.ret ⟨.inl rfl, hs⟩
set_option maxRecDepth 100000 in
theorem q22 (s : List Int) (n2 : Nat) (cs : List (List Tree)) (f2 : Int → Option Bool) (h2 : ∀ x0, TieF Tryz.prog n2 ([.t (tI x0)] ++ cs.map T.el) (f2 x0) (fun r => .t (tB r))) : TieF Tryz.prog 122 [.t (tS Pv.encI s), .fz n2 cs] (q20 s f2) (fun r => .t (tB r)) := by
 refine TieF.intro htab 9 [.tmp 4] Tryz.call122 Tryz.func122 rfl rfl rfl (Nat.le_of_ble_eq_true rfl) fun w0 L => ?_
 refine TieS.seq (.region (.run 1 rfl (.nil (.seq ?_))))
 refine TieS.region (.run 2 rfl (.call _ rfl rfl rfl (q310 s n2 cs f2 h2) (fun _ => rfl) fun v => .run 2 rfl (.nil ?_)))
 exact TieS.ret ⟨.inl rfl, rfl⟩
set_option maxRecDepth 100000 in
theorem q264 (n2 : Int) : TieF Tryz.prog 148 [.t (tI n2)] (q127 n2) (fun r => .t (tB r)) := by
 refine TieF.intro htab 9 [.tmp 2] Tryz.call148 Tryz.func148 rfl rfl rfl (Nat.le_of_ble_eq_true rfl) fun w0 L => ?_
 refine TieS.seq (.region (.run 1 rfl (.nil (.seq ?_))))
 refine TieS.region (.run 3 rfl (.selAnd (v := decide (n2 ≤ 1073741824)) 3 5 (fun b => ⟨[(8, .t (tB b))], []⟩) rfl ?_ ?_ ?_))
 ·exact TieO.run 3 rfl (.nil (.leaf ⟨rfl, .of rfl rfl⟩))
 ·exact TieO.run 3 rfl (.nil (.leaf ⟨rfl, .of rfl rfl⟩))
 exact TieO.run 1 rfl (.nil (.ret ⟨.inl rfl, rfl⟩))
set_option maxRecDepth 100000 in
theorem q328 (l : List Int) : TieF Tryz.prog 146 [.t (tS Pv.encI l)] (q180 l) (fun r => .t (tB r)) := by
 refine TieF.intro htab 37 [.tmp 2] Tryz.call146 Tryz.func146 rfl rfl rfl (Nat.le_of_ble_eq_true rfl) fun w0 L => ?_
 refine TieS.seq (.region (.run 1 rfl (.nil (.seq ?_))))
 refine TieS.seq (.region (.run 4 rfl (.selOr (v := decide ((l.length : Int) > 32)) 4 8 (fun b => ⟨[(0, .t (tS Pv.encI l)), (12, .t (tB b))], []⟩) rfl ?_ ?_ ?_)))
 ·exact TieO.run 4 rfl (.nil (.leaf ⟨rfl, .of rfl rfl⟩))
 ·exact TieO.run 4 rfl (.nil (.leaf ⟨rfl, .of rfl rfl⟩))
 refine TieO.nil (.cond rfl ?_ ?_)
 ·exact TieS.seq (.region (.run 1 rfl (.nil (.ret ⟨.inl rfl, rfl⟩))))
 ·refine TieS.skip (.seq (.seq (.region (.run 3 rfl ?_))))
  refine TieO.nil (.block (.loop (fun p => ⟨[(0, .t (tS Pv.encI l)), (13, .t (tS Pv.encI l)), (14, .t (tI (l.length : Int))), (15, .t (tI p.1))], []⟩) (fun b e σ' => match b with | .inl t => e = .exit 0 ∧ Sub ⟨[], []⟩ σ' | .inr t => e = .ret ∧ retT tab σ' [.tmp 2] = some (((fun r => .t (tB r)) : Bool → T) t)) (.of rfl rfl) ?_ ?_))
  ·rintro ⟨i, s⟩
   refine TieS.seq (.region (.run 1 rfl (.nil (.seq ?_))))
   refine TieS.cond rfl ?_ ?_
   ·refine TieS.skip (.seq (TieX.sub (σ' := ⟨[(0, .t (tS Pv.encI l)), (13, .t (tS Pv.encI l)), (14, .t (tI (l.length : Int))), (15, .t (tI i))], []⟩) (.of rfl rfl) (TieS.bind (Q₁ := fun f e σ' => match f with | .next t => e = .normal ∧ Sub ⟨[(0, .t (tS Pv.encI l)), (13, .t (tS Pv.encI l)), (14, .t (tI (l.length : Int))), (15, .t (tI i))], []⟩ σ' | .brk t => e = .exit 0 ∧ Sub ⟨[], []⟩ σ' | .ret t => e = .ret ∧ retT tab σ' [.tmp 2] = some (((fun r => .t (tB r)) : Bool → T) t)) ?_ ?_)))
    ·refine TieS.block (.seq (.region (.run 1 rfl (.index rfl rfl rfl rfl rfl rfl rfl rfl (fun _ => rfl) fun x hx => ?_))))
     refine TieO.run 3 rfl (.nil (.seq (.region (.run 1 rfl ?_))))
     refine TieO.call _ rfl rfl rfl (q264 x) (fun _ => rfl) fun v => .run 2 rfl (.bind 12 (fun b3 => ⟨[(0, .t (tS Pv.encI l)), (13, .t (tS Pv.encI l)), (14, .t (tI (l.length : Int))), (15, .t (tI i)), (35, .t (tB b3))], []⟩) (TieO.split 23 rfl ?_ ?_) fun b3 _ => ?_)
     ·exact TieO.run 12 rfl (.nil (.leaf ⟨rfl, .of rfl rfl⟩))
     ·refine TieO.run 3 rfl (.bind 8 (fun b2 => ⟨[(0, .t (tS Pv.encI l)), (13, .t (tS Pv.encI l)), (14, .t (tI (l.length : Int))), (15, .t (tI i)), (23, .t (tB false)), (34, .t (tB b2))], []⟩) (TieO.split 26 rfl ?_ ?_) fun b2 _ => ?_)
      ·exact TieO.run 4 rfl (.index rfl rfl rfl rfl rfl rfl rfl rfl (fun _ => rfl) fun x2 hx2 => .run 3 rfl (.nil (.leaf ⟨rfl, .of rfl rfl⟩)))
      ·exact TieO.run 8 rfl (.nil (.leaf ⟨rfl, .of rfl rfl⟩))
      exact TieO.run 1 rfl (.nil (.leaf ⟨rfl, .of rfl rfl⟩))
     refine TieO.nil (.cond rfl ?_ ?_)
     ·exact TieS.seq (.region (.run 1 rfl (.nil (.ret ⟨rfl, rfl⟩))))
     ·exact TieS.skip (.endb (.leaf ⟨rfl, .of rfl rfl⟩))
    rintro (t | t | t) e σ' _ hq
    ·obtain ⟨rfl, hs⟩ := hq
     exact TieX.sub hs (TieS.region (.run 2 rfl (.nil (.leaf ⟨rfl, .of rfl rfl⟩))))
    ·obtain ⟨rfl, hs⟩ := hq
     exact TieX.exitOut rfl ⟨(fun h => by cases h), rfl, hs⟩
    ·obtain ⟨rfl, hs⟩ := hq
     exact TieX.ret ⟨(fun h => by cases h), rfl, hs⟩
   ·exact TieS.exitOut rfl ⟨(fun h => by cases h), rfl, .of rfl rfl⟩
  rintro (s2 | r2) e σ' _ hq
  ·obtain ⟨rfl, hs⟩ := hq
   refine TieX.exit rfl (TieX.sub hs ?_)
   exact TieS.seq (.region (.run 1 rfl (.nil (.ret ⟨.inl rfl, rfl⟩))))
  ·obtain ⟨rfl, hs⟩ := hq
   exact TieX.ret ⟨.inl rfl, hs⟩
set_option maxRecDepth 100000 in
theorem q387 (z : Int) : TieF Tryz.prog 147 [.t (tI z)] (q84 z) (fun r => .t (tB r)) := by
 refine TieF.intro htab 6 [.tmp 2] Tryz.call147 Tryz.func147 rfl rfl rfl (Nat.le_of_ble_eq_true rfl) fun w0 L => ?_
 refine TieS.seq (.region (.run 1 rfl (.nil (.seq ?_))))
 refine TieS.region (.run 1 rfl (.call _ rfl rfl rfl (q264 z) (fun _ => rfl) fun v => .run 2 rfl (.nil ?_)))
 exact TieS.ret ⟨.inl rfl, rfl⟩
set_option maxRecDepth 100000 in
theorem q54 (m2 : SMap) : TieF Tryz.prog 53 [A_SMap m2] (q48 m2) (fun r => .t (tB r)) := by
 refine TieF.intro htab 42 [.tmp 2] Tryz.call53 Tryz.func53 rfl rfl rfl (Nat.le_of_ble_eq_true rfl) fun w0 L => ?_
 refine TieS.seq (.region (.run 2 rfl (.nil (.seq ?_))))
 refine TieS.seq (.region (.run 2 rfl (.call _ rfl rfl rfl (q328 m2.X) (fun _ => rfl) fun v => .run 2 rfl ?_)))
 refine TieO.bind 5 (fun b2 => ⟨[(1, .ptr 1 0), (14, .t (tB b2))], [(1, .box [.t (tS Pv.encI m2.X), .t (tS Pv.encI m2.Y), .t (tS (Pv.encS Pv.encI) m2.Z)])]⟩) (TieO.split 9 rfl ?_ ?_) fun b2 _ => ?_
 ·exact TieO.run 5 rfl (.nil (.leaf ⟨rfl, .of rfl rfl⟩))
 ·exact TieO.run 2 rfl (.call _ rfl rfl rfl (q328 m2.Y) (fun _ => rfl) fun v2 => .run 2 rfl (.nil (.leaf ⟨rfl, .of rfl rfl⟩)))
 refine TieO.run 1 rfl (.selOr (v := ((m2.Z.length : Int) != (m2.X.length : Int))) 8 15 (fun b => ⟨[(1, .ptr 1 0), (23, .t (tB b))], [(1, .box [.t (tS Pv.encI m2.X), .t (tS Pv.encI m2.Y), .t (tS (Pv.encS Pv.encI) m2.Z)])]⟩) rfl ?_ ?_ ?_)
 ·exact TieO.run 8 rfl (.nil (.leaf ⟨rfl, .of rfl rfl⟩))
 ·exact TieO.run 8 rfl (.nil (.leaf ⟨rfl, .of rfl rfl⟩))
 refine TieO.nil (.cond rfl ?_ ?_)
 ·exact TieS.seq (.region (.run 1 rfl (.nil (.ret ⟨.inl rfl, rfl⟩))))
 ·refine TieS.skip (.seq (.seq (.region (.run 4 rfl ?_))))
  refine TieO.nil (.block (.loop (fun p => ⟨[(1, .ptr 1 0), (25, .t (tS (Pv.encS Pv.encI) m2.Z)), (26, .t (tI (m2.Z.length : Int))), (27, .t (tI p.1))], [(1, .box [.t (tS Pv.encI m2.X), .t (tS Pv.encI m2.Y), .t (tS (Pv.encS Pv.encI) m2.Z)])]⟩) (fun b e σ' => match b with | .inl t => e = .exit 0 ∧ Sub ⟨[], []⟩ σ' | .inr t => e = .ret ∧ retT tab σ' [.tmp 2] = some (((fun r => .t (tB r)) : Bool → T) t)) (.of rfl rfl) ?_ ?_))
  ·rintro ⟨i, s⟩
   refine TieS.seq (.region (.run 1 rfl (.nil (.seq ?_))))
   refine TieS.cond rfl ?_ ?_
   ·refine TieS.skip (.seq (TieX.pre fun x hx => TieX.sub (σ' := ⟨[(1, .ptr 1 0), (25, .t (tS (Pv.encS Pv.encI) m2.Z)), (26, .t (tI (m2.Z.length : Int))), (27, .t (tI i))], [(1, .box [.t (tS Pv.encI m2.X), .t (tS Pv.encI m2.Y), .t (tS (Pv.encS Pv.encI) m2.Z)])]⟩) (.of rfl rfl) (TieS.bind (Q₁ := fun f e σ' => match f with | .next t => e = .normal ∧ Sub ⟨[(1, .ptr 1 0), (25, .t (tS (Pv.encS Pv.encI) m2.Z)), (26, .t (tI (m2.Z.length : Int))), (27, .t (tI i))], [(1, .box [.t (tS Pv.encI m2.X), .t (tS Pv.encI m2.Y), .t (tS (Pv.encS Pv.encI) m2.Z)])]⟩ σ' | .brk t => e = .exit 0 ∧ Sub ⟨[], []⟩ σ' | .ret t => e = .ret ∧ retT tab σ' [.tmp 2] = some (((fun r => .t (tB r)) : Bool → T) t)) ?_ ?_)))
    ·refine TieS.block (.seq (.region (.indexH hx rfl rfl rfl rfl rfl rfl rfl rfl (fun _ => rfl) (.run 2 rfl ?_))))
     refine TieO.nil (.seq (.region (.run 7 rfl (.bind 3 (fun b3 => ⟨[(1, .ptr 1 0), (25, .t (tS (Pv.encS Pv.encI) m2.Z)), (26, .t (tI (m2.Z.length : Int))), (27, .t (tI i)), (40, .t (tB b3))], [(1, .box [.t (tS Pv.encI m2.X), .t (tS Pv.encI m2.Y), .t (tS (Pv.encS Pv.encI) m2.Z)])]⟩) (TieO.split 37 rfl ?_ ?_) fun b3 _ => ?_))))
     ·exact TieO.run 3 rfl (.nil (.leaf ⟨rfl, .of rfl rfl⟩))
     ·exact TieO.run 1 rfl (.call _ rfl rfl rfl (q22 x 147 [] q84 q387) (fun _ => rfl) fun v3 => .run 1 rfl (.nil (.leaf ⟨rfl, .of rfl rfl⟩)))
     refine TieO.nil (.cond rfl ?_ ?_)
     ·exact TieS.seq (.region (.run 1 rfl (.nil (.ret ⟨rfl, rfl⟩))))
     ·exact TieS.skip (.endb (.leaf ⟨rfl, .of rfl rfl⟩))
    rintro (t | t | t) e σ' _ hq
    ·obtain ⟨rfl, hs⟩ := hq
     exact TieX.sub hs (TieS.region (.run 2 rfl (.nil (.leaf ⟨rfl, .of rfl rfl⟩))))
    ·obtain ⟨rfl, hs⟩ := hq
     exact TieX.exitOut rfl ⟨(fun h => by cases h), rfl, hs⟩
    ·obtain ⟨rfl, hs⟩ := hq
     exact TieX.ret ⟨(fun h => by cases h), rfl, hs⟩
   ·exact TieS.exitOut rfl ⟨(fun h => by cases h), rfl, .of rfl rfl⟩
  rintro (s2 | r2) e σ' _ hq
  ·obtain ⟨rfl, hs⟩ := hq
   refine TieX.exit rfl (TieX.sub hs ?_)
   exact TieS.seq (.region (.run 1 rfl (.nil (.ret ⟨.inl rfl, rfl⟩))))
  ·obtain ⟨rfl, hs⟩ := hq
   exact TieX.ret ⟨.inl rfl, hs⟩
set_option maxRecDepth 100000 in
theorem q381 (n2 : Int) : TieF Tryz.prog 150 [.t (tI n2)] (q125 n2) (fun r => .t (tB r)) := by
 refine TieF.intro htab 9 [.tmp 2] Tryz.call150 Tryz.func150 rfl rfl rfl (Nat.le_of_ble_eq_true rfl) fun w0 L => ?_
 refine TieS.seq (.region (.run 1 rfl (.nil (.seq ?_))))
 refine TieS.region (.run 3 rfl (.selOr (v := decide (n2 > 1073741824)) 3 5 (fun b => ⟨[(8, .t (tB b))], []⟩) rfl ?_ ?_ ?_))
 ·exact TieO.run 3 rfl (.nil (.leaf ⟨rfl, .of rfl rfl⟩))
 ·exact TieO.run 3 rfl (.nil (.leaf ⟨rfl, .of rfl rfl⟩))
 exact TieO.run 1 rfl (.nil (.ret ⟨.inl rfl, rfl⟩))
set_option maxRecDepth 100000 in
theorem q465 (l : List Int) : TieF Tryz.prog 149 [.t (tS Pv.encI l)] (q307 l) (fun r => .t (tB r)) := by
 refine TieF.intro htab 33 [.tmp 2] Tryz.call149 Tryz.func149 rfl rfl rfl (Nat.le_of_ble_eq_true rfl) fun w0 L => ?_
 refine TieS.seq (.region (.run 1 rfl (.nil (.seq ?_))))
 refine TieS.seq (.region (.run 4 rfl (.selOr (v := decide ((l.length : Int) > 32)) 4 7 (fun b => ⟨[(0, .t (tS Pv.encI l)), (11, .t (tB b))], []⟩) rfl ?_ ?_ ?_)))
 ·exact TieO.run 4 rfl (.nil (.leaf ⟨rfl, .of rfl rfl⟩))
 ·exact TieO.run 4 rfl (.nil (.leaf ⟨rfl, .of rfl rfl⟩))
 refine TieO.run 1 rfl (.bind 3 (fun b2 => ⟨[(0, .t (tS Pv.encI l)), (15, .t (tB b2))], []⟩) (TieO.split 12 rfl ?_ ?_) fun b2 _ => ?_)
 ·exact TieO.run 3 rfl (.nil (.leaf ⟨rfl, .of rfl rfl⟩))
 ·exact TieO.run 1 rfl (.call _ rfl rfl rfl (q22 l 150 [] q125 q381) (fun _ => rfl) fun v => .run 1 rfl (.nil (.leaf ⟨rfl, .of rfl rfl⟩)))
 refine TieO.nil (.cond rfl ?_ ?_)
 ·exact TieS.seq (.region (.run 1 rfl (.nil (.ret ⟨.inl rfl, rfl⟩))))
 ·refine TieS.skip (.seq (.seq (.region (.run 4 rfl ?_))))
  refine TieO.nil (.block (.loop (fun p => ⟨[(0, .t (tS Pv.encI l)), (18, .t (tI (w64 ((l.length : Int) - 1)))), (19, .t (tI p.1))], []⟩) (fun b e σ' => match b with | .inl t => e = .exit 0 ∧ Sub ⟨[], []⟩ σ' | .inr t => e = .ret ∧ retT tab σ' [.tmp 2] = some (((fun r => .t (tB r)) : Bool → T) t)) (.of rfl rfl) ?_ ?_))
  ·rintro ⟨i, s⟩
   refine TieS.seq (.region (.run 1 rfl (.nil (.seq ?_))))
   refine TieS.cond rfl ?_ ?_
   ·refine TieS.skip (.seq (TieX.sub (σ' := ⟨[(0, .t (tS Pv.encI l)), (18, .t (tI (w64 ((l.length : Int) - 1)))), (19, .t (tI i))], []⟩) (.of rfl rfl) (TieS.bind (Q₁ := fun f e σ' => match f with | .next t => e = .normal ∧ Sub ⟨[(0, .t (tS Pv.encI l)), (18, .t (tI (w64 ((l.length : Int) - 1)))), (19, .t (tI i))], []⟩ σ' | .brk t => e = .exit 0 ∧ Sub ⟨[], []⟩ σ' | .ret t => e = .ret ∧ retT tab σ' [.tmp 2] = some (((fun r => .t (tB r)) : Bool → T) t)) ?_ ?_)))
    ·refine TieS.block (.seq (.region (.run 2 rfl (.nil ?_))))
     refine TieS.seq (TieX.pre fun x hx => TieX.pre fun x2 hx2 => TieS.draw 10 [_, _, _, _, _, _, _, _, _, _] [(0, .t (tS Pv.encI l)), (3, .t (tI i)), (18, .t (tI (w64 ((l.length : Int) - 1)))), (19, .t (tI i))] [] mixed (.of rfl rfl) rfl rfl rfl rfl (.cons (.quiet rfl rfl rfl) (.cons (.quiet rfl rfl rfl) (.cons (.index hx rfl rfl rfl rfl rfl rfl (fun _ => rfl)) (.cons (.quiet rfl rfl rfl) (.cons (.quiet rfl rfl rfl) (.cons (.quiet rfl rfl rfl) (.cons (.quiet rfl rfl rfl) (.cons (.index hx2 rfl rfl rfl rfl rfl rfl (fun _ => rfl)) (.cons (.quiet rfl rfl rfl) (.cons (.quiet rfl rfl rfl) (.nil))))))))))) (.nil ?_))
     refine TieS.cond rfl ?_ ?_
     ·exact TieS.seq (.region (.run 1 rfl (.nil (.ret ⟨rfl, rfl⟩))))
     ·exact TieS.skip (.endb (.leaf ⟨rfl, .of rfl rfl⟩))
    rintro (t | t | t) e σ' _ hq
    ·obtain ⟨rfl, hs⟩ := hq
     exact TieX.sub hs (TieS.region (.run 2 rfl (.nil (.leaf ⟨rfl, .of rfl rfl⟩))))
    ·obtain ⟨rfl, hs⟩ := hq
     exact TieX.exitOut rfl ⟨(fun h => by cases h), rfl, hs⟩
    ·obtain ⟨rfl, hs⟩ := hq
     exact TieX.ret ⟨(fun h => by cases h), rfl, hs⟩
   ·exact TieS.exitOut rfl ⟨(fun h => by cases h), rfl, .of rfl rfl⟩
  rintro (s2 | r2) e σ' _ hq
  ·obtain ⟨rfl, hs⟩ := hq
   refine TieX.exit rfl (TieX.sub hs ?_)
   exact TieS.seq (.region (.run 1 rfl (.nil (.ret ⟨.inl rfl, rfl⟩))))
  ·obtain ⟨rfl, hs⟩ := hq
   exact TieX.ret ⟨.inl rfl, hs⟩
set_option maxRecDepth 100000 in
theorem q55 (c : SCurve) : TieF Tryz.prog 54 [q230 c] (q56 c) (fun r => .t (tB r)) := by
 refine TieF.intro htab 21 [.tmp 2] Tryz.call54 Tryz.func54 rfl rfl rfl (Nat.le_of_ble_eq_true rfl) fun w0 L => ?_
 refine TieS.seq (.region (.run 2 rfl (.nil (.seq ?_))))
 refine TieS.region (.run 8 rfl (.bind 4 (fun b2 => ⟨[(1, .ptr 1 0), (14, .t (tB b2))], [(1, .box [.t (tS Pv.encI c.X), .t (tS Pv.encI c.Y)])]⟩) (TieO.split 10 rfl ?_ ?_) fun b2 _ => ?_))
 ·exact TieO.run 2 rfl (.call _ rfl rfl rfl (q465 c.X) (fun _ => rfl) fun v => .run 1 rfl (.nil (.leaf ⟨rfl, .of rfl rfl⟩)))
 ·exact TieO.run 4 rfl (.nil (.leaf ⟨rfl, .of rfl rfl⟩))
 refine TieO.run 1 rfl (.bind 5 (fun b3 => ⟨[(20, .t (tB b3))], []⟩) (TieO.split 15 rfl ?_ ?_) fun b3 _ => ?_)
 ·exact TieO.run 2 rfl (.call _ rfl rfl rfl (q22 c.Y 150 [] q125 q381) (fun _ => rfl) fun v2 => .run 2 rfl (.nil (.leaf ⟨rfl, .of rfl rfl⟩)))
 ·exact TieO.run 5 rfl (.nil (.leaf ⟨rfl, .of rfl rfl⟩))
 exact TieO.run 1 rfl (.nil (.ret ⟨.inl rfl, rfl⟩))
set_option maxRecDepth 100000 in
theorem q303 (x : Int) : TieF Tryz.prog 257 [.t (tI x)] (q220 x) (fun r => .t (tB r)) := by
 refine TieF.intro htab 6 [.tmp 2] Tryz.call257 Tryz.func257 rfl rfl rfl (Nat.le_of_ble_eq_true rfl) fun w0 L => ?_
 refine TieS.seq (.region (.run 1 rfl (.nil (.seq ?_))))
 exact TieS.region (.run 4 rfl (.nil (.ret ⟨.inl rfl, rfl⟩)))
set_option maxRecDepth 100000 in
theorem q443 (x : Int) (y : Int) : TieF Tryz.prog 217 [.t (tI x), .t (tI y)] (q247 x y) (fun r => .t (tB r)) := by
 refine TieF.intro htab 17 [.tmp 4] Tryz.call217 Tryz.func217 rfl rfl rfl (Nat.le_of_ble_eq_true rfl) fun w0 L => ?_
 refine TieS.seq (.region (.run 1 rfl (.nil (.seq ?_))))
 refine TieS.region (.run 1 rfl (.call _ rfl rfl rfl (q303 x) (fun _ => rfl) fun v => .run 1 rfl (.bind 4 (fun b2 => ⟨[(0, .t (tI x)), (1, .t (tI y)), (11, .t (tB b2))], []⟩) (TieO.split 7 rfl ?_ ?_) fun b2 _ => ?_)))
 ·exact TieO.run 1 rfl (.call _ rfl rfl rfl (q303 y) (fun _ => rfl) fun v2 => .run 2 rfl (.nil (.leaf ⟨rfl, .of rfl rfl⟩)))
 ·exact TieO.run 4 rfl (.nil (.leaf ⟨rfl, .of rfl rfl⟩))
 refine TieO.run 1 rfl (.selOr (v := decide (x < y)) 4 12 (fun b => ⟨[(16, .t (tB b))], []⟩) rfl ?_ ?_ ?_)
 ·exact TieO.run 4 rfl (.nil (.leaf ⟨rfl, .of rfl rfl⟩))
 ·exact TieO.run 4 rfl (.nil (.leaf ⟨rfl, .of rfl rfl⟩))
 exact TieO.run 1 rfl (.nil (.ret ⟨.inl rfl, rfl⟩))
set_option maxRecDepth 100000 in
theorem q178 (x : List Int) : TieF Tryz.prog 139 [.t (tS Pv.encI x)] (q70 x) (fun r => .t (tB r)) := by
 refine TieF.intro htab 21 [.tmp 2] Tryz.call139 Tryz.func139 rfl rfl rfl (Nat.le_of_ble_eq_true rfl) fun w0 L => ?_
 refine TieS.seq (.region (.run 1 rfl (.nil (.seq ?_))))
 refine TieS.seq (.region (.run 4 rfl (.nil (.block ?_))))
 refine TieS.loop (fun t => ⟨[(0, .t (tS Pv.encI x)), (3, .t (tI t))], []⟩) (fun b e σ' => match b with | .inl t => e = .exit 0 ∧ Sub ⟨[], []⟩ σ' | .inr t => e = .ret ∧ retT tab σ' [.tmp 2] = some (((fun r => .t (tB r)) : Bool → T) t)) (.of rfl rfl) ?_ ?_
 ·intro i
  refine TieS.seq (.seq (.region (.run 2 rfl (.nil ?_))))
  refine TieS.cond rfl ?_ ?_
  ·refine TieS.skip (.seq (.block (.seq (TieX.pre fun x2 hx2 => ?_))))
   refine TieX.pre fun x3 hx3 => TieX.pre fun v hv => TieS.draw 10 [_, _, _, _, _, _, _, _, _, _] [(0, .t (tS Pv.encI x)), (3, .t (tI i))] [] mixed (.of rfl rfl) rfl rfl rfl rfl (.cons (.quiet rfl rfl rfl) (.cons (.quiet rfl rfl rfl) (.cons (.index hx2 rfl rfl rfl rfl rfl rfl (fun _ => rfl)) (.cons (.quiet rfl rfl rfl) (.cons (.quiet rfl rfl rfl) (.cons (.quiet rfl rfl rfl) (.cons (.quiet rfl rfl rfl) (.cons (.index hx3 rfl rfl rfl rfl rfl rfl (fun _ => rfl)) (.cons (.quiet rfl rfl rfl) (.cons (.callV (q443 x2 x3) hv rfl rfl rfl rfl) (.nil))))))))))) (.nil (.cond rfl ?_ ?_))
   ·exact TieS.seq (.region (.run 1 rfl (.nil (.ret ⟨(fun h => by cases h), rfl, rfl⟩))))
   ·refine TieS.skip (.endb (.region (.run 3 rfl (.nil ?_))))
    exact TieS.leaf ⟨rfl, .of rfl rfl⟩
  ·exact TieS.exitOut rfl ⟨(fun h => by cases h), rfl, .of rfl rfl⟩
 rintro (i2 | r2) e σ' _ hq
 ·obtain ⟨rfl, hs⟩ := hq
  refine TieX.exit rfl (TieX.sub hs ?_)
  exact TieS.seq (.region (.run 1 rfl (.nil (.ret ⟨.inl rfl, rfl⟩))))
 ·obtain ⟨rfl, hs⟩ := hq
  exact TieX.ret ⟨.inl rfl, hs⟩
set_option maxRecDepth 100000 in
theorem q25 (n2 : Int) (low : Int) (high : Int) : TieF Tryz.prog 140 [.t (tI n2), .t (tI low), .t (tI high)] (q36 n2 low high) (fun r => .t (tB r)) := by
 refine TieF.intro htab 15 [.tmp 6] Tryz.call140 Tryz.func140 rfl rfl rfl (Nat.le_of_ble_eq_true rfl) fun w0 L => ?_
 refine TieS.seq (.region (.run 1 rfl (.nil (.seq ?_))))
 refine TieS.region (.run 4 rfl (.selAnd (v := decide (n2 ≤ high)) 4 10 (fun b => ⟨[(14, .t (tB b))], []⟩) rfl ?_ ?_ ?_))
 ·exact TieO.run 4 rfl (.nil (.leaf ⟨rfl, .of rfl rfl⟩))
 ·exact TieO.run 4 rfl (.nil (.leaf ⟨rfl, .of rfl rfl⟩))
 exact TieO.run 1 rfl (.nil (.ret ⟨.inl rfl, rfl⟩))
set_option maxRecDepth 100000 in
theorem q455 (y : Int) : TieF Tryz.prog 141 [.t (tI y)] (q281 y) (fun r => .t (tB r)) := by
 refine TieF.intro htab 6 [.tmp 2] Tryz.call141 Tryz.func141 rfl rfl rfl (Nat.le_of_ble_eq_true rfl) fun w0 L => ?_
 refine TieS.seq (.region (.run 1 rfl (.nil (.seq ?_))))
 refine TieS.region (.run 1 rfl (.call _ rfl rfl rfl (q25 y 100 3000) (fun _ => rfl) fun v => .run 2 rfl (.nil ?_)))
 exact TieS.ret ⟨.inl rfl, rfl⟩
set_option maxRecDepth 100000 in
theorem q297 (t2 : STables) : TieF Tryz.prog 51 [q29 t2] (q238 t2) (fun r => .t (tB r)) := by
 refine TieF.intro htab 49 [.tmp 2] Tryz.call51 Tryz.func51 rfl rfl rfl (Nat.le_of_ble_eq_true rfl) fun w0 L => ?_
 refine TieS.seq (.region (.run 2 rfl (.nil (.seq ?_))))
 refine TieS.seq (.region (.run 2 rfl (.call _ rfl rfl rfl (q54 t2.Air) (fun _ => rfl) fun v => .run 2 rfl ?_)))
 refine TieO.bind 5 (fun b2 => ⟨[(1, .ptr 1 0), (14, .t (tB b2))], [(1, .box (q15 t2))]⟩) (TieO.split 9 rfl ?_ ?_) fun b2 _ => ?_
 ·exact TieO.run 5 rfl (.nil (.leaf ⟨rfl, .of rfl rfl⟩))
 ·exact TieO.run 2 rfl (.call _ rfl rfl rfl (q55 t2.AirTemp) (fun _ => rfl) fun v2 => .run 2 rfl (.nil (.leaf ⟨rfl, .of rfl rfl⟩)))
 refine TieO.nil (.cond rfl ?_ ?_)
 ·exact TieS.seq (.region (.run 1 rfl (.nil (.ret ⟨.inl rfl, rfl⟩))))
 ·refine TieS.skip (.seq (.seq (.region (.run 5 rfl ?_))))
  refine TieO.nil (.block (.loop (fun p => ⟨[(1, .ptr 1 0), (17, .t (tS (Pv.encS Pv.encI) t2.Air.Z)), (18, .t (tI (t2.Air.Z.length : Int))), (19, .t (tI p.1))], [(1, .box (q15 t2))]⟩) (fun b e σ' => match b with | .inl t => e = .exit 0 ∧ Sub ⟨[(1, .ptr 1 0)], [(1, .box (q15 t2))]⟩ σ' | .inr t => e = .ret ∧ retT tab σ' [.tmp 2] = some (((fun r => .t (tB r)) : Bool → T) t)) (.of rfl rfl) ?_ ?_))
  ·rintro ⟨i, s⟩
   refine TieS.seq (.region (.run 1 rfl (.nil (.seq ?_))))
   refine TieS.cond rfl ?_ ?_
   ·refine TieS.skip (.seq (TieX.pre fun x hx => TieX.sub (σ' := ⟨[(1, .ptr 1 0), (17, .t (tS (Pv.encS Pv.encI) t2.Air.Z)), (18, .t (tI (t2.Air.Z.length : Int))), (19, .t (tI i))], [(1, .box (q15 t2))]⟩) (.of rfl rfl) (TieS.bind (Q₁ := fun f e σ' => match f with | .next t => e = .normal ∧ Sub ⟨[(1, .ptr 1 0), (17, .t (tS (Pv.encS Pv.encI) t2.Air.Z)), (18, .t (tI (t2.Air.Z.length : Int))), (19, .t (tI i))], [(1, .box (q15 t2))]⟩ σ' | .brk t => e = .exit 0 ∧ Sub ⟨[(1, .ptr 1 0)], [(1, .box (q15 t2))]⟩ σ' | .ret t => e = .ret ∧ retT tab σ' [.tmp 2] = some (((fun r => .t (tB r)) : Bool → T) t)) ?_ ?_)))
    ·refine TieS.block (.seq (.region (.indexH hx rfl rfl rfl rfl rfl rfl rfl rfl (fun _ => rfl) (.run 2 rfl ?_))))
     refine TieO.nil (.seq (.region (.run 1 rfl (.call _ rfl rfl rfl (q178 x) (fun _ => rfl) fun v3 => ?_))))
     refine TieO.run 2 rfl (.bind 6 (fun b3 => ⟨[(1, .ptr 1 0), (4, .t (tS Pv.encI x)), (17, .t (tS (Pv.encS Pv.encI) t2.Air.Z)), (18, .t (tI (t2.Air.Z.length : Int))), (19, .t (tI i)), (32, .t (tB b3))], [(1, .box (q15 t2))]⟩) (TieO.split 26 rfl ?_ ?_) fun b3 _ => ?_)
     ·exact TieO.run 6 rfl (.nil (.leaf ⟨rfl, .of rfl rfl⟩))
     ·refine TieO.run 1 rfl (.index rfl rfl rfl rfl rfl rfl rfl rfl (fun _ => rfl) fun x2 hx2 => .run 1 rfl (.call _ rfl rfl rfl (q25 x2 0 1048576) (fun _ => rfl) fun v4 => .run 2 rfl ?_))
      exact TieO.nil (.leaf ⟨rfl, .of rfl rfl⟩)
     refine TieO.run 1 rfl (.bind 9 (fun b4 => ⟨[(1, .ptr 1 0), (17, .t (tS (Pv.encS Pv.encI) t2.Air.Z)), (18, .t (tI (t2.Air.Z.length : Int))), (19, .t (tI i)), (42, .t (tB b4))], [(1, .box (q15 t2))]⟩) (TieO.split 33 rfl ?_ ?_) fun b4 _ => ?_)
     ·exact TieO.run 9 rfl (.nil (.leaf ⟨rfl, .of rfl rfl⟩))
     ·refine TieO.run 4 rfl (.index rfl rfl rfl rfl rfl rfl rfl rfl (fun _ => rfl) fun x3 hx3 => .run 1 rfl (.call _ rfl rfl rfl (q25 x3 0 1048576) (fun _ => rfl) fun v5 => .run 2 rfl ?_))
      exact TieO.nil (.leaf ⟨rfl, .of rfl rfl⟩)
     refine TieO.nil (.cond rfl ?_ ?_)
     ·exact TieS.seq (.region (.run 1 rfl (.nil (.ret ⟨rfl, rfl⟩))))
     ·exact TieS.skip (.endb (.leaf ⟨rfl, .of rfl rfl⟩))
    rintro (t | t | t) e σ' _ hq
    ·obtain ⟨rfl, hs⟩ := hq
     exact TieX.sub hs (TieS.region (.run 2 rfl (.nil (.leaf ⟨rfl, .of rfl rfl⟩))))
    ·obtain ⟨rfl, hs⟩ := hq
     exact TieX.exitOut rfl ⟨(fun h => by cases h), rfl, hs⟩
    ·obtain ⟨rfl, hs⟩ := hq
     exact TieX.ret ⟨(fun h => by cases h), rfl, hs⟩
   ·exact TieS.exitOut rfl ⟨(fun h => by cases h), rfl, .of rfl rfl⟩
  rintro (s2 | r2) e σ' _ hq
  ·obtain ⟨rfl, hs⟩ := hq
   refine TieX.exit rfl (TieX.sub hs ?_)
   refine TieS.seq (.region (.run 3 rfl (.call _ rfl rfl rfl (q22 t2.AirTemp.Y 141 [] q281 q455) (fun _ => rfl) fun v6 => .run 2 rfl ?_)))
   exact TieO.nil (.ret ⟨.inl rfl, rfl⟩)
  ·obtain ⟨rfl, hs⟩ := hq
   exact TieX.ret ⟨.inl rfl, hs⟩
set_option maxRecDepth 100000 in
theorem q30 (x : Int) (low : Int) (high : Int) : TieF Tryz.prog 116 [.t (tI x), .t (tI low), .t (tI high)] (q35 x low high) (fun r => .t (tB r)) := by
 refine TieF.intro htab 15 [.tmp 6] Tryz.call116 Tryz.func116 rfl rfl rfl (Nat.le_of_ble_eq_true rfl) fun w0 L => ?_
 refine TieS.seq (.region (.run 1 rfl (.nil (.seq ?_))))
 refine TieS.region (.run 4 rfl (.selAnd (v := decide (x ≤ high)) 4 10 (fun b => ⟨[(14, .t (tB b))], []⟩) rfl ?_ ?_ ?_))
 ·exact TieO.run 4 rfl (.nil (.leaf ⟨rfl, .of rfl rfl⟩))
 ·exact TieO.run 4 rfl (.nil (.leaf ⟨rfl, .of rfl rfl⟩))
 exact TieO.run 1 rfl (.nil (.ret ⟨.inl rfl, rfl⟩))
set_option maxRecDepth 100000 in
theorem q378 (x : Int) (c : Int) (c2 : Int) : TieF Tryz.prog 218 [.t (tI x), .el (Pv.encI c), .el (Pv.encI c2)] (q154 x c c2) (fun r => .t (tB r)) := by
 refine TieF.intro htab 10 [.tmp 4] Tryz.call218 Tryz.func218 rfl rfl rfl (Nat.le_of_ble_eq_true rfl) fun w0 L => ?_
 refine TieS.seq (.region (.run 1 rfl (.nil (.seq ?_))))
 refine TieS.region (.run 3 rfl (.call _ rfl rfl rfl (q30 x c c2) (fun _ => rfl) fun v => .run 2 rfl (.nil ?_)))
 exact TieS.ret ⟨.inl rfl, rfl⟩
set_option maxRecDepth 100000 in
theorem q288 (l : List Int) (low : Int) (high : Int) : TieF Tryz.prog 142 [.t (tS Pv.encI l), .t (tI low), .t (tI high)] (q143 l low high) (fun r => .t (tB r)) := by
 refine TieF.intro htab 10 [.tmp 6] Tryz.call142 Tryz.func142 rfl rfl rfl (Nat.le_of_ble_eq_true rfl) fun w0 L => ?_
 refine TieS.seq (.region (.run 3 rfl (.nil (.seq ?_))))
 refine TieS.region (.run 1 rfl (.frzBox 4 rfl rfl (.frzBox 5 rfl rfl (.run 1 rfl ?_))))
 exact TieO.sub (σ' := ⟨[(0, .t (tS Pv.encI l)), (1, .t (tI low)), (2, .t (tI high)), (4, .el (Pv.encI low)), (5, .el (Pv.encI high)), (6, .t (tB false)), (7, .t (tS Pv.encI l)), (8, .fz 218 [Pv.encI low, Pv.encI high])], []⟩) (.of rfl rfl) (.call _ rfl rfl rfl (q22 l 218 [Pv.encI low, Pv.encI high] (fun x0 => q154 x0 low high) (fun x0 => q378 x0 low high)) (fun _ => rfl) fun v => .run 1 rfl (.nil (.ret ⟨.inl rfl, rfl⟩)))
set_option maxRecDepth 100000 in
theorem q142 (x : List Int) (n2 : Nat) (cs : List (List Tree)) (cmp : Int → Int → Option Int) (h2 : ∀ x0 x1, TieF Tryz.prog n2 ([.t (tI x0), .t (tI x1)] ++ cs.map T.el) (cmp x0 x1) (fun r => .t (tI r))) : TieF Tryz.prog 143 [.t (tS Pv.encI x), .fz n2 cs] (q39 x cmp) (fun r => .t (tB r)) := by
 refine TieF.intro htab 25 [.tmp 4] Tryz.call143 Tryz.func143 rfl rfl rfl (Nat.le_of_ble_eq_true rfl) fun w0 L => ?_
 refine TieS.seq (.region (.run 1 rfl (.nil (.seq ?_))))
 refine TieS.seq (.region (.run 4 rfl (.nil (.block ?_))))
 refine TieS.loop (fun t => ⟨[(0, .t (tS Pv.encI x)), (1, .fz n2 cs), (5, .t (tI t))], []⟩) (fun b e σ' => match b with | .inl t => e = .exit 0 ∧ Sub ⟨[], []⟩ σ' | .inr t => e = .ret ∧ retT tab σ' [.tmp 4] = some (((fun r => .t (tB r)) : Bool → T) t)) (.of rfl rfl) ?_ ?_
 ·intro i
  refine TieS.seq (.seq (.region (.run 2 rfl (.nil ?_))))
  refine TieS.cond rfl ?_ ?_
  ·refine TieS.skip (.seq (.block (.seq (TieX.pre fun x2 hx2 => ?_))))
   refine TieX.pre fun x3 hx3 => TieX.pre fun v hv => TieS.draw 12 [_, _, _, _, _, _, _, _, _, _, _, _] [(0, .t (tS Pv.encI x)), (1, .fz n2 cs), (5, .t (tI i))] [] mixed (.of rfl rfl) rfl rfl rfl rfl (.cons (.quiet rfl rfl rfl) (.cons (.quiet rfl rfl rfl) (.cons (.quiet rfl rfl rfl) (.cons (.index hx2 rfl rfl rfl rfl rfl rfl (fun _ => rfl)) (.cons (.quiet rfl rfl rfl) (.cons (.quiet rfl rfl rfl) (.cons (.quiet rfl rfl rfl) (.cons (.quiet rfl rfl rfl) (.cons (.index hx3 rfl rfl rfl rfl rfl rfl (fun _ => rfl)) (.cons (.quiet rfl rfl rfl) (.cons (.callV (h2 x2 x3) hv rfl rfl rfl rfl) (.cons (.quiet rfl rfl rfl) (.nil))))))))))))) (.nil (.cond rfl ?_ ?_))
   ·exact TieS.seq (.region (.run 1 rfl (.nil (.ret ⟨(fun h => by cases h), rfl, rfl⟩))))
   ·refine TieS.skip (.endb (.region (.run 3 rfl (.nil ?_))))
    exact TieS.leaf ⟨rfl, .of rfl rfl⟩
  ·exact TieS.exitOut rfl ⟨(fun h => by cases h), rfl, .of rfl rfl⟩
 rintro (i2 | r2) e σ' _ hq
 ·obtain ⟨rfl, hs⟩ := hq
  refine TieX.exit rfl (TieX.sub hs ?_)
  exact TieS.seq (.region (.run 1 rfl (.nil (.ret ⟨.inl rfl, rfl⟩))))
 ·obtain ⟨rfl, hs⟩ := hq
  exact TieX.ret ⟨.inl rfl, hs⟩
set_option maxRecDepth 100000 in
theorem q410 (a : Int) (b2 : Int) : TieF Tryz.prog 144 [.t (tI a), .t (tI b2)] (q65 a b2) (fun r => .t (tI r)) := by
 refine TieF.intro htab 8 [.tmp 4] Tryz.call144 Tryz.func144 rfl rfl rfl (Nat.le_of_ble_eq_true rfl) fun w0 L => ?_
 refine TieS.seq (.region (.run 1 rfl (.nil (.seq ?_))))
 exact TieS.region (.run 4 rfl (.nil (.ret ⟨.inl rfl, rfl⟩)))
set_option maxRecDepth 100000 in
theorem q406 (row : List Int) : TieF Tryz.prog 145 [.t (tS Pv.encI row)] (q100 row) (fun r => .t (tB r)) := by
 refine TieF.intro htab 10 [.tmp 2] Tryz.call145 Tryz.func145 rfl rfl rfl (Nat.le_of_ble_eq_true rfl) fun w0 L => ?_
 refine TieS.seq (.region (.run 1 rfl (.nil (.seq ?_))))
 refine TieS.region (.run 1 rfl (.call _ rfl rfl rfl (q288 row 0 10000) (fun _ => rfl) fun v => .run 1 rfl (.bind 4 (fun b2 => ⟨[(9, .t (tB b2))], []⟩) (TieO.split 5 rfl ?_ ?_) fun b2 _ => ?_)))
 ·exact TieO.run 4 rfl (.nil (.leaf ⟨rfl, .of rfl rfl⟩))
 ·exact TieO.run 1 rfl (.call _ rfl rfl rfl (q178 row) (fun _ => rfl) fun v2 => .run 2 rfl (.nil (.leaf ⟨rfl, .of rfl rfl⟩)))
 exact TieO.run 1 rfl (.nil (.ret ⟨.inl rfl, rfl⟩))
set_option maxRecDepth 100000 in
theorem q232 (t2 : STables) : TieF Tryz.prog 52 [q29 t2] (q144 t2) (fun r => .t (tB r)) := by
 refine TieF.intro htab 29 [.tmp 2] Tryz.call52 Tryz.func52 rfl rfl rfl (Nat.le_of_ble_eq_true rfl) fun w0 L => ?_
 refine TieS.seq (.region (.run 2 rfl (.nil (.seq ?_))))
 refine TieS.seq (.region (.run 2 rfl (.call _ rfl rfl rfl (q54 t2.Torque) (fun _ => rfl) fun v => .run 2 rfl ?_)))
 refine TieO.bind 5 (fun b2 => ⟨[(1, .ptr 1 0), (12, .t (tB b2))], [(1, .box (q15 t2))]⟩) (TieO.split 7 rfl ?_ ?_) fun b2 _ => ?_
 ·exact TieO.run 5 rfl (.nil (.leaf ⟨rfl, .of rfl rfl⟩))
 ·exact TieO.run 2 rfl (.call _ rfl rfl rfl (q55 t2.Efficiency) (fun _ => rfl) fun v2 => .run 2 rfl (.nil (.leaf ⟨rfl, .of rfl rfl⟩)))
 refine TieO.run 1 rfl (.bind 5 (fun b3 => ⟨[(1, .ptr 1 0), (18, .t (tB b3))], [(1, .box (q15 t2))]⟩) (TieO.split 13 rfl ?_ ?_) fun b3 _ => ?_)
 ·exact TieO.run 5 rfl (.nil (.leaf ⟨rfl, .of rfl rfl⟩))
 ·exact TieO.run 3 rfl (.call _ rfl rfl rfl (q288 t2.Efficiency.Y 0 1000) (fun _ => rfl) fun v3 => .run 1 rfl (.nil (.leaf ⟨rfl, .of rfl rfl⟩)))
 refine TieO.nil (.cond rfl ?_ ?_)
 ·exact TieS.seq (.region (.run 1 rfl (.nil (.ret ⟨.inl rfl, rfl⟩))))
 ·refine TieS.skip (.seq (.seq (.region (.run 3 rfl ?_))))
  refine TieO.call _ rfl rfl rfl (q142 t2.Efficiency.Y 144 [] q65 q410) (fun _ => rfl) fun v4 => .run 1 rfl (.nil (.cond rfl ?_ ?_))
  ·exact TieS.seq (.region (.run 1 rfl (.nil (.ret ⟨.inl rfl, rfl⟩))))
  ·refine TieS.skip (.seq (.region (.run 3 rfl (.call _ rfl rfl rfl (q77 t2.Torque.Z 145 [] q100 q406) (fun _ => rfl) fun v5 => ?_))))
   exact TieO.run 2 rfl (.nil (.ret ⟨.inl rfl, rfl⟩))
set_option maxRecDepth 100000 in
theorem q426 (x : Int) (c : Int) (c2 : Int) : TieF Tryz.prog 151 [.t (tI x), .el (Pv.encI c), .el (Pv.encI c2)] (q221 x c c2) (fun r => .t (tB r)) := by
 refine TieF.intro htab 10 [.tmp 4] Tryz.call151 Tryz.func151 rfl rfl rfl (Nat.le_of_ble_eq_true rfl) fun w0 L => ?_
 refine TieS.seq (.region (.run 1 rfl (.nil (.seq ?_))))
 refine TieS.region (.run 3 rfl (.call _ rfl rfl rfl (q34 x c c2) (fun _ => rfl) fun v => .run 2 rfl (.nil ?_)))
 exact TieS.ret ⟨.inl rfl, rfl⟩
set_option maxRecDepth 100000 in
theorem q171 (l : List Int) (low : Int) (high : Int) : TieF Tryz.prog 55 [.t (tS Pv.encI l), .t (tI low), .t (tI high)] (q130 l low high) (fun r => .t (tB r)) := by
 refine TieF.intro htab 11 [.tmp 6] Tryz.call55 Tryz.func55 rfl rfl rfl (Nat.le_of_ble_eq_true rfl) fun w0 L => ?_
 refine TieS.seq (.region (.run 3 rfl (.nil (.seq ?_))))
 refine TieS.region (.run 1 rfl (.frzBox 4 rfl rfl (.frzBox 5 rfl rfl (.run 1 rfl ?_))))
 exact TieO.sub (σ' := ⟨[(0, .t (tS Pv.encI l)), (1, .t (tI low)), (2, .t (tI high)), (4, .el (Pv.encI low)), (5, .el (Pv.encI high)), (6, .t (tB false)), (7, .t (tS Pv.encI l)), (8, .fz 151 [Pv.encI low, Pv.encI high])], []⟩) (.of rfl rfl) (.call _ rfl rfl rfl (q22 l 151 [Pv.encI low, Pv.encI high] (fun x0 => q221 x0 low high) (fun x0 => q426 x0 low high)) (fun _ => rfl) fun v => .run 2 rfl (.nil (.ret ⟨.inl rfl, rfl⟩)))
set_option maxRecDepth 100000 in
theorem q155 (g : SGain) : TieF Tryz.prog 56 [A_SGain g] (q62 g) (fun r => .t (tB r)) := by
 refine TieF.intro htab 38 [.tmp 2] Tryz.call56 Tryz.func56 rfl rfl rfl (Nat.le_of_ble_eq_true rfl) fun w0 L => ?_
 refine TieS.seq (.region (.run 2 rfl (.nil (.seq ?_))))
 refine TieS.region (.run 4 rfl (.selAnd (v := decide (g.P ≤ 65536)) 4 6 (fun b => ⟨[(1, .ptr 1 0), (10, .t (tB b))], [(1, .box [.t (tI g.P), .t (tI g.I), .t (tI g.Low), .t (tI g.High)])]⟩) rfl ?_ ?_ ?_))
 ·exact TieO.run 4 rfl (.nil (.leaf ⟨rfl, .of rfl rfl⟩))
 ·exact TieO.run 4 rfl (.nil (.leaf ⟨rfl, .of rfl rfl⟩))
 refine TieO.run 1 rfl (.selAnd (v := decide (g.I ≥ 0)) 4 11 (fun b => ⟨[(1, .ptr 1 0), (15, .t (tB b))], [(1, .box [.t (tI g.P), .t (tI g.I), .t (tI g.Low), .t (tI g.High)])]⟩) rfl ?_ ?_ ?_)
 ·exact TieO.run 4 rfl (.nil (.leaf ⟨rfl, .of rfl rfl⟩))
 ·exact TieO.run 4 rfl (.nil (.leaf ⟨rfl, .of rfl rfl⟩))
 refine TieO.run 1 rfl (.selAnd (v := decide (g.I ≤ 65536)) 4 16 (fun b => ⟨[(1, .ptr 1 0), (20, .t (tB b))], [(1, .box [.t (tI g.P), .t (tI g.I), .t (tI g.Low), .t (tI g.High)])]⟩) rfl ?_ ?_ ?_)
 ·exact TieO.run 4 rfl (.nil (.leaf ⟨rfl, .of rfl rfl⟩))
 ·exact TieO.run 4 rfl (.nil (.leaf ⟨rfl, .of rfl rfl⟩))
 refine TieO.run 1 rfl (.selAnd (v := decide (g.Low ≥ (-1073741824))) 4 21 (fun b => ⟨[(1, .ptr 1 0), (25, .t (tB b))], [(1, .box [.t (tI g.P), .t (tI g.I), .t (tI g.Low), .t (tI g.High)])]⟩) rfl ?_ ?_ ?_)
 ·exact TieO.run 4 rfl (.nil (.leaf ⟨rfl, .of rfl rfl⟩))
 ·exact TieO.run 4 rfl (.nil (.leaf ⟨rfl, .of rfl rfl⟩))
 refine TieO.run 1 rfl (.selAnd (v := decide (g.Low ≤ g.High)) 6 26 (fun b => ⟨[(1, .ptr 1 0), (32, .t (tB b))], [(1, .box [.t (tI g.P), .t (tI g.I), .t (tI g.Low), .t (tI g.High)])]⟩) rfl ?_ ?_ ?_)
 ·exact TieO.run 6 rfl (.nil (.leaf ⟨rfl, .of rfl rfl⟩))
 ·exact TieO.run 6 rfl (.nil (.leaf ⟨rfl, .of rfl rfl⟩))
 refine TieO.run 1 rfl (.selAnd (v := decide (g.High ≤ 1073741824)) 4 33 (fun b => ⟨[(37, .t (tB b))], []⟩) rfl ?_ ?_ ?_)
 ·exact TieO.run 4 rfl (.nil (.leaf ⟨rfl, .of rfl rfl⟩))
 ·exact TieO.run 4 rfl (.nil (.leaf ⟨rfl, .of rfl rfl⟩))
 exact TieO.run 1 rfl (.nil (.ret ⟨.inl rfl, rfl⟩))
set_option maxRecDepth 100000 in
theorem q420 (t2 : STables) : TieF Tryz.prog 15 [q29 t2] (q225 t2) (fun r => .t (tB r)) := by
 refine TieF.intro htab 64 [.tmp 2] Tryz.call15 Tryz.func15 rfl rfl rfl (Nat.le_of_ble_eq_true rfl) fun w0 L => ?_
 refine TieS.seq (.region (.run 2 rfl (.nil (.seq ?_))))
 refine TieS.seq (.region (.run 1 rfl (.call _ rfl rfl rfl (q297 t2) (fun _ => rfl) fun v => .run 2 rfl ?_)))
 refine TieO.bind 4 (fun b2 => ⟨[(1, .ptr 1 0), (12, .t (tB b2))], [(1, .box (q15 t2))]⟩) (TieO.split 8 rfl ?_ ?_) fun b2 _ => ?_
 ·exact TieO.run 4 rfl (.nil (.leaf ⟨rfl, .of rfl rfl⟩))
 ·exact TieO.run 1 rfl (.call _ rfl rfl rfl (q232 t2) (fun _ => rfl) fun v2 => .run 2 rfl (.nil (.leaf ⟨rfl, .of rfl rfl⟩)))
 refine TieO.run 1 rfl (.bind 5 (fun b3 => ⟨[(1, .ptr 1 0), (18, .t (tB b3))], [(1, .box (q15 t2))]⟩) (TieO.split 13 rfl ?_ ?_) fun b3 _ => ?_)
 ·exact TieO.run 5 rfl (.nil (.leaf ⟨rfl, .of rfl rfl⟩))
 ·exact TieO.run 2 rfl (.call _ rfl rfl rfl (q54 t2.Spark) (fun _ => rfl) fun v3 => .run 2 rfl (.nil (.leaf ⟨rfl, .of rfl rfl⟩)))
 refine TieO.run 1 rfl (.bind 5 (fun b4 => ⟨[(1, .ptr 1 0), (24, .t (tB b4))], [(1, .box (q15 t2))]⟩) (TieO.split 19 rfl ?_ ?_) fun b4 _ => ?_)
 ·exact TieO.run 5 rfl (.nil (.leaf ⟨rfl, .of rfl rfl⟩))
 ·exact TieO.run 2 rfl (.call _ rfl rfl rfl (q54 t2.Wish) (fun _ => rfl) fun v4 => .run 2 rfl (.nil (.leaf ⟨rfl, .of rfl rfl⟩)))
 refine TieO.run 1 rfl (.bind 5 (fun b5 => ⟨[(1, .ptr 1 0), (30, .t (tB b5))], [(1, .box (q15 t2))]⟩) (TieO.split 25 rfl ?_ ?_) fun b5 _ => ?_)
 ·exact TieO.run 5 rfl (.nil (.leaf ⟨rfl, .of rfl rfl⟩))
 ·exact TieO.run 2 rfl (.call _ rfl rfl rfl (q55 t2.Dwell) (fun _ => rfl) fun v5 => .run 2 rfl (.nil (.leaf ⟨rfl, .of rfl rfl⟩)))
 refine TieO.run 1 rfl (.bind 5 (fun b6 => ⟨[(1, .ptr 1 0), (36, .t (tB b6))], [(1, .box (q15 t2))]⟩) (TieO.split 31 rfl ?_ ?_) fun b6 _ => ?_)
 ·exact TieO.run 5 rfl (.nil (.leaf ⟨rfl, .of rfl rfl⟩))
 ·exact TieO.run 2 rfl (.call _ rfl rfl rfl (q55 t2.Dead) (fun _ => rfl) fun v6 => .run 2 rfl (.nil (.leaf ⟨rfl, .of rfl rfl⟩)))
 refine TieO.nil (.cond rfl ?_ ?_)
 ·exact TieS.seq (.region (.run 1 rfl (.nil (.ret ⟨.inl rfl, rfl⟩))))
 ·refine TieS.skip (.seq (.seq (.region (.run 5 rfl ?_))))
  refine TieO.nil (.block (.loop (fun p => ⟨[(1, .ptr 1 0), (39, .t (tS (Pv.encS Pv.encI) t2.Spark.Z)), (40, .t (tI (t2.Spark.Z.length : Int))), (41, .t (tI p.1))], [(1, .box (q15 t2))]⟩) (fun b e σ' => match b with | .inl t => e = .exit 0 ∧ Sub ⟨[(1, .ptr 1 0)], [(1, .box (q15 t2))]⟩ σ' | .inr t => e = .ret ∧ retT tab σ' [.tmp 2] = some (((fun r => .t (tB r)) : Bool → T) t)) (.of rfl rfl) ?_ ?_))
  ·rintro ⟨i, s⟩
   refine TieS.seq (.region (.run 1 rfl (.nil (.seq ?_))))
   refine TieS.cond rfl ?_ ?_
   ·refine TieS.skip (.seq (TieX.pre fun x hx => TieX.sub (σ' := ⟨[(1, .ptr 1 0), (39, .t (tS (Pv.encS Pv.encI) t2.Spark.Z)), (40, .t (tI (t2.Spark.Z.length : Int))), (41, .t (tI i))], [(1, .box (q15 t2))]⟩) (.of rfl rfl) (TieS.bind (Q₁ := fun f e σ' => match f with | .next t => e = .normal ∧ Sub ⟨[(1, .ptr 1 0), (39, .t (tS (Pv.encS Pv.encI) t2.Spark.Z)), (40, .t (tI (t2.Spark.Z.length : Int))), (41, .t (tI i))], [(1, .box (q15 t2))]⟩ σ' | .brk t => e = .exit 0 ∧ Sub ⟨[(1, .ptr 1 0)], [(1, .box (q15 t2))]⟩ σ' | .ret t => e = .ret ∧ retT tab σ' [.tmp 2] = some (((fun r => .t (tB r)) : Bool → T) t)) ?_ ?_)))
    ·refine TieS.block (.seq (.region (.indexH hx rfl rfl rfl rfl rfl rfl rfl rfl (fun _ => rfl) (.run 2 rfl ?_))))
     refine TieO.nil (.seq (.region (.run 1 rfl (.call _ rfl rfl rfl (q171 x (-1280) 3840) (fun _ => rfl) fun v7 => ?_))))
     refine TieO.run 1 rfl (.nil (.cond rfl ?_ ?_))
     ·exact TieS.seq (.region (.run 1 rfl (.nil (.ret ⟨rfl, rfl⟩))))
     ·exact TieS.skip (.endb (.leaf ⟨rfl, .of rfl rfl⟩))
    rintro (t | t | t) e σ' _ hq
    ·obtain ⟨rfl, hs⟩ := hq
     exact TieX.sub hs (TieS.region (.run 2 rfl (.nil (.leaf ⟨rfl, .of rfl rfl⟩))))
    ·obtain ⟨rfl, hs⟩ := hq
     exact TieX.exitOut rfl ⟨(fun h => by cases h), rfl, hs⟩
    ·obtain ⟨rfl, hs⟩ := hq
     exact TieX.ret ⟨(fun h => by cases h), rfl, hs⟩
   ·exact TieS.exitOut rfl ⟨(fun h => by cases h), rfl, .of rfl rfl⟩
  rintro (s2 | r2) e σ' _ hq
  ·obtain ⟨rfl, hs⟩ := hq
   refine TieX.exit rfl (TieX.sub hs ?_)
   refine TieS.seq (.region (.run 3 rfl (.call _ rfl rfl rfl (q171 t2.Dwell.Y 500 10000) (fun _ => rfl) fun v8 => .run 1 rfl ?_)))
   refine TieO.bind 5 (fun b7 => ⟨[(1, .ptr 1 0), (58, .t (tB b7))], [(1, .box (q15 t2))]⟩) (TieO.split 53 rfl ?_ ?_) fun b7 _ => ?_
   ·exact TieO.run 3 rfl (.call _ rfl rfl rfl (q171 t2.Dead.Y 0 10000) (fun _ => rfl) fun v9 => .run 1 rfl (.nil (.leaf ⟨rfl, .of rfl rfl⟩)))
   ·exact TieO.run 5 rfl (.nil (.leaf ⟨rfl, .of rfl rfl⟩))
   refine TieO.run 1 rfl (.bind 4 (fun b8 => ⟨[(63, .t (tB b8))], []⟩) (TieO.split 59 rfl ?_ ?_) fun b8 _ => ?_)
   ·exact TieO.run 2 rfl (.call _ rfl rfl rfl (q155 t2.Idle) (fun _ => rfl) fun v10 => .run 1 rfl (.nil (.leaf ⟨rfl, .of rfl rfl⟩)))
   ·exact TieO.run 4 rfl (.nil (.leaf ⟨rfl, .of rfl rfl⟩))
   exact TieO.run 1 rfl (.nil (.ret ⟨.inl rfl, rfl⟩))
  ·obtain ⟨rfl, hs⟩ := hq
   exact TieX.ret ⟨.inl rfl, hs⟩
set_option maxRecDepth 100000 in
theorem q258 (s : List SRequest) (n2 : Nat) (cs : List (List Tree)) (f2 : SRequest → Option Bool) (h2 : ∀ x0, TieF Tryz.prog n2 ([q26 x0] ++ cs.map T.el) (f2 x0) (fun r => .t (tB r))) : TieF Tryz.prog 161 [.t (tS q11 s), .fz n2 cs] (q169 s f2) (fun r => .t (tI r)) := by
 refine TieF.intro htab 19 [.tmp 4] Tryz.call161 Tryz.func161 rfl rfl rfl (Nat.le_of_ble_eq_true rfl) fun w0 L => ?_
 refine TieS.seq (.region (.run 1 rfl (.nil (.seq ?_))))
 refine TieS.seq (.region (.run 3 rfl (.nil (.block ?_))))
 refine TieS.loop (fun p => ⟨[(0, .t (tS q11 s)), (1, .fz n2 cs), (7, .t (tI (s.length : Int))), (8, .t (tI p.1))], []⟩) (fun b e σ' => match b with | .inl t => e = .exit 0 ∧ Sub ⟨[], []⟩ σ' | .inr t => e = .ret ∧ retT tab σ' [.tmp 4] = some (((fun r => .t (tI r)) : Int → T) t)) (.of rfl rfl) ?_ ?_
 ·rintro ⟨i, s2⟩
  refine TieS.seq (.region (.run 1 rfl (.nil (.seq ?_))))
  refine TieS.cond rfl ?_ ?_
  ·refine TieS.skip (.seq (TieX.sub (σ' := ⟨[(0, .t (tS q11 s)), (1, .fz n2 cs), (7, .t (tI (s.length : Int))), (8, .t (tI i))], []⟩) (.of rfl rfl) (TieS.bind (Q₁ := fun f e σ' => match f with | .next t => e = .normal ∧ Sub ⟨[(0, .t (tS q11 s)), (1, .fz n2 cs), (7, .t (tI (s.length : Int))), (8, .t (tI i))], []⟩ σ' | .brk t => e = .exit 0 ∧ Sub ⟨[], []⟩ σ' | .ret t => e = .ret ∧ retT tab σ' [.tmp 4] = some (((fun r => .t (tI r)) : Int → T) t)) ?_ ?_)))
   ·refine TieS.block (.seq (.region (.run 2 rfl (.nil ?_))))
    refine TieS.seq (.region (.run 3 rfl (.index rfl rfl rfl rfl rfl rfl rfl rfl (fun _ => rfl) fun x hx => .run 1 rfl ?_)))
    refine TieO.call _ rfl rfl rfl (h2 x) (fun _ => rfl) fun v => .nil (.cond rfl ?_ ?_)
    ·exact TieS.seq (.region (.run 2 rfl (.nil (.ret ⟨rfl, rfl⟩))))
    ·exact TieS.skip (.endb (.leaf ⟨rfl, .of rfl rfl⟩))
   rintro (t | t | t) e σ' _ hq
   ·obtain ⟨rfl, hs⟩ := hq
    exact TieX.sub hs (TieS.region (.run 2 rfl (.nil (.leaf ⟨rfl, .of rfl rfl⟩))))
   ·obtain ⟨rfl, hs⟩ := hq
    exact TieX.exitOut rfl ⟨(fun h => by cases h), rfl, hs⟩
   ·obtain ⟨rfl, hs⟩ := hq
    exact TieX.ret ⟨(fun h => by cases h), rfl, hs⟩
  ·exact TieS.exitOut rfl ⟨(fun h => by cases h), rfl, .of rfl rfl⟩
 rintro (s3 | r2) e σ' _ hq
 ·obtain ⟨rfl, hs⟩ := hq
  refine TieX.exit rfl (TieX.sub hs ?_)
  exact TieS.seq (.region (.run 1 rfl (.nil (.ret ⟨.inl rfl, rfl⟩))))
 ·obtain ⟨rfl, hs⟩ := hq
  exact TieX.ret ⟨.inl rfl, hs⟩
set_option maxRecDepth 100000 in
theorem q108 (s : List SRequest) (n2 : Nat) (cs : List (List Tree)) (f2 : SRequest → Option Bool) (h2 : ∀ x0, TieF Tryz.prog n2 ([q26 x0] ++ cs.map T.el) (f2 x0) (fun r => .t (tB r))) : TieF Tryz.prog 76 [.t (tS q11 s), .fz n2 cs] (q40 s f2) (fun r => .t (tB r)) := by
 refine TieF.intro htab 9 [.tmp 4] Tryz.call76 Tryz.func76 rfl rfl rfl (Nat.le_of_ble_eq_true rfl) fun w0 L => ?_
 refine TieS.seq (.region (.run 1 rfl (.nil (.seq ?_))))
 refine TieS.region (.run 2 rfl (.call _ rfl rfl rfl (q258 s n2 cs f2 h2) (fun _ => rfl) fun v => .run 2 rfl (.nil ?_)))
 exact TieS.ret ⟨.inl rfl, rfl⟩
set_option maxRecDepth 100000 in
theorem q120 (t2 : Int) : TieF Tryz.prog 128 [.t (tI t2)] (q66 t2) (fun r => .t (tB r)) := by
 refine TieF.intro htab 9 [.tmp 2] Tryz.call128 Tryz.func128 rfl rfl rfl (Nat.le_of_ble_eq_true rfl) fun w0 L => ?_
 refine TieS.seq (.region (.run 1 rfl (.nil (.seq ?_))))
 refine TieS.region (.run 3 rfl (.selAnd (v := decide (t2 ≤ 10000)) 3 5 (fun b => ⟨[(8, .t (tB b))], []⟩) rfl ?_ ?_ ?_))
 ·exact TieO.run 3 rfl (.nil (.leaf ⟨rfl, .of rfl rfl⟩))
 ·exact TieO.run 3 rfl (.nil (.leaf ⟨rfl, .of rfl rfl⟩))
 exact TieO.run 1 rfl (.nil (.ret ⟨.inl rfl, rfl⟩))
set_option maxRecDepth 100000 in
theorem q301 (r2 : SRequest) : TieF Tryz.prog 78 [q26 r2] (q93 r2) (fun r => .t (tB r)) := by
 refine TieF.intro htab 45 [.tmp 2] Tryz.call78 Tryz.func78 rfl rfl rfl (Nat.le_of_ble_eq_true rfl) fun w0 L => ?_
 refine TieS.seq (.region (.run 2 rfl (.nil (.seq ?_))))
 refine TieS.seq (.region (.run 4 rfl (.selOr (v := decide (r2.Source > 15)) 4 6 (fun b => ⟨[(1, .ptr 1 0), (10, .t (tB b))], [(1, .box [.t (tI r2.Source), .t (tI r2.Kind), .t (tI r2.Torque), .t (tI r2.Priority)])]⟩) rfl ?_ ?_ ?_)))
 ·exact TieO.run 4 rfl (.nil (.leaf ⟨rfl, .of rfl rfl⟩))
 ·exact TieO.run 4 rfl (.nil (.leaf ⟨rfl, .of rfl rfl⟩))
 refine TieO.run 1 rfl (.selOr (v := decide (r2.Priority < 0)) 4 11 (fun b => ⟨[(1, .ptr 1 0), (15, .t (tB b))], [(1, .box [.t (tI r2.Source), .t (tI r2.Kind), .t (tI r2.Torque), .t (tI r2.Priority)])]⟩) rfl ?_ ?_ ?_)
 ·exact TieO.run 4 rfl (.nil (.leaf ⟨rfl, .of rfl rfl⟩))
 ·exact TieO.run 4 rfl (.nil (.leaf ⟨rfl, .of rfl rfl⟩))
 refine TieO.run 1 rfl (.selOr (v := decide (r2.Priority > 15)) 4 16 (fun b => ⟨[(1, .ptr 1 0), (20, .t (tB b))], [(1, .box [.t (tI r2.Source), .t (tI r2.Kind), .t (tI r2.Torque), .t (tI r2.Priority)])]⟩) rfl ?_ ?_ ?_)
 ·exact TieO.run 4 rfl (.nil (.leaf ⟨rfl, .of rfl rfl⟩))
 ·exact TieO.run 4 rfl (.nil (.leaf ⟨rfl, .of rfl rfl⟩))
 refine TieO.run 1 rfl (.bind 5 (fun b2 => ⟨[(1, .ptr 1 0), (26, .t (tB b2))], [(1, .box [.t (tI r2.Source), .t (tI r2.Kind), .t (tI r2.Torque), .t (tI r2.Priority)])]⟩) (TieO.split 21 rfl ?_ ?_) fun b2 _ => ?_)
 ·exact TieO.run 5 rfl (.nil (.leaf ⟨rfl, .of rfl rfl⟩))
 ·exact TieO.run 2 rfl (.call _ rfl rfl rfl (q120 r2.Torque) (fun _ => rfl) fun v => .run 2 rfl (.nil (.leaf ⟨rfl, .of rfl rfl⟩)))
 refine TieO.nil (.cond rfl ?_ ?_)
 ·exact TieS.seq (.region (.run 1 rfl (.nil (.ret ⟨.inl rfl, rfl⟩))))
 ·refine TieS.skip (.seq (.region (.run 4 rfl (.bind 14 (fun b4 => ⟨[(44, .t (tB b4))], []⟩) (TieO.split 30 rfl ?_ ?_) fun b4 _ => ?_))))
  ·exact TieO.run 14 rfl (.nil (.leaf ⟨rfl, .of rfl rfl⟩))
  ·refine TieO.run 4 rfl (.bind 9 (fun b3 => ⟨[(30, .t (tB false)), (43, .t (tB b3))], []⟩) (TieO.split 34 rfl ?_ ?_) fun b3 _ => ?_)
   ·refine TieO.run 4 rfl (.selOr (v := (r2.Kind == 3)) 4 38 (fun b => ⟨[(30, .t (tB false)), (34, .t (tB true)), (42, .t (tB b))], []⟩) rfl ?_ ?_ ?_)
    ·exact TieO.run 4 rfl (.nil (.leaf ⟨rfl, .of rfl rfl⟩))
    ·exact TieO.run 4 rfl (.nil (.leaf ⟨rfl, .of rfl rfl⟩))
    exact TieO.run 1 rfl (.nil (.leaf ⟨rfl, .of rfl rfl⟩))
   ·exact TieO.run 9 rfl (.nil (.leaf ⟨rfl, .of rfl rfl⟩))
   exact TieO.run 1 rfl (.nil (.leaf ⟨rfl, .of rfl rfl⟩))
  exact TieO.run 1 rfl (.nil (.ret ⟨.inl rfl, rfl⟩))
set_option maxRecDepth 100000 in
theorem q393 (r2 : SRequest) : TieF Tryz.prog 77 [q26 r2] (q88 r2) (fun r => .t (tB r)) := by
 refine TieF.intro htab 6 [.tmp 2] Tryz.call77 Tryz.func77 rfl rfl rfl (Nat.le_of_ble_eq_true rfl) fun w0 L => ?_
 refine TieS.seq (.region (.run 2 rfl (.nil (.seq ?_))))
 refine TieS.region (.run 1 rfl (.call _ rfl rfl rfl (q301 r2) (fun _ => rfl) fun v => .run 2 rfl (.nil ?_)))
 exact TieS.ret ⟨.inl rfl, rfl⟩
set_option maxRecDepth 100000 in
theorem q424 (i : SInputs) (cylinders : Int) : TieF Tryz.prog 20 [q283 i, .t (tI cylinders)] (q222 i cylinders) (fun r => .t (tB r)) := by
 refine TieF.intro htab 62 [.tmp 4] Tryz.call20 Tryz.func20 rfl rfl rfl (Nat.le_of_ble_eq_true rfl) fun w0 L => ?_
 refine TieS.seq (.region (.run 2 rfl (.nil (.seq ?_))))
 refine TieS.seq (.region (.run 1 rfl (.call _ rfl rfl rfl (q34 cylinders 1 8) (fun _ => rfl) fun v => .run 2 rfl ?_)))
 refine TieO.selOr (v := ((i.Intensity.length : Int) != cylinders)) 6 9 (fun b => ⟨[(2, .ptr 2 0), (15, .t (tB b))], [(2, .box (q16 i))]⟩) rfl ?_ ?_ ?_
 ·exact TieO.run 6 rfl (.nil (.leaf ⟨rfl, .of rfl rfl⟩))
 ·exact TieO.run 6 rfl (.nil (.leaf ⟨rfl, .of rfl rfl⟩))
 refine TieO.run 1 rfl (.selOr (v := decide ((i.Requests.length : Int) > 30)) 5 16 (fun b => ⟨[(2, .ptr 2 0), (21, .t (tB b))], [(2, .box (q16 i))]⟩) rfl ?_ ?_ ?_)
 ·exact TieO.run 5 rfl (.nil (.leaf ⟨rfl, .of rfl rfl⟩))
 ·exact TieO.run 5 rfl (.nil (.leaf ⟨rfl, .of rfl rfl⟩))
 refine TieO.nil (.cond rfl ?_ ?_)
 ·exact TieS.seq (.region (.run 1 rfl (.nil (.ret ⟨.inl rfl, rfl⟩))))
 ·refine TieS.skip (.seq (.region (.run 2 rfl (.call _ rfl rfl rfl (q34 i.Speed 0 12000) (fun _ => rfl) fun v2 => ?_))))
  refine TieO.run 1 rfl (.bind 4 (fun b2 => ⟨[(2, .ptr 2 0), (29, .t (tB b2))], [(2, .box (q16 i))]⟩) (TieO.split 25 rfl ?_ ?_) fun b2 _ => ?_)
  ·exact TieO.run 2 rfl (.call _ rfl rfl rfl (q34 i.Pressure 50 3000) (fun _ => rfl) fun v3 => .run 1 rfl (.nil (.leaf ⟨rfl, .of rfl rfl⟩)))
  ·exact TieO.run 4 rfl (.nil (.leaf ⟨rfl, .of rfl rfl⟩))
  refine TieO.run 1 rfl (.bind 4 (fun b3 => ⟨[(2, .ptr 2 0), (34, .t (tB b3))], [(2, .box (q16 i))]⟩) (TieO.split 30 rfl ?_ ?_) fun b3 _ => ?_)
  ·exact TieO.run 2 rfl (.call _ rfl rfl rfl (q34 i.AirTemp (-40) 150) (fun _ => rfl) fun v4 => .run 1 rfl (.nil (.leaf ⟨rfl, .of rfl rfl⟩)))
  ·exact TieO.run 4 rfl (.nil (.leaf ⟨rfl, .of rfl rfl⟩))
  refine TieO.run 1 rfl (.bind 4 (fun b4 => ⟨[(2, .ptr 2 0), (39, .t (tB b4))], [(2, .box (q16 i))]⟩) (TieO.split 35 rfl ?_ ?_) fun b4 _ => ?_)
  ·exact TieO.run 2 rfl (.call _ rfl rfl rfl (q34 i.Coolant (-40) 150) (fun _ => rfl) fun v5 => .run 1 rfl (.nil (.leaf ⟨rfl, .of rfl rfl⟩)))
  ·exact TieO.run 4 rfl (.nil (.leaf ⟨rfl, .of rfl rfl⟩))
  refine TieO.run 1 rfl (.bind 4 (fun b5 => ⟨[(2, .ptr 2 0), (44, .t (tB b5))], [(2, .box (q16 i))]⟩) (TieO.split 40 rfl ?_ ?_) fun b5 _ => ?_)
  ·exact TieO.run 2 rfl (.call _ rfl rfl rfl (q34 i.Voltage 0 20000) (fun _ => rfl) fun v6 => .run 1 rfl (.nil (.leaf ⟨rfl, .of rfl rfl⟩)))
  ·exact TieO.run 4 rfl (.nil (.leaf ⟨rfl, .of rfl rfl⟩))
  refine TieO.run 1 rfl (.bind 4 (fun b6 => ⟨[(2, .ptr 2 0), (49, .t (tB b6))], [(2, .box (q16 i))]⟩) (TieO.split 45 rfl ?_ ?_) fun b6 _ => ?_)
  ·exact TieO.run 2 rfl (.call _ rfl rfl rfl (q34 i.Lambda 0 20000) (fun _ => rfl) fun v7 => .run 1 rfl (.nil (.leaf ⟨rfl, .of rfl rfl⟩)))
  ·exact TieO.run 4 rfl (.nil (.leaf ⟨rfl, .of rfl rfl⟩))
  refine TieO.run 1 rfl (.nil (.seq (.region (.run 2 rfl ?_))))
  refine TieO.bind 4 (fun b7 => ⟨[(2, .ptr 2 0), (55, .t (tB b7))], [(2, .box (q16 i))]⟩) (TieO.split 51 rfl ?_ ?_) fun b7 _ => ?_
  ·exact TieO.run 2 rfl (.call _ rfl rfl rfl (q171 i.Intensity 0 4095) (fun _ => rfl) fun v8 => .run 1 rfl (.nil (.leaf ⟨rfl, .of rfl rfl⟩)))
  ·exact TieO.run 4 rfl (.nil (.leaf ⟨rfl, .of rfl rfl⟩))
  refine TieO.run 1 rfl (.bind 5 (fun b8 => ⟨[(61, .t (tB b8))], []⟩) (TieO.split 56 rfl ?_ ?_) fun b8 _ => ?_)
  ·exact TieO.run 2 rfl (.call _ rfl rfl rfl (q108 i.Requests 77 [] q88 q393) (fun _ => rfl) fun v9 => .run 2 rfl (.nil (.leaf ⟨rfl, .of rfl rfl⟩)))
  ·exact TieO.run 5 rfl (.nil (.leaf ⟨rfl, .of rfl rfl⟩))
  exact TieO.run 1 rfl (.nil (.ret ⟨.inl rfl, rfl⟩))
end Go.Proofs.YtalanclpiojanaaGreat
