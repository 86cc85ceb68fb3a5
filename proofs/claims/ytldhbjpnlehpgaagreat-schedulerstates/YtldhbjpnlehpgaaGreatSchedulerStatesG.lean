/- This file joins: Ties, printed by gen.py: each function of the loaded program computes its model. -/
import Derived.Test.YtldhbjpnlehpgaaGreatSchedulerStatesF
import Derived.Test.YtldhbjpnlehpgaaGreatProg
import Derived.KernelRfl
set_option linter.unusedSimpArgs false
set_option linter.unusedVariables false
namespace Go.Proofs.YtldhbjpnlehpgaaGreat
open Go Go.Pv Go.Proofs
abbrev u2_0 (s : SChannel) (x : Bool) : SChannel := ⟨x, s.At, s.Next, s.Level⟩
abbrev u2_1 (s : SChannel) (x : Int) : SChannel := ⟨s.Armed, x, s.Next, s.Level⟩
abbrev u2_2 (s : SChannel) (x : Bool) : SChannel := ⟨s.Armed, s.At, x, s.Level⟩
abbrev u6_1 (s : SJob) (x : Int) : SJob := ⟨s.Event, x, s.Armed, s.At⟩
abbrev u6_2 (s : SJob) (x : Bool) : SJob := ⟨s.Event, s.Left, x, s.At⟩
abbrev u6_3 (s : SJob) (x : Int) : SJob := ⟨s.Event, s.Left, s.Armed, x⟩
abbrev u7_0 (s : SScheduler) (x : SEngine) : SScheduler := ⟨x, s.Clock, s.Timer, s.Next, s.Jobs, s.Cut⟩
abbrev u7_1 (s : SScheduler) (x : SClock) : SScheduler := ⟨s.Engine, x, s.Timer, s.Next, s.Jobs, s.Cut⟩
abbrev u7_2 (s : SScheduler) (x : STimer) : SScheduler := ⟨s.Engine, s.Clock, x, s.Next, s.Jobs, s.Cut⟩
abbrev u7_3 (s : SScheduler) (x : List SFire) : SScheduler := ⟨s.Engine, s.Clock, s.Timer, x, s.Jobs, s.Cut⟩
abbrev u7_4 (s : SScheduler) (x : List SJob) : SScheduler := ⟨s.Engine, s.Clock, s.Timer, s.Next, x, s.Cut⟩
abbrev u7_5 (s : SScheduler) (x : Bool) : SScheduler := ⟨s.Engine, s.Clock, s.Timer, s.Next, s.Jobs, x⟩
theorem mixed : Tryz.prog.follows .mixedOrders = true := by kernel_rfl
def tab : Tab := [(3, ⟨1, .int .i64, [.int .i64 0]⟩),
 (4, ⟨1, .bool, [.bool false]⟩),
 (5, ⟨1, .int .u8, [.int .u8 0]⟩),
 (22, ⟨1, .slice 3, [.slice none 0 0]⟩),
 (24, ⟨2, .struct [(0, 1), (1, 1)], [.slice none 0 0, .int .i64 0]⟩),
 (26, ⟨6, .struct [(0, 1), (1, 1), (2, 1), (3, 1), (4, 1), (5, 1)], [.bool false, .int .i64 0, .int .i64 0, .int .i64 0, .int .i64 0, .int .i64 0]⟩),
 (27, ⟨1, .slice 74, [.slice none 0 0]⟩),
 (29, ⟨2, .struct [(0, 1), (1, 1)], [.int .i64 0, .slice none 0 0]⟩),
 (30, ⟨1, .slice 55, [.slice none 0 0]⟩),
 (31, ⟨1, .slice 85, [.slice none 0 0]⟩),
 (33, ⟨13, .struct [(0, 2), (2, 6), (8, 2), (10, 1), (11, 1), (12, 1)], [.slice none 0 0, .int .i64 0, .bool false, .int .i64 0, .int .i64 0, .int .i64 0, .int .i64 0, .int .i64 0, .int .i64 0, .slice none 0 0, .slice none 0 0, .slice none 0 0, .bool false]⟩),
 (36, ⟨1, .slice 52, [.slice none 0 0]⟩),
 (37, ⟨1, .int .i64, [.int .i64 0]⟩),
 (46, ⟨2, .struct [(0, 1), (1, 1)], [.int .i64 0, .int .i64 0]⟩),
 (50, ⟨1, .slice 4, [.slice none 0 0]⟩),
 (52, ⟨3, .struct [(0, 1), (1, 1), (2, 1)], [.int .i64 0, .int .i64 0, .bool false]⟩),
 (55, ⟨7, .struct [(0, 1), (1, 1), (2, 1), (3, 1), (4, 1), (5, 1), (6, 1)], [.int .i64 0, .int .i64 0, .int .i64 0, .int .i64 0, .int .i64 0, .int .i64 0, .int .i64 0]⟩),
 (68, ⟨4, .struct [(0, 1), (1, 1), (2, 1), (3, 1)], [.int .i64 0, .int .i64 0, .int .i64 0, .int .i64 0]⟩),
 (74, ⟨4, .struct [(0, 1), (1, 1), (2, 1), (3, 1)], [.bool false, .int .i64 0, .bool false, .bool false]⟩),
 (85, ⟨7, .struct [(0, 4), (4, 1), (5, 1), (6, 1)], [.int .i64 0, .int .i64 0, .int .i64 0, .int .i64 0, .int .i64 0, .bool false, .int .i64 0]⟩),
 (101, ⟨1, .slice 26, [.slice none 0 0]⟩),
 (113, ⟨1, .slice 68, [.slice none 0 0]⟩),
 (130, ⟨1, .slice 134, [.slice none 0 0]⟩),
 (134, ⟨5, .struct [(0, 4), (4, 1)], [.int .i64 0, .int .i64 0, .int .i64 0, .int .i64 0, .int .i64 0]⟩),
 (152, ⟨2, .array 2 3, [.int .i64 0, .int .i64 0]⟩),
 (153, ⟨4, .array 2 152, [.int .i64 0, .int .i64 0, .int .i64 0, .int .i64 0]⟩),
 (161, ⟨1, .int .u64, [.int .u64 0]⟩),
 (179, ⟨1, .int .u64, [.int .u64 0]⟩),
 (188, ⟨2, .struct [(0, 1), (1, 1)], [.int .u64 0, .int .u64 0]⟩)]
theorem ti3 : TIok Tryz.prog 3 ⟨1, .int .i64, [.int .i64 0]⟩ := ⟨Tryz.t3, _, by kernel_rfl, rfl, Tryz.underlying3, rfl, ⟨_, rfl, rfl⟩, Nat.le_of_ble_eq_true rfl⟩
theorem ti4 : TIok Tryz.prog 4 ⟨1, .bool, [.bool false]⟩ := ⟨Tryz.t4, _, by kernel_rfl, rfl, Tryz.underlying4, rfl, ⟨_, rfl, rfl⟩, Nat.le_of_ble_eq_true rfl⟩
theorem ti5 : TIok Tryz.prog 5 ⟨1, .int .u8, [.int .u8 0]⟩ := ⟨Tryz.t5, _, by kernel_rfl, rfl, Tryz.underlying5, rfl, ⟨_, rfl, rfl⟩, Nat.le_of_ble_eq_true rfl⟩
theorem ti22 : TIok Tryz.prog 22 ⟨1, .slice 3, [.slice none 0 0]⟩ := ⟨Tryz.t22, _, by kernel_rfl, rfl, Tryz.underlying22, rfl, ⟨_, rfl, rfl⟩, Nat.le_of_ble_eq_true rfl⟩
theorem ti24 : TIok Tryz.prog 24 ⟨2, .struct [(0, 1), (1, 1)], [.slice none 0 0, .int .i64 0]⟩ := by
 refine ⟨Tryz.t24, _, by kernel_rfl, rfl, Tryz.underlying24, ⟨_, rfl, rfl, fun f o n h => ?_⟩, ⟨_, rfl, rfl⟩, Nat.le_of_ble_eq_true rfl⟩
 match f, h with
 | 0, h => cases h; exact ⟨_, Tryz.t22, rfl, rfl, by kernel_rfl, rfl⟩
 | 1, h => cases h; exact ⟨_, Tryz.t3, rfl, rfl, by kernel_rfl, rfl⟩
 | _ + 2, h => simp at h
theorem ti26 : TIok Tryz.prog 26 ⟨6, .struct [(0, 1), (1, 1), (2, 1), (3, 1), (4, 1), (5, 1)], [.bool false, .int .i64 0, .int .i64 0, .int .i64 0, .int .i64 0, .int .i64 0]⟩ := by
 refine ⟨Tryz.t26, _, by kernel_rfl, rfl, Tryz.underlying26, ⟨_, rfl, rfl, fun f o n h => ?_⟩, ⟨_, rfl, rfl⟩, Nat.le_of_ble_eq_true rfl⟩
 match f, h with
 | 0, h => cases h; exact ⟨_, Tryz.t4, rfl, rfl, by kernel_rfl, rfl⟩
 | 1, h => cases h; exact ⟨_, Tryz.t3, rfl, rfl, by kernel_rfl, rfl⟩
 | 2, h => cases h; exact ⟨_, Tryz.t3, rfl, rfl, by kernel_rfl, rfl⟩
 | 3, h => cases h; exact ⟨_, Tryz.t3, rfl, rfl, by kernel_rfl, rfl⟩
 | 4, h => cases h; exact ⟨_, Tryz.t3, rfl, rfl, by kernel_rfl, rfl⟩
 | 5, h => cases h; exact ⟨_, Tryz.t3, rfl, rfl, by kernel_rfl, rfl⟩
 | _ + 6, h => simp at h
theorem ti27 : TIok Tryz.prog 27 ⟨1, .slice 74, [.slice none 0 0]⟩ := ⟨Tryz.t27, _, by kernel_rfl, rfl, Tryz.underlying27, rfl, ⟨_, rfl, rfl⟩, Nat.le_of_ble_eq_true rfl⟩
theorem ti29 : TIok Tryz.prog 29 ⟨2, .struct [(0, 1), (1, 1)], [.int .i64 0, .slice none 0 0]⟩ := by
 refine ⟨Tryz.t29, _, by kernel_rfl, rfl, Tryz.underlying29, ⟨_, rfl, rfl, fun f o n h => ?_⟩, ⟨_, rfl, rfl⟩, Nat.le_of_ble_eq_true rfl⟩
 match f, h with
 | 0, h => cases h; exact ⟨_, Tryz.t3, rfl, rfl, by kernel_rfl, rfl⟩
 | 1, h => cases h; exact ⟨_, Tryz.t27, rfl, rfl, by kernel_rfl, rfl⟩
 | _ + 2, h => simp at h
theorem ti30 : TIok Tryz.prog 30 ⟨1, .slice 55, [.slice none 0 0]⟩ := ⟨Tryz.t30, _, by kernel_rfl, rfl, Tryz.underlying30, rfl, ⟨_, rfl, rfl⟩, Nat.le_of_ble_eq_true rfl⟩
theorem ti31 : TIok Tryz.prog 31 ⟨1, .slice 85, [.slice none 0 0]⟩ := ⟨Tryz.t31, _, by kernel_rfl, rfl, Tryz.underlying31, rfl, ⟨_, rfl, rfl⟩, Nat.le_of_ble_eq_true rfl⟩
theorem ti33 : TIok Tryz.prog 33 ⟨13, .struct [(0, 2), (2, 6), (8, 2), (10, 1), (11, 1), (12, 1)], [.slice none 0 0, .int .i64 0, .bool false, .int .i64 0, .int .i64 0, .int .i64 0, .int .i64 0, .int .i64 0, .int .i64 0, .slice none 0 0, .slice none 0 0, .slice none 0 0, .bool false]⟩ := by
 refine ⟨Tryz.t33, _, by kernel_rfl, rfl, Tryz.underlying33, ⟨_, rfl, rfl, fun f o n h => ?_⟩, ⟨_, rfl, rfl⟩, Nat.le_of_ble_eq_true rfl⟩
 match f, h with
 | 0, h => cases h; exact ⟨_, Tryz.t24, rfl, rfl, by kernel_rfl, rfl⟩
 | 1, h => cases h; exact ⟨_, Tryz.t26, rfl, rfl, by kernel_rfl, rfl⟩
 | 2, h => cases h; exact ⟨_, Tryz.t29, rfl, rfl, by kernel_rfl, rfl⟩
 | 3, h => cases h; exact ⟨_, Tryz.t30, rfl, rfl, by kernel_rfl, rfl⟩
 | 4, h => cases h; exact ⟨_, Tryz.t31, rfl, rfl, by kernel_rfl, rfl⟩
 | 5, h => cases h; exact ⟨_, Tryz.t4, rfl, rfl, by kernel_rfl, rfl⟩
 | _ + 6, h => simp at h
theorem ti36 : TIok Tryz.prog 36 ⟨1, .slice 52, [.slice none 0 0]⟩ := ⟨Tryz.t36, _, by kernel_rfl, rfl, Tryz.underlying36, rfl, ⟨_, rfl, rfl⟩, Nat.le_of_ble_eq_true rfl⟩
theorem ti37 : TIok Tryz.prog 37 ⟨1, .int .i64, [.int .i64 0]⟩ := ⟨Tryz.t37, _, by kernel_rfl, rfl, Tryz.underlying37, rfl, ⟨_, rfl, rfl⟩, Nat.le_of_ble_eq_true rfl⟩
theorem ti46 : TIok Tryz.prog 46 ⟨2, .struct [(0, 1), (1, 1)], [.int .i64 0, .int .i64 0]⟩ := by
 refine ⟨Tryz.t46, _, by kernel_rfl, rfl, Tryz.underlying46, ⟨_, rfl, rfl, fun f o n h => ?_⟩, ⟨_, rfl, rfl⟩, Nat.le_of_ble_eq_true rfl⟩
 match f, h with
 | 0, h => cases h; exact ⟨_, Tryz.t3, rfl, rfl, by kernel_rfl, rfl⟩
 | 1, h => cases h; exact ⟨_, Tryz.t3, rfl, rfl, by kernel_rfl, rfl⟩
 | _ + 2, h => simp at h
theorem ti50 : TIok Tryz.prog 50 ⟨1, .slice 4, [.slice none 0 0]⟩ := ⟨Tryz.t50, _, by kernel_rfl, rfl, Tryz.underlying50, rfl, ⟨_, rfl, rfl⟩, Nat.le_of_ble_eq_true rfl⟩
theorem ti52 : TIok Tryz.prog 52 ⟨3, .struct [(0, 1), (1, 1), (2, 1)], [.int .i64 0, .int .i64 0, .bool false]⟩ := by
 refine ⟨Tryz.t52, _, by kernel_rfl, rfl, Tryz.underlying52, ⟨_, rfl, rfl, fun f o n h => ?_⟩, ⟨_, rfl, rfl⟩, Nat.le_of_ble_eq_true rfl⟩
 match f, h with
 | 0, h => cases h; exact ⟨_, Tryz.t3, rfl, rfl, by kernel_rfl, rfl⟩
 | 1, h => cases h; exact ⟨_, Tryz.t3, rfl, rfl, by kernel_rfl, rfl⟩
 | 2, h => cases h; exact ⟨_, Tryz.t4, rfl, rfl, by kernel_rfl, rfl⟩
 | _ + 3, h => simp at h
theorem ti55 : TIok Tryz.prog 55 ⟨7, .struct [(0, 1), (1, 1), (2, 1), (3, 1), (4, 1), (5, 1), (6, 1)], [.int .i64 0, .int .i64 0, .int .i64 0, .int .i64 0, .int .i64 0, .int .i64 0, .int .i64 0]⟩ := by
 refine ⟨Tryz.t55, _, by kernel_rfl, rfl, Tryz.underlying55, ⟨_, rfl, rfl, fun f o n h => ?_⟩, ⟨_, rfl, rfl⟩, Nat.le_of_ble_eq_true rfl⟩
 match f, h with
 | 0, h => cases h; exact ⟨_, Tryz.t3, rfl, rfl, by kernel_rfl, rfl⟩
 | 1, h => cases h; exact ⟨_, Tryz.t3, rfl, rfl, by kernel_rfl, rfl⟩
 | 2, h => cases h; exact ⟨_, Tryz.t3, rfl, rfl, by kernel_rfl, rfl⟩
 | 3, h => cases h; exact ⟨_, Tryz.t3, rfl, rfl, by kernel_rfl, rfl⟩
 | 4, h => cases h; exact ⟨_, Tryz.t3, rfl, rfl, by kernel_rfl, rfl⟩
 | 5, h => cases h; exact ⟨_, Tryz.t3, rfl, rfl, by kernel_rfl, rfl⟩
 | 6, h => cases h; exact ⟨_, Tryz.t3, rfl, rfl, by kernel_rfl, rfl⟩
 | _ + 7, h => simp at h
theorem ti68 : TIok Tryz.prog 68 ⟨4, .struct [(0, 1), (1, 1), (2, 1), (3, 1)], [.int .i64 0, .int .i64 0, .int .i64 0, .int .i64 0]⟩ := by
 refine ⟨Tryz.t68, _, by kernel_rfl, rfl, Tryz.underlying68, ⟨_, rfl, rfl, fun f o n h => ?_⟩, ⟨_, rfl, rfl⟩, Nat.le_of_ble_eq_true rfl⟩
 match f, h with
 | 0, h => cases h; exact ⟨_, Tryz.t3, rfl, rfl, by kernel_rfl, rfl⟩
 | 1, h => cases h; exact ⟨_, Tryz.t3, rfl, rfl, by kernel_rfl, rfl⟩
 | 2, h => cases h; exact ⟨_, Tryz.t3, rfl, rfl, by kernel_rfl, rfl⟩
 | 3, h => cases h; exact ⟨_, Tryz.t3, rfl, rfl, by kernel_rfl, rfl⟩
 | _ + 4, h => simp at h
theorem ti74 : TIok Tryz.prog 74 ⟨4, .struct [(0, 1), (1, 1), (2, 1), (3, 1)], [.bool false, .int .i64 0, .bool false, .bool false]⟩ := by
 refine ⟨Tryz.t74, _, by kernel_rfl, rfl, Tryz.underlying74, ⟨_, rfl, rfl, fun f o n h => ?_⟩, ⟨_, rfl, rfl⟩, Nat.le_of_ble_eq_true rfl⟩
 match f, h with
 | 0, h => cases h; exact ⟨_, Tryz.t4, rfl, rfl, by kernel_rfl, rfl⟩
 | 1, h => cases h; exact ⟨_, Tryz.t3, rfl, rfl, by kernel_rfl, rfl⟩
 | 2, h => cases h; exact ⟨_, Tryz.t4, rfl, rfl, by kernel_rfl, rfl⟩
 | 3, h => cases h; exact ⟨_, Tryz.t4, rfl, rfl, by kernel_rfl, rfl⟩
 | _ + 4, h => simp at h
theorem ti85 : TIok Tryz.prog 85 ⟨7, .struct [(0, 4), (4, 1), (5, 1), (6, 1)], [.int .i64 0, .int .i64 0, .int .i64 0, .int .i64 0, .int .i64 0, .bool false, .int .i64 0]⟩ := by
 refine ⟨Tryz.t85, _, by kernel_rfl, rfl, Tryz.underlying85, ⟨_, rfl, rfl, fun f o n h => ?_⟩, ⟨_, rfl, rfl⟩, Nat.le_of_ble_eq_true rfl⟩
 match f, h with
 | 0, h => cases h; exact ⟨_, Tryz.t68, rfl, rfl, by kernel_rfl, rfl⟩
 | 1, h => cases h; exact ⟨_, Tryz.t3, rfl, rfl, by kernel_rfl, rfl⟩
 | 2, h => cases h; exact ⟨_, Tryz.t4, rfl, rfl, by kernel_rfl, rfl⟩
 | 3, h => cases h; exact ⟨_, Tryz.t3, rfl, rfl, by kernel_rfl, rfl⟩
 | _ + 4, h => simp at h
theorem ti101 : TIok Tryz.prog 101 ⟨1, .slice 26, [.slice none 0 0]⟩ := ⟨Tryz.t101, _, by kernel_rfl, rfl, Tryz.underlying101, rfl, ⟨_, rfl, rfl⟩, Nat.le_of_ble_eq_true rfl⟩
theorem ti113 : TIok Tryz.prog 113 ⟨1, .slice 68, [.slice none 0 0]⟩ := ⟨Tryz.t113, _, by kernel_rfl, rfl, Tryz.underlying113, rfl, ⟨_, rfl, rfl⟩, Nat.le_of_ble_eq_true rfl⟩
theorem ti130 : TIok Tryz.prog 130 ⟨1, .slice 134, [.slice none 0 0]⟩ := ⟨Tryz.t130, _, by kernel_rfl, rfl, Tryz.underlying130, rfl, ⟨_, rfl, rfl⟩, Nat.le_of_ble_eq_true rfl⟩
theorem ti134 : TIok Tryz.prog 134 ⟨5, .struct [(0, 4), (4, 1)], [.int .i64 0, .int .i64 0, .int .i64 0, .int .i64 0, .int .i64 0]⟩ := by
 refine ⟨Tryz.t134, _, by kernel_rfl, rfl, Tryz.underlying134, ⟨_, rfl, rfl, fun f o n h => ?_⟩, ⟨_, rfl, rfl⟩, Nat.le_of_ble_eq_true rfl⟩
 match f, h with
 | 0, h => cases h; exact ⟨_, Tryz.t68, rfl, rfl, by kernel_rfl, rfl⟩
 | 1, h => cases h; exact ⟨_, Tryz.t3, rfl, rfl, by kernel_rfl, rfl⟩
 | _ + 2, h => simp at h
theorem ti152 : TIok Tryz.prog 152 ⟨2, .array 2 3, [.int .i64 0, .int .i64 0]⟩ := ⟨Tryz.t152, _, by kernel_rfl, rfl, Tryz.underlying152, rfl, ⟨_, rfl, rfl⟩, Nat.le_of_ble_eq_true rfl⟩
theorem ti153 : TIok Tryz.prog 153 ⟨4, .array 2 152, [.int .i64 0, .int .i64 0, .int .i64 0, .int .i64 0]⟩ := ⟨Tryz.t153, _, by kernel_rfl, rfl, Tryz.underlying153, rfl, ⟨_, rfl, rfl⟩, Nat.le_of_ble_eq_true rfl⟩
theorem ti161 : TIok Tryz.prog 161 ⟨1, .int .u64, [.int .u64 0]⟩ := ⟨Tryz.t161, _, by kernel_rfl, rfl, Tryz.underlying161, rfl, ⟨_, rfl, rfl⟩, Nat.le_of_ble_eq_true rfl⟩
theorem ti179 : TIok Tryz.prog 179 ⟨1, .int .u64, [.int .u64 0]⟩ := ⟨Tryz.t179, _, by kernel_rfl, rfl, Tryz.underlying179, rfl, ⟨_, rfl, rfl⟩, Nat.le_of_ble_eq_true rfl⟩
theorem ti188 : TIok Tryz.prog 188 ⟨2, .struct [(0, 1), (1, 1)], [.int .u64 0, .int .u64 0]⟩ := by
 refine ⟨Tryz.t188, _, by kernel_rfl, rfl, Tryz.underlying188, ⟨_, rfl, rfl, fun f o n h => ?_⟩, ⟨_, rfl, rfl⟩, Nat.le_of_ble_eq_true rfl⟩
 match f, h with
 | 0, h => cases h; exact ⟨_, Tryz.t179, rfl, rfl, by kernel_rfl, rfl⟩
 | 1, h => cases h; exact ⟨_, Tryz.t179, rfl, rfl, by kernel_rfl, rfl⟩
 | _ + 2, h => simp at h
theorem htab : TabOk Tryz.prog tab := by
 intro t ti h
 unfold tab at h
 refine tab_step h ti3 fun h => ?_
 refine tab_step h ti4 fun h => ?_
 refine tab_step h ti5 fun h => ?_
 refine tab_step h ti22 fun h => ?_
 refine tab_step h ti24 fun h => ?_
 refine tab_step h ti26 fun h => ?_
 refine tab_step h ti27 fun h => ?_
 refine tab_step h ti29 fun h => ?_
 refine tab_step h ti30 fun h => ?_
 refine tab_step h ti31 fun h => ?_
 refine tab_step h ti33 fun h => ?_
 refine tab_step h ti36 fun h => ?_
 refine tab_step h ti37 fun h => ?_
 refine tab_step h ti46 fun h => ?_
 refine tab_step h ti50 fun h => ?_
 refine tab_step h ti52 fun h => ?_
 refine tab_step h ti55 fun h => ?_
 refine tab_step h ti68 fun h => ?_
 refine tab_step h ti74 fun h => ?_
 refine tab_step h ti85 fun h => ?_
 refine tab_step h ti101 fun h => ?_
 refine tab_step h ti113 fun h => ?_
 refine tab_step h ti130 fun h => ?_
 refine tab_step h ti134 fun h => ?_
 refine tab_step h ti152 fun h => ?_
 refine tab_step h ti153 fun h => ?_
 refine tab_step h ti161 fun h => ?_
 refine tab_step h ti179 fun h => ?_
 refine tab_step h ti188 fun h => ?_
 cases h
theorem eqi_26 (d : Nat) (w : World) (a0 : Bool) (a1 : Int) (a2 : Int) (a3 : Int) (a4 : Int) (a5 : Int) (b0 : Bool) (b1 : Int) (b2 : Int) (b3 : Int) (b4 : Int) (b5 : Int) : (Op.equalIn (d + 2) 26 (.agg #[.bool a0, .int .i64 a1, .int .i64 a2, .int .i64 a3, .int .i64 a4, .int .i64 a5]) (.agg #[.bool b0, .int .i64 b1, .int .i64 b2, .int .i64 b3, .int .i64 b4, .int .i64 b5])).run Tryz.prog w = .ok ((a0 == b0) && ((a1 == b1) && ((a2 == b2) && ((a3 == b3) && ((a4 == b4) && ((a5 == b5) && true)))))) w :=
 eq_struct (d := d + 1) (fs := [⟨ "Valid", 4, 0, false, "", "", 0⟩, ⟨ "At", 3, 1, false, "", "", 8⟩, ⟨ "Angle", 3, 2, false, "", "", 16⟩, ⟨ "Period", 3, 3, false, "", "", 24⟩, ⟨ "Space", 3, 4, false, "", "", 32⟩, ⟨ "Ahead", 3, 5, false, "", "", 40⟩]) (by kernel_rfl) (by kernel_rfl) (by kernel_rfl) (eqf_cons (by decide) (part_one ti4 rfl rfl) (part_one ti4 rfl rfl) (run_equalIn_bool' w _ 4 _ _ Tryz.underlying4) (eqf_cons (by decide) (part_one ti3 rfl rfl) (part_one ti3 rfl rfl) (run_equalIn_int w _ 3 _ _ _ _ Tryz.underlying3) (eqf_cons (by decide) (part_one ti3 rfl rfl) (part_one ti3 rfl rfl) (run_equalIn_int w _ 3 _ _ _ _ Tryz.underlying3) (eqf_cons (by decide) (part_one ti3 rfl rfl) (part_one ti3 rfl rfl) (run_equalIn_int w _ 3 _ _ _ _ Tryz.underlying3) (eqf_cons (by decide) (part_one ti3 rfl rfl) (part_one ti3 rfl rfl) (run_equalIn_int w _ 3 _ _ _ _ Tryz.underlying3) (eqf_cons (by decide) (part_one ti3 rfl rfl) (part_one ti3 rfl rfl) (run_equalIn_int w _ 3 _ _ _ _ Tryz.underlying3) (eqf_nil)))))))
theorem eqv_26 (a0 : Bool) (a1 : Int) (a2 : Int) (a3 : Int) (a4 : Int) (a5 : Int) (b0 : Bool) (b1 : Int) (b2 : Int) (b3 : Int) (b4 : Int) (b5 : Int) : EqOk Tryz.prog 26 [.bool a0, .int .i64 a1, .int .i64 a2, .int .i64 a3, .int .i64 a4, .int .i64 a5] [.bool b0, .int .i64 b1, .int .i64 b2, .int .i64 b3, .int .i64 b4, .int .i64 b5] ((a0 == b0) && ((a1 == b1) && ((a2 == b2) && ((a3 == b3) && ((a4 == b4) && ((a5 == b5) && true)))))) := ⟨fun w => eqi_26 9998 w a0 a1 a2 a3 a4 a5 b0 b1 b2 b3 b4 b5, by kernel_rfl⟩
theorem eqi_55 (d : Nat) (w : World) (a0 : Int) (a1 : Int) (a2 : Int) (a3 : Int) (a4 : Int) (a5 : Int) (a6 : Int) (b0 : Int) (b1 : Int) (b2 : Int) (b3 : Int) (b4 : Int) (b5 : Int) (b6 : Int) : (Op.equalIn (d + 2) 55 (.agg #[.int .i64 a0, .int .i64 a1, .int .i64 a2, .int .i64 a3, .int .i64 a4, .int .i64 a5, .int .i64 a6]) (.agg #[.int .i64 b0, .int .i64 b1, .int .i64 b2, .int .i64 b3, .int .i64 b4, .int .i64 b5, .int .i64 b6])).run Tryz.prog w = .ok ((a0 == b0) && ((a1 == b1) && ((a2 == b2) && ((a3 == b3) && ((a4 == b4) && ((a5 == b5) && ((a6 == b6) && true))))))) w :=
 eq_struct (d := d + 1) (fs := [⟨ "Cylinder", 3, 0, false, "", "", 0⟩, ⟨ "Spark", 3, 1, false, "", "", 8⟩, ⟨ "Dwell", 3, 2, false, "", "", 16⟩, ⟨ "End", 3, 3, false, "", "", 24⟩, ⟨ "Inject", 3, 4, false, "", "", 32⟩, ⟨ "Gap", 3, 5, false, "", "", 40⟩, ⟨ "Extra", 3, 6, false, "", "", 48⟩]) (by kernel_rfl) (by kernel_rfl) (by kernel_rfl) (eqf_cons (by decide) (part_one ti3 rfl rfl) (part_one ti3 rfl rfl) (run_equalIn_int w _ 3 _ _ _ _ Tryz.underlying3) (eqf_cons (by decide) (part_one ti3 rfl rfl) (part_one ti3 rfl rfl) (run_equalIn_int w _ 3 _ _ _ _ Tryz.underlying3) (eqf_cons (by decide) (part_one ti3 rfl rfl) (part_one ti3 rfl rfl) (run_equalIn_int w _ 3 _ _ _ _ Tryz.underlying3) (eqf_cons (by decide) (part_one ti3 rfl rfl) (part_one ti3 rfl rfl) (run_equalIn_int w _ 3 _ _ _ _ Tryz.underlying3) (eqf_cons (by decide) (part_one ti3 rfl rfl) (part_one ti3 rfl rfl) (run_equalIn_int w _ 3 _ _ _ _ Tryz.underlying3) (eqf_cons (by decide) (part_one ti3 rfl rfl) (part_one ti3 rfl rfl) (run_equalIn_int w _ 3 _ _ _ _ Tryz.underlying3) (eqf_cons (by decide) (part_one ti3 rfl rfl) (part_one ti3 rfl rfl) (run_equalIn_int w _ 3 _ _ _ _ Tryz.underlying3) (eqf_nil))))))))
theorem eqv_55 (a0 : Int) (a1 : Int) (a2 : Int) (a3 : Int) (a4 : Int) (a5 : Int) (a6 : Int) (b0 : Int) (b1 : Int) (b2 : Int) (b3 : Int) (b4 : Int) (b5 : Int) (b6 : Int) : EqOk Tryz.prog 55 [.int .i64 a0, .int .i64 a1, .int .i64 a2, .int .i64 a3, .int .i64 a4, .int .i64 a5, .int .i64 a6] [.int .i64 b0, .int .i64 b1, .int .i64 b2, .int .i64 b3, .int .i64 b4, .int .i64 b5, .int .i64 b6] ((a0 == b0) && ((a1 == b1) && ((a2 == b2) && ((a3 == b3) && ((a4 == b4) && ((a5 == b5) && ((a6 == b6) && true))))))) := ⟨fun w => eqi_55 9998 w a0 a1 a2 a3 a4 a5 a6 b0 b1 b2 b3 b4 b5 b6, by kernel_rfl⟩
theorem eqi_74 (d : Nat) (w : World) (a0 : Bool) (a1 : Int) (a2 : Bool) (a3 : Bool) (b0 : Bool) (b1 : Int) (b2 : Bool) (b3 : Bool) : (Op.equalIn (d + 2) 74 (.agg #[.bool a0, .int .i64 a1, .bool a2, .bool a3]) (.agg #[.bool b0, .int .i64 b1, .bool b2, .bool b3])).run Tryz.prog w = .ok ((a0 == b0) && ((a1 == b1) && ((a2 == b2) && ((a3 == b3) && true)))) w :=
 eq_struct (d := d + 1) (fs := [⟨ "Armed", 4, 0, false, "", "", 0⟩, ⟨ "At", 3, 1, false, "", "", 8⟩, ⟨ "Next", 4, 2, false, "", "", 16⟩, ⟨ "Level", 4, 3, false, "", "", 17⟩]) (by kernel_rfl) (by kernel_rfl) (by kernel_rfl) (eqf_cons (by decide) (part_one ti4 rfl rfl) (part_one ti4 rfl rfl) (run_equalIn_bool' w _ 4 _ _ Tryz.underlying4) (eqf_cons (by decide) (part_one ti3 rfl rfl) (part_one ti3 rfl rfl) (run_equalIn_int w _ 3 _ _ _ _ Tryz.underlying3) (eqf_cons (by decide) (part_one ti4 rfl rfl) (part_one ti4 rfl rfl) (run_equalIn_bool' w _ 4 _ _ Tryz.underlying4) (eqf_cons (by decide) (part_one ti4 rfl rfl) (part_one ti4 rfl rfl) (run_equalIn_bool' w _ 4 _ _ Tryz.underlying4) (eqf_nil)))))
theorem eqv_74 (a0 : Bool) (a1 : Int) (a2 : Bool) (a3 : Bool) (b0 : Bool) (b1 : Int) (b2 : Bool) (b3 : Bool) : EqOk Tryz.prog 74 [.bool a0, .int .i64 a1, .bool a2, .bool a3] [.bool b0, .int .i64 b1, .bool b2, .bool b3] ((a0 == b0) && ((a1 == b1) && ((a2 == b2) && ((a3 == b3) && true)))) := ⟨fun w => eqi_74 9998 w a0 a1 a2 a3 b0 b1 b2 b3, by kernel_rfl⟩
theorem eqi_68 (d : Nat) (w : World) (a0 : Int) (a1 : Int) (a2 : Int) (a3 : Int) (b0 : Int) (b1 : Int) (b2 : Int) (b3 : Int) : (Op.equalIn (d + 2) 68 (.agg #[.int .i64 a0, .int .i64 a1, .int .i64 a2, .int .i64 a3]) (.agg #[.int .i64 b0, .int .i64 b1, .int .i64 b2, .int .i64 b3])).run Tryz.prog w = .ok ((a0 == b0) && ((a1 == b1) && ((a2 == b2) && ((a3 == b3) && true)))) w :=
 eq_struct (d := d + 1) (fs := [⟨ "Angle", 3, 0, false, "", "", 0⟩, ⟨ "Kind", 3, 1, false, "", "", 8⟩, ⟨ "Cylinder", 3, 2, false, "", "", 16⟩, ⟨ "Pulse", 3, 3, false, "", "", 24⟩]) (by kernel_rfl) (by kernel_rfl) (by kernel_rfl) (eqf_cons (by decide) (part_one ti3 rfl rfl) (part_one ti3 rfl rfl) (run_equalIn_int w _ 3 _ _ _ _ Tryz.underlying3) (eqf_cons (by decide) (part_one ti3 rfl rfl) (part_one ti3 rfl rfl) (run_equalIn_int w _ 3 _ _ _ _ Tryz.underlying3) (eqf_cons (by decide) (part_one ti3 rfl rfl) (part_one ti3 rfl rfl) (run_equalIn_int w _ 3 _ _ _ _ Tryz.underlying3) (eqf_cons (by decide) (part_one ti3 rfl rfl) (part_one ti3 rfl rfl) (run_equalIn_int w _ 3 _ _ _ _ Tryz.underlying3) (eqf_nil)))))
theorem eqi_85 (d : Nat) (w : World) (a0 : Int) (a1 : Int) (a2 : Int) (a3 : Int) (a4 : Int) (a5 : Bool) (a6 : Int) (b0 : Int) (b1 : Int) (b2 : Int) (b3 : Int) (b4 : Int) (b5 : Bool) (b6 : Int) : (Op.equalIn (d + 3) 85 (.agg #[.int .i64 a0, .int .i64 a1, .int .i64 a2, .int .i64 a3, .int .i64 a4, .bool a5, .int .i64 a6]) (.agg #[.int .i64 b0, .int .i64 b1, .int .i64 b2, .int .i64 b3, .int .i64 b4, .bool b5, .int .i64 b6])).run Tryz.prog w = .ok (((a0 == b0) && ((a1 == b1) && ((a2 == b2) && ((a3 == b3) && true)))) && ((a4 == b4) && ((a5 == b5) && ((a6 == b6) && true)))) w :=
 eq_struct (d := d + 2) (fs := [⟨ "Event", 68, 0, false, "", "", 0⟩, ⟨ "Left", 3, 4, false, "", "", 32⟩, ⟨ "Armed", 4, 5, false, "", "", 40⟩, ⟨ "At", 3, 6, false, "", "", 48⟩]) (by kernel_rfl) (by kernel_rfl) (by kernel_rfl) (eqf_cons (by decide) (part_agg ti68 rfl rfl) (part_agg ti68 rfl rfl) (eqi_68 (d + 0) w a0 a1 a2 a3 b0 b1 b2 b3) (eqf_cons (by decide) (part_one ti3 rfl rfl) (part_one ti3 rfl rfl) (run_equalIn_int w _ 3 _ _ _ _ Tryz.underlying3) (eqf_cons (by decide) (part_one ti4 rfl rfl) (part_one ti4 rfl rfl) (run_equalIn_bool' w _ 4 _ _ Tryz.underlying4) (eqf_cons (by decide) (part_one ti3 rfl rfl) (part_one ti3 rfl rfl) (run_equalIn_int w _ 3 _ _ _ _ Tryz.underlying3) (eqf_nil)))))
theorem eqv_85 (a0 : Int) (a1 : Int) (a2 : Int) (a3 : Int) (a4 : Int) (a5 : Bool) (a6 : Int) (b0 : Int) (b1 : Int) (b2 : Int) (b3 : Int) (b4 : Int) (b5 : Bool) (b6 : Int) : EqOk Tryz.prog 85 [.int .i64 a0, .int .i64 a1, .int .i64 a2, .int .i64 a3, .int .i64 a4, .bool a5, .int .i64 a6] [.int .i64 b0, .int .i64 b1, .int .i64 b2, .int .i64 b3, .int .i64 b4, .bool b5, .int .i64 b6] (((a0 == b0) && ((a1 == b1) && ((a2 == b2) && ((a3 == b3) && true)))) && ((a4 == b4) && ((a5 == b5) && ((a6 == b6) && true)))) := ⟨fun w => eqi_85 9997 w a0 a1 a2 a3 a4 a5 a6 b0 b1 b2 b3 b4 b5 b6, by kernel_rfl⟩
set_option maxRecDepth 100000 in
theorem q218 (a : Int) : TieF Tryz.prog 66 [.t (tI a)] (q164 a) (fun r => .t (tB r)) := by
 refine TieF.intro htab 9 [.tmp 2] Tryz.call66 Tryz.func66 rfl rfl rfl (Nat.le_of_ble_eq_true rfl) fun w0 L => ?_
 refine TieS.seq (.region (.run 1 rfl (.nil (.seq ?_))))
 refine TieS.region (.run 3 rfl (.selAnd (v := decide (a < 46080)) 3 5 (fun b => ⟨[(8, .t (tB b))], []⟩) rfl ?_ ?_ ?_))
 ·exact TieO.run 3 rfl (.nil (.leaf ⟨rfl, .of rfl rfl⟩))
 ·exact TieO.run 3 rfl (.nil (.leaf ⟨rfl, .of rfl rfl⟩))
 exact TieO.run 1 rfl (.nil (.ret ⟨.inl rfl, rfl⟩))
set_option maxRecDepth 100000 in
theorem q226 (s : List Int) (v : Int) : TieF Tryz.prog 110 [.t (tS Pv.encI s), .t (tI v)] (q115 s v) (fun r => .t (tI r)) := by
 refine TieF.intro htab 19 [.tmp 4] Tryz.call110 Tryz.func110 rfl rfl rfl (Nat.le_of_ble_eq_true rfl) fun w0 L => ?_
 refine TieS.seq (.region (.run 1 rfl (.nil (.seq ?_))))
 refine TieS.seq (.region (.run 3 rfl (.nil (.block ?_))))
 refine TieS.loop (fun p => ⟨[(0, .t (tS Pv.encI s)), (1, .t (tI v)), (7, .t (tI (s.length : Int))), (8, .t (tI p.1))], []⟩) (fun b e σ' => match b with | .inl t => e = .exit 0 ∧ Sub ⟨[], []⟩ σ' | .inr t => e = .ret ∧ retT tab σ' [.tmp 4] = some (((fun r => .t (tI r)) : Int → T) t)) (.of rfl rfl) ?_ ?_
 ·rintro ⟨i, s2⟩
  refine TieS.seq (.region (.run 1 rfl (.nil (.seq ?_))))
  refine TieS.cond rfl ?_ ?_
  ·refine TieS.skip (.seq (TieX.sub (σ' := ⟨[(0, .t (tS Pv.encI s)), (1, .t (tI v)), (7, .t (tI (s.length : Int))), (8, .t (tI i))], []⟩) (.of rfl rfl) (TieS.bind (Q₁ := fun f e σ' => match f with | .next t => e = .normal ∧ Sub ⟨[(0, .t (tS Pv.encI s)), (1, .t (tI v)), (7, .t (tI (s.length : Int))), (8, .t (tI i))], []⟩ σ' | .brk t => e = .exit 0 ∧ Sub ⟨[], []⟩ σ' | .ret t => e = .ret ∧ retT tab σ' [.tmp 4] = some (((fun r => .t (tI r)) : Int → T) t)) ?_ ?_)))
   ·refine TieS.block (.seq (.region (.run 2 rfl (.nil ?_))))
    refine TieS.seq (.region (.run 3 rfl (.index rfl rfl rfl rfl rfl rfl rfl rfl (fun _ => rfl) fun x hx => .run 2 rfl ?_)))
    refine TieO.nil (.cond rfl ?_ ?_)
    ·exact TieS.seq (.region (.run 2 rfl (.nil (.ret ⟨rfl, rfl⟩))))
    ·exact TieS.skip (.endb (.leaf ⟨rfl, .of rfl rfl⟩))
   rintro (t | t | t) e σ' _ hq
   ·obtain ⟨rfl, hs⟩ := hq
    exact TieX.sub hs (TieS.region (.run 2 rfl (.nil (.leaf ⟨rfl, .of rfl rfl⟩))))
   ·obtain ⟨rfl, hs⟩ := hq
    exact TieX.exitOut rfl ⟨(fun h => by cases h), rfl, hs⟩
   ·obtain ⟨rfl, hs⟩ := hq
    exact TieX.ret ⟨(fun h => by cases h), rfl, hs⟩
  ·exact TieS.exitOut rfl ⟨(fun h => by cases h), rfl, .of rfl rfl⟩
 rintro (s3 | r2) e σ' _ hq
 ·obtain ⟨rfl, hs⟩ := hq
  refine TieX.exit rfl (TieX.sub hs ?_)
  exact TieS.seq (.region (.run 1 rfl (.nil (.ret ⟨.inl rfl, rfl⟩))))
 ·obtain ⟨rfl, hs⟩ := hq
  exact TieX.ret ⟨.inl rfl, hs⟩
set_option maxRecDepth 100000 in
theorem q187 (s : List Int) (v : Int) : TieF Tryz.prog 67 [.t (tS Pv.encI s), .t (tI v)] (q78 s v) (fun r => .t (tB r)) := by
 refine TieF.intro htab 9 [.tmp 4] Tryz.call67 Tryz.func67 rfl rfl rfl (Nat.le_of_ble_eq_true rfl) fun w0 L => ?_
 refine TieS.seq (.region (.run 1 rfl (.nil (.seq ?_))))
 refine TieS.region (.run 2 rfl (.call _ rfl rfl rfl (q226 s v) (fun _ => rfl) fun v2 => .run 2 rfl (.nil ?_)))
 exact TieS.ret ⟨.inl rfl, rfl⟩
set_option maxRecDepth 100000 in
theorem q69 (e2 : SEngine) : TieF Tryz.prog 24 [q44 e2] (q65 e2) (fun r => .t (tB r)) := by
 refine TieF.intro htab 30 [.tmp 2] Tryz.call24 Tryz.func24 rfl rfl rfl (Nat.le_of_ble_eq_true rfl) fun w0 L => ?_
 refine TieS.seq (.region (.run 2 rfl (.nil (.seq ?_))))
 refine TieS.region (.run 4 rfl (.nil (.seq (.seq ?_))))
 refine TieS.region (.run 3 rfl (.selOr (v := decide ((e2.Order.length : Int) > 8)) 3 10 (fun b => ⟨[(1, .ptr 1 0), (3, .t (tI (e2.Order.length : Int))), (13, .t (tB b))], [(1, .box [.t (tS Pv.encI e2.Order), .t (tI e2.First)])]⟩) rfl ?_ ?_ ?_))
 ·exact TieO.run 3 rfl (.nil (.leaf ⟨rfl, .of rfl rfl⟩))
 ·exact TieO.run 3 rfl (.nil (.leaf ⟨rfl, .of rfl rfl⟩))
 refine TieO.run 1 rfl (.bind 5 (fun b2 => ⟨[(1, .ptr 1 0), (3, .t (tI (e2.Order.length : Int))), (19, .t (tB b2))], [(1, .box [.t (tS Pv.encI e2.Order), .t (tI e2.First)])]⟩) (TieO.split 14 rfl ?_ ?_) fun b2 _ => ?_)
 ·exact TieO.run 5 rfl (.nil (.leaf ⟨rfl, .of rfl rfl⟩))
 ·exact TieO.run 2 rfl (.call _ rfl rfl rfl (q218 e2.First) (fun _ => rfl) fun v => .run 2 rfl (.nil (.leaf ⟨rfl, .of rfl rfl⟩)))
 refine TieO.nil (.cond rfl ?_ ?_)
 ·exact TieS.seq (.region (.run 1 rfl (.nil (.ret ⟨.inl rfl, rfl⟩))))
 ·refine TieS.skip (.seq (.seq (.region (.run 1 rfl ?_))))
  refine TieO.nil (.block (.loop (fun t => ⟨[(1, .ptr 1 0), (3, .t (tI (e2.Order.length : Int))), (4, .t (tI t))], [(1, .box [.t (tS Pv.encI e2.Order), .t (tI e2.First)])]⟩) (fun b e σ' => match b with | .inl t => e = .exit 0 ∧ Sub ⟨[], []⟩ σ' | .inr t => e = .ret ∧ retT tab σ' [.tmp 2] = some (((fun r => .t (tB r)) : Bool → T) t)) (.of rfl rfl) ?_ ?_))
  ·intro i
   refine TieS.seq (.seq (.region (.run 3 rfl (.nil ?_))))
   refine TieS.cond rfl ?_ ?_
   ·refine TieS.skip (.seq (.block (.seq (.region ?_))))
    refine TieO.run 3 rfl (.call _ rfl rfl rfl (q187 e2.Order i) (fun _ => rfl) fun v2 => .run 1 rfl (.nil (.cond rfl ?_ ?_)))
    ·exact TieS.seq (.region (.run 1 rfl (.nil (.ret ⟨(fun h => by cases h), rfl, rfl⟩))))
    ·refine TieS.skip (.endb (.region (.run 3 rfl (.nil ?_))))
     exact TieS.leaf ⟨rfl, .of rfl rfl⟩
   ·exact TieS.exitOut rfl ⟨(fun h => by cases h), rfl, .of rfl rfl⟩
  rintro (i2 | r2) e σ' _ hq
  ·obtain ⟨rfl, hs⟩ := hq
   refine TieX.exit rfl (TieX.sub hs ?_)
   exact TieS.seq (.region (.run 1 rfl (.nil (.ret ⟨.inl rfl, rfl⟩))))
  ·obtain ⟨rfl, hs⟩ := hq
   exact TieX.ret ⟨.inl rfl, hs⟩
set_option maxRecDepth 100000 in
theorem q370 (t2 : Int) : TieF Tryz.prog 83 [.t (tI t2)] (q266 t2) (fun r => .t (tB r)) := by
 refine TieF.intro htab 9 [.tmp 2] Tryz.call83 Tryz.func83 rfl rfl rfl (Nat.le_of_ble_eq_true rfl) fun w0 L => ?_
 refine TieS.seq (.region (.run 1 rfl (.nil (.seq ?_))))
 refine TieS.region (.run 3 rfl (.selAnd (v := decide (t2 ≤ 1099511627776)) 3 5 (fun b => ⟨[(8, .t (tB b))], []⟩) rfl ?_ ?_ ?_))
 ·exact TieO.run 3 rfl (.nil (.leaf ⟨rfl, .of rfl rfl⟩))
 ·exact TieO.run 3 rfl (.nil (.leaf ⟨rfl, .of rfl rfl⟩))
 exact TieO.run 1 rfl (.nil (.ret ⟨.inl rfl, rfl⟩))
abbrev x34_0 (c : SClock) : List T := [.t (tB c.Valid), .t (tI c.At), .t (tI c.Angle), .t (tI c.Period), .t (tI c.Space), .t (tI c.Ahead)]
set_option maxRecDepth 100000 in
set_option maxHeartbeats 4000000 in
theorem q228 (c : SClock) : TieF Tryz.prog 34 [q221 c] (q146 c) (fun r => .t (tB r)) := by
 refine TieF.intro htab 64 [.tmp 2] Tryz.call34 Tryz.func34 rfl rfl rfl (Nat.le_of_ble_eq_true rfl) fun w0 L => ?_
 refine TieS.seq (.region (.run 2 rfl (.nil (.seq ?_))))
 refine TieS.seq (.region (.run 3 rfl (.nil (.cond rfl ?_ ?_))))
 ·refine TieS.seq (.region (.run 2 rfl (.eqS [.bool c.Valid, .int .i64 c.At, .int .i64 c.Angle, .int .i64 c.Period, .int .i64 c.Space, .int .i64 c.Ahead] [.bool false, .int .i64 0, .int .i64 0, .int .i64 0, .int .i64 0, .int .i64 0] (eqv_26 c.Valid c.At c.Angle c.Period c.Space c.Ahead false 0 0 0 0 0) rfl rfl rfl rfl rfl rfl (.run 1 rfl ?_))))
  exact TieO.nil (.ret ⟨.inl rfl, rfl⟩)
 ·refine TieS.skip (.seq (.seq (.region (.run 2 rfl ?_))))
  refine TieO.call _ rfl rfl rfl (q370 c.At) (fun _ => rfl) fun v => .run 2 rfl (.selOr (v := decide (c.Angle < 0)) 4 13 (fun b => ⟨[(1, .ptr 1 0), (17, .t (tB b))], [(1, .box (x34_0 c))]⟩) rfl ?_ ?_ ?_)
  ·exact TieO.run 4 rfl (.nil (.leaf ⟨rfl, .of rfl rfl⟩))
  ·exact TieO.run 4 rfl (.nil (.leaf ⟨rfl, .of rfl rfl⟩))
  refine TieO.run 1 rfl (.selOr (v := decide (c.Angle ≥ 46080)) 4 18 (fun b => ⟨[(1, .ptr 1 0), (22, .t (tB b))], [(1, .box (x34_0 c))]⟩) rfl ?_ ?_ ?_)
  ·exact TieO.run 4 rfl (.nil (.leaf ⟨rfl, .of rfl rfl⟩))
  ·exact TieO.run 4 rfl (.nil (.leaf ⟨rfl, .of rfl rfl⟩))
  refine TieO.run 1 rfl (.selOr (v := decide (c.Period < 1)) 4 23 (fun b => ⟨[(1, .ptr 1 0), (27, .t (tB b))], [(1, .box (x34_0 c))]⟩) rfl ?_ ?_ ?_)
  ·exact TieO.run 4 rfl (.nil (.leaf ⟨rfl, .of rfl rfl⟩))
  ·exact TieO.run 4 rfl (.nil (.leaf ⟨rfl, .of rfl rfl⟩))
  refine TieO.run 1 rfl (.selOr (v := decide (c.Period > 1073741824)) 4 28 (fun b => ⟨[(1, .ptr 1 0), (32, .t (tB b))], [(1, .box (x34_0 c))]⟩) rfl ?_ ?_ ?_)
  ·exact TieO.run 4 rfl (.nil (.leaf ⟨rfl, .of rfl rfl⟩))
  ·exact TieO.run 4 rfl (.nil (.leaf ⟨rfl, .of rfl rfl⟩))
  refine TieO.run 1 rfl (.selOr (v := decide (c.Space < 192)) 4 33 (fun b => ⟨[(1, .ptr 1 0), (37, .t (tB b))], [(1, .box (x34_0 c))]⟩) rfl ?_ ?_ ?_)
  ·exact TieO.run 4 rfl (.nil (.leaf ⟨rfl, .of rfl rfl⟩))
  ·exact TieO.run 4 rfl (.nil (.leaf ⟨rfl, .of rfl rfl⟩))
  refine TieO.run 1 rfl (.selOr (v := decide (c.Space > 1920)) 4 38 (fun b => ⟨[(1, .ptr 1 0), (42, .t (tB b))], [(1, .box (x34_0 c))]⟩) rfl ?_ ?_ ?_)
  ·exact TieO.run 4 rfl (.nil (.leaf ⟨rfl, .of rfl rfl⟩))
  ·exact TieO.run 4 rfl (.nil (.leaf ⟨rfl, .of rfl rfl⟩))
  refine TieO.nil (.cond rfl ?_ ?_)
  ·exact TieS.seq (.region (.run 1 rfl (.nil (.ret ⟨.inl rfl, rfl⟩))))
  ·refine TieS.skip (.seq (.region (.run 6 rfl (.selOr (v := (c.Ahead == (w64 (2 * c.Space)))) 7 48 (fun b => ⟨[(1, .ptr 1 0), (55, .t (tB b))], [(1, .box (x34_0 c))]⟩) rfl ?_ ?_ ?_))))
   ·exact TieO.run 7 rfl (.nil (.leaf ⟨rfl, .of rfl rfl⟩))
   ·exact TieO.run 7 rfl (.nil (.leaf ⟨rfl, .of rfl rfl⟩))
   refine TieO.run 1 rfl (.selOr (v := (c.Ahead == (w64 (3 * c.Space)))) 7 56 (fun b => ⟨[(63, .t (tB b))], []⟩) rfl ?_ ?_ ?_)
   ·exact TieO.run 7 rfl (.nil (.leaf ⟨rfl, .of rfl rfl⟩))
   ·exact TieO.run 7 rfl (.nil (.leaf ⟨rfl, .of rfl rfl⟩))
   exact TieO.run 1 rfl (.nil (.ret ⟨.inl rfl, rfl⟩))
set_option maxRecDepth 100000 in
theorem q235 (s : List SChannel) (n2 : Nat) (cs : List (List Tree)) (f2 : SChannel → Option Bool) (h2 : ∀ x0, TieF Tryz.prog n2 ([q202 x0] ++ cs.map T.el) (f2 x0) (fun r => .t (tB r))) : TieF Tryz.prog 77 [.t (tS q12 s), .fz n2 cs] (q125 s f2) (fun r => .t (tI r)) := by
 refine TieF.intro htab 19 [.tmp 4] Tryz.call77 Tryz.func77 rfl rfl rfl (Nat.le_of_ble_eq_true rfl) fun w0 L => ?_
 refine TieS.seq (.region (.run 1 rfl (.nil (.seq ?_))))
 refine TieS.seq (.region (.run 3 rfl (.nil (.block ?_))))
 refine TieS.loop (fun p => ⟨[(0, .t (tS q12 s)), (1, .fz n2 cs), (7, .t (tI (s.length : Int))), (8, .t (tI p.1))], []⟩) (fun b e σ' => match b with | .inl t => e = .exit 0 ∧ Sub ⟨[], []⟩ σ' | .inr t => e = .ret ∧ retT tab σ' [.tmp 4] = some (((fun r => .t (tI r)) : Int → T) t)) (.of rfl rfl) ?_ ?_
 ·rintro ⟨i, s2⟩
  refine TieS.seq (.region (.run 1 rfl (.nil (.seq ?_))))
  refine TieS.cond rfl ?_ ?_
  ·refine TieS.skip (.seq (TieX.sub (σ' := ⟨[(0, .t (tS q12 s)), (1, .fz n2 cs), (7, .t (tI (s.length : Int))), (8, .t (tI i))], []⟩) (.of rfl rfl) (TieS.bind (Q₁ := fun f e σ' => match f with | .next t => e = .normal ∧ Sub ⟨[(0, .t (tS q12 s)), (1, .fz n2 cs), (7, .t (tI (s.length : Int))), (8, .t (tI i))], []⟩ σ' | .brk t => e = .exit 0 ∧ Sub ⟨[], []⟩ σ' | .ret t => e = .ret ∧ retT tab σ' [.tmp 4] = some (((fun r => .t (tI r)) : Int → T) t)) ?_ ?_)))
   ·refine TieS.block (.seq (.region (.run 2 rfl (.nil ?_))))
    refine TieS.seq (.region (.run 3 rfl (.index rfl rfl rfl rfl rfl rfl rfl rfl (fun _ => rfl) fun x hx => .run 1 rfl ?_)))
    refine TieO.call _ rfl rfl rfl (h2 x) (fun _ => rfl) fun v => .nil (.cond rfl ?_ ?_)
    ·exact TieS.seq (.region (.run 2 rfl (.nil (.ret ⟨rfl, rfl⟩))))
    ·exact TieS.skip (.endb (.leaf ⟨rfl, .of rfl rfl⟩))
   rintro (t | t | t) e σ' _ hq
   ·obtain ⟨rfl, hs⟩ := hq
    exact TieX.sub hs (TieS.region (.run 2 rfl (.nil (.leaf ⟨rfl, .of rfl rfl⟩))))
   ·obtain ⟨rfl, hs⟩ := hq
    exact TieX.exitOut rfl ⟨(fun h => by cases h), rfl, hs⟩
   ·obtain ⟨rfl, hs⟩ := hq
    exact TieX.ret ⟨(fun h => by cases h), rfl, hs⟩
  ·exact TieS.exitOut rfl ⟨(fun h => by cases h), rfl, .of rfl rfl⟩
 rintro (s3 | r2) e σ' _ hq
 ·obtain ⟨rfl, hs⟩ := hq
  refine TieX.exit rfl (TieX.sub hs ?_)
  exact TieS.seq (.region (.run 1 rfl (.nil (.ret ⟨.inl rfl, rfl⟩))))
 ·obtain ⟨rfl, hs⟩ := hq
  exact TieX.ret ⟨.inl rfl, hs⟩
set_option maxRecDepth 100000 in
theorem q70 (s : List SChannel) (n2 : Nat) (cs : List (List Tree)) (f2 : SChannel → Option Bool) (h2 : ∀ x0, TieF Tryz.prog n2 ([q202 x0] ++ cs.map T.el) (f2 x0) (fun r => .t (tB r))) : TieF Tryz.prog 31 [.t (tS q12 s), .fz n2 cs] (q28 s f2) (fun r => .t (tB r)) := by
 refine TieF.intro htab 9 [.tmp 4] Tryz.call31 Tryz.func31 rfl rfl rfl (Nat.le_of_ble_eq_true rfl) fun w0 L => ?_
 refine TieS.seq (.region (.run 1 rfl (.nil (.seq ?_))))
 refine TieS.region (.run 2 rfl (.call _ rfl rfl rfl (q235 s n2 cs f2 h2) (fun _ => rfl) fun v => .run 2 rfl (.nil ?_)))
 exact TieS.ret ⟨.inl rfl, rfl⟩
set_option maxRecDepth 100000 in
theorem q349 (c : SChannel) (c2 : STimer) : TieF Tryz.prog 106 [q202 c, .el (q199 c2)] (q134 c c2) (fun r => .t (tB r)) := by
 refine TieF.intro htab 23 [.tmp 3] Tryz.call106 Tryz.func106 rfl rfl rfl (Nat.le_of_ble_eq_true rfl) fun w0 L => ?_
 refine TieS.seq (.region (.run 2 rfl (.nil (.seq ?_))))
 refine TieS.seq (.region (.run 2 rfl (.nil (.cond rfl ?_ ?_))))
 ·refine TieS.seq (.region (.run 6 rfl (.selOr (v := decide (c.At > 1099511627776)) 4 11 (fun b => ⟨[(15, .t (tB b))], []⟩) rfl ?_ ?_ ?_)))
  ·exact TieO.run 4 rfl (.nil (.leaf ⟨rfl, .of rfl rfl⟩))
  ·exact TieO.run 4 rfl (.nil (.leaf ⟨rfl, .of rfl rfl⟩))
  exact TieO.run 1 rfl (.nil (.ret ⟨.inl rfl, rfl⟩))
 ·refine TieS.skip (.seq (.region (.run 4 rfl (.selOr (v := c.Next) 3 19 (fun b => ⟨[(22, .t (tB b))], []⟩) rfl ?_ ?_ ?_))))
  ·exact TieO.run 3 rfl (.nil (.leaf ⟨rfl, .of rfl rfl⟩))
  ·exact TieO.run 3 rfl (.nil (.leaf ⟨rfl, .of rfl rfl⟩))
  exact TieO.run 1 rfl (.nil (.ret ⟨.inl rfl, rfl⟩))
set_option maxRecDepth 100000 in
theorem q234 (t2 : STimer) : TieF Tryz.prog 53 [q112 t2] (q180 t2) (fun r => .t (tB r)) := by
 refine TieF.intro htab 28 [.tmp 2] Tryz.call53 Tryz.func53 rfl rfl rfl (Nat.le_of_ble_eq_true rfl) fun w0 L => ?_
 refine TieS.seq (.region (.run 2 rfl (.nil (.seq ?_))))
 refine TieS.seq (.region (.run 4 rfl (.selOr (v := decide (t2.Now > 1099511627776)) 4 6 (fun b => ⟨[(1, .ptr 1 0), (10, .t (tB b))], [(1, .box [.t (tI t2.Now), .t (tS q12 t2.Channels)])]⟩) rfl ?_ ?_ ?_)))
 ·exact TieO.run 4 rfl (.nil (.leaf ⟨rfl, .of rfl rfl⟩))
 ·exact TieO.run 4 rfl (.nil (.leaf ⟨rfl, .of rfl rfl⟩))
 refine TieO.run 1 rfl (.selOr (v := decide ((t2.Channels.length : Int) < 1)) 5 11 (fun b => ⟨[(1, .ptr 1 0), (16, .t (tB b))], [(1, .box [.t (tI t2.Now), .t (tS q12 t2.Channels)])]⟩) rfl ?_ ?_ ?_)
 ·exact TieO.run 5 rfl (.nil (.leaf ⟨rfl, .of rfl rfl⟩))
 ·exact TieO.run 5 rfl (.nil (.leaf ⟨rfl, .of rfl rfl⟩))
 refine TieO.run 1 rfl (.selOr (v := decide ((t2.Channels.length : Int) > 16)) 5 17 (fun b => ⟨[(1, .ptr 1 0), (22, .t (tB b))], [(1, .box [.t (tI t2.Now), .t (tS q12 t2.Channels)])]⟩) rfl ?_ ?_ ?_)
 ·exact TieO.run 5 rfl (.nil (.leaf ⟨rfl, .of rfl rfl⟩))
 ·exact TieO.run 5 rfl (.nil (.leaf ⟨rfl, .of rfl rfl⟩))
 refine TieO.nil (.cond rfl ?_ ?_)
 ·exact TieS.seq (.region (.run 1 rfl (.nil (.ret ⟨.inl rfl, rfl⟩))))
 ·refine TieS.skip (.seq (.region (.run 2 rfl (.frzBox 1 rfl rfl ?_))))
  refine TieO.run 1 rfl (.sub (σ' := ⟨[(1, .el (q199 t2)), (22, .t (tB ((((decide (t2.Now < 0)) || (decide (t2.Now > 1099511627776))) || (decide ((t2.Channels.length : Int) < 1))) || (decide ((t2.Channels.length : Int) > 16))))), (23, .el (List.drop 1 (q199 t2))), (24, .t (tS q12 t2.Channels)), (25, .fz 106 [q199 t2])], []⟩) (.of rfl rfl) (.call _ rfl rfl rfl (q70 t2.Channels 106 [q199 t2] (fun x0 => q134 x0 t2) (fun x0 => q349 x0 t2)) (fun _ => rfl) fun v => .run 2 rfl (.nil ?_)))
  exact TieS.ret ⟨.inl rfl, rfl⟩
set_option maxRecDepth 100000 in
theorem q58 (x : Int) (low : Int) (high : Int) : TieF Tryz.prog 128 [.t (tI x), .t (tI low), .t (tI high)] (q54 x low high) (fun r => .t (tB r)) := by
 refine TieF.intro htab 15 [.tmp 6] Tryz.call128 Tryz.func128 rfl rfl rfl (Nat.le_of_ble_eq_true rfl) fun w0 L => ?_
 refine TieS.seq (.region (.run 1 rfl (.nil (.seq ?_))))
 refine TieS.region (.run 4 rfl (.selAnd (v := decide (x ≤ high)) 4 10 (fun b => ⟨[(14, .t (tB b))], []⟩) rfl ?_ ?_ ?_))
 ·exact TieO.run 4 rfl (.nil (.leaf ⟨rfl, .of rfl rfl⟩))
 ·exact TieO.run 4 rfl (.nil (.leaf ⟨rfl, .of rfl rfl⟩))
 exact TieO.run 1 rfl (.nil (.ret ⟨.inl rfl, rfl⟩))
abbrev x107_0 (f2 : SFire) : List T := [.t (tI f2.Cylinder), .t (tI f2.Spark), .t (tI f2.Dwell), .t (tI f2.End), .t (tI f2.Inject), .t (tI f2.Gap), .t (tI f2.Extra)]
set_option maxRecDepth 100000 in
set_option maxHeartbeats 4000000 in
theorem q227 (e2 : SEngine) (f2 : SFire) : TieF Tryz.prog 107 [q44 e2, A_SFire f2] (q129 e2 f2) (fun r => .t (tB r)) := by
 refine TieF.intro htab 66 [.tmp 4] Tryz.call107 Tryz.func107 rfl rfl rfl (Nat.le_of_ble_eq_true rfl) fun w0 L => ?_
 refine TieS.seq (.region (.run 3 rfl (.nil (.seq ?_))))
 refine TieS.seq (.region (.run 1 rfl (.call _ rfl rfl rfl (q69 e2) (fun _ => rfl) fun v => .run 2 rfl ?_)))
 refine TieO.bind 7 (fun b2 => ⟨[(3, .ptr 3 0), (15, .t (tB b2))], [(3, .box (x107_0 f2))]⟩) (TieO.split 8 rfl ?_ ?_) fun b2 _ => ?_
 ·exact TieO.run 7 rfl (.nil (.leaf ⟨rfl, .of rfl rfl⟩))
 ·exact TieO.run 4 rfl (.call _ rfl rfl rfl (q187 e2.Order f2.Cylinder) (fun _ => rfl) fun v2 => .run 2 rfl (.nil (.leaf ⟨rfl, .of rfl rfl⟩)))
 refine TieO.run 1 rfl (.bind 5 (fun b3 => ⟨[(3, .ptr 3 0), (21, .t (tB b3))], [(3, .box (x107_0 f2))]⟩) (TieO.split 16 rfl ?_ ?_) fun b3 _ => ?_)
 ·exact TieO.run 5 rfl (.nil (.leaf ⟨rfl, .of rfl rfl⟩))
 ·exact TieO.run 2 rfl (.call _ rfl rfl rfl (q58 f2.Spark (-1280) 3840) (fun _ => rfl) fun v3 => .run 2 rfl (.nil (.leaf ⟨rfl, .of rfl rfl⟩)))
 refine TieO.run 1 rfl (.bind 5 (fun b4 => ⟨[(3, .ptr 3 0), (27, .t (tB b4))], [(3, .box (x107_0 f2))]⟩) (TieO.split 22 rfl ?_ ?_) fun b4 _ => ?_)
 ·exact TieO.run 5 rfl (.nil (.leaf ⟨rfl, .of rfl rfl⟩))
 ·exact TieO.run 2 rfl (.call _ rfl rfl rfl (q58 f2.Dwell 500 10000) (fun _ => rfl) fun v4 => .run 2 rfl (.nil (.leaf ⟨rfl, .of rfl rfl⟩)))
 refine TieO.run 1 rfl (.bind 5 (fun b5 => ⟨[(3, .ptr 3 0), (33, .t (tB b5))], [(3, .box (x107_0 f2))]⟩) (TieO.split 28 rfl ?_ ?_) fun b5 _ => ?_)
 ·exact TieO.run 5 rfl (.nil (.leaf ⟨rfl, .of rfl rfl⟩))
 ·exact TieO.run 2 rfl (.call _ rfl rfl rfl (q58 f2.End 0 23040) (fun _ => rfl) fun v5 => .run 2 rfl (.nil (.leaf ⟨rfl, .of rfl rfl⟩)))
 refine TieO.nil (.cond rfl ?_ ?_)
 ·exact TieS.seq (.region (.run 1 rfl (.nil (.ret ⟨.inl rfl, rfl⟩))))
 ·refine TieS.skip (.seq (.seq (.region (.run 4 rfl ?_))))
  refine TieO.bind 5 (fun b6 => ⟨[(3, .ptr 3 0), (42, .t (tB b6))], [(3, .box (x107_0 f2))]⟩) (TieO.split 37 rfl ?_ ?_) fun b6 _ => ?_
  ·exact TieO.run 2 rfl (.call _ rfl rfl rfl (q58 f2.Inject 200 20000) (fun _ => rfl) fun v6 => .run 2 rfl (.nil (.leaf ⟨rfl, .of rfl rfl⟩)))
  ·exact TieO.run 5 rfl (.nil (.leaf ⟨rfl, .of rfl rfl⟩))
  refine TieO.nil (.cond rfl ?_ ?_)
  ·exact TieS.seq (.region (.run 1 rfl (.nil (.ret ⟨.inl rfl, rfl⟩))))
  ·refine TieS.skip (.seq (.region (.run 4 rfl (.selAnd (v := (f2.Extra == 0)) 4 46 (fun b => ⟨[(3, .ptr 3 0), (50, .t (tB b))], [(3, .box (x107_0 f2))]⟩) rfl ?_ ?_ ?_))))
   ·exact TieO.run 4 rfl (.nil (.leaf ⟨rfl, .of rfl rfl⟩))
   ·exact TieO.run 4 rfl (.nil (.leaf ⟨rfl, .of rfl rfl⟩))
   refine TieO.run 1 rfl (.bind 14 (fun b9 => ⟨[(65, .t (tB b9))], []⟩) (TieO.split 51 rfl ?_ ?_) fun b9 _ => ?_)
   ·exact TieO.run 14 rfl (.nil (.leaf ⟨rfl, .of rfl rfl⟩))
   ·refine TieO.run 4 rfl (.bind 4 (fun b7 => ⟨[(3, .ptr 3 0), (51, .t (tB false)), (59, .t (tB b7))], [(3, .box (x107_0 f2))]⟩) (TieO.split 55 rfl ?_ ?_) fun b7 _ => ?_)
    ·exact TieO.run 2 rfl (.call _ rfl rfl rfl (q58 f2.Gap 200 20000) (fun _ => rfl) fun v7 => .run 1 rfl (.nil (.leaf ⟨rfl, .of rfl rfl⟩)))
    ·exact TieO.run 4 rfl (.nil (.leaf ⟨rfl, .of rfl rfl⟩))
    refine TieO.run 1 rfl (.bind 4 (fun b8 => ⟨[(51, .t (tB false)), (64, .t (tB b8))], []⟩) (TieO.split 60 rfl ?_ ?_) fun b8 _ => ?_)
    ·exact TieO.run 2 rfl (.call _ rfl rfl rfl (q58 f2.Extra 200 20000) (fun _ => rfl) fun v8 => .run 1 rfl (.nil (.leaf ⟨rfl, .of rfl rfl⟩)))
    ·exact TieO.run 4 rfl (.nil (.leaf ⟨rfl, .of rfl rfl⟩))
    exact TieO.run 1 rfl (.nil (.leaf ⟨rfl, .of rfl rfl⟩))
   exact TieO.run 1 rfl (.nil (.ret ⟨.inl rfl, rfl⟩))
set_option maxRecDepth 100000 in
theorem q178 (s : List SFire) (n2 : Nat) (cs : List (List Tree)) (f2 : SFire → Option Bool) (h2 : ∀ x0, TieF Tryz.prog n2 ([A_SFire x0] ++ cs.map T.el) (f2 x0) (fun r => .t (tB r))) : TieF Tryz.prog 17 [.t (tS q13 s), .fz n2 cs] (q43 s f2) (fun r => .t (tI r)) := by
 refine TieF.intro htab 19 [.tmp 4] Tryz.call17 Tryz.func17 rfl rfl rfl (Nat.le_of_ble_eq_true rfl) fun w0 L => ?_
 refine TieS.seq (.region (.run 1 rfl (.nil (.seq ?_))))
 refine TieS.seq (.region (.run 3 rfl (.nil (.block ?_))))
 refine TieS.loop (fun p => ⟨[(0, .t (tS q13 s)), (1, .fz n2 cs), (7, .t (tI (s.length : Int))), (8, .t (tI p.1))], []⟩) (fun b e σ' => match b with | .inl t => e = .exit 0 ∧ Sub ⟨[], []⟩ σ' | .inr t => e = .ret ∧ retT tab σ' [.tmp 4] = some (((fun r => .t (tI r)) : Int → T) t)) (.of rfl rfl) ?_ ?_
 ·rintro ⟨i, s2⟩
  refine TieS.seq (.region (.run 1 rfl (.nil (.seq ?_))))
  refine TieS.cond rfl ?_ ?_
  ·refine TieS.skip (.seq (TieX.sub (σ' := ⟨[(0, .t (tS q13 s)), (1, .fz n2 cs), (7, .t (tI (s.length : Int))), (8, .t (tI i))], []⟩) (.of rfl rfl) (TieS.bind (Q₁ := fun f e σ' => match f with | .next t => e = .normal ∧ Sub ⟨[(0, .t (tS q13 s)), (1, .fz n2 cs), (7, .t (tI (s.length : Int))), (8, .t (tI i))], []⟩ σ' | .brk t => e = .exit 0 ∧ Sub ⟨[], []⟩ σ' | .ret t => e = .ret ∧ retT tab σ' [.tmp 4] = some (((fun r => .t (tI r)) : Int → T) t)) ?_ ?_)))
   ·refine TieS.block (.seq (.region (.run 2 rfl (.nil ?_))))
    refine TieS.seq (.region (.run 3 rfl (.index rfl rfl rfl rfl rfl rfl rfl rfl (fun _ => rfl) fun x hx => .run 1 rfl ?_)))
    refine TieO.call _ rfl rfl rfl (h2 x) (fun _ => rfl) fun v => .nil (.cond rfl ?_ ?_)
    ·exact TieS.seq (.region (.run 2 rfl (.nil (.ret ⟨rfl, rfl⟩))))
    ·exact TieS.skip (.endb (.leaf ⟨rfl, .of rfl rfl⟩))
   rintro (t | t | t) e σ' _ hq
   ·obtain ⟨rfl, hs⟩ := hq
    exact TieX.sub hs (TieS.region (.run 2 rfl (.nil (.leaf ⟨rfl, .of rfl rfl⟩))))
   ·obtain ⟨rfl, hs⟩ := hq
    exact TieX.exitOut rfl ⟨(fun h => by cases h), rfl, hs⟩
   ·obtain ⟨rfl, hs⟩ := hq
    exact TieX.ret ⟨(fun h => by cases h), rfl, hs⟩
  ·exact TieS.exitOut rfl ⟨(fun h => by cases h), rfl, .of rfl rfl⟩
 rintro (s3 | r2) e σ' _ hq
 ·obtain ⟨rfl, hs⟩ := hq
  refine TieX.exit rfl (TieX.sub hs ?_)
  exact TieS.seq (.region (.run 1 rfl (.nil (.ret ⟨.inl rfl, rfl⟩))))
 ·obtain ⟨rfl, hs⟩ := hq
  exact TieX.ret ⟨.inl rfl, hs⟩
set_option maxRecDepth 100000 in
theorem q87 (s : List SFire) (n2 : Nat) (cs : List (List Tree)) (f2 : SFire → Option Bool) (h2 : ∀ x0, TieF Tryz.prog n2 ([A_SFire x0] ++ cs.map T.el) (f2 x0) (fun r => .t (tB r))) : TieF Tryz.prog 108 [.t (tS q13 s), .fz n2 cs] (q27 s f2) (fun r => .t (tB r)) := by
 refine TieF.intro htab 9 [.tmp 4] Tryz.call108 Tryz.func108 rfl rfl rfl (Nat.le_of_ble_eq_true rfl) fun w0 L => ?_
 refine TieS.seq (.region (.run 1 rfl (.nil (.seq ?_))))
 refine TieS.region (.run 2 rfl (.call _ rfl rfl rfl (q178 s n2 cs f2 h2) (fun _ => rfl) fun v => .run 2 rfl (.nil ?_)))
 exact TieS.ret ⟨.inl rfl, rfl⟩
set_option maxRecDepth 100000 in
theorem q290 (g : SFire) (c : SFire) : TieF Tryz.prog 109 [A_SFire g, .el (q13 c)] (q116 g c) (fun r => .t (tB r)) := by
 refine TieF.intro htab 9 [.tmp 3] Tryz.call109 Tryz.func109 rfl rfl rfl (Nat.le_of_ble_eq_true rfl) fun w0 L => ?_
 refine TieS.seq (.region (.run 2 rfl (.nil (.seq ?_))))
 exact TieS.region (.run 6 rfl (.nil (.ret ⟨.inl rfl, rfl⟩)))
set_option maxRecDepth 100000 in
set_option maxHeartbeats 4000000 in
theorem q237 (e2 : SEngine) (l : List SFire) : TieF Tryz.prog 54 [q44 e2, .t (tS q13 l)] (q142 e2 l) (fun r => .t (tB r)) := by
 refine TieF.intro htab 26 [.tmp 4] Tryz.call54 Tryz.func54 rfl rfl rfl (Nat.le_of_ble_eq_true rfl) fun w0 L => ?_
 refine TieS.seq (.region (.run 2 rfl (.nil (.seq ?_))))
 refine TieS.seq (.region (.run 3 rfl (.nil (.block ?_))))
 refine TieS.loop (fun p => ⟨[(1, .t (tS q13 l)), (2, .ptr 2 0), (7, .t (tS q13 l)), (8, .t (tI (l.length : Int))), (9, .t (tI p.1))], [(2, .box [.t (tS Pv.encI e2.Order), .t (tI e2.First)])]⟩) (fun b e σ' => match b with | .inl t => e = .exit 0 ∧ Sub ⟨[], []⟩ σ' | .inr t => e = .ret ∧ retT tab σ' [.tmp 4] = some (((fun r => .t (tB r)) : Bool → T) t)) (.of rfl rfl) ?_ ?_
 ·rintro ⟨i, s⟩
  refine TieS.seq (.region (.run 1 rfl (.nil (.seq ?_))))
  refine TieS.cond rfl ?_ ?_
  ·refine TieS.skip (.seq (TieX.sub (σ' := ⟨[(1, .t (tS q13 l)), (2, .ptr 2 0), (7, .t (tS q13 l)), (8, .t (tI (l.length : Int))), (9, .t (tI i))], [(2, .box [.t (tS Pv.encI e2.Order), .t (tI e2.First)])]⟩) (.of rfl rfl) (TieS.bind (Q₁ := fun f e σ' => match f with | .next t => e = .normal ∧ Sub ⟨[(1, .t (tS q13 l)), (2, .ptr 2 0), (7, .t (tS q13 l)), (8, .t (tI (l.length : Int))), (9, .t (tI i))], [(2, .box [.t (tS Pv.encI e2.Order), .t (tI e2.First)])]⟩ σ' | .brk t => e = .exit 0 ∧ Sub ⟨[], []⟩ σ' | .ret t => e = .ret ∧ retT tab σ' [.tmp 4] = some (((fun r => .t (tB r)) : Bool → T) t)) ?_ ?_)))
   ·refine TieS.block (.seq (.region (.run 1 rfl (.index rfl rfl rfl rfl rfl rfl rfl rfl (fun _ => rfl) fun x hx => ?_))))
    refine TieO.run 4 rfl (.nil (.seq (.region (.run 2 rfl ?_))))
    refine TieO.call _ rfl rfl rfl (q227 e2 x) (fun _ => rfl) fun v => .run 2 rfl (.frzBox 6 rfl rfl (.bind 6 (fun b2 => ⟨[(1, .t (tS q13 l)), (2, .ptr 2 0), (7, .t (tS q13 l)), (8, .t (tI (l.length : Int))), (9, .t (tI i)), (24, .t (tB b2))], [(2, .box [.t (tS Pv.encI e2.Order), .t (tI e2.First)])]⟩) (TieO.split 18 rfl ?_ ?_) fun b2 _ => ?_))
    ·exact TieO.run 6 rfl (.nil (.leaf ⟨rfl, .of rfl rfl⟩))
    ·refine TieO.run 2 rfl (.sliceF rfl rfl rfl rfl rfl rfl rfl (fun _ => rfl) rfl rfl fun l2 hl2 => .run 1 rfl (.sub (σ' := ⟨[(1, .t (tS q13 l)), (2, .ptr 2 0), (5, .t (tI i)), (6, .el (q13 x)), (7, .t (tS q13 l)), (8, .t (tI (l.length : Int))), (9, .t (tI i)), (11, .t (tI i)), (12, .el (q13 x)), (13, .agg [.t (tI x.Cylinder), .t (tI x.Spark), .t (tI x.Dwell), .t (tI x.End), .t (tI x.Inject), .t (tI x.Gap), .t (tI x.Extra)]), (14, .agg [.t (tS Pv.encI e2.Order), .t (tI e2.First)]), (15, .agg [.t (tI x.Cylinder), .t (tI x.Spark), .t (tI x.Dwell), .t (tI x.End), .t (tI x.Inject), .t (tI x.Gap), .t (tI x.Extra)]), (16, .t (tB v)), (17, .t (tB (!v))), (18, .t (tB false)), (19, .t (tS q13 l)), (20, .t (tI i)), (21, .t (tS q13 l2)), (22, .fz 109 [q13 x])], [(2, .box [.t (tS Pv.encI e2.Order), .t (tI e2.First)])]⟩) (.of rfl rfl) (.call _ rfl rfl rfl (q87 l2 109 [q13 x] (fun x0 => q116 x0 x) (fun x0 => q290 x0 x)) (fun _ => rfl) fun v2 => ?_)))
     exact TieO.run 1 rfl (.nil (.leaf ⟨rfl, .of rfl rfl⟩))
    refine TieO.nil (.cond rfl ?_ ?_)
    ·exact TieS.seq (.region (.run 1 rfl (.nil (.ret ⟨rfl, rfl⟩))))
    ·exact TieS.skip (.endb (.leaf ⟨rfl, .of rfl rfl⟩))
   rintro (t | t | t) e σ' _ hq
   ·obtain ⟨rfl, hs⟩ := hq
    exact TieX.sub hs (TieS.region (.run 2 rfl (.nil (.leaf ⟨rfl, .of rfl rfl⟩))))
   ·obtain ⟨rfl, hs⟩ := hq
    exact TieX.exitOut rfl ⟨(fun h => by cases h), rfl, hs⟩
   ·obtain ⟨rfl, hs⟩ := hq
    exact TieX.ret ⟨(fun h => by cases h), rfl, hs⟩
  ·exact TieS.exitOut rfl ⟨(fun h => by cases h), rfl, .of rfl rfl⟩
 rintro (s2 | r2) e σ' _ hq
 ·obtain ⟨rfl, hs⟩ := hq
  refine TieX.exit rfl (TieX.sub hs ?_)
  exact TieS.seq (.region (.run 1 rfl (.nil (.ret ⟨.inl rfl, rfl⟩))))
 ·obtain ⟨rfl, hs⟩ := hq
  exact TieX.ret ⟨.inl rfl, hs⟩
set_option maxRecDepth 100000 in
theorem q121 (s : List SJob) (n2 : Nat) (cs : List (List Tree)) (f2 : SJob → Option Bool) (h2 : ∀ x0, TieF Tryz.prog n2 ([A_SJob x0] ++ cs.map T.el) (f2 x0) (fun r => .t (tB r))) : TieF Tryz.prog 80 [.t (tS q14 s), .fz n2 cs] (q24 s f2) (fun r => .t (tI r)) := by
 refine TieF.intro htab 19 [.tmp 4] Tryz.call80 Tryz.func80 rfl rfl rfl (Nat.le_of_ble_eq_true rfl) fun w0 L => ?_
 refine TieS.seq (.region (.run 1 rfl (.nil (.seq ?_))))
 refine TieS.seq (.region (.run 3 rfl (.nil (.block ?_))))
 refine TieS.loop (fun p => ⟨[(0, .t (tS q14 s)), (1, .fz n2 cs), (7, .t (tI (s.length : Int))), (8, .t (tI p.1))], []⟩) (fun b e σ' => match b with | .inl t => e = .exit 0 ∧ Sub ⟨[], []⟩ σ' | .inr t => e = .ret ∧ retT tab σ' [.tmp 4] = some (((fun r => .t (tI r)) : Int → T) t)) (.of rfl rfl) ?_ ?_
 ·rintro ⟨i, s2⟩
  refine TieS.seq (.region (.run 1 rfl (.nil (.seq ?_))))
  refine TieS.cond rfl ?_ ?_
  ·refine TieS.skip (.seq (TieX.sub (σ' := ⟨[(0, .t (tS q14 s)), (1, .fz n2 cs), (7, .t (tI (s.length : Int))), (8, .t (tI i))], []⟩) (.of rfl rfl) (TieS.bind (Q₁ := fun f e σ' => match f with | .next t => e = .normal ∧ Sub ⟨[(0, .t (tS q14 s)), (1, .fz n2 cs), (7, .t (tI (s.length : Int))), (8, .t (tI i))], []⟩ σ' | .brk t => e = .exit 0 ∧ Sub ⟨[], []⟩ σ' | .ret t => e = .ret ∧ retT tab σ' [.tmp 4] = some (((fun r => .t (tI r)) : Int → T) t)) ?_ ?_)))
   ·refine TieS.block (.seq (.region (.run 2 rfl (.nil ?_))))
    refine TieS.seq (.region (.run 3 rfl (.index rfl rfl rfl rfl rfl rfl rfl rfl (fun _ => rfl) fun x hx => .run 1 rfl ?_)))
    refine TieO.call _ rfl rfl rfl (h2 x) (fun _ => rfl) fun v => .nil (.cond rfl ?_ ?_)
    ·exact TieS.seq (.region (.run 2 rfl (.nil (.ret ⟨rfl, rfl⟩))))
    ·exact TieS.skip (.endb (.leaf ⟨rfl, .of rfl rfl⟩))
   rintro (t | t | t) e σ' _ hq
   ·obtain ⟨rfl, hs⟩ := hq
    exact TieX.sub hs (TieS.region (.run 2 rfl (.nil (.leaf ⟨rfl, .of rfl rfl⟩))))
   ·obtain ⟨rfl, hs⟩ := hq
    exact TieX.exitOut rfl ⟨(fun h => by cases h), rfl, hs⟩
   ·obtain ⟨rfl, hs⟩ := hq
    exact TieX.ret ⟨(fun h => by cases h), rfl, hs⟩
  ·exact TieS.exitOut rfl ⟨(fun h => by cases h), rfl, .of rfl rfl⟩
 rintro (s3 | r2) e σ' _ hq
 ·obtain ⟨rfl, hs⟩ := hq
  refine TieX.exit rfl (TieX.sub hs ?_)
  exact TieS.seq (.region (.run 1 rfl (.nil (.ret ⟨.inl rfl, rfl⟩))))
 ·obtain ⟨rfl, hs⟩ := hq
  exact TieX.ret ⟨.inl rfl, hs⟩
set_option maxRecDepth 100000 in
theorem q243 (s : List SJob) (n2 : Nat) (cs : List (List Tree)) (f2 : SJob → Option Bool) (h2 : ∀ x0, TieF Tryz.prog n2 ([A_SJob x0] ++ cs.map T.el) (f2 x0) (fun r => .t (tB r))) : TieF Tryz.prog 55 [.t (tS q14 s), .fz n2 cs] (q81 s f2) (fun r => .t (tB r)) := by
 refine TieF.intro htab 9 [.tmp 4] Tryz.call55 Tryz.func55 rfl rfl rfl (Nat.le_of_ble_eq_true rfl) fun w0 L => ?_
 refine TieS.seq (.region (.run 1 rfl (.nil (.seq ?_))))
 refine TieS.region (.run 2 rfl (.call _ rfl rfl rfl (q121 s n2 cs f2 h2) (fun _ => rfl) fun v => .run 2 rfl (.nil ?_)))
 exact TieS.ret ⟨.inl rfl, rfl⟩
abbrev x57_0 (j : SJob) : List T := [.t (tI j.Event.Angle), .t (tI j.Event.Kind), .t (tI j.Event.Cylinder), .t (tI j.Event.Pulse), .t (tI j.Left), .t (tB j.Armed), .t (tI j.At)]
abbrev x57_1 (j : SJob) : List T := [.t (tI j.Event.Angle), .t (tI j.Event.Kind), .t (tI j.Event.Cylinder), .t (tI j.Event.Pulse)]
set_option maxRecDepth 100000 in
set_option maxHeartbeats 4000000 in
theorem q345 (s : SScheduler) (j : SJob) : TieF Tryz.prog 57 [q26 s, A_SJob j] (q215 s j) (fun r => .t (tB r)) := by
 refine TieF.intro htab 69 [.tmp 4] Tryz.call57 Tryz.func57 rfl rfl rfl (Nat.le_of_ble_eq_true rfl) fun w0 L => ?_
 refine TieS.seq (.region (.run 3 rfl (.nil (.seq ?_))))
 refine TieS.region (.run 4 rfl (.nil (.seq (.region ?_))))
 refine TieO.run 4 rfl (.selAnd (v := decide (j.Event.Cylinder ≤ (s.Engine.Order.length : Int))) 8 11 (fun b => ⟨[(3, .ptr 3 0), (5, .ptr 5 0), (19, .t (tB b))], [(3, .box (x57_0 j)), (5, .box (x57_1 j))]⟩) rfl ?_ ?_ ?_)
 ·exact TieO.run 8 rfl (.nil (.leaf ⟨rfl, .of rfl rfl⟩))
 ·exact TieO.run 8 rfl (.nil (.leaf ⟨rfl, .of rfl rfl⟩))
 refine TieO.run 1 rfl (.selAnd (v := decide (j.Event.Kind ≥ 1)) 4 20 (fun b => ⟨[(3, .ptr 3 0), (5, .ptr 5 0), (24, .t (tB b))], [(3, .box (x57_0 j)), (5, .box (x57_1 j))]⟩) rfl ?_ ?_ ?_)
 ·exact TieO.run 4 rfl (.nil (.leaf ⟨rfl, .of rfl rfl⟩))
 ·exact TieO.run 4 rfl (.nil (.leaf ⟨rfl, .of rfl rfl⟩))
 refine TieO.run 1 rfl (.selAnd (v := decide (j.Event.Kind ≤ 4)) 4 25 (fun b => ⟨[(3, .ptr 3 0), (5, .ptr 5 0), (29, .t (tB b))], [(3, .box (x57_0 j)), (5, .box (x57_1 j))]⟩) rfl ?_ ?_ ?_)
 ·exact TieO.run 4 rfl (.nil (.leaf ⟨rfl, .of rfl rfl⟩))
 ·exact TieO.run 4 rfl (.nil (.leaf ⟨rfl, .of rfl rfl⟩))
 refine TieO.run 1 rfl (.selAnd (v := decide (j.Event.Angle ≥ 0)) 4 30 (fun b => ⟨[(3, .ptr 3 0), (5, .ptr 5 0), (34, .t (tB b))], [(3, .box (x57_0 j)), (5, .box (x57_1 j))]⟩) rfl ?_ ?_ ?_)
 ·exact TieO.run 4 rfl (.nil (.leaf ⟨rfl, .of rfl rfl⟩))
 ·exact TieO.run 4 rfl (.nil (.leaf ⟨rfl, .of rfl rfl⟩))
 refine TieO.run 1 rfl (.selAnd (v := decide (j.Event.Angle < 46080)) 4 35 (fun b => ⟨[(3, .ptr 3 0), (5, .ptr 5 0), (39, .t (tB b))], [(3, .box (x57_0 j)), (5, .box (x57_1 j))]⟩) rfl ?_ ?_ ?_)
 ·exact TieO.run 4 rfl (.nil (.leaf ⟨rfl, .of rfl rfl⟩))
 ·exact TieO.run 4 rfl (.nil (.leaf ⟨rfl, .of rfl rfl⟩))
 refine TieO.run 1 rfl (.selAnd (v := decide (j.Event.Pulse ≥ 0)) 4 40 (fun b => ⟨[(3, .ptr 3 0), (5, .ptr 5 0), (44, .t (tB b))], [(3, .box (x57_0 j)), (5, .box (x57_1 j))]⟩) rfl ?_ ?_ ?_)
 ·exact TieO.run 4 rfl (.nil (.leaf ⟨rfl, .of rfl rfl⟩))
 ·exact TieO.run 4 rfl (.nil (.leaf ⟨rfl, .of rfl rfl⟩))
 refine TieO.run 1 rfl (.selAnd (v := decide (j.Event.Pulse ≤ 2)) 4 45 (fun b => ⟨[(3, .ptr 3 0), (49, .t (tB b))], [(3, .box (x57_0 j))]⟩) rfl ?_ ?_ ?_)
 ·exact TieO.run 4 rfl (.nil (.leaf ⟨rfl, .of rfl rfl⟩))
 ·exact TieO.run 4 rfl (.nil (.leaf ⟨rfl, .of rfl rfl⟩))
 refine TieO.run 1 rfl (.selAnd (v := decide (j.Left ≥ (-1048576))) 4 50 (fun b => ⟨[(3, .ptr 3 0), (54, .t (tB b))], [(3, .box (x57_0 j))]⟩) rfl ?_ ?_ ?_)
 ·exact TieO.run 4 rfl (.nil (.leaf ⟨rfl, .of rfl rfl⟩))
 ·exact TieO.run 4 rfl (.nil (.leaf ⟨rfl, .of rfl rfl⟩))
 refine TieO.run 1 rfl (.selAnd (v := decide (j.Left ≤ 1048576)) 4 55 (fun b => ⟨[(3, .ptr 3 0), (59, .t (tB b))], [(3, .box (x57_0 j))]⟩) rfl ?_ ?_ ?_)
 ·exact TieO.run 4 rfl (.nil (.leaf ⟨rfl, .of rfl rfl⟩))
 ·exact TieO.run 4 rfl (.nil (.leaf ⟨rfl, .of rfl rfl⟩))
 refine TieO.run 1 rfl (.bind 8 (fun b2 => ⟨[(68, .t (tB b2))], []⟩) (TieO.split 60 rfl ?_ ?_) fun b2 _ => ?_)
 ·refine TieO.run 3 rfl (.selOr (v := (j.At == 0)) 4 63 (fun b => ⟨[(60, .t (tB true)), (67, .t (tB b))], []⟩) rfl ?_ ?_ ?_)
  ·exact TieO.run 4 rfl (.nil (.leaf ⟨rfl, .of rfl rfl⟩))
  ·exact TieO.run 4 rfl (.nil (.leaf ⟨rfl, .of rfl rfl⟩))
  exact TieO.run 1 rfl (.nil (.leaf ⟨rfl, .of rfl rfl⟩))
 ·exact TieO.run 8 rfl (.nil (.leaf ⟨rfl, .of rfl rfl⟩))
 exact TieO.run 1 rfl (.nil (.ret ⟨.inl rfl, rfl⟩))
set_option maxRecDepth 100000 in
theorem q288 (j : SJob) (c : SScheduler) : TieF Tryz.prog 56 [A_SJob j, .el (q42 c)] (q82 j c) (fun r => .t (tB r)) := by
 refine TieF.intro htab 8 [.tmp 3] Tryz.call56 Tryz.func56 rfl rfl rfl (Nat.le_of_ble_eq_true rfl) fun w0 L => ?_
 refine TieS.seq (.region (.run 2 rfl (.nil (.seq ?_))))
 refine TieS.region (.run 2 rfl (.call _ rfl rfl rfl (q345 c j) (fun _ => rfl) fun v => .run 2 rfl (.nil ?_)))
 exact TieS.ret ⟨.inl rfl, rfl⟩
set_option maxRecDepth 100000 in
theorem q57 (x : SEvent) : TieF Tryz.prog 65 [q219 x] (q31 x) (fun r => .t (tI r)) := by
 refine TieF.intro htab 19 [.tmp 2] Tryz.call65 Tryz.func65 rfl rfl rfl (Nat.le_of_ble_eq_true rfl) fun w0 L => ?_
 refine TieS.seq (.region (.run 2 rfl (.nil (.seq ?_))))
 refine TieS.region (.run 5 rfl (.nil (.seq (.seq ?_))))
 refine TieS.region (.run 4 rfl (.selOr (v := (x.Kind == 4)) 4 11 (fun b => ⟨[(3, .t (tI (w64 (2 * (w64 (x.Cylinder - 1)))))), (15, .t (tB b))], []⟩) rfl ?_ ?_ ?_))
 ·exact TieO.run 4 rfl (.nil (.leaf ⟨rfl, .of rfl rfl⟩))
 ·exact TieO.run 4 rfl (.nil (.leaf ⟨rfl, .of rfl rfl⟩))
 refine TieO.nil (.cond rfl ?_ ?_)
 ·refine TieS.region (.run 3 rfl (.nil (.seq (.region ?_))))
  exact TieO.run 2 rfl (.nil (.ret ⟨.inl rfl, rfl⟩))
 ·refine TieS.skip (.seq (.region (.run 2 rfl (.nil ?_))))
  exact TieS.ret ⟨.inl rfl, rfl⟩
set_option maxRecDepth 100000 in
theorem q40 (kind : Int) : TieF Tryz.prog 96 [.t (tI kind)] (q185 kind) (fun r => .t (tB r)) := by
 refine TieF.intro htab 9 [.tmp 2] Tryz.call96 Tryz.func96 rfl rfl rfl (Nat.le_of_ble_eq_true rfl) fun w0 L => ?_
 refine TieS.seq (.region (.run 1 rfl (.nil (.seq ?_))))
 refine TieS.region (.run 3 rfl (.selOr (v := (kind == 3)) 3 5 (fun b => ⟨[(8, .t (tB b))], []⟩) rfl ?_ ?_ ?_))
 ·exact TieO.run 3 rfl (.nil (.leaf ⟨rfl, .of rfl rfl⟩))
 ·exact TieO.run 3 rfl (.nil (.leaf ⟨rfl, .of rfl rfl⟩))
 exact TieO.run 1 rfl (.nil (.ret ⟨.inl rfl, rfl⟩))
abbrev x58_0 (x2 : SJob) : List T := [.t (tI x2.Event.Angle), .t (tI x2.Event.Kind), .t (tI x2.Event.Cylinder), .t (tI x2.Event.Pulse), .t (tI x2.Left), .t (tB x2.Armed), .t (tI x2.At)]
abbrev x58_1 (x : SChannel) : List T := [.t (tB x.Armed), .t (tI x.At), .t (tB x.Next), .t (tB x.Level)]
set_option maxRecDepth 100000 in
set_option maxHeartbeats 4000000 in
theorem q344 (s : SScheduler) (c : Int) : TieF Tryz.prog 58 [q26 s, .t (tI c)] (q198 s c) (fun r => .t (tB r)) := by
 refine TieF.intro htab 100 [.tmp 4] Tryz.call58 Tryz.func58 rfl rfl rfl (Nat.le_of_ble_eq_true rfl) fun w0 L => ?_
 refine TieS.seq (.region (.run 2 rfl (.nil (.seq ?_))))
 refine TieS.region (.run 4 rfl (.index rfl rfl rfl rfl rfl rfl rfl rfl (fun _ => rfl) fun x hx => .run 3 rfl (.nil ?_)))
 refine TieS.seq (.region (.run 4 rfl (.nil (.seq ?_))))
 refine TieS.seq (.region (.run 4 rfl (.nil (.block ?_))))
 refine TieS.loop (fun p => ⟨[(1, .t (tI c)), (2, .ptr 2 0), (5, .ptr 5 0), (6, .t (tB p.2.1)), (7, .t (tB p.2.2)), (19, .t (tS q14 s.Jobs)), (20, .t (tI (s.Jobs.length : Int))), (21, .t (tI p.1))], [(2, .box (q10 s)), (5, .box (x58_1 x))]⟩) (fun b e σ' => match b with | .inl t => e = .exit 0 ∧ Sub ⟨[(5, .ptr 5 0), (6, .t (tB t.1)), (7, .t (tB t.2))], [(5, .box (x58_1 x))]⟩ σ' | .inr t => e = .ret ∧ retT tab σ' [.tmp 4] = some (((fun r => .t (tB r)) : Bool → T) t)) (.of rfl rfl) ?_ ?_
 ·rintro ⟨i, s2⟩
  refine TieS.seq (.region (.run 1 rfl (.nil (.seq ?_))))
  refine TieS.cond rfl ?_ ?_
  ·refine TieS.skip (.seq (TieX.pre fun x2 hx2 => TieX.sub (σ' := ⟨[(1, .t (tI c)), (2, .ptr 2 0), (5, .ptr 5 0), (6, .t (tB s2.1)), (7, .t (tB s2.2)), (19, .t (tS q14 s.Jobs)), (20, .t (tI (s.Jobs.length : Int))), (21, .t (tI i))], [(2, .box (q10 s)), (5, .box (x58_1 x))]⟩) (.of rfl rfl) (TieS.bind (Q₁ := fun f e σ' => match f with | .next t => e = .normal ∧ Sub ⟨[(1, .t (tI c)), (2, .ptr 2 0), (5, .ptr 5 0), (6, .t (tB t.1)), (7, .t (tB t.2)), (19, .t (tS q14 s.Jobs)), (20, .t (tI (s.Jobs.length : Int))), (21, .t (tI i))], [(2, .box (q10 s)), (5, .box (x58_1 x))]⟩ σ' | .brk t => e = .exit 0 ∧ Sub ⟨[(5, .ptr 5 0), (6, .t (tB t.1)), (7, .t (tB t.2))], [(5, .box (x58_1 x))]⟩ σ' | .ret t => e = .ret ∧ retT tab σ' [.tmp 4] = some (((fun r => .t (tB r)) : Bool → T) t)) ?_ ?_)))
   ·refine TieS.block (.seq (.region (.indexH hx2 rfl rfl rfl rfl rfl rfl rfl rfl (fun _ => rfl) (.run 3 rfl ?_))))
    refine TieO.nil (.seq (.seq (.region (.run 2 rfl ?_))))
    refine TieO.call _ rfl rfl rfl (q57 x2.Event) (fun _ => rfl) fun v => .run 2 rfl (.nil (.cond rfl ?_ ?_))
    ·exact TieS.exit rfl (.leaf ⟨rfl, .of rfl rfl⟩)
    ·refine TieS.skip (.seq (.seq (.region (.run 3 rfl ?_))))
     refine TieO.call _ rfl rfl rfl (q40 x2.Event.Kind) (fun _ => rfl) fun v2 => .run 2 rfl (.nil (.cond rfl ?_ ?_))
     ·exact TieS.seq (.region (.run 1 rfl (.nil (.ret ⟨rfl, rfl⟩))))
     ·refine TieS.skip (.seq (.region (.run 3 rfl (.nil ?_))))
      refine TieS.seq (.seq (.region (.run 1 rfl (.nil ?_))))
      refine TieS.bind (Q₁ := fun t e σ' => match t with | .inl t => e = .normal ∧ Sub ⟨[(1, .t (tI c)), (2, .ptr 2 0), (5, .ptr 5 0), (6, .t (tB (!s2.1))), (9, .ptr 9 0), (19, .t (tS q14 s.Jobs)), (20, .t (tI (s.Jobs.length : Int))), (21, .t (tI i))], [(2, .box (q10 s)), (5, .box (x58_1 x)), (9, .box (x58_0 x2))]⟩ σ' | .inr t => e = .ret ∧ retT tab σ' [.tmp 4] = some (((fun r => .t (tB r)) : Bool → T) t)) ?_ ?_
      ·refine TieS.cond rfl ?_ ?_
       ·refine TieS.seq (.region (.run 6 rfl (.bind 16 (fun b3 => ⟨[(1, .t (tI c)), (2, .ptr 2 0), (5, .ptr 5 0), (6, .t (tB (!s2.1))), (9, .ptr 9 0), (19, .t (tS q14 s.Jobs)), (20, .t (tI (s.Jobs.length : Int))), (21, .t (tI i)), (60, .t (tB b3))], [(2, .box (q10 s)), (5, .box (x58_1 x)), (9, .box (x58_0 x2))]⟩) (TieO.split 44 rfl ?_ ?_) fun b3 _ => ?_)))
        ·exact TieO.run 16 rfl (.nil (.leaf ⟨rfl, .of rfl rfl⟩))
        ·refine TieO.run 3 rfl (.bind 12 (fun b2 => ⟨[(1, .t (tI c)), (2, .ptr 2 0), (5, .ptr 5 0), (6, .t (tB (!s2.1))), (9, .ptr 9 0), (19, .t (tS q14 s.Jobs)), (20, .t (tI (s.Jobs.length : Int))), (21, .t (tI i)), (44, .t (tB false)), (59, .t (tB b2))], [(2, .box (q10 s)), (5, .box (x58_1 x)), (9, .box (x58_0 x2))]⟩) (TieO.split 47 rfl ?_ ?_) fun b2 _ => ?_)
         ·refine TieO.run 6 rfl (.selOr (v := (!(x.Next == (!s2.1)))) 5 53 (fun b => ⟨[(1, .t (tI c)), (2, .ptr 2 0), (5, .ptr 5 0), (6, .t (tB (!s2.1))), (9, .ptr 9 0), (19, .t (tS q14 s.Jobs)), (20, .t (tI (s.Jobs.length : Int))), (21, .t (tI i)), (44, .t (tB false)), (47, .t (tB true)), (58, .t (tB b))], [(2, .box (q10 s)), (5, .box (x58_1 x)), (9, .box (x58_0 x2))]⟩) rfl ?_ ?_ ?_)
          ·exact TieO.run 5 rfl (.nil (.leaf ⟨rfl, .of rfl rfl⟩))
          ·exact TieO.run 5 rfl (.nil (.leaf ⟨rfl, .of rfl rfl⟩))
          exact TieO.run 1 rfl (.nil (.leaf ⟨rfl, .of rfl rfl⟩))
         ·exact TieO.run 12 rfl (.nil (.leaf ⟨rfl, .of rfl rfl⟩))
         exact TieO.run 1 rfl (.nil (.leaf ⟨rfl, .of rfl rfl⟩))
        refine TieO.nil (.cond rfl ?_ ?_)
        ·exact TieS.seq (.region (.run 1 rfl (.nil (.ret ⟨rfl, rfl⟩))))
        ·exact TieS.skip (.leaf ⟨rfl, .of rfl rfl⟩)
       ·refine TieS.seq (.region (.run 3 rfl (.selOr (v := s.Cut) 3 63 (fun b => ⟨[(1, .t (tI c)), (2, .ptr 2 0), (5, .ptr 5 0), (6, .t (tB (!s2.1))), (9, .ptr 9 0), (19, .t (tS q14 s.Jobs)), (20, .t (tI (s.Jobs.length : Int))), (21, .t (tI i)), (66, .t (tB b))], [(2, .box (q10 s)), (5, .box (x58_1 x)), (9, .box (x58_0 x2))]⟩) rfl ?_ ?_ ?_)))
        ·exact TieO.run 3 rfl (.nil (.leaf ⟨rfl, .of rfl rfl⟩))
        ·exact TieO.run 3 rfl (.nil (.leaf ⟨rfl, .of rfl rfl⟩))
        refine TieO.nil (.cond rfl ?_ ?_)
        ·exact TieS.seq (.region (.run 1 rfl (.nil (.ret ⟨rfl, rfl⟩))))
        ·exact TieS.skip (.leaf ⟨rfl, .of rfl rfl⟩)
      rintro (s3 | r2) e σ' _ hq
      ·obtain ⟨rfl, hs⟩ := hq
       refine TieX.sub hs (TieS.seq (.seq (.region (.run 3 rfl ?_))))
       refine TieO.bind 19 (fun b4 => ⟨[(1, .t (tI c)), (2, .ptr 2 0), (5, .ptr 5 0), (6, .t (tB (!s2.1))), (19, .t (tS q14 s.Jobs)), (20, .t (tI (s.Jobs.length : Int))), (21, .t (tI i)), (88, .t (tB b4))], [(2, .box (q10 s)), (5, .box (x58_1 x))]⟩) (TieO.split 69 rfl ?_ ?_) fun b4 _ => ?_
       ·refine TieO.run 5 rfl (.selOr (v := (!x2.Armed)) 4 74 (fun b => ⟨[(1, .t (tI c)), (2, .ptr 2 0), (5, .ptr 5 0), (6, .t (tB (!s2.1))), (9, .ptr 9 0), (19, .t (tS q14 s.Jobs)), (20, .t (tI (s.Jobs.length : Int))), (21, .t (tI i)), (69, .t (tB true)), (78, .t (tB b))], [(2, .box (q10 s)), (5, .box (x58_1 x)), (9, .box (x58_0 x2))]⟩) rfl ?_ ?_ ?_)
        ·exact TieO.run 4 rfl (.nil (.leaf ⟨rfl, .of rfl rfl⟩))
        ·exact TieO.run 4 rfl (.nil (.leaf ⟨rfl, .of rfl rfl⟩))
        refine TieO.run 1 rfl (.selOr (v := decide (x2.At > (w64 (s.Timer.Now + 5000)))) 8 79 (fun b => ⟨[(1, .t (tI c)), (2, .ptr 2 0), (5, .ptr 5 0), (6, .t (tB (!s2.1))), (19, .t (tS q14 s.Jobs)), (20, .t (tI (s.Jobs.length : Int))), (21, .t (tI i)), (69, .t (tB true)), (87, .t (tB b))], [(2, .box (q10 s)), (5, .box (x58_1 x))]⟩) rfl ?_ ?_ ?_)
        ·exact TieO.run 8 rfl (.nil (.leaf ⟨rfl, .of rfl rfl⟩))
        ·exact TieO.run 8 rfl (.nil (.leaf ⟨rfl, .of rfl rfl⟩))
        exact TieO.run 1 rfl (.nil (.leaf ⟨rfl, .of rfl rfl⟩))
       ·exact TieO.run 19 rfl (.nil (.leaf ⟨rfl, .of rfl rfl⟩))
       refine TieO.nil (.cond rfl ?_ ?_)
       ·exact TieS.seq (.region (.run 1 rfl (.nil (.ret ⟨rfl, rfl⟩))))
       ·refine TieS.skip (.region (.run 1 rfl (.nil (.endb ?_))))
        exact TieS.leaf ⟨rfl, .of rfl rfl⟩
      ·obtain ⟨rfl, hs⟩ := hq
       exact TieX.ret ⟨rfl, hs⟩
   rintro (t | t | t) e σ' _ hq
   ·obtain ⟨rfl, hs⟩ := hq
    exact TieX.sub hs (TieS.region (.run 2 rfl (.nil (.leaf ⟨rfl, .of rfl rfl⟩))))
   ·obtain ⟨rfl, hs⟩ := hq
    exact TieX.exitOut rfl ⟨(fun h => by cases h), rfl, hs⟩
   ·obtain ⟨rfl, hs⟩ := hq
    exact TieX.ret ⟨(fun h => by cases h), rfl, hs⟩
  ·exact TieS.exitOut rfl ⟨(fun h => by cases h), rfl, .of rfl rfl⟩
 rintro (s4 | r3) e σ' _ hq
 ·obtain ⟨rfl, hs⟩ := hq
  refine TieX.exit rfl (TieX.sub hs ?_)
  refine TieS.seq (.region (.run 3 rfl (.bind 7 (fun b5 => ⟨[(99, .t (tB b5))], []⟩) (TieO.split 92 rfl ?_ ?_) fun b5 _ => ?_)))
  ·refine TieO.run 2 rfl (.selAnd (v := x.Armed) 3 94 (fun b => ⟨[(92, .t (tB true)), (97, .t (tB b))], []⟩) rfl ?_ ?_ ?_)
   ·exact TieO.run 3 rfl (.nil (.leaf ⟨rfl, .of rfl rfl⟩))
   ·exact TieO.run 3 rfl (.nil (.leaf ⟨rfl, .of rfl rfl⟩))
   exact TieO.run 2 rfl (.nil (.leaf ⟨rfl, .of rfl rfl⟩))
  ·exact TieO.run 7 rfl (.nil (.leaf ⟨rfl, .of rfl rfl⟩))
  exact TieO.run 1 rfl (.nil (.ret ⟨.inl rfl, rfl⟩))
 ·obtain ⟨rfl, hs⟩ := hq
  exact TieX.ret ⟨.inl rfl, hs⟩
set_option maxRecDepth 100000 in
set_option maxHeartbeats 4000000 in
theorem q63 (s : SScheduler) : TieF Tryz.prog 14 [q26 s] (q35 s) (fun r => .t (tB r)) := by
 refine TieF.intro htab 74 [.tmp 2] Tryz.call14 Tryz.func14 rfl rfl rfl (Nat.le_of_ble_eq_true rfl) fun w0 L => ?_
 refine TieS.seq (.region (.run 2 rfl (.nil (.seq ?_))))
 refine TieS.seq (.region (.run 2 rfl (.call _ rfl rfl rfl (q69 s.Engine) (fun _ => rfl) fun v => .run 2 rfl ?_)))
 refine TieO.bind 5 (fun b2 => ⟨[(1, .ptr 1 0), (13, .t (tB b2))], [(1, .box (q10 s))]⟩) (TieO.split 8 rfl ?_ ?_) fun b2 _ => ?_
 ·exact TieO.run 5 rfl (.nil (.leaf ⟨rfl, .of rfl rfl⟩))
 ·exact TieO.run 2 rfl (.call _ rfl rfl rfl (q228 s.Clock) (fun _ => rfl) fun v2 => .run 2 rfl (.nil (.leaf ⟨rfl, .of rfl rfl⟩)))
 refine TieO.run 1 rfl (.bind 5 (fun b3 => ⟨[(1, .ptr 1 0), (19, .t (tB b3))], [(1, .box (q10 s))]⟩) (TieO.split 14 rfl ?_ ?_) fun b3 _ => ?_)
 ·exact TieO.run 5 rfl (.nil (.leaf ⟨rfl, .of rfl rfl⟩))
 ·exact TieO.run 2 rfl (.call _ rfl rfl rfl (q234 s.Timer) (fun _ => rfl) fun v3 => .run 2 rfl (.nil (.leaf ⟨rfl, .of rfl rfl⟩)))
 refine TieO.run 1 rfl (.selOr (v := ((s.Timer.Channels.length : Int) != (w64 (2 * (s.Engine.Order.length : Int))))) 11 20 (fun b => ⟨[(1, .ptr 1 0), (31, .t (tB b))], [(1, .box (q10 s))]⟩) rfl ?_ ?_ ?_)
 ·exact TieO.run 11 rfl (.nil (.leaf ⟨rfl, .of rfl rfl⟩))
 ·exact TieO.run 11 rfl (.nil (.leaf ⟨rfl, .of rfl rfl⟩))
 refine TieO.run 1 rfl (.bind 7 (fun b4 => ⟨[(1, .ptr 1 0), (39, .t (tB b4))], [(1, .box (q10 s))]⟩) (TieO.split 32 rfl ?_ ?_) fun b4 _ => ?_)
 ·exact TieO.run 7 rfl (.nil (.leaf ⟨rfl, .of rfl rfl⟩))
 ·exact TieO.run 4 rfl (.call _ rfl rfl rfl (q237 s.Engine s.Next) (fun _ => rfl) fun v4 => .run 2 rfl (.nil (.leaf ⟨rfl, .of rfl rfl⟩)))
 refine TieO.nil (.cond rfl ?_ ?_)
 ·exact TieS.seq (.region (.run 1 rfl (.nil (.ret ⟨.inl rfl, rfl⟩))))
 ·refine TieS.skip (.seq (.seq (.region (.run 5 rfl ?_))))
  refine TieO.bind 11 (fun b5 => ⟨[(1, .ptr 1 0), (55, .t (tB b5))], [(1, .box (q10 s))]⟩) (TieO.split 44 rfl ?_ ?_) fun b5 _ => ?_
  ·exact TieO.run 11 rfl (.nil (.leaf ⟨rfl, .of rfl rfl⟩))
  ·refine TieO.run 5 rfl (.selAnd (v := decide ((s.Jobs.length : Int) > 0)) 5 49 (fun b => ⟨[(1, .ptr 1 0), (44, .t (tB false)), (54, .t (tB b))], [(1, .box (q10 s))]⟩) rfl ?_ ?_ ?_)
   ·exact TieO.run 5 rfl (.nil (.leaf ⟨rfl, .of rfl rfl⟩))
   ·exact TieO.run 5 rfl (.nil (.leaf ⟨rfl, .of rfl rfl⟩))
   exact TieO.run 1 rfl (.nil (.leaf ⟨rfl, .of rfl rfl⟩))
  refine TieO.run 1 rfl (.frzBox 1 rfl rfl (.bind 5 (fun b6 => ⟨[(1, .el (q42 s)), (61, .t (tB b6))], []⟩) (TieO.split 56 rfl ?_ ?_) fun b6 _ => ?_))
  ·exact TieO.run 5 rfl (.nil (.leaf ⟨rfl, .of rfl rfl⟩))
  ·refine TieO.run 2 rfl (.run 1 rfl (.sub (σ' := ⟨[(1, .el (q42 s)), (55, .t (tB b5)), (56, .t (tB false)), (57, .el (List.drop 11 (q42 s))), (58, .t (tS q14 s.Jobs)), (59, .fz 56 [q42 s])], []⟩) (.of rfl rfl) (.call _ rfl rfl rfl (q243 s.Jobs 56 [q42 s] (fun x0 => q82 x0 s) (fun x0 => q288 x0 s)) (fun _ => rfl) fun v5 => .run 1 rfl ?_)))
   exact TieO.nil (.leaf ⟨rfl, .of rfl rfl⟩)
  refine TieO.nil (.cond rfl ?_ ?_)
  ·exact TieS.seq (.region (.run 1 rfl (.nil (.ret ⟨.inl rfl, rfl⟩))))
  ·refine TieS.skip (.seq (.seq (.region (.run 5 rfl ?_))))
   refine TieO.nil (.block (.loop (fun p => ⟨[(1, .el (q42 s)), (65, .t (tI (s.Timer.Channels.length : Int))), (66, .t (tI p.1))], []⟩) (fun b e σ' => match b with | .inl t => e = .exit 0 ∧ Sub ⟨[], []⟩ σ' | .inr t => e = .ret ∧ retT tab σ' [.tmp 2] = some (((fun r => .t (tB r)) : Bool → T) t)) (.of rfl rfl) ?_ ?_))
   ·rintro ⟨i, s2⟩
    refine TieS.seq (.region (.run 1 rfl (.nil (.seq ?_))))
    refine TieS.cond rfl ?_ ?_
    ·refine TieS.skip (.seq (TieX.sub (σ' := ⟨[(1, .el (q42 s)), (65, .t (tI (s.Timer.Channels.length : Int))), (66, .t (tI i))], []⟩) (.of rfl rfl) (TieS.bind (Q₁ := fun f e σ' => match f with | .next t => e = .normal ∧ Sub ⟨[(1, .el (q42 s)), (65, .t (tI (s.Timer.Channels.length : Int))), (66, .t (tI i))], []⟩ σ' | .brk t => e = .exit 0 ∧ Sub ⟨[], []⟩ σ' | .ret t => e = .ret ∧ retT tab σ' [.tmp 2] = some (((fun r => .t (tB r)) : Bool → T) t)) ?_ ?_)))
     ·refine TieS.block (.seq (.region (.run 2 rfl (.nil ?_))))
      refine TieS.seq (.region (.run 2 rfl (.call _ rfl rfl rfl (q344 s i) (fun _ => rfl) fun v6 => .run 1 rfl ?_)))
      refine TieO.nil (.cond rfl ?_ ?_)
      ·exact TieS.seq (.region (.run 1 rfl (.nil (.ret ⟨rfl, rfl⟩))))
      ·exact TieS.skip (.endb (.leaf ⟨rfl, .of rfl rfl⟩))
     rintro (t | t | t) e σ' _ hq
     ·obtain ⟨rfl, hs⟩ := hq
      exact TieX.sub hs (TieS.region (.run 2 rfl (.nil (.leaf ⟨rfl, .of rfl rfl⟩))))
     ·obtain ⟨rfl, hs⟩ := hq
      exact TieX.exitOut rfl ⟨(fun h => by cases h), rfl, hs⟩
     ·obtain ⟨rfl, hs⟩ := hq
      exact TieX.ret ⟨(fun h => by cases h), rfl, hs⟩
    ·exact TieS.exitOut rfl ⟨(fun h => by cases h), rfl, .of rfl rfl⟩
   rintro (s3 | r2) e σ' _ hq
   ·obtain ⟨rfl, hs⟩ := hq
    refine TieX.exit rfl (TieX.sub hs ?_)
    exact TieS.seq (.region (.run 1 rfl (.nil (.ret ⟨.inl rfl, rfl⟩))))
   ·obtain ⟨rfl, hs⟩ := hq
    exact TieX.ret ⟨.inl rfl, hs⟩
set_option maxRecDepth 100000 in
theorem q212 (s : List SFire) : TieF Tryz.prog 74 [.t (tS q13 s)] (q99 s) (fun r => .t (tS q13 r)) := by
 refine TieF.intro htab 8 [.tmp 2] Tryz.call74 Tryz.func74 rfl rfl rfl (Nat.le_of_ble_eq_true rfl) fun w0 L => ?_
 refine TieS.seq (.region (.run 1 rfl (.nil (.seq ?_))))
 refine TieS.seq (.region (.run 1 rfl (.isNil rfl rfl rfl rfl rfl rfl fun b2 hb2 => .nil ?_)))
 refine TieS.condB rfl (fun hb1 => ?_) (fun _ => ?_)
 ·refine TieX.model (m' := some ([] : List SFire)) (by rw [hb2 hb1]; rfl) (TieS.seq (.region (.run 1 rfl (.nil ?_))))
  exact TieS.ret ⟨.inl rfl, rfl⟩
 ·refine TieS.skip (.seq (.region (.run 2 rfl (.appendY (id := 5) (e' := 0) (l := ([] : List SFire)) (r := s) (tm' := [(0, .t (tS q13 s)), (2, .t (.v (.slice none 0 0))), (3, .t (tS q13 s)), (4, .t (tB b2)), (6, .t (tS q13 s))]) (hp' := []) rfl rfl rfl rfl rfl rfl rfl (fun _ => rfl) (fun _ => rfl) (.inl ⟨rfl, rfl⟩) (.inl rfl) (.of rfl rfl) rfl rfl rfl fun l => ?_))))
  exact TieO.run 1 rfl (.nil (.ret ⟨.inl rfl, rfl⟩))
set_option maxRecDepth 100000 in
theorem q294 (s : List SJob) : TieG Tryz.prog 85 [.t (tS q14 s)] [] (q207 s) (fun _ => .own 900000) (fun r => [(900000, .rs 85 7 r q14)]) := by
 refine TieG.intro htab 8 [.tmp 2] Tryz.call85 Tryz.func85 rfl rfl rfl (Nat.le_of_ble_eq_true rfl) fun w0 L => ?_
 refine TieS.seq (.region (.run 1 rfl (.nil (.seq ?_))))
 refine TieS.seq (.region (.run 1 rfl (.isNil rfl rfl rfl rfl rfl rfl fun b2 hb2 => .nil ?_)))
 refine TieS.condB rfl (fun hb1 => ?_) (fun _ => ?_)
 ·refine TieX.model (m' := some ([] : List SJob)) (by rw [hb2 hb1]; rfl) (TieS.seq (.region (.run 1 rfl (.nil ?_))))
  exact TieX.nilP 2 70000 85 7 [] rfl rfl rfl rfl rfl (TieS.ret ⟨.inl rfl, ⟨[(70000, 900000)], _, _, rfl, rfl, rfl, rfl, rfl⟩⟩)
 ·refine TieS.skip (.seq (.region (.run 2 rfl (.appendY (id := 5) (e' := 0) (l := ([] : List SJob)) (r := s) (tm' := [(0, .t (tS q14 s)), (2, .t (.v (.slice none 0 0))), (3, .t (tS q14 s)), (4, .t (tB b2)), (6, .t (tS q14 s))]) (hp' := []) rfl rfl rfl rfl rfl rfl rfl (fun _ => rfl) (fun _ => rfl) (.inl ⟨rfl, rfl⟩) (.inl rfl) (.of rfl rfl) rfl rfl rfl fun l => ?_))))
  exact TieO.run 1 rfl (.nil (.ret ⟨.inl rfl, ⟨[(5, 900000)], _, _, rfl, rfl, rfl, rfl, rfl⟩⟩))
set_option maxRecDepth 100000 in
theorem q168 (s : SScheduler) : TieG Tryz.prog 40 [q26 s] [] (q93 s) (fun r => .agg [.t (tS Pv.encI r.Engine.Order), .t (tI r.Engine.First), .t (tB r.Clock.Valid), .t (tI r.Clock.At), .t (tI r.Clock.Angle), .t (tI r.Clock.Period), .t (tI r.Clock.Space), .t (tI r.Clock.Ahead), .t (tI r.Timer.Now), .t (tS q12 r.Timer.Channels), .t (tS q13 r.Next), .own 900000, .t (tB r.Cut)]) (fun r => [(900000, .rs 85 7 r.Jobs q14)]) := by
 refine TieG.intro htab 12 [.cell 2 33] Tryz.call40 Tryz.func40 rfl rfl rfl (Nat.le_of_ble_eq_true rfl) fun w0 L => ?_
 refine TieS.seq (.region (.run 2 rfl (.nil (.seq ?_))))
 refine TieS.region (.run 2 rfl (.callG [] [(900000, 2040)] (fun v => ⟨[(0, .agg [.t (tS Pv.encI s.Engine.Order), .t (tI s.Engine.First), .t (tB s.Clock.Valid), .t (tI s.Clock.At), .t (tI s.Clock.Angle), .t (tI s.Clock.Period), .t (tI s.Clock.Space), .t (tI s.Clock.Ahead), .t (tI s.Timer.Now), .t (tS q12 s.Timer.Channels), .t (tS q13 s.Next), .t (tS q14 s.Jobs), .t (tB s.Cut)]), (1, .ptr 1 0), (2, .ptr 2 0), (3, .ptr 1 11), (4, .t (tS q14 s.Jobs)), (5, .own 2040)], [(1, .box (q10 s)), (2, .box [.t (.v (.slice none 0 0)), .t (tI 0), .t (tB false), .t (tI 0), .t (tI 0), .t (tI 0), .t (tI 0), .t (tI 0), .t (tI 0), .t (.v (.slice none 0 0)), .t (.v (.slice none 0 0)), .t (.v (.slice none 0 0)), .t (tB false)]), (2040, .rs 85 7 v q14)]⟩) (q294 s.Jobs) rfl rfl rfl rfl rfl rfl rfl (fun _ => rfl) (fun _ => rfl) (fun _ => rfl) (fun _ => .of rfl rfl) fun v hv => .run 2 rfl (.nil ?_)))
 refine TieS.seq (.region (.run 2 rfl (.call _ rfl rfl rfl (q212 s.Next) (fun _ => rfl) fun v2 => .run 2 rfl ?_)))
 refine TieO.nil (.seq (.region (.run 2 rfl (.nil ?_))))
 exact TieS.ret ⟨.inl rfl, ⟨[(2040, 900000)], _, _, rfl, rfl, rfl, rfl, rfl⟩⟩
set_option maxRecDepth 100000 in
theorem q273 (t2 : STimer) (channel : Int) : TieG Tryz.prog 114 [q112 t2, .t (tI channel)] [] (q211 t2 channel) (fun r => .tup [.agg [.t (tI r.1.Now), .own 900000], .t (tI r.2)]) (fun r => [(900000, .rs 74 4 r.1.Channels q12)]) := by
 refine TieG.intro htab 32 [.cell 4 29, .tmp 5] Tryz.call114 Tryz.func114 rfl rfl rfl (Nat.le_of_ble_eq_true rfl) fun w0 L => ?_
 refine TieS.seq (.region (.run 3 rfl (.nil (.seq ?_))))
 refine TieS.seq (.region (.run 1 rfl (.call _ rfl rfl rfl (q234 t2) (fun _ => rfl) fun v => .run 1 rfl ?_)))
 refine TieO.nil (.cond rfl ?_ ?_)
 ·refine TieS.seq (.region (.run 3 rfl (.nil (TieX.nilB 4 70000 74 4 [1] rfl rfl rfl rfl rfl ?_))))
  exact TieS.ret ⟨.inl rfl, ⟨[(70000, 900000)], _, _, rfl, rfl, rfl, rfl, rfl⟩⟩
 ·refine TieS.skip (.seq (.seq (.region (.run 3 rfl ?_))))
  refine TieO.selOr (v := decide (channel ≥ (t2.Channels.length : Int))) 6 13 (fun b => ⟨[(2, .ptr 2 0), (4, .ptr 4 0), (19, .t (tB b))], [(2, .box [.t (tI t2.Now), .t (tS q12 t2.Channels)]), (4, .box [.t (tI 0), .t (.v (.slice none 0 0))])]⟩) rfl ?_ ?_ ?_
  ·exact TieO.run 6 rfl (.nil (.leaf ⟨rfl, .of rfl rfl⟩))
  ·exact TieO.run 6 rfl (.nil (.leaf ⟨rfl, .of rfl rfl⟩))
  refine TieO.nil (.cond rfl ?_ ?_)
  ·refine TieS.seq (.region (.run 3 rfl (.nil (TieX.nilB 4 70000 74 4 [1] rfl rfl rfl rfl rfl ?_))))
   exact TieS.ret ⟨.inl rfl, ⟨[(70000, 900000)], _, _, rfl, rfl, rfl, rfl, rfl⟩⟩
  ·refine TieS.skip (.seq (.region (.run 3 rfl (.makeO (enc := q12) 2192 (⟨false, 0, false, false⟩ : SChannel) rfl rfl rfl rfl rfl rfl rfl rfl rfl rfl rfl rfl rfl fun l hl => ?_))))
   refine TieO.run 1 rfl (.nil (.seq (.region (.run 3 rfl ?_))))
   refine TieO.copyO (e2 := 0) (l := l) (r := t2.Channels) rfl rfl rfl rfl (fun _ => rfl) (fun _ => rfl) rfl rfl (.inl rfl) rfl (.nil (.seq (.region (.run 3 rfl ?_))))
   refine TieO.nil (.seq (.region (.run 3 rfl (.nil ?_))))
   exact TieS.ret ⟨.inl rfl, ⟨[(2192, 900000)], _, _, rfl, rfl, rfl, rfl, rfl⟩⟩
set_option maxRecDepth 100000 in
theorem q319 (t2 : STimer) (channel : Int) (v_at : Int) (level : Bool) : TieF Tryz.prog 82 [q112 t2, .t (tI channel), .t (tI v_at), .t (tB level)] (q275 t2 channel v_at level) (fun r => .tup [q112 r.1, .t (tI r.2)]) := by
 refine TieF.intro htab 47 [.cell 8 29, .tmp 9] Tryz.call82 Tryz.func82 rfl rfl rfl (Nat.le_of_ble_eq_true rfl) fun w0 L => ?_
 refine TieS.seq (.region (.run 3 rfl (.nil (.seq ?_))))
 refine TieS.region (.run 2 rfl (.callG [] [(900000, 2120)] (fun r2 => ⟨[(0, .agg [.t (tI t2.Now), .t (tS q12 t2.Channels)]), (1, .t (tI channel)), (2, .t (tI v_at)), (3, .t (tB level)), (4, .ptr 4 0), (8, .ptr 8 0), (9, .t (tI 0)), (13, .agg [.t (tI t2.Now), .t (tS q12 t2.Channels)]), (14, .t (tI channel)), (15, .tup [.agg [.t (tI r2.1.Now), .own 2120], .t (tI r2.2)])], [(4, .box [.t (tI t2.Now), .t (tS q12 t2.Channels)]), (8, .box [.t (tI 0), .t (.v (.slice none 0 0))]), (2120, .rs 74 4 r2.1.Channels q12)]⟩) (q273 t2 channel) rfl rfl rfl rfl rfl rfl rfl (fun _ => rfl) (fun _ => rfl) (fun _ => rfl) (fun _ => .of rfl rfl) fun r2 hr2 => .run 6 rfl (.nil ?_)))
 refine TieS.seq (.block (.seq (.region (.run 3 rfl ?_))))
 refine TieO.nil (.cond rfl ?_ ?_)
 ·exact TieS.seq (.region (.run 4 rfl (.nil (.ret ⟨.inl rfl, rfl⟩))))
 ·refine TieS.seq (.region (.run 5 rfl (.nil (.cond rfl ?_ ?_))))
  ·exact TieS.seq (.region (.run 3 rfl (.nil (.ret ⟨.inl rfl, rfl⟩))))
  ·refine TieS.seq (.region (.run 3 rfl (.nil (.cond rfl ?_ ?_))))
   ·exact TieS.seq (.region (.run 3 rfl (.nil (.ret ⟨.inl rfl, rfl⟩))))
   ·refine TieS.skip (.endb (.seq (TieX.pre fun x hx => TieX.pre fun x2 hx2 => ?_)))
    refine TieS.draw 13 [_, _, _, _, _, _, _, _, _, _, _, _, _] [(1, .t (tI channel)), (2, .t (tI v_at)), (3, .t (tB level)), (4, .ptr 4 0), (8, .ptr 8 0), (10, .ptr 10 0)] [(4, .box [.t (tI t2.Now), .t (tS q12 t2.Channels)]), (8, .box [.t (tI 0), .t (.v (.slice none 0 0))]), (10, .box [.t (tI r2.1.Now), .own 2120]), (2120, .rs 74 4 r2.1.Channels q12)] mixed (.of rfl rfl) rfl rfl rfl rfl (.cons (.quiet rfl rfl rfl) (.cons (.quiet rfl rfl rfl) (.cons (.quiet rfl rfl rfl) (.cons (.quiet rfl rfl rfl) (.cons (.quiet rfl rfl rfl) (.cons (.quiet rfl rfl rfl) (.cons (.quiet rfl rfl rfl) (.cons (.quiet rfl rfl rfl) (.cons (.index hx rfl rfl rfl rfl rfl rfl (fun _ => rfl)) (.cons (.quiet rfl rfl rfl) (.cons (.quiet rfl rfl rfl) (.cons (.quiet rfl rfl rfl) (.cons (.indexO (sz := 4) hx2 rfl rfl rfl rfl rfl rfl rfl rfl) (.nil)))))))))))))) (.storeY (u2_2 (u2_1 (u2_0 x true) v_at) level) [tB true, tI v_at, tB level, tB x.Level] hx2 rfl rfl rfl rfl rfl rfl rfl rfl rfl rfl rfl rfl fun l hl => .nil (.seq (.region ?_)))
    exact TieO.run 3 rfl (.nil (.ret ⟨.inl rfl, rfl⟩))
set_option maxRecDepth 100000 in
theorem q327 (j : SJob) (c : Int) : TieF Tryz.prog 94 [A_SJob j, .el (Pv.encI c)] (q49 j c) (fun r => .t (tB r)) := by
 refine TieF.intro htab 9 [.tmp 3] Tryz.call94 Tryz.func94 rfl rfl rfl (Nat.le_of_ble_eq_true rfl) fun w0 L => ?_
 refine TieS.seq (.region (.run 2 rfl (.nil (.seq ?_))))
 exact TieX.pre fun v hv => TieS.draw 6 [_, _, _, _, _, _] [(1, .el (Pv.encI c)), (2, .ptr 2 0)] [(2, .box [.t (tI j.Event.Angle), .t (tI j.Event.Kind), .t (tI j.Event.Cylinder), .t (tI j.Event.Pulse), .t (tI j.Left), .t (tB j.Armed), .t (tI j.At)])] mixed (.of rfl rfl) rfl rfl rfl rfl (.cons (.quiet rfl rfl rfl) (.cons (.quiet rfl rfl rfl) (.cons (.callV (q57 j.Event) hv rfl rfl rfl rfl) (.cons (.quiet rfl rfl rfl) (.cons (.quiet rfl rfl rfl) (.cons (.quiet rfl rfl rfl) (.nil))))))) (.nil (.ret ⟨.inl rfl, rfl⟩))
set_option maxRecDepth 100000 in
theorem q366 (a : Int) (b2 : Int) : TieF Tryz.prog 95 [.t (tI a), .t (tI b2)] (q232 a b2) (fun r => .t (tI r)) := by
 refine TieF.intro htab 16 [.tmp 4] Tryz.call95 Tryz.func95 rfl rfl rfl (Nat.le_of_ble_eq_true rfl) fun w0 L => ?_
 refine TieS.seq (.region (.run 1 rfl (.nil (.seq ?_))))
 refine TieS.region (.run 2 rfl (.quo rfl rfl rfl rfl rfl rfl fun q => .run 1 rfl (.nil ?_)))
 refine TieS.seq (.seq (.region (.run 2 rfl (.rem rfl rfl rfl rfl rfl rfl fun q2 => ?_))))
 refine TieO.run 1 rfl (.nil (.cond rfl ?_ ?_))
 ·refine TieS.region (.run 3 rfl (.nil (.seq (.region ?_))))
  exact TieO.run 2 rfl (.nil (.ret ⟨.inl rfl, rfl⟩))
 ·refine TieS.skip (.seq (.region (.run 2 rfl (.nil ?_))))
  exact TieS.ret ⟨.inl rfl, rfl⟩
set_option maxRecDepth 100000 in
set_option maxHeartbeats 4000000 in
theorem q263 (s : SScheduler) : TieG Tryz.prog 44 [.ptr 1000000 0] [(1000000, .box (lset (q10 s) [(11, .own 1000001)])), (1000001, .rs 85 7 s.Jobs q14)] (q174 s) (fun _ => .tup []) (fun r => [(1000000, .box (lset (q10 r) [(11, .own 1000001)])), (1000001, .rs 85 7 r.Jobs q14)]) := by
 refine TieG.intro htab 112 [] Tryz.call44 Tryz.func44 rfl rfl rfl (Nat.le_of_ble_eq_true rfl) fun w0 L => ?_
 refine TieS.seq (.seq (.region (.run 4 rfl (.nil ?_))))
 refine TieS.cond rfl ?_ ?_
 ·exact TieS.ret ⟨.inl rfl, ⟨[(1000000, 1000000), (1000001, 1000001)], _, _, rfl, rfl, rfl, rfl, rfl⟩⟩
 ·refine TieS.skip (.seq (.region (.run 7 rfl (.nil ?_))))
  refine TieS.block (.loop (fun p => ⟨[(0, .ptr 1000000 0), (17, .t (tI (s.Timer.Channels.length : Int))), (18, .t (tI p.1))], [(1000000, .box (lset (q10 (u7_2 s p.2.1)) [(11, .own 1000001)])), (1000001, .rs 85 7 p.2.2 q14)]⟩) (fun b e σ' => match b with | .inl t => e = .exit 0 ∧ Sub ⟨[], [(1000000, .box (lset (q10 (u7_2 s t.1)) [(11, .own 1000001)])), (1000001, .rs 85 7 t.2 q14)]⟩ σ' | .inr t => False) (.of rfl rfl) ?_ ?_)
  ·rintro ⟨i, s2⟩
   refine TieS.seq (.region (.run 1 rfl (.nil (.seq ?_))))
   refine TieS.cond rfl ?_ ?_
   ·refine TieS.skip (.seq (TieX.sub (σ' := ⟨[(0, .ptr 1000000 0), (17, .t (tI (s.Timer.Channels.length : Int))), (18, .t (tI i))], [(1000000, .box (lset (q10 (u7_2 s s2.1)) [(11, .own 1000001)])), (1000001, .rs 85 7 s2.2 q14)]⟩) (.of rfl rfl) (TieS.bind (Q₁ := fun f e σ' => match f with | .next t => e = .normal ∧ Sub ⟨[(0, .ptr 1000000 0), (17, .t (tI (s.Timer.Channels.length : Int))), (18, .t (tI i))], [(1000000, .box (lset (q10 (u7_2 s t.1)) [(11, .own 1000001)])), (1000001, .rs 85 7 t.2 q14)]⟩ σ' | .brk t => e = .exit 0 ∧ Sub ⟨[], [(1000000, .box (lset (q10 (u7_2 s t.1)) [(11, .own 1000001)])), (1000001, .rs 85 7 t.2 q14)]⟩ σ' | .ret r => False) ?_ ?_)))
    ·refine TieS.block (.seq (.region (.run 3 rfl (.nil ?_))))
     refine TieS.seq (.region (.run 4 rfl (.frzBox 2 rfl rfl (.run 1 rfl ?_))))
     refine TieO.sub (σ' := ⟨[(0, .ptr 1000000 0), (2, .el (Pv.encI i)), (17, .t (tI (s.Timer.Channels.length : Int))), (18, .t (tI i)), (20, .t (tI i)), (21, .ptr 1000000 0), (22, .ptr 1000000 0), (23, .ptr 1000000 11), (24, .own 1000001), (25, .fz 94 [Pv.encI i])], [(1000000, .box (lset (q10 (u7_2 s s2.1)) [(11, .own 1000001)])), (1000001, .rs 85 7 s2.2 q14)]⟩) (.of rfl rfl) (.callS _ rfl rfl rfl (q121 s2.2 94 [Pv.encI i] (fun x0 => q49 x0 i) (fun x0 => q327 x0 i)) (fun _ => rfl) (fun _ => rfl) fun v => .run 1 rfl (.nil (.seq ?_)))
     refine TieS.seq (.bind (Q₁ := fun t e σ' => e = .normal ∧ Sub ⟨[(0, .ptr 1000000 0), (2, .el (Pv.encI i)), (3, .t (tI v)), (17, .t (tI (s.Timer.Channels.length : Int))), (18, .t (tI i)), (44, .t (tB t))], [(1000000, .box (lset (q10 (u7_2 s s2.1)) [(11, .own 1000001)])), (1000001, .rs 85 7 s2.2 q14)]⟩ σ') ?_ ?_)
     ·refine TieX.split (fun hg => ?_) (fun hg2 => ?_)
      ·exact TieS.draw 18 [_, _, _, _, _, _, _, _, _, _, _, _, _, _, _, _, _, _] [(0, .ptr 1000000 0), (2, .el (Pv.encI i)), (3, .t (tI v)), (17, .t (tI (s.Timer.Channels.length : Int))), (18, .t (tI i))] [(1000000, .box (lset (q10 (u7_2 s s2.1)) [(11, .own 1000001)])), (1000001, .rs 85 7 s2.2 q14)] mixed (.of rfl rfl) rfl rfl rfl rfl (.cons (.quiet rfl rfl rfl) (.cons (.quiet rfl rfl rfl) (.cons (.cast (congrArg T.B hg) (.quiet rfl rfl rfl)) (.cons (.skip rfl) (.cons (.skip rfl) (.cons (.skip rfl) (.cons (.skip rfl) (.cons (.skip rfl) (.cons (.skip rfl) (.cons (.skip rfl) (.cons (.skip rfl) (.cons (.skip rfl) (.cons (.skip rfl) (.cons (.skip rfl) (.cons (.skip rfl) (.cons (.skip rfl) (.cons (.skip rfl) (.cons (.quiet rfl rfl rfl) (.nil))))))))))))))))))) (.nil (.leaf ⟨rfl, .of rfl rfl⟩))
      ·exact TieX.pre fun x hx => TieS.draw 18 [_, _, _, _, _, _, _, _, _, _, _, _, _, _, _, _, _, _] [(0, .ptr 1000000 0), (2, .el (Pv.encI i)), (3, .t (tI v)), (17, .t (tI (s.Timer.Channels.length : Int))), (18, .t (tI i))] [(1000000, .box (lset (q10 (u7_2 s s2.1)) [(11, .own 1000001)])), (1000001, .rs 85 7 s2.2 q14)] mixed (.of rfl rfl) rfl rfl rfl rfl (.cons (.quiet rfl rfl rfl) (.cons (.quiet rfl rfl rfl) (.cons (.cast (congrArg T.B hg2) (.quiet rfl rfl rfl)) (.cons (.quiet rfl rfl rfl) (.cons (.quiet rfl rfl rfl) (.cons (.quiet rfl rfl rfl) (.cons (.quiet rfl rfl rfl) (.cons (.quiet rfl rfl rfl) (.cons (.indexO (sz := 7) hx rfl rfl rfl rfl rfl rfl rfl rfl) (.cons (.quiet rfl rfl rfl) (.cons (.loadY hx rfl rfl rfl rfl rfl rfl) (.cons (.quiet rfl rfl rfl) (.cons (.quiet rfl rfl rfl) (.cons (.quiet rfl rfl rfl) (.cons (.quiet rfl rfl rfl) (.cons (.quiet rfl rfl rfl) (.cons (.quiet rfl rfl rfl) (.cons (.quiet rfl rfl rfl) (.nil))))))))))))))))))) (.nil (.leaf ⟨rfl, .of rfl rfl⟩))
     rintro v2 e σ' _ ⟨rfl, hs⟩
     refine TieX.sub hs (TieS.cond rfl ?_ ?_)
     ·exact TieS.exit rfl (.leaf ⟨rfl, .of rfl rfl⟩)
     ·refine TieS.skip (.seq (.region (.run 5 rfl (.indexO rfl rfl rfl rfl rfl rfl rfl rfl rfl rfl fun x2 hx2 => ?_))))
      refine TieO.run 1 rfl (.nil (.seq (TieX.pre fun v3 hv3 => TieS.draw 30 [_, _, _, _, _, _, _, _, _, _, _, _, _, _, _, _, _, _, _, _, _, _, _, _, _, _, _, _, _, _] [(0, .ptr 1000000 0), (2, .el (Pv.encI i)), (4, .pe 1000001 (Int.toNat v) 7 0), (17, .t (tI (s.Timer.Channels.length : Int))), (18, .t (tI i))] [(1000000, .box (lset (q10 (u7_2 s s2.1)) [(11, .own 1000001)])), (1000001, .rs 85 7 s2.2 q14)] mixed (.of rfl rfl) rfl rfl rfl rfl (.cons (.quiet rfl rfl rfl) (.cons (.quiet rfl rfl rfl) (.cons (.quiet rfl rfl rfl) (.cons (.quiet rfl rfl rfl) (.cons (.quiet rfl rfl rfl) (.cons (.quiet rfl rfl rfl) (.cons (.quiet rfl rfl rfl) (.cons (.quiet rfl rfl rfl) (.cons (.loadY hx2 rfl rfl rfl rfl rfl rfl) (.cons (.quiet rfl rfl rfl) (.cons (.quiet rfl rfl rfl) (.cons (.quiet rfl rfl rfl) (.cons (.quiet rfl rfl rfl) (.cons (.quiet rfl rfl rfl) (.cons (.quiet rfl rfl rfl) (.cons (.quiet rfl rfl rfl) (.cons (.quiet rfl rfl rfl) (.cons (.quiet rfl rfl rfl) (.cons (.quiet rfl rfl rfl) (.cons (.quiet rfl rfl rfl) (.cons (.callV (q366 (w64 (x2.Left * s.Clock.Period)) s.Clock.Space) hv3 rfl rfl rfl rfl) (.cons (.quiet rfl rfl rfl) (.cons (.quiet rfl rfl rfl) (.cons (.quiet rfl rfl rfl) (.cons (.quiet rfl rfl rfl) (.cons (.quiet rfl rfl rfl) (.cons (.quiet rfl rfl rfl) (.cons (.quiet rfl rfl rfl) (.cons (.quiet rfl rfl rfl) (.cons (.quiet rfl rfl rfl) (.nil))))))))))))))))))))))))))))))) ?_)))
      refine TieO.nil (.seq (.seq (.region (.run 2 rfl ?_))))
      refine TieO.nil (.cond rfl ?_ ?_)
      ·exact TieS.exit rfl (.leaf ⟨rfl, .of rfl rfl⟩)
      ·refine TieS.skip (.seq (.bind (Q₁ := fun t e σ' => e = .normal ∧ Sub ⟨[(0, .ptr 1000000 0), (4, .pe 1000001 (Int.toNat v) 7 0), (5, .t (tI (maxI (w64 (s.Clock.At + v3)) (w64 (s2.1.Now + 1))))), (6, .ptr 6 0), (7, .t (tI t.1)), (17, .t (tI (s.Timer.Channels.length : Int))), (18, .t (tI i))], [(6, .box [.t (tI t.2.Now), .t (tS q12 t.2.Channels)]), (1000000, .box (lset (q10 (u7_2 s s2.1)) [(11, .own 1000001)])), (1000001, .rs 85 7 s2.2 q14)]⟩ σ') ?_ ?_))
       ·refine TieX.pre fun v4 hv4 => TieX.pre fun r2 hr2 => TieS.draws 18 (bm 19 0) (bm 19 262143) ⟨[(0, .ptr 1000000 0), (4, .pe 1000001 (Int.toNat v) 7 0), (5, .t (tI (maxI (w64 (s.Clock.At + v3)) (w64 (s2.1.Now + 1))))), (6, .ptr 6 0), (17, .t (tI (s.Timer.Channels.length : Int))), (18, .t (tI i)), (97, .t (tI r2.2))], [(6, .box [.t (tI r2.1.Now), .t (tS q12 r2.1.Channels)]), (1000000, .box (lset (q10 (u7_2 s s2.1)) [(11, .own 1000001)])), (1000001, .rs 85 7 s2.2 q14)]⟩ mixed (fun _ _ _ h => by cases h.1) rfl rfl rfl rfl ?_ ?_
        ·refine TieA.have_ (fuel₁ := 2) (l₁ := (bm 19 131071)) (σ₁ := ⟨[(0, .ptr 1000000 0), (4, .pe 1000001 (Int.toNat v) 7 0), (5, .t (tI (maxI (w64 (s.Clock.At + v3)) (w64 (s2.1.Now + 1))))), (6, .ptr 6 0), (17, .t (tI (s.Timer.Channels.length : Int))), (18, .t (tI i)), (96, .agg [.t (tI r2.1.Now), .t (tS q12 r2.1.Channels)]), (97, .t (tI r2.2))], [(6, .box [.t (tI 0), .t (.v (.slice none 0 0))]), (1000000, .box (lset (q10 (u7_2 s s2.1)) [(11, .own 1000001)])), (1000001, .rs 85 7 s2.2 q14)]⟩) ?_ fun A_4 => ?_
         ·refine TieA.all [17] (by kernel_rfl) rfl (AllA.run _ rfl rfl rfl ?_ ?_)
          ·exact TieA.done (.of rfl rfl)
          exact AllA.nil
         refine TieA.have_ (fuel₁ := 3) (l₁ := (bm 19 65535)) (σ₁ := ⟨[(0, .ptr 1000000 0), (4, .pe 1000001 (Int.toNat v) 7 0), (5, .t (tI (maxI (w64 (s.Clock.At + v3)) (w64 (s2.1.Now + 1))))), (17, .t (tI (s.Timer.Channels.length : Int))), (18, .t (tI i)), (96, .agg [.t (tI r2.1.Now), .t (tS q12 r2.1.Channels)]), (97, .t (tI r2.2))], [(1000000, .box (lset (q10 (u7_2 s s2.1)) [(11, .own 1000001)])), (1000001, .rs 85 7 s2.2 q14)]⟩) ?_ fun A_3 => ?_
         ·exact TieA.all [16] (by kernel_rfl) rfl (AllA.runTo _ rfl rfl rfl (.of rfl rfl) A_4 (AllA.nil))
         refine TieA.have_ (fuel₁ := 3) (l₁ := (bm 19 98303)) (σ₁ := ⟨[(0, .ptr 1000000 0), (4, .pe 1000001 (Int.toNat v) 7 0), (5, .t (tI (maxI (w64 (s.Clock.At + v3)) (w64 (s2.1.Now + 1))))), (6, .ptr 6 0), (17, .t (tI (s.Timer.Channels.length : Int))), (18, .t (tI i)), (82, .tup [.agg [.t (tI r2.1.Now), .t (tS q12 r2.1.Channels)], .t (tI r2.2)]), (96, .agg [.t (tI r2.1.Now), .t (tS q12 r2.1.Channels)])], [(6, .box [.t (tI 0), .t (.v (.slice none 0 0))]), (1000000, .box (lset (q10 (u7_2 s s2.1)) [(11, .own 1000001)])), (1000001, .rs 85 7 s2.2 q14)]⟩) ?_ fun A_5 => ?_
         ·refine TieA.all [15, 17] (by kernel_rfl) rfl (AllA.runTo _ rfl rfl rfl (.of rfl rfl) A_4 (AllA.run _ rfl rfl rfl ?_ ?_))
          ·refine TieA.all [15] (by kernel_rfl) rfl (AllA.run _ rfl rfl rfl ?_ ?_)
           ·exact TieA.done (.of rfl rfl)
           exact AllA.nil
          exact AllA.nil
         refine TieA.have_ (fuel₁ := 3) (l₁ := (bm 19 114687)) (σ₁ := ⟨[(0, .ptr 1000000 0), (4, .pe 1000001 (Int.toNat v) 7 0), (5, .t (tI (maxI (w64 (s.Clock.At + v3)) (w64 (s2.1.Now + 1))))), (6, .ptr 6 0), (17, .t (tI (s.Timer.Channels.length : Int))), (18, .t (tI i)), (82, .tup [.agg [.t (tI r2.1.Now), .t (tS q12 r2.1.Channels)], .t (tI r2.2)]), (97, .t (tI r2.2))], [(6, .box [.t (tI 0), .t (.v (.slice none 0 0))]), (1000000, .box (lset (q10 (u7_2 s s2.1)) [(11, .own 1000001)])), (1000001, .rs 85 7 s2.2 q14)]⟩) ?_ fun A_6 => ?_
         ·exact TieA.all [14] (by kernel_rfl) rfl (AllA.runTo _ rfl rfl rfl (.of rfl rfl) A_4 (AllA.nil))
         refine TieA.have_ (fuel₁ := 6) (l₁ := (bm 19 69631)) (σ₁ := ⟨[(0, .ptr 1000000 0), (4, .pe 1000001 (Int.toNat v) 7 0), (5, .t (tI (maxI (w64 (s.Clock.At + v3)) (w64 (s2.1.Now + 1))))), (6, .ptr 6 0), (17, .t (tI (s.Timer.Channels.length : Int))), (18, .t (tI i)), (86, .agg [.t (tI s2.1.Now), .t (tS q12 s2.1.Channels)]), (87, .t (tI i)), (88, .t (tI (maxI (w64 (s.Clock.At + v3)) (w64 (s2.1.Now + 1))))), (94, .t (tB v4))], [(6, .box [.t (tI 0), .t (.v (.slice none 0 0))]), (1000000, .box (lset (q10 (u7_2 s s2.1)) [(11, .own 1000001)])), (1000001, .rs 85 7 s2.2 q14)]⟩) ?_ fun A_7 => ?_
         ·refine TieA.all [12] (by kernel_rfl) rfl (AllA.cons (σ₁ := ⟨[(0, .ptr 1000000 0), (4, .pe 1000001 (Int.toNat v) 7 0), (5, .t (tI (maxI (w64 (s.Clock.At + v3)) (w64 (s2.1.Now + 1))))), (6, .ptr 6 0), (17, .t (tI (s.Timer.Channels.length : Int))), (18, .t (tI i)), (95, .tup [.agg [.t (tI r2.1.Now), .t (tS q12 r2.1.Channels)], .t (tI r2.2)])], [(6, .box [.t (tI 0), .t (.v (.slice none 0 0))]), (1000000, .box (lset (q10 (u7_2 s s2.1)) [(11, .own 1000001)])), (1000001, .rs 85 7 s2.2 q14)]⟩) _ rfl rfl ?_ ?_ ?_)
          ·refine TieO.withH hr2 (TieO.call _ rfl rfl rfl (q319 s2.1 i (maxI (w64 (s.Clock.At + v3)) (w64 (s2.1.Now + 1))) v4) (fun _ => rfl) (TieO.ifH ?_))
           exact TieO.nil (TieS.leaf ⟨rfl, .of rfl rfl⟩)
          ·exact TieA.mv 13 rfl (.inl rfl) rfl (by kernel_rfl) rfl (.all [14, 15] (by kernel_rfl) rfl (AllA.runTo _ rfl rfl rfl (.of rfl rfl) A_5 (AllA.runTo _ rfl rfl rfl (.of rfl rfl) A_6 (AllA.nil))))
          exact AllA.nil
         refine TieA.have_ (fuel₁ := 7) (l₁ := (bm 19 4095)) (σ₁ := ⟨[(0, .ptr 1000000 0), (4, .pe 1000001 (Int.toNat v) 7 0), (5, .t (tI (maxI (w64 (s.Clock.At + v3)) (w64 (s2.1.Now + 1))))), (17, .t (tI (s.Timer.Channels.length : Int))), (18, .t (tI i)), (86, .agg [.t (tI s2.1.Now), .t (tS q12 s2.1.Channels)]), (87, .t (tI i)), (88, .t (tI (maxI (w64 (s.Clock.At + v3)) (w64 (s2.1.Now + 1))))), (94, .t (tB v4))], [(1000000, .box (lset (q10 (u7_2 s s2.1)) [(11, .own 1000001)])), (1000001, .rs 85 7 s2.2 q14)]⟩) ?_ fun A_2 => ?_
         ·refine TieA.all [12, 16] (by kernel_rfl) rfl (AllA.cons (σ₁ := ⟨[(0, .ptr 1000000 0), (4, .pe 1000001 (Int.toNat v) 7 0), (5, .t (tI (maxI (w64 (s.Clock.At + v3)) (w64 (s2.1.Now + 1))))), (17, .t (tI (s.Timer.Channels.length : Int))), (18, .t (tI i)), (95, .tup [.agg [.t (tI r2.1.Now), .t (tS q12 r2.1.Channels)], .t (tI r2.2)])], [(1000000, .box (lset (q10 (u7_2 s s2.1)) [(11, .own 1000001)])), (1000001, .rs 85 7 s2.2 q14)]⟩) _ rfl rfl ?_ ?_ ?_)
          ·refine TieO.withH hr2 (TieO.call _ rfl rfl rfl (q319 s2.1 i (maxI (w64 (s.Clock.At + v3)) (w64 (s2.1.Now + 1))) v4) (fun _ => rfl) (TieO.ifH ?_))
           exact TieO.nil (TieS.leaf ⟨rfl, .of rfl rfl⟩)
          ·refine TieA.mv 13 rfl (.inl rfl) rfl (by kernel_rfl) rfl (.all [14, 15, 16] (by kernel_rfl) rfl (AllA.run _ rfl rfl rfl ?_ ?_))
           ·exact TieA.all [15, 16] (by kernel_rfl) rfl (AllA.runTo _ rfl rfl rfl (.of rfl rfl) A_3 (AllA.runTo _ rfl rfl rfl (.of rfl rfl) A_5 (AllA.nil)))
           refine AllA.run _ rfl rfl rfl ?_ ?_
           ·exact TieA.all [14, 16] (by kernel_rfl) rfl (AllA.runTo _ rfl rfl rfl (.of rfl rfl) A_3 (AllA.runTo _ rfl rfl rfl (.of rfl rfl) A_6 (AllA.nil)))
           refine AllA.run _ rfl rfl rfl ?_ ?_
           ·exact TieA.all [14, 15] (by kernel_rfl) rfl (AllA.runTo _ rfl rfl rfl (.of rfl rfl) A_5 (AllA.runTo _ rfl rfl rfl (.of rfl rfl) A_6 (AllA.nil)))
           exact AllA.nil
          exact AllA.runTo _ rfl rfl rfl (.of rfl rfl) A_7 (AllA.nil)
         refine TieA.have_ (fuel₁ := 7) (l₁ := (bm 19 67583)) (σ₁ := ⟨[(0, .ptr 1000000 0), (4, .pe 1000001 (Int.toNat v) 7 0), (5, .t (tI (maxI (w64 (s.Clock.At + v3)) (w64 (s2.1.Now + 1))))), (6, .ptr 6 0), (17, .t (tI (s.Timer.Channels.length : Int))), (18, .t (tI i)), (86, .agg [.t (tI s2.1.Now), .t (tS q12 s2.1.Channels)]), (87, .t (tI i)), (88, .t (tI (maxI (w64 (s.Clock.At + v3)) (w64 (s2.1.Now + 1))))), (93, .t (tI x2.Event.Kind))], [(6, .box [.t (tI 0), .t (.v (.slice none 0 0))]), (1000000, .box (lset (q10 (u7_2 s s2.1)) [(11, .own 1000001)])), (1000001, .rs 85 7 s2.2 q14)]⟩) ?_ fun A_8 => ?_
         ·refine TieA.all [11] (by kernel_rfl) rfl (AllA.cons _ rfl rfl ?_ A_7 ?_)
          ·refine TieO.withH hv4 (TieO.call _ rfl rfl rfl (q40 x2.Event.Kind) (fun _ => rfl) (TieO.ifH ?_))
           exact TieO.nil (TieS.leaf ⟨rfl, .of rfl rfl⟩)
          exact AllA.nil
         refine TieA.have_ (fuel₁ := 8) (l₁ := (bm 19 2047)) (σ₁ := ⟨[(0, .ptr 1000000 0), (4, .pe 1000001 (Int.toNat v) 7 0), (5, .t (tI (maxI (w64 (s.Clock.At + v3)) (w64 (s2.1.Now + 1))))), (17, .t (tI (s.Timer.Channels.length : Int))), (18, .t (tI i)), (86, .agg [.t (tI s2.1.Now), .t (tS q12 s2.1.Channels)]), (87, .t (tI i)), (88, .t (tI (maxI (w64 (s.Clock.At + v3)) (w64 (s2.1.Now + 1))))), (93, .t (tI x2.Event.Kind))], [(1000000, .box (lset (q10 (u7_2 s s2.1)) [(11, .own 1000001)])), (1000001, .rs 85 7 s2.2 q14)]⟩) ?_ fun A_1 => ?_
         ·refine TieA.all [11, 16] (by kernel_rfl) rfl (AllA.cons _ rfl rfl ?_ A_2 ?_)
          ·refine TieO.withH hv4 (TieO.call _ rfl rfl rfl (q40 x2.Event.Kind) (fun _ => rfl) (TieO.ifH ?_))
           exact TieO.nil (TieS.leaf ⟨rfl, .of rfl rfl⟩)
          exact AllA.runTo _ rfl rfl rfl (.of rfl rfl) A_8 (AllA.nil)
         refine TieA.have_ (fuel₁ := 8) (l₁ := (bm 19 66559)) (σ₁ := ⟨[(0, .ptr 1000000 0), (4, .pe 1000001 (Int.toNat v) 7 0), (5, .t (tI (maxI (w64 (s.Clock.At + v3)) (w64 (s2.1.Now + 1))))), (6, .ptr 6 0), (17, .t (tI (s.Timer.Channels.length : Int))), (18, .t (tI i)), (86, .agg [.t (tI s2.1.Now), .t (tS q12 s2.1.Channels)]), (87, .t (tI i)), (88, .t (tI (maxI (w64 (s.Clock.At + v3)) (w64 (s2.1.Now + 1))))), (92, .pe 1000001 (Int.toNat v) 7 1)], [(6, .box [.t (tI 0), .t (.v (.slice none 0 0))]), (1000000, .box (lset (q10 (u7_2 s s2.1)) [(11, .own 1000001)])), (1000001, .rs 85 7 s2.2 q14)]⟩) ?_ fun A_9 => ?_
         ·refine TieA.all [10] (by kernel_rfl) rfl (AllA.cons _ rfl rfl ?_ A_8 ?_)
          ·exact TieO.loadY hx2 rfl rfl rfl rfl rfl rfl rfl rfl (.nil (TieS.leaf ⟨rfl, .of rfl rfl⟩))
          exact AllA.nil
         refine TieA.have_ (fuel₁ := 11) (l₁ := (bm 19 65663)) (σ₁ := ⟨[(0, .ptr 1000000 0), (4, .pe 1000001 (Int.toNat v) 7 0), (5, .t (tI (maxI (w64 (s.Clock.At + v3)) (w64 (s2.1.Now + 1))))), (6, .ptr 6 0), (17, .t (tI (s.Timer.Channels.length : Int))), (18, .t (tI i)), (86, .agg [.t (tI s2.1.Now), .t (tS q12 s2.1.Channels)]), (87, .t (tI i)), (88, .t (tI (maxI (w64 (s.Clock.At + v3)) (w64 (s2.1.Now + 1))))), (89, .pe 1000001 (Int.toNat v) 7 0)], [(6, .box [.t (tI 0), .t (.v (.slice none 0 0))]), (1000000, .box (lset (q10 (u7_2 s s2.1)) [(11, .own 1000001)])), (1000001, .rs 85 7 s2.2 q14)]⟩) ?_ fun A_10 => ?_
         ·refine TieA.all [7] (by kernel_rfl) rfl (AllA.run _ rfl rfl rfl ?_ ?_)
          ·refine TieA.fI 8 rfl rfl rfl (by kernel_rfl) rfl rfl rfl (.fI 9 rfl rfl rfl (by kernel_rfl) rfl rfl rfl (.all [10] (by kernel_rfl) rfl (AllA.cons _ rfl rfl ?_ A_8 ?_)))
           ·exact TieO.loadY hx2 rfl rfl rfl rfl rfl rfl rfl rfl (.nil (TieS.leaf ⟨rfl, .of rfl rfl⟩))
           exact AllA.nil
          exact AllA.nil
         refine TieA.have_ (fuel₁ := 12) (l₁ := (bm 19 127)) (σ₁ := ⟨[(0, .ptr 1000000 0), (4, .pe 1000001 (Int.toNat v) 7 0), (5, .t (tI (maxI (w64 (s.Clock.At + v3)) (w64 (s2.1.Now + 1))))), (17, .t (tI (s.Timer.Channels.length : Int))), (18, .t (tI i)), (86, .agg [.t (tI s2.1.Now), .t (tS q12 s2.1.Channels)]), (87, .t (tI i)), (88, .t (tI (maxI (w64 (s.Clock.At + v3)) (w64 (s2.1.Now + 1))))), (89, .pe 1000001 (Int.toNat v) 7 0)], [(1000000, .box (lset (q10 (u7_2 s s2.1)) [(11, .own 1000001)])), (1000001, .rs 85 7 s2.2 q14)]⟩) ?_ fun A_0 => ?_
         ·refine TieA.all [7, 16] (by kernel_rfl) rfl (AllA.run _ rfl rfl rfl ?_ ?_)
          ·refine TieA.fI 8 rfl rfl rfl (by kernel_rfl) rfl rfl rfl (.fI 9 rfl rfl rfl (by kernel_rfl) rfl rfl rfl (.all [10, 16] (by kernel_rfl) rfl (AllA.cons _ rfl rfl ?_ A_1 ?_)))
           ·exact TieO.loadY hx2 rfl rfl rfl rfl rfl rfl rfl rfl (.nil (TieS.leaf ⟨rfl, .of rfl rfl⟩))
           exact AllA.runTo _ rfl rfl rfl (.of rfl rfl) A_9 (AllA.nil)
          exact AllA.runTo _ rfl rfl rfl (.of rfl rfl) A_10 (AllA.nil)
         refine TieA.have_ (fuel₁ := 9) (l₁ := (bm 19 1023)) (σ₁ := ⟨[(0, .ptr 1000000 0), (4, .pe 1000001 (Int.toNat v) 7 0), (5, .t (tI (maxI (w64 (s.Clock.At + v3)) (w64 (s2.1.Now + 1))))), (17, .t (tI (s.Timer.Channels.length : Int))), (18, .t (tI i)), (86, .agg [.t (tI s2.1.Now), .t (tS q12 s2.1.Channels)]), (87, .t (tI i)), (88, .t (tI (maxI (w64 (s.Clock.At + v3)) (w64 (s2.1.Now + 1))))), (92, .pe 1000001 (Int.toNat v) 7 1)], [(1000000, .box (lset (q10 (u7_2 s s2.1)) [(11, .own 1000001)])), (1000001, .rs 85 7 s2.2 q14)]⟩) ?_ fun A_11 => ?_
         ·refine TieA.all [10, 16] (by kernel_rfl) rfl (AllA.cons _ rfl rfl ?_ A_1 ?_)
          ·exact TieO.loadY hx2 rfl rfl rfl rfl rfl rfl rfl rfl (.nil (TieS.leaf ⟨rfl, .of rfl rfl⟩))
          exact AllA.runTo _ rfl rfl rfl (.of rfl rfl) A_9 (AllA.nil)
         refine TieA.have_ (fuel₁ := 7) (l₁ := (bm 19 69615)) (σ₁ := ⟨[(0, .ptr 1000000 0), (2, .el (Pv.encI i)), (4, .pe 1000001 (Int.toNat v) 7 0), (5, .t (tI (maxI (w64 (s.Clock.At + v3)) (w64 (s2.1.Now + 1))))), (6, .ptr 6 0), (17, .t (tI (s.Timer.Channels.length : Int))), (18, .t (tI i)), (86, .agg [.t (tI s2.1.Now), .t (tS q12 s2.1.Channels)]), (88, .t (tI (maxI (w64 (s.Clock.At + v3)) (w64 (s2.1.Now + 1))))), (94, .t (tB v4))], [(6, .box [.t (tI 0), .t (.v (.slice none 0 0))]), (1000000, .box (lset (q10 (u7_2 s s2.1)) [(11, .own 1000001)])), (1000001, .rs 85 7 s2.2 q14)]⟩) ?_ fun A_14 => ?_
         ·exact TieA.all [4] (by kernel_rfl) rfl (AllA.runTo _ rfl rfl rfl (.of rfl rfl) A_7 (AllA.nil))
         refine TieA.have_ (fuel₁ := 8) (l₁ := (bm 19 4079)) (σ₁ := ⟨[(0, .ptr 1000000 0), (2, .el (Pv.encI i)), (4, .pe 1000001 (Int.toNat v) 7 0), (5, .t (tI (maxI (w64 (s.Clock.At + v3)) (w64 (s2.1.Now + 1))))), (17, .t (tI (s.Timer.Channels.length : Int))), (18, .t (tI i)), (86, .agg [.t (tI s2.1.Now), .t (tS q12 s2.1.Channels)]), (88, .t (tI (maxI (w64 (s.Clock.At + v3)) (w64 (s2.1.Now + 1))))), (94, .t (tB v4))], [(1000000, .box (lset (q10 (u7_2 s s2.1)) [(11, .own 1000001)])), (1000001, .rs 85 7 s2.2 q14)]⟩) ?_ fun A_13 => ?_
         ·exact TieA.all [4, 16] (by kernel_rfl) rfl (AllA.runTo _ rfl rfl rfl (.of rfl rfl) A_2 (AllA.runTo _ rfl rfl rfl (.of rfl rfl) A_14 (AllA.nil)))
         refine TieA.have_ (fuel₁ := 8) (l₁ := (bm 19 67567)) (σ₁ := ⟨[(0, .ptr 1000000 0), (2, .el (Pv.encI i)), (4, .pe 1000001 (Int.toNat v) 7 0), (5, .t (tI (maxI (w64 (s.Clock.At + v3)) (w64 (s2.1.Now + 1))))), (6, .ptr 6 0), (17, .t (tI (s.Timer.Channels.length : Int))), (18, .t (tI i)), (86, .agg [.t (tI s2.1.Now), .t (tS q12 s2.1.Channels)]), (88, .t (tI (maxI (w64 (s.Clock.At + v3)) (w64 (s2.1.Now + 1))))), (93, .t (tI x2.Event.Kind))], [(6, .box [.t (tI 0), .t (.v (.slice none 0 0))]), (1000000, .box (lset (q10 (u7_2 s s2.1)) [(11, .own 1000001)])), (1000001, .rs 85 7 s2.2 q14)]⟩) ?_ fun A_15 => ?_
         ·refine TieA.all [4, 11] (by kernel_rfl) rfl (AllA.runTo _ rfl rfl rfl (.of rfl rfl) A_8 (AllA.cons _ rfl rfl ?_ A_14 ?_))
          ·refine TieO.withH hv4 (TieO.call _ rfl rfl rfl (q40 x2.Event.Kind) (fun _ => rfl) (TieO.ifH ?_))
           exact TieO.nil (TieS.leaf ⟨rfl, .of rfl rfl⟩)
          exact AllA.nil
         refine TieA.have_ (fuel₁ := 9) (l₁ := (bm 19 2031)) (σ₁ := ⟨[(0, .ptr 1000000 0), (2, .el (Pv.encI i)), (4, .pe 1000001 (Int.toNat v) 7 0), (5, .t (tI (maxI (w64 (s.Clock.At + v3)) (w64 (s2.1.Now + 1))))), (17, .t (tI (s.Timer.Channels.length : Int))), (18, .t (tI i)), (86, .agg [.t (tI s2.1.Now), .t (tS q12 s2.1.Channels)]), (88, .t (tI (maxI (w64 (s.Clock.At + v3)) (w64 (s2.1.Now + 1))))), (93, .t (tI x2.Event.Kind))], [(1000000, .box (lset (q10 (u7_2 s s2.1)) [(11, .own 1000001)])), (1000001, .rs 85 7 s2.2 q14)]⟩) ?_ fun A_12 => ?_
         ·refine TieA.all [4, 11, 16] (by kernel_rfl) rfl (AllA.runTo _ rfl rfl rfl (.of rfl rfl) A_1 (AllA.cons _ rfl rfl ?_ A_13 ?_))
          ·refine TieO.withH hv4 (TieO.call _ rfl rfl rfl (q40 x2.Event.Kind) (fun _ => rfl) (TieO.ifH ?_))
           exact TieO.nil (TieS.leaf ⟨rfl, .of rfl rfl⟩)
          exact AllA.runTo _ rfl rfl rfl (.of rfl rfl) A_15 (AllA.nil)
         refine TieA.have_ (fuel₁ := 9) (l₁ := (bm 19 66543)) (σ₁ := ⟨[(0, .ptr 1000000 0), (2, .el (Pv.encI i)), (4, .pe 1000001 (Int.toNat v) 7 0), (5, .t (tI (maxI (w64 (s.Clock.At + v3)) (w64 (s2.1.Now + 1))))), (6, .ptr 6 0), (17, .t (tI (s.Timer.Channels.length : Int))), (18, .t (tI i)), (86, .agg [.t (tI s2.1.Now), .t (tS q12 s2.1.Channels)]), (88, .t (tI (maxI (w64 (s.Clock.At + v3)) (w64 (s2.1.Now + 1))))), (92, .pe 1000001 (Int.toNat v) 7 1)], [(6, .box [.t (tI 0), .t (.v (.slice none 0 0))]), (1000000, .box (lset (q10 (u7_2 s s2.1)) [(11, .own 1000001)])), (1000001, .rs 85 7 s2.2 q14)]⟩) ?_ fun A_16 => ?_
         ·refine TieA.all [4, 10] (by kernel_rfl) rfl (AllA.runTo _ rfl rfl rfl (.of rfl rfl) A_9 (AllA.cons _ rfl rfl ?_ A_15 ?_))
          ·exact TieO.loadY hx2 rfl rfl rfl rfl rfl rfl rfl rfl (.nil (TieS.leaf ⟨rfl, .of rfl rfl⟩))
          exact AllA.nil
         refine TieA.have_ (fuel₁ := 12) (l₁ := (bm 19 65647)) (σ₁ := ⟨[(0, .ptr 1000000 0), (2, .el (Pv.encI i)), (4, .pe 1000001 (Int.toNat v) 7 0), (5, .t (tI (maxI (w64 (s.Clock.At + v3)) (w64 (s2.1.Now + 1))))), (6, .ptr 6 0), (17, .t (tI (s.Timer.Channels.length : Int))), (18, .t (tI i)), (86, .agg [.t (tI s2.1.Now), .t (tS q12 s2.1.Channels)]), (88, .t (tI (maxI (w64 (s.Clock.At + v3)) (w64 (s2.1.Now + 1))))), (89, .pe 1000001 (Int.toNat v) 7 0)], [(6, .box [.t (tI 0), .t (.v (.slice none 0 0))]), (1000000, .box (lset (q10 (u7_2 s s2.1)) [(11, .own 1000001)])), (1000001, .rs 85 7 s2.2 q14)]⟩) ?_ fun A_17 => ?_
         ·refine TieA.all [4, 7] (by kernel_rfl) rfl (AllA.runTo _ rfl rfl rfl (.of rfl rfl) A_10 (AllA.run _ rfl rfl rfl ?_ ?_))
          ·refine TieA.fI 8 rfl rfl rfl (by kernel_rfl) rfl rfl rfl (.fI 9 rfl rfl rfl (by kernel_rfl) rfl rfl rfl (.all [4, 10] (by kernel_rfl) rfl (AllA.runTo _ rfl rfl rfl (.of rfl rfl) A_9 (AllA.cons _ rfl rfl ?_ A_15 ?_))))
           ·exact TieO.loadY hx2 rfl rfl rfl rfl rfl rfl rfl rfl (.nil (TieS.leaf ⟨rfl, .of rfl rfl⟩))
           exact AllA.nil
          exact AllA.nil
         refine TieA.have_ (fuel₁ := 7) (l₁ := (bm 19 69623)) (σ₁ := ⟨[(0, .ptr 1000000 0), (4, .pe 1000001 (Int.toNat v) 7 0), (5, .t (tI (maxI (w64 (s.Clock.At + v3)) (w64 (s2.1.Now + 1))))), (6, .ptr 6 0), (17, .t (tI (s.Timer.Channels.length : Int))), (18, .t (tI i)), (85, .ptr 1000000 8), (87, .t (tI i)), (88, .t (tI (maxI (w64 (s.Clock.At + v3)) (w64 (s2.1.Now + 1))))), (94, .t (tB v4))], [(6, .box [.t (tI 0), .t (.v (.slice none 0 0))]), (1000000, .box (lset (q10 (u7_2 s s2.1)) [(11, .own 1000001)])), (1000001, .rs 85 7 s2.2 q14)]⟩) ?_ fun A_20 => ?_
         ·exact TieA.all [3] (by kernel_rfl) rfl (AllA.runTo _ rfl rfl rfl (.of rfl rfl) A_7 (AllA.nil))
         refine TieA.have_ (fuel₁ := 8) (l₁ := (bm 19 4087)) (σ₁ := ⟨[(0, .ptr 1000000 0), (4, .pe 1000001 (Int.toNat v) 7 0), (5, .t (tI (maxI (w64 (s.Clock.At + v3)) (w64 (s2.1.Now + 1))))), (17, .t (tI (s.Timer.Channels.length : Int))), (18, .t (tI i)), (85, .ptr 1000000 8), (87, .t (tI i)), (88, .t (tI (maxI (w64 (s.Clock.At + v3)) (w64 (s2.1.Now + 1))))), (94, .t (tB v4))], [(1000000, .box (lset (q10 (u7_2 s s2.1)) [(11, .own 1000001)])), (1000001, .rs 85 7 s2.2 q14)]⟩) ?_ fun A_19 => ?_
         ·exact TieA.all [3, 16] (by kernel_rfl) rfl (AllA.runTo _ rfl rfl rfl (.of rfl rfl) A_2 (AllA.runTo _ rfl rfl rfl (.of rfl rfl) A_20 (AllA.nil)))
         refine TieA.have_ (fuel₁ := 8) (l₁ := (bm 19 67575)) (σ₁ := ⟨[(0, .ptr 1000000 0), (4, .pe 1000001 (Int.toNat v) 7 0), (5, .t (tI (maxI (w64 (s.Clock.At + v3)) (w64 (s2.1.Now + 1))))), (6, .ptr 6 0), (17, .t (tI (s.Timer.Channels.length : Int))), (18, .t (tI i)), (85, .ptr 1000000 8), (87, .t (tI i)), (88, .t (tI (maxI (w64 (s.Clock.At + v3)) (w64 (s2.1.Now + 1))))), (93, .t (tI x2.Event.Kind))], [(6, .box [.t (tI 0), .t (.v (.slice none 0 0))]), (1000000, .box (lset (q10 (u7_2 s s2.1)) [(11, .own 1000001)])), (1000001, .rs 85 7 s2.2 q14)]⟩) ?_ fun A_21 => ?_
         ·refine TieA.all [3, 11] (by kernel_rfl) rfl (AllA.runTo _ rfl rfl rfl (.of rfl rfl) A_8 (AllA.cons _ rfl rfl ?_ A_20 ?_))
          ·refine TieO.withH hv4 (TieO.call _ rfl rfl rfl (q40 x2.Event.Kind) (fun _ => rfl) (TieO.ifH ?_))
           exact TieO.nil (TieS.leaf ⟨rfl, .of rfl rfl⟩)
          exact AllA.nil
         refine TieA.have_ (fuel₁ := 9) (l₁ := (bm 19 2039)) (σ₁ := ⟨[(0, .ptr 1000000 0), (4, .pe 1000001 (Int.toNat v) 7 0), (5, .t (tI (maxI (w64 (s.Clock.At + v3)) (w64 (s2.1.Now + 1))))), (17, .t (tI (s.Timer.Channels.length : Int))), (18, .t (tI i)), (85, .ptr 1000000 8), (87, .t (tI i)), (88, .t (tI (maxI (w64 (s.Clock.At + v3)) (w64 (s2.1.Now + 1))))), (93, .t (tI x2.Event.Kind))], [(1000000, .box (lset (q10 (u7_2 s s2.1)) [(11, .own 1000001)])), (1000001, .rs 85 7 s2.2 q14)]⟩) ?_ fun A_18 => ?_
         ·refine TieA.all [3, 11, 16] (by kernel_rfl) rfl (AllA.runTo _ rfl rfl rfl (.of rfl rfl) A_1 (AllA.cons _ rfl rfl ?_ A_19 ?_))
          ·refine TieO.withH hv4 (TieO.call _ rfl rfl rfl (q40 x2.Event.Kind) (fun _ => rfl) (TieO.ifH ?_))
           exact TieO.nil (TieS.leaf ⟨rfl, .of rfl rfl⟩)
          exact AllA.runTo _ rfl rfl rfl (.of rfl rfl) A_21 (AllA.nil)
         refine TieA.have_ (fuel₁ := 9) (l₁ := (bm 19 66551)) (σ₁ := ⟨[(0, .ptr 1000000 0), (4, .pe 1000001 (Int.toNat v) 7 0), (5, .t (tI (maxI (w64 (s.Clock.At + v3)) (w64 (s2.1.Now + 1))))), (6, .ptr 6 0), (17, .t (tI (s.Timer.Channels.length : Int))), (18, .t (tI i)), (85, .ptr 1000000 8), (87, .t (tI i)), (88, .t (tI (maxI (w64 (s.Clock.At + v3)) (w64 (s2.1.Now + 1))))), (92, .pe 1000001 (Int.toNat v) 7 1)], [(6, .box [.t (tI 0), .t (.v (.slice none 0 0))]), (1000000, .box (lset (q10 (u7_2 s s2.1)) [(11, .own 1000001)])), (1000001, .rs 85 7 s2.2 q14)]⟩) ?_ fun A_22 => ?_
         ·refine TieA.all [3, 10] (by kernel_rfl) rfl (AllA.runTo _ rfl rfl rfl (.of rfl rfl) A_9 (AllA.cons _ rfl rfl ?_ A_21 ?_))
          ·exact TieO.loadY hx2 rfl rfl rfl rfl rfl rfl rfl rfl (.nil (TieS.leaf ⟨rfl, .of rfl rfl⟩))
          exact AllA.nil
         refine TieA.have_ (fuel₁ := 12) (l₁ := (bm 19 65655)) (σ₁ := ⟨[(0, .ptr 1000000 0), (4, .pe 1000001 (Int.toNat v) 7 0), (5, .t (tI (maxI (w64 (s.Clock.At + v3)) (w64 (s2.1.Now + 1))))), (6, .ptr 6 0), (17, .t (tI (s.Timer.Channels.length : Int))), (18, .t (tI i)), (85, .ptr 1000000 8), (87, .t (tI i)), (88, .t (tI (maxI (w64 (s.Clock.At + v3)) (w64 (s2.1.Now + 1))))), (89, .pe 1000001 (Int.toNat v) 7 0)], [(6, .box [.t (tI 0), .t (.v (.slice none 0 0))]), (1000000, .box (lset (q10 (u7_2 s s2.1)) [(11, .own 1000001)])), (1000001, .rs 85 7 s2.2 q14)]⟩) ?_ fun A_23 => ?_
         ·refine TieA.all [3, 7] (by kernel_rfl) rfl (AllA.runTo _ rfl rfl rfl (.of rfl rfl) A_10 (AllA.run _ rfl rfl rfl ?_ ?_))
          ·refine TieA.fI 8 rfl rfl rfl (by kernel_rfl) rfl rfl rfl (.fI 9 rfl rfl rfl (by kernel_rfl) rfl rfl rfl (.all [3, 10] (by kernel_rfl) rfl (AllA.runTo _ rfl rfl rfl (.of rfl rfl) A_9 (AllA.cons _ rfl rfl ?_ A_21 ?_))))
           ·exact TieO.loadY hx2 rfl rfl rfl rfl rfl rfl rfl rfl (.nil (TieS.leaf ⟨rfl, .of rfl rfl⟩))
           exact AllA.nil
          exact AllA.nil
         refine TieA.have_ (fuel₁ := 8) (l₁ := (bm 19 69607)) (σ₁ := ⟨[(0, .ptr 1000000 0), (2, .el (Pv.encI i)), (4, .pe 1000001 (Int.toNat v) 7 0), (5, .t (tI (maxI (w64 (s.Clock.At + v3)) (w64 (s2.1.Now + 1))))), (6, .ptr 6 0), (17, .t (tI (s.Timer.Channels.length : Int))), (18, .t (tI i)), (85, .ptr 1000000 8), (88, .t (tI (maxI (w64 (s.Clock.At + v3)) (w64 (s2.1.Now + 1))))), (94, .t (tB v4))], [(6, .box [.t (tI 0), .t (.v (.slice none 0 0))]), (1000000, .box (lset (q10 (u7_2 s s2.1)) [(11, .own 1000001)])), (1000001, .rs 85 7 s2.2 q14)]⟩) ?_ fun A_24 => ?_
         ·exact TieA.all [3, 4] (by kernel_rfl) rfl (AllA.runTo _ rfl rfl rfl (.of rfl rfl) A_14 (AllA.runTo _ rfl rfl rfl (.of rfl rfl) A_20 (AllA.nil)))
         refine TieA.have_ (fuel₁ := 9) (l₁ := (bm 19 67559)) (σ₁ := ⟨[(0, .ptr 1000000 0), (2, .el (Pv.encI i)), (4, .pe 1000001 (Int.toNat v) 7 0), (5, .t (tI (maxI (w64 (s.Clock.At + v3)) (w64 (s2.1.Now + 1))))), (6, .ptr 6 0), (17, .t (tI (s.Timer.Channels.length : Int))), (18, .t (tI i)), (85, .ptr 1000000 8), (88, .t (tI (maxI (w64 (s.Clock.At + v3)) (w64 (s2.1.Now + 1))))), (93, .t (tI x2.Event.Kind))], [(6, .box [.t (tI 0), .t (.v (.slice none 0 0))]), (1000000, .box (lset (q10 (u7_2 s s2.1)) [(11, .own 1000001)])), (1000001, .rs 85 7 s2.2 q14)]⟩) ?_ fun A_25 => ?_
         ·refine TieA.all [3, 4, 11] (by kernel_rfl) rfl (AllA.runTo _ rfl rfl rfl (.of rfl rfl) A_15 (AllA.runTo _ rfl rfl rfl (.of rfl rfl) A_21 (AllA.cons _ rfl rfl ?_ A_24 ?_)))
          ·refine TieO.withH hv4 (TieO.call _ rfl rfl rfl (q40 x2.Event.Kind) (fun _ => rfl) (TieO.ifH ?_))
           exact TieO.nil (TieS.leaf ⟨rfl, .of rfl rfl⟩)
          exact AllA.nil
         refine TieA.mv 0 rfl (.inl rfl) rfl (by kernel_rfl) rfl (.nP 1 rfl rfl rfl (by kernel_rfl) rfl (.fP 2 rfl rfl rfl (by kernel_rfl) rfl rfl rfl (.mv 5 rfl (.inl rfl) rfl (by kernel_rfl) rfl (.mv 6 rfl (.inl rfl) rfl (by kernel_rfl) rfl ?_))))
         refine TieA.all [3, 4, 7, 16] (by kernel_rfl) rfl (AllA.run _ rfl rfl rfl ?_ ?_)
         ·refine TieA.all [4, 7, 16] (by kernel_rfl) rfl (AllA.runTo _ rfl rfl rfl (.of rfl rfl) A_0 (AllA.run _ rfl rfl rfl ?_ ?_))
          ·refine TieA.fI 8 rfl rfl rfl (by kernel_rfl) rfl rfl rfl (.fI 9 rfl rfl rfl (by kernel_rfl) rfl rfl rfl (.all [4, 10, 16] (by kernel_rfl) rfl (AllA.runTo _ rfl rfl rfl (.of rfl rfl) A_11 (AllA.cons _ rfl rfl ?_ A_12 ?_))))
           ·exact TieO.loadY hx2 rfl rfl rfl rfl rfl rfl rfl rfl (.nil (TieS.leaf ⟨rfl, .of rfl rfl⟩))
           exact AllA.runTo _ rfl rfl rfl (.of rfl rfl) A_16 (AllA.nil)
          exact AllA.runTo _ rfl rfl rfl (.of rfl rfl) A_17 (AllA.nil)
         refine AllA.run _ rfl rfl rfl ?_ ?_
         ·refine TieA.all [3, 7, 16] (by kernel_rfl) rfl (AllA.runTo _ rfl rfl rfl (.of rfl rfl) A_0 (AllA.run _ rfl rfl rfl ?_ ?_))
          ·refine TieA.fI 8 rfl rfl rfl (by kernel_rfl) rfl rfl rfl (.fI 9 rfl rfl rfl (by kernel_rfl) rfl rfl rfl (.all [3, 10, 16] (by kernel_rfl) rfl (AllA.runTo _ rfl rfl rfl (.of rfl rfl) A_11 (AllA.cons _ rfl rfl ?_ A_18 ?_))))
           ·exact TieO.loadY hx2 rfl rfl rfl rfl rfl rfl rfl rfl (.nil (TieS.leaf ⟨rfl, .of rfl rfl⟩))
           exact AllA.runTo _ rfl rfl rfl (.of rfl rfl) A_22 (AllA.nil)
          exact AllA.runTo _ rfl rfl rfl (.of rfl rfl) A_23 (AllA.nil)
         refine AllA.run _ rfl rfl rfl ?_ ?_
         ·refine TieA.fI 8 rfl rfl rfl (by kernel_rfl) rfl rfl rfl (.fI 9 rfl rfl rfl (by kernel_rfl) rfl rfl rfl (.all [3, 4, 10, 16] (by kernel_rfl) rfl (AllA.run _ rfl rfl rfl ?_ ?_)))
          ·refine TieA.all [4, 10, 16] (by kernel_rfl) rfl (AllA.runTo _ rfl rfl rfl (.of rfl rfl) A_11 (AllA.cons _ rfl rfl ?_ A_12 ?_))
           ·exact TieO.loadY hx2 rfl rfl rfl rfl rfl rfl rfl rfl (.nil (TieS.leaf ⟨rfl, .of rfl rfl⟩))
           exact AllA.runTo _ rfl rfl rfl (.of rfl rfl) A_16 (AllA.nil)
          refine AllA.run _ rfl rfl rfl ?_ ?_
          ·refine TieA.all [3, 10, 16] (by kernel_rfl) rfl (AllA.runTo _ rfl rfl rfl (.of rfl rfl) A_11 (AllA.cons _ rfl rfl ?_ A_18 ?_))
           ·exact TieO.loadY hx2 rfl rfl rfl rfl rfl rfl rfl rfl (.nil (TieS.leaf ⟨rfl, .of rfl rfl⟩))
           exact AllA.runTo _ rfl rfl rfl (.of rfl rfl) A_22 (AllA.nil)
          refine AllA.cons (σ₁ := ⟨[(0, .ptr 1000000 0), (2, .el (Pv.encI i)), (4, .pe 1000001 (Int.toNat v) 7 0), (5, .t (tI (maxI (w64 (s.Clock.At + v3)) (w64 (s2.1.Now + 1))))), (17, .t (tI (s.Timer.Channels.length : Int))), (18, .t (tI i)), (85, .ptr 1000000 8), (88, .t (tI (maxI (w64 (s.Clock.At + v3)) (w64 (s2.1.Now + 1))))), (93, .t (tI x2.Event.Kind))], [(1000000, .box (lset (q10 (u7_2 s s2.1)) [(11, .own 1000001)])), (1000001, .rs 85 7 s2.2 q14)]⟩) _ rfl rfl ?_ ?_ ?_
          ·exact TieO.loadY hx2 rfl rfl rfl rfl rfl rfl rfl rfl (.nil (TieS.leaf ⟨rfl, .of rfl rfl⟩))
          ·refine TieA.all [3, 4, 11, 16] (by kernel_rfl) rfl (AllA.runTo _ rfl rfl rfl (.of rfl rfl) A_12 (AllA.runTo _ rfl rfl rfl (.of rfl rfl) A_18 (AllA.cons (σ₁ := ⟨[(0, .ptr 1000000 0), (2, .el (Pv.encI i)), (4, .pe 1000001 (Int.toNat v) 7 0), (5, .t (tI (maxI (w64 (s.Clock.At + v3)) (w64 (s2.1.Now + 1))))), (17, .t (tI (s.Timer.Channels.length : Int))), (18, .t (tI i)), (85, .ptr 1000000 8), (88, .t (tI (maxI (w64 (s.Clock.At + v3)) (w64 (s2.1.Now + 1))))), (94, .t (tB v4))], [(1000000, .box (lset (q10 (u7_2 s s2.1)) [(11, .own 1000001)])), (1000001, .rs 85 7 s2.2 q14)]⟩) _ rfl rfl ?_ ?_ ?_)))
           ·refine TieO.withH hv4 (TieO.call _ rfl rfl rfl (q40 x2.Event.Kind) (fun _ => rfl) (TieO.ifH ?_))
            exact TieO.nil (TieS.leaf ⟨rfl, .of rfl rfl⟩)
           ·exact TieA.all [3, 4, 16] (by kernel_rfl) rfl (AllA.runTo _ rfl rfl rfl (.of rfl rfl) A_13 (AllA.runTo _ rfl rfl rfl (.of rfl rfl) A_19 (AllA.runTo _ rfl rfl rfl (.of rfl rfl) A_24 (AllA.nil))))
           exact AllA.runTo _ rfl rfl rfl (.of rfl rfl) A_25 (AllA.nil)
          refine AllA.run _ rfl rfl rfl ?_ ?_
          ·refine TieA.all [3, 4, 10] (by kernel_rfl) rfl (AllA.runTo _ rfl rfl rfl (.of rfl rfl) A_16 (AllA.runTo _ rfl rfl rfl (.of rfl rfl) A_22 (AllA.cons _ rfl rfl ?_ A_25 ?_)))
           ·exact TieO.loadY hx2 rfl rfl rfl rfl rfl rfl rfl rfl (.nil (TieS.leaf ⟨rfl, .of rfl rfl⟩))
           exact AllA.nil
          exact AllA.nil
         refine AllA.run _ rfl rfl rfl ?_ ?_
         ·refine TieA.all [3, 4, 7] (by kernel_rfl) rfl (AllA.runTo _ rfl rfl rfl (.of rfl rfl) A_17 (AllA.runTo _ rfl rfl rfl (.of rfl rfl) A_23 (AllA.run _ rfl rfl rfl ?_ ?_)))
          ·refine TieA.fI 8 rfl rfl rfl (by kernel_rfl) rfl rfl rfl (.fI 9 rfl rfl rfl (by kernel_rfl) rfl rfl rfl (.all [3, 4, 10] (by kernel_rfl) rfl (AllA.runTo _ rfl rfl rfl (.of rfl rfl) A_16 (AllA.runTo _ rfl rfl rfl (.of rfl rfl) A_22 ?_))))
           refine AllA.cons _ rfl rfl ?_ A_25 ?_
           ·exact TieO.loadY hx2 rfl rfl rfl rfl rfl rfl rfl rfl (.nil (TieS.leaf ⟨rfl, .of rfl rfl⟩))
           exact AllA.nil
          exact AllA.nil
         exact AllA.nil
        exact TieO.run 1 rfl (.nil (.leaf ⟨rfl, .of rfl rfl⟩))
       rintro s3 e σ' _ ⟨rfl, hs⟩
       refine TieX.sub hs (TieS.seq (.region (.run 2 rfl (.nil ?_))))
       refine TieS.cond rfl ?_ ?_
       ·refine TieS.seq (.region (.run 5 rfl (.nil (.region ?_))))
        refine TieO.run 5 rfl (.storeY (u6_2 x2 true) [tB true] hx2 rfl rfl rfl rfl rfl rfl rfl rfl rfl rfl rfl rfl fun l hl => .run 2 rfl (.storeY (u6_3 (u6_2 x2 true) (maxI (w64 (s.Clock.At + v3)) (w64 (s2.1.Now + 1)))) [tI (maxI (w64 (s.Clock.At + v3)) (w64 (s2.1.Now + 1)))] (setM_get hl) rfl rfl rfl rfl rfl rfl rfl rfl rfl rfl rfl rfl fun l2 hl2 => .nil ?_))
        exact TieS.endb (.leaf ⟨rfl, .of rfl rfl⟩)
       ·exact TieS.skip (.endb (.leaf ⟨rfl, .of rfl rfl⟩))
    rintro (t | t | r) e σ' _ hq
    ·obtain ⟨rfl, hs⟩ := hq
     exact TieX.sub hs (TieS.region (.run 2 rfl (.nil (.leaf ⟨rfl, .of rfl rfl⟩))))
    ·obtain ⟨rfl, hs⟩ := hq
     exact TieX.exitOut rfl ⟨(fun h => by cases h), rfl, hs⟩
    ·exact hq.elim
   ·exact TieS.exitOut rfl ⟨(fun h => by cases h), rfl, .of rfl rfl⟩
  rintro (s4 | r) e σ' _ hq
  ·obtain ⟨rfl, hs⟩ := hq
   refine TieX.exit rfl (TieX.sub hs ?_)
   exact TieS.leaf ⟨.inr rfl, ⟨[(1000000, 1000000), (1000001, 1000001)], _, _, rfl, rfl, rfl, rfl, rfl⟩⟩
  ·exact hq.elim
set_option maxRecDepth 100000 in
theorem q385 (t2 : STimer) : TieF Tryz.prog 86 [q112 t2] (q264 t2) (fun r => .tup [.t (tI r.1), .t (tB r.2)]) := by
 refine TieF.intro htab 35 [.tmp 2, .tmp 3] Tryz.call86 Tryz.func86 rfl rfl rfl (Nat.le_of_ble_eq_true rfl) fun w0 L => ?_
 refine TieS.seq (.region (.run 3 rfl (.nil (.seq ?_))))
 refine TieS.seq (.region (.run 1 rfl (.call _ rfl rfl rfl (q234 t2) (fun _ => rfl) fun v => .run 1 rfl ?_)))
 refine TieO.nil (.cond rfl ?_ ?_)
 ·exact TieS.seq (.region (.run 2 rfl (.nil (.ret ⟨.inl rfl, rfl⟩))))
 ·refine TieS.skip (.seq (.region (.run 2 rfl (.nil ?_))))
  refine TieS.seq (.seq (.region (.run 4 rfl (.nil ?_))))
  refine TieS.block (.loop (fun p => ⟨[(4, .t (tI p.2.1)), (5, .t (tB p.2.2)), (12, .t (tS q12 t2.Channels)), (13, .t (tI (t2.Channels.length : Int))), (14, .t (tI p.1))], []⟩) (fun b e σ' => match b with | .inl t => e = .exit 0 ∧ Sub ⟨[(4, .t (tI t.1)), (5, .t (tB t.2))], []⟩ σ' | .inr t => False) (.of rfl rfl) ?_ ?_)
  ·rintro ⟨i, s⟩
   refine TieS.seq (.region (.run 1 rfl (.nil (.seq ?_))))
   refine TieS.cond rfl ?_ ?_
   ·refine TieS.skip (.seq (TieX.pre fun x hx => TieX.sub (σ' := ⟨[(4, .t (tI s.1)), (5, .t (tB s.2)), (12, .t (tS q12 t2.Channels)), (13, .t (tI (t2.Channels.length : Int))), (14, .t (tI i))], []⟩) (.of rfl rfl) (TieS.bind (Q₁ := fun f e σ' => match f with | .next t => e = .normal ∧ Sub ⟨[(4, .t (tI t.1)), (5, .t (tB t.2)), (12, .t (tS q12 t2.Channels)), (13, .t (tI (t2.Channels.length : Int))), (14, .t (tI i))], []⟩ σ' | .brk t => e = .exit 0 ∧ Sub ⟨[(4, .t (tI t.1)), (5, .t (tB t.2))], []⟩ σ' | .ret r => False) ?_ ?_)))
    ·refine TieS.block (.seq (.region (.indexH hx rfl rfl rfl rfl rfl rfl rfl rfl (fun _ => rfl) (.run 3 rfl ?_))))
     refine TieO.nil (.seq (.region (.run 3 rfl (.bind 9 (fun b2 => ⟨[(4, .t (tI s.1)), (5, .t (tB s.2)), (7, .ptr 7 0), (12, .t (tS q12 t2.Channels)), (13, .t (tI (t2.Channels.length : Int))), (14, .t (tI i)), (29, .t (tB b2))], [(7, .box [.t (tB x.Armed), .t (tI x.At), .t (tB x.Next), .t (tB x.Level)])]⟩) (TieO.split 20 rfl ?_ ?_) fun b2 _ => ?_))))
     ·refine TieO.run 3 rfl (.selOr (v := decide (x.At < s.1)) 5 23 (fun b => ⟨[(4, .t (tI s.1)), (5, .t (tB s.2)), (7, .ptr 7 0), (12, .t (tS q12 t2.Channels)), (13, .t (tI (t2.Channels.length : Int))), (14, .t (tI i)), (20, .t (tB true)), (28, .t (tB b))], [(7, .box [.t (tB x.Armed), .t (tI x.At), .t (tB x.Next), .t (tB x.Level)])]⟩) rfl ?_ ?_ ?_)
      ·exact TieO.run 5 rfl (.nil (.leaf ⟨rfl, .of rfl rfl⟩))
      ·exact TieO.run 5 rfl (.nil (.leaf ⟨rfl, .of rfl rfl⟩))
      exact TieO.run 1 rfl (.nil (.leaf ⟨rfl, .of rfl rfl⟩))
     ·exact TieO.run 9 rfl (.nil (.leaf ⟨rfl, .of rfl rfl⟩))
     refine TieO.nil (.cond rfl ?_ ?_)
     ·exact TieS.region (.run 4 rfl (.nil (.endb (.leaf ⟨rfl, .of rfl rfl⟩))))
     ·exact TieS.skip (.endb (.leaf ⟨rfl, .of rfl rfl⟩))
    rintro (t | t | r) e σ' _ hq
    ·obtain ⟨rfl, hs⟩ := hq
     exact TieX.sub hs (TieS.region (.run 2 rfl (.nil (.leaf ⟨rfl, .of rfl rfl⟩))))
    ·obtain ⟨rfl, hs⟩ := hq
     exact TieX.exitOut rfl ⟨(fun h => by cases h), rfl, hs⟩
    ·exact hq.elim
   ·exact TieS.exitOut rfl ⟨(fun h => by cases h), rfl, .of rfl rfl⟩
  rintro (s2 | r) e σ' _ hq
  ·obtain ⟨rfl, hs⟩ := hq
   refine TieX.exit rfl (TieX.sub hs ?_)
   exact TieS.seq (.region (.run 4 rfl (.nil (.ret ⟨.inl rfl, rfl⟩))))
  ·exact hq.elim
set_option maxRecDepth 100000 in
def q333 : Go.Shelf.Ren := ⟨fun | 6 => 115 | 14 => 129 | 15 => 130 | 20 => 143 | 21 => 144 | 22 => 145 | 23 => 146 | 24 => 147 | 25 => 148 | 26 => 149 | 27 => 150 | 28 => 151 | 29 => 152 | 46 => 160 | 47 => 161 | 48 => 162 | 49 => 163 | 50 => 164 | 57 => 178 | n => n, fun | 0 => 0 | 3 => 3 | 4 => 4 | 5 => 5 | 9 => 9 | 22 => 36 | 24 => 52 | 25 => 146 | 39 => 161 | 45 => 170 | 46 => 171 | 50 => 103 | 53 => 177 | 55 => 179 | 66 => 190 | 70 => 194 | 76 => 205 | 77 => 154 | n => n, fun  | n => n⟩
open Go.Shelf in
theorem sortL115 : SlLaysF0.n6 Tryz.prog q333 := {
 mixed := by kernel_rfl,
 f6 := ⟨Tryz.f115.name, by decide, Tryz.func115.trans (congrArg some (by kernel_rfl))⟩,
 f14 := ⟨Tryz.f129.name, by decide, Tryz.func129.trans (congrArg some (by kernel_rfl))⟩,
 f15 := Tryz.func130.trans (congrArg some (by kernel_rfl)),
 f20 := ⟨Tryz.f143.name, by decide, Tryz.func143.trans (congrArg some (by kernel_rfl))⟩,
 f21 := ⟨Tryz.f144.name, by decide, Tryz.func144.trans (congrArg some (by kernel_rfl))⟩,
 f22 := ⟨Tryz.f145.name, by decide, Tryz.func145.trans (congrArg some (by kernel_rfl))⟩,
 f23 := ⟨Tryz.f146.name, by decide, Tryz.func146.trans (congrArg some (by kernel_rfl))⟩,
 f24 := ⟨Tryz.f147.name, by decide, Tryz.func147.trans (congrArg some (by kernel_rfl))⟩,
 f25 := ⟨Tryz.f148.name, by decide, Tryz.func148.trans (congrArg some (by kernel_rfl))⟩,
 f26 := ⟨Tryz.f149.name, by decide, Tryz.func149.trans (congrArg some (by kernel_rfl))⟩,
 f27 := ⟨Tryz.f150.name, by decide, Tryz.func150.trans (congrArg some (by kernel_rfl))⟩,
 f28 := Tryz.func151.trans (congrArg some (by kernel_rfl)),
 f29 := Tryz.func152.trans (congrArg some (by kernel_rfl)),
 f46 := ⟨Tryz.f160.name, by decide, Tryz.func160.trans (congrArg some (by kernel_rfl))⟩,
 f47 := Tryz.func161.trans (congrArg some (by kernel_rfl)),
 f48 := Tryz.func162.trans (congrArg some (by kernel_rfl)),
 f49 := ⟨Tryz.f163.name, by decide, Tryz.func163.trans (congrArg some (by kernel_rfl))⟩,
 f50 := ⟨Tryz.f164.name, by decide, Tryz.func164.trans (congrArg some (by kernel_rfl))⟩,
 f57 := ⟨Tryz.f178.name, by decide, Tryz.func178.trans (congrArg some (by kernel_rfl))⟩,
 t0 := Tryz.underlying0,
 a0 := Tryz.isAgg0,
 z0 := Tryz.sizeOf0,
 v0 := Tryz.zeroValue0,
 t3 := Tryz.underlying3,
 a3 := Tryz.isAgg3,
 z3 := Tryz.sizeOf3,
 v3 := Tryz.zeroValue3,
 t4 := Tryz.underlying4,
 a4 := Tryz.isAgg4,
 z4 := Tryz.sizeOf4,
 v4 := Tryz.zeroValue4,
 t5 := Tryz.underlying5,
 a5 := Tryz.isAgg5,
 z5 := Tryz.sizeOf5,
 v5 := Tryz.zeroValue5,
 t9 := Tryz.underlying9,
 a9 := Tryz.isAgg9,
 z9 := Tryz.sizeOf9,
 v9 := Tryz.zeroValue9,
 t22 := Tryz.underlying36,
 a22 := Tryz.isAgg36,
 z22 := Tryz.sizeOf36,
 v22 := Tryz.zeroValue36,
 t25 := Tryz.underlying146,
 a25 := Tryz.isAgg146,
 z25 := Tryz.sizeOf146,
 v25 := Tryz.zeroValue146,
 t39 := Tryz.underlying161,
 a39 := Tryz.isAgg161,
 z39 := Tryz.sizeOf161,
 v39 := Tryz.zeroValue161,
 t45 := Tryz.underlying170,
 a45 := Tryz.isAgg170,
 z45 := Tryz.sizeOf170,
 v45 := Tryz.zeroValue170,
 t46 := Tryz.underlying171,
 a46 := Tryz.isAgg171,
 z46 := Tryz.sizeOf171,
 v46 := Tryz.zeroValue171,
 t50 := Tryz.underlying103,
 a50 := Tryz.isAgg103,
 z50 := Tryz.sizeOf103,
 v50 := Tryz.zeroValue103,
 t53 := Tryz.underlying177,
 a53 := Tryz.isAgg177,
 z53 := Tryz.sizeOf177,
 v53 := Tryz.zeroValue177,
 t55 := Tryz.underlying179,
 a55 := Tryz.isAgg179,
 z55 := Tryz.sizeOf179,
 v55 := Tryz.zeroValue179,
 t66 := Tryz.underlying190,
 a66 := Tryz.isAgg190,
 z66 := Tryz.sizeOf190,
 v66 := Tryz.zeroValue190,
 t70 := Tryz.underlying194,
 a70 := Tryz.isAgg194,
 z70 := Tryz.sizeOf194,
 v70 := Tryz.zeroValue194,
 t76 := Tryz.underlying205,
 a76 := Tryz.isAgg205,
 z76 := Tryz.sizeOf205,
 v76 := Tryz.zeroValue205,
 t77 := Tryz.underlying154,
 a77 := Tryz.isAgg154,
 z77 := Tryz.sizeOf154,
 v77 := Tryz.zeroValue154 }
theorem q254 (s : List SSwitch) (n : Nat) (cs : List (List Tree)) (f : SSwitch → SSwitch → Option Int) (h : ∀ x0 x1, TieF Tryz.prog n ([q247 x0, q247 x1] ++ cs.map T.el) (f x0 x1) (fun r => .t (tI r))) :
  TieG Tryz.prog 115 [.own 1000000, .fz n cs] [(1000000, .rows 52 3 s.length (s.map q15))] (q88 s f) (fun _ => .tup []) (fun r => [(1000000, .rows 52 3 r.length (r.map q15))]) :=
 sortFunc_tie (E := SSwitch) (enc := q15) (ρ := q333) sortL115 (k := 3) (fun x => [.int .i64 x.At, .int .i64 x.Channel, .bool x.Level]) (fun _ => rfl) (fun _ => rfl) (fun x v hv => by simp only [List.mem_cons, List.not_mem_nil, or_false] at hv; rcases hv with rfl | rfl | rfl <;> rfl) (fun w => Tryz.isAgg52 w) (fun w => Tryz.sizeOf52 w) (A := q247) (fun _ => rfl) f h s
set_option maxRecDepth 100000 in
theorem q242 (vals : List Int) : TieF Tryz.prog 117 [.t (tS Pv.encI vals)] (q95 vals) (fun r => .t (tI r)) := by
 refine TieF.intro htab 18 [.tmp 2] Tryz.call117 Tryz.func117 rfl rfl rfl (Nat.le_of_ble_eq_true rfl) fun w0 L => ?_
 refine TieS.seq (.region (.run 1 rfl (.nil (.seq ?_))))
 refine TieS.region (.run 1 rfl (.nil (.seq (.seq ?_))))
 refine TieS.region (.run 3 rfl (.nil (.block (.loop (fun p => ⟨[(3, .t (tI 0)), (6, .t (tS Pv.encI vals)), (7, .t (tI (vals.length : Int))), (8, .t (tI p.1))], []⟩) (fun b e σ' => match b with | .inl t => e = .exit 0 ∧ Sub ⟨[(3, .t (tI 0))], []⟩ σ' | .inr t => e = .ret ∧ retT tab σ' [.tmp 2] = some (((fun r => .t (tI r)) : Int → T) t)) (.of rfl rfl) ?_ ?_))))
 ·rintro ⟨i, s⟩
  refine TieS.seq (.region (.run 1 rfl (.nil (.seq ?_))))
  refine TieS.cond rfl ?_ ?_
  ·refine TieS.skip (.seq (TieX.pre fun x hx => TieX.sub (σ' := ⟨[(3, .t (tI 0)), (6, .t (tS Pv.encI vals)), (7, .t (tI (vals.length : Int))), (8, .t (tI i))], []⟩) (.of rfl rfl) (TieS.bind (Q₁ := fun f e σ' => match f with | .next t => e = .normal ∧ Sub ⟨[(3, .t (tI 0)), (6, .t (tS Pv.encI vals)), (7, .t (tI (vals.length : Int))), (8, .t (tI i))], []⟩ σ' | .brk t => e = .exit 0 ∧ Sub ⟨[(3, .t (tI 0))], []⟩ σ' | .ret t => e = .ret ∧ retT tab σ' [.tmp 2] = some (((fun r => .t (tI r)) : Int → T) t)) ?_ ?_)))
   ·refine TieS.block (.seq (.region (.indexH hx rfl rfl rfl rfl rfl rfl rfl rfl (fun _ => rfl) (.run 2 rfl ?_))))
    refine TieO.nil (.seq (.region (.run 3 rfl (.nil ?_))))
    refine TieS.cond rfl ?_ ?_
    ·exact TieS.seq (.region (.run 2 rfl (.nil (.ret ⟨rfl, rfl⟩))))
    ·exact TieS.skip (.endb (.leaf ⟨rfl, .of rfl rfl⟩))
   rintro (t | t | t) e σ' _ hq
   ·obtain ⟨rfl, hs⟩ := hq
    exact TieX.sub hs (TieS.region (.run 2 rfl (.nil (.leaf ⟨rfl, .of rfl rfl⟩))))
   ·obtain ⟨rfl, hs⟩ := hq
    exact TieX.exitOut rfl ⟨(fun h => by cases h), rfl, hs⟩
   ·obtain ⟨rfl, hs⟩ := hq
    exact TieX.ret ⟨(fun h => by cases h), rfl, hs⟩
  ·exact TieS.exitOut rfl ⟨(fun h => by cases h), rfl, .of rfl rfl⟩
 rintro (s2 | r2) e σ' _ hq
 ·obtain ⟨rfl, hs⟩ := hq
  refine TieX.exit rfl (TieX.sub hs ?_)
  exact TieS.seq (.region (.run 2 rfl (.nil (.ret ⟨.inl rfl, rfl⟩))))
 ·obtain ⟨rfl, hs⟩ := hq
  exact TieX.ret ⟨.inl rfl, hs⟩
set_option maxRecDepth 100000 in
theorem q260 (x : Int) : TieF Tryz.prog 131 [.t (tI x)] (q173 x) (fun r => .t (tB r)) := by
 refine TieF.intro htab 6 [.tmp 2] Tryz.call131 Tryz.func131 rfl rfl rfl (Nat.le_of_ble_eq_true rfl) fun w0 L => ?_
 refine TieS.seq (.region (.run 1 rfl (.nil (.seq ?_))))
 exact TieS.region (.run 4 rfl (.nil (.ret ⟨.inl rfl, rfl⟩)))
set_option maxRecDepth 100000 in
theorem q36 (x : Int) (y : Int) : TieF Tryz.prog 118 [.t (tI x), .t (tI y)] (q29 x y) (fun r => .t (tI r)) := by
 refine TieF.intro htab 20 [.tmp 4] Tryz.call118 Tryz.func118 rfl rfl rfl (Nat.le_of_ble_eq_true rfl) fun w0 L => ?_
 refine TieS.seq (.region (.run 1 rfl (.nil (.seq ?_))))
 refine TieS.region (.run 1 rfl (.call _ rfl rfl rfl (q260 x) (fun _ => rfl) fun v => .run 1 rfl (.nil ?_)))
 refine TieS.seq (.region (.run 1 rfl (.call _ rfl rfl rfl (q260 y) (fun _ => rfl) fun v2 => .run 1 rfl ?_)))
 refine TieO.nil (.seq (.seq (.region (.run 1 rfl ?_))))
 refine TieO.nil (.cond rfl ?_ ?_)
 ·refine TieS.seq (.seq (.region (.run 1 rfl (.nil ?_))))
  refine TieS.cond rfl ?_ ?_
  ·exact TieS.seq (.region (.run 1 rfl (.nil (.ret ⟨.inl rfl, rfl⟩))))
  ·refine TieS.skip (.seq (.region (.run 1 rfl (.nil ?_))))
   exact TieS.ret ⟨.inl rfl, rfl⟩
 ·refine TieS.skip (.seq (.seq (.region (.run 1 rfl ?_))))
  refine TieO.nil (.cond rfl ?_ ?_)
  ·exact TieS.seq (.region (.run 1 rfl (.nil (.ret ⟨.inl rfl, rfl⟩))))
  ·refine TieS.skip (.seq (.seq (.region (.run 3 rfl ?_))))
   refine TieO.nil (.cond rfl ?_ ?_)
   ·exact TieS.seq (.region (.run 1 rfl (.nil (.ret ⟨.inl rfl, rfl⟩))))
   ·refine TieS.skip (.seq (.seq (.region (.run 3 rfl ?_))))
    refine TieO.nil (.cond rfl ?_ ?_)
    ·exact TieS.seq (.region (.run 1 rfl (.nil (.ret ⟨.inl rfl, rfl⟩))))
    ·refine TieS.skip (.seq (.region (.run 1 rfl (.nil ?_))))
     exact TieS.ret ⟨.inl rfl, rfl⟩
set_option maxRecDepth 100000 in
theorem q325 (a : SSwitch) (b2 : SSwitch) : TieF Tryz.prog 116 [q247 a, q247 b2] (q62 a b2) (fun r => .t (tI r)) := by
 refine TieF.intro htab 17 [.tmp 4] Tryz.call116 Tryz.func116 rfl rfl rfl (Nat.le_of_ble_eq_true rfl) fun w0 L => ?_
 refine TieS.seq (.region (.run 3 rfl (.nil (.seq ?_))))
 refine TieX.pre fun v hv => TieX.pre fun v2 hv2 => TieS.draw 10 [_, _, _, _, _, _, _, _, _, _] [(2, .ptr 2 0), (3, .ptr 3 0), (4, .t (tI 0))] [(2, .box [.t (tI a.At), .t (tI a.Channel), .t (tB a.Level)]), (3, .box [.t (tI b2.At), .t (tI b2.Channel), .t (tB b2.Level)])] mixed (.of rfl rfl) rfl rfl rfl rfl (.cons (.quiet rfl rfl rfl) (.cons (.quiet rfl rfl rfl) (.cons (.quiet rfl rfl rfl) (.cons (.quiet rfl rfl rfl) (.cons (.callV (q36 a.At b2.At) hv rfl rfl rfl rfl) (.cons (.quiet rfl rfl rfl) (.cons (.quiet rfl rfl rfl) (.cons (.quiet rfl rfl rfl) (.cons (.quiet rfl rfl rfl) (.cons (.callV (q36 a.Channel b2.Channel) hv2 rfl rfl rfl rfl) (.nil))))))))))) (.run 1 rfl (.callS _ rfl rfl rfl (q242 ([v, v2] : List Int)) (fun _ => rfl) (fun _ => rfl) fun v3 => ?_))
 exact TieO.run 1 rfl (.nil (.ret ⟨.inl rfl, rfl⟩))
abbrev x87_0 (x : SChannel) : List T := [.t (tB x.Armed), .t (tI x.At), .t (tB x.Next), .t (tB x.Level)]
set_option maxRecDepth 100000 in
set_option maxHeartbeats 4000000 in
theorem q210 (t2 : STimer) (v_to : Int) : TieF Tryz.prog 87 [q112 t2, .t (tI v_to)] (q176 t2 v_to) (fun r => .tup [q112 r.1, .t (tS q15 r.2.1), .t (tI r.2.2)]) := by
 refine TieF.intro htab 77 [.cell 4 29, .tmp 5, .tmp 6] Tryz.call87 Tryz.func87 rfl rfl rfl (Nat.le_of_ble_eq_true rfl) fun w0 L => ?_
 refine TieS.seq (.region (.run 4 rfl (.nil (.seq ?_))))
 refine TieS.region (.run 1 rfl (.callG [] [(900000, 2112)] (fun r2 => ⟨[(0, .agg [.t (tI t2.Now), .t (tS q12 t2.Channels)]), (1, .t (tI v_to)), (2, .ptr 2 0), (4, .ptr 4 0), (5, .t (.v (.slice none 0 0))), (6, .t (tI 0)), (13, .agg [.t (tI t2.Now), .t (tS q12 t2.Channels)]), (14, .tup [.agg [.t (tI r2.1.Now), .own 2112], .t (tI r2.2)])], [(2, .box [.t (tI t2.Now), .t (tS q12 t2.Channels)]), (4, .box [.t (tI 0), .t (.v (.slice none 0 0))]), (2112, .rs 74 4 r2.1.Channels q12)]⟩) (q273 t2 0) rfl rfl rfl rfl rfl rfl rfl (fun _ => rfl) (fun _ => rfl) (fun _ => rfl) (fun _ => .of rfl rfl) fun r2 hr2 => .run 6 rfl (.nil ?_)))
 refine TieS.seq (.block (.seq (.region (.run 3 rfl ?_))))
 refine TieO.nil (.cond rfl ?_ ?_)
 ·exact TieS.seq (.region (.run 5 rfl (.nil (.ret ⟨.inl rfl, rfl⟩))))
 ·refine TieS.seq (.region (.run 5 rfl (.nil (.cond rfl ?_ ?_))))
  ·exact TieS.seq (.region (.run 4 rfl (.nil (.ret ⟨.inl rfl, rfl⟩))))
  ·refine TieS.seq (.region (.run 3 rfl (.nil (.cond rfl ?_ ?_))))
   ·exact TieS.seq (.region (.run 4 rfl (.nil (.ret ⟨.inl rfl, rfl⟩))))
   ·refine TieS.skip (.endb (.seq (.region (.run 1 rfl ?_))))
    refine TieO.nil (.seq (.seq (.region (.run 4 rfl ?_))))
    refine TieO.nil (.block (TieX.nilP 9 2496 52 3 [] rfl rfl rfl rfl rfl (TieS.loop (fun p => ⟨[(1, .t (tI v_to)), (4, .ptr 4 0), (7, .ptr 7 0), (9, .own 2496), (33, .t (tS q12 t2.Channels)), (34, .t (tI (t2.Channels.length : Int))), (35, .t (tI p.1))], [(4, .box [.t (tI 0), .t (.v (.slice none 0 0))]), (7, .box [.t (tI r2.1.Now), .own 2112]), (2112, .rs 74 4 p.2.2 q12), (2496, .rs 52 3 p.2.1 q15)]⟩) (fun b e σ' => match b with | .inl t => e = .exit 1 ∧ Sub ⟨[(1, .t (tI v_to)), (4, .ptr 4 0), (7, .ptr 7 0), (9, .own 2496)], [(4, .box [.t (tI 0), .t (.v (.slice none 0 0))]), (7, .box [.t (tI r2.1.Now), .own 2112]), (2112, .rs 74 4 t.2 q12), (2496, .rs 52 3 t.1 q15)]⟩ σ' | .inr t => False) (.of rfl rfl) ?_ ?_)))
    ·rintro ⟨i, s⟩
     refine TieS.seq (.region (.run 1 rfl (.nil (.seq ?_))))
     refine TieS.cond rfl ?_ ?_
     ·refine TieS.skip (.seq (TieX.sub (σ' := ⟨[(1, .t (tI v_to)), (4, .ptr 4 0), (7, .ptr 7 0), (9, .own 2496), (33, .t (tS q12 t2.Channels)), (34, .t (tI (t2.Channels.length : Int))), (35, .t (tI i))], [(4, .box [.t (tI 0), .t (.v (.slice none 0 0))]), (7, .box [.t (tI r2.1.Now), .own 2112]), (2112, .rs 74 4 s.2 q12), (2496, .rs 52 3 s.1 q15)]⟩) (.of rfl rfl) (TieS.bind (Q₁ := fun f e σ' => match f with | .next t => e = .normal ∧ Sub ⟨[(1, .t (tI v_to)), (4, .ptr 4 0), (7, .ptr 7 0), (9, .own 2496), (33, .t (tS q12 t2.Channels)), (34, .t (tI (t2.Channels.length : Int))), (35, .t (tI i))], [(4, .box [.t (tI 0), .t (.v (.slice none 0 0))]), (7, .box [.t (tI r2.1.Now), .own 2112]), (2112, .rs 74 4 t.2 q12), (2496, .rs 52 3 t.1 q15)]⟩ σ' | .brk t => e = .exit 1 ∧ Sub ⟨[(1, .t (tI v_to)), (4, .ptr 4 0), (7, .ptr 7 0), (9, .own 2496)], [(4, .box [.t (tI 0), .t (.v (.slice none 0 0))]), (7, .box [.t (tI r2.1.Now), .own 2112]), (2112, .rs 74 4 t.2 q12), (2496, .rs 52 3 t.1 q15)]⟩ σ' | .ret r => False) ?_ ?_)))
      ·refine TieS.block (.seq (.region (.run 1 rfl (.index rfl rfl rfl rfl rfl rfl rfl rfl (fun _ => rfl) fun x hx => ?_))))
       refine TieO.run 4 rfl (.nil (.seq (.seq (.region ?_))))
       refine TieO.run 4 rfl (.selOr (v := decide (x.At > v_to)) 5 43 (fun b => ⟨[(1, .t (tI v_to)), (4, .ptr 4 0), (7, .ptr 7 0), (9, .own 2496), (10, .t (tI i)), (11, .ptr 11 0), (33, .t (tS q12 t2.Channels)), (34, .t (tI (t2.Channels.length : Int))), (35, .t (tI i)), (48, .t (tB b))], [(4, .box [.t (tI 0), .t (.v (.slice none 0 0))]), (7, .box [.t (tI r2.1.Now), .own 2112]), (11, .box (x87_0 x)), (2112, .rs 74 4 s.2 q12), (2496, .rs 52 3 s.1 q15)]⟩) rfl ?_ ?_ ?_)
       ·exact TieO.run 5 rfl (.nil (.leaf ⟨rfl, .of rfl rfl⟩))
       ·exact TieO.run 5 rfl (.nil (.leaf ⟨rfl, .of rfl rfl⟩))
       refine TieO.nil (.cond rfl ?_ ?_)
       ·exact TieS.exit rfl (.leaf ⟨rfl, .of rfl rfl⟩)
       ·refine TieS.skip (.seq (.seq (.region (.run 5 rfl ?_))))
        refine TieO.nil (.bind (Q₁ := fun t e σ' => e = .normal ∧ Sub ⟨[(1, .t (tI v_to)), (4, .ptr 4 0), (7, .ptr 7 0), (9, .own 2496), (10, .t (tI i)), (11, .ptr 11 0), (33, .t (tS q12 t2.Channels)), (34, .t (tI (t2.Channels.length : Int))), (35, .t (tI i))], [(4, .box [.t (tI 0), .t (.v (.slice none 0 0))]), (7, .box [.t (tI r2.1.Now), .own 2112]), (11, .box (x87_0 x)), (2112, .rs 74 4 s.2 q12), (2496, .rs 52 3 t q15)]⟩ σ') ?_ ?_)
        ·refine TieS.cond rfl ?_ ?_
         ·refine TieS.region (.run 8 rfl (.appendY (id := 2496) (l := s.1) (r := ([(⟨x.At, i, x.Next⟩ : SSwitch)] : List SSwitch)) (tm' := [(1, .t (tI v_to)), (4, .ptr 4 0), (7, .ptr 7 0), (10, .t (tI i)), (11, .ptr 11 0), (33, .t (tS q12 t2.Channels)), (34, .t (tI (t2.Channels.length : Int))), (35, .t (tI i)), (48, .t (tB ((!x.Armed) || (decide (x.At > v_to))))), (49, .ptr 11 2), (50, .t (tB x.Next)), (51, .ptr 11 3), (52, .t (tB x.Level)), (53, .t (tB (!(x.Next == x.Level)))), (55, .ptr 11 1), (56, .t (tI x.At)), (57, .t (tI i)), (58, .ptr 11 2), (59, .t (tB x.Next)), (60, .agg [.t (tI x.At), .t (tI i), .t (tB x.Next)]), (61, .own 61)]) (hp' := [(4, .box [.t (tI 0), .t (.v (.slice none 0 0))]), (7, .box [.t (tI r2.1.Now), .own 2112]), (11, .box (x87_0 x)), (61, .rs 52 3 ([(⟨x.At, i, x.Next⟩ : SSwitch)] : List SSwitch) q15), (2112, .rs 74 4 s.2 q12)]) rfl rfl rfl rfl rfl rfl rfl (fun _ => rfl) (fun _ => rfl) (.inl ⟨rfl, rfl⟩) (.inr ⟨_, rfl, rfl⟩) (.of rfl rfl) rfl rfl rfl fun l => .run 1 rfl (.nil ?_)))
          exact TieS.leaf ⟨rfl, .of rfl rfl⟩
         ·exact TieS.skip (.leaf ⟨rfl, .of rfl rfl⟩)
        rintro f2 e σ' _ ⟨rfl, hs⟩
        refine TieX.sub hs (TieS.region (.run 6 rfl (.indexO rfl rfl rfl rfl rfl rfl rfl rfl rfl rfl fun x2 hx2 => .storeY (⟨false, 0, false, x.Next⟩ : SChannel) [tB false, tI 0, tB false, tB x.Next] hx2 rfl rfl rfl rfl rfl rfl rfl rfl rfl rfl rfl rfl fun l2 hl2 => ?_)))
        exact TieO.nil (.endb (.leaf ⟨rfl, .of rfl rfl⟩))
      rintro (t | t | r) e σ' _ hq
      ·obtain ⟨rfl, hs⟩ := hq
       exact TieX.sub hs (TieS.region (.run 2 rfl (.nil (.leaf ⟨rfl, .of rfl rfl⟩))))
      ·obtain ⟨rfl, hs⟩ := hq
       exact TieX.exitOut rfl ⟨(fun h => by cases h), rfl, hs⟩
      ·exact hq.elim
     ·exact TieS.exitOut rfl ⟨(fun h => by cases h), rfl, .of rfl rfl⟩
    rintro (s2 | r) e σ' _ hq
    ·obtain ⟨rfl, hs⟩ := hq
     refine TieX.exit rfl (TieX.sub hs ?_)
     refine TieS.seq (.region (.run 1 rfl (.callG [(1000000, 2496)] [] (fun v => ⟨[(1, .t (tI v_to)), (4, .ptr 4 0), (7, .ptr 7 0), (9, .own 2496), (71, .own 2496), (72, .tup [])], [(4, .box [.t (tI 0), .t (.v (.slice none 0 0))]), (7, .box [.t (tI r2.1.Now), .own 2112]), (2112, .rs 74 4 s2.2 q12), (2496, .rs 52 3 v q15)]⟩) (q254 s2.1 116 [] q62 q325) rfl rfl rfl rfl rfl rfl rfl (fun _ => rfl) (fun _ => rfl) (fun _ => rfl) (fun _ => .of rfl rfl) fun v hv => .nil ?_)))
     refine TieS.seq (.region (.run 3 rfl (.nil (.seq ?_))))
     exact TieS.region (.run 5 rfl (.nil (.ret ⟨.inl rfl, rfl⟩)))
    ·exact hq.elim
set_option maxRecDepth 100000 in
theorem q258 (s : List SJob) (n2 : Nat) (cs : List (List Tree)) (del : SJob → Option Bool) (h2 : ∀ x0, TieF Tryz.prog n2 ([A_SJob x0] ++ cs.map T.el) (del x0) (fun r => .t (tB r))) : TieG Tryz.prog 88 [.own 1000000, .fz n2 cs] [(1000000, .rs 85 7 s q14)] (q67 s del) (fun _ => .own 900000) (fun r => [(900000, .rs 85 7 r q14)]) := by
 refine TieG.intro htab 42 [.tmp 4] Tryz.call88 Tryz.func88 rfl rfl rfl (Nat.le_of_ble_eq_true rfl) fun w0 L => ?_
 refine TieS.seq (.region (.run 1 rfl (.nil (.seq ?_))))
 refine TieS.region (.run 2 rfl (.callS _ rfl rfl rfl (q121 s n2 cs del h2) (fun _ => rfl) (fun _ => rfl) fun v => .run 1 rfl (.nil ?_)))
 refine TieS.seq (.seq (.region (.run 2 rfl (.nil ?_))))
 refine TieS.cond rfl ?_ ?_
 ·exact TieS.seq (.region (.run 2 rfl (.nil (.ret ⟨.inl rfl, ⟨[(1000000, 900000)], _, _, rfl, rfl, rfl, rfl, rfl⟩⟩))))
 ·refine TieS.skip (.seq (.seq (.region (.run 3 rfl ?_))))
  refine TieO.nil (.block (.loop (fun t => ⟨[(0, .own 1000000), (1, .fz n2 cs), (5, .t (tI t.1)), (6, .t (tI t.2.1))], [(1000000, .rs 85 7 t.2.2 q14)]⟩) (fun b e σ' => match b with | .inl t => e = .exit 0 ∧ Sub ⟨[(0, .own 1000000), (5, .t (tI t.1))], [(1000000, .rs 85 7 t.2.2 q14)]⟩ σ' | .inr t => False) (.of rfl rfl) ?_ ?_))
  ·intro s2
   refine TieS.seq (.seq (.region (.run 4 rfl (.nil ?_))))
   refine TieS.cond rfl ?_ ?_
   ·refine TieS.skip (.seq (.block (.seq (.region ?_))))
    refine TieO.run 2 rfl (.indexO rfl rfl rfl rfl rfl rfl rfl rfl rfl rfl fun x hx => .loadY hx rfl rfl rfl rfl rfl rfl rfl rfl (.run 2 rfl (.nil ?_)))
    refine TieS.seq (.region (.run 2 rfl (.call _ rfl rfl rfl (h2 x) (fun _ => rfl) fun v2 => .run 1 rfl ?_)))
    refine TieO.nil (.cond rfl ?_ ?_)
    ·refine TieS.seq (.region (.run 3 rfl (.indexO rfl rfl rfl rfl rfl rfl rfl rfl rfl rfl fun x2 hx2 => .storeY x [tI x.Event.Angle, tI x.Event.Kind, tI x.Event.Cylinder, tI x.Event.Pulse, tI x.Left, tB x.Armed, tI x.At] hx2 rfl rfl rfl rfl rfl rfl rfl rfl rfl rfl rfl rfl fun l hl => ?_)))
     refine TieO.nil (.region (.run 3 rfl (.nil (.endb ?_))))
     exact TieS.region (.run 3 rfl (.nil (.leaf ⟨rfl, .of rfl rfl⟩)))
    ·refine TieS.skip (.endb (.region (.run 3 rfl (.nil ?_))))
     exact TieS.leaf ⟨rfl, .of rfl rfl⟩
   ·exact TieS.exitOut rfl ⟨(fun h => by cases h), rfl, .of rfl rfl⟩
  rintro (s3 | r) e σ' _ hq
  ·obtain ⟨rfl, hs⟩ := hq
   refine TieX.exit rfl (TieX.sub hs ?_)
   refine TieS.seq (.region (.run 2 rfl (.viewO rfl rfl rfl rfl rfl rfl rfl rfl rfl rfl rfl fun u hu => .clearV (⟨(⟨0, 0, 0, 0⟩ : SEvent), 0, false, 0⟩ : SJob) hu chk_le rfl rfl rfl rfl rfl rfl rfl rfl rfl rfl rfl ?_)))
   refine TieO.nil (.seq (.region (.run 2 rfl (.sliceO (id' := 2328) (tm' := [(5, .t (tI s3.1)), (37, .t (tI s3.1)), (40, .t (tI s3.1))]) (hp' := []) rfl rfl rfl rfl rfl rfl rfl rfl rfl (.of rfl rfl) rfl rfl rfl rfl fun l2 hl2 => ?_))))
   exact TieO.run 1 rfl (.nil (.ret ⟨.inl rfl, ⟨[(2328, 900000)], _, _, rfl, rfl, rfl, rfl, rfl⟩⟩))
  ·exact hq.elim
set_option maxRecDepth 100000 in
theorem q301 (j : SJob) (c : Int) : TieF Tryz.prog 89 [A_SJob j, .el (Pv.encI c)] (q167 j c) (fun r => .t (tB r)) := by
 refine TieF.intro htab 12 [.tmp 3] Tryz.call89 Tryz.func89 rfl rfl rfl (Nat.le_of_ble_eq_true rfl) fun w0 L => ?_
 refine TieS.seq (.region (.run 2 rfl (.nil (.seq ?_))))
 refine TieS.region (.run 3 rfl (.selAnd (v := (j.At == c)) 5 6 (fun b => ⟨[(11, .t (tB b))], []⟩) rfl ?_ ?_ ?_))
 ·exact TieO.run 5 rfl (.nil (.leaf ⟨rfl, .of rfl rfl⟩))
 ·exact TieO.run 5 rfl (.nil (.leaf ⟨rfl, .of rfl rfl⟩))
 exact TieO.run 1 rfl (.nil (.ret ⟨.inl rfl, rfl⟩))
set_option maxRecDepth 100000 in
set_option maxHeartbeats 4000000 in
theorem q337 (s : SScheduler) (v_to : Int) : TieG Tryz.prog 41 [.ptr 1000000 0, .t (tI v_to)] [(1000000, .box (lset (q10 s) [(11, .own 1000001)])), (1000001, .rs 85 7 s.Jobs q14)] (q163 s v_to) (fun r => .t (tS q15 r.1)) (fun r => [(900000, .rs 85 7 r.2.Jobs q14), (1000000, .box (lset (q10 r.2) [(11, .own 900000)]))]) := by
 refine TieG.intro htab 74 [.tmp 4] Tryz.call41 Tryz.func41 rfl rfl rfl (Nat.le_of_ble_eq_true rfl) fun w0 L => ?_
 refine TieS.seq (.region (.run 1 rfl (.nil (.seq ?_))))
 refine TieS.region (.run 1 rfl (.nil (.seq (.block ?_))))
 refine TieX.nilP 5 2360 52 3 [] rfl rfl rfl rfl rfl (TieX.sub (σ' := ⟨[(0, .ptr 1000000 0), (1, .t (tI v_to)), (5, .own 2360)], [(2360, .rs 52 3 ([] : List SSwitch) q15), (1000000, .box (lset (q10 s) [(11, .own 1000001)])), (1000001, .rs 85 7 s.Jobs q14)]⟩) (.of rfl rfl) (TieX.ren [(2360, 2360), (1000000, 1000000), (1000001, 2416)] rfl rfl rfl (TieS.loop (fun t => ⟨[(0, .ptr 1000000 0), (1, .t (tI v_to)), (5, .own 2360)], [(2360, .rs 52 3 t.1 q15), (2416, .rs 85 7 t.2.Jobs q14), (1000000, .box (lset (q10 t.2) [(11, .own 2416)]))]⟩) (fun b e σ' => match b with | .inl t => e = .exit 0 ∧ Sub ⟨[(0, .ptr 1000000 0), (1, .t (tI v_to)), (5, .own 2360)], [(2360, .rs 52 3 t.1 q15), (2416, .rs 85 7 t.2.Jobs q14), (1000000, .box (lset (q10 t.2) [(11, .own 2416)]))]⟩ σ' | .inr t => False) (.of rfl rfl) ?_ ?_)))
 ·intro s2
  refine TieS.block (.seq (.region (.run 4 rfl (.call _ rfl rfl rfl (q385 (⟨s2.2.Timer.Now, s2.2.Timer.Channels⟩ : STimer)) (fun _ => rfl) fun r2 => ?_))))
  refine TieO.run 6 rfl (.nil (.seq (.seq (.region ?_))))
  refine TieO.run 3 rfl (.selOr (v := decide (r2.1 > v_to)) 4 24 (fun b => ⟨[(0, .ptr 1000000 0), (1, .t (tI v_to)), (5, .own 2360), (6, .ptr 6 0), (28, .t (tB b))], [(6, .box [.t (tI r2.1)]), (2360, .rs 52 3 s2.1 q15), (2416, .rs 85 7 s2.2.Jobs q14), (1000000, .box (lset (q10 s2.2) [(11, .own 2416)]))]⟩) rfl ?_ ?_ ?_)
  ·exact TieO.run 4 rfl (.nil (.leaf ⟨rfl, .of rfl rfl⟩))
  ·exact TieO.run 4 rfl (.nil (.leaf ⟨rfl, .of rfl rfl⟩))
  refine TieO.nil (.cond rfl ?_ ?_)
  ·exact TieS.exitOut rfl ⟨(fun h => by cases h), rfl, .of rfl rfl⟩
  ·refine TieS.skip (.seq (.bind (Q₁ := fun t e σ' => e = .normal ∧ Sub ⟨[(0, .ptr 1000000 0), (1, .t (tI v_to)), (5, .own 2360), (6, .ptr 6 0), (8, .ptr 8 0), (9, .t (tS q15 t.1))], [(6, .box [.t (tI r2.1)]), (8, .box [.t (tI t.2.Now), .t (tS q12 t.2.Channels)]), (2360, .rs 52 3 s2.1 q15), (2416, .rs 85 7 s2.2.Jobs q14), (1000000, .box (lset (q10 s2.2) [(11, .own 2416)]))]⟩ σ') ?_ ?_))
   ·refine TieX.pre fun r3 hr3 => TieS.draws 13 (bm 14 0) (bm 14 8191) ⟨[(0, .ptr 1000000 0), (1, .t (tI v_to)), (5, .own 2360), (6, .ptr 6 0), (8, .ptr 8 0), (9, .t (tS q15 r3.2.1)), (38, .t (tI r3.2.2))], [(6, .box [.t (tI r2.1)]), (8, .box [.t (tI r3.1.Now), .t (tS q12 r3.1.Channels)]), (2360, .rs 52 3 s2.1 q15), (2416, .rs 85 7 s2.2.Jobs q14), (1000000, .box (lset (q10 s2.2) [(11, .own 2416)]))]⟩ mixed (fun _ _ _ h => by cases h.1) rfl rfl rfl rfl ?_ ?_
    ·refine TieA.have_ (fuel₁ := 2) (l₁ := (bm 14 4095)) (σ₁ := ⟨[(0, .ptr 1000000 0), (1, .t (tI v_to)), (5, .own 2360), (6, .ptr 6 0), (8, .ptr 8 0), (37, .t (tS q15 r3.2.1)), (38, .t (tI r3.2.2))], [(6, .box [.t (tI r2.1)]), (8, .box [.t (tI r3.1.Now), .t (tS q12 r3.1.Channels)]), (2360, .rs 52 3 s2.1 q15), (2416, .rs 85 7 s2.2.Jobs q14), (1000000, .box (lset (q10 s2.2) [(11, .own 2416)]))]⟩) ?_ fun A_4 => ?_
     ·exact TieA.mv 12 rfl (.inr rfl) rfl (by kernel_rfl) rfl (.done (.of rfl rfl))
     refine TieA.have_ (fuel₁ := 3) (l₁ := (bm 14 2047)) (σ₁ := ⟨[(0, .ptr 1000000 0), (1, .t (tI v_to)), (5, .own 2360), (6, .ptr 6 0), (8, .ptr 8 0), (36, .agg [.t (tI r3.1.Now), .t (tS q12 r3.1.Channels)]), (37, .t (tS q15 r3.2.1)), (38, .t (tI r3.2.2))], [(6, .box [.t (tI r2.1)]), (8, .box [.t (tI 0), .t (.v (.slice none 0 0))]), (2360, .rs 52 3 s2.1 q15), (2416, .rs 85 7 s2.2.Jobs q14), (1000000, .box (lset (q10 s2.2) [(11, .own 2416)]))]⟩) ?_ fun A_3 => ?_
     ·exact TieA.all [11] (by kernel_rfl) rfl (AllA.runTo _ rfl rfl rfl (.of rfl rfl) A_4 (AllA.nil))
     refine TieA.have_ (fuel₁ := 4) (l₁ := (bm 14 1023)) (σ₁ := ⟨[(0, .ptr 1000000 0), (1, .t (tI v_to)), (5, .own 2360), (6, .ptr 6 0), (36, .agg [.t (tI r3.1.Now), .t (tS q12 r3.1.Channels)]), (37, .t (tS q15 r3.2.1)), (38, .t (tI r3.2.2))], [(6, .box [.t (tI r2.1)]), (2360, .rs 52 3 s2.1 q15), (2416, .rs 85 7 s2.2.Jobs q14), (1000000, .box (lset (q10 s2.2) [(11, .own 2416)]))]⟩) ?_ fun A_2 => ?_
     ·exact TieA.all [10] (by kernel_rfl) rfl (AllA.runTo _ rfl rfl rfl (.of rfl rfl) A_3 (AllA.nil))
     refine TieA.have_ (fuel₁ := 3) (l₁ := (bm 14 3583)) (σ₁ := ⟨[(0, .ptr 1000000 0), (1, .t (tI v_to)), (5, .own 2360), (6, .ptr 6 0), (8, .ptr 8 0), (29, .tup [.agg [.t (tI r3.1.Now), .t (tS q12 r3.1.Channels)], .t (tS q15 r3.2.1), .t (tI r3.2.2)]), (37, .t (tS q15 r3.2.1))], [(6, .box [.t (tI r2.1)]), (8, .box [.t (tI r3.1.Now), .t (tS q12 r3.1.Channels)]), (2360, .rs 52 3 s2.1 q15), (2416, .rs 85 7 s2.2.Jobs q14), (1000000, .box (lset (q10 s2.2) [(11, .own 2416)]))]⟩) ?_ fun A_6 => ?_
     ·refine TieA.mv 12 rfl (.inr rfl) rfl (by kernel_rfl) rfl (.all [9] (by kernel_rfl) rfl (AllA.run _ rfl rfl rfl ?_ ?_))
      ·exact TieA.done (.of rfl rfl)
      exact AllA.nil
     refine TieA.have_ (fuel₁ := 4) (l₁ := (bm 14 1535)) (σ₁ := ⟨[(0, .ptr 1000000 0), (1, .t (tI v_to)), (5, .own 2360), (6, .ptr 6 0), (8, .ptr 8 0), (29, .tup [.agg [.t (tI r3.1.Now), .t (tS q12 r3.1.Channels)], .t (tS q15 r3.2.1), .t (tI r3.2.2)]), (36, .agg [.t (tI r3.1.Now), .t (tS q12 r3.1.Channels)]), (37, .t (tS q15 r3.2.1))], [(6, .box [.t (tI r2.1)]), (8, .box [.t (tI 0), .t (.v (.slice none 0 0))]), (2360, .rs 52 3 s2.1 q15), (2416, .rs 85 7 s2.2.Jobs q14), (1000000, .box (lset (q10 s2.2) [(11, .own 2416)]))]⟩) ?_ fun A_5 => ?_
     ·exact TieA.all [9, 11] (by kernel_rfl) rfl (AllA.runTo _ rfl rfl rfl (.of rfl rfl) A_3 (AllA.runTo _ rfl rfl rfl (.of rfl rfl) A_6 (AllA.nil)))
     refine TieA.have_ (fuel₁ := 5) (l₁ := (bm 14 511)) (σ₁ := ⟨[(0, .ptr 1000000 0), (1, .t (tI v_to)), (5, .own 2360), (6, .ptr 6 0), (29, .tup [.agg [.t (tI r3.1.Now), .t (tS q12 r3.1.Channels)], .t (tS q15 r3.2.1), .t (tI r3.2.2)]), (36, .agg [.t (tI r3.1.Now), .t (tS q12 r3.1.Channels)]), (37, .t (tS q15 r3.2.1))], [(6, .box [.t (tI r2.1)]), (2360, .rs 52 3 s2.1 q15), (2416, .rs 85 7 s2.2.Jobs q14), (1000000, .box (lset (q10 s2.2) [(11, .own 2416)]))]⟩) ?_ fun A_1 => ?_
     ·exact TieA.all [9, 10] (by kernel_rfl) rfl (AllA.runTo _ rfl rfl rfl (.of rfl rfl) A_2 (AllA.runTo _ rfl rfl rfl (.of rfl rfl) A_5 (AllA.nil)))
     refine TieA.have_ (fuel₁ := 3) (l₁ := (bm 14 3839)) (σ₁ := ⟨[(0, .ptr 1000000 0), (1, .t (tI v_to)), (5, .own 2360), (6, .ptr 6 0), (8, .ptr 8 0), (29, .tup [.agg [.t (tI r3.1.Now), .t (tS q12 r3.1.Channels)], .t (tS q15 r3.2.1), .t (tI r3.2.2)]), (38, .t (tI r3.2.2))], [(6, .box [.t (tI r2.1)]), (8, .box [.t (tI r3.1.Now), .t (tS q12 r3.1.Channels)]), (2360, .rs 52 3 s2.1 q15), (2416, .rs 85 7 s2.2.Jobs q14), (1000000, .box (lset (q10 s2.2) [(11, .own 2416)]))]⟩) ?_ fun A_9 => ?_
     ·exact TieA.all [8] (by kernel_rfl) rfl (AllA.runTo _ rfl rfl rfl (.of rfl rfl) A_4 (AllA.nil))
     refine TieA.have_ (fuel₁ := 4) (l₁ := (bm 14 1791)) (σ₁ := ⟨[(0, .ptr 1000000 0), (1, .t (tI v_to)), (5, .own 2360), (6, .ptr 6 0), (8, .ptr 8 0), (29, .tup [.agg [.t (tI r3.1.Now), .t (tS q12 r3.1.Channels)], .t (tS q15 r3.2.1), .t (tI r3.2.2)]), (36, .agg [.t (tI r3.1.Now), .t (tS q12 r3.1.Channels)]), (38, .t (tI r3.2.2))], [(6, .box [.t (tI r2.1)]), (8, .box [.t (tI 0), .t (.v (.slice none 0 0))]), (2360, .rs 52 3 s2.1 q15), (2416, .rs 85 7 s2.2.Jobs q14), (1000000, .box (lset (q10 s2.2) [(11, .own 2416)]))]⟩) ?_ fun A_8 => ?_
     ·exact TieA.all [8, 11] (by kernel_rfl) rfl (AllA.runTo _ rfl rfl rfl (.of rfl rfl) A_3 (AllA.runTo _ rfl rfl rfl (.of rfl rfl) A_9 (AllA.nil)))
     refine TieA.have_ (fuel₁ := 5) (l₁ := (bm 14 767)) (σ₁ := ⟨[(0, .ptr 1000000 0), (1, .t (tI v_to)), (5, .own 2360), (6, .ptr 6 0), (29, .tup [.agg [.t (tI r3.1.Now), .t (tS q12 r3.1.Channels)], .t (tS q15 r3.2.1), .t (tI r3.2.2)]), (36, .agg [.t (tI r3.1.Now), .t (tS q12 r3.1.Channels)]), (38, .t (tI r3.2.2))], [(6, .box [.t (tI r2.1)]), (2360, .rs 52 3 s2.1 q15), (2416, .rs 85 7 s2.2.Jobs q14), (1000000, .box (lset (q10 s2.2) [(11, .own 2416)]))]⟩) ?_ fun A_7 => ?_
     ·exact TieA.all [8, 10] (by kernel_rfl) rfl (AllA.runTo _ rfl rfl rfl (.of rfl rfl) A_2 (AllA.runTo _ rfl rfl rfl (.of rfl rfl) A_8 (AllA.nil)))
     refine TieA.have_ (fuel₁ := 5) (l₁ := (bm 14 1279)) (σ₁ := ⟨[(0, .ptr 1000000 0), (1, .t (tI v_to)), (5, .own 2360), (6, .ptr 6 0), (8, .ptr 8 0), (29, .tup [.agg [.t (tI r3.1.Now), .t (tS q12 r3.1.Channels)], .t (tS q15 r3.2.1), .t (tI r3.2.2)]), (36, .agg [.t (tI r3.1.Now), .t (tS q12 r3.1.Channels)])], [(6, .box [.t (tI r2.1)]), (8, .box [.t (tI 0), .t (.v (.slice none 0 0))]), (2360, .rs 52 3 s2.1 q15), (2416, .rs 85 7 s2.2.Jobs q14), (1000000, .box (lset (q10 s2.2) [(11, .own 2416)]))]⟩) ?_ fun A_10 => ?_
     ·refine TieA.all [8, 9, 11] (by kernel_rfl) rfl (AllA.runTo _ rfl rfl rfl (.of rfl rfl) A_5 (AllA.runTo _ rfl rfl rfl (.of rfl rfl) A_8 (AllA.run _ rfl rfl rfl ?_ ?_)))
      ·exact TieA.all [8, 9] (by kernel_rfl) rfl (AllA.runTo _ rfl rfl rfl (.of rfl rfl) A_6 (AllA.runTo _ rfl rfl rfl (.of rfl rfl) A_9 (AllA.nil)))
      exact AllA.nil
     refine TieA.have_ (fuel₁ := 4) (l₁ := (bm 14 1919)) (σ₁ := ⟨[(0, .ptr 1000000 0), (1, .t (tI v_to)), (5, .own 2360), (6, .ptr 6 0), (8, .ptr 8 0), (29, .tup [.agg [.t (tI r3.1.Now), .t (tS q12 r3.1.Channels)], .t (tS q15 r3.2.1), .t (tI r3.2.2)]), (37, .t (tS q15 r3.2.1)), (38, .t (tI r3.2.2))], [(6, .box [.t (tI r2.1)]), (8, .box [.t (tI 0), .t (.v (.slice none 0 0))]), (2360, .rs 52 3 s2.1 q15), (2416, .rs 85 7 s2.2.Jobs q14), (1000000, .box (lset (q10 s2.2) [(11, .own 2416)]))]⟩) ?_ fun A_12 => ?_
     ·exact TieA.all [7] (by kernel_rfl) rfl (AllA.runTo _ rfl rfl rfl (.of rfl rfl) A_3 (AllA.nil))
     refine TieA.have_ (fuel₁ := 5) (l₁ := (bm 14 895)) (σ₁ := ⟨[(0, .ptr 1000000 0), (1, .t (tI v_to)), (5, .own 2360), (6, .ptr 6 0), (29, .tup [.agg [.t (tI r3.1.Now), .t (tS q12 r3.1.Channels)], .t (tS q15 r3.2.1), .t (tI r3.2.2)]), (37, .t (tS q15 r3.2.1)), (38, .t (tI r3.2.2))], [(6, .box [.t (tI r2.1)]), (2360, .rs 52 3 s2.1 q15), (2416, .rs 85 7 s2.2.Jobs q14), (1000000, .box (lset (q10 s2.2) [(11, .own 2416)]))]⟩) ?_ fun A_11 => ?_
     ·exact TieA.all [7, 10] (by kernel_rfl) rfl (AllA.runTo _ rfl rfl rfl (.of rfl rfl) A_2 (AllA.runTo _ rfl rfl rfl (.of rfl rfl) A_12 (AllA.nil)))
     refine TieA.have_ (fuel₁ := 5) (l₁ := (bm 14 1407)) (σ₁ := ⟨[(0, .ptr 1000000 0), (1, .t (tI v_to)), (5, .own 2360), (6, .ptr 6 0), (8, .ptr 8 0), (29, .tup [.agg [.t (tI r3.1.Now), .t (tS q12 r3.1.Channels)], .t (tS q15 r3.2.1), .t (tI r3.2.2)]), (37, .t (tS q15 r3.2.1))], [(6, .box [.t (tI r2.1)]), (8, .box [.t (tI 0), .t (.v (.slice none 0 0))]), (2360, .rs 52 3 s2.1 q15), (2416, .rs 85 7 s2.2.Jobs q14), (1000000, .box (lset (q10 s2.2) [(11, .own 2416)]))]⟩) ?_ fun A_13 => ?_
     ·exact TieA.all [7, 9] (by kernel_rfl) rfl (AllA.runTo _ rfl rfl rfl (.of rfl rfl) A_5 (AllA.runTo _ rfl rfl rfl (.of rfl rfl) A_12 (AllA.nil)))
     refine TieA.have_ (fuel₁ := 5) (l₁ := (bm 14 1663)) (σ₁ := ⟨[(0, .ptr 1000000 0), (1, .t (tI v_to)), (5, .own 2360), (6, .ptr 6 0), (8, .ptr 8 0), (29, .tup [.agg [.t (tI r3.1.Now), .t (tS q12 r3.1.Channels)], .t (tS q15 r3.2.1), .t (tI r3.2.2)]), (38, .t (tI r3.2.2))], [(6, .box [.t (tI r2.1)]), (8, .box [.t (tI 0), .t (.v (.slice none 0 0))]), (2360, .rs 52 3 s2.1 q15), (2416, .rs 85 7 s2.2.Jobs q14), (1000000, .box (lset (q10 s2.2) [(11, .own 2416)]))]⟩) ?_ fun A_14 => ?_
     ·exact TieA.all [7, 8] (by kernel_rfl) rfl (AllA.runTo _ rfl rfl rfl (.of rfl rfl) A_8 (AllA.runTo _ rfl rfl rfl (.of rfl rfl) A_12 (AllA.nil)))
     refine TieA.have_ (fuel₁ := 8) (l₁ := (bm 14 1055)) (σ₁ := ⟨[(0, .ptr 1000000 0), (1, .t (tI v_to)), (5, .own 2360), (6, .ptr 6 0), (8, .ptr 8 0), (33, .agg [.t (tI s2.2.Timer.Now), .t (tS q12 s2.2.Timer.Channels)]), (34, .t (tI r2.1))], [(6, .box [.t (tI r2.1)]), (8, .box [.t (tI 0), .t (.v (.slice none 0 0))]), (2360, .rs 52 3 s2.1 q15), (2416, .rs 85 7 s2.2.Jobs q14), (1000000, .box (lset (q10 s2.2) [(11, .own 2416)]))]⟩) ?_ fun A_15 => ?_
     ·refine TieA.all [5] (by kernel_rfl) rfl (AllA.cons (σ₁ := ⟨[(0, .ptr 1000000 0), (1, .t (tI v_to)), (5, .own 2360), (6, .ptr 6 0), (8, .ptr 8 0), (35, .tup [.agg [.t (tI r3.1.Now), .t (tS q12 r3.1.Channels)], .t (tS q15 r3.2.1), .t (tI r3.2.2)])], [(6, .box [.t (tI r2.1)]), (8, .box [.t (tI 0), .t (.v (.slice none 0 0))]), (2360, .rs 52 3 s2.1 q15), (2416, .rs 85 7 s2.2.Jobs q14), (1000000, .box (lset (q10 s2.2) [(11, .own 2416)]))]⟩) _ rfl rfl ?_ ?_ ?_)
      ·refine TieO.withH hr3 (TieO.call _ rfl rfl rfl (q210 (⟨s2.2.Timer.Now, s2.2.Timer.Channels⟩ : STimer) r2.1) (fun _ => rfl) (TieO.ifH ?_))
       exact TieO.nil (TieS.leaf ⟨rfl, .of rfl rfl⟩)
      ·refine TieA.mv 6 rfl (.inl rfl) rfl (by kernel_rfl) rfl (.all [7, 8, 9] (by kernel_rfl) rfl (AllA.runTo _ rfl rfl rfl (.of rfl rfl) A_10 (AllA.runTo _ rfl rfl rfl (.of rfl rfl) A_13 (AllA.runTo _ rfl rfl rfl (.of rfl rfl) A_14 ?_))))
       exact AllA.nil
      exact AllA.nil
     refine TieA.have_ (fuel₁ := 9) (l₁ := (bm 14 31)) (σ₁ := ⟨[(0, .ptr 1000000 0), (1, .t (tI v_to)), (5, .own 2360), (6, .ptr 6 0), (33, .agg [.t (tI s2.2.Timer.Now), .t (tS q12 s2.2.Timer.Channels)]), (34, .t (tI r2.1))], [(6, .box [.t (tI r2.1)]), (2360, .rs 52 3 s2.1 q15), (2416, .rs 85 7 s2.2.Jobs q14), (1000000, .box (lset (q10 s2.2) [(11, .own 2416)]))]⟩) ?_ fun A_0 => ?_
     ·refine TieA.all [5, 10] (by kernel_rfl) rfl (AllA.cons (σ₁ := ⟨[(0, .ptr 1000000 0), (1, .t (tI v_to)), (5, .own 2360), (6, .ptr 6 0), (35, .tup [.agg [.t (tI r3.1.Now), .t (tS q12 r3.1.Channels)], .t (tS q15 r3.2.1), .t (tI r3.2.2)])], [(6, .box [.t (tI r2.1)]), (2360, .rs 52 3 s2.1 q15), (2416, .rs 85 7 s2.2.Jobs q14), (1000000, .box (lset (q10 s2.2) [(11, .own 2416)]))]⟩) _ rfl rfl ?_ ?_ ?_)
      ·refine TieO.withH hr3 (TieO.call _ rfl rfl rfl (q210 (⟨s2.2.Timer.Now, s2.2.Timer.Channels⟩ : STimer) r2.1) (fun _ => rfl) (TieO.ifH ?_))
       exact TieO.nil (TieS.leaf ⟨rfl, .of rfl rfl⟩)
      ·refine TieA.mv 6 rfl (.inl rfl) rfl (by kernel_rfl) rfl (.all [7, 8, 9, 10] (by kernel_rfl) rfl (AllA.run _ rfl rfl rfl ?_ ?_))
       ·exact TieA.all [8, 9, 10] (by kernel_rfl) rfl (AllA.runTo _ rfl rfl rfl (.of rfl rfl) A_1 (AllA.runTo _ rfl rfl rfl (.of rfl rfl) A_7 (AllA.runTo _ rfl rfl rfl (.of rfl rfl) A_10 (AllA.nil))))
       refine AllA.run _ rfl rfl rfl ?_ ?_
       ·exact TieA.all [7, 9, 10] (by kernel_rfl) rfl (AllA.runTo _ rfl rfl rfl (.of rfl rfl) A_1 (AllA.runTo _ rfl rfl rfl (.of rfl rfl) A_11 (AllA.runTo _ rfl rfl rfl (.of rfl rfl) A_13 (AllA.nil))))
       refine AllA.run _ rfl rfl rfl ?_ ?_
       ·exact TieA.all [7, 8, 10] (by kernel_rfl) rfl (AllA.runTo _ rfl rfl rfl (.of rfl rfl) A_7 (AllA.runTo _ rfl rfl rfl (.of rfl rfl) A_11 (AllA.runTo _ rfl rfl rfl (.of rfl rfl) A_14 (AllA.nil))))
       refine AllA.run _ rfl rfl rfl ?_ ?_
       ·exact TieA.all [7, 8, 9] (by kernel_rfl) rfl (AllA.runTo _ rfl rfl rfl (.of rfl rfl) A_10 (AllA.runTo _ rfl rfl rfl (.of rfl rfl) A_13 (AllA.runTo _ rfl rfl rfl (.of rfl rfl) A_14 (AllA.nil))))
       exact AllA.nil
      exact AllA.runTo _ rfl rfl rfl (.of rfl rfl) A_15 (AllA.nil)
     refine TieA.have_ (fuel₁ := 9) (l₁ := (bm 14 1039)) (σ₁ := ⟨[(0, .ptr 1000000 0), (1, .t (tI v_to)), (5, .own 2360), (6, .ptr 6 0), (8, .ptr 8 0), (33, .agg [.t (tI s2.2.Timer.Now), .t (tS q12 s2.2.Timer.Channels)])], [(6, .box [.t (tI r2.1)]), (8, .box [.t (tI 0), .t (.v (.slice none 0 0))]), (2360, .rs 52 3 s2.1 q15), (2416, .rs 85 7 s2.2.Jobs q14), (1000000, .box (lset (q10 s2.2) [(11, .own 2416)]))]⟩) ?_ fun A_16 => ?_
     ·exact TieA.all [4] (by kernel_rfl) rfl (AllA.runTo _ rfl rfl rfl (.of rfl rfl) A_15 (AllA.nil))
     refine TieA.have_ (fuel₁ := 9) (l₁ := (bm 14 1047)) (σ₁ := ⟨[(0, .ptr 1000000 0), (1, .t (tI v_to)), (5, .own 2360), (6, .ptr 6 0), (8, .ptr 8 0), (32, .ptr 1000000 8), (34, .t (tI r2.1))], [(6, .box [.t (tI r2.1)]), (8, .box [.t (tI 0), .t (.v (.slice none 0 0))]), (2360, .rs 52 3 s2.1 q15), (2416, .rs 85 7 s2.2.Jobs q14), (1000000, .box (lset (q10 s2.2) [(11, .own 2416)]))]⟩) ?_ fun A_17 => ?_
     ·exact TieA.all [3] (by kernel_rfl) rfl (AllA.runTo _ rfl rfl rfl (.of rfl rfl) A_15 (AllA.nil))
     refine TieA.mv 0 rfl (.inl rfl) rfl (by kernel_rfl) rfl (.nP 1 rfl rfl rfl (by kernel_rfl) rfl (.fP 2 rfl rfl rfl (by kernel_rfl) rfl rfl rfl (.all [3, 4, 10] (by kernel_rfl) rfl (AllA.run _ rfl rfl rfl ?_ ?_))))
     ·exact TieA.all [4, 10] (by kernel_rfl) rfl (AllA.runTo _ rfl rfl rfl (.of rfl rfl) A_0 (AllA.runTo _ rfl rfl rfl (.of rfl rfl) A_16 (AllA.nil)))
     refine AllA.run _ rfl rfl rfl ?_ ?_
     ·exact TieA.all [3, 10] (by kernel_rfl) rfl (AllA.runTo _ rfl rfl rfl (.of rfl rfl) A_0 (AllA.runTo _ rfl rfl rfl (.of rfl rfl) A_17 (AllA.nil)))
     refine AllA.run _ rfl rfl rfl ?_ ?_
     ·exact TieA.all [3, 4] (by kernel_rfl) rfl (AllA.runTo _ rfl rfl rfl (.of rfl rfl) A_16 (AllA.runTo _ rfl rfl rfl (.of rfl rfl) A_17 (AllA.nil)))
     exact AllA.nil
    exact TieO.run 1 rfl (.nil (.leaf ⟨rfl, .of rfl rfl⟩))
   rintro s3 e σ' _ ⟨rfl, hs⟩
   refine TieX.sub hs (TieS.seq (.region (.run 5 rfl (.nil ?_))))
   refine TieS.seq (.region (.run 2 rfl (.appendY (id := 2360) (e' := 0) (l := s2.1) (r := s3.1) (tm' := [(0, .ptr 1000000 0), (1, .t (tI v_to)), (6, .ptr 6 0), (8, .ptr 8 0), (9, .t (tS q15 s3.1)), (39, .ptr 1000000 0), (40, .agg [.t (tI s3.2.Now), .t (tS q12 s3.2.Channels)]), (41, .ptr 1000000 0), (42, .ptr 1000000 8), (44, .t (tS q15 s3.1))]) (hp' := [(6, .box [.t (tI r2.1)]), (8, .box [.t (tI s3.2.Now), .t (tS q12 s3.2.Channels)]), (2416, .rs 85 7 s2.2.Jobs q14), (1000000, .box (lset (q10 (u7_2 (u7_1 (u7_0 s2.2 (⟨s2.2.Engine.Order, s2.2.Engine.First⟩ : SEngine)) (⟨s2.2.Clock.Valid, s2.2.Clock.At, s2.2.Clock.Angle, s2.2.Clock.Period, s2.2.Clock.Space, s2.2.Clock.Ahead⟩ : SClock)) s3.2)) [(11, .own 2416)]))]) rfl rfl rfl rfl rfl rfl rfl (fun _ => rfl) (fun _ => rfl) (.inl ⟨rfl, rfl⟩) (.inl rfl) (.of rfl rfl) rfl rfl rfl fun l => .run 1 rfl ?_)))
   refine TieO.nil (.seq (.region (.run 5 rfl (.frzBox 6 rfl rfl ?_))))
   refine TieO.run 1 rfl (.sub (σ' := ⟨[(0, .ptr 1000000 0), (1, .t (tI v_to)), (5, .own 2360), (6, .el (Pv.encI r2.1)), (8, .ptr 8 0), (9, .t (tS q15 s3.1)), (39, .ptr 1000000 0), (40, .agg [.t (tI s3.2.Now), .t (tS q12 s3.2.Channels)]), (41, .ptr 1000000 0), (42, .ptr 1000000 8), (44, .t (tS q15 s3.1)), (45, .own 2360), (46, .ptr 1000000 0), (47, .ptr 1000000 0), (48, .ptr 1000000 0), (49, .ptr 1000000 11), (50, .own 2416), (51, .fz 89 [Pv.encI r2.1])], [(8, .box [.t (tI s3.2.Now), .t (tS q12 s3.2.Channels)]), (2360, .rs 52 3 l q15), (2416, .rs 85 7 s2.2.Jobs q14), (1000000, .box (lset (q10 (u7_2 (u7_1 (u7_0 s2.2 (⟨s2.2.Engine.Order, s2.2.Engine.First⟩ : SEngine)) (⟨s2.2.Clock.Valid, s2.2.Clock.At, s2.2.Clock.Angle, s2.2.Clock.Period, s2.2.Clock.Space, s2.2.Clock.Ahead⟩ : SClock)) s3.2)) [(11, .own 2416)]))]⟩) (.of rfl rfl) (.callG [(1000000, 2416)] [(900000, 2417)] (fun v => ⟨[(0, .ptr 1000000 0), (1, .t (tI v_to)), (5, .own 2360), (6, .el (Pv.encI r2.1)), (8, .ptr 8 0), (9, .t (tS q15 s3.1)), (39, .ptr 1000000 0), (40, .agg [.t (tI s3.2.Now), .t (tS q12 s3.2.Channels)]), (41, .ptr 1000000 0), (42, .ptr 1000000 8), (44, .t (tS q15 s3.1)), (45, .own 2360), (46, .ptr 1000000 0), (47, .ptr 1000000 0), (48, .ptr 1000000 0), (49, .ptr 1000000 11), (51, .fz 89 [Pv.encI r2.1]), (52, .own 2417)], [(8, .box [.t (tI s3.2.Now), .t (tS q12 s3.2.Channels)]), (2360, .rs 52 3 l q15), (2417, .rs 85 7 v q14), (1000000, .box (lset (q10 (u7_2 (u7_1 (u7_0 s2.2 (⟨s2.2.Engine.Order, s2.2.Engine.First⟩ : SEngine)) (⟨s2.2.Clock.Valid, s2.2.Clock.At, s2.2.Clock.Angle, s2.2.Clock.Period, s2.2.Clock.Space, s2.2.Clock.Ahead⟩ : SClock)) s3.2)) [(11, .any)]))]⟩) (q258 s2.2.Jobs 89 [Pv.encI r2.1] (fun x0 => q167 x0 r2.1) (fun x0 => q301 x0 r2.1)) rfl rfl rfl rfl rfl rfl rfl (fun _ => rfl) (fun _ => rfl) (fun _ => rfl) (fun _ => .of rfl rfl) fun v hv => .run 3 rfl (.nil ?_)))
   refine TieS.region (.run 1 rfl (.callG [(1000000, 1000000), (1000001, 2417)] [] (fun v2 => ⟨[(0, .ptr 1000000 0), (1, .t (tI v_to)), (5, .own 2360), (6, .el (Pv.encI r2.1)), (8, .ptr 8 0), (9, .t (tS q15 s3.1)), (39, .ptr 1000000 0), (40, .agg [.t (tI s3.2.Now), .t (tS q12 s3.2.Channels)]), (41, .ptr 1000000 0), (42, .ptr 1000000 8), (44, .t (tS q15 s3.1)), (45, .own 2360), (46, .ptr 1000000 0), (47, .ptr 1000000 0), (48, .ptr 1000000 0), (49, .ptr 1000000 11), (51, .fz 89 [Pv.encI r2.1]), (52, .own 2417), (53, .ptr 1000000 0), (54, .ptr 1000000 11), (55, .ptr 1000000 0), (56, .tup [])], [(8, .box [.t (tI s3.2.Now), .t (tS q12 s3.2.Channels)]), (2360, .rs 52 3 l q15), (2417, .rs 85 7 v2.Jobs q14), (1000000, .box (lset (q10 v2) [(11, .own 2417)]))]⟩) (q263 (u7_4 (u7_2 (u7_1 (u7_0 s2.2 (⟨s2.2.Engine.Order, s2.2.Engine.First⟩ : SEngine)) (⟨s2.2.Clock.Valid, s2.2.Clock.At, s2.2.Clock.Angle, s2.2.Clock.Period, s2.2.Clock.Space, s2.2.Clock.Ahead⟩ : SClock)) s3.2) v)) rfl rfl rfl rfl rfl rfl rfl (fun _ => rfl) (fun _ => rfl) (fun _ => rfl) (fun _ => .of rfl rfl) fun v2 hv2 => .nil (.endb ?_)))
   exact TieX.sub (σ' := ⟨[(0, .ptr 1000000 0), (1, .t (tI v_to)), (5, .own 2360)], [(2360, .rs 52 3 l q15), (2417, .rs 85 7 v2.Jobs q14), (1000000, .box (lset (q10 v2) [(11, .own 2417)]))]⟩) (.of rfl rfl) (TieX.ren [(2360, 2360), (2417, 2416), (1000000, 1000000)] rfl rfl rfl (TieS.leaf ⟨rfl, .of rfl rfl⟩))
 rintro (s4 | r) e σ' _ hq
 ·obtain ⟨rfl, hs⟩ := hq
  refine TieX.exit rfl (TieX.sub hs ?_)
  refine TieS.seq (.region (.run 5 rfl (.call _ rfl rfl rfl (q210 (⟨s4.2.Timer.Now, s4.2.Timer.Channels⟩ : STimer) v_to) (fun _ => rfl) fun r4 => .run 8 rfl ?_)))
  refine TieO.nil (.seq (.region (.run 5 rfl (.nil ?_))))
  refine TieS.seq (.region (.run 2 rfl (.appendY (id := 2360) (e' := 0) (l := s4.1) (r := r4.2.1) (tm' := [(0, .ptr 1000000 0), (1, .t (tI v_to)), (11, .ptr 11 0), (12, .t (tS q15 r4.2.1)), (13, .t (tI r4.2.2)), (57, .tup [.agg [.t (tI r4.1.Now), .t (tS q12 r4.1.Channels)], .t (tS q15 r4.2.1), .t (tI r4.2.2)]), (58, .ptr 1000000 0), (59, .ptr 1000000 0), (60, .ptr 1000000 8), (61, .agg [.t (tI s4.2.Timer.Now), .t (tS q12 s4.2.Timer.Channels)]), (62, .t (tI v_to)), (63, .tup [.agg [.t (tI r4.1.Now), .t (tS q12 r4.1.Channels)], .t (tS q15 r4.2.1), .t (tI r4.2.2)]), (64, .agg [.t (tI r4.1.Now), .t (tS q12 r4.1.Channels)]), (65, .t (tS q15 r4.2.1)), (66, .t (tI r4.2.2)), (67, .ptr 1000000 0), (68, .agg [.t (tI r4.1.Now), .t (tS q12 r4.1.Channels)]), (69, .ptr 1000000 0), (70, .ptr 1000000 8), (72, .t (tS q15 r4.2.1))]) (hp' := [(11, .box [.t (tI r4.1.Now), .t (tS q12 r4.1.Channels)]), (2416, .rs 85 7 s4.2.Jobs q14), (1000000, .box (lset (q10 (u7_2 (u7_1 (u7_0 s4.2 (⟨s4.2.Engine.Order, s4.2.Engine.First⟩ : SEngine)) (⟨s4.2.Clock.Valid, s4.2.Clock.At, s4.2.Clock.Angle, s4.2.Clock.Period, s4.2.Clock.Space, s4.2.Clock.Ahead⟩ : SClock)) r4.1)) [(11, .own 2416)]))]) rfl rfl rfl rfl rfl rfl rfl (fun _ => rfl) (fun _ => rfl) (.inl ⟨rfl, rfl⟩) (.inl rfl) (.of rfl rfl) rfl rfl rfl fun l2 => .run 1 rfl ?_)))
  exact TieO.nil (TieX.frz 2360 rfl (TieS.ret ⟨.inl rfl, ⟨[(2416, 900000), (1000000, 1000000)], _, _, rfl, rfl, rfl, rfl, rfl⟩⟩))
 ·exact hq.elim
set_option maxRecDepth 100000 in
theorem q175 (a : Int) (b2 : Int) : TieF Tryz.prog 90 [.t (tI a), .t (tI b2)] (q246 a b2) (fun r => .t (tI r)) := by
 refine TieF.intro htab 28 [.tmp 4] Tryz.call90 Tryz.func90 rfl rfl rfl (Nat.le_of_ble_eq_true rfl) fun w0 L => ?_
 refine TieS.seq (.region (.run 1 rfl (.nil (.seq ?_))))
 refine TieS.seq (.region (.run 3 rfl (.selOr (v := (b2 == (-1))) 3 8 (fun b => ⟨[(0, .t (tI a)), (1, .t (tI b2)), (11, .t (tB b))], []⟩) rfl ?_ ?_ ?_)))
 ·exact TieO.run 3 rfl (.nil (.leaf ⟨rfl, .of rfl rfl⟩))
 ·exact TieO.run 3 rfl (.nil (.leaf ⟨rfl, .of rfl rfl⟩))
 refine TieO.nil (.cond rfl ?_ ?_)
 ·exact TieS.seq (.region (.run 1 rfl (.nil (.ret ⟨.inl rfl, rfl⟩))))
 ·refine TieS.skip (.seq (.region (.run 2 rfl (.rem rfl rfl rfl rfl rfl rfl fun q => ?_))))
  refine TieO.run 1 rfl (.nil (.seq (.seq (.region ?_))))
  refine TieO.run 3 rfl (.selAnd (v := (!((decide (q < 0)) == (decide (b2 < 0))))) 6 17 (fun b => ⟨[(1, .t (tI b2)), (5, .t (tI q)), (23, .t (tB b))], []⟩) rfl ?_ ?_ ?_)
  ·exact TieO.run 6 rfl (.nil (.leaf ⟨rfl, .of rfl rfl⟩))
  ·exact TieO.run 6 rfl (.nil (.leaf ⟨rfl, .of rfl rfl⟩))
  refine TieO.nil (.cond rfl ?_ ?_)
  ·refine TieS.region (.run 4 rfl (.nil (.seq (.region ?_))))
   exact TieO.run 2 rfl (.nil (.ret ⟨.inl rfl, rfl⟩))
  ·refine TieS.skip (.seq (.region (.run 2 rfl (.nil ?_))))
   exact TieS.ret ⟨.inl rfl, rfl⟩
set_option maxRecDepth 100000 in
theorem q130 (v_from : Int) (v_to : Int) : TieF Tryz.prog 42 [.t (tI v_from), .t (tI v_to)] (q60 v_from v_to) (fun r => .t (tI r)) := by
 refine TieF.intro htab 17 [.tmp 4] Tryz.call42 Tryz.func42 rfl rfl rfl (Nat.le_of_ble_eq_true rfl) fun w0 L => ?_
 refine TieS.seq (.region (.run 1 rfl (.nil (.seq ?_))))
 refine TieS.seq (.region (.run 1 rfl (.call _ rfl rfl rfl (q218 v_from) (fun _ => rfl) fun v => .run 2 rfl ?_)))
 refine TieO.bind 4 (fun b2 => ⟨[(0, .t (tI v_from)), (1, .t (tI v_to)), (12, .t (tB b2))], []⟩) (TieO.split 8 rfl ?_ ?_) fun b2 _ => ?_
 ·exact TieO.run 4 rfl (.nil (.leaf ⟨rfl, .of rfl rfl⟩))
 ·exact TieO.run 1 rfl (.call _ rfl rfl rfl (q218 v_to) (fun _ => rfl) fun v2 => .run 2 rfl (.nil (.leaf ⟨rfl, .of rfl rfl⟩)))
 refine TieO.nil (.cond rfl ?_ ?_)
 ·exact TieS.seq (.region (.run 1 rfl (.nil (.ret ⟨.inl rfl, rfl⟩))))
 ·refine TieS.skip (.seq (.region (.run 3 rfl (.call _ rfl rfl rfl (q175 (w64 (v_to - v_from)) 46080) (fun _ => rfl) fun v3 => ?_))))
  exact TieO.run 1 rfl (.nil (.ret ⟨.inl rfl, rfl⟩))
set_option maxRecDepth 100000 in
theorem q259 (e2 : SEngine) (cylinder : Int) : TieF Tryz.prog 61 [q44 e2, .t (tI cylinder)] (q177 e2 cylinder) (fun r => .tup [.t (tI r.1), .t (tB r.2)]) := by
 refine TieF.intro htab 24 [.tmp 4, .tmp 5] Tryz.call61 Tryz.func61 rfl rfl rfl (Nat.le_of_ble_eq_true rfl) fun w0 L => ?_
 refine TieS.seq (.region (.run 3 rfl (.nil (.seq ?_))))
 refine TieS.region (.run 3 rfl (.call _ rfl rfl rfl (q226 e2.Order cylinder) (fun _ => rfl) fun v => .run 1 rfl (.nil ?_)))
 exact TieS.seq (TieX.pre fun q hq => TieS.draw 15 [_, _, _, _, _, _, _, _, _, _, _, _, _, _, _] [(2, .ptr 2 0), (6, .t (tI v))] [(2, .box [.t (tS Pv.encI e2.Order), .t (tI e2.First)])] mixed (.of rfl rfl) rfl rfl rfl rfl (.cons (.quiet rfl rfl rfl) (.cons (.quiet rfl rfl rfl) (.cons (.quiet rfl rfl rfl) (.cons (.quiet rfl rfl rfl) (.cons (.quiet rfl rfl rfl) (.cons (.quiet rfl rfl rfl) (.cons (.quiet rfl rfl rfl) (.cons (.quiet rfl rfl rfl) (.cons (.quo hq rfl rfl rfl rfl) (.cons (.quiet rfl rfl rfl) (.cons (.quiet rfl rfl rfl) (.cons (.quiet rfl rfl rfl) (.cons (.quiet rfl rfl rfl) (.cons (.quiet rfl rfl rfl) (.cons (.quiet rfl rfl rfl) (.nil)))))))))))))))) (.nil (.ret ⟨.inl rfl, rfl⟩)))
set_option maxRecDepth 100000 in
theorem q347 (e2 : SEngine) (cylinder : Int) : TieF Tryz.prog 21 [q44 e2, .t (tI cylinder)] (q214 e2 cylinder) (fun r => .tup [.t (tI r.1), .t (tI r.2)]) := by
 refine TieF.intro htab 20 [.tmp 4, .tmp 5] Tryz.call21 Tryz.func21 rfl rfl rfl (Nat.le_of_ble_eq_true rfl) fun w0 L => ?_
 refine TieS.seq (.region (.run 3 rfl (.nil (.seq ?_))))
 refine TieS.seq (.region (.run 1 rfl (.call _ rfl rfl rfl (q69 e2) (fun _ => rfl) fun v => .run 1 rfl ?_)))
 refine TieO.nil (.cond rfl ?_ ?_)
 ·exact TieS.seq (.region (.run 2 rfl (.nil (.ret ⟨.inl rfl, rfl⟩))))
 ·refine TieS.skip (.seq (.region (.run 2 rfl (.call _ rfl rfl rfl (q259 e2 cylinder) (fun _ => rfl) fun r2 => ?_))))
  refine TieO.run 5 rfl (.nil (.seq (.seq (.region ?_))))
  refine TieO.run 2 rfl (.nil (.cond rfl ?_ ?_))
  ·exact TieS.seq (.region (.run 2 rfl (.nil (.ret ⟨.inl rfl, rfl⟩))))
  ·refine TieS.skip (.seq (.region (.run 3 rfl (.nil ?_))))
   exact TieS.ret ⟨.inl rfl, rfl⟩
set_option maxRecDepth 100000 in
theorem q379 (c : SClock) : TieF Tryz.prog 119 [q221 c] (q279 c) (fun r => .t (tI r)) := by
 refine TieF.intro htab 11 [.tmp 2] Tryz.call119 Tryz.func119 rfl rfl rfl (Nat.le_of_ble_eq_true rfl) fun w0 L => ?_
 refine TieS.seq (.region (.run 2 rfl (.nil (.seq ?_))))
 refine TieS.block (.seq (.region (.run 1 rfl (.call _ rfl rfl rfl (q228 c) (fun _ => rfl) fun v => ?_))))
 refine TieO.run 2 rfl (.nil (.cond rfl ?_ ?_))
 ·exact TieS.seq (.region (.run 1 rfl (.nil (.ret ⟨.inl rfl, rfl⟩))))
 ·refine TieS.seq (.region (.run 4 rfl (.nil (.cond rfl ?_ ?_))))
  ·exact TieS.seq (.region (.run 1 rfl (.nil (.ret ⟨.inl rfl, rfl⟩))))
  ·refine TieS.skip (.endb (.seq (.region (.run 1 rfl ?_))))
   exact TieO.nil (.ret ⟨.inl rfl, rfl⟩)
set_option maxRecDepth 100000 in
def q317 : Go.Shelf.Ren := ⟨fun | 264 => 165 | n => n, fun | 46 => 161 | 53 => 179 | n => n, fun  | n => n⟩
open Go.Shelf in
theorem mul64L165 : Lays.n264 Tryz.prog q317 := {
 mixed := by kernel_rfl,
 f264 := Tryz.func165.trans (congrArg some (by kernel_rfl)),
 t46 := Tryz.underlying161,
 a46 := Tryz.isAgg161,
 z46 := Tryz.sizeOf161,
 v46 := Tryz.zeroValue161,
 t53 := Tryz.underlying179,
 a53 := Tryz.isAgg179,
 z53 := Tryz.sizeOf179,
 v53 := Tryz.zeroValue179 }
theorem q326 (x y : Int) : TieF Tryz.prog 165 [.t (tK .u64 x), .t (tK .u64 y)] (q229 x y) (fun r => .tup [.t (tK .u64 r.1), .t (tK .u64 r.2)]) :=
 mul64_tie (ρ := q317) mul64L165 Tryz.call165 x y
set_option maxRecDepth 100000 in
theorem q181 (n2 : Int) : TieF Tryz.prog 166 [.t (tI n2)] (q110 n2) (fun r => .t (tK .u64 r)) := by
 refine TieF.intro htab 12 [.tmp 2] Tryz.call166 Tryz.func166 rfl rfl rfl (Nat.le_of_ble_eq_true rfl) fun w0 L => ?_
 refine TieS.seq (.region (.run 1 rfl (.nil (.seq ?_))))
 refine TieS.seq (.region (.run 2 rfl (.nil (.cond rfl ?_ ?_))))
 ·exact TieS.seq (.region (.run 6 rfl (.nil (.ret ⟨.inl rfl, rfl⟩))))
 ·refine TieS.skip (.seq (.region (.run 3 rfl (.nil ?_))))
  exact TieS.ret ⟨.inl rfl, rfl⟩
set_option maxRecDepth 100000 in
def q322 : Go.Shelf.Ren := ⟨fun | 129 => 152 | n => n, fun | 3 => 3 | 4 => 4 | 5 => 5 | 9 => 9 | 46 => 161 | 53 => 179 | n => n, fun  | n => n⟩
open Go.Shelf in
theorem len64L152 : Lays.n129 Tryz.prog q322 := {
 mixed := by kernel_rfl,
 f129 := Tryz.func152.trans (congrArg some (by kernel_rfl)),
 t3 := Tryz.underlying3,
 a3 := Tryz.isAgg3,
 z3 := Tryz.sizeOf3,
 v3 := Tryz.zeroValue3,
 t4 := Tryz.underlying4,
 a4 := Tryz.isAgg4,
 z4 := Tryz.sizeOf4,
 v4 := Tryz.zeroValue4,
 t5 := Tryz.underlying5,
 a5 := Tryz.isAgg5,
 z5 := Tryz.sizeOf5,
 v5 := Tryz.zeroValue5,
 t9 := Tryz.underlying9,
 a9 := Tryz.isAgg9,
 z9 := Tryz.sizeOf9,
 v9 := Tryz.zeroValue9,
 t46 := Tryz.underlying161,
 a46 := Tryz.isAgg161,
 z46 := Tryz.sizeOf161,
 v46 := Tryz.zeroValue161,
 t53 := Tryz.underlying179,
 a53 := Tryz.isAgg179,
 z53 := Tryz.sizeOf179,
 v53 := Tryz.zeroValue179 }
theorem q323 (x : Int) : TieF Tryz.prog 152 [.t (tK .u64 x)] (q274 x) (fun r => .t (tI r)) :=
 len64_tie (ρ := q322) len64L152 Tryz.call152 x
set_option maxRecDepth 100000 in
theorem q241 (x : Int) : TieF Tryz.prog 179 [.t (tK .u64 x)] (q196 x) (fun r => .t (tI r)) := by
 refine TieF.intro htab 6 [.tmp 2] Tryz.call179 Tryz.func179 rfl rfl rfl (Nat.le_of_ble_eq_true rfl) fun w0 L => ?_
 refine TieS.seq (.region (.run 1 rfl (.nil (.seq ?_))))
 refine TieS.region (.run 1 rfl (.call _ rfl rfl rfl (q323 x) (fun _ => rfl) fun v => .run 2 rfl (.nil ?_)))
 exact TieS.ret ⟨.inl rfl, rfl⟩
set_option maxRecDepth 100000 in
set_option maxHeartbeats 4000000 in
theorem q328 (hi : Int) (lo : Int) (y : Int) : TieF Tryz.prog 167 [.t (tK .u64 hi), .t (tK .u64 lo), .t (tK .u64 y)] (q182 hi lo y) (fun r => .tup [.t (tK .u64 r.1), .t (tK .u64 r.2)]) := by
 refine TieF.intro htab 135 [.tmp 6, .tmp 7] Tryz.call167 Tryz.func167 rfl rfl rfl (Nat.le_of_ble_eq_true rfl) fun w0 L => ?_
 refine TieS.seq (.region (.run 2 rfl (.nil (.seq ?_))))
 refine TieS.seq (.region (.run 2 rfl (.nil (.bind (Q₁ := fun t e σ' => e = .normal ∧ Sub ⟨[(0, .t (tK .u64 hi)), (1, .t (tK .u64 lo)), (2, .t (tK .u64 y))], []⟩ σ') ?_ ?_))))
 ·refine TieS.cond rfl ?_ ?_
  ·exact TieS.region (.fail)
  ·exact TieS.skip (.leaf ⟨rfl, .of rfl rfl⟩)
 rintro s e σ' _ ⟨rfl, hs⟩
 refine TieX.sub hs (TieS.seq (.seq (.region (.run 3 rfl ?_))))
 refine TieO.nil (.bind (Q₁ := fun t e σ' => e = .normal ∧ Sub ⟨[(0, .t (tK .u64 hi)), (1, .t (tK .u64 lo)), (2, .t (tK .u64 y))], []⟩ σ') ?_ ?_)
 ·refine TieS.cond rfl ?_ ?_
  ·exact TieS.region (.fail)
  ·exact TieS.skip (.leaf ⟨rfl, .of rfl rfl⟩)
 rintro s2 e σ' _ ⟨rfl, hs⟩
 refine TieX.sub hs (TieS.seq (.seq (.region (.run 2 rfl ?_))))
 refine TieO.nil (.cond rfl ?_ ?_)
 ·refine TieS.seq (TieX.pre fun q hq => TieX.pre fun q2 hq2 => TieS.draw 8 [_, _, _, _, _, _, _, _] [(1, .t (tK .u64 lo)), (2, .t (tK .u64 y))] [] mixed (.of rfl rfl) rfl rfl rfl rfl (.cons (.quiet rfl rfl rfl) (.cons (.quiet rfl rfl rfl) (.cons (.quo hq rfl rfl rfl rfl) (.cons (.quiet rfl rfl rfl) (.cons (.quiet rfl rfl rfl) (.cons (.rem hq2 rfl rfl rfl rfl) (.cons (.quiet rfl rfl rfl) (.cons (.quiet rfl rfl rfl) (.nil))))))))) (.nil ?_))
  exact TieS.ret ⟨.inl rfl, rfl⟩
 ·refine TieS.skip (.seq (.region (.run 1 rfl (.call _ rfl rfl rfl (q241 y) (fun _ => rfl) fun v => ?_))))
  refine TieO.run 2 rfl (.nil (.seq (.region (.run 2 rfl ?_))))
  refine TieO.shl rfl rfl rfl rfl rfl rfl fun q3 => .run 1 rfl (.nil (.seq (.region ?_)))
  refine TieO.run 3 rfl (.nil (.seq (.region (.run 3 rfl ?_))))
  refine TieO.nil (.seq (.region (.run 2 rfl (.shl rfl rfl rfl rfl rfl rfl fun q4 => ?_))))
  refine TieO.run 3 rfl (.shr rfl rfl rfl rfl rfl rfl fun q5 => .run 2 rfl (.nil (.seq ?_)))
  refine TieS.region (.run 2 rfl (.shl rfl rfl rfl rfl rfl rfl fun q6 => .run 1 rfl (.nil ?_)))
  refine TieS.seq (.region (.run 3 rfl (.nil (.seq ?_))))
  refine TieS.region (.run 3 rfl (.nil (.seq (.region ?_))))
  refine TieO.run 2 rfl (.quo rfl rfl rfl rfl rfl rfl fun q7 => .run 1 rfl (.nil (.seq ?_)))
  refine TieS.region (.run 6 rfl (.nil (.seq (.block ?_))))
  refine TieS.loop (fun t => ⟨[(2, .t (tK .u64 q3)), (8, .t (tK .u64 (IntKind.u64.wrap v))), (9, .t (tK .u64 (bitShr .u64 q3 32))), (10, .t (tK .u64 (bitAnd .u64 q3 4294967295))), (11, .t (tK .u64 (bitOr .u64 q4 q5))), (13, .t (tK .u64 (bitShr .u64 q6 32))), (14, .t (tK .u64 (bitAnd .u64 q6 4294967295))), (15, .t (tK .u64 t.1)), (16, .t (tK .u64 t.2))], []⟩) (fun b e σ' => match b with | .inl t => e = .exit 0 ∧ Sub ⟨[(2, .t (tK .u64 q3)), (8, .t (tK .u64 (IntKind.u64.wrap v))), (9, .t (tK .u64 (bitShr .u64 q3 32))), (10, .t (tK .u64 (bitAnd .u64 q3 4294967295))), (11, .t (tK .u64 (bitOr .u64 q4 q5))), (13, .t (tK .u64 (bitShr .u64 q6 32))), (14, .t (tK .u64 (bitAnd .u64 q6 4294967295))), (15, .t (tK .u64 t.1))], []⟩ σ' | .inr t => False) (.of rfl rfl) ?_ ?_
  ·intro s3
   refine TieS.seq (.seq (.region (.run 3 rfl (.selOr (v := decide ((IntKind.u64.wrap (s3.1 * (bitAnd .u64 q3 4294967295))) > (IntKind.u64.wrap ((IntKind.u64.wrap (4294967296 * s3.2)) + (bitShr .u64 q6 32))))) 9 69 (fun b => ⟨[(2, .t (tK .u64 q3)), (8, .t (tK .u64 (IntKind.u64.wrap v))), (9, .t (tK .u64 (bitShr .u64 q3 32))), (10, .t (tK .u64 (bitAnd .u64 q3 4294967295))), (11, .t (tK .u64 (bitOr .u64 q4 q5))), (13, .t (tK .u64 (bitShr .u64 q6 32))), (14, .t (tK .u64 (bitAnd .u64 q6 4294967295))), (15, .t (tK .u64 s3.1)), (16, .t (tK .u64 s3.2)), (78, .t (tB b))], []⟩) rfl ?_ ?_ ?_))))
   ·exact TieO.run 9 rfl (.nil (.leaf ⟨rfl, .of rfl rfl⟩))
   ·exact TieO.run 9 rfl (.nil (.leaf ⟨rfl, .of rfl rfl⟩))
   refine TieO.nil (.cond rfl ?_ ?_)
   ·refine TieS.skip (.block (.seq (.region (.run 3 rfl ?_))))
    refine TieO.nil (.seq (.region (.run 4 rfl (.nil ?_))))
    refine TieS.seq (.region (.run 2 rfl (.nil (.cond rfl ?_ ?_))))
    ·exact TieS.exitOut rfl ⟨(fun h => by cases h), rfl, .of rfl rfl⟩
    ·exact TieS.skip (.endb (.leaf ⟨rfl, .of rfl rfl⟩))
   ·exact TieS.exitOut rfl ⟨(fun h => by cases h), rfl, .of rfl rfl⟩
  rintro (s4 | r) e σ' _ hq
  ·obtain ⟨rfl, hs⟩ := hq
   refine TieX.exit rfl (TieX.sub hs ?_)
   refine TieS.seq (.region (.run 9 rfl (.nil (.seq ?_))))
   refine TieS.region (.run 2 rfl (.quo rfl rfl rfl rfl rfl rfl fun q8 => .run 1 rfl (.nil ?_)))
   refine TieS.seq (.region (.run 6 rfl (.nil (.seq ?_))))
   refine TieS.block (.loop (fun t => ⟨[(2, .t (tK .u64 q3)), (8, .t (tK .u64 (IntKind.u64.wrap v))), (9, .t (tK .u64 (bitShr .u64 q3 32))), (10, .t (tK .u64 (bitAnd .u64 q3 4294967295))), (14, .t (tK .u64 (bitAnd .u64 q6 4294967295))), (15, .t (tK .u64 s4.1)), (16, .t (tK .u64 t.1)), (17, .t (tK .u64 (IntKind.u64.wrap ((IntKind.u64.wrap ((IntKind.u64.wrap ((bitOr .u64 q4 q5) * 4294967296)) + (bitShr .u64 q6 32))) - (IntKind.u64.wrap (s4.1 * q3)))))), (18, .t (tK .u64 t.2))], []⟩) (fun b e σ' => match b with | .inl t => e = .exit 2 ∧ Sub ⟨[(2, .t (tK .u64 q3)), (8, .t (tK .u64 (IntKind.u64.wrap v))), (14, .t (tK .u64 (bitAnd .u64 q6 4294967295))), (15, .t (tK .u64 s4.1)), (17, .t (tK .u64 (IntKind.u64.wrap ((IntKind.u64.wrap ((IntKind.u64.wrap ((bitOr .u64 q4 q5) * 4294967296)) + (bitShr .u64 q6 32))) - (IntKind.u64.wrap (s4.1 * q3)))))), (18, .t (tK .u64 t.2))], []⟩ σ' | .inr t => False) (.of rfl rfl) ?_ ?_)
   ·intro s5
    refine TieS.seq (.seq (.region (.run 3 rfl (.selOr (v := decide ((IntKind.u64.wrap (s5.2 * (bitAnd .u64 q3 4294967295))) > (IntKind.u64.wrap ((IntKind.u64.wrap (4294967296 * s5.1)) + (bitAnd .u64 q6 4294967295))))) 9 104 (fun b => ⟨[(2, .t (tK .u64 q3)), (8, .t (tK .u64 (IntKind.u64.wrap v))), (9, .t (tK .u64 (bitShr .u64 q3 32))), (10, .t (tK .u64 (bitAnd .u64 q3 4294967295))), (14, .t (tK .u64 (bitAnd .u64 q6 4294967295))), (15, .t (tK .u64 s4.1)), (16, .t (tK .u64 s5.1)), (17, .t (tK .u64 (IntKind.u64.wrap ((IntKind.u64.wrap ((IntKind.u64.wrap ((bitOr .u64 q4 q5) * 4294967296)) + (bitShr .u64 q6 32))) - (IntKind.u64.wrap (s4.1 * q3)))))), (18, .t (tK .u64 s5.2)), (113, .t (tB b))], []⟩) rfl ?_ ?_ ?_))))
    ·exact TieO.run 9 rfl (.nil (.leaf ⟨rfl, .of rfl rfl⟩))
    ·exact TieO.run 9 rfl (.nil (.leaf ⟨rfl, .of rfl rfl⟩))
    refine TieO.nil (.cond rfl ?_ ?_)
    ·refine TieS.skip (.block (.seq (.region (.run 3 rfl ?_))))
     refine TieO.nil (.seq (.region (.run 4 rfl (.nil ?_))))
     refine TieS.seq (.region (.run 2 rfl (.nil (.cond rfl ?_ ?_))))
     ·exact TieS.exitOut rfl ⟨(fun h => by cases h), rfl, .of rfl rfl⟩
     ·exact TieS.skip (.endb (.leaf ⟨rfl, .of rfl rfl⟩))
    ·exact TieS.exitOut rfl ⟨(fun h => by cases h), rfl, .of rfl rfl⟩
   rintro (s6 | r) e σ' _ hq
   ·obtain ⟨rfl, hs⟩ := hq
    refine TieX.exit rfl (TieX.sub hs ?_)
    refine TieS.seq (.region (.run 13 rfl (.shr rfl rfl rfl rfl rfl rfl fun q9 => .run 2 rfl ?_)))
    exact TieO.nil (.ret ⟨.inl rfl, rfl⟩)
   ·exact hq.elim
  ·exact hq.elim
set_option maxRecDepth 100000 in
theorem q346 (r2 : Int) (c : Int) (negative : Bool) (mode : Int) : TieF Tryz.prog 168 [.t (tK .u64 r2), .t (tK .u64 c), .t (tB negative), .t (tI mode)] (q133 r2 c negative mode) (fun r => .t (tB r)) := by
 refine TieF.intro htab 36 [.tmp 8] Tryz.call168 Tryz.func168 rfl rfl rfl (Nat.le_of_ble_eq_true rfl) fun w0 L => ?_
 refine TieS.seq (.region (.run 1 rfl (.nil (.seq ?_))))
 refine TieS.seq (.region (.run 1 rfl (.nil (.block ?_))))
 refine TieS.seq (.region (.run 2 rfl (.nil (.cond rfl ?_ ?_))))
 ·refine TieS.seq (.region (.run 2 rfl (.selAnd (v := decide (r2 > 0)) 3 13 (fun b => ⟨[(16, .t (tB b))], []⟩) rfl ?_ ?_ ?_)))
  ·exact TieO.run 3 rfl (.nil (.leaf ⟨rfl, .of rfl rfl⟩))
  ·exact TieO.run 3 rfl (.nil (.leaf ⟨rfl, .of rfl rfl⟩))
  exact TieO.run 1 rfl (.nil (.ret ⟨.inl rfl, rfl⟩))
 ·refine TieS.seq (.region (.run 2 rfl (.nil (.cond rfl ?_ ?_))))
  ·refine TieS.seq (.region (.run 3 rfl (.selAnd (v := decide (r2 > 0)) 3 21 (fun b => ⟨[(24, .t (tB b))], []⟩) rfl ?_ ?_ ?_)))
   ·exact TieO.run 3 rfl (.nil (.leaf ⟨rfl, .of rfl rfl⟩))
   ·exact TieO.run 3 rfl (.nil (.leaf ⟨rfl, .of rfl rfl⟩))
   exact TieO.run 1 rfl (.nil (.ret ⟨.inl rfl, rfl⟩))
  ·refine TieS.skip (.endb (.seq (.seq (.region ?_))))
   refine TieO.run 1 rfl (.nil (.cond rfl ?_ ?_))
   ·exact TieS.seq (.region (.run 6 rfl (.nil (.ret ⟨.inl rfl, rfl⟩))))
   ·refine TieS.skip (.seq (.region (.run 6 rfl (.nil ?_))))
    exact TieS.ret ⟨.inl rfl, rfl⟩
set_option maxRecDepth 100000 in
set_option maxHeartbeats 4000000 in
theorem q369 (a : Int) (b2 : Int) (c : Int) (mode : Int) : TieF Tryz.prog 153 [.t (tI a), .t (tI b2), .t (tI c), .t (tI mode)] (q233 a b2 c mode) (fun r => .tup [.t (tI r.1), .t (tI r.2)]) := by
 refine TieF.intro htab 83 [.tmp 8, .tmp 9] Tryz.call153 Tryz.func153 rfl rfl rfl (Nat.le_of_ble_eq_true rfl) fun w0 L => ?_
 refine TieS.seq (.region (.run 2 rfl (.nil (.seq ?_))))
 refine TieS.block (.seq (.region (.run 3 rfl (.selOr (v := decide (mode > 3)) 3 19 (fun b => ⟨[(0, .t (tI a)), (1, .t (tI b2)), (2, .t (tI c)), (3, .t (tI mode)), (22, .t (tB b))], []⟩) rfl ?_ ?_ ?_))))
 ·exact TieO.run 3 rfl (.nil (.leaf ⟨rfl, .of rfl rfl⟩))
 ·exact TieO.run 3 rfl (.nil (.leaf ⟨rfl, .of rfl rfl⟩))
 refine TieO.run 1 rfl (.nil (.cond rfl ?_ ?_))
 ·exact TieS.seq (.region (.run 2 rfl (.nil (.ret ⟨.inl rfl, rfl⟩))))
 ·refine TieS.seq (.region (.run 3 rfl (.nil (.cond rfl ?_ ?_))))
  ·exact TieS.seq (.region (.run 2 rfl (.nil (.ret ⟨.inl rfl, rfl⟩))))
  ·refine TieS.skip (.endb (.seq (.region (.run 9 rfl ?_))))
   refine TieO.nil (.seq (.region (.run 1 rfl (.call _ rfl rfl rfl (q181 a) (fun _ => rfl) fun v => ?_))))
   refine TieO.run 1 rfl (.call _ rfl rfl rfl (q181 b2) (fun _ => rfl) fun v2 => .call _ rfl rfl rfl (q326 v v2) (fun _ => rfl) fun r2 => .run 5 rfl (.nil ?_))
   refine TieS.seq (.region (.run 1 rfl (.call _ rfl rfl rfl (q181 c) (fun _ => rfl) fun v3 => .run 1 rfl ?_)))
   refine TieO.nil (.seq (.seq (.region (.run 3 rfl ?_))))
   refine TieO.nil (.cond rfl ?_ ?_)
   ·exact TieS.seq (.region (.run 2 rfl (.nil (.ret ⟨.inl rfl, rfl⟩))))
   ·refine TieS.skip (.seq (.region (.run 3 rfl (.call _ rfl rfl rfl (q328 r2.1 r2.2 v3) (fun _ => rfl) fun r3 => ?_))))
    refine TieO.run 5 rfl (.nil (.seq (.seq (.region ?_))))
    refine TieO.run 2 rfl (.nil (.cond rfl ?_ ?_))
    ·exact TieS.seq (.region (.run 2 rfl (.nil (.ret ⟨.inl rfl, rfl⟩))))
    ·refine TieS.skip (.seq (.seq (.region (.run 4 rfl ?_))))
     refine TieO.call _ rfl rfl rfl (q346 r3.2 v3 (!((!((decide (a < 0)) == (decide (b2 < 0)))) == (decide (c < 0)))) mode) (fun _ => rfl) fun v4 => .nil (.bind (Q₁ := fun t e σ' => e = .normal ∧ Sub ⟨[(10, .t (tB (!((!((decide (a < 0)) == (decide (b2 < 0)))) == (decide (c < 0)))))), (14, .t (tK .u64 t))], []⟩ σ') ?_ ?_)
     ·refine TieS.cond rfl ?_ ?_
      ·exact TieS.region (.run 3 rfl (.nil (.leaf ⟨rfl, .of rfl rfl⟩)))
      ·exact TieS.skip (.leaf ⟨rfl, .of rfl rfl⟩)
     rintro q e σ' _ ⟨rfl, hs⟩
     refine TieX.sub hs (TieS.seq (.block (.seq (.region ?_))))
     refine TieO.run 2 rfl (.selAnd (v := decide (q ≤ 9223372036854775808)) 3 65 (fun b => ⟨[(10, .t (tB (!((!((decide (a < 0)) == (decide (b2 < 0)))) == (decide (c < 0)))))), (14, .t (tK .u64 q)), (68, .t (tB b))], []⟩) rfl ?_ ?_ ?_)
     ·exact TieO.run 3 rfl (.nil (.leaf ⟨rfl, .of rfl rfl⟩))
     ·exact TieO.run 3 rfl (.nil (.leaf ⟨rfl, .of rfl rfl⟩))
     refine TieO.run 1 rfl (.nil (.cond rfl ?_ ?_))
     ·exact TieS.seq (.region (.run 7 rfl (.nil (.ret ⟨.inl rfl, rfl⟩))))
     ·refine TieS.seq (.region (.run 3 rfl (.selAnd (v := decide (q < 9223372036854775808)) 3 77 (fun b => ⟨[(14, .t (tK .u64 q)), (80, .t (tB b))], []⟩) rfl ?_ ?_ ?_)))
      ·exact TieO.run 3 rfl (.nil (.leaf ⟨rfl, .of rfl rfl⟩))
      ·exact TieO.run 3 rfl (.nil (.leaf ⟨rfl, .of rfl rfl⟩))
      refine TieO.run 1 rfl (.nil (.cond rfl ?_ ?_))
      ·exact TieS.seq (.region (.run 4 rfl (.nil (.ret ⟨.inl rfl, rfl⟩))))
      ·refine TieS.skip (.endb (.seq (.region (.run 2 rfl ?_))))
       exact TieO.nil (.ret ⟨.inl rfl, rfl⟩)
set_option maxRecDepth 100000 in
theorem q405 (a : Int) (b2 : Int) (mode : Int) : TieF Tryz.prog 132 [.t (tI a), .t (tI b2), .t (tI mode)] (q336 a b2 mode) (fun r => .tup [.t (tI r.1), .t (tI r.2)]) := by
 refine TieF.intro htab 14 [.tmp 6, .tmp 7] Tryz.call132 Tryz.func132 rfl rfl rfl (Nat.le_of_ble_eq_true rfl) fun w0 L => ?_
 refine TieS.seq (.region (.run 2 rfl (.nil (.seq ?_))))
 refine TieS.region (.run 3 rfl (.call _ rfl rfl rfl (q369 a 1 b2 mode) (fun _ => rfl) fun r2 => .run 4 rfl (.nil ?_)))
 exact TieS.ret ⟨.inl rfl, rfl⟩
set_option maxRecDepth 100000 in
theorem q422 (a : Int) (b2 : Int) : TieF Tryz.prog 120 [.t (tI a), .t (tI b2)] (q364 a b2) (fun r => .t (tI r)) := by
 refine TieF.intro htab 14 [.tmp 4] Tryz.call120 Tryz.func120 rfl rfl rfl (Nat.le_of_ble_eq_true rfl) fun w0 L => ?_
 refine TieS.seq (.region (.run 1 rfl (.nil (.seq ?_))))
 refine TieS.region (.run 2 rfl (.call _ rfl rfl rfl (q405 a b2 2) (fun _ => rfl) fun r2 => .run 5 rfl (.nil ?_)))
 exact TieS.seq (.region (.run 2 rfl (.nil (.ret ⟨.inl rfl, rfl⟩))))
set_option maxRecDepth 100000 in
theorem q380 (c : SClock) (units : Int) : TieF Tryz.prog 91 [q221 c, .t (tI units)] (q244 c units) (fun r => .tup [.t (tI r.1), .t (tI r.2)]) := by
 refine TieF.intro htab 25 [.tmp 4, .tmp 5] Tryz.call91 Tryz.func91 rfl rfl rfl (Nat.le_of_ble_eq_true rfl) fun w0 L => ?_
 refine TieS.seq (.region (.run 3 rfl (.nil (.seq ?_))))
 refine TieS.region (.run 1 rfl (.call _ rfl rfl rfl (q379 c) (fun _ => rfl) fun v => .run 1 rfl (.nil ?_)))
 refine TieS.seq (.seq (.region (.run 2 rfl (.nil ?_))))
 refine TieS.cond rfl ?_ ?_
 ·exact TieS.seq (.region (.run 3 rfl (.nil (.ret ⟨.inl rfl, rfl⟩))))
 ·refine TieS.skip (.seq (.seq (.region (.run 3 rfl ?_))))
  refine TieO.selOr (v := decide (units > 46080)) 3 14 (fun b => ⟨[(1, .t (tI units)), (2, .ptr 2 0), (17, .t (tB b))], [(2, .box [.t (tB c.Valid), .t (tI c.At), .t (tI c.Angle), .t (tI c.Period), .t (tI c.Space), .t (tI c.Ahead)])]⟩) rfl ?_ ?_ ?_
  ·exact TieO.run 3 rfl (.nil (.leaf ⟨rfl, .of rfl rfl⟩))
  ·exact TieO.run 3 rfl (.nil (.leaf ⟨rfl, .of rfl rfl⟩))
  refine TieO.nil (.cond rfl ?_ ?_)
  ·exact TieS.seq (.region (.run 2 rfl (.nil (.ret ⟨.inl rfl, rfl⟩))))
  ·refine TieS.skip (.seq (.region (.run 6 rfl (.call _ rfl rfl rfl (q422 (w64 (units * c.Period)) c.Space) (fun _ => rfl) fun v2 => ?_))))
   exact TieO.run 2 rfl (.nil (.ret ⟨.inl rfl, rfl⟩))
set_option maxRecDepth 100000 in
theorem q289 (f2 : SFire) (c : Int) : TieF Tryz.prog 92 [A_SFire f2, .el (Pv.encI c)] (q86 f2 c) (fun r => .t (tB r)) := by
 refine TieF.intro htab 8 [.tmp 3] Tryz.call92 Tryz.func92 rfl rfl rfl (Nat.le_of_ble_eq_true rfl) fun w0 L => ?_
 refine TieS.seq (.region (.run 2 rfl (.nil (.seq ?_))))
 exact TieS.region (.run 5 rfl (.nil (.ret ⟨.inl rfl, rfl⟩)))
set_option maxRecDepth 100000 in
theorem q261 (f2 : SFire) : TieF Tryz.prog 19 [A_SFire f2] (q171 f2) (fun r => .t (tI r)) := by
 refine TieF.intro htab 11 [.tmp 2] Tryz.call19 Tryz.func19 rfl rfl rfl (Nat.le_of_ble_eq_true rfl) fun w0 L => ?_
 refine TieS.seq (.region (.run 2 rfl (.nil (.seq ?_))))
 refine TieS.block (.seq (.region (.run 4 rfl (.nil ?_))))
 refine TieS.cond rfl ?_ ?_
 ·exact TieS.seq (.region (.run 1 rfl (.nil (.ret ⟨.inl rfl, rfl⟩))))
 ·refine TieS.seq (.region (.run 4 rfl (.nil (.cond rfl ?_ ?_))))
  ·exact TieS.seq (.region (.run 1 rfl (.nil (.ret ⟨.inl rfl, rfl⟩))))
  ·refine TieS.skip (.endb (.seq (.region (.run 1 rfl ?_))))
   exact TieO.nil (.ret ⟨.inl rfl, rfl⟩)
set_option maxRecDepth 100000 in
theorem q350 (f2 : SFire) (c : SEngine) : TieF Tryz.prog 133 [A_SFire f2, .el (q18 c)] (q132 f2 c) (fun r => .t (tB r)) := by
 refine TieF.intro htab 8 [.tmp 3] Tryz.call133 Tryz.func133 rfl rfl rfl (Nat.le_of_ble_eq_true rfl) fun w0 L => ?_
 refine TieS.seq (.region (.run 2 rfl (.nil (.seq ?_))))
 refine TieS.region (.run 2 rfl (.call _ rfl rfl rfl (q227 c f2) (fun _ => rfl) fun v => .run 2 rfl (.nil ?_)))
 exact TieS.ret ⟨.inl rfl, rfl⟩
set_option maxRecDepth 100000 in
theorem q348 (g : SFire) (c : SFire) : TieF Tryz.prog 134 [A_SFire g, .el (q13 c)] (q172 g c) (fun r => .t (tB r)) := by
 refine TieF.intro htab 9 [.tmp 3] Tryz.call134 Tryz.func134 rfl rfl rfl (Nat.le_of_ble_eq_true rfl) fun w0 L => ?_
 refine TieS.seq (.region (.run 2 rfl (.nil (.seq ?_))))
 exact TieS.region (.run 6 rfl (.nil (.ret ⟨.inl rfl, rfl⟩)))
set_option maxRecDepth 100000 in
set_option maxHeartbeats 4000000 in
theorem q83 (v_at : Int) (kind : Int) (pulse : Int) (c : List SEvent) (c2 : SFire) : TieG Tryz.prog 135 [.t (tI v_at), .t (tI kind), .t (tI pulse), .ptr 1000000 0, .el (q13 c2)] [(1000000, .box [.own 1000001]), (1000001, .rs 68 4 c q16)] (q68 v_at kind pulse c c2) (fun _ => .tup []) (fun r => [(900000, .rs 68 4 r q16), (1000000, .box [.own 900000])]) := by
 refine TieG.intro htab 18 [] Tryz.call135 Tryz.func135 rfl rfl rfl (Nat.le_of_ble_eq_true rfl) fun w0 L => ?_
 refine TieS.bind (Q₁ := fun t e σ' => e = .normal ∧ Sub ⟨[], [(2136, .rs 68 4 t q16), (1000000, .box [.own 2136])]⟩ σ') ?_ ?_
 ·refine TieX.pre fun v hv => TieS.draws 9 (bm 11 0) (bm 11 511) ⟨[(3, .ptr 1000000 0), (8, .own 1000001), (16, .own 16)], [(16, .rs 68 4 ([(⟨v, kind, c2.Cylinder, pulse⟩ : SEvent)] : List SEvent) q16), (1000000, .box [.own 1000001]), (1000001, .rs 68 4 c q16)]⟩ mixed (fun _ _ _ h => by cases h.1) rfl rfl rfl rfl ?_ ?_
  ·refine TieA.have_ (fuel₁ := 3) (l₁ := (bm 11 255)) (σ₁ := ⟨[(3, .ptr 1000000 0), (8, .own 1000001), (15, .agg [.t (tI v), .t (tI kind), .t (tI c2.Cylinder), .t (tI pulse)])], [(1000000, .box [.own 1000001]), (1000001, .rs 68 4 c q16)]⟩) ?_ fun A_2 => ?_
   ·refine TieA.all [8] (by kernel_rfl) rfl (AllA.run _ rfl rfl rfl ?_ ?_)
    ·exact TieA.done (.of rfl rfl)
    exact AllA.nil
   refine TieA.have_ (fuel₁ := 4) (l₁ := (bm 11 127)) (σ₁ := ⟨[(3, .ptr 1000000 0), (8, .own 1000001), (10, .t (tI v)), (11, .t (tI kind)), (13, .t (tI c2.Cylinder)), (14, .t (tI pulse))], [(1000000, .box [.own 1000001]), (1000001, .rs 68 4 c q16)]⟩) ?_ fun A_1 => ?_
   ·exact TieA.all [7] (by kernel_rfl) rfl (AllA.runTo _ rfl rfl rfl (.of rfl rfl) A_2 (AllA.nil))
   refine TieA.have_ (fuel₁ := 5) (l₁ := (bm 11 95)) (σ₁ := ⟨[(3, .ptr 1000000 0), (8, .own 1000001), (10, .t (tI v)), (11, .t (tI kind)), (12, .el (List.drop 0 (q13 c2))), (14, .t (tI pulse))], [(1000000, .box [.own 1000001]), (1000001, .rs 68 4 c q16)]⟩) ?_ fun A_0 => ?_
   ·exact TieA.all [5] (by kernel_rfl) rfl (AllA.runTo _ rfl rfl rfl (.of rfl rfl) A_1 (AllA.nil))
   refine TieA.have_ (fuel₁ := 5) (l₁ := (bm 11 123)) (σ₁ := ⟨[(3, .ptr 1000000 0), (8, .own 1000001), (9, .t (tI v_at)), (11, .t (tI kind)), (13, .t (tI c2.Cylinder)), (14, .t (tI pulse))], [(1000000, .box [.own 1000001]), (1000001, .rs 68 4 c q16)]⟩) ?_ fun A_3 => ?_
   ·refine TieA.all [2] (by kernel_rfl) rfl (AllA.cons _ rfl rfl ?_ A_1 ?_)
    ·refine TieO.withH hv (TieO.call _ rfl rfl rfl (q175 v_at 46080) (fun _ => rfl) (TieO.ifH ?_))
     exact TieO.nil (TieS.leaf ⟨rfl, .of rfl rfl⟩)
    exact AllA.nil
   refine TieA.have_ (fuel₁ := 5) (l₁ := (bm 11 126)) (σ₁ := ⟨[(3, .ptr 1000000 0), (10, .t (tI v)), (11, .t (tI kind)), (13, .t (tI c2.Cylinder)), (14, .t (tI pulse))], [(1000000, .box [.own 1000001]), (1000001, .rs 68 4 c q16)]⟩) ?_ fun A_4 => ?_
   ·refine TieA.all [0, 7] (by kernel_rfl) rfl (AllA.runTo _ rfl rfl rfl (.of rfl rfl) A_1 (AllA.run _ rfl rfl rfl ?_ ?_))
    ·refine TieA.all [0, 8] (by kernel_rfl) rfl (AllA.runTo _ rfl rfl rfl (.of rfl rfl) A_2 (AllA.run _ rfl rfl rfl ?_ ?_))
     ·refine TieA.all [0] (by kernel_rfl) rfl (AllA.run _ rfl rfl rfl ?_ ?_)
      ·exact TieA.done (.of rfl rfl)
      exact AllA.nil
     exact AllA.nil
    exact AllA.nil
   refine TieA.mv 1 rfl (.inl rfl) rfl (by kernel_rfl) rfl (.mv 3 rfl (.inl rfl) rfl (by kernel_rfl) rfl (.fE 4 rfl rfl rfl (by kernel_rfl) rfl rfl rfl (.mv 6 rfl (.inl rfl) rfl (by kernel_rfl) rfl (.all [0, 2, 5] (by kernel_rfl) rfl ?_))))
   refine AllA.run _ rfl rfl rfl ?_ ?_
   ·refine TieA.all [2, 5] (by kernel_rfl) rfl (AllA.cons _ rfl rfl ?_ A_0 ?_)
    ·refine TieO.withH hv (TieO.call _ rfl rfl rfl (q175 v_at 46080) (fun _ => rfl) (TieO.ifH ?_))
     exact TieO.nil (TieS.leaf ⟨rfl, .of rfl rfl⟩)
    exact AllA.runTo _ rfl rfl rfl (.of rfl rfl) A_3 (AllA.nil)
   refine AllA.cons (σ₁ := ⟨[(3, .ptr 1000000 0), (10, .t (tI v)), (11, .t (tI kind)), (12, .el (List.drop 0 (q13 c2))), (14, .t (tI pulse))], [(1000000, .box [.own 1000001]), (1000001, .rs 68 4 c q16)]⟩) _ rfl rfl ?_ ?_ ?_
   ·refine TieO.withH hv (TieO.call _ rfl rfl rfl (q175 v_at 46080) (fun _ => rfl) (TieO.ifH ?_))
    exact TieO.nil (TieS.leaf ⟨rfl, .of rfl rfl⟩)
   ·exact TieA.all [0, 5] (by kernel_rfl) rfl (AllA.runTo _ rfl rfl rfl (.of rfl rfl) A_0 (AllA.runTo _ rfl rfl rfl (.of rfl rfl) A_4 (AllA.nil)))
   refine AllA.run _ rfl rfl rfl ?_ ?_
   ·refine TieA.all [0, 2] (by kernel_rfl) rfl (AllA.runTo _ rfl rfl rfl (.of rfl rfl) A_3 (AllA.cons _ rfl rfl ?_ A_4 ?_))
    ·refine TieO.withH hv (TieO.call _ rfl rfl rfl (q175 v_at 46080) (fun _ => rfl) (TieO.ifH ?_))
     exact TieO.nil (TieS.leaf ⟨rfl, .of rfl rfl⟩)
    exact AllA.nil
   exact AllA.nil
  refine TieO.sub (σ' := ⟨[(3, .ptr 1000000 0), (8, .own 1000001), (16, .own 16)], [(16, .rs 68 4 ([(⟨v, kind, c2.Cylinder, pulse⟩ : SEvent)] : List SEvent) q16), (1000000, .box [.own 1000001]), (1000001, .rs 68 4 c q16)]⟩) (.of rfl rfl) (.ren [(16, 16), (1000000, 1000000), (1000001, 2136)] rfl rfl rfl (.appendY (id := 2136) (l := c) (r := ([(⟨v, kind, c2.Cylinder, pulse⟩ : SEvent)] : List SEvent)) (tm' := [(3, .ptr 1000000 0), (16, .own 16)]) (hp' := [(16, .rs 68 4 ([(⟨v, kind, c2.Cylinder, pulse⟩ : SEvent)] : List SEvent) q16), (1000000, .box [.any])]) rfl rfl rfl rfl rfl rfl rfl (fun _ => rfl) (fun _ => rfl) (.inl ⟨rfl, rfl⟩) (.inr ⟨_, rfl, rfl⟩) (.of rfl rfl) rfl rfl rfl fun l => .run 1 rfl (.nil ?_)))
  exact TieS.leaf ⟨rfl, .of rfl rfl⟩
 rintro f2 e σ' _ ⟨rfl, hs⟩
 exact TieX.sub hs (TieS.leaf ⟨.inr rfl, ⟨[(2136, 900000), (1000000, 1000000)], _, _, rfl, rfl, rfl, rfl, rfl⟩⟩)
set_option maxRecDepth 100000 in
theorem q33 (d : Int) (c : Int) : TieF Tryz.prog 136 [.t (tI d), .el (Pv.encI c)] (q41 d c) (fun r => .t (tI r)) := by
 refine TieF.intro htab 8 [.tmp 3] Tryz.call136 Tryz.func136 rfl rfl rfl (Nat.le_of_ble_eq_true rfl) fun w0 L => ?_
 refine TieS.seq (.region (.run 1 rfl (.nil (.seq ?_))))
 refine TieS.region (.run 3 rfl (.quo rfl rfl rfl rfl rfl rfl fun q => .run 1 rfl (.nil ?_)))
 exact TieS.ret ⟨.inl rfl, rfl⟩
set_option maxRecDepth 100000 in
def q338 : Go.Shelf.Ren := ⟨fun | 6 => 137 | 14 => 154 | 15 => 130 | 20 => 169 | 21 => 170 | 22 => 171 | 23 => 172 | 24 => 173 | 25 => 174 | 26 => 175 | 27 => 176 | 28 => 151 | 29 => 152 | 46 => 180 | 47 => 161 | 48 => 162 | 49 => 181 | 50 => 182 | 57 => 184 | n => n, fun | 0 => 0 | 3 => 3 | 4 => 4 | 5 => 5 | 9 => 9 | 22 => 113 | 24 => 68 | 25 => 165 | 39 => 161 | 45 => 170 | 46 => 171 | 50 => 103 | 53 => 177 | 55 => 179 | 66 => 190 | 70 => 194 | 76 => 205 | 77 => 154 | n => n, fun  | n => n⟩
open Go.Shelf in
theorem sortL137 : SlLaysF0.n6 Tryz.prog q338 := {
 mixed := by kernel_rfl,
 f6 := ⟨Tryz.f137.name, by decide, Tryz.func137.trans (congrArg some (by kernel_rfl))⟩,
 f14 := ⟨Tryz.f154.name, by decide, Tryz.func154.trans (congrArg some (by kernel_rfl))⟩,
 f15 := Tryz.func130.trans (congrArg some (by kernel_rfl)),
 f20 := ⟨Tryz.f169.name, by decide, Tryz.func169.trans (congrArg some (by kernel_rfl))⟩,
 f21 := ⟨Tryz.f170.name, by decide, Tryz.func170.trans (congrArg some (by kernel_rfl))⟩,
 f22 := ⟨Tryz.f171.name, by decide, Tryz.func171.trans (congrArg some (by kernel_rfl))⟩,
 f23 := ⟨Tryz.f172.name, by decide, Tryz.func172.trans (congrArg some (by kernel_rfl))⟩,
 f24 := ⟨Tryz.f173.name, by decide, Tryz.func173.trans (congrArg some (by kernel_rfl))⟩,
 f25 := ⟨Tryz.f174.name, by decide, Tryz.func174.trans (congrArg some (by kernel_rfl))⟩,
 f26 := ⟨Tryz.f175.name, by decide, Tryz.func175.trans (congrArg some (by kernel_rfl))⟩,
 f27 := ⟨Tryz.f176.name, by decide, Tryz.func176.trans (congrArg some (by kernel_rfl))⟩,
 f28 := Tryz.func151.trans (congrArg some (by kernel_rfl)),
 f29 := Tryz.func152.trans (congrArg some (by kernel_rfl)),
 f46 := ⟨Tryz.f180.name, by decide, Tryz.func180.trans (congrArg some (by kernel_rfl))⟩,
 f47 := Tryz.func161.trans (congrArg some (by kernel_rfl)),
 f48 := Tryz.func162.trans (congrArg some (by kernel_rfl)),
 f49 := ⟨Tryz.f181.name, by decide, Tryz.func181.trans (congrArg some (by kernel_rfl))⟩,
 f50 := ⟨Tryz.f182.name, by decide, Tryz.func182.trans (congrArg some (by kernel_rfl))⟩,
 f57 := ⟨Tryz.f184.name, by decide, Tryz.func184.trans (congrArg some (by kernel_rfl))⟩,
 t0 := Tryz.underlying0,
 a0 := Tryz.isAgg0,
 z0 := Tryz.sizeOf0,
 v0 := Tryz.zeroValue0,
 t3 := Tryz.underlying3,
 a3 := Tryz.isAgg3,
 z3 := Tryz.sizeOf3,
 v3 := Tryz.zeroValue3,
 t4 := Tryz.underlying4,
 a4 := Tryz.isAgg4,
 z4 := Tryz.sizeOf4,
 v4 := Tryz.zeroValue4,
 t5 := Tryz.underlying5,
 a5 := Tryz.isAgg5,
 z5 := Tryz.sizeOf5,
 v5 := Tryz.zeroValue5,
 t9 := Tryz.underlying9,
 a9 := Tryz.isAgg9,
 z9 := Tryz.sizeOf9,
 v9 := Tryz.zeroValue9,
 t22 := Tryz.underlying113,
 a22 := Tryz.isAgg113,
 z22 := Tryz.sizeOf113,
 v22 := Tryz.zeroValue113,
 t25 := Tryz.underlying165,
 a25 := Tryz.isAgg165,
 z25 := Tryz.sizeOf165,
 v25 := Tryz.zeroValue165,
 t39 := Tryz.underlying161,
 a39 := Tryz.isAgg161,
 z39 := Tryz.sizeOf161,
 v39 := Tryz.zeroValue161,
 t45 := Tryz.underlying170,
 a45 := Tryz.isAgg170,
 z45 := Tryz.sizeOf170,
 v45 := Tryz.zeroValue170,
 t46 := Tryz.underlying171,
 a46 := Tryz.isAgg171,
 z46 := Tryz.sizeOf171,
 v46 := Tryz.zeroValue171,
 t50 := Tryz.underlying103,
 a50 := Tryz.isAgg103,
 z50 := Tryz.sizeOf103,
 v50 := Tryz.zeroValue103,
 t53 := Tryz.underlying177,
 a53 := Tryz.isAgg177,
 z53 := Tryz.sizeOf177,
 v53 := Tryz.zeroValue177,
 t55 := Tryz.underlying179,
 a55 := Tryz.isAgg179,
 z55 := Tryz.sizeOf179,
 v55 := Tryz.zeroValue179,
 t66 := Tryz.underlying190,
 a66 := Tryz.isAgg190,
 z66 := Tryz.sizeOf190,
 v66 := Tryz.zeroValue190,
 t70 := Tryz.underlying194,
 a70 := Tryz.isAgg194,
 z70 := Tryz.sizeOf194,
 v70 := Tryz.zeroValue194,
 t76 := Tryz.underlying205,
 a76 := Tryz.isAgg205,
 z76 := Tryz.sizeOf205,
 v76 := Tryz.zeroValue205,
 t77 := Tryz.underlying154,
 a77 := Tryz.isAgg154,
 z77 := Tryz.sizeOf154,
 v77 := Tryz.zeroValue154 }
theorem q257 (s : List SEvent) (n : Nat) (cs : List (List Tree)) (f : SEvent → SEvent → Option Int) (h : ∀ x0 x1, TieF Tryz.prog n ([q219 x0, q219 x1] ++ cs.map T.el) (f x0 x1) (fun r => .t (tI r))) :
  TieG Tryz.prog 137 [.own 1000000, .fz n cs] [(1000000, .rows 68 4 s.length (s.map q16))] (q97 s f) (fun _ => .tup []) (fun r => [(1000000, .rows 68 4 r.length (r.map q16))]) :=
 sortFunc_tie (E := SEvent) (enc := q16) (ρ := q338) sortL137 (k := 4) (fun x => [.int .i64 x.Angle, .int .i64 x.Kind, .int .i64 x.Cylinder, .int .i64 x.Pulse]) (fun _ => rfl) (fun _ => rfl) (fun x v hv => by simp only [List.mem_cons, List.not_mem_nil, or_false] at hv; rcases hv with rfl | rfl | rfl | rfl <;> rfl) (fun w => Tryz.isAgg68 w) (fun w => Tryz.sizeOf68 w) (A := q219) (fun _ => rfl) f h s
set_option maxRecDepth 100000 in
theorem q365 (a : SEvent) (b2 : SEvent) : TieF Tryz.prog 138 [q219 a, q219 b2] (q103 a b2) (fun r => .t (tI r)) := by
 refine TieF.intro htab 27 [.tmp 4] Tryz.call138 Tryz.func138 rfl rfl rfl (Nat.le_of_ble_eq_true rfl) fun w0 L => ?_
 refine TieS.seq (.region (.run 3 rfl (.nil (.seq ?_))))
 refine TieX.pre fun v hv => TieX.pre fun v2 hv2 => TieX.pre fun v3 hv3 => TieX.pre fun v4 hv4 => TieS.draw 20 [_, _, _, _, _, _, _, _, _, _, _, _, _, _, _, _, _, _, _, _] [(2, .ptr 2 0), (3, .ptr 3 0), (4, .t (tI 0))] [(2, .box [.t (tI a.Angle), .t (tI a.Kind), .t (tI a.Cylinder), .t (tI a.Pulse)]), (3, .box [.t (tI b2.Angle), .t (tI b2.Kind), .t (tI b2.Cylinder), .t (tI b2.Pulse)])] mixed (.of rfl rfl) rfl rfl rfl rfl (.cons (.quiet rfl rfl rfl) (.cons (.quiet rfl rfl rfl) (.cons (.quiet rfl rfl rfl) (.cons (.quiet rfl rfl rfl) (.cons (.callV (q36 a.Angle b2.Angle) hv rfl rfl rfl rfl) (.cons (.quiet rfl rfl rfl) (.cons (.quiet rfl rfl rfl) (.cons (.quiet rfl rfl rfl) (.cons (.quiet rfl rfl rfl) (.cons (.callV (q36 a.Cylinder b2.Cylinder) hv2 rfl rfl rfl rfl) (.cons (.quiet rfl rfl rfl) (.cons (.quiet rfl rfl rfl) (.cons (.quiet rfl rfl rfl) (.cons (.quiet rfl rfl rfl) (.cons (.callV (q36 a.Kind b2.Kind) hv3 rfl rfl rfl rfl) (.cons (.quiet rfl rfl rfl) (.cons (.quiet rfl rfl rfl) (.cons (.quiet rfl rfl rfl) (.cons (.quiet rfl rfl rfl) (.cons (.callV (q36 a.Pulse b2.Pulse) hv4 rfl rfl rfl rfl) (.nil))))))))))))))))))))) ?_
 exact TieO.run 1 rfl (.callS _ rfl rfl rfl (q242 ([v, v2, v3, v4] : List Int)) (fun _ => rfl) (fun _ => rfl) fun v5 => .run 1 rfl (.nil (.ret ⟨.inl rfl, rfl⟩)))
end Go.Proofs.YtldhbjpnlehpgaaGreat
