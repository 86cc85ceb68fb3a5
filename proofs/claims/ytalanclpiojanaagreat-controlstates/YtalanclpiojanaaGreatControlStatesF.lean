/- This file joins: Ties, printed by gen.py: each function of the loaded program computes its model. -/
import Derived.Test.YtalanclpiojanaaGreatControlStatesE
import Derived.Test.YtalanclpiojanaaGreatProg
import Derived.KernelRfl
set_option linter.unusedSimpArgs false
set_option linter.unusedVariables false
namespace Go.Proofs.YtalanclpiojanaaGreat
open Go Go.Pv Go.Proofs
theorem mixed : Tryz.prog.follows .mixedOrders = true := by kernel_rfl
def tab : Tab := [(3, ⟨1, .int .i64, [.int .i64 0]⟩),
  (4, ⟨1, .bool, [.bool false]⟩),
  (22, ⟨1, .slice 3, [.slice none 0 0]⟩),
  (23, ⟨1, .slice 22, [.slice none 0 0]⟩),
  (25, ⟨3, .struct [(0, 1), (1, 1), (2, 1)], [.slice none 0 0, .slice none 0 0, .slice none 0 0]⟩),
  (27, ⟨2, .struct [(0, 1), (1, 1)], [.slice none 0 0, .slice none 0 0]⟩),
  (29, ⟨4, .struct [(0, 1), (1, 1), (2, 1), (3, 1)], [.int .i64 0, .int .i64 0, .int .i64 0, .int .i64 0]⟩),
  (31, ⟨24, .struct [(0, 3), (3, 3), (6, 3), (9, 3), (12, 2), (14, 2), (16, 2), (18, 2), (20, 4)], [.slice none 0 0, .slice none 0 0, .slice none 0 0, .slice none 0 0, .slice none 0 0, .slice none 0 0, .slice none 0 0, .slice none 0 0, .slice none 0 0, .slice none 0 0, .slice none 0 0, .slice none 0 0, .slice none 0 0, .slice none 0 0, .slice none 0 0, .slice none 0 0, .slice none 0 0, .slice none 0 0, .slice none 0 0, .slice none 0 0, .int .i64 0, .int .i64 0, .int .i64 0, .int .i64 0]⟩),
  (33, ⟨2, .struct [(0, 1), (1, 1)], [.slice none 0 0, .int .i64 0]⟩),
  (35, ⟨3, .struct [(0, 1), (1, 1), (2, 1)], [.int .i64 0, .int .i64 0, .bool false]⟩),
  (37, ⟨1, .struct [(0, 1)], [.int .i64 0]⟩),
  (38, ⟨1, .slice 95, [.slice none 0 0]⟩),
  (39, ⟨1, .slice 105, [.slice none 0 0]⟩),
  (41, ⟨5, .struct [(0, 1), (1, 1), (2, 1), (3, 1), (4, 1)], [.bool false, .bool false, .int .i64 0, .int .i64 0, .slice none 0 0]⟩),
  (43, ⟨2, .struct [(0, 1), (1, 1)], [.int .i64 0, .int .i64 0]⟩),
  (45, ⟨13, .struct [(0, 3), (3, 1), (4, 1), (5, 5), (10, 1), (11, 2)], [.int .i64 0, .int .i64 0, .bool false, .int .i64 0, .slice none 0 0, .bool false, .bool false, .int .i64 0, .int .i64 0, .slice none 0 0, .int .i64 0, .int .i64 0, .int .i64 0]⟩),
  (46, ⟨1, .slice 73, [.slice none 0 0]⟩),
  (48, ⟨10, .struct [(0, 1), (1, 1), (2, 1), (3, 1), (4, 1), (5, 1), (6, 1), (7, 1), (8, 1), (9, 1)], [.int .i64 0, .int .i64 0, .int .i64 0, .int .i64 0, .int .i64 0, .int .i64 0, .int .i64 0, .int .i64 0, .slice none 0 0, .slice none 0 0]⟩),
  (52, ⟨1, .int .i64, [.int .i64 0]⟩),
  (73, ⟨4, .struct [(0, 1), (1, 1), (2, 1), (3, 1)], [.int .i64 0, .int .i64 0, .int .i64 0, .int .i64 0]⟩),
  (95, ⟨3, .struct [(0, 1), (1, 1), (2, 1)], [.int .i64 0, .int .i64 0, .int .i64 0]⟩),
  (105, ⟨2, .struct [(0, 1), (1, 1)], [.int .i64 0, .int .i64 0]⟩),
  (106, ⟨1, .slice 25, [.slice none 0 0]⟩),
  (107, ⟨1, .slice 27, [.slice none 0 0]⟩),
  (199, ⟨1, .int .u64, [.int .u64 0]⟩),
  (222, ⟨1, .int .u32, [.int .u32 0]⟩),
  (225, ⟨1, .int .u64, [.int .u64 0]⟩)]
theorem ti3 : TIok Tryz.prog 3 ⟨1, .int .i64, [.int .i64 0]⟩ := ⟨Tryz.t3, _, by kernel_rfl, rfl, Tryz.underlying3, rfl, ⟨_, rfl, rfl⟩, Nat.le_of_ble_eq_true rfl⟩
theorem ti4 : TIok Tryz.prog 4 ⟨1, .bool, [.bool false]⟩ := ⟨Tryz.t4, _, by kernel_rfl, rfl, Tryz.underlying4, rfl, ⟨_, rfl, rfl⟩, Nat.le_of_ble_eq_true rfl⟩
theorem ti22 : TIok Tryz.prog 22 ⟨1, .slice 3, [.slice none 0 0]⟩ := ⟨Tryz.t22, _, by kernel_rfl, rfl, Tryz.underlying22, rfl, ⟨_, rfl, rfl⟩, Nat.le_of_ble_eq_true rfl⟩
theorem ti23 : TIok Tryz.prog 23 ⟨1, .slice 22, [.slice none 0 0]⟩ := ⟨Tryz.t23, _, by kernel_rfl, rfl, Tryz.underlying23, rfl, ⟨_, rfl, rfl⟩, Nat.le_of_ble_eq_true rfl⟩
theorem ti25 : TIok Tryz.prog 25 ⟨3, .struct [(0, 1), (1, 1), (2, 1)], [.slice none 0 0, .slice none 0 0, .slice none 0 0]⟩ := by
  refine ⟨Tryz.t25, _, by kernel_rfl, rfl, Tryz.underlying25, ⟨_, rfl, rfl, fun f o n h => ?_⟩, ⟨_, rfl, rfl⟩, Nat.le_of_ble_eq_true rfl⟩
  match f, h with
  | 0, h => cases h; exact ⟨_, Tryz.t22, rfl, rfl, by kernel_rfl, rfl⟩
  | 1, h => cases h; exact ⟨_, Tryz.t22, rfl, rfl, by kernel_rfl, rfl⟩
  | 2, h => cases h; exact ⟨_, Tryz.t23, rfl, rfl, by kernel_rfl, rfl⟩
  | _ + 3, h => simp at h
theorem ti27 : TIok Tryz.prog 27 ⟨2, .struct [(0, 1), (1, 1)], [.slice none 0 0, .slice none 0 0]⟩ := by
  refine ⟨Tryz.t27, _, by kernel_rfl, rfl, Tryz.underlying27, ⟨_, rfl, rfl, fun f o n h => ?_⟩, ⟨_, rfl, rfl⟩, Nat.le_of_ble_eq_true rfl⟩
  match f, h with
  | 0, h => cases h; exact ⟨_, Tryz.t22, rfl, rfl, by kernel_rfl, rfl⟩
  | 1, h => cases h; exact ⟨_, Tryz.t22, rfl, rfl, by kernel_rfl, rfl⟩
  | _ + 2, h => simp at h
theorem ti29 : TIok Tryz.prog 29 ⟨4, .struct [(0, 1), (1, 1), (2, 1), (3, 1)], [.int .i64 0, .int .i64 0, .int .i64 0, .int .i64 0]⟩ := by
  refine ⟨Tryz.t29, _, by kernel_rfl, rfl, Tryz.underlying29, ⟨_, rfl, rfl, fun f o n h => ?_⟩, ⟨_, rfl, rfl⟩, Nat.le_of_ble_eq_true rfl⟩
  match f, h with
  | 0, h => cases h; exact ⟨_, Tryz.t3, rfl, rfl, by kernel_rfl, rfl⟩
  | 1, h => cases h; exact ⟨_, Tryz.t3, rfl, rfl, by kernel_rfl, rfl⟩
  | 2, h => cases h; exact ⟨_, Tryz.t3, rfl, rfl, by kernel_rfl, rfl⟩
  | 3, h => cases h; exact ⟨_, Tryz.t3, rfl, rfl, by kernel_rfl, rfl⟩
  | _ + 4, h => simp at h
theorem ti31 : TIok Tryz.prog 31 ⟨24, .struct [(0, 3), (3, 3), (6, 3), (9, 3), (12, 2), (14, 2), (16, 2), (18, 2), (20, 4)], [.slice none 0 0, .slice none 0 0, .slice none 0 0, .slice none 0 0, .slice none 0 0, .slice none 0 0, .slice none 0 0, .slice none 0 0, .slice none 0 0, .slice none 0 0, .slice none 0 0, .slice none 0 0, .slice none 0 0, .slice none 0 0, .slice none 0 0, .slice none 0 0, .slice none 0 0, .slice none 0 0, .slice none 0 0, .slice none 0 0, .int .i64 0, .int .i64 0, .int .i64 0, .int .i64 0]⟩ := by
  refine ⟨Tryz.t31, _, by kernel_rfl, rfl, Tryz.underlying31, ⟨_, rfl, rfl, fun f o n h => ?_⟩, ⟨_, rfl, rfl⟩, Nat.le_of_ble_eq_true rfl⟩
  match f, h with
  | 0, h => cases h; exact ⟨_, Tryz.t25, rfl, rfl, by kernel_rfl, rfl⟩
  | 1, h => cases h; exact ⟨_, Tryz.t25, rfl, rfl, by kernel_rfl, rfl⟩
  | 2, h => cases h; exact ⟨_, Tryz.t25, rfl, rfl, by kernel_rfl, rfl⟩
  | 3, h => cases h; exact ⟨_, Tryz.t25, rfl, rfl, by kernel_rfl, rfl⟩
  | 4, h => cases h; exact ⟨_, Tryz.t27, rfl, rfl, by kernel_rfl, rfl⟩
  | 5, h => cases h; exact ⟨_, Tryz.t27, rfl, rfl, by kernel_rfl, rfl⟩
  | 6, h => cases h; exact ⟨_, Tryz.t27, rfl, rfl, by kernel_rfl, rfl⟩
  | 7, h => cases h; exact ⟨_, Tryz.t27, rfl, rfl, by kernel_rfl, rfl⟩
  | 8, h => cases h; exact ⟨_, Tryz.t29, rfl, rfl, by kernel_rfl, rfl⟩
  | _ + 9, h => simp at h
theorem ti33 : TIok Tryz.prog 33 ⟨2, .struct [(0, 1), (1, 1)], [.slice none 0 0, .int .i64 0]⟩ := by
  refine ⟨Tryz.t33, _, by kernel_rfl, rfl, Tryz.underlying33, ⟨_, rfl, rfl, fun f o n h => ?_⟩, ⟨_, rfl, rfl⟩, Nat.le_of_ble_eq_true rfl⟩
  match f, h with
  | 0, h => cases h; exact ⟨_, Tryz.t22, rfl, rfl, by kernel_rfl, rfl⟩
  | 1, h => cases h; exact ⟨_, Tryz.t3, rfl, rfl, by kernel_rfl, rfl⟩
  | _ + 2, h => simp at h
theorem ti35 : TIok Tryz.prog 35 ⟨3, .struct [(0, 1), (1, 1), (2, 1)], [.int .i64 0, .int .i64 0, .bool false]⟩ := by
  refine ⟨Tryz.t35, _, by kernel_rfl, rfl, Tryz.underlying35, ⟨_, rfl, rfl, fun f o n h => ?_⟩, ⟨_, rfl, rfl⟩, Nat.le_of_ble_eq_true rfl⟩
  match f, h with
  | 0, h => cases h; exact ⟨_, Tryz.t3, rfl, rfl, by kernel_rfl, rfl⟩
  | 1, h => cases h; exact ⟨_, Tryz.t3, rfl, rfl, by kernel_rfl, rfl⟩
  | 2, h => cases h; exact ⟨_, Tryz.t4, rfl, rfl, by kernel_rfl, rfl⟩
  | _ + 3, h => simp at h
theorem ti37 : TIok Tryz.prog 37 ⟨1, .struct [(0, 1)], [.int .i64 0]⟩ := by
  refine ⟨Tryz.t37, _, by kernel_rfl, rfl, Tryz.underlying37, ⟨_, rfl, rfl, fun f o n h => ?_⟩, ⟨_, rfl, rfl⟩, Nat.le_of_ble_eq_true rfl⟩
  match f, h with
  | 0, h => cases h; exact ⟨_, Tryz.t3, rfl, rfl, by kernel_rfl, rfl⟩
  | _ + 1, h => simp at h
theorem ti38 : TIok Tryz.prog 38 ⟨1, .slice 95, [.slice none 0 0]⟩ := ⟨Tryz.t38, _, by kernel_rfl, rfl, Tryz.underlying38, rfl, ⟨_, rfl, rfl⟩, Nat.le_of_ble_eq_true rfl⟩
theorem ti39 : TIok Tryz.prog 39 ⟨1, .slice 105, [.slice none 0 0]⟩ := ⟨Tryz.t39, _, by kernel_rfl, rfl, Tryz.underlying39, rfl, ⟨_, rfl, rfl⟩, Nat.le_of_ble_eq_true rfl⟩
theorem ti41 : TIok Tryz.prog 41 ⟨5, .struct [(0, 1), (1, 1), (2, 1), (3, 1), (4, 1)], [.bool false, .bool false, .int .i64 0, .int .i64 0, .slice none 0 0]⟩ := by
  refine ⟨Tryz.t41, _, by kernel_rfl, rfl, Tryz.underlying41, ⟨_, rfl, rfl, fun f o n h => ?_⟩, ⟨_, rfl, rfl⟩, Nat.le_of_ble_eq_true rfl⟩
  match f, h with
  | 0, h => cases h; exact ⟨_, Tryz.t4, rfl, rfl, by kernel_rfl, rfl⟩
  | 1, h => cases h; exact ⟨_, Tryz.t4, rfl, rfl, by kernel_rfl, rfl⟩
  | 2, h => cases h; exact ⟨_, Tryz.t3, rfl, rfl, by kernel_rfl, rfl⟩
  | 3, h => cases h; exact ⟨_, Tryz.t3, rfl, rfl, by kernel_rfl, rfl⟩
  | 4, h => cases h; exact ⟨_, Tryz.t39, rfl, rfl, by kernel_rfl, rfl⟩
  | _ + 5, h => simp at h
theorem ti43 : TIok Tryz.prog 43 ⟨2, .struct [(0, 1), (1, 1)], [.int .i64 0, .int .i64 0]⟩ := by
  refine ⟨Tryz.t43, _, by kernel_rfl, rfl, Tryz.underlying43, ⟨_, rfl, rfl, fun f o n h => ?_⟩, ⟨_, rfl, rfl⟩, Nat.le_of_ble_eq_true rfl⟩
  match f, h with
  | 0, h => cases h; exact ⟨_, Tryz.t3, rfl, rfl, by kernel_rfl, rfl⟩
  | 1, h => cases h; exact ⟨_, Tryz.t3, rfl, rfl, by kernel_rfl, rfl⟩
  | _ + 2, h => simp at h
theorem ti45 : TIok Tryz.prog 45 ⟨13, .struct [(0, 3), (3, 1), (4, 1), (5, 5), (10, 1), (11, 2)], [.int .i64 0, .int .i64 0, .bool false, .int .i64 0, .slice none 0 0, .bool false, .bool false, .int .i64 0, .int .i64 0, .slice none 0 0, .int .i64 0, .int .i64 0, .int .i64 0]⟩ := by
  refine ⟨Tryz.t45, _, by kernel_rfl, rfl, Tryz.underlying45, ⟨_, rfl, rfl, fun f o n h => ?_⟩, ⟨_, rfl, rfl⟩, Nat.le_of_ble_eq_true rfl⟩
  match f, h with
  | 0, h => cases h; exact ⟨_, Tryz.t35, rfl, rfl, by kernel_rfl, rfl⟩
  | 1, h => cases h; exact ⟨_, Tryz.t37, rfl, rfl, by kernel_rfl, rfl⟩
  | 2, h => cases h; exact ⟨_, Tryz.t38, rfl, rfl, by kernel_rfl, rfl⟩
  | 3, h => cases h; exact ⟨_, Tryz.t41, rfl, rfl, by kernel_rfl, rfl⟩
  | 4, h => cases h; exact ⟨_, Tryz.t3, rfl, rfl, by kernel_rfl, rfl⟩
  | 5, h => cases h; exact ⟨_, Tryz.t43, rfl, rfl, by kernel_rfl, rfl⟩
  | _ + 6, h => simp at h
theorem ti46 : TIok Tryz.prog 46 ⟨1, .slice 73, [.slice none 0 0]⟩ := ⟨Tryz.t46, _, by kernel_rfl, rfl, Tryz.underlying46, rfl, ⟨_, rfl, rfl⟩, Nat.le_of_ble_eq_true rfl⟩
theorem ti48 : TIok Tryz.prog 48 ⟨10, .struct [(0, 1), (1, 1), (2, 1), (3, 1), (4, 1), (5, 1), (6, 1), (7, 1), (8, 1), (9, 1)], [.int .i64 0, .int .i64 0, .int .i64 0, .int .i64 0, .int .i64 0, .int .i64 0, .int .i64 0, .int .i64 0, .slice none 0 0, .slice none 0 0]⟩ := by
  refine ⟨Tryz.t48, _, by kernel_rfl, rfl, Tryz.underlying48, ⟨_, rfl, rfl, fun f o n h => ?_⟩, ⟨_, rfl, rfl⟩, Nat.le_of_ble_eq_true rfl⟩
  match f, h with
  | 0, h => cases h; exact ⟨_, Tryz.t3, rfl, rfl, by kernel_rfl, rfl⟩
  | 1, h => cases h; exact ⟨_, Tryz.t3, rfl, rfl, by kernel_rfl, rfl⟩
  | 2, h => cases h; exact ⟨_, Tryz.t3, rfl, rfl, by kernel_rfl, rfl⟩
  | 3, h => cases h; exact ⟨_, Tryz.t3, rfl, rfl, by kernel_rfl, rfl⟩
  | 4, h => cases h; exact ⟨_, Tryz.t3, rfl, rfl, by kernel_rfl, rfl⟩
  | 5, h => cases h; exact ⟨_, Tryz.t3, rfl, rfl, by kernel_rfl, rfl⟩
  | 6, h => cases h; exact ⟨_, Tryz.t3, rfl, rfl, by kernel_rfl, rfl⟩
  | 7, h => cases h; exact ⟨_, Tryz.t3, rfl, rfl, by kernel_rfl, rfl⟩
  | 8, h => cases h; exact ⟨_, Tryz.t22, rfl, rfl, by kernel_rfl, rfl⟩
  | 9, h => cases h; exact ⟨_, Tryz.t46, rfl, rfl, by kernel_rfl, rfl⟩
  | _ + 10, h => simp at h
theorem ti52 : TIok Tryz.prog 52 ⟨1, .int .i64, [.int .i64 0]⟩ := ⟨Tryz.t52, _, by kernel_rfl, rfl, Tryz.underlying52, rfl, ⟨_, rfl, rfl⟩, Nat.le_of_ble_eq_true rfl⟩
theorem ti73 : TIok Tryz.prog 73 ⟨4, .struct [(0, 1), (1, 1), (2, 1), (3, 1)], [.int .i64 0, .int .i64 0, .int .i64 0, .int .i64 0]⟩ := by
  refine ⟨Tryz.t73, _, by kernel_rfl, rfl, Tryz.underlying73, ⟨_, rfl, rfl, fun f o n h => ?_⟩, ⟨_, rfl, rfl⟩, Nat.le_of_ble_eq_true rfl⟩
  match f, h with
  | 0, h => cases h; exact ⟨_, Tryz.t3, rfl, rfl, by kernel_rfl, rfl⟩
  | 1, h => cases h; exact ⟨_, Tryz.t3, rfl, rfl, by kernel_rfl, rfl⟩
  | 2, h => cases h; exact ⟨_, Tryz.t3, rfl, rfl, by kernel_rfl, rfl⟩
  | 3, h => cases h; exact ⟨_, Tryz.t3, rfl, rfl, by kernel_rfl, rfl⟩
  | _ + 4, h => simp at h
theorem ti95 : TIok Tryz.prog 95 ⟨3, .struct [(0, 1), (1, 1), (2, 1)], [.int .i64 0, .int .i64 0, .int .i64 0]⟩ := by
  refine ⟨Tryz.t95, _, by kernel_rfl, rfl, Tryz.underlying95, ⟨_, rfl, rfl, fun f o n h => ?_⟩, ⟨_, rfl, rfl⟩, Nat.le_of_ble_eq_true rfl⟩
  match f, h with
  | 0, h => cases h; exact ⟨_, Tryz.t3, rfl, rfl, by kernel_rfl, rfl⟩
  | 1, h => cases h; exact ⟨_, Tryz.t3, rfl, rfl, by kernel_rfl, rfl⟩
  | 2, h => cases h; exact ⟨_, Tryz.t3, rfl, rfl, by kernel_rfl, rfl⟩
  | _ + 3, h => simp at h
theorem ti105 : TIok Tryz.prog 105 ⟨2, .struct [(0, 1), (1, 1)], [.int .i64 0, .int .i64 0]⟩ := by
  refine ⟨Tryz.t105, _, by kernel_rfl, rfl, Tryz.underlying105, ⟨_, rfl, rfl, fun f o n h => ?_⟩, ⟨_, rfl, rfl⟩, Nat.le_of_ble_eq_true rfl⟩
  match f, h with
  | 0, h => cases h; exact ⟨_, Tryz.t3, rfl, rfl, by kernel_rfl, rfl⟩
  | 1, h => cases h; exact ⟨_, Tryz.t3, rfl, rfl, by kernel_rfl, rfl⟩
  | _ + 2, h => simp at h
theorem ti106 : TIok Tryz.prog 106 ⟨1, .slice 25, [.slice none 0 0]⟩ := ⟨Tryz.t106, _, by kernel_rfl, rfl, Tryz.underlying106, rfl, ⟨_, rfl, rfl⟩, Nat.le_of_ble_eq_true rfl⟩
theorem ti107 : TIok Tryz.prog 107 ⟨1, .slice 27, [.slice none 0 0]⟩ := ⟨Tryz.t107, _, by kernel_rfl, rfl, Tryz.underlying107, rfl, ⟨_, rfl, rfl⟩, Nat.le_of_ble_eq_true rfl⟩
theorem ti199 : TIok Tryz.prog 199 ⟨1, .int .u64, [.int .u64 0]⟩ := ⟨Tryz.t199, _, by kernel_rfl, rfl, Tryz.underlying199, rfl, ⟨_, rfl, rfl⟩, Nat.le_of_ble_eq_true rfl⟩
theorem ti222 : TIok Tryz.prog 222 ⟨1, .int .u32, [.int .u32 0]⟩ := ⟨Tryz.t222, _, by kernel_rfl, rfl, Tryz.underlying222, rfl, ⟨_, rfl, rfl⟩, Nat.le_of_ble_eq_true rfl⟩
theorem ti225 : TIok Tryz.prog 225 ⟨1, .int .u64, [.int .u64 0]⟩ := ⟨Tryz.t225, _, by kernel_rfl, rfl, Tryz.underlying225, rfl, ⟨_, rfl, rfl⟩, Nat.le_of_ble_eq_true rfl⟩
theorem htab : TabOk Tryz.prog tab := by
  intro t ti h
  unfold tab at h
  refine tab_step h ti3 fun h => ?_
  refine tab_step h ti4 fun h => ?_
  refine tab_step h ti22 fun h => ?_
  refine tab_step h ti23 fun h => ?_
  refine tab_step h ti25 fun h => ?_
  refine tab_step h ti27 fun h => ?_
  refine tab_step h ti29 fun h => ?_
  refine tab_step h ti31 fun h => ?_
  refine tab_step h ti33 fun h => ?_
  refine tab_step h ti35 fun h => ?_
  refine tab_step h ti37 fun h => ?_
  refine tab_step h ti38 fun h => ?_
  refine tab_step h ti39 fun h => ?_
  refine tab_step h ti41 fun h => ?_
  refine tab_step h ti43 fun h => ?_
  refine tab_step h ti45 fun h => ?_
  refine tab_step h ti46 fun h => ?_
  refine tab_step h ti48 fun h => ?_
  refine tab_step h ti52 fun h => ?_
  refine tab_step h ti73 fun h => ?_
  refine tab_step h ti95 fun h => ?_
  refine tab_step h ti105 fun h => ?_
  refine tab_step h ti106 fun h => ?_
  refine tab_step h ti107 fun h => ?_
  refine tab_step h ti199 fun h => ?_
  refine tab_step h ti222 fun h => ?_
  refine tab_step h ti225 fun h => ?_
  cases h
theorem eqi_35 (d : Nat) (w : World) (a0 : Int) (a1 : Int) (a2 : Bool) (b0 : Int) (b1 : Int) (b2 : Bool) : (Op.equalIn (d + 2) 35 (.agg #[.int .i64 a0, .int .i64 a1, .bool a2]) (.agg #[.int .i64 b0, .int .i64 b1, .bool b2])).run Tryz.prog w = .ok ((a0 == b0) && ((a1 == b1) && ((a2 == b2) && true))) w :=
  eq_struct (d := d + 1) (fs := [⟨ "Value", 3, 0, false, "", "", 0⟩, ⟨ "Differ", 3, 1, false, "", "", 8⟩, ⟨ "Fault", 4, 2, false, "", "", 16⟩]) (by kernel_rfl) (by kernel_rfl) (by kernel_rfl) (eqf_cons (by decide) (part_one ti3 rfl rfl) (part_one ti3 rfl rfl) (run_equalIn_int w _ 3 _ _ _ _ Tryz.underlying3) (eqf_cons (by decide) (part_one ti3 rfl rfl) (part_one ti3 rfl rfl) (run_equalIn_int w _ 3 _ _ _ _ Tryz.underlying3) (eqf_cons (by decide) (part_one ti4 rfl rfl) (part_one ti4 rfl rfl) (run_equalIn_bool' w _ 4 _ _ Tryz.underlying4) (eqf_nil))))
theorem eqv_35 (a0 : Int) (a1 : Int) (a2 : Bool) (b0 : Int) (b1 : Int) (b2 : Bool) : EqOk Tryz.prog 35 [.int .i64 a0, .int .i64 a1, .bool a2] [.int .i64 b0, .int .i64 b1, .bool b2] ((a0 == b0) && ((a1 == b1) && ((a2 == b2) && true))) := ⟨fun w => eqi_35 9998 w a0 a1 a2 b0 b1 b2, by kernel_rfl⟩
theorem eqi_37 (d : Nat) (w : World) (a0 : Int) (b0 : Int) : (Op.equalIn (d + 2) 37 (.agg #[.int .i64 a0]) (.agg #[.int .i64 b0])).run Tryz.prog w = .ok ((a0 == b0) && true) w :=
  eq_struct (d := d + 1) (fs := [⟨ "Sum", 3, 0, false, "", "", 0⟩]) (by kernel_rfl) (by kernel_rfl) (by kernel_rfl) (eqf_cons (by decide) (part_one ti3 rfl rfl) (part_one ti3 rfl rfl) (run_equalIn_int w _ 3 _ _ _ _ Tryz.underlying3) (eqf_nil))
theorem eqv_37 (a0 : Int) (b0 : Int) : EqOk Tryz.prog 37 [.int .i64 a0] [.int .i64 b0] ((a0 == b0) && true) := ⟨fun w => eqi_37 9998 w a0 b0, by kernel_rfl⟩
theorem eqi_43 (d : Nat) (w : World) (a0 : Int) (a1 : Int) (b0 : Int) (b1 : Int) : (Op.equalIn (d + 2) 43 (.agg #[.int .i64 a0, .int .i64 a1]) (.agg #[.int .i64 b0, .int .i64 b1])).run Tryz.prog w = .ok ((a0 == b0) && ((a1 == b1) && true)) w :=
  eq_struct (d := d + 1) (fs := [⟨ "Torque", 3, 0, false, "", "", 0⟩, ⟨ "Source", 3, 1, false, "", "", 8⟩]) (by kernel_rfl) (by kernel_rfl) (by kernel_rfl) (eqf_cons (by decide) (part_one ti3 rfl rfl) (part_one ti3 rfl rfl) (run_equalIn_int w _ 3 _ _ _ _ Tryz.underlying3) (eqf_cons (by decide) (part_one ti3 rfl rfl) (part_one ti3 rfl rfl) (run_equalIn_int w _ 3 _ _ _ _ Tryz.underlying3) (eqf_nil)))
theorem eqv_43 (a0 : Int) (a1 : Int) (b0 : Int) (b1 : Int) : EqOk Tryz.prog 43 [.int .i64 a0, .int .i64 a1] [.int .i64 b0, .int .i64 b1] ((a0 == b0) && ((a1 == b1) && true)) := ⟨fun w => eqi_43 9998 w a0 a1 b0 b1, by kernel_rfl⟩
theorem eqi_95 (d : Nat) (w : World) (a0 : Int) (a1 : Int) (a2 : Int) (b0 : Int) (b1 : Int) (b2 : Int) : (Op.equalIn (d + 2) 95 (.agg #[.int .i64 a0, .int .i64 a1, .int .i64 a2]) (.agg #[.int .i64 b0, .int .i64 b1, .int .i64 b2])).run Tryz.prog w = .ok ((a0 == b0) && ((a1 == b1) && ((a2 == b2) && true))) w :=
  eq_struct (d := d + 1) (fs := [⟨ "Retard", 3, 0, false, "", "", 0⟩, ⟨ "Noise", 3, 1, false, "", "", 8⟩, ⟨ "Quiet", 3, 2, false, "", "", 16⟩]) (by kernel_rfl) (by kernel_rfl) (by kernel_rfl) (eqf_cons (by decide) (part_one ti3 rfl rfl) (part_one ti3 rfl rfl) (run_equalIn_int w _ 3 _ _ _ _ Tryz.underlying3) (eqf_cons (by decide) (part_one ti3 rfl rfl) (part_one ti3 rfl rfl) (run_equalIn_int w _ 3 _ _ _ _ Tryz.underlying3) (eqf_cons (by decide) (part_one ti3 rfl rfl) (part_one ti3 rfl rfl) (run_equalIn_int w _ 3 _ _ _ _ Tryz.underlying3) (eqf_nil))))
theorem eqv_95 (a0 : Int) (a1 : Int) (a2 : Int) (b0 : Int) (b1 : Int) (b2 : Int) : EqOk Tryz.prog 95 [.int .i64 a0, .int .i64 a1, .int .i64 a2] [.int .i64 b0, .int .i64 b1, .int .i64 b2] ((a0 == b0) && ((a1 == b1) && ((a2 == b2) && true))) := ⟨fun w => eqi_95 9998 w a0 a1 a2 b0 b1 b2, by kernel_rfl⟩
theorem eqi_105 (d : Nat) (w : World) (a0 : Int) (a1 : Int) (b0 : Int) (b1 : Int) : (Op.equalIn (d + 2) 105 (.agg #[.int .i64 a0, .int .i64 a1]) (.agg #[.int .i64 b0, .int .i64 b1])).run Tryz.prog w = .ok ((a0 == b0) && ((a1 == b1) && true)) w :=
  eq_struct (d := d + 1) (fs := [⟨ "Value", 3, 0, false, "", "", 0⟩, ⟨ "Count", 3, 1, false, "", "", 8⟩]) (by kernel_rfl) (by kernel_rfl) (by kernel_rfl) (eqf_cons (by decide) (part_one ti3 rfl rfl) (part_one ti3 rfl rfl) (run_equalIn_int w _ 3 _ _ _ _ Tryz.underlying3) (eqf_cons (by decide) (part_one ti3 rfl rfl) (part_one ti3 rfl rfl) (run_equalIn_int w _ 3 _ _ _ _ Tryz.underlying3) (eqf_nil)))
theorem eqv_105 (a0 : Int) (a1 : Int) (b0 : Int) (b1 : Int) : EqOk Tryz.prog 105 [.int .i64 a0, .int .i64 a1] [.int .i64 b0, .int .i64 b1] ((a0 == b0) && ((a1 == b1) && true)) := ⟨fun w => eqi_105 9998 w a0 a1 b0 b1, by kernel_rfl⟩
-- magneto/events.angle
set_option maxRecDepth 100000 in
theorem tie_events_angle (a : Int) : TieF Tryz.prog 118 [.t (tI a)] (events_angle a) (fun r => .t (tB r)) := by
  refine TieF.intro htab 9 [.tmp 2] Tryz.call118 Tryz.func118 rfl rfl rfl (Nat.le_of_ble_eq_true rfl) fun w0 L => ?_
  refine TieS.seq (.region (.run 1 rfl (.nil (.seq ?_))))
  refine TieS.region (.run 3 rfl (.selAnd (v := decide (a < 46080)) 3 5 (fun b => ⟨[(8, .t (tB b))], []⟩) rfl ?_ ?_ ?_))
  · exact TieO.run 3 rfl (.nil (.leaf ⟨rfl, .of rfl rfl⟩))
  · exact TieO.run 3 rfl (.nil (.leaf ⟨rfl, .of rfl rfl⟩))
  exact TieO.run 1 rfl (.nil (.ret ⟨.inl rfl, rfl⟩))
-- slices.Index[[]int,int]
set_option maxRecDepth 100000 in
theorem tie_slices_Index_sint (s : List Int) (v : Int) : TieF Tryz.prog 205 [.t (tS Pv.encI s), .t (tI v)] (slices_Index_sint s v) (fun r => .t (tI r)) := by
  refine TieF.intro htab 19 [.tmp 4] Tryz.call205 Tryz.func205 rfl rfl rfl (Nat.le_of_ble_eq_true rfl) fun w0 L => ?_
  refine TieS.seq (.region (.run 1 rfl (.nil (.seq ?_))))
  refine TieS.seq (.region (.run 3 rfl (.nil (.block ?_))))
  refine TieS.loop (fun p => ⟨[(0, .t (tS Pv.encI s)), (1, .t (tI v)), (7, .t (tI (s.length : Int))), (8, .t (tI p.1))], []⟩) (fun b e σ' => match b with | .inl t => e = .exit 0 ∧ Sub ⟨[], []⟩ σ' | .inr t => e = .ret ∧ retT tab σ' [.tmp 4] = some (((fun r => .t (tI r)) : Int → T) t)) (.of rfl rfl) ?_ ?_
  · rintro ⟨i, s2⟩
    refine TieS.seq (.region (.run 1 rfl (.nil (.seq ?_))))
    refine TieS.cond rfl ?_ ?_
    · refine TieS.skip (.seq (TieX.sub (σ' := ⟨[(0, .t (tS Pv.encI s)), (1, .t (tI v)), (7, .t (tI (s.length : Int))), (8, .t (tI i))], []⟩) (.of rfl rfl) (TieS.bind (Q₁ := fun f e σ' => match f with | .next t => e = .normal ∧ Sub ⟨[(0, .t (tS Pv.encI s)), (1, .t (tI v)), (7, .t (tI (s.length : Int))), (8, .t (tI i))], []⟩ σ' | .brk t => e = .exit 0 ∧ Sub ⟨[], []⟩ σ' | .ret t => e = .ret ∧ retT tab σ' [.tmp 4] = some (((fun r => .t (tI r)) : Int → T) t)) ?_ ?_)))
      · refine TieS.block (.seq (.region (.run 2 rfl (.nil ?_))))
        refine TieS.seq (.region (.run 3 rfl (.index rfl rfl rfl rfl rfl rfl rfl rfl (fun _ => rfl) fun x hx => .run 2 rfl ?_)))
        refine TieO.nil (.cond rfl ?_ ?_)
        · exact TieS.seq (.region (.run 2 rfl (.nil (.ret ⟨rfl, rfl⟩))))
        · exact TieS.skip (.endb (.leaf ⟨rfl, .of rfl rfl⟩))
      rintro (t | t | t) e σ' _ hq
      · obtain ⟨rfl, hs⟩ := hq
        exact TieX.sub hs (TieS.region (.run 2 rfl (.nil (.leaf ⟨rfl, .of rfl rfl⟩))))
      · obtain ⟨rfl, hs⟩ := hq
        exact TieX.exitOut rfl ⟨(fun h => by cases h), rfl, hs⟩
      · obtain ⟨rfl, hs⟩ := hq
        exact TieX.ret ⟨(fun h => by cases h), rfl, hs⟩
    · exact TieS.exitOut rfl ⟨(fun h => by cases h), rfl, .of rfl rfl⟩
  rintro (s3 | r2) e σ' _ hq
  · obtain ⟨rfl, hs⟩ := hq
    refine TieX.exit rfl (TieX.sub hs ?_)
    exact TieS.seq (.region (.run 1 rfl (.nil (.ret ⟨.inl rfl, rfl⟩))))
  · obtain ⟨rfl, hs⟩ := hq
    exact TieX.ret ⟨.inl rfl, hs⟩
-- slices.Contains[[]int,int]
set_option maxRecDepth 100000 in
theorem tie_slices_Contains_sint (s : List Int) (v : Int) : TieF Tryz.prog 119 [.t (tS Pv.encI s), .t (tI v)] (slices_Contains_sint s v) (fun r => .t (tB r)) := by
  refine TieF.intro htab 9 [.tmp 4] Tryz.call119 Tryz.func119 rfl rfl rfl (Nat.le_of_ble_eq_true rfl) fun w0 L => ?_
  refine TieS.seq (.region (.run 1 rfl (.nil (.seq ?_))))
  refine TieS.region (.run 2 rfl (.call _ rfl rfl rfl (tie_slices_Index_sint s v) (fun _ => rfl) fun v2 => .run 2 rfl (.nil ?_)))
  exact TieS.ret ⟨.inl rfl, rfl⟩
-- magneto/events.Valid
set_option maxRecDepth 100000 in
theorem tie_events_Valid (e2 : SEngine) : TieF Tryz.prog 30 [A_SEngine e2] (events_Valid e2) (fun r => .t (tB r)) := by
  refine TieF.intro htab 30 [.tmp 2] Tryz.call30 Tryz.func30 rfl rfl rfl (Nat.le_of_ble_eq_true rfl) fun w0 L => ?_
  refine TieS.seq (.region (.run 2 rfl (.nil (.seq ?_))))
  refine TieS.region (.run 4 rfl (.nil (.seq (.seq ?_))))
  refine TieS.region (.run 3 rfl (.selOr (v := decide ((e2.Order.length : Int) > 8)) 3 10 (fun b => ⟨[(1, .ptr 1 0), (3, .t (tI (e2.Order.length : Int))), (13, .t (tB b))], [(1, .box [.t (tS Pv.encI e2.Order), .t (tI e2.First)])]⟩) rfl ?_ ?_ ?_))
  · exact TieO.run 3 rfl (.nil (.leaf ⟨rfl, .of rfl rfl⟩))
  · exact TieO.run 3 rfl (.nil (.leaf ⟨rfl, .of rfl rfl⟩))
  refine TieO.run 1 rfl (.bind 5 (fun b2 => ⟨[(1, .ptr 1 0), (3, .t (tI (e2.Order.length : Int))), (19, .t (tB b2))], [(1, .box [.t (tS Pv.encI e2.Order), .t (tI e2.First)])]⟩) (TieO.split 14 rfl ?_ ?_) fun b2 _ => ?_)
  · exact TieO.run 5 rfl (.nil (.leaf ⟨rfl, .of rfl rfl⟩))
  · exact TieO.run 2 rfl (.call _ rfl rfl rfl (tie_events_angle e2.First) (fun _ => rfl) fun v => .run 2 rfl (.nil (.leaf ⟨rfl, .of rfl rfl⟩)))
  refine TieO.nil (.cond rfl ?_ ?_)
  · exact TieS.seq (.region (.run 1 rfl (.nil (.ret ⟨.inl rfl, rfl⟩))))
  · refine TieS.skip (.seq (.seq (.region (.run 1 rfl ?_))))
    refine TieO.nil (.block (.loop (fun t => ⟨[(1, .ptr 1 0), (3, .t (tI (e2.Order.length : Int))), (4, .t (tI t))], [(1, .box [.t (tS Pv.encI e2.Order), .t (tI e2.First)])]⟩) (fun b e σ' => match b with | .inl t => e = .exit 0 ∧ Sub ⟨[], []⟩ σ' | .inr t => e = .ret ∧ retT tab σ' [.tmp 2] = some (((fun r => .t (tB r)) : Bool → T) t)) (.of rfl rfl) ?_ ?_))
    · intro i
      refine TieS.seq (.seq (.region (.run 3 rfl (.nil ?_))))
      refine TieS.cond rfl ?_ ?_
      · refine TieS.skip (.seq (.block (.seq (.region ?_))))
        refine TieO.run 3 rfl (.call _ rfl rfl rfl (tie_slices_Contains_sint e2.Order i) (fun _ => rfl) fun v2 => .run 1 rfl (.nil (.cond rfl ?_ ?_)))
        · exact TieS.seq (.region (.run 1 rfl (.nil (.ret ⟨(fun h => by cases h), rfl, rfl⟩))))
        · refine TieS.skip (.endb (.region (.run 3 rfl (.nil ?_))))
          exact TieS.leaf ⟨rfl, .of rfl rfl⟩
      · exact TieS.exitOut rfl ⟨(fun h => by cases h), rfl, .of rfl rfl⟩
    rintro (i2 | r2) e σ' _ hq
    · obtain ⟨rfl, hs⟩ := hq
      refine TieX.exit rfl (TieX.sub hs ?_)
      exact TieS.seq (.region (.run 1 rfl (.nil (.ret ⟨.inl rfl, rfl⟩))))
    · obtain ⟨rfl, hs⟩ := hq
      exact TieX.ret ⟨.inl rfl, hs⟩
-- math/bits.Mul64
set_option maxRecDepth 100000 in
def mul64L256_ren : Go.Shelf.Ren := ⟨fun | 264 => 256 | n => n, fun | 46 => 199 | 53 => 225 | n => n, fun  | n => n⟩
open Go.Shelf in
theorem mul64L256 : Lays.n264 Tryz.prog mul64L256_ren := {
  mixed := by kernel_rfl,
  f264 := Tryz.func256.trans (congrArg some (by kernel_rfl)),
  t46 := Tryz.underlying199,
  a46 := Tryz.isAgg199,
  z46 := Tryz.sizeOf199,
  v46 := Tryz.zeroValue199,
  t53 := Tryz.underlying225,
  a53 := Tryz.isAgg225,
  z53 := Tryz.sizeOf225,
  v53 := Tryz.zeroValue225 }
theorem tie_math_bits_Mul64 (x y : Int) : TieF Tryz.prog 256 [.t (tK .u64 x), .t (tK .u64 y)] (math_bits_Mul64 x y) (fun r => .tup [.t (tK .u64 r.1), .t (tK .u64 r.2)]) :=
  mul64_tie (ρ := mul64L256_ren) mul64L256 Tryz.call256 x y
-- math/bits.Mul
set_option maxRecDepth 100000 in
theorem tie_math_bits_Mul (x : Int) (y : Int) : TieF Tryz.prog 216 [.t (tK .u64 x), .t (tK .u64 y)] (math_bits_Mul x y) (fun r => .tup [.t (tK .u64 r.1), .t (tK .u64 r.2)]) := by
  refine TieF.intro htab 30 [.tmp 4, .tmp 5] Tryz.call216 Tryz.func216 rfl rfl rfl (Nat.le_of_ble_eq_true rfl) fun w0 L => ?_
  refine TieS.seq (.region (.run 2 rfl (.nil (.seq ?_))))
  refine TieS.condR rfl (.skip (.seq (.region (.run 2 rfl ?_))))
  refine TieO.call _ rfl rfl rfl (tie_math_bits_Mul64 x y) (fun _ => rfl) fun r2 => .run 5 rfl (.nil (.seq (.region ?_)))
  exact TieO.run 4 rfl (.nil (.ret ⟨.inl rfl, rfl⟩))
-- slices.Repeat[[]magneto/api.Knock,magneto/api.Knock]
set_option maxRecDepth 100000 in
theorem tie_slices_Repeat_sKnock (x : List SKnock) (count : Int) : TieF Tryz.prog 137 [.t (tS enc_SKnock x), .t (tI count)] (slices_Repeat_sKnock x count) (fun r => .t (tS enc_SKnock r)) := by
  refine TieF.intro htab 48 [.tmp 4] Tryz.call137 Tryz.func137 rfl rfl rfl (Nat.le_of_ble_eq_true rfl) fun w0 L => ?_
  refine TieS.seq (.region (.run 1 rfl (.nil (.seq ?_))))
  refine TieS.seq (.region (.run 2 rfl (.nil (.bind (Q₁ := fun t e σ' => e = .normal ∧ Sub ⟨[(0, .t (tS enc_SKnock x)), (1, .t (tI count))], []⟩ σ') ?_ ?_))))
  · refine TieS.cond rfl ?_ ?_
    · exact TieS.region (.fail)
    · exact TieS.skip (.leaf ⟨rfl, .of rfl rfl⟩)
  rintro s e σ' _ ⟨rfl, hs⟩
  refine TieX.sub hs (TieS.seq (.region (.run 5 rfl (.call _ rfl rfl rfl (tie_math_bits_Mul (IntKind.u64.wrap (x.length : Int)) (IntKind.u64.wrap count)) (fun _ => rfl) fun r2 => ?_))))
  refine TieO.run 5 rfl (.nil (.seq (.seq (.region ?_))))
  refine TieO.run 3 rfl (.selOr (v := decide (r2.2 > 9223372036854775807)) 3 23 (fun b => ⟨[(0, .t (tS enc_SKnock x)), (6, .t (tK .u64 r2.2)), (26, .t (tB b))], []⟩) rfl ?_ ?_ ?_)
  · exact TieO.run 3 rfl (.nil (.leaf ⟨rfl, .of rfl rfl⟩))
  · exact TieO.run 3 rfl (.nil (.leaf ⟨rfl, .of rfl rfl⟩))
  refine TieO.nil (.bind (Q₁ := fun t e σ' => e = .normal ∧ Sub ⟨[(0, .t (tS enc_SKnock x)), (6, .t (tK .u64 r2.2))], []⟩ σ') ?_ ?_)
  · refine TieS.cond rfl ?_ ?_
    · exact TieS.region (.fail)
    · exact TieS.skip (.leaf ⟨rfl, .of rfl rfl⟩)
  rintro s2 e σ' _ ⟨rfl, hs⟩
  refine TieX.sub hs (TieS.seq (.region (.run 2 rfl (.makeO (enc := enc_SKnock) 2240 (⟨0, 0, 0⟩ : SKnock) rfl rfl rfl rfl rfl rfl rfl rfl rfl rfl rfl rfl rfl fun l hl => ?_))))
  refine TieO.run 1 rfl (.nil (.seq (.region (.run 2 rfl ?_))))
  refine TieO.copyO (e2 := 0) (l := l) (r := x) rfl rfl rfl rfl (fun _ => rfl) (fun _ => rfl) rfl rfl (.inl rfl) rfl (.run 1 rfl (.nil (.seq (.block ?_))))
  refine TieS.loop (fun t => ⟨[(7, .own 2240), (8, .t (tI t.1))], [(2240, .rows 95 3 t.2.length (t.2.map enc_SKnock))]⟩) (fun b e σ' => match b with | .inl t => e = .exit 0 ∧ Sub ⟨[(7, .own 2240)], [(2240, .rows 95 3 t.2.length (t.2.map enc_SKnock))]⟩ σ' | .inr t => False) (.of rfl rfl) ?_ ?_
  · intro s3
    refine TieS.seq (.seq (.region (.run 4 rfl (.nil ?_))))
    refine TieS.cond rfl ?_ ?_
    · refine TieS.skip (.block (.bind (Q₁ := fun t e σ' => e = .normal ∧ Sub ⟨[(7, .own 2240), (8, .t (tI t.1))], [(2240, .rows 95 3 t.2.length (t.2.map enc_SKnock))]⟩ σ') ?_ ?_))
      · refine TieX.pre fun u hu => TieX.pre fun u2 hu2 => TieS.draws 8 [false, false, false, false, false, false, false, false, false, false] [true, true, true, true, true, true, true, true, false, false] ⟨[(7, .own 2240), (8, .t (tI s3.1)), (38, .t (tI s3.1)), (39, .own 2240), (40, .t (tI s3.1)), (42, .own 2240), (43, .t (tI s3.1)), (45, .t (tI ((min (Int.toNat s3.1 - Int.toNat 0) (Int.toNat (s3.2.length : Int) - Int.toNat s3.1) : Nat) : Int)))], [(2240, .rows 95 3 (copyVM s3.2 s3.1 (s3.2.length : Int) 0 s3.1).length ((copyVM s3.2 s3.1 (s3.2.length : Int) 0 s3.1).map enc_SKnock))]⟩ mixed (fun _ _ _ h => by cases h.1) rfl rfl rfl rfl ?_ ?_
        · refine TieA.have_ (fuel₁ := 2) (l₁ := [true, true, true, true, true, true, true, true, false, false]) (σ₁ := ⟨[(7, .own 2240), (8, .t (tI s3.1)), (38, .t (tI s3.1)), (39, .own 2240), (40, .t (tI s3.1)), (42, .own 2240), (43, .t (tI s3.1)), (45, .t (tI ((min (Int.toNat s3.1 - Int.toNat 0) (Int.toNat (s3.2.length : Int) - Int.toNat s3.1) : Nat) : Int)))], [(2240, .rows 95 3 (copyVM s3.2 s3.1 (s3.2.length : Int) 0 s3.1).length ((copyVM s3.2 s3.1 (s3.2.length : Int) 0 s3.1).map enc_SKnock))]⟩) ?_ fun A_3 => ?_
          · exact TieA.done (.of rfl rfl)
          refine TieA.have_ (fuel₁ := 3) (l₁ := [true, true, true, true, true, true, true, false, false, false]) (σ₁ := ⟨[(7, .own 2240), (8, .t (tI s3.1)), (38, .t (tI s3.1)), (39, .own 2240), (40, .t (tI s3.1)), (41, .vw 2240 (Int.toNat s3.1) (Int.toNat (s3.2.length : Int) - Int.toNat s3.1) 3), (42, .own 2240), (43, .t (tI s3.1)), (44, .vw 2240 (Int.toNat 0) (Int.toNat s3.1 - Int.toNat 0) 3)], [(2240, .rows 95 3 s3.2.length (s3.2.map enc_SKnock))]⟩) ?_ fun A_2 => ?_
          · refine TieA.all [7] (by kernel_rfl) rfl (AllA.cons _ rfl rfl ?_ A_3 ?_)
            · exact TieO.copyV hu hu2 chk_le chk_le rfl rfl rfl rfl (fun _ => rfl) (fun _ => rfl) rfl rfl rfl rfl (.nil (TieS.leaf ⟨rfl, .of rfl rfl⟩))
            exact AllA.nil
          refine TieA.have_ (fuel₁ := 4) (l₁ := [true, true, true, true, true, true, false, false, false, false]) (σ₁ := ⟨[(7, .own 2240), (8, .t (tI s3.1)), (38, .t (tI s3.1)), (39, .own 2240), (40, .t (tI s3.1)), (41, .vw 2240 (Int.toNat s3.1) (Int.toNat (s3.2.length : Int) - Int.toNat s3.1) 3), (42, .own 2240), (43, .t (tI s3.1))], [(2240, .rows 95 3 s3.2.length (s3.2.map enc_SKnock))]⟩) ?_ fun A_1 => ?_
          · refine TieA.all [6] (by kernel_rfl) rfl (AllA.cons _ rfl rfl ?_ A_2 ?_)
            · refine TieO.withH hu2 (TieO.viewO rfl rfl rfl rfl rfl rfl rfl rfl rfl rfl rfl (TieO.ifG ?_))
              exact TieO.nil (TieS.leaf ⟨rfl, .of rfl rfl⟩)
            exact AllA.nil
          refine TieA.have_ (fuel₁ := 4) (l₁ := [true, true, true, false, true, true, true, false, false, false]) (σ₁ := ⟨[(7, .own 2240), (8, .t (tI s3.1)), (38, .t (tI s3.1)), (39, .own 2240), (40, .t (tI s3.1)), (42, .own 2240), (43, .t (tI s3.1)), (44, .vw 2240 (Int.toNat 0) (Int.toNat s3.1 - Int.toNat 0) 3)], [(2240, .rows 95 3 s3.2.length (s3.2.map enc_SKnock))]⟩) ?_ fun A_4 => ?_
          · refine TieA.all [3] (by kernel_rfl) rfl (AllA.cons _ rfl rfl ?_ A_2 ?_)
            · refine TieO.withH hu (TieO.viewO rfl rfl rfl rfl rfl rfl rfl rfl rfl rfl rfl (TieO.ifG ?_))
              exact TieO.nil (TieS.leaf ⟨rfl, .of rfl rfl⟩)
            exact AllA.nil
          refine TieA.move 0 [true, false, false, false, false, false, false, false, false, false] rfl rfl (by first | exact .inl rfl | exact .inr rfl) rfl rfl rfl (by kernel_rfl) (by kernel_rfl) (by kernel_rfl) rfl (.move 1 [true, true, false, false, false, false, false, false, false, false] rfl rfl (by first | exact .inl rfl | exact .inr rfl) rfl rfl rfl (by kernel_rfl) (by kernel_rfl) (by kernel_rfl) rfl (.move 2 [true, true, true, false, false, false, false, false, false, false] rfl rfl (by first | exact .inl rfl | exact .inr rfl) rfl rfl rfl (by kernel_rfl) (by kernel_rfl) (by kernel_rfl) rfl (.move 4 [true, true, true, false, true, false, false, false, false, false] rfl rfl (by first | exact .inl rfl | exact .inr rfl) rfl rfl rfl (by kernel_rfl) (by kernel_rfl) (by kernel_rfl) rfl (.move 5 [true, true, true, false, true, true, false, false, false, false] rfl rfl (by first | exact .inl rfl | exact .inr rfl) rfl rfl rfl (by kernel_rfl) (by kernel_rfl) (by kernel_rfl) rfl ?_))))
          refine TieA.all [3, 6] (by kernel_rfl) rfl (AllA.cons _ rfl rfl ?_ A_1 ?_)
          · refine TieO.withH hu (TieO.viewO rfl rfl rfl rfl rfl rfl rfl rfl rfl rfl rfl (TieO.ifG ?_))
            exact TieO.nil (TieS.leaf ⟨rfl, .of rfl rfl⟩)
          refine AllA.cons _ rfl rfl ?_ A_4 ?_
          · refine TieO.withH hu2 (TieO.viewO rfl rfl rfl rfl rfl rfl rfl rfl rfl rfl rfl (TieO.ifG ?_))
            exact TieO.nil (TieS.leaf ⟨rfl, .of rfl rfl⟩)
          exact AllA.nil
        exact TieO.run 2 rfl (.nil (.leaf ⟨rfl, .of rfl rfl⟩))
      rintro s4 e σ' _ ⟨rfl, hs⟩
      exact TieX.sub hs (TieS.endb (.leaf ⟨rfl, .of rfl rfl⟩))
    · exact TieS.exitOut rfl ⟨(fun h => by cases h), rfl, .of rfl rfl⟩
  rintro (s5 | r) e σ' _ hq
  · obtain ⟨rfl, hs⟩ := hq
    refine TieX.exit rfl (TieX.sub hs ?_)
    exact TieS.seq (.region (.run 2 rfl (.nil (.ret ⟨.inl rfl, rfl⟩))))
  · exact hq.elim
-- magneto/knock.New
set_option maxRecDepth 100000 in
theorem tie_knock_New (n2 : Int) : TieF Tryz.prog 46 [.t (tI n2)] (knock_New n2) (fun r => .tup [.t (tS enc_SKnock r.1), .t (tI r.2)]) := by
  refine TieF.intro htab 14 [.tmp 2, .tmp 3] Tryz.call46 Tryz.func46 rfl rfl rfl (Nat.le_of_ble_eq_true rfl) fun w0 L => ?_
  refine TieS.seq (.region (.run 2 rfl (.nil (.seq ?_))))
  refine TieS.seq (.region (.run 3 rfl (.selOr (v := decide (n2 > 8)) 3 6 (fun b => ⟨[(0, .t (tI n2)), (9, .t (tB b))], []⟩) rfl ?_ ?_ ?_)))
  · exact TieO.run 3 rfl (.nil (.leaf ⟨rfl, .of rfl rfl⟩))
  · exact TieO.run 3 rfl (.nil (.leaf ⟨rfl, .of rfl rfl⟩))
  refine TieO.nil (.cond rfl ?_ ?_)
  · exact TieS.seq (.region (.run 2 rfl (.nil (.ret ⟨.inl rfl, rfl⟩))))
  · refine TieS.skip (.seq (.region (.run 3 rfl (.frz 11 rfl ?_))))
    exact TieO.call _ rfl rfl rfl (tie_slices_Repeat_sKnock ([(⟨0, 100, 0⟩ : SKnock)] : List SKnock) n2) (fun _ => rfl) fun v => .run 2 rfl (.nil (.ret ⟨.inl rfl, rfl⟩))
-- magneto/pedal.New
set_option maxRecDepth 100000 in
theorem tie_pedal_New : TieF Tryz.prog 47 [] (pedal_New) (fun r => A_SPedal r) := by
  refine TieF.intro htab 2 [.cell 0 35] Tryz.call47 Tryz.func47 rfl rfl rfl (Nat.le_of_ble_eq_true rfl) fun w0 L => ?_
  refine TieS.seq (.region (.run 1 rfl (.nil (.seq ?_))))
  exact TieS.region (.run 2 rfl (.nil (.ret ⟨.inl rfl, rfl⟩)))
-- magneto/mixture.New
set_option maxRecDepth 100000 in
theorem tie_mixture_New : TieF Tryz.prog 48 [] (mixture_New) (fun r => A_SProbe r) := by
  refine TieF.intro htab 3 [.cell 0 41] Tryz.call48 Tryz.func48 rfl rfl rfl (Nat.le_of_ble_eq_true rfl) fun w0 L => ?_
  refine TieS.seq (.region (.run 1 rfl (.nil (.seq ?_))))
  exact TieS.region (.makeO (enc := enc_SCell) 2008 (⟨0, 0⟩ : SCell) rfl rfl rfl rfl rfl rfl rfl rfl rfl rfl rfl rfl rfl fun l hl => .run 2 rfl (.nil (.ret ⟨.inl rfl, rfl⟩)))
-- magneto/control.New
set_option maxRecDepth 100000 in
theorem tie_control_New (e2 : SEngine) : TieF Tryz.prog 13 [A_SEngine e2] (control_New e2) (fun r => .tup [A_SControls r.1, .t (tI r.2)]) := by
  refine TieF.intro htab 25 [.cell 2 45, .tmp 3] Tryz.call13 Tryz.func13 rfl rfl rfl (Nat.le_of_ble_eq_true rfl) fun w0 L => ?_
  refine TieS.seq (.region (.run 3 rfl (.nil (.seq ?_))))
  refine TieS.seq (.region (.run 1 rfl (.call _ rfl rfl rfl (tie_events_Valid e2) (fun _ => rfl) fun v => .run 1 rfl ?_)))
  refine TieO.nil (.cond rfl ?_ ?_)
  · exact TieS.seq (.region (.run 3 rfl (.nil (.ret ⟨.inl rfl, rfl⟩))))
  · refine TieS.skip (.seq (.region (.run 3 rfl (.call _ rfl rfl rfl (tie_knock_New (e2.Order.length : Int)) (fun _ => rfl) fun r2 => ?_))))
    refine TieO.run 5 rfl (.nil (.seq (.seq (.region ?_))))
    refine TieO.run 2 rfl (.nil (.cond rfl ?_ ?_))
    · exact TieS.seq (.region (.run 3 rfl (.nil (.ret ⟨.inl rfl, rfl⟩))))
    · refine TieS.skip (.seq (.region (.call _ rfl rfl rfl (tie_pedal_New) (fun _ => rfl) fun v2 => .run 1 rfl ?_)))
      exact TieO.call _ rfl rfl rfl (tie_mixture_New) (fun _ => rfl) fun v3 => .run 4 rfl (.nil (.ret ⟨.inl rfl, rfl⟩))
-- magneto/pedal.Valid
set_option maxRecDepth 100000 in
theorem tie_pedal_Valid (p2 : SPedal) : TieF Tryz.prog 64 [A_SPedal p2] (pedal_Valid p2) (fun r => .t (tB r)) := by
  refine TieF.intro htab 33 [.tmp 2] Tryz.call64 Tryz.func64 rfl rfl rfl (Nat.le_of_ble_eq_true rfl) fun w0 L => ?_
  refine TieS.seq (.region (.run 2 rfl (.nil (.seq ?_))))
  refine TieS.region (.run 1 rfl (.nil (.seq (.seq ?_))))
  refine TieS.region (.run 2 rfl (.nil (.bind (Q₁ := fun t e σ' => e = .normal ∧ Sub ⟨[(1, .ptr 1 0), (3, .t (tI t))], [(1, .box [.t (tI p2.Value), .t (tI p2.Differ), .t (tB p2.Fault)])]⟩ σ') ?_ ?_)))
  · refine TieS.cond rfl ?_ ?_
    · exact TieS.region (.run 1 rfl (.nil (.leaf ⟨rfl, .of rfl rfl⟩)))
    · exact TieS.skip (.leaf ⟨rfl, .of rfl rfl⟩)
  rintro most e σ' _ ⟨rfl, hs⟩
  refine TieX.sub hs (TieS.seq (.region (.run 4 rfl (.selAnd (v := decide (p2.Value ≤ most)) 5 9 (fun b => ⟨[(1, .ptr 1 0), (14, .t (tB b))], [(1, .box [.t (tI p2.Value), .t (tI p2.Differ), .t (tB p2.Fault)])]⟩) rfl ?_ ?_ ?_))))
  · exact TieO.run 5 rfl (.nil (.leaf ⟨rfl, .of rfl rfl⟩))
  · exact TieO.run 5 rfl (.nil (.leaf ⟨rfl, .of rfl rfl⟩))
  refine TieO.run 1 rfl (.selAnd (v := decide (p2.Differ ≥ 0)) 4 15 (fun b => ⟨[(1, .ptr 1 0), (19, .t (tB b))], [(1, .box [.t (tI p2.Value), .t (tI p2.Differ), .t (tB p2.Fault)])]⟩) rfl ?_ ?_ ?_)
  · exact TieO.run 4 rfl (.nil (.leaf ⟨rfl, .of rfl rfl⟩))
  · exact TieO.run 4 rfl (.nil (.leaf ⟨rfl, .of rfl rfl⟩))
  refine TieO.run 1 rfl (.selAnd (v := decide (p2.Differ ≤ 3)) 4 20 (fun b => ⟨[(1, .ptr 1 0), (24, .t (tB b))], [(1, .box [.t (tI p2.Value), .t (tI p2.Differ), .t (tB p2.Fault)])]⟩) rfl ?_ ?_ ?_)
  · exact TieO.run 4 rfl (.nil (.leaf ⟨rfl, .of rfl rfl⟩))
  · exact TieO.run 4 rfl (.nil (.leaf ⟨rfl, .of rfl rfl⟩))
  refine TieO.run 1 rfl (.selAnd (v := (p2.Fault == (p2.Differ == 3))) 7 25 (fun b => ⟨[(32, .t (tB b))], []⟩) rfl ?_ ?_ ?_)
  · exact TieO.run 7 rfl (.nil (.leaf ⟨rfl, .of rfl rfl⟩))
  · exact TieO.run 7 rfl (.nil (.leaf ⟨rfl, .of rfl rfl⟩))
  exact TieO.run 1 rfl (.nil (.ret ⟨.inl rfl, rfl⟩))
-- magneto/mixture.in
set_option maxRecDepth 100000 in
theorem tie_mixture_in (x : Int) (low : Int) (high : Int) : TieF Tryz.prog 132 [.t (tI x), .t (tI low), .t (tI high)] (mixture_in x low high) (fun r => .t (tB r)) := by
  refine TieF.intro htab 15 [.tmp 6] Tryz.call132 Tryz.func132 rfl rfl rfl (Nat.le_of_ble_eq_true rfl) fun w0 L => ?_
  refine TieS.seq (.region (.run 1 rfl (.nil (.seq ?_))))
  refine TieS.region (.run 4 rfl (.selAnd (v := decide (x ≤ high)) 4 10 (fun b => ⟨[(14, .t (tB b))], []⟩) rfl ?_ ?_ ?_))
  · exact TieO.run 4 rfl (.nil (.leaf ⟨rfl, .of rfl rfl⟩))
  · exact TieO.run 4 rfl (.nil (.leaf ⟨rfl, .of rfl rfl⟩))
  exact TieO.run 1 rfl (.nil (.ret ⟨.inl rfl, rfl⟩))
-- slices.IndexFunc[[]magneto/api.Cell,magneto/api.Cell]
set_option maxRecDepth 100000 in
theorem tie_slices_IndexFunc_sCell (s : List SCell) (n2 : Nat) (cs : List (List Tree)) (f2 : SCell → Option Bool) (h2 : ∀ x0, TieF Tryz.prog n2 ([A_SCell x0] ++ cs.map T.el) (f2 x0) (fun r => .t (tB r))) : TieF Tryz.prog 223 [.t (tS enc_SCell s), .fz n2 cs] (slices_IndexFunc_sCell s f2) (fun r => .t (tI r)) := by
  refine TieF.intro htab 19 [.tmp 4] Tryz.call223 Tryz.func223 rfl rfl rfl (Nat.le_of_ble_eq_true rfl) fun w0 L => ?_
  refine TieS.seq (.region (.run 1 rfl (.nil (.seq ?_))))
  refine TieS.seq (.region (.run 3 rfl (.nil (.block ?_))))
  refine TieS.loop (fun p => ⟨[(0, .t (tS enc_SCell s)), (1, .fz n2 cs), (7, .t (tI (s.length : Int))), (8, .t (tI p.1))], []⟩) (fun b e σ' => match b with | .inl t => e = .exit 0 ∧ Sub ⟨[], []⟩ σ' | .inr t => e = .ret ∧ retT tab σ' [.tmp 4] = some (((fun r => .t (tI r)) : Int → T) t)) (.of rfl rfl) ?_ ?_
  · rintro ⟨i, s2⟩
    refine TieS.seq (.region (.run 1 rfl (.nil (.seq ?_))))
    refine TieS.cond rfl ?_ ?_
    · refine TieS.skip (.seq (TieX.sub (σ' := ⟨[(0, .t (tS enc_SCell s)), (1, .fz n2 cs), (7, .t (tI (s.length : Int))), (8, .t (tI i))], []⟩) (.of rfl rfl) (TieS.bind (Q₁ := fun f e σ' => match f with | .next t => e = .normal ∧ Sub ⟨[(0, .t (tS enc_SCell s)), (1, .fz n2 cs), (7, .t (tI (s.length : Int))), (8, .t (tI i))], []⟩ σ' | .brk t => e = .exit 0 ∧ Sub ⟨[], []⟩ σ' | .ret t => e = .ret ∧ retT tab σ' [.tmp 4] = some (((fun r => .t (tI r)) : Int → T) t)) ?_ ?_)))
      · refine TieS.block (.seq (.region (.run 2 rfl (.nil ?_))))
        refine TieS.seq (.region (.run 3 rfl (.index rfl rfl rfl rfl rfl rfl rfl rfl (fun _ => rfl) fun x hx => .run 1 rfl ?_)))
        refine TieO.call _ rfl rfl rfl (h2 x) (fun _ => rfl) fun v => .nil (.cond rfl ?_ ?_)
        · exact TieS.seq (.region (.run 2 rfl (.nil (.ret ⟨rfl, rfl⟩))))
        · exact TieS.skip (.endb (.leaf ⟨rfl, .of rfl rfl⟩))
      rintro (t | t | t) e σ' _ hq
      · obtain ⟨rfl, hs⟩ := hq
        exact TieX.sub hs (TieS.region (.run 2 rfl (.nil (.leaf ⟨rfl, .of rfl rfl⟩))))
      · obtain ⟨rfl, hs⟩ := hq
        exact TieX.exitOut rfl ⟨(fun h => by cases h), rfl, hs⟩
      · obtain ⟨rfl, hs⟩ := hq
        exact TieX.ret ⟨(fun h => by cases h), rfl, hs⟩
    · exact TieS.exitOut rfl ⟨(fun h => by cases h), rfl, .of rfl rfl⟩
  rintro (s3 | r2) e σ' _ hq
  · obtain ⟨rfl, hs⟩ := hq
    refine TieX.exit rfl (TieX.sub hs ?_)
    exact TieS.seq (.region (.run 1 rfl (.nil (.ret ⟨.inl rfl, rfl⟩))))
  · obtain ⟨rfl, hs⟩ := hq
    exact TieX.ret ⟨.inl rfl, hs⟩
-- slices.ContainsFunc[[]magneto/api.Cell,magneto/api.Cell]
set_option maxRecDepth 100000 in
theorem tie_slices_ContainsFunc_sCell (s : List SCell) (n2 : Nat) (cs : List (List Tree)) (f2 : SCell → Option Bool) (h2 : ∀ x0, TieF Tryz.prog n2 ([A_SCell x0] ++ cs.map T.el) (f2 x0) (fun r => .t (tB r))) : TieF Tryz.prog 157 [.t (tS enc_SCell s), .fz n2 cs] (slices_ContainsFunc_sCell s f2) (fun r => .t (tB r)) := by
  refine TieF.intro htab 9 [.tmp 4] Tryz.call157 Tryz.func157 rfl rfl rfl (Nat.le_of_ble_eq_true rfl) fun w0 L => ?_
  refine TieS.seq (.region (.run 1 rfl (.nil (.seq ?_))))
  refine TieS.region (.run 2 rfl (.call _ rfl rfl rfl (tie_slices_IndexFunc_sCell s n2 cs f2 h2) (fun _ => rfl) fun v => .run 2 rfl (.nil ?_)))
  exact TieS.ret ⟨.inl rfl, rfl⟩
-- magneto/mixture.Valid$1
set_option maxRecDepth 100000 in
theorem tie_mixture_Valid_1 (c : SCell) : TieF Tryz.prog 158 [A_SCell c] (mixture_Valid_1 c) (fun r => .t (tB r)) := by
  refine TieF.intro htab 13 [.tmp 2] Tryz.call158 Tryz.func158 rfl rfl rfl (Nat.le_of_ble_eq_true rfl) fun w0 L => ?_
  refine TieS.seq (.region (.run 2 rfl (.nil (.seq ?_))))
  refine TieS.region (.run 2 rfl (.call _ rfl rfl rfl (tie_mixture_in c.Value (-100) 100) (fun _ => rfl) fun v => .run 2 rfl (.bind 5 (fun b2 => ⟨[(12, .t (tB b2))], []⟩) (TieO.split 7 rfl ?_ ?_) fun b2 _ => ?_)))
  · exact TieO.run 5 rfl (.nil (.leaf ⟨rfl, .of rfl rfl⟩))
  · exact TieO.run 2 rfl (.call _ rfl rfl rfl (tie_mixture_in c.Count 0 1000) (fun _ => rfl) fun v2 => .run 2 rfl (.nil (.leaf ⟨rfl, .of rfl rfl⟩)))
  exact TieO.run 1 rfl (.nil (.ret ⟨.inl rfl, rfl⟩))
-- magneto/mixture.Valid
set_option maxRecDepth 100000 in
theorem tie_mixture_Valid (p2 : SProbe) : TieF Tryz.prog 65 [A_SProbe p2] (mixture_Valid p2) (fun r => .t (tB r)) := by
  refine TieF.intro htab 40 [.tmp 2] Tryz.call65 Tryz.func65 rfl rfl rfl (Nat.le_of_ble_eq_true rfl) fun w0 L => ?_
  refine TieS.seq (.region (.run 2 rfl (.nil (.seq ?_))))
  refine TieS.seq (.region (.run 2 rfl (.call _ rfl rfl rfl (tie_mixture_in p2.Factor 750 1250) (fun _ => rfl) fun v => .run 2 rfl ?_)))
  refine TieO.bind 5 (fun b2 => ⟨[(1, .ptr 1 0), (12, .t (tB b2))], [(1, .box [.t (tB p2.Active), .t (tB p2.Rich), .t (tI p2.Factor), .t (tI p2.Wait), .t (tS enc_SCell p2.Cells)])]⟩) (TieO.split 7 rfl ?_ ?_) fun b2 _ => ?_
  · exact TieO.run 5 rfl (.nil (.leaf ⟨rfl, .of rfl rfl⟩))
  · exact TieO.run 2 rfl (.call _ rfl rfl rfl (tie_mixture_in p2.Wait 0 1000) (fun _ => rfl) fun v2 => .run 2 rfl (.nil (.leaf ⟨rfl, .of rfl rfl⟩)))
  refine TieO.run 1 rfl (.selOr (v := ((p2.Cells.length : Int) != 9)) 5 13 (fun b => ⟨[(1, .ptr 1 0), (18, .t (tB b))], [(1, .box [.t (tB p2.Active), .t (tB p2.Rich), .t (tI p2.Factor), .t (tI p2.Wait), .t (tS enc_SCell p2.Cells)])]⟩) rfl ?_ ?_ ?_)
  · exact TieO.run 5 rfl (.nil (.leaf ⟨rfl, .of rfl rfl⟩))
  · exact TieO.run 5 rfl (.nil (.leaf ⟨rfl, .of rfl rfl⟩))
  refine TieO.nil (.cond rfl ?_ ?_)
  · exact TieS.seq (.region (.run 1 rfl (.nil (.ret ⟨.inl rfl, rfl⟩))))
  · refine TieS.skip (.seq (.seq (.region (.run 4 rfl ?_))))
    refine TieO.bind 13 (fun b3 => ⟨[(1, .ptr 1 0), (35, .t (tB b3))], [(1, .box [.t (tB p2.Active), .t (tB p2.Rich), .t (tI p2.Factor), .t (tI p2.Wait), .t (tS enc_SCell p2.Cells)])]⟩) (TieO.split 22 rfl ?_ ?_) fun b3 _ => ?_
    · refine TieO.run 4 rfl (.selOr (v := (p2.Wait != 0)) 4 26 (fun b => ⟨[(1, .ptr 1 0), (22, .t (tB true)), (30, .t (tB b))], [(1, .box [.t (tB p2.Active), .t (tB p2.Rich), .t (tI p2.Factor), .t (tI p2.Wait), .t (tS enc_SCell p2.Cells)])]⟩) rfl ?_ ?_ ?_)
      · exact TieO.run 4 rfl (.nil (.leaf ⟨rfl, .of rfl rfl⟩))
      · exact TieO.run 4 rfl (.nil (.leaf ⟨rfl, .of rfl rfl⟩))
      refine TieO.run 1 rfl (.selOr (v := p2.Rich) 3 31 (fun b => ⟨[(1, .ptr 1 0), (22, .t (tB true)), (34, .t (tB b))], [(1, .box [.t (tB p2.Active), .t (tB p2.Rich), .t (tI p2.Factor), .t (tI p2.Wait), .t (tS enc_SCell p2.Cells)])]⟩) rfl ?_ ?_ ?_)
      · exact TieO.run 3 rfl (.nil (.leaf ⟨rfl, .of rfl rfl⟩))
      · exact TieO.run 3 rfl (.nil (.leaf ⟨rfl, .of rfl rfl⟩))
      exact TieO.run 1 rfl (.nil (.leaf ⟨rfl, .of rfl rfl⟩))
    · exact TieO.run 13 rfl (.nil (.leaf ⟨rfl, .of rfl rfl⟩))
    refine TieO.nil (.cond rfl ?_ ?_)
    · exact TieS.seq (.region (.run 1 rfl (.nil (.ret ⟨.inl rfl, rfl⟩))))
    · refine TieS.skip (.seq (.region (.run 2 rfl (.call _ rfl rfl rfl (tie_slices_ContainsFunc_sCell p2.Cells 158 [] mixture_Valid_1 tie_mixture_Valid_1) (fun _ => rfl) fun v3 => ?_))))
      exact TieO.run 2 rfl (.nil (.ret ⟨.inl rfl, rfl⟩))
-- slices.IndexFunc[[]magneto/api.Knock,magneto/api.Knock]
set_option maxRecDepth 100000 in
theorem tie_slices_IndexFunc_sKnock (s : List SKnock) (n2 : Nat) (cs : List (List Tree)) (f2 : SKnock → Option Bool) (h2 : ∀ x0, TieF Tryz.prog n2 ([A_SKnock x0] ++ cs.map T.el) (f2 x0) (fun r => .t (tB r))) : TieF Tryz.prog 159 [.t (tS enc_SKnock s), .fz n2 cs] (slices_IndexFunc_sKnock s f2) (fun r => .t (tI r)) := by
  refine TieF.intro htab 19 [.tmp 4] Tryz.call159 Tryz.func159 rfl rfl rfl (Nat.le_of_ble_eq_true rfl) fun w0 L => ?_
  refine TieS.seq (.region (.run 1 rfl (.nil (.seq ?_))))
  refine TieS.seq (.region (.run 3 rfl (.nil (.block ?_))))
  refine TieS.loop (fun p => ⟨[(0, .t (tS enc_SKnock s)), (1, .fz n2 cs), (7, .t (tI (s.length : Int))), (8, .t (tI p.1))], []⟩) (fun b e σ' => match b with | .inl t => e = .exit 0 ∧ Sub ⟨[], []⟩ σ' | .inr t => e = .ret ∧ retT tab σ' [.tmp 4] = some (((fun r => .t (tI r)) : Int → T) t)) (.of rfl rfl) ?_ ?_
  · rintro ⟨i, s2⟩
    refine TieS.seq (.region (.run 1 rfl (.nil (.seq ?_))))
    refine TieS.cond rfl ?_ ?_
    · refine TieS.skip (.seq (TieX.sub (σ' := ⟨[(0, .t (tS enc_SKnock s)), (1, .fz n2 cs), (7, .t (tI (s.length : Int))), (8, .t (tI i))], []⟩) (.of rfl rfl) (TieS.bind (Q₁ := fun f e σ' => match f with | .next t => e = .normal ∧ Sub ⟨[(0, .t (tS enc_SKnock s)), (1, .fz n2 cs), (7, .t (tI (s.length : Int))), (8, .t (tI i))], []⟩ σ' | .brk t => e = .exit 0 ∧ Sub ⟨[], []⟩ σ' | .ret t => e = .ret ∧ retT tab σ' [.tmp 4] = some (((fun r => .t (tI r)) : Int → T) t)) ?_ ?_)))
      · refine TieS.block (.seq (.region (.run 2 rfl (.nil ?_))))
        refine TieS.seq (.region (.run 3 rfl (.index rfl rfl rfl rfl rfl rfl rfl rfl (fun _ => rfl) fun x hx => .run 1 rfl ?_)))
        refine TieO.call _ rfl rfl rfl (h2 x) (fun _ => rfl) fun v => .nil (.cond rfl ?_ ?_)
        · exact TieS.seq (.region (.run 2 rfl (.nil (.ret ⟨rfl, rfl⟩))))
        · exact TieS.skip (.endb (.leaf ⟨rfl, .of rfl rfl⟩))
      rintro (t | t | t) e σ' _ hq
      · obtain ⟨rfl, hs⟩ := hq
        exact TieX.sub hs (TieS.region (.run 2 rfl (.nil (.leaf ⟨rfl, .of rfl rfl⟩))))
      · obtain ⟨rfl, hs⟩ := hq
        exact TieX.exitOut rfl ⟨(fun h => by cases h), rfl, hs⟩
      · obtain ⟨rfl, hs⟩ := hq
        exact TieX.ret ⟨(fun h => by cases h), rfl, hs⟩
    · exact TieS.exitOut rfl ⟨(fun h => by cases h), rfl, .of rfl rfl⟩
  rintro (s3 | r2) e σ' _ hq
  · obtain ⟨rfl, hs⟩ := hq
    refine TieX.exit rfl (TieX.sub hs ?_)
    exact TieS.seq (.region (.run 1 rfl (.nil (.ret ⟨.inl rfl, rfl⟩))))
  · obtain ⟨rfl, hs⟩ := hq
    exact TieX.ret ⟨.inl rfl, hs⟩
-- slices.ContainsFunc[[]magneto/api.Knock,magneto/api.Knock]
set_option maxRecDepth 100000 in
theorem tie_slices_ContainsFunc_sKnock (s : List SKnock) (n2 : Nat) (cs : List (List Tree)) (f2 : SKnock → Option Bool) (h2 : ∀ x0, TieF Tryz.prog n2 ([A_SKnock x0] ++ cs.map T.el) (f2 x0) (fun r => .t (tB r))) : TieF Tryz.prog 66 [.t (tS enc_SKnock s), .fz n2 cs] (slices_ContainsFunc_sKnock s f2) (fun r => .t (tB r)) := by
  refine TieF.intro htab 9 [.tmp 4] Tryz.call66 Tryz.func66 rfl rfl rfl (Nat.le_of_ble_eq_true rfl) fun w0 L => ?_
  refine TieS.seq (.region (.run 1 rfl (.nil (.seq ?_))))
  refine TieS.region (.run 2 rfl (.call _ rfl rfl rfl (tie_slices_IndexFunc_sKnock s n2 cs f2 h2) (fun _ => rfl) fun v => .run 2 rfl (.nil ?_)))
  exact TieS.ret ⟨.inl rfl, rfl⟩
-- magneto/knock.intensity
set_option maxRecDepth 100000 in
theorem tie_knock_intensity (n2 : Int) : TieF Tryz.prog 124 [.t (tI n2)] (knock_intensity n2) (fun r => .t (tB r)) := by
  refine TieF.intro htab 9 [.tmp 2] Tryz.call124 Tryz.func124 rfl rfl rfl (Nat.le_of_ble_eq_true rfl) fun w0 L => ?_
  refine TieS.seq (.region (.run 1 rfl (.nil (.seq ?_))))
  refine TieS.region (.run 3 rfl (.selAnd (v := decide (n2 ≤ 4095)) 3 5 (fun b => ⟨[(8, .t (tB b))], []⟩) rfl ?_ ?_ ?_))
  · exact TieO.run 3 rfl (.nil (.leaf ⟨rfl, .of rfl rfl⟩))
  · exact TieO.run 3 rfl (.nil (.leaf ⟨rfl, .of rfl rfl⟩))
  exact TieO.run 1 rfl (.nil (.ret ⟨.inl rfl, rfl⟩))
-- magneto/knock.Valid
set_option maxRecDepth 100000 in
theorem tie_knock_Valid (k : SKnock) : TieF Tryz.prog 68 [A_SKnock k] (knock_Valid k) (fun r => .t (tB r)) := by
  refine TieF.intro htab 26 [.tmp 2] Tryz.call68 Tryz.func68 rfl rfl rfl (Nat.le_of_ble_eq_true rfl) fun w0 L => ?_
  refine TieS.seq (.region (.run 2 rfl (.nil (.seq ?_))))
  refine TieS.region (.run 4 rfl (.selAnd (v := decide (k.Retard ≤ 960)) 4 6 (fun b => ⟨[(1, .ptr 1 0), (10, .t (tB b))], [(1, .box [.t (tI k.Retard), .t (tI k.Noise), .t (tI k.Quiet)])]⟩) rfl ?_ ?_ ?_))
  · exact TieO.run 4 rfl (.nil (.leaf ⟨rfl, .of rfl rfl⟩))
  · exact TieO.run 4 rfl (.nil (.leaf ⟨rfl, .of rfl rfl⟩))
  refine TieO.run 1 rfl (.bind 4 (fun b2 => ⟨[(1, .ptr 1 0), (15, .t (tB b2))], [(1, .box [.t (tI k.Retard), .t (tI k.Noise), .t (tI k.Quiet)])]⟩) (TieO.split 11 rfl ?_ ?_) fun b2 _ => ?_)
  · exact TieO.run 2 rfl (.call _ rfl rfl rfl (tie_knock_intensity k.Noise) (fun _ => rfl) fun v => .run 1 rfl (.nil (.leaf ⟨rfl, .of rfl rfl⟩)))
  · exact TieO.run 4 rfl (.nil (.leaf ⟨rfl, .of rfl rfl⟩))
  refine TieO.run 1 rfl (.selAnd (v := decide (k.Quiet ≥ 0)) 4 16 (fun b => ⟨[(1, .ptr 1 0), (20, .t (tB b))], [(1, .box [.t (tI k.Retard), .t (tI k.Noise), .t (tI k.Quiet)])]⟩) rfl ?_ ?_ ?_)
  · exact TieO.run 4 rfl (.nil (.leaf ⟨rfl, .of rfl rfl⟩))
  · exact TieO.run 4 rfl (.nil (.leaf ⟨rfl, .of rfl rfl⟩))
  refine TieO.run 1 rfl (.selAnd (v := decide (k.Quiet < 100)) 4 21 (fun b => ⟨[(25, .t (tB b))], []⟩) rfl ?_ ?_ ?_)
  · exact TieO.run 4 rfl (.nil (.leaf ⟨rfl, .of rfl rfl⟩))
  · exact TieO.run 4 rfl (.nil (.leaf ⟨rfl, .of rfl rfl⟩))
  exact TieO.run 1 rfl (.nil (.ret ⟨.inl rfl, rfl⟩))
-- magneto/control.Good$1
set_option maxRecDepth 100000 in
theorem tie_control_Good_1 (k : SKnock) : TieF Tryz.prog 67 [A_SKnock k] (control_Good_1 k) (fun r => .t (tB r)) := by
  refine TieF.intro htab 6 [.tmp 2] Tryz.call67 Tryz.func67 rfl rfl rfl (Nat.le_of_ble_eq_true rfl) fun w0 L => ?_
  refine TieS.seq (.region (.run 2 rfl (.nil (.seq ?_))))
  refine TieS.region (.run 1 rfl (.call _ rfl rfl rfl (tie_knock_Valid k) (fun _ => rfl) fun v => .run 2 rfl (.nil ?_)))
  exact TieS.ret ⟨.inl rfl, rfl⟩
-- magneto/control.in
set_option maxRecDepth 100000 in
theorem tie_control_in (x : Int) (low : Int) (high : Int) : TieF Tryz.prog 69 [.t (tI x), .t (tI low), .t (tI high)] (control_in x low high) (fun r => .t (tB r)) := by
  refine TieF.intro htab 15 [.tmp 6] Tryz.call69 Tryz.func69 rfl rfl rfl (Nat.le_of_ble_eq_true rfl) fun w0 L => ?_
  refine TieS.seq (.region (.run 1 rfl (.nil (.seq ?_))))
  refine TieS.region (.run 4 rfl (.selAnd (v := decide (x ≤ high)) 4 10 (fun b => ⟨[(14, .t (tB b))], []⟩) rfl ?_ ?_ ?_))
  · exact TieO.run 4 rfl (.nil (.leaf ⟨rfl, .of rfl rfl⟩))
  · exact TieO.run 4 rfl (.nil (.leaf ⟨rfl, .of rfl rfl⟩))
  exact TieO.run 1 rfl (.nil (.ret ⟨.inl rfl, rfl⟩))
-- magneto/control.Good
set_option maxRecDepth 100000 in
theorem tie_control_Good (e2 : SEngine) (c : SControls) : TieF Tryz.prog 18 [A_SEngine e2, A_SControls c] (control_Good e2 c) (fun r => .t (tB r)) := by
  refine TieF.intro htab 53 [.tmp 4] Tryz.call18 Tryz.func18 rfl rfl rfl (Nat.le_of_ble_eq_true rfl) fun w0 L => ?_
  refine TieS.seq (.region (.run 3 rfl (.nil (.seq ?_))))
  refine TieS.seq (.region (.run 1 rfl (.call _ rfl rfl rfl (tie_events_Valid e2) (fun _ => rfl) fun v => .run 2 rfl ?_)))
  refine TieO.bind 5 (fun b2 => ⟨[(2, .ptr 2 0), (3, .ptr 3 0), (13, .t (tB b2))], [(2, .box [.t (tS Pv.encI e2.Order), .t (tI e2.First)]), (3, .box (B_SControls c))]⟩) (TieO.split 8 rfl ?_ ?_) fun b2 _ => ?_
  · exact TieO.run 5 rfl (.nil (.leaf ⟨rfl, .of rfl rfl⟩))
  · exact TieO.run 2 rfl (.call _ rfl rfl rfl (tie_pedal_Valid c.Pedal) (fun _ => rfl) fun v2 => .run 2 rfl (.nil (.leaf ⟨rfl, .of rfl rfl⟩)))
  refine TieO.run 1 rfl (.bind 5 (fun b3 => ⟨[(2, .ptr 2 0), (3, .ptr 3 0), (19, .t (tB b3))], [(2, .box [.t (tS Pv.encI e2.Order), .t (tI e2.First)]), (3, .box (B_SControls c))]⟩) (TieO.split 14 rfl ?_ ?_) fun b3 _ => ?_)
  · exact TieO.run 5 rfl (.nil (.leaf ⟨rfl, .of rfl rfl⟩))
  · exact TieO.run 2 rfl (.call _ rfl rfl rfl (tie_mixture_Valid c.Probe) (fun _ => rfl) fun v3 => .run 2 rfl (.nil (.leaf ⟨rfl, .of rfl rfl⟩)))
  refine TieO.run 1 rfl (.selOr (v := ((c.Knock.length : Int) != (e2.Order.length : Int))) 8 20 (fun b => ⟨[(3, .ptr 3 0), (28, .t (tB b))], [(3, .box (B_SControls c))]⟩) rfl ?_ ?_ ?_)
  · exact TieO.run 8 rfl (.nil (.leaf ⟨rfl, .of rfl rfl⟩))
  · exact TieO.run 8 rfl (.nil (.leaf ⟨rfl, .of rfl rfl⟩))
  refine TieO.nil (.cond rfl ?_ ?_)
  · exact TieS.seq (.region (.run 1 rfl (.nil (.ret ⟨.inl rfl, rfl⟩))))
  · refine TieS.skip (.seq (.seq (.region (.run 2 rfl ?_))))
    refine TieO.call _ rfl rfl rfl (tie_slices_ContainsFunc_sKnock c.Knock 67 [] control_Good_1 tie_control_Good_1) (fun _ => rfl) fun v4 => .nil (.cond rfl ?_ ?_)
    · exact TieS.seq (.region (.run 1 rfl (.nil (.ret ⟨.inl rfl, rfl⟩))))
    · refine TieS.skip (.seq (.region (.run 3 rfl (.call _ rfl rfl rfl (tie_control_in c.Idle.Sum (-4398046511104) 4398046511104) (fun _ => rfl) fun v5 => ?_))))
      refine TieO.run 1 rfl (.bind 4 (fun b4 => ⟨[(3, .ptr 3 0), (40, .t (tB b4))], [(3, .box (B_SControls c))]⟩) (TieO.split 36 rfl ?_ ?_) fun b4 _ => ?_)
      · exact TieO.run 2 rfl (.call _ rfl rfl rfl (tie_control_in c.Film 0 1073741824) (fun _ => rfl) fun v6 => .run 1 rfl (.nil (.leaf ⟨rfl, .of rfl rfl⟩)))
      · exact TieO.run 4 rfl (.nil (.leaf ⟨rfl, .of rfl rfl⟩))
      refine TieO.run 1 rfl (.bind 5 (fun b5 => ⟨[(3, .ptr 3 0), (46, .t (tB b5))], [(3, .box (B_SControls c))]⟩) (TieO.split 41 rfl ?_ ?_) fun b5 _ => ?_)
      · exact TieO.run 3 rfl (.call _ rfl rfl rfl (tie_control_in c.Grant.Torque (-5000) 10000) (fun _ => rfl) fun v7 => .run 1 rfl (.nil (.leaf ⟨rfl, .of rfl rfl⟩)))
      · exact TieO.run 5 rfl (.nil (.leaf ⟨rfl, .of rfl rfl⟩))
      refine TieO.run 1 rfl (.bind 5 (fun b6 => ⟨[(52, .t (tB b6))], []⟩) (TieO.split 47 rfl ?_ ?_) fun b6 _ => ?_)
      · exact TieO.run 3 rfl (.call _ rfl rfl rfl (tie_control_in c.Grant.Source (-1) 15) (fun _ => rfl) fun v8 => .run 1 rfl (.nil (.leaf ⟨rfl, .of rfl rfl⟩)))
      · exact TieO.run 5 rfl (.nil (.leaf ⟨rfl, .of rfl rfl⟩))
      exact TieO.run 1 rfl (.nil (.ret ⟨.inl rfl, rfl⟩))
-- magneto/magnetolaw38.awake
set_option maxRecDepth 100000 in
theorem tie_magnetolaw38_awake : TieF Tryz.prog 10 [] (magnetolaw38_awake) (fun r => .t (tB r)) := by
  refine TieF.intro htab 30 [.tmp 0] Tryz.call10 Tryz.func10 rfl rfl rfl (Nat.le_of_ble_eq_true rfl) fun w0 L => ?_
  refine TieS.seq (.region (.run 1 rfl (.nil (.seq ?_))))
  refine TieS.region (.run 4 rfl (.nil (.seq (.region ?_))))
  refine TieO.run 1 rfl (.frz 4 rfl (.call _ rfl rfl rfl (tie_control_New (⟨([1] : List Int), 0⟩ : SEngine)) (fun _ => rfl) fun r2 => .run 6 rfl (.nil ?_)))
  refine TieS.seq (.region (.run 3 rfl (.bind 4 (fun b2 => ⟨[(1, .ptr 1 0), (2, .ptr 2 0), (17, .t (tB b2))], [(1, .box [.t (tS Pv.encI ([1] : List Int)), .t (tI 0)]), (2, .box (B_SControls r2.1))]⟩) (TieO.split 13 rfl ?_ ?_) fun b2 _ => ?_)))
  · exact TieO.run 2 rfl (.call _ rfl rfl rfl (tie_control_Good (⟨([1] : List Int), 0⟩ : SEngine) (⟨(⟨r2.1.Pedal.Value, r2.1.Pedal.Differ, r2.1.Pedal.Fault⟩ : SPedal), (⟨r2.1.Idle.Sum⟩ : SIntegral), r2.1.Knock, (⟨r2.1.Probe.Active, r2.1.Probe.Rich, r2.1.Probe.Factor, r2.1.Probe.Wait, r2.1.Probe.Cells⟩ : SProbe), r2.1.Film, (⟨r2.1.Grant.Torque, r2.1.Grant.Source⟩ : SGrant)⟩ : SControls)) (fun _ => rfl) fun v => .run 1 rfl (.nil (.leaf ⟨rfl, .of rfl rfl⟩)))
  · exact TieO.run 4 rfl (.nil (.leaf ⟨rfl, .of rfl rfl⟩))
  refine TieO.run 1 rfl (.bind 5 (fun b3 => ⟨[(2, .ptr 2 0), (23, .t (tB b3))], [(2, .box (B_SControls r2.1))]⟩) (TieO.split 18 rfl ?_ ?_) fun b3 _ => ?_)
  · exact TieO.run 2 rfl (.call _ rfl rfl rfl (tie_control_Good (⟨([1] : List Int), 0⟩ : SEngine) (⟨(⟨0, 0, false⟩ : SPedal), (⟨0⟩ : SIntegral), ([] : List SKnock), (⟨false, false, 0, 0, ([] : List SCell)⟩ : SProbe), 0, (⟨0, 0⟩ : SGrant)⟩ : SControls)) (fun _ => rfl) fun v2 => .run 2 rfl (.nil (.leaf ⟨rfl, .of rfl rfl⟩)))
  · exact TieO.run 5 rfl (.nil (.leaf ⟨rfl, .of rfl rfl⟩))
  refine TieO.run 1 rfl (.selAnd (v := (r2.1.Grant.Source == (-1))) 5 24 (fun b => ⟨[(29, .t (tB b))], []⟩) rfl ?_ ?_ ?_)
  · exact TieO.run 5 rfl (.nil (.leaf ⟨rfl, .of rfl rfl⟩))
  · exact TieO.run 5 rfl (.nil (.leaf ⟨rfl, .of rfl rfl⟩))
  exact TieO.run 1 rfl (.nil (.ret ⟨.inl rfl, rfl⟩))
-- slices.IndexFunc[[]magneto/api.Map,magneto/api.Map]
set_option maxRecDepth 100000 in
theorem tie_slices_IndexFunc_sMap (s : List SMap) (n2 : Nat) (cs : List (List Tree)) (f2 : SMap → Option Bool) (h2 : ∀ x0, TieF Tryz.prog n2 ([A_SMap x0] ++ cs.map T.el) (f2 x0) (fun r => .t (tB r))) : TieF Tryz.prog 134 [.t (tS enc_SMap s), .fz n2 cs] (slices_IndexFunc_sMap s f2) (fun r => .t (tI r)) := by
  refine TieF.intro htab 19 [.tmp 4] Tryz.call134 Tryz.func134 rfl rfl rfl (Nat.le_of_ble_eq_true rfl) fun w0 L => ?_
  refine TieS.seq (.region (.run 1 rfl (.nil (.seq ?_))))
  refine TieS.seq (.region (.run 3 rfl (.nil (.block ?_))))
  refine TieS.loop (fun p => ⟨[(0, .t (tS enc_SMap s)), (1, .fz n2 cs), (7, .t (tI (s.length : Int))), (8, .t (tI p.1))], []⟩) (fun b e σ' => match b with | .inl t => e = .exit 0 ∧ Sub ⟨[], []⟩ σ' | .inr t => e = .ret ∧ retT tab σ' [.tmp 4] = some (((fun r => .t (tI r)) : Int → T) t)) (.of rfl rfl) ?_ ?_
  · rintro ⟨i, s2⟩
    refine TieS.seq (.region (.run 1 rfl (.nil (.seq ?_))))
    refine TieS.cond rfl ?_ ?_
    · refine TieS.skip (.seq (TieX.sub (σ' := ⟨[(0, .t (tS enc_SMap s)), (1, .fz n2 cs), (7, .t (tI (s.length : Int))), (8, .t (tI i))], []⟩) (.of rfl rfl) (TieS.bind (Q₁ := fun f e σ' => match f with | .next t => e = .normal ∧ Sub ⟨[(0, .t (tS enc_SMap s)), (1, .fz n2 cs), (7, .t (tI (s.length : Int))), (8, .t (tI i))], []⟩ σ' | .brk t => e = .exit 0 ∧ Sub ⟨[], []⟩ σ' | .ret t => e = .ret ∧ retT tab σ' [.tmp 4] = some (((fun r => .t (tI r)) : Int → T) t)) ?_ ?_)))
      · refine TieS.block (.seq (.region (.run 2 rfl (.nil ?_))))
        refine TieS.seq (.region (.run 3 rfl (.index rfl rfl rfl rfl rfl rfl rfl rfl (fun _ => rfl) fun x hx => .run 1 rfl ?_)))
        refine TieO.call _ rfl rfl rfl (h2 x) (fun _ => rfl) fun v => .nil (.cond rfl ?_ ?_)
        · exact TieS.seq (.region (.run 2 rfl (.nil (.ret ⟨rfl, rfl⟩))))
        · exact TieS.skip (.endb (.leaf ⟨rfl, .of rfl rfl⟩))
      rintro (t | t | t) e σ' _ hq
      · obtain ⟨rfl, hs⟩ := hq
        exact TieX.sub hs (TieS.region (.run 2 rfl (.nil (.leaf ⟨rfl, .of rfl rfl⟩))))
      · obtain ⟨rfl, hs⟩ := hq
        exact TieX.exitOut rfl ⟨(fun h => by cases h), rfl, hs⟩
      · obtain ⟨rfl, hs⟩ := hq
        exact TieX.ret ⟨(fun h => by cases h), rfl, hs⟩
    · exact TieS.exitOut rfl ⟨(fun h => by cases h), rfl, .of rfl rfl⟩
  rintro (s3 | r2) e σ' _ hq
  · obtain ⟨rfl, hs⟩ := hq
    refine TieX.exit rfl (TieX.sub hs ?_)
    exact TieS.seq (.region (.run 1 rfl (.nil (.ret ⟨.inl rfl, rfl⟩))))
  · obtain ⟨rfl, hs⟩ := hq
    exact TieX.ret ⟨.inl rfl, hs⟩
-- slices.ContainsFunc[[]magneto/api.Map,magneto/api.Map]
set_option maxRecDepth 100000 in
theorem tie_slices_ContainsFunc_sMap (s : List SMap) (n2 : Nat) (cs : List (List Tree)) (f2 : SMap → Option Bool) (h2 : ∀ x0, TieF Tryz.prog n2 ([A_SMap x0] ++ cs.map T.el) (f2 x0) (fun r => .t (tB r))) : TieF Tryz.prog 40 [.t (tS enc_SMap s), .fz n2 cs] (slices_ContainsFunc_sMap s f2) (fun r => .t (tB r)) := by
  refine TieF.intro htab 9 [.tmp 4] Tryz.call40 Tryz.func40 rfl rfl rfl (Nat.le_of_ble_eq_true rfl) fun w0 L => ?_
  refine TieS.seq (.region (.run 1 rfl (.nil (.seq ?_))))
  refine TieS.region (.run 2 rfl (.call _ rfl rfl rfl (tie_slices_IndexFunc_sMap s n2 cs f2 h2) (fun _ => rfl) fun v => .run 2 rfl (.nil ?_)))
  exact TieS.ret ⟨.inl rfl, rfl⟩
-- slices.IndexFunc[[][]int,[]int]
set_option maxRecDepth 100000 in
theorem tie_slices_IndexFunc_ssint (s : List (List Int)) (n2 : Nat) (cs : List (List Tree)) (f2 : (List Int) → Option Bool) (h2 : ∀ x0, TieF Tryz.prog n2 ([.t (tS Pv.encI x0)] ++ cs.map T.el) (f2 x0) (fun r => .t (tB r))) : TieF Tryz.prog 135 [.t (tS (Pv.encS Pv.encI) s), .fz n2 cs] (slices_IndexFunc_ssint s f2) (fun r => .t (tI r)) := by
  refine TieF.intro htab 19 [.tmp 4] Tryz.call135 Tryz.func135 rfl rfl rfl (Nat.le_of_ble_eq_true rfl) fun w0 L => ?_
  refine TieS.seq (.region (.run 1 rfl (.nil (.seq ?_))))
  refine TieS.seq (.region (.run 3 rfl (.nil (.block ?_))))
  refine TieS.loop (fun p => ⟨[(0, .t (tS (Pv.encS Pv.encI) s)), (1, .fz n2 cs), (7, .t (tI (s.length : Int))), (8, .t (tI p.1))], []⟩) (fun b e σ' => match b with | .inl t => e = .exit 0 ∧ Sub ⟨[], []⟩ σ' | .inr t => e = .ret ∧ retT tab σ' [.tmp 4] = some (((fun r => .t (tI r)) : Int → T) t)) (.of rfl rfl) ?_ ?_
  · rintro ⟨i, s2⟩
    refine TieS.seq (.region (.run 1 rfl (.nil (.seq ?_))))
    refine TieS.cond rfl ?_ ?_
    · refine TieS.skip (.seq (TieX.sub (σ' := ⟨[(0, .t (tS (Pv.encS Pv.encI) s)), (1, .fz n2 cs), (7, .t (tI (s.length : Int))), (8, .t (tI i))], []⟩) (.of rfl rfl) (TieS.bind (Q₁ := fun f e σ' => match f with | .next t => e = .normal ∧ Sub ⟨[(0, .t (tS (Pv.encS Pv.encI) s)), (1, .fz n2 cs), (7, .t (tI (s.length : Int))), (8, .t (tI i))], []⟩ σ' | .brk t => e = .exit 0 ∧ Sub ⟨[], []⟩ σ' | .ret t => e = .ret ∧ retT tab σ' [.tmp 4] = some (((fun r => .t (tI r)) : Int → T) t)) ?_ ?_)))
      · refine TieS.block (.seq (.region (.run 2 rfl (.nil ?_))))
        refine TieS.seq (.region (.run 3 rfl (.index rfl rfl rfl rfl rfl rfl rfl rfl (fun _ => rfl) fun x hx => .run 1 rfl ?_)))
        refine TieO.call _ rfl rfl rfl (h2 x) (fun _ => rfl) fun v => .nil (.cond rfl ?_ ?_)
        · exact TieS.seq (.region (.run 2 rfl (.nil (.ret ⟨rfl, rfl⟩))))
        · exact TieS.skip (.endb (.leaf ⟨rfl, .of rfl rfl⟩))
      rintro (t | t | t) e σ' _ hq
      · obtain ⟨rfl, hs⟩ := hq
        exact TieX.sub hs (TieS.region (.run 2 rfl (.nil (.leaf ⟨rfl, .of rfl rfl⟩))))
      · obtain ⟨rfl, hs⟩ := hq
        exact TieX.exitOut rfl ⟨(fun h => by cases h), rfl, hs⟩
      · obtain ⟨rfl, hs⟩ := hq
        exact TieX.ret ⟨(fun h => by cases h), rfl, hs⟩
    · exact TieS.exitOut rfl ⟨(fun h => by cases h), rfl, .of rfl rfl⟩
  rintro (s3 | r2) e σ' _ hq
  · obtain ⟨rfl, hs⟩ := hq
    refine TieX.exit rfl (TieX.sub hs ?_)
    exact TieS.seq (.region (.run 1 rfl (.nil (.ret ⟨.inl rfl, rfl⟩))))
  · obtain ⟨rfl, hs⟩ := hq
    exact TieX.ret ⟨.inl rfl, hs⟩
-- slices.ContainsFunc[[][]int,[]int]
set_option maxRecDepth 100000 in
theorem tie_slices_ContainsFunc_ssint (s : List (List Int)) (n2 : Nat) (cs : List (List Tree)) (f2 : (List Int) → Option Bool) (h2 : ∀ x0, TieF Tryz.prog n2 ([.t (tS Pv.encI x0)] ++ cs.map T.el) (f2 x0) (fun r => .t (tB r))) : TieF Tryz.prog 42 [.t (tS (Pv.encS Pv.encI) s), .fz n2 cs] (slices_ContainsFunc_ssint s f2) (fun r => .t (tB r)) := by
  refine TieF.intro htab 9 [.tmp 4] Tryz.call42 Tryz.func42 rfl rfl rfl (Nat.le_of_ble_eq_true rfl) fun w0 L => ?_
  refine TieS.seq (.region (.run 1 rfl (.nil (.seq ?_))))
  refine TieS.region (.run 2 rfl (.call _ rfl rfl rfl (tie_slices_IndexFunc_ssint s n2 cs f2 h2) (fun _ => rfl) fun v => .run 2 rfl (.nil ?_)))
  exact TieS.ret ⟨.inl rfl, rfl⟩
-- magneto/magnetolaw38.few$1$1
set_option maxRecDepth 100000 in
theorem tie_magnetolaw38_few_1_1 (l : List Int) : TieF Tryz.prog 43 [.t (tS Pv.encI l)] (magnetolaw38_few_1_1 l) (fun r => .t (tB r)) := by
  refine TieF.intro htab 6 [.tmp 2] Tryz.call43 Tryz.func43 rfl rfl rfl (Nat.le_of_ble_eq_true rfl) fun w0 L => ?_
  refine TieS.seq (.region (.run 1 rfl (.nil (.seq ?_))))
  exact TieS.region (.run 4 rfl (.nil (.ret ⟨.inl rfl, rfl⟩)))
-- magneto/magnetolaw38.few$1
set_option maxRecDepth 100000 in
theorem tie_magnetolaw38_few_1 (m2 : SMap) : TieF Tryz.prog 41 [A_SMap m2] (magnetolaw38_few_1 m2) (fun r => .t (tB r)) := by
  refine TieF.intro htab 24 [.tmp 2] Tryz.call41 Tryz.func41 rfl rfl rfl (Nat.le_of_ble_eq_true rfl) fun w0 L => ?_
  refine TieS.seq (.region (.run 2 rfl (.nil (.seq ?_))))
  refine TieS.region (.run 5 rfl (.selOr (v := decide ((m2.Y.length : Int) > 40)) 5 7 (fun b => ⟨[(1, .ptr 1 0), (12, .t (tB b))], [(1, .box [.t (tS Pv.encI m2.X), .t (tS Pv.encI m2.Y), .t (tS (Pv.encS Pv.encI) m2.Z)])]⟩) rfl ?_ ?_ ?_))
  · exact TieO.run 5 rfl (.nil (.leaf ⟨rfl, .of rfl rfl⟩))
  · exact TieO.run 5 rfl (.nil (.leaf ⟨rfl, .of rfl rfl⟩))
  refine TieO.run 1 rfl (.selOr (v := decide ((m2.Z.length : Int) > 40)) 5 13 (fun b => ⟨[(1, .ptr 1 0), (18, .t (tB b))], [(1, .box [.t (tS Pv.encI m2.X), .t (tS Pv.encI m2.Y), .t (tS (Pv.encS Pv.encI) m2.Z)])]⟩) rfl ?_ ?_ ?_)
  · exact TieO.run 5 rfl (.nil (.leaf ⟨rfl, .of rfl rfl⟩))
  · exact TieO.run 5 rfl (.nil (.leaf ⟨rfl, .of rfl rfl⟩))
  refine TieO.run 1 rfl (.bind 4 (fun b2 => ⟨[(23, .t (tB b2))], []⟩) (TieO.split 19 rfl ?_ ?_) fun b2 _ => ?_)
  · exact TieO.run 4 rfl (.nil (.leaf ⟨rfl, .of rfl rfl⟩))
  · exact TieO.run 2 rfl (.call _ rfl rfl rfl (tie_slices_ContainsFunc_ssint m2.Z 43 [] magnetolaw38_few_1_1 tie_magnetolaw38_few_1_1) (fun _ => rfl) fun v => .run 1 rfl (.nil (.leaf ⟨rfl, .of rfl rfl⟩)))
  exact TieO.run 1 rfl (.nil (.ret ⟨.inl rfl, rfl⟩))
-- slices.IndexFunc[[]magneto/api.Curve,magneto/api.Curve]
set_option maxRecDepth 100000 in
theorem tie_slices_IndexFunc_sCurve (s : List SCurve) (n2 : Nat) (cs : List (List Tree)) (f2 : SCurve → Option Bool) (h2 : ∀ x0, TieF Tryz.prog n2 ([A_SCurve x0] ++ cs.map T.el) (f2 x0) (fun r => .t (tB r))) : TieF Tryz.prog 136 [.t (tS enc_SCurve s), .fz n2 cs] (slices_IndexFunc_sCurve s f2) (fun r => .t (tI r)) := by
  refine TieF.intro htab 19 [.tmp 4] Tryz.call136 Tryz.func136 rfl rfl rfl (Nat.le_of_ble_eq_true rfl) fun w0 L => ?_
  refine TieS.seq (.region (.run 1 rfl (.nil (.seq ?_))))
  refine TieS.seq (.region (.run 3 rfl (.nil (.block ?_))))
  refine TieS.loop (fun p => ⟨[(0, .t (tS enc_SCurve s)), (1, .fz n2 cs), (7, .t (tI (s.length : Int))), (8, .t (tI p.1))], []⟩) (fun b e σ' => match b with | .inl t => e = .exit 0 ∧ Sub ⟨[], []⟩ σ' | .inr t => e = .ret ∧ retT tab σ' [.tmp 4] = some (((fun r => .t (tI r)) : Int → T) t)) (.of rfl rfl) ?_ ?_
  · rintro ⟨i, s2⟩
    refine TieS.seq (.region (.run 1 rfl (.nil (.seq ?_))))
    refine TieS.cond rfl ?_ ?_
    · refine TieS.skip (.seq (TieX.sub (σ' := ⟨[(0, .t (tS enc_SCurve s)), (1, .fz n2 cs), (7, .t (tI (s.length : Int))), (8, .t (tI i))], []⟩) (.of rfl rfl) (TieS.bind (Q₁ := fun f e σ' => match f with | .next t => e = .normal ∧ Sub ⟨[(0, .t (tS enc_SCurve s)), (1, .fz n2 cs), (7, .t (tI (s.length : Int))), (8, .t (tI i))], []⟩ σ' | .brk t => e = .exit 0 ∧ Sub ⟨[], []⟩ σ' | .ret t => e = .ret ∧ retT tab σ' [.tmp 4] = some (((fun r => .t (tI r)) : Int → T) t)) ?_ ?_)))
      · refine TieS.block (.seq (.region (.run 2 rfl (.nil ?_))))
        refine TieS.seq (.region (.run 3 rfl (.index rfl rfl rfl rfl rfl rfl rfl rfl (fun _ => rfl) fun x hx => .run 1 rfl ?_)))
        refine TieO.call _ rfl rfl rfl (h2 x) (fun _ => rfl) fun v => .nil (.cond rfl ?_ ?_)
        · exact TieS.seq (.region (.run 2 rfl (.nil (.ret ⟨rfl, rfl⟩))))
        · exact TieS.skip (.endb (.leaf ⟨rfl, .of rfl rfl⟩))
      rintro (t | t | t) e σ' _ hq
      · obtain ⟨rfl, hs⟩ := hq
        exact TieX.sub hs (TieS.region (.run 2 rfl (.nil (.leaf ⟨rfl, .of rfl rfl⟩))))
      · obtain ⟨rfl, hs⟩ := hq
        exact TieX.exitOut rfl ⟨(fun h => by cases h), rfl, hs⟩
      · obtain ⟨rfl, hs⟩ := hq
        exact TieX.ret ⟨(fun h => by cases h), rfl, hs⟩
    · exact TieS.exitOut rfl ⟨(fun h => by cases h), rfl, .of rfl rfl⟩
  rintro (s3 | r2) e σ' _ hq
  · obtain ⟨rfl, hs⟩ := hq
    refine TieX.exit rfl (TieX.sub hs ?_)
    exact TieS.seq (.region (.run 1 rfl (.nil (.ret ⟨.inl rfl, rfl⟩))))
  · obtain ⟨rfl, hs⟩ := hq
    exact TieX.ret ⟨.inl rfl, hs⟩
-- slices.ContainsFunc[[]magneto/api.Curve,magneto/api.Curve]
set_option maxRecDepth 100000 in
theorem tie_slices_ContainsFunc_sCurve (s : List SCurve) (n2 : Nat) (cs : List (List Tree)) (f2 : SCurve → Option Bool) (h2 : ∀ x0, TieF Tryz.prog n2 ([A_SCurve x0] ++ cs.map T.el) (f2 x0) (fun r => .t (tB r))) : TieF Tryz.prog 44 [.t (tS enc_SCurve s), .fz n2 cs] (slices_ContainsFunc_sCurve s f2) (fun r => .t (tB r)) := by
  refine TieF.intro htab 9 [.tmp 4] Tryz.call44 Tryz.func44 rfl rfl rfl (Nat.le_of_ble_eq_true rfl) fun w0 L => ?_
  refine TieS.seq (.region (.run 1 rfl (.nil (.seq ?_))))
  refine TieS.region (.run 2 rfl (.call _ rfl rfl rfl (tie_slices_IndexFunc_sCurve s n2 cs f2 h2) (fun _ => rfl) fun v => .run 2 rfl (.nil ?_)))
  exact TieS.ret ⟨.inl rfl, rfl⟩
-- magneto/magnetolaw38.few$2
set_option maxRecDepth 100000 in
theorem tie_magnetolaw38_few_2 (c : SCurve) : TieF Tryz.prog 45 [A_SCurve c] (magnetolaw38_few_2 c) (fun r => .t (tB r)) := by
  refine TieF.intro htab 13 [.tmp 2] Tryz.call45 Tryz.func45 rfl rfl rfl (Nat.le_of_ble_eq_true rfl) fun w0 L => ?_
  refine TieS.seq (.region (.run 2 rfl (.nil (.seq ?_))))
  refine TieS.region (.run 5 rfl (.selOr (v := decide ((c.Y.length : Int) > 40)) 5 7 (fun b => ⟨[(12, .t (tB b))], []⟩) rfl ?_ ?_ ?_))
  · exact TieO.run 5 rfl (.nil (.leaf ⟨rfl, .of rfl rfl⟩))
  · exact TieO.run 5 rfl (.nil (.leaf ⟨rfl, .of rfl rfl⟩))
  exact TieO.run 1 rfl (.nil (.ret ⟨.inl rfl, rfl⟩))
-- magneto/magnetolaw38.few
set_option maxRecDepth 100000 in
theorem tie_magnetolaw38_few (t2 : STables) : TieF Tryz.prog 11 [A_STables t2] (magnetolaw38_few t2) (fun r => .t (tB r)) := by
  refine TieF.intro htab 31 [.tmp 2] Tryz.call11 Tryz.func11 rfl rfl rfl (Nat.le_of_ble_eq_true rfl) fun w0 L => ?_
  refine TieS.seq (.region (.run 2 rfl (.nil (.seq ?_))))
  refine TieS.region (.run 10 rfl (.nil (.seq (.region ?_))))
  refine TieO.run 10 rfl (.nil (.seq (.region (.run 1 rfl ?_))))
  refine TieO.callS _ rfl rfl rfl (tie_slices_ContainsFunc_sMap ([t2.Air, t2.Spark, t2.Torque, t2.Wish] : List SMap) 41 [] magnetolaw38_few_1 tie_magnetolaw38_few_1) (fun _ => rfl) (fun _ => rfl) fun v => .run 2 rfl (.bind 4 (fun b2 => ⟨[(30, .t (tB b2))], []⟩) (TieO.split 26 rfl ?_ ?_) fun b2 _ => ?_)
  · exact TieO.run 1 rfl (.callS _ rfl rfl rfl (tie_slices_ContainsFunc_sCurve ([t2.AirTemp, t2.Dwell, t2.Dead, t2.Efficiency] : List SCurve) 45 [] magnetolaw38_few_2 tie_magnetolaw38_few_2) (fun _ => rfl) (fun _ => rfl) fun v2 => .run 2 rfl (.nil (.leaf ⟨rfl, .of rfl rfl⟩)))
  · exact TieO.run 4 rfl (.nil (.leaf ⟨rfl, .of rfl rfl⟩))
  exact TieO.run 1 rfl (.nil (.ret ⟨.inl rfl, rfl⟩))
-- magneto/magnetolaw38.small
set_option maxRecDepth 100000 in
theorem tie_magnetolaw38_small (e2 : SEngine) (c : SControls) (v_in : SInputs) : TieF Tryz.prog 12 [A_SEngine e2, A_SControls c, A_SInputs v_in] (magnetolaw38_small e2 c v_in) (fun r => .t (tB r)) := by
  refine TieF.intro htab 36 [.tmp 6] Tryz.call12 Tryz.func12 rfl rfl rfl (Nat.le_of_ble_eq_true rfl) fun w0 L => ?_
  refine TieS.seq (.region (.run 4 rfl (.nil (.seq ?_))))
  refine TieS.region (.run 5 rfl (.selAnd (v := decide ((c.Knock.length : Int) ≤ 40)) 5 11 (fun b => ⟨[(4, .ptr 4 0), (5, .ptr 5 0), (16, .t (tB b))], [(4, .box (B_SControls c)), (5, .box (B_SInputs v_in))]⟩) rfl ?_ ?_ ?_))
  · exact TieO.run 5 rfl (.nil (.leaf ⟨rfl, .of rfl rfl⟩))
  · exact TieO.run 5 rfl (.nil (.leaf ⟨rfl, .of rfl rfl⟩))
  refine TieO.run 1 rfl (.selAnd (v := decide ((c.Probe.Cells.length : Int) ≤ 40)) 6 17 (fun b => ⟨[(5, .ptr 5 0), (23, .t (tB b))], [(5, .box (B_SInputs v_in))]⟩) rfl ?_ ?_ ?_)
  · exact TieO.run 6 rfl (.nil (.leaf ⟨rfl, .of rfl rfl⟩))
  · exact TieO.run 6 rfl (.nil (.leaf ⟨rfl, .of rfl rfl⟩))
  refine TieO.run 1 rfl (.selAnd (v := decide ((v_in.Intensity.length : Int) ≤ 40)) 5 24 (fun b => ⟨[(5, .ptr 5 0), (29, .t (tB b))], [(5, .box (B_SInputs v_in))]⟩) rfl ?_ ?_ ?_)
  · exact TieO.run 5 rfl (.nil (.leaf ⟨rfl, .of rfl rfl⟩))
  · exact TieO.run 5 rfl (.nil (.leaf ⟨rfl, .of rfl rfl⟩))
  refine TieO.run 1 rfl (.selAnd (v := decide ((v_in.Requests.length : Int) ≤ 40)) 5 30 (fun b => ⟨[(35, .t (tB b))], []⟩) rfl ?_ ?_ ?_)
  · exact TieO.run 5 rfl (.nil (.leaf ⟨rfl, .of rfl rfl⟩))
  · exact TieO.run 5 rfl (.nil (.leaf ⟨rfl, .of rfl rfl⟩))
  exact TieO.run 1 rfl (.nil (.ret ⟨.inl rfl, rfl⟩))
-- magneto/magnetoref23.Angle
set_option maxRecDepth 100000 in
theorem tie_magnetoref23_Angle (a : Int) : TieF Tryz.prog 138 [.t (tI a)] (magnetoref23_Angle a) (fun r => .t (tB r)) := by
  refine TieF.intro htab 9 [.tmp 2] Tryz.call138 Tryz.func138 rfl rfl rfl (Nat.le_of_ble_eq_true rfl) fun w0 L => ?_
  refine TieS.seq (.region (.run 1 rfl (.nil (.seq ?_))))
  refine TieS.region (.run 3 rfl (.selAnd (v := decide (a < 46080)) 3 5 (fun b => ⟨[(8, .t (tB b))], []⟩) rfl ?_ ?_ ?_))
  · exact TieO.run 3 rfl (.nil (.leaf ⟨rfl, .of rfl rfl⟩))
  · exact TieO.run 3 rfl (.nil (.leaf ⟨rfl, .of rfl rfl⟩))
  exact TieO.run 1 rfl (.nil (.ret ⟨.inl rfl, rfl⟩))
-- magneto/magnetoref23.Valid
set_option maxRecDepth 100000 in
theorem tie_magnetoref23_Valid (e2 : SEngine) : TieF Tryz.prog 49 [A_SEngine e2] (magnetoref23_Valid e2) (fun r => .t (tB r)) := by
  refine TieF.intro htab 57 [.tmp 2] Tryz.call49 Tryz.func49 rfl rfl rfl (Nat.le_of_ble_eq_true rfl) fun w0 L => ?_
  refine TieS.seq (.region (.run 2 rfl (.nil (.seq ?_))))
  refine TieS.region (.run 4 rfl (.nil (.seq (.seq ?_))))
  refine TieS.region (.run 3 rfl (.selOr (v := decide ((e2.Order.length : Int) > 8)) 3 11 (fun b => ⟨[(1, .ptr 1 0), (3, .t (tI (e2.Order.length : Int))), (14, .t (tB b))], [(1, .box [.t (tS Pv.encI e2.Order), .t (tI e2.First)])]⟩) rfl ?_ ?_ ?_))
  · exact TieO.run 3 rfl (.nil (.leaf ⟨rfl, .of rfl rfl⟩))
  · exact TieO.run 3 rfl (.nil (.leaf ⟨rfl, .of rfl rfl⟩))
  refine TieO.run 1 rfl (.bind 5 (fun b2 => ⟨[(1, .ptr 1 0), (3, .t (tI (e2.Order.length : Int))), (20, .t (tB b2))], [(1, .box [.t (tS Pv.encI e2.Order), .t (tI e2.First)])]⟩) (TieO.split 15 rfl ?_ ?_) fun b2 _ => ?_)
  · exact TieO.run 5 rfl (.nil (.leaf ⟨rfl, .of rfl rfl⟩))
  · exact TieO.run 2 rfl (.call _ rfl rfl rfl (tie_magnetoref23_Angle e2.First) (fun _ => rfl) fun v => .run 2 rfl (.nil (.leaf ⟨rfl, .of rfl rfl⟩)))
  refine TieO.nil (.cond rfl ?_ ?_)
  · exact TieS.seq (.region (.run 1 rfl (.nil (.ret ⟨.inl rfl, rfl⟩))))
  · refine TieS.skip (.seq (.seq (.region (.run 1 rfl ?_))))
    refine TieO.nil (.block (.loop (fun t => ⟨[(1, .ptr 1 0), (3, .t (tI (e2.Order.length : Int))), (4, .t (tI t))], [(1, .box [.t (tS Pv.encI e2.Order), .t (tI e2.First)])]⟩) (fun b e σ' => match b with | .inl t => e = .exit 0 ∧ Sub ⟨[], []⟩ σ' | .inr t => e = .ret ∧ retT tab σ' [.tmp 2] = some (((fun r => .t (tB r)) : Bool → T) t)) (.of rfl rfl) ?_ ?_))
    · intro i
      refine TieS.seq (.seq (.region (.run 3 rfl (.nil ?_))))
      refine TieS.cond rfl ?_ ?_
      · refine TieS.skip (.seq (.block (.seq (.seq ?_))))
        refine TieS.region (.run 3 rfl (.index rfl rfl rfl rfl rfl rfl rfl rfl (fun _ => rfl) fun x hx => .run 3 rfl (.bind 8 (fun b3 => ⟨[(1, .ptr 1 0), (3, .t (tI (e2.Order.length : Int))), (4, .t (tI i)), (40, .t (tB b3))], [(1, .box [.t (tS Pv.encI e2.Order), .t (tI e2.First)])]⟩) (TieO.split 32 rfl ?_ ?_) fun b3 _ => ?_)))
        · exact TieO.run 8 rfl (.nil (.leaf ⟨rfl, .of rfl rfl⟩))
        · exact TieO.run 3 rfl (.indexH hx rfl rfl rfl rfl rfl rfl rfl rfl (fun _ => rfl) (.run 4 rfl (.nil (.leaf ⟨rfl, .of rfl rfl⟩))))
        refine TieO.nil (.cond rfl ?_ ?_)
        · exact TieS.seq (.region (.run 1 rfl (.nil (.ret ⟨(fun h => by cases h), rfl, rfl⟩))))
        · refine TieS.skip (.seq (.region (.run 1 rfl (.nil ?_))))
          refine TieS.block (.loop (fun t => ⟨[(1, .ptr 1 0), (3, .t (tI (e2.Order.length : Int))), (4, .t (tI i)), (5, .t (tI t))], [(1, .box [.t (tS Pv.encI e2.Order), .t (tI e2.First)])]⟩) (fun b e σ' => match b with | .inl t => e = .exit 2 ∧ Sub ⟨[(1, .ptr 1 0), (3, .t (tI (e2.Order.length : Int))), (4, .t (tI i))], [(1, .box [.t (tS Pv.encI e2.Order), .t (tI e2.First)])]⟩ σ' | .inr t => e = .ret ∧ retT tab σ' [.tmp 2] = some (((fun r => .t (tB r)) : Bool → T) t)) (.of rfl rfl) ?_ ?_)
          · intro k
            refine TieS.seq (.seq (.region (.run 3 rfl (.nil ?_))))
            refine TieS.cond rfl ?_ ?_
            · refine TieS.skip (.seq (.block (.seq (TieX.pre fun x2 hx2 => ?_))))
              refine TieS.draw 11 [_, _, _, _, _, _, _, _, _, _, _] [(1, .ptr 1 0), (3, .t (tI (e2.Order.length : Int))), (4, .t (tI i)), (5, .t (tI k))] [(1, .box [.t (tS Pv.encI e2.Order), .t (tI e2.First)])] mixed (.of rfl rfl) rfl rfl rfl rfl (.cons (.quiet rfl rfl rfl) (.cons (.quiet rfl rfl rfl) (.cons (.quiet rfl rfl rfl) (.cons (.index hx2 rfl rfl rfl rfl rfl rfl (fun _ => rfl)) (.cons (.quiet rfl rfl rfl) (.cons (.quiet rfl rfl rfl) (.cons (.quiet rfl rfl rfl) (.cons (.quiet rfl rfl rfl) (.cons (.index hx rfl rfl rfl rfl rfl rfl (fun _ => rfl)) (.cons (.quiet rfl rfl rfl) (.cons (.quiet rfl rfl rfl) (.nil)))))))))))) (.nil (.cond rfl ?_ ?_))
              · exact TieS.seq (.region (.run 1 rfl (.nil (.ret ⟨(fun h => by cases h), rfl, rfl⟩))))
              · refine TieS.skip (.endb (.region (.run 3 rfl (.nil ?_))))
                exact TieS.leaf ⟨rfl, .of rfl rfl⟩
            · exact TieS.exitOut rfl ⟨(fun h => by cases h), rfl, .of rfl rfl⟩
          rintro (k2 | r2) e σ' _ hq
          · obtain ⟨rfl, hs⟩ := hq
            refine TieX.exit rfl (TieX.sub hs ?_)
            exact TieS.endb (.region (.run 3 rfl (.nil (.leaf ⟨rfl, .of rfl rfl⟩))))
          · obtain ⟨rfl, hs⟩ := hq
            exact TieX.ret ⟨(fun h => by cases h), rfl, hs⟩
      · exact TieS.exitOut rfl ⟨(fun h => by cases h), rfl, .of rfl rfl⟩
    rintro (i2 | r3) e σ' _ hq
    · obtain ⟨rfl, hs⟩ := hq
      refine TieX.exit rfl (TieX.sub hs ?_)
      exact TieS.seq (.region (.run 1 rfl (.nil (.ret ⟨.inl rfl, rfl⟩))))
    · obtain ⟨rfl, hs⟩ := hq
      exact TieX.ret ⟨.inl rfl, hs⟩
-- magneto/magnetoref34.New
set_option maxRecDepth 100000 in
theorem tie_magnetoref34_New : TieF Tryz.prog 50 [] (magnetoref34_New) (fun r => A_SProbe r) := by
  refine TieF.intro htab 3 [.cell 0 41] Tryz.call50 Tryz.func50 rfl rfl rfl (Nat.le_of_ble_eq_true rfl) fun w0 L => ?_
  refine TieS.seq (.region (.run 1 rfl (.nil (.seq ?_))))
  exact TieS.region (.makeO (enc := enc_SCell) 2008 (⟨0, 0⟩ : SCell) rfl rfl rfl rfl rfl rfl rfl rfl rfl rfl rfl rfl rfl fun l hl => .run 2 rfl (.nil (.ret ⟨.inl rfl, rfl⟩)))
-- magneto/magnetoref38.New
set_option maxRecDepth 100000 in
theorem tie_magnetoref38_New (e2 : SEngine) : TieF Tryz.prog 14 [A_SEngine e2] (magnetoref38_New e2) (fun r => .tup [A_SControls r.1, .t (tI r.2)]) := by
  refine TieF.intro htab 27 [.cell 2 45, .tmp 3] Tryz.call14 Tryz.func14 rfl rfl rfl (Nat.le_of_ble_eq_true rfl) fun w0 L => ?_
  refine TieS.seq (.region (.run 3 rfl (.nil (.seq ?_))))
  refine TieS.seq (.region (.run 1 rfl (.call _ rfl rfl rfl (tie_magnetoref23_Valid e2) (fun _ => rfl) fun v => .run 1 rfl ?_)))
  refine TieO.nil (.cond rfl ?_ ?_)
  · exact TieS.seq (.region (.run 3 rfl (.nil (.ret ⟨.inl rfl, rfl⟩))))
  · refine TieS.skip (.seq (.region (.call _ rfl rfl rfl (tie_magnetoref34_New) (fun _ => rfl) fun v2 => .run 4 rfl ?_)))
    refine TieO.nil (.seq (.seq (.region (.run 1 rfl ?_))))
    refine TieO.nil (.block (TieX.nilB 4 2192 95 3 [4] rfl rfl rfl rfl rfl (TieS.loop (fun t => ⟨[(1, .ptr 1 0), (2, .ptr 2 0), (4, .ptr 4 0), (5, .t (tI t.1))], [(1, .box [.t (tS Pv.encI e2.Order), .t (tI e2.First)]), (2, .box [.t (tI 0), .t (tI 0), .t (tB false), .t (tI 0), .t (.v (.slice none 0 0)), .t (tB false), .t (tB false), .t (tI 0), .t (tI 0), .t (.v (.slice none 0 0)), .t (tI 0), .t (tI 0), .t (tI 0)]), (4, .box (lset (B_SControls (⟨(⟨0, 0, false⟩ : SPedal), (⟨0⟩ : SIntegral), [], v2, 0, (⟨0, (-1)⟩ : SGrant)⟩ : SControls)) [(4, .own 2192)])), (2192, .rows 95 3 t.2.length (t.2.map enc_SKnock))]⟩) (fun b e σ' => match b with | .inl t => e = .exit 0 ∧ Sub ⟨[(2, .ptr 2 0), (4, .ptr 4 0)], [(2, .box [.t (tI 0), .t (tI 0), .t (tB false), .t (tI 0), .t (.v (.slice none 0 0)), .t (tB false), .t (tB false), .t (tI 0), .t (tI 0), .t (.v (.slice none 0 0)), .t (tI 0), .t (tI 0), .t (tI 0)]), (4, .box (lset (B_SControls (⟨(⟨0, 0, false⟩ : SPedal), (⟨0⟩ : SIntegral), [], v2, 0, (⟨0, (-1)⟩ : SGrant)⟩ : SControls)) [(4, .own 2192)])), (2192, .rows 95 3 t.2.length (t.2.map enc_SKnock))]⟩ σ' | .inr t => False) (.of rfl rfl) ?_ ?_)))
    · intro s
      refine TieS.seq (.seq (.region (.run 5 rfl (.nil ?_))))
      refine TieS.cond rfl ?_ ?_
      · refine TieS.skip (.seq (.block (.region (.run 4 rfl ?_))))
        refine TieO.appendY (id := 2192) (l := s.2) (r := ([(⟨0, 100, 0⟩ : SKnock)] : List SKnock)) (tm' := [(1, .ptr 1 0), (2, .ptr 2 0), (4, .ptr 4 0), (5, .t (tI s.1)), (13, .t (tI s.1)), (14, .ptr 1 0), (15, .t (tS Pv.encI e2.Order)), (16, .t (tI (e2.Order.length : Int))), (17, .t (tB (decide (s.1 < (e2.Order.length : Int))))), (20, .ptr 4 4), (22, .agg [.t (tI 0), .t (tI 100), .t (tI 0)]), (23, .own 23)]) (hp' := [(1, .box [.t (tS Pv.encI e2.Order), .t (tI e2.First)]), (2, .box [.t (tI 0), .t (tI 0), .t (tB false), .t (tI 0), .t (.v (.slice none 0 0)), .t (tB false), .t (tB false), .t (tI 0), .t (tI 0), .t (.v (.slice none 0 0)), .t (tI 0), .t (tI 0), .t (tI 0)]), (4, .box (lset (B_SControls (⟨(⟨0, 0, false⟩ : SPedal), (⟨0⟩ : SIntegral), [], v2, 0, (⟨0, (-1)⟩ : SGrant)⟩ : SControls)) [(4, .any)])), (23, .rows 95 3 ([(⟨0, 100, 0⟩ : SKnock)] : List SKnock).length (([(⟨0, 100, 0⟩ : SKnock)] : List SKnock).map enc_SKnock))]) rfl rfl rfl rfl rfl rfl rfl (fun _ => rfl) (fun _ => rfl) (.inl ⟨rfl, rfl⟩) (.inr ⟨_, rfl, rfl⟩) (.of rfl rfl) rfl rfl rfl fun l => .run 2 rfl (.nil (.endb (.region ?_)))
        exact TieO.run 3 rfl (.nil (.leaf ⟨rfl, .of rfl rfl⟩))
      · exact TieS.exitOut rfl ⟨(fun h => by cases h), rfl, .of rfl rfl⟩
    rintro (s2 | r) e σ' _ hq
    · obtain ⟨rfl, hs⟩ := hq
      refine TieX.exit rfl (TieX.sub hs ?_)
      exact TieS.seq (.region (.run 3 rfl (.nil (.ret ⟨.inl rfl, rfl⟩))))
    · exact hq.elim
-- slices.IndexFunc[[]int,int]
set_option maxRecDepth 100000 in
theorem tie_slices_IndexFunc_sint (s : List Int) (n2 : Nat) (cs : List (List Tree)) (f2 : Int → Option Bool) (h2 : ∀ x0, TieF Tryz.prog n2 ([.t (tI x0)] ++ cs.map T.el) (f2 x0) (fun r => .t (tB r))) : TieF Tryz.prog 206 [.t (tS Pv.encI s), .fz n2 cs] (slices_IndexFunc_sint s f2) (fun r => .t (tI r)) := by
  refine TieF.intro htab 19 [.tmp 4] Tryz.call206 Tryz.func206 rfl rfl rfl (Nat.le_of_ble_eq_true rfl) fun w0 L => ?_
  refine TieS.seq (.region (.run 1 rfl (.nil (.seq ?_))))
  refine TieS.seq (.region (.run 3 rfl (.nil (.block ?_))))
  refine TieS.loop (fun p => ⟨[(0, .t (tS Pv.encI s)), (1, .fz n2 cs), (7, .t (tI (s.length : Int))), (8, .t (tI p.1))], []⟩) (fun b e σ' => match b with | .inl t => e = .exit 0 ∧ Sub ⟨[], []⟩ σ' | .inr t => e = .ret ∧ retT tab σ' [.tmp 4] = some (((fun r => .t (tI r)) : Int → T) t)) (.of rfl rfl) ?_ ?_
  · rintro ⟨i, s2⟩
    refine TieS.seq (.region (.run 1 rfl (.nil (.seq ?_))))
    refine TieS.cond rfl ?_ ?_
    · refine TieS.skip (.seq (TieX.sub (σ' := ⟨[(0, .t (tS Pv.encI s)), (1, .fz n2 cs), (7, .t (tI (s.length : Int))), (8, .t (tI i))], []⟩) (.of rfl rfl) (TieS.bind (Q₁ := fun f e σ' => match f with | .next t => e = .normal ∧ Sub ⟨[(0, .t (tS Pv.encI s)), (1, .fz n2 cs), (7, .t (tI (s.length : Int))), (8, .t (tI i))], []⟩ σ' | .brk t => e = .exit 0 ∧ Sub ⟨[], []⟩ σ' | .ret t => e = .ret ∧ retT tab σ' [.tmp 4] = some (((fun r => .t (tI r)) : Int → T) t)) ?_ ?_)))
      · refine TieS.block (.seq (.region (.run 2 rfl (.nil ?_))))
        refine TieS.seq (.region (.run 3 rfl (.index rfl rfl rfl rfl rfl rfl rfl rfl (fun _ => rfl) fun x hx => .run 1 rfl ?_)))
        refine TieO.call _ rfl rfl rfl (h2 x) (fun _ => rfl) fun v => .nil (.cond rfl ?_ ?_)
        · exact TieS.seq (.region (.run 2 rfl (.nil (.ret ⟨rfl, rfl⟩))))
        · exact TieS.skip (.endb (.leaf ⟨rfl, .of rfl rfl⟩))
      rintro (t | t | t) e σ' _ hq
      · obtain ⟨rfl, hs⟩ := hq
        exact TieX.sub hs (TieS.region (.run 2 rfl (.nil (.leaf ⟨rfl, .of rfl rfl⟩))))
      · obtain ⟨rfl, hs⟩ := hq
        exact TieX.exitOut rfl ⟨(fun h => by cases h), rfl, hs⟩
      · obtain ⟨rfl, hs⟩ := hq
        exact TieX.ret ⟨(fun h => by cases h), rfl, hs⟩
    · exact TieS.exitOut rfl ⟨(fun h => by cases h), rfl, .of rfl rfl⟩
  rintro (s3 | r2) e σ' _ hq
  · obtain ⟨rfl, hs⟩ := hq
    refine TieX.exit rfl (TieX.sub hs ?_)
    exact TieS.seq (.region (.run 1 rfl (.nil (.ret ⟨.inl rfl, rfl⟩))))
  · obtain ⟨rfl, hs⟩ := hq
    exact TieX.ret ⟨.inl rfl, hs⟩
-- slices.ContainsFunc[[]int,int]
set_option maxRecDepth 100000 in
theorem tie_slices_ContainsFunc_sint (s : List Int) (n2 : Nat) (cs : List (List Tree)) (f2 : Int → Option Bool) (h2 : ∀ x0, TieF Tryz.prog n2 ([.t (tI x0)] ++ cs.map T.el) (f2 x0) (fun r => .t (tB r))) : TieF Tryz.prog 122 [.t (tS Pv.encI s), .fz n2 cs] (slices_ContainsFunc_sint s f2) (fun r => .t (tB r)) := by
  refine TieF.intro htab 9 [.tmp 4] Tryz.call122 Tryz.func122 rfl rfl rfl (Nat.le_of_ble_eq_true rfl) fun w0 L => ?_
  refine TieS.seq (.region (.run 1 rfl (.nil (.seq ?_))))
  refine TieS.region (.run 2 rfl (.call _ rfl rfl rfl (tie_slices_IndexFunc_sint s n2 cs f2 h2) (fun _ => rfl) fun v => .run 2 rfl (.nil ?_)))
  exact TieS.ret ⟨.inl rfl, rfl⟩
-- magneto/surface.element
set_option maxRecDepth 100000 in
theorem tie_surface_element (n2 : Int) : TieF Tryz.prog 148 [.t (tI n2)] (surface_element n2) (fun r => .t (tB r)) := by
  refine TieF.intro htab 9 [.tmp 2] Tryz.call148 Tryz.func148 rfl rfl rfl (Nat.le_of_ble_eq_true rfl) fun w0 L => ?_
  refine TieS.seq (.region (.run 1 rfl (.nil (.seq ?_))))
  refine TieS.region (.run 3 rfl (.selAnd (v := decide (n2 ≤ 1073741824)) 3 5 (fun b => ⟨[(8, .t (tB b))], []⟩) rfl ?_ ?_ ?_))
  · exact TieO.run 3 rfl (.nil (.leaf ⟨rfl, .of rfl rfl⟩))
  · exact TieO.run 3 rfl (.nil (.leaf ⟨rfl, .of rfl rfl⟩))
  exact TieO.run 1 rfl (.nil (.ret ⟨.inl rfl, rfl⟩))
-- magneto/surface.axis
set_option maxRecDepth 100000 in
theorem tie_surface_axis (l : List Int) : TieF Tryz.prog 146 [.t (tS Pv.encI l)] (surface_axis l) (fun r => .t (tB r)) := by
  refine TieF.intro htab 37 [.tmp 2] Tryz.call146 Tryz.func146 rfl rfl rfl (Nat.le_of_ble_eq_true rfl) fun w0 L => ?_
  refine TieS.seq (.region (.run 1 rfl (.nil (.seq ?_))))
  refine TieS.seq (.region (.run 4 rfl (.selOr (v := decide ((l.length : Int) > 32)) 4 8 (fun b => ⟨[(0, .t (tS Pv.encI l)), (12, .t (tB b))], []⟩) rfl ?_ ?_ ?_)))
  · exact TieO.run 4 rfl (.nil (.leaf ⟨rfl, .of rfl rfl⟩))
  · exact TieO.run 4 rfl (.nil (.leaf ⟨rfl, .of rfl rfl⟩))
  refine TieO.nil (.cond rfl ?_ ?_)
  · exact TieS.seq (.region (.run 1 rfl (.nil (.ret ⟨.inl rfl, rfl⟩))))
  · refine TieS.skip (.seq (.seq (.region (.run 3 rfl ?_))))
    refine TieO.nil (.block (.loop (fun p => ⟨[(0, .t (tS Pv.encI l)), (13, .t (tS Pv.encI l)), (14, .t (tI (l.length : Int))), (15, .t (tI p.1))], []⟩) (fun b e σ' => match b with | .inl t => e = .exit 0 ∧ Sub ⟨[], []⟩ σ' | .inr t => e = .ret ∧ retT tab σ' [.tmp 2] = some (((fun r => .t (tB r)) : Bool → T) t)) (.of rfl rfl) ?_ ?_))
    · rintro ⟨i, s⟩
      refine TieS.seq (.region (.run 1 rfl (.nil (.seq ?_))))
      refine TieS.cond rfl ?_ ?_
      · refine TieS.skip (.seq (TieX.sub (σ' := ⟨[(0, .t (tS Pv.encI l)), (13, .t (tS Pv.encI l)), (14, .t (tI (l.length : Int))), (15, .t (tI i))], []⟩) (.of rfl rfl) (TieS.bind (Q₁ := fun f e σ' => match f with | .next t => e = .normal ∧ Sub ⟨[(0, .t (tS Pv.encI l)), (13, .t (tS Pv.encI l)), (14, .t (tI (l.length : Int))), (15, .t (tI i))], []⟩ σ' | .brk t => e = .exit 0 ∧ Sub ⟨[], []⟩ σ' | .ret t => e = .ret ∧ retT tab σ' [.tmp 2] = some (((fun r => .t (tB r)) : Bool → T) t)) ?_ ?_)))
        · refine TieS.block (.seq (.region (.run 1 rfl (.index rfl rfl rfl rfl rfl rfl rfl rfl (fun _ => rfl) fun x hx => ?_))))
          refine TieO.run 3 rfl (.nil (.seq (.region (.run 1 rfl ?_))))
          refine TieO.call _ rfl rfl rfl (tie_surface_element x) (fun _ => rfl) fun v => .run 2 rfl (.bind 12 (fun b3 => ⟨[(0, .t (tS Pv.encI l)), (13, .t (tS Pv.encI l)), (14, .t (tI (l.length : Int))), (15, .t (tI i)), (35, .t (tB b3))], []⟩) (TieO.split 23 rfl ?_ ?_) fun b3 _ => ?_)
          · exact TieO.run 12 rfl (.nil (.leaf ⟨rfl, .of rfl rfl⟩))
          · refine TieO.run 3 rfl (.bind 8 (fun b2 => ⟨[(0, .t (tS Pv.encI l)), (13, .t (tS Pv.encI l)), (14, .t (tI (l.length : Int))), (15, .t (tI i)), (23, .t (tB false)), (34, .t (tB b2))], []⟩) (TieO.split 26 rfl ?_ ?_) fun b2 _ => ?_)
            · exact TieO.run 4 rfl (.index rfl rfl rfl rfl rfl rfl rfl rfl (fun _ => rfl) fun x2 hx2 => .run 3 rfl (.nil (.leaf ⟨rfl, .of rfl rfl⟩)))
            · exact TieO.run 8 rfl (.nil (.leaf ⟨rfl, .of rfl rfl⟩))
            exact TieO.run 1 rfl (.nil (.leaf ⟨rfl, .of rfl rfl⟩))
          refine TieO.nil (.cond rfl ?_ ?_)
          · exact TieS.seq (.region (.run 1 rfl (.nil (.ret ⟨rfl, rfl⟩))))
          · exact TieS.skip (.endb (.leaf ⟨rfl, .of rfl rfl⟩))
        rintro (t | t | t) e σ' _ hq
        · obtain ⟨rfl, hs⟩ := hq
          exact TieX.sub hs (TieS.region (.run 2 rfl (.nil (.leaf ⟨rfl, .of rfl rfl⟩))))
        · obtain ⟨rfl, hs⟩ := hq
          exact TieX.exitOut rfl ⟨(fun h => by cases h), rfl, hs⟩
        · obtain ⟨rfl, hs⟩ := hq
          exact TieX.ret ⟨(fun h => by cases h), rfl, hs⟩
      · exact TieS.exitOut rfl ⟨(fun h => by cases h), rfl, .of rfl rfl⟩
    rintro (s2 | r2) e σ' _ hq
    · obtain ⟨rfl, hs⟩ := hq
      refine TieX.exit rfl (TieX.sub hs ?_)
      exact TieS.seq (.region (.run 1 rfl (.nil (.ret ⟨.inl rfl, rfl⟩))))
    · obtain ⟨rfl, hs⟩ := hq
      exact TieX.ret ⟨.inl rfl, hs⟩
-- magneto/surface.Valid$1
set_option maxRecDepth 100000 in
theorem tie_surface_Valid_1 (z : Int) : TieF Tryz.prog 147 [.t (tI z)] (surface_Valid_1 z) (fun r => .t (tB r)) := by
  refine TieF.intro htab 6 [.tmp 2] Tryz.call147 Tryz.func147 rfl rfl rfl (Nat.le_of_ble_eq_true rfl) fun w0 L => ?_
  refine TieS.seq (.region (.run 1 rfl (.nil (.seq ?_))))
  refine TieS.region (.run 1 rfl (.call _ rfl rfl rfl (tie_surface_element z) (fun _ => rfl) fun v => .run 2 rfl (.nil ?_)))
  exact TieS.ret ⟨.inl rfl, rfl⟩
-- magneto/surface.Valid
set_option maxRecDepth 100000 in
theorem tie_surface_Valid (m2 : SMap) : TieF Tryz.prog 53 [A_SMap m2] (surface_Valid m2) (fun r => .t (tB r)) := by
  refine TieF.intro htab 42 [.tmp 2] Tryz.call53 Tryz.func53 rfl rfl rfl (Nat.le_of_ble_eq_true rfl) fun w0 L => ?_
  refine TieS.seq (.region (.run 2 rfl (.nil (.seq ?_))))
  refine TieS.seq (.region (.run 2 rfl (.call _ rfl rfl rfl (tie_surface_axis m2.X) (fun _ => rfl) fun v => .run 2 rfl ?_)))
  refine TieO.bind 5 (fun b2 => ⟨[(1, .ptr 1 0), (14, .t (tB b2))], [(1, .box [.t (tS Pv.encI m2.X), .t (tS Pv.encI m2.Y), .t (tS (Pv.encS Pv.encI) m2.Z)])]⟩) (TieO.split 9 rfl ?_ ?_) fun b2 _ => ?_
  · exact TieO.run 5 rfl (.nil (.leaf ⟨rfl, .of rfl rfl⟩))
  · exact TieO.run 2 rfl (.call _ rfl rfl rfl (tie_surface_axis m2.Y) (fun _ => rfl) fun v2 => .run 2 rfl (.nil (.leaf ⟨rfl, .of rfl rfl⟩)))
  refine TieO.run 1 rfl (.selOr (v := ((m2.Z.length : Int) != (m2.X.length : Int))) 8 15 (fun b => ⟨[(1, .ptr 1 0), (23, .t (tB b))], [(1, .box [.t (tS Pv.encI m2.X), .t (tS Pv.encI m2.Y), .t (tS (Pv.encS Pv.encI) m2.Z)])]⟩) rfl ?_ ?_ ?_)
  · exact TieO.run 8 rfl (.nil (.leaf ⟨rfl, .of rfl rfl⟩))
  · exact TieO.run 8 rfl (.nil (.leaf ⟨rfl, .of rfl rfl⟩))
  refine TieO.nil (.cond rfl ?_ ?_)
  · exact TieS.seq (.region (.run 1 rfl (.nil (.ret ⟨.inl rfl, rfl⟩))))
  · refine TieS.skip (.seq (.seq (.region (.run 4 rfl ?_))))
    refine TieO.nil (.block (.loop (fun p => ⟨[(1, .ptr 1 0), (25, .t (tS (Pv.encS Pv.encI) m2.Z)), (26, .t (tI (m2.Z.length : Int))), (27, .t (tI p.1))], [(1, .box [.t (tS Pv.encI m2.X), .t (tS Pv.encI m2.Y), .t (tS (Pv.encS Pv.encI) m2.Z)])]⟩) (fun b e σ' => match b with | .inl t => e = .exit 0 ∧ Sub ⟨[], []⟩ σ' | .inr t => e = .ret ∧ retT tab σ' [.tmp 2] = some (((fun r => .t (tB r)) : Bool → T) t)) (.of rfl rfl) ?_ ?_))
    · rintro ⟨i, s⟩
      refine TieS.seq (.region (.run 1 rfl (.nil (.seq ?_))))
      refine TieS.cond rfl ?_ ?_
      · refine TieS.skip (.seq (TieX.pre fun x hx => TieX.sub (σ' := ⟨[(1, .ptr 1 0), (25, .t (tS (Pv.encS Pv.encI) m2.Z)), (26, .t (tI (m2.Z.length : Int))), (27, .t (tI i))], [(1, .box [.t (tS Pv.encI m2.X), .t (tS Pv.encI m2.Y), .t (tS (Pv.encS Pv.encI) m2.Z)])]⟩) (.of rfl rfl) (TieS.bind (Q₁ := fun f e σ' => match f with | .next t => e = .normal ∧ Sub ⟨[(1, .ptr 1 0), (25, .t (tS (Pv.encS Pv.encI) m2.Z)), (26, .t (tI (m2.Z.length : Int))), (27, .t (tI i))], [(1, .box [.t (tS Pv.encI m2.X), .t (tS Pv.encI m2.Y), .t (tS (Pv.encS Pv.encI) m2.Z)])]⟩ σ' | .brk t => e = .exit 0 ∧ Sub ⟨[], []⟩ σ' | .ret t => e = .ret ∧ retT tab σ' [.tmp 2] = some (((fun r => .t (tB r)) : Bool → T) t)) ?_ ?_)))
        · refine TieS.block (.seq (.region (.indexH hx rfl rfl rfl rfl rfl rfl rfl rfl (fun _ => rfl) (.run 2 rfl ?_))))
          refine TieO.nil (.seq (.region (.run 7 rfl (.bind 3 (fun b3 => ⟨[(1, .ptr 1 0), (25, .t (tS (Pv.encS Pv.encI) m2.Z)), (26, .t (tI (m2.Z.length : Int))), (27, .t (tI i)), (40, .t (tB b3))], [(1, .box [.t (tS Pv.encI m2.X), .t (tS Pv.encI m2.Y), .t (tS (Pv.encS Pv.encI) m2.Z)])]⟩) (TieO.split 37 rfl ?_ ?_) fun b3 _ => ?_))))
          · exact TieO.run 3 rfl (.nil (.leaf ⟨rfl, .of rfl rfl⟩))
          · exact TieO.run 1 rfl (.call _ rfl rfl rfl (tie_slices_ContainsFunc_sint x 147 [] surface_Valid_1 tie_surface_Valid_1) (fun _ => rfl) fun v3 => .run 1 rfl (.nil (.leaf ⟨rfl, .of rfl rfl⟩)))
          refine TieO.nil (.cond rfl ?_ ?_)
          · exact TieS.seq (.region (.run 1 rfl (.nil (.ret ⟨rfl, rfl⟩))))
          · exact TieS.skip (.endb (.leaf ⟨rfl, .of rfl rfl⟩))
        rintro (t | t | t) e σ' _ hq
        · obtain ⟨rfl, hs⟩ := hq
          exact TieX.sub hs (TieS.region (.run 2 rfl (.nil (.leaf ⟨rfl, .of rfl rfl⟩))))
        · obtain ⟨rfl, hs⟩ := hq
          exact TieX.exitOut rfl ⟨(fun h => by cases h), rfl, hs⟩
        · obtain ⟨rfl, hs⟩ := hq
          exact TieX.ret ⟨(fun h => by cases h), rfl, hs⟩
      · exact TieS.exitOut rfl ⟨(fun h => by cases h), rfl, .of rfl rfl⟩
    rintro (s2 | r2) e σ' _ hq
    · obtain ⟨rfl, hs⟩ := hq
      refine TieX.exit rfl (TieX.sub hs ?_)
      exact TieS.seq (.region (.run 1 rfl (.nil (.ret ⟨.inl rfl, rfl⟩))))
    · obtain ⟨rfl, hs⟩ := hq
      exact TieX.ret ⟨.inl rfl, hs⟩
-- magneto/curve.far
set_option maxRecDepth 100000 in
theorem tie_curve_far (n2 : Int) : TieF Tryz.prog 150 [.t (tI n2)] (curve_far n2) (fun r => .t (tB r)) := by
  refine TieF.intro htab 9 [.tmp 2] Tryz.call150 Tryz.func150 rfl rfl rfl (Nat.le_of_ble_eq_true rfl) fun w0 L => ?_
  refine TieS.seq (.region (.run 1 rfl (.nil (.seq ?_))))
  refine TieS.region (.run 3 rfl (.selOr (v := decide (n2 > 1073741824)) 3 5 (fun b => ⟨[(8, .t (tB b))], []⟩) rfl ?_ ?_ ?_))
  · exact TieO.run 3 rfl (.nil (.leaf ⟨rfl, .of rfl rfl⟩))
  · exact TieO.run 3 rfl (.nil (.leaf ⟨rfl, .of rfl rfl⟩))
  exact TieO.run 1 rfl (.nil (.ret ⟨.inl rfl, rfl⟩))
-- magneto/curve.axis
set_option maxRecDepth 100000 in
theorem tie_curve_axis (l : List Int) : TieF Tryz.prog 149 [.t (tS Pv.encI l)] (curve_axis l) (fun r => .t (tB r)) := by
  refine TieF.intro htab 33 [.tmp 2] Tryz.call149 Tryz.func149 rfl rfl rfl (Nat.le_of_ble_eq_true rfl) fun w0 L => ?_
  refine TieS.seq (.region (.run 1 rfl (.nil (.seq ?_))))
  refine TieS.seq (.region (.run 4 rfl (.selOr (v := decide ((l.length : Int) > 32)) 4 7 (fun b => ⟨[(0, .t (tS Pv.encI l)), (11, .t (tB b))], []⟩) rfl ?_ ?_ ?_)))
  · exact TieO.run 4 rfl (.nil (.leaf ⟨rfl, .of rfl rfl⟩))
  · exact TieO.run 4 rfl (.nil (.leaf ⟨rfl, .of rfl rfl⟩))
  refine TieO.run 1 rfl (.bind 3 (fun b2 => ⟨[(0, .t (tS Pv.encI l)), (15, .t (tB b2))], []⟩) (TieO.split 12 rfl ?_ ?_) fun b2 _ => ?_)
  · exact TieO.run 3 rfl (.nil (.leaf ⟨rfl, .of rfl rfl⟩))
  · exact TieO.run 1 rfl (.call _ rfl rfl rfl (tie_slices_ContainsFunc_sint l 150 [] curve_far tie_curve_far) (fun _ => rfl) fun v => .run 1 rfl (.nil (.leaf ⟨rfl, .of rfl rfl⟩)))
  refine TieO.nil (.cond rfl ?_ ?_)
  · exact TieS.seq (.region (.run 1 rfl (.nil (.ret ⟨.inl rfl, rfl⟩))))
  · refine TieS.skip (.seq (.seq (.region (.run 4 rfl ?_))))
    refine TieO.nil (.block (.loop (fun p => ⟨[(0, .t (tS Pv.encI l)), (18, .t (tI (w64 ((l.length : Int) - 1)))), (19, .t (tI p.1))], []⟩) (fun b e σ' => match b with | .inl t => e = .exit 0 ∧ Sub ⟨[], []⟩ σ' | .inr t => e = .ret ∧ retT tab σ' [.tmp 2] = some (((fun r => .t (tB r)) : Bool → T) t)) (.of rfl rfl) ?_ ?_))
    · rintro ⟨i, s⟩
      refine TieS.seq (.region (.run 1 rfl (.nil (.seq ?_))))
      refine TieS.cond rfl ?_ ?_
      · refine TieS.skip (.seq (TieX.sub (σ' := ⟨[(0, .t (tS Pv.encI l)), (18, .t (tI (w64 ((l.length : Int) - 1)))), (19, .t (tI i))], []⟩) (.of rfl rfl) (TieS.bind (Q₁ := fun f e σ' => match f with | .next t => e = .normal ∧ Sub ⟨[(0, .t (tS Pv.encI l)), (18, .t (tI (w64 ((l.length : Int) - 1)))), (19, .t (tI i))], []⟩ σ' | .brk t => e = .exit 0 ∧ Sub ⟨[], []⟩ σ' | .ret t => e = .ret ∧ retT tab σ' [.tmp 2] = some (((fun r => .t (tB r)) : Bool → T) t)) ?_ ?_)))
        · refine TieS.block (.seq (.region (.run 2 rfl (.nil ?_))))
          refine TieS.seq (TieX.pre fun x hx => TieX.pre fun x2 hx2 => TieS.draw 10 [_, _, _, _, _, _, _, _, _, _] [(0, .t (tS Pv.encI l)), (3, .t (tI i)), (18, .t (tI (w64 ((l.length : Int) - 1)))), (19, .t (tI i))] [] mixed (.of rfl rfl) rfl rfl rfl rfl (.cons (.quiet rfl rfl rfl) (.cons (.quiet rfl rfl rfl) (.cons (.index hx rfl rfl rfl rfl rfl rfl (fun _ => rfl)) (.cons (.quiet rfl rfl rfl) (.cons (.quiet rfl rfl rfl) (.cons (.quiet rfl rfl rfl) (.cons (.quiet rfl rfl rfl) (.cons (.index hx2 rfl rfl rfl rfl rfl rfl (fun _ => rfl)) (.cons (.quiet rfl rfl rfl) (.cons (.quiet rfl rfl rfl) (.nil))))))))))) (.nil ?_))
          refine TieS.cond rfl ?_ ?_
          · exact TieS.seq (.region (.run 1 rfl (.nil (.ret ⟨rfl, rfl⟩))))
          · exact TieS.skip (.endb (.leaf ⟨rfl, .of rfl rfl⟩))
        rintro (t | t | t) e σ' _ hq
        · obtain ⟨rfl, hs⟩ := hq
          exact TieX.sub hs (TieS.region (.run 2 rfl (.nil (.leaf ⟨rfl, .of rfl rfl⟩))))
        · obtain ⟨rfl, hs⟩ := hq
          exact TieX.exitOut rfl ⟨(fun h => by cases h), rfl, hs⟩
        · obtain ⟨rfl, hs⟩ := hq
          exact TieX.ret ⟨(fun h => by cases h), rfl, hs⟩
      · exact TieS.exitOut rfl ⟨(fun h => by cases h), rfl, .of rfl rfl⟩
    rintro (s2 | r2) e σ' _ hq
    · obtain ⟨rfl, hs⟩ := hq
      refine TieX.exit rfl (TieX.sub hs ?_)
      exact TieS.seq (.region (.run 1 rfl (.nil (.ret ⟨.inl rfl, rfl⟩))))
    · obtain ⟨rfl, hs⟩ := hq
      exact TieX.ret ⟨.inl rfl, hs⟩
-- magneto/curve.Valid
set_option maxRecDepth 100000 in
theorem tie_curve_Valid (c : SCurve) : TieF Tryz.prog 54 [A_SCurve c] (curve_Valid c) (fun r => .t (tB r)) := by
  refine TieF.intro htab 21 [.tmp 2] Tryz.call54 Tryz.func54 rfl rfl rfl (Nat.le_of_ble_eq_true rfl) fun w0 L => ?_
  refine TieS.seq (.region (.run 2 rfl (.nil (.seq ?_))))
  refine TieS.region (.run 8 rfl (.bind 4 (fun b2 => ⟨[(1, .ptr 1 0), (14, .t (tB b2))], [(1, .box [.t (tS Pv.encI c.X), .t (tS Pv.encI c.Y)])]⟩) (TieO.split 10 rfl ?_ ?_) fun b2 _ => ?_))
  · exact TieO.run 2 rfl (.call _ rfl rfl rfl (tie_curve_axis c.X) (fun _ => rfl) fun v => .run 1 rfl (.nil (.leaf ⟨rfl, .of rfl rfl⟩)))
  · exact TieO.run 4 rfl (.nil (.leaf ⟨rfl, .of rfl rfl⟩))
  refine TieO.run 1 rfl (.bind 5 (fun b3 => ⟨[(20, .t (tB b3))], []⟩) (TieO.split 15 rfl ?_ ?_) fun b3 _ => ?_)
  · exact TieO.run 2 rfl (.call _ rfl rfl rfl (tie_slices_ContainsFunc_sint c.Y 150 [] curve_far tie_curve_far) (fun _ => rfl) fun v2 => .run 2 rfl (.nil (.leaf ⟨rfl, .of rfl rfl⟩)))
  · exact TieO.run 5 rfl (.nil (.leaf ⟨rfl, .of rfl rfl⟩))
  exact TieO.run 1 rfl (.nil (.ret ⟨.inl rfl, rfl⟩))
-- cmp.isNaN[int]
set_option maxRecDepth 100000 in
theorem tie_cmp_isNaN_int (x : Int) : TieF Tryz.prog 257 [.t (tI x)] (cmp_isNaN_int x) (fun r => .t (tB r)) := by
  refine TieF.intro htab 6 [.tmp 2] Tryz.call257 Tryz.func257 rfl rfl rfl (Nat.le_of_ble_eq_true rfl) fun w0 L => ?_
  refine TieS.seq (.region (.run 1 rfl (.nil (.seq ?_))))
  exact TieS.region (.run 4 rfl (.nil (.ret ⟨.inl rfl, rfl⟩)))
-- cmp.Less[int]
set_option maxRecDepth 100000 in
theorem tie_cmp_Less_int (x : Int) (y : Int) : TieF Tryz.prog 217 [.t (tI x), .t (tI y)] (cmp_Less_int x y) (fun r => .t (tB r)) := by
  refine TieF.intro htab 17 [.tmp 4] Tryz.call217 Tryz.func217 rfl rfl rfl (Nat.le_of_ble_eq_true rfl) fun w0 L => ?_
  refine TieS.seq (.region (.run 1 rfl (.nil (.seq ?_))))
  refine TieS.region (.run 1 rfl (.call _ rfl rfl rfl (tie_cmp_isNaN_int x) (fun _ => rfl) fun v => .run 1 rfl (.bind 4 (fun b2 => ⟨[(0, .t (tI x)), (1, .t (tI y)), (11, .t (tB b2))], []⟩) (TieO.split 7 rfl ?_ ?_) fun b2 _ => ?_)))
  · exact TieO.run 1 rfl (.call _ rfl rfl rfl (tie_cmp_isNaN_int y) (fun _ => rfl) fun v2 => .run 2 rfl (.nil (.leaf ⟨rfl, .of rfl rfl⟩)))
  · exact TieO.run 4 rfl (.nil (.leaf ⟨rfl, .of rfl rfl⟩))
  refine TieO.run 1 rfl (.selOr (v := decide (x < y)) 4 12 (fun b => ⟨[(16, .t (tB b))], []⟩) rfl ?_ ?_ ?_)
  · exact TieO.run 4 rfl (.nil (.leaf ⟨rfl, .of rfl rfl⟩))
  · exact TieO.run 4 rfl (.nil (.leaf ⟨rfl, .of rfl rfl⟩))
  exact TieO.run 1 rfl (.nil (.ret ⟨.inl rfl, rfl⟩))
-- slices.IsSorted[[]int,int]
set_option maxRecDepth 100000 in
theorem tie_slices_IsSorted_sint (x : List Int) : TieF Tryz.prog 139 [.t (tS Pv.encI x)] (slices_IsSorted_sint x) (fun r => .t (tB r)) := by
  refine TieF.intro htab 21 [.tmp 2] Tryz.call139 Tryz.func139 rfl rfl rfl (Nat.le_of_ble_eq_true rfl) fun w0 L => ?_
  refine TieS.seq (.region (.run 1 rfl (.nil (.seq ?_))))
  refine TieS.seq (.region (.run 4 rfl (.nil (.block ?_))))
  refine TieS.loop (fun t => ⟨[(0, .t (tS Pv.encI x)), (3, .t (tI t))], []⟩) (fun b e σ' => match b with | .inl t => e = .exit 0 ∧ Sub ⟨[], []⟩ σ' | .inr t => e = .ret ∧ retT tab σ' [.tmp 2] = some (((fun r => .t (tB r)) : Bool → T) t)) (.of rfl rfl) ?_ ?_
  · intro i
    refine TieS.seq (.seq (.region (.run 2 rfl (.nil ?_))))
    refine TieS.cond rfl ?_ ?_
    · refine TieS.skip (.seq (.block (.seq (TieX.pre fun x2 hx2 => ?_))))
      refine TieX.pre fun x3 hx3 => TieX.pre fun v hv => TieS.draw 10 [_, _, _, _, _, _, _, _, _, _] [(0, .t (tS Pv.encI x)), (3, .t (tI i))] [] mixed (.of rfl rfl) rfl rfl rfl rfl (.cons (.quiet rfl rfl rfl) (.cons (.quiet rfl rfl rfl) (.cons (.index hx2 rfl rfl rfl rfl rfl rfl (fun _ => rfl)) (.cons (.quiet rfl rfl rfl) (.cons (.quiet rfl rfl rfl) (.cons (.quiet rfl rfl rfl) (.cons (.quiet rfl rfl rfl) (.cons (.index hx3 rfl rfl rfl rfl rfl rfl (fun _ => rfl)) (.cons (.quiet rfl rfl rfl) (.cons (.callV (tie_cmp_Less_int x2 x3) hv rfl rfl rfl rfl) (.nil))))))))))) (.nil (.cond rfl ?_ ?_))
      · exact TieS.seq (.region (.run 1 rfl (.nil (.ret ⟨(fun h => by cases h), rfl, rfl⟩))))
      · refine TieS.skip (.endb (.region (.run 3 rfl (.nil ?_))))
        exact TieS.leaf ⟨rfl, .of rfl rfl⟩
    · exact TieS.exitOut rfl ⟨(fun h => by cases h), rfl, .of rfl rfl⟩
  rintro (i2 | r2) e σ' _ hq
  · obtain ⟨rfl, hs⟩ := hq
    refine TieX.exit rfl (TieX.sub hs ?_)
    exact TieS.seq (.region (.run 1 rfl (.nil (.ret ⟨.inl rfl, rfl⟩))))
  · obtain ⟨rfl, hs⟩ := hq
    exact TieX.ret ⟨.inl rfl, hs⟩
-- magneto/air.between
set_option maxRecDepth 100000 in
theorem tie_air_between (n2 : Int) (low : Int) (high : Int) : TieF Tryz.prog 140 [.t (tI n2), .t (tI low), .t (tI high)] (air_between n2 low high) (fun r => .t (tB r)) := by
  refine TieF.intro htab 15 [.tmp 6] Tryz.call140 Tryz.func140 rfl rfl rfl (Nat.le_of_ble_eq_true rfl) fun w0 L => ?_
  refine TieS.seq (.region (.run 1 rfl (.nil (.seq ?_))))
  refine TieS.region (.run 4 rfl (.selAnd (v := decide (n2 ≤ high)) 4 10 (fun b => ⟨[(14, .t (tB b))], []⟩) rfl ?_ ?_ ?_))
  · exact TieO.run 4 rfl (.nil (.leaf ⟨rfl, .of rfl rfl⟩))
  · exact TieO.run 4 rfl (.nil (.leaf ⟨rfl, .of rfl rfl⟩))
  exact TieO.run 1 rfl (.nil (.ret ⟨.inl rfl, rfl⟩))
-- magneto/air.Valid$1
set_option maxRecDepth 100000 in
theorem tie_air_Valid_1 (y : Int) : TieF Tryz.prog 141 [.t (tI y)] (air_Valid_1 y) (fun r => .t (tB r)) := by
  refine TieF.intro htab 6 [.tmp 2] Tryz.call141 Tryz.func141 rfl rfl rfl (Nat.le_of_ble_eq_true rfl) fun w0 L => ?_
  refine TieS.seq (.region (.run 1 rfl (.nil (.seq ?_))))
  refine TieS.region (.run 1 rfl (.call _ rfl rfl rfl (tie_air_between y 100 3000) (fun _ => rfl) fun v => .run 2 rfl (.nil ?_)))
  exact TieS.ret ⟨.inl rfl, rfl⟩
-- magneto/air.Valid
set_option maxRecDepth 100000 in
theorem tie_air_Valid (t2 : STables) : TieF Tryz.prog 51 [A_STables t2] (air_Valid t2) (fun r => .t (tB r)) := by
  refine TieF.intro htab 49 [.tmp 2] Tryz.call51 Tryz.func51 rfl rfl rfl (Nat.le_of_ble_eq_true rfl) fun w0 L => ?_
  refine TieS.seq (.region (.run 2 rfl (.nil (.seq ?_))))
  refine TieS.seq (.region (.run 2 rfl (.call _ rfl rfl rfl (tie_surface_Valid t2.Air) (fun _ => rfl) fun v => .run 2 rfl ?_)))
  refine TieO.bind 5 (fun b2 => ⟨[(1, .ptr 1 0), (14, .t (tB b2))], [(1, .box (B_STables t2))]⟩) (TieO.split 9 rfl ?_ ?_) fun b2 _ => ?_
  · exact TieO.run 5 rfl (.nil (.leaf ⟨rfl, .of rfl rfl⟩))
  · exact TieO.run 2 rfl (.call _ rfl rfl rfl (tie_curve_Valid t2.AirTemp) (fun _ => rfl) fun v2 => .run 2 rfl (.nil (.leaf ⟨rfl, .of rfl rfl⟩)))
  refine TieO.nil (.cond rfl ?_ ?_)
  · exact TieS.seq (.region (.run 1 rfl (.nil (.ret ⟨.inl rfl, rfl⟩))))
  · refine TieS.skip (.seq (.seq (.region (.run 5 rfl ?_))))
    refine TieO.nil (.block (.loop (fun p => ⟨[(1, .ptr 1 0), (17, .t (tS (Pv.encS Pv.encI) t2.Air.Z)), (18, .t (tI (t2.Air.Z.length : Int))), (19, .t (tI p.1))], [(1, .box (B_STables t2))]⟩) (fun b e σ' => match b with | .inl t => e = .exit 0 ∧ Sub ⟨[(1, .ptr 1 0)], [(1, .box (B_STables t2))]⟩ σ' | .inr t => e = .ret ∧ retT tab σ' [.tmp 2] = some (((fun r => .t (tB r)) : Bool → T) t)) (.of rfl rfl) ?_ ?_))
    · rintro ⟨i, s⟩
      refine TieS.seq (.region (.run 1 rfl (.nil (.seq ?_))))
      refine TieS.cond rfl ?_ ?_
      · refine TieS.skip (.seq (TieX.pre fun x hx => TieX.sub (σ' := ⟨[(1, .ptr 1 0), (17, .t (tS (Pv.encS Pv.encI) t2.Air.Z)), (18, .t (tI (t2.Air.Z.length : Int))), (19, .t (tI i))], [(1, .box (B_STables t2))]⟩) (.of rfl rfl) (TieS.bind (Q₁ := fun f e σ' => match f with | .next t => e = .normal ∧ Sub ⟨[(1, .ptr 1 0), (17, .t (tS (Pv.encS Pv.encI) t2.Air.Z)), (18, .t (tI (t2.Air.Z.length : Int))), (19, .t (tI i))], [(1, .box (B_STables t2))]⟩ σ' | .brk t => e = .exit 0 ∧ Sub ⟨[(1, .ptr 1 0)], [(1, .box (B_STables t2))]⟩ σ' | .ret t => e = .ret ∧ retT tab σ' [.tmp 2] = some (((fun r => .t (tB r)) : Bool → T) t)) ?_ ?_)))
        · refine TieS.block (.seq (.region (.indexH hx rfl rfl rfl rfl rfl rfl rfl rfl (fun _ => rfl) (.run 2 rfl ?_))))
          refine TieO.nil (.seq (.region (.run 1 rfl (.call _ rfl rfl rfl (tie_slices_IsSorted_sint x) (fun _ => rfl) fun v3 => ?_))))
          refine TieO.run 2 rfl (.bind 6 (fun b3 => ⟨[(1, .ptr 1 0), (4, .t (tS Pv.encI x)), (17, .t (tS (Pv.encS Pv.encI) t2.Air.Z)), (18, .t (tI (t2.Air.Z.length : Int))), (19, .t (tI i)), (32, .t (tB b3))], [(1, .box (B_STables t2))]⟩) (TieO.split 26 rfl ?_ ?_) fun b3 _ => ?_)
          · exact TieO.run 6 rfl (.nil (.leaf ⟨rfl, .of rfl rfl⟩))
          · refine TieO.run 1 rfl (.index rfl rfl rfl rfl rfl rfl rfl rfl (fun _ => rfl) fun x2 hx2 => .run 1 rfl (.call _ rfl rfl rfl (tie_air_between x2 0 1048576) (fun _ => rfl) fun v4 => .run 2 rfl ?_))
            exact TieO.nil (.leaf ⟨rfl, .of rfl rfl⟩)
          refine TieO.run 1 rfl (.bind 9 (fun b4 => ⟨[(1, .ptr 1 0), (17, .t (tS (Pv.encS Pv.encI) t2.Air.Z)), (18, .t (tI (t2.Air.Z.length : Int))), (19, .t (tI i)), (42, .t (tB b4))], [(1, .box (B_STables t2))]⟩) (TieO.split 33 rfl ?_ ?_) fun b4 _ => ?_)
          · exact TieO.run 9 rfl (.nil (.leaf ⟨rfl, .of rfl rfl⟩))
          · refine TieO.run 4 rfl (.index rfl rfl rfl rfl rfl rfl rfl rfl (fun _ => rfl) fun x3 hx3 => .run 1 rfl (.call _ rfl rfl rfl (tie_air_between x3 0 1048576) (fun _ => rfl) fun v5 => .run 2 rfl ?_))
            exact TieO.nil (.leaf ⟨rfl, .of rfl rfl⟩)
          refine TieO.nil (.cond rfl ?_ ?_)
          · exact TieS.seq (.region (.run 1 rfl (.nil (.ret ⟨rfl, rfl⟩))))
          · exact TieS.skip (.endb (.leaf ⟨rfl, .of rfl rfl⟩))
        rintro (t | t | t) e σ' _ hq
        · obtain ⟨rfl, hs⟩ := hq
          exact TieX.sub hs (TieS.region (.run 2 rfl (.nil (.leaf ⟨rfl, .of rfl rfl⟩))))
        · obtain ⟨rfl, hs⟩ := hq
          exact TieX.exitOut rfl ⟨(fun h => by cases h), rfl, hs⟩
        · obtain ⟨rfl, hs⟩ := hq
          exact TieX.ret ⟨(fun h => by cases h), rfl, hs⟩
      · exact TieS.exitOut rfl ⟨(fun h => by cases h), rfl, .of rfl rfl⟩
    rintro (s2 | r2) e σ' _ hq
    · obtain ⟨rfl, hs⟩ := hq
      refine TieX.exit rfl (TieX.sub hs ?_)
      refine TieS.seq (.region (.run 3 rfl (.call _ rfl rfl rfl (tie_slices_ContainsFunc_sint t2.AirTemp.Y 141 [] air_Valid_1 tie_air_Valid_1) (fun _ => rfl) fun v6 => .run 2 rfl ?_)))
      exact TieO.nil (.ret ⟨.inl rfl, rfl⟩)
    · obtain ⟨rfl, hs⟩ := hq
      exact TieX.ret ⟨.inl rfl, hs⟩
-- magneto/torque.within
set_option maxRecDepth 100000 in
theorem tie_torque_within (x : Int) (low : Int) (high : Int) : TieF Tryz.prog 116 [.t (tI x), .t (tI low), .t (tI high)] (torque_within x low high) (fun r => .t (tB r)) := by
  refine TieF.intro htab 15 [.tmp 6] Tryz.call116 Tryz.func116 rfl rfl rfl (Nat.le_of_ble_eq_true rfl) fun w0 L => ?_
  refine TieS.seq (.region (.run 1 rfl (.nil (.seq ?_))))
  refine TieS.region (.run 4 rfl (.selAnd (v := decide (x ≤ high)) 4 10 (fun b => ⟨[(14, .t (tB b))], []⟩) rfl ?_ ?_ ?_))
  · exact TieO.run 4 rfl (.nil (.leaf ⟨rfl, .of rfl rfl⟩))
  · exact TieO.run 4 rfl (.nil (.leaf ⟨rfl, .of rfl rfl⟩))
  exact TieO.run 1 rfl (.nil (.ret ⟨.inl rfl, rfl⟩))
-- magneto/torque.outside$1
set_option maxRecDepth 100000 in
theorem tie_torque_outside_1 (x : Int) (c : Int) (c2 : Int) : TieF Tryz.prog 218 [.t (tI x), .el (Pv.encI c), .el (Pv.encI c2)] (torque_outside_1 x c c2) (fun r => .t (tB r)) := by
  refine TieF.intro htab 10 [.tmp 4] Tryz.call218 Tryz.func218 rfl rfl rfl (Nat.le_of_ble_eq_true rfl) fun w0 L => ?_
  refine TieS.seq (.region (.run 1 rfl (.nil (.seq ?_))))
  refine TieS.region (.run 3 rfl (.call _ rfl rfl rfl (tie_torque_within x c c2) (fun _ => rfl) fun v => .run 2 rfl (.nil ?_)))
  exact TieS.ret ⟨.inl rfl, rfl⟩
-- magneto/torque.outside
set_option maxRecDepth 100000 in
theorem tie_torque_outside (l : List Int) (low : Int) (high : Int) : TieF Tryz.prog 142 [.t (tS Pv.encI l), .t (tI low), .t (tI high)] (torque_outside l low high) (fun r => .t (tB r)) := by
  refine TieF.intro htab 10 [.tmp 6] Tryz.call142 Tryz.func142 rfl rfl rfl (Nat.le_of_ble_eq_true rfl) fun w0 L => ?_
  refine TieS.seq (.region (.run 3 rfl (.nil (.seq ?_))))
  refine TieS.region (.run 1 rfl (.frzBox 4 rfl rfl (.frzBox 5 rfl rfl (.run 1 rfl ?_))))
  exact TieO.sub (σ' := ⟨[(0, .t (tS Pv.encI l)), (1, .t (tI low)), (2, .t (tI high)), (4, .el (Pv.encI low)), (5, .el (Pv.encI high)), (6, .t (tB false)), (7, .t (tS Pv.encI l)), (8, .fz 218 [Pv.encI low, Pv.encI high])], []⟩) (.of rfl rfl) (.call _ rfl rfl rfl (tie_slices_ContainsFunc_sint l 218 [Pv.encI low, Pv.encI high] (fun x0 => torque_outside_1 x0 low high) (fun x0 => tie_torque_outside_1 x0 low high)) (fun _ => rfl) fun v => .run 1 rfl (.nil (.ret ⟨.inl rfl, rfl⟩)))
-- slices.IsSortedFunc[[]int,int]
set_option maxRecDepth 100000 in
theorem tie_slices_IsSortedFunc_sint (x : List Int) (n2 : Nat) (cs : List (List Tree)) (cmp : Int → Int → Option Int) (h2 : ∀ x0 x1, TieF Tryz.prog n2 ([.t (tI x0), .t (tI x1)] ++ cs.map T.el) (cmp x0 x1) (fun r => .t (tI r))) : TieF Tryz.prog 143 [.t (tS Pv.encI x), .fz n2 cs] (slices_IsSortedFunc_sint x cmp) (fun r => .t (tB r)) := by
  refine TieF.intro htab 25 [.tmp 4] Tryz.call143 Tryz.func143 rfl rfl rfl (Nat.le_of_ble_eq_true rfl) fun w0 L => ?_
  refine TieS.seq (.region (.run 1 rfl (.nil (.seq ?_))))
  refine TieS.seq (.region (.run 4 rfl (.nil (.block ?_))))
  refine TieS.loop (fun t => ⟨[(0, .t (tS Pv.encI x)), (1, .fz n2 cs), (5, .t (tI t))], []⟩) (fun b e σ' => match b with | .inl t => e = .exit 0 ∧ Sub ⟨[], []⟩ σ' | .inr t => e = .ret ∧ retT tab σ' [.tmp 4] = some (((fun r => .t (tB r)) : Bool → T) t)) (.of rfl rfl) ?_ ?_
  · intro i
    refine TieS.seq (.seq (.region (.run 2 rfl (.nil ?_))))
    refine TieS.cond rfl ?_ ?_
    · refine TieS.skip (.seq (.block (.seq (TieX.pre fun x2 hx2 => ?_))))
      refine TieX.pre fun x3 hx3 => TieX.pre fun v hv => TieS.draw 12 [_, _, _, _, _, _, _, _, _, _, _, _] [(0, .t (tS Pv.encI x)), (1, .fz n2 cs), (5, .t (tI i))] [] mixed (.of rfl rfl) rfl rfl rfl rfl (.cons (.quiet rfl rfl rfl) (.cons (.quiet rfl rfl rfl) (.cons (.quiet rfl rfl rfl) (.cons (.index hx2 rfl rfl rfl rfl rfl rfl (fun _ => rfl)) (.cons (.quiet rfl rfl rfl) (.cons (.quiet rfl rfl rfl) (.cons (.quiet rfl rfl rfl) (.cons (.quiet rfl rfl rfl) (.cons (.index hx3 rfl rfl rfl rfl rfl rfl (fun _ => rfl)) (.cons (.quiet rfl rfl rfl) (.cons (.callV (h2 x2 x3) hv rfl rfl rfl rfl) (.cons (.quiet rfl rfl rfl) (.nil))))))))))))) (.nil (.cond rfl ?_ ?_))
      · exact TieS.seq (.region (.run 1 rfl (.nil (.ret ⟨(fun h => by cases h), rfl, rfl⟩))))
      · refine TieS.skip (.endb (.region (.run 3 rfl (.nil ?_))))
        exact TieS.leaf ⟨rfl, .of rfl rfl⟩
    · exact TieS.exitOut rfl ⟨(fun h => by cases h), rfl, .of rfl rfl⟩
  rintro (i2 | r2) e σ' _ hq
  · obtain ⟨rfl, hs⟩ := hq
    refine TieX.exit rfl (TieX.sub hs ?_)
    exact TieS.seq (.region (.run 1 rfl (.nil (.ret ⟨.inl rfl, rfl⟩))))
  · obtain ⟨rfl, hs⟩ := hq
    exact TieX.ret ⟨.inl rfl, hs⟩
-- magneto/torque.Valid$1
set_option maxRecDepth 100000 in
theorem tie_torque_Valid_1 (a : Int) (b2 : Int) : TieF Tryz.prog 144 [.t (tI a), .t (tI b2)] (torque_Valid_1 a b2) (fun r => .t (tI r)) := by
  refine TieF.intro htab 8 [.tmp 4] Tryz.call144 Tryz.func144 rfl rfl rfl (Nat.le_of_ble_eq_true rfl) fun w0 L => ?_
  refine TieS.seq (.region (.run 1 rfl (.nil (.seq ?_))))
  exact TieS.region (.run 4 rfl (.nil (.ret ⟨.inl rfl, rfl⟩)))
-- magneto/torque.Valid$2
set_option maxRecDepth 100000 in
theorem tie_torque_Valid_2 (row : List Int) : TieF Tryz.prog 145 [.t (tS Pv.encI row)] (torque_Valid_2 row) (fun r => .t (tB r)) := by
  refine TieF.intro htab 10 [.tmp 2] Tryz.call145 Tryz.func145 rfl rfl rfl (Nat.le_of_ble_eq_true rfl) fun w0 L => ?_
  refine TieS.seq (.region (.run 1 rfl (.nil (.seq ?_))))
  refine TieS.region (.run 1 rfl (.call _ rfl rfl rfl (tie_torque_outside row 0 10000) (fun _ => rfl) fun v => .run 1 rfl (.bind 4 (fun b2 => ⟨[(9, .t (tB b2))], []⟩) (TieO.split 5 rfl ?_ ?_) fun b2 _ => ?_)))
  · exact TieO.run 4 rfl (.nil (.leaf ⟨rfl, .of rfl rfl⟩))
  · exact TieO.run 1 rfl (.call _ rfl rfl rfl (tie_slices_IsSorted_sint row) (fun _ => rfl) fun v2 => .run 2 rfl (.nil (.leaf ⟨rfl, .of rfl rfl⟩)))
  exact TieO.run 1 rfl (.nil (.ret ⟨.inl rfl, rfl⟩))
-- magneto/torque.Valid
set_option maxRecDepth 100000 in
theorem tie_torque_Valid (t2 : STables) : TieF Tryz.prog 52 [A_STables t2] (torque_Valid t2) (fun r => .t (tB r)) := by
  refine TieF.intro htab 29 [.tmp 2] Tryz.call52 Tryz.func52 rfl rfl rfl (Nat.le_of_ble_eq_true rfl) fun w0 L => ?_
  refine TieS.seq (.region (.run 2 rfl (.nil (.seq ?_))))
  refine TieS.seq (.region (.run 2 rfl (.call _ rfl rfl rfl (tie_surface_Valid t2.Torque) (fun _ => rfl) fun v => .run 2 rfl ?_)))
  refine TieO.bind 5 (fun b2 => ⟨[(1, .ptr 1 0), (12, .t (tB b2))], [(1, .box (B_STables t2))]⟩) (TieO.split 7 rfl ?_ ?_) fun b2 _ => ?_
  · exact TieO.run 5 rfl (.nil (.leaf ⟨rfl, .of rfl rfl⟩))
  · exact TieO.run 2 rfl (.call _ rfl rfl rfl (tie_curve_Valid t2.Efficiency) (fun _ => rfl) fun v2 => .run 2 rfl (.nil (.leaf ⟨rfl, .of rfl rfl⟩)))
  refine TieO.run 1 rfl (.bind 5 (fun b3 => ⟨[(1, .ptr 1 0), (18, .t (tB b3))], [(1, .box (B_STables t2))]⟩) (TieO.split 13 rfl ?_ ?_) fun b3 _ => ?_)
  · exact TieO.run 5 rfl (.nil (.leaf ⟨rfl, .of rfl rfl⟩))
  · exact TieO.run 3 rfl (.call _ rfl rfl rfl (tie_torque_outside t2.Efficiency.Y 0 1000) (fun _ => rfl) fun v3 => .run 1 rfl (.nil (.leaf ⟨rfl, .of rfl rfl⟩)))
  refine TieO.nil (.cond rfl ?_ ?_)
  · exact TieS.seq (.region (.run 1 rfl (.nil (.ret ⟨.inl rfl, rfl⟩))))
  · refine TieS.skip (.seq (.seq (.region (.run 3 rfl ?_))))
    refine TieO.call _ rfl rfl rfl (tie_slices_IsSortedFunc_sint t2.Efficiency.Y 144 [] torque_Valid_1 tie_torque_Valid_1) (fun _ => rfl) fun v4 => .run 1 rfl (.nil (.cond rfl ?_ ?_))
    · exact TieS.seq (.region (.run 1 rfl (.nil (.ret ⟨.inl rfl, rfl⟩))))
    · refine TieS.skip (.seq (.region (.run 3 rfl (.call _ rfl rfl rfl (tie_slices_ContainsFunc_ssint t2.Torque.Z 145 [] torque_Valid_2 tie_torque_Valid_2) (fun _ => rfl) fun v5 => ?_))))
      exact TieO.run 2 rfl (.nil (.ret ⟨.inl rfl, rfl⟩))
-- magneto/control.all$1
set_option maxRecDepth 100000 in
theorem tie_control_all_1 (x : Int) (c : Int) (c2 : Int) : TieF Tryz.prog 151 [.t (tI x), .el (Pv.encI c), .el (Pv.encI c2)] (control_all_1 x c c2) (fun r => .t (tB r)) := by
  refine TieF.intro htab 10 [.tmp 4] Tryz.call151 Tryz.func151 rfl rfl rfl (Nat.le_of_ble_eq_true rfl) fun w0 L => ?_
  refine TieS.seq (.region (.run 1 rfl (.nil (.seq ?_))))
  refine TieS.region (.run 3 rfl (.call _ rfl rfl rfl (tie_control_in x c c2) (fun _ => rfl) fun v => .run 2 rfl (.nil ?_)))
  exact TieS.ret ⟨.inl rfl, rfl⟩
-- magneto/control.all
set_option maxRecDepth 100000 in
theorem tie_control_all (l : List Int) (low : Int) (high : Int) : TieF Tryz.prog 55 [.t (tS Pv.encI l), .t (tI low), .t (tI high)] (control_all l low high) (fun r => .t (tB r)) := by
  refine TieF.intro htab 11 [.tmp 6] Tryz.call55 Tryz.func55 rfl rfl rfl (Nat.le_of_ble_eq_true rfl) fun w0 L => ?_
  refine TieS.seq (.region (.run 3 rfl (.nil (.seq ?_))))
  refine TieS.region (.run 1 rfl (.frzBox 4 rfl rfl (.frzBox 5 rfl rfl (.run 1 rfl ?_))))
  exact TieO.sub (σ' := ⟨[(0, .t (tS Pv.encI l)), (1, .t (tI low)), (2, .t (tI high)), (4, .el (Pv.encI low)), (5, .el (Pv.encI high)), (6, .t (tB false)), (7, .t (tS Pv.encI l)), (8, .fz 151 [Pv.encI low, Pv.encI high])], []⟩) (.of rfl rfl) (.call _ rfl rfl rfl (tie_slices_ContainsFunc_sint l 151 [Pv.encI low, Pv.encI high] (fun x0 => control_all_1 x0 low high) (fun x0 => tie_control_all_1 x0 low high)) (fun _ => rfl) fun v => .run 2 rfl (.nil (.ret ⟨.inl rfl, rfl⟩)))
-- magneto/filter.ValidGain
set_option maxRecDepth 100000 in
theorem tie_filter_ValidGain (g : SGain) : TieF Tryz.prog 56 [A_SGain g] (filter_ValidGain g) (fun r => .t (tB r)) := by
  refine TieF.intro htab 38 [.tmp 2] Tryz.call56 Tryz.func56 rfl rfl rfl (Nat.le_of_ble_eq_true rfl) fun w0 L => ?_
  refine TieS.seq (.region (.run 2 rfl (.nil (.seq ?_))))
  refine TieS.region (.run 4 rfl (.selAnd (v := decide (g.P ≤ 65536)) 4 6 (fun b => ⟨[(1, .ptr 1 0), (10, .t (tB b))], [(1, .box [.t (tI g.P), .t (tI g.I), .t (tI g.Low), .t (tI g.High)])]⟩) rfl ?_ ?_ ?_))
  · exact TieO.run 4 rfl (.nil (.leaf ⟨rfl, .of rfl rfl⟩))
  · exact TieO.run 4 rfl (.nil (.leaf ⟨rfl, .of rfl rfl⟩))
  refine TieO.run 1 rfl (.selAnd (v := decide (g.I ≥ 0)) 4 11 (fun b => ⟨[(1, .ptr 1 0), (15, .t (tB b))], [(1, .box [.t (tI g.P), .t (tI g.I), .t (tI g.Low), .t (tI g.High)])]⟩) rfl ?_ ?_ ?_)
  · exact TieO.run 4 rfl (.nil (.leaf ⟨rfl, .of rfl rfl⟩))
  · exact TieO.run 4 rfl (.nil (.leaf ⟨rfl, .of rfl rfl⟩))
  refine TieO.run 1 rfl (.selAnd (v := decide (g.I ≤ 65536)) 4 16 (fun b => ⟨[(1, .ptr 1 0), (20, .t (tB b))], [(1, .box [.t (tI g.P), .t (tI g.I), .t (tI g.Low), .t (tI g.High)])]⟩) rfl ?_ ?_ ?_)
  · exact TieO.run 4 rfl (.nil (.leaf ⟨rfl, .of rfl rfl⟩))
  · exact TieO.run 4 rfl (.nil (.leaf ⟨rfl, .of rfl rfl⟩))
  refine TieO.run 1 rfl (.selAnd (v := decide (g.Low ≥ (-1073741824))) 4 21 (fun b => ⟨[(1, .ptr 1 0), (25, .t (tB b))], [(1, .box [.t (tI g.P), .t (tI g.I), .t (tI g.Low), .t (tI g.High)])]⟩) rfl ?_ ?_ ?_)
  · exact TieO.run 4 rfl (.nil (.leaf ⟨rfl, .of rfl rfl⟩))
  · exact TieO.run 4 rfl (.nil (.leaf ⟨rfl, .of rfl rfl⟩))
  refine TieO.run 1 rfl (.selAnd (v := decide (g.Low ≤ g.High)) 6 26 (fun b => ⟨[(1, .ptr 1 0), (32, .t (tB b))], [(1, .box [.t (tI g.P), .t (tI g.I), .t (tI g.Low), .t (tI g.High)])]⟩) rfl ?_ ?_ ?_)
  · exact TieO.run 6 rfl (.nil (.leaf ⟨rfl, .of rfl rfl⟩))
  · exact TieO.run 6 rfl (.nil (.leaf ⟨rfl, .of rfl rfl⟩))
  refine TieO.run 1 rfl (.selAnd (v := decide (g.High ≤ 1073741824)) 4 33 (fun b => ⟨[(37, .t (tB b))], []⟩) rfl ?_ ?_ ?_)
  · exact TieO.run 4 rfl (.nil (.leaf ⟨rfl, .of rfl rfl⟩))
  · exact TieO.run 4 rfl (.nil (.leaf ⟨rfl, .of rfl rfl⟩))
  exact TieO.run 1 rfl (.nil (.ret ⟨.inl rfl, rfl⟩))
-- magneto/control.Valid
set_option maxRecDepth 100000 in
theorem tie_control_Valid (t2 : STables) : TieF Tryz.prog 15 [A_STables t2] (control_Valid t2) (fun r => .t (tB r)) := by
  refine TieF.intro htab 64 [.tmp 2] Tryz.call15 Tryz.func15 rfl rfl rfl (Nat.le_of_ble_eq_true rfl) fun w0 L => ?_
  refine TieS.seq (.region (.run 2 rfl (.nil (.seq ?_))))
  refine TieS.seq (.region (.run 1 rfl (.call _ rfl rfl rfl (tie_air_Valid t2) (fun _ => rfl) fun v => .run 2 rfl ?_)))
  refine TieO.bind 4 (fun b2 => ⟨[(1, .ptr 1 0), (12, .t (tB b2))], [(1, .box (B_STables t2))]⟩) (TieO.split 8 rfl ?_ ?_) fun b2 _ => ?_
  · exact TieO.run 4 rfl (.nil (.leaf ⟨rfl, .of rfl rfl⟩))
  · exact TieO.run 1 rfl (.call _ rfl rfl rfl (tie_torque_Valid t2) (fun _ => rfl) fun v2 => .run 2 rfl (.nil (.leaf ⟨rfl, .of rfl rfl⟩)))
  refine TieO.run 1 rfl (.bind 5 (fun b3 => ⟨[(1, .ptr 1 0), (18, .t (tB b3))], [(1, .box (B_STables t2))]⟩) (TieO.split 13 rfl ?_ ?_) fun b3 _ => ?_)
  · exact TieO.run 5 rfl (.nil (.leaf ⟨rfl, .of rfl rfl⟩))
  · exact TieO.run 2 rfl (.call _ rfl rfl rfl (tie_surface_Valid t2.Spark) (fun _ => rfl) fun v3 => .run 2 rfl (.nil (.leaf ⟨rfl, .of rfl rfl⟩)))
  refine TieO.run 1 rfl (.bind 5 (fun b4 => ⟨[(1, .ptr 1 0), (24, .t (tB b4))], [(1, .box (B_STables t2))]⟩) (TieO.split 19 rfl ?_ ?_) fun b4 _ => ?_)
  · exact TieO.run 5 rfl (.nil (.leaf ⟨rfl, .of rfl rfl⟩))
  · exact TieO.run 2 rfl (.call _ rfl rfl rfl (tie_surface_Valid t2.Wish) (fun _ => rfl) fun v4 => .run 2 rfl (.nil (.leaf ⟨rfl, .of rfl rfl⟩)))
  refine TieO.run 1 rfl (.bind 5 (fun b5 => ⟨[(1, .ptr 1 0), (30, .t (tB b5))], [(1, .box (B_STables t2))]⟩) (TieO.split 25 rfl ?_ ?_) fun b5 _ => ?_)
  · exact TieO.run 5 rfl (.nil (.leaf ⟨rfl, .of rfl rfl⟩))
  · exact TieO.run 2 rfl (.call _ rfl rfl rfl (tie_curve_Valid t2.Dwell) (fun _ => rfl) fun v5 => .run 2 rfl (.nil (.leaf ⟨rfl, .of rfl rfl⟩)))
  refine TieO.run 1 rfl (.bind 5 (fun b6 => ⟨[(1, .ptr 1 0), (36, .t (tB b6))], [(1, .box (B_STables t2))]⟩) (TieO.split 31 rfl ?_ ?_) fun b6 _ => ?_)
  · exact TieO.run 5 rfl (.nil (.leaf ⟨rfl, .of rfl rfl⟩))
  · exact TieO.run 2 rfl (.call _ rfl rfl rfl (tie_curve_Valid t2.Dead) (fun _ => rfl) fun v6 => .run 2 rfl (.nil (.leaf ⟨rfl, .of rfl rfl⟩)))
  refine TieO.nil (.cond rfl ?_ ?_)
  · exact TieS.seq (.region (.run 1 rfl (.nil (.ret ⟨.inl rfl, rfl⟩))))
  · refine TieS.skip (.seq (.seq (.region (.run 5 rfl ?_))))
    refine TieO.nil (.block (.loop (fun p => ⟨[(1, .ptr 1 0), (39, .t (tS (Pv.encS Pv.encI) t2.Spark.Z)), (40, .t (tI (t2.Spark.Z.length : Int))), (41, .t (tI p.1))], [(1, .box (B_STables t2))]⟩) (fun b e σ' => match b with | .inl t => e = .exit 0 ∧ Sub ⟨[(1, .ptr 1 0)], [(1, .box (B_STables t2))]⟩ σ' | .inr t => e = .ret ∧ retT tab σ' [.tmp 2] = some (((fun r => .t (tB r)) : Bool → T) t)) (.of rfl rfl) ?_ ?_))
    · rintro ⟨i, s⟩
      refine TieS.seq (.region (.run 1 rfl (.nil (.seq ?_))))
      refine TieS.cond rfl ?_ ?_
      · refine TieS.skip (.seq (TieX.pre fun x hx => TieX.sub (σ' := ⟨[(1, .ptr 1 0), (39, .t (tS (Pv.encS Pv.encI) t2.Spark.Z)), (40, .t (tI (t2.Spark.Z.length : Int))), (41, .t (tI i))], [(1, .box (B_STables t2))]⟩) (.of rfl rfl) (TieS.bind (Q₁ := fun f e σ' => match f with | .next t => e = .normal ∧ Sub ⟨[(1, .ptr 1 0), (39, .t (tS (Pv.encS Pv.encI) t2.Spark.Z)), (40, .t (tI (t2.Spark.Z.length : Int))), (41, .t (tI i))], [(1, .box (B_STables t2))]⟩ σ' | .brk t => e = .exit 0 ∧ Sub ⟨[(1, .ptr 1 0)], [(1, .box (B_STables t2))]⟩ σ' | .ret t => e = .ret ∧ retT tab σ' [.tmp 2] = some (((fun r => .t (tB r)) : Bool → T) t)) ?_ ?_)))
        · refine TieS.block (.seq (.region (.indexH hx rfl rfl rfl rfl rfl rfl rfl rfl (fun _ => rfl) (.run 2 rfl ?_))))
          refine TieO.nil (.seq (.region (.run 1 rfl (.call _ rfl rfl rfl (tie_control_all x (-1280) 3840) (fun _ => rfl) fun v7 => ?_))))
          refine TieO.run 1 rfl (.nil (.cond rfl ?_ ?_))
          · exact TieS.seq (.region (.run 1 rfl (.nil (.ret ⟨rfl, rfl⟩))))
          · exact TieS.skip (.endb (.leaf ⟨rfl, .of rfl rfl⟩))
        rintro (t | t | t) e σ' _ hq
        · obtain ⟨rfl, hs⟩ := hq
          exact TieX.sub hs (TieS.region (.run 2 rfl (.nil (.leaf ⟨rfl, .of rfl rfl⟩))))
        · obtain ⟨rfl, hs⟩ := hq
          exact TieX.exitOut rfl ⟨(fun h => by cases h), rfl, hs⟩
        · obtain ⟨rfl, hs⟩ := hq
          exact TieX.ret ⟨(fun h => by cases h), rfl, hs⟩
      · exact TieS.exitOut rfl ⟨(fun h => by cases h), rfl, .of rfl rfl⟩
    rintro (s2 | r2) e σ' _ hq
    · obtain ⟨rfl, hs⟩ := hq
      refine TieX.exit rfl (TieX.sub hs ?_)
      refine TieS.seq (.region (.run 3 rfl (.call _ rfl rfl rfl (tie_control_all t2.Dwell.Y 500 10000) (fun _ => rfl) fun v8 => .run 1 rfl ?_)))
      refine TieO.bind 5 (fun b7 => ⟨[(1, .ptr 1 0), (58, .t (tB b7))], [(1, .box (B_STables t2))]⟩) (TieO.split 53 rfl ?_ ?_) fun b7 _ => ?_
      · exact TieO.run 3 rfl (.call _ rfl rfl rfl (tie_control_all t2.Dead.Y 0 10000) (fun _ => rfl) fun v9 => .run 1 rfl (.nil (.leaf ⟨rfl, .of rfl rfl⟩)))
      · exact TieO.run 5 rfl (.nil (.leaf ⟨rfl, .of rfl rfl⟩))
      refine TieO.run 1 rfl (.bind 4 (fun b8 => ⟨[(63, .t (tB b8))], []⟩) (TieO.split 59 rfl ?_ ?_) fun b8 _ => ?_)
      · exact TieO.run 2 rfl (.call _ rfl rfl rfl (tie_filter_ValidGain t2.Idle) (fun _ => rfl) fun v10 => .run 1 rfl (.nil (.leaf ⟨rfl, .of rfl rfl⟩)))
      · exact TieO.run 4 rfl (.nil (.leaf ⟨rfl, .of rfl rfl⟩))
      exact TieO.run 1 rfl (.nil (.ret ⟨.inl rfl, rfl⟩))
    · obtain ⟨rfl, hs⟩ := hq
      exact TieX.ret ⟨.inl rfl, hs⟩
-- magneto/magnetoref06.far
set_option maxRecDepth 100000 in
theorem tie_magnetoref06_far (n2 : Int) : TieF Tryz.prog 156 [.t (tI n2)] (magnetoref06_far n2) (fun r => .t (tB r)) := by
  refine TieF.intro htab 9 [.tmp 2] Tryz.call156 Tryz.func156 rfl rfl rfl (Nat.le_of_ble_eq_true rfl) fun w0 L => ?_
  refine TieS.seq (.region (.run 1 rfl (.nil (.seq ?_))))
  refine TieS.region (.run 3 rfl (.selOr (v := decide (n2 > 1073741824)) 3 5 (fun b => ⟨[(8, .t (tB b))], []⟩) rfl ?_ ?_ ?_))
  · exact TieO.run 3 rfl (.nil (.leaf ⟨rfl, .of rfl rfl⟩))
  · exact TieO.run 3 rfl (.nil (.leaf ⟨rfl, .of rfl rfl⟩))
  exact TieO.run 1 rfl (.nil (.ret ⟨.inl rfl, rfl⟩))
-- magneto/magnetoref06.Axis
set_option maxRecDepth 100000 in
theorem tie_magnetoref06_Axis (l : List Int) : TieF Tryz.prog 155 [.t (tS Pv.encI l)] (magnetoref06_Axis l) (fun r => .t (tB r)) := by
  refine TieF.intro htab 39 [.tmp 2] Tryz.call155 Tryz.func155 rfl rfl rfl (Nat.le_of_ble_eq_true rfl) fun w0 L => ?_
  refine TieS.seq (.region (.run 1 rfl (.nil (.seq ?_))))
  refine TieS.seq (.region (.run 4 rfl (.selOr (v := decide ((l.length : Int) > 32)) 4 7 (fun b => ⟨[(0, .t (tS Pv.encI l)), (11, .t (tB b))], []⟩) rfl ?_ ?_ ?_)))
  · exact TieO.run 4 rfl (.nil (.leaf ⟨rfl, .of rfl rfl⟩))
  · exact TieO.run 4 rfl (.nil (.leaf ⟨rfl, .of rfl rfl⟩))
  refine TieO.nil (.cond rfl ?_ ?_)
  · exact TieS.seq (.region (.run 1 rfl (.nil (.ret ⟨.inl rfl, rfl⟩))))
  · refine TieS.skip (.seq (.seq (.region (.run 1 rfl ?_))))
    refine TieO.nil (.block (.loop (fun t => ⟨[(0, .t (tS Pv.encI l)), (3, .t (tI t))], []⟩) (fun b e σ' => match b with | .inl t => e = .exit 0 ∧ Sub ⟨[], []⟩ σ' | .inr t => e = .ret ∧ retT tab σ' [.tmp 2] = some (((fun r => .t (tB r)) : Bool → T) t)) (.of rfl rfl) ?_ ?_))
    · intro i
      refine TieS.seq (.seq (.region (.run 4 rfl (.nil ?_))))
      refine TieS.cond rfl ?_ ?_
      · refine TieS.skip (.seq (.block (.seq (.bind (Q₁ := fun t e σ' => e = .normal ∧ Sub ⟨[(0, .t (tS Pv.encI l)), (3, .t (tI i)), (38, .t (tB t))], []⟩ σ') ?_ ?_))))
        · refine TieX.pre fun x hx => TieX.pre fun v hv => TieX.split (fun hg => ?_) (fun hg2 => ?_)
          · exact TieS.draw 21 [_, _, _, _, _, _, _, _, _, _, _, _, _, _, _, _, _, _, _, _, _] [(0, .t (tS Pv.encI l)), (3, .t (tI i))] [] mixed (.of rfl rfl) rfl rfl rfl rfl (.cons (.quiet rfl rfl rfl) (.cons (.quiet rfl rfl rfl) (.cons (.index hx rfl rfl rfl rfl rfl rfl (fun _ => rfl)) (.cons (.quiet rfl rfl rfl) (.cons (.callV (tie_magnetoref06_far x) hv rfl rfl rfl rfl) (.cons (.cast (congrArg T.B hg) (.quiet rfl rfl rfl)) (.cons (.skip rfl) (.cons (.skip rfl) (.cons (.skip rfl) (.cons (.skip rfl) (.cons (.skip rfl) (.cons (.skip rfl) (.cons (.skip rfl) (.cons (.skip rfl) (.cons (.skip rfl) (.cons (.skip rfl) (.cons (.skip rfl) (.cons (.skip rfl) (.cons (.skip rfl) (.cons (.skip rfl) (.cons (.quiet rfl rfl rfl) (.nil)))))))))))))))))))))) (.nil (.leaf ⟨rfl, .of rfl rfl⟩))
          · refine TieX.split (fun hg3 => ?_) (fun hg4 => ?_)
            · exact TieX.pre fun x2 hx2 => TieS.draw 21 [_, _, _, _, _, _, _, _, _, _, _, _, _, _, _, _, _, _, _, _, _] [(0, .t (tS Pv.encI l)), (3, .t (tI i))] [] mixed (.of rfl rfl) rfl rfl rfl rfl (.cons (.quiet rfl rfl rfl) (.cons (.quiet rfl rfl rfl) (.cons (.index hx rfl rfl rfl rfl rfl rfl (fun _ => rfl)) (.cons (.quiet rfl rfl rfl) (.cons (.callV (tie_magnetoref06_far x) hv rfl rfl rfl rfl) (.cons (.cast (congrArg T.B hg2) (.quiet rfl rfl rfl)) (.cons (.quiet rfl rfl rfl) (.cons (.quiet rfl rfl rfl) (.cons (.cast (congrArg T.B hg3) (.quiet rfl rfl rfl)) (.cons (.quiet rfl rfl rfl) (.cons (.quiet rfl rfl rfl) (.cons (.index hx rfl rfl rfl rfl rfl rfl (fun _ => rfl)) (.cons (.quiet rfl rfl rfl) (.cons (.quiet rfl rfl rfl) (.cons (.quiet rfl rfl rfl) (.cons (.quiet rfl rfl rfl) (.cons (.index hx2 rfl rfl rfl rfl rfl rfl (fun _ => rfl)) (.cons (.quiet rfl rfl rfl) (.cons (.quiet rfl rfl rfl) (.cons (.quiet rfl rfl rfl) (.cons (.quiet rfl rfl rfl) (.nil)))))))))))))))))))))) (.nil (.leaf ⟨rfl, .of rfl rfl⟩))
            · exact TieS.draw 21 [_, _, _, _, _, _, _, _, _, _, _, _, _, _, _, _, _, _, _, _, _] [(0, .t (tS Pv.encI l)), (3, .t (tI i))] [] mixed (.of rfl rfl) rfl rfl rfl rfl (.cons (.quiet rfl rfl rfl) (.cons (.quiet rfl rfl rfl) (.cons (.index hx rfl rfl rfl rfl rfl rfl (fun _ => rfl)) (.cons (.quiet rfl rfl rfl) (.cons (.callV (tie_magnetoref06_far x) hv rfl rfl rfl rfl) (.cons (.cast (congrArg T.B hg2) (.quiet rfl rfl rfl)) (.cons (.quiet rfl rfl rfl) (.cons (.quiet rfl rfl rfl) (.cons (.cast (congrArg T.B hg4) (.quiet rfl rfl rfl)) (.cons (.skip rfl) (.cons (.skip rfl) (.cons (.skip rfl) (.cons (.skip rfl) (.cons (.skip rfl) (.cons (.skip rfl) (.cons (.skip rfl) (.cons (.skip rfl) (.cons (.skip rfl) (.cons (.skip rfl) (.cons (.quiet rfl rfl rfl) (.cons (.quiet rfl rfl rfl) (.nil)))))))))))))))))))))) (.nil (.leaf ⟨rfl, .of rfl rfl⟩))
        rintro v2 e σ' _ ⟨rfl, hs⟩
        refine TieX.sub hs (TieS.cond rfl ?_ ?_)
        · exact TieS.seq (.region (.run 1 rfl (.nil (.ret ⟨(fun h => by cases h), rfl, rfl⟩))))
        · refine TieS.skip (.endb (.region (.run 3 rfl (.nil ?_))))
          exact TieS.leaf ⟨rfl, .of rfl rfl⟩
      · exact TieS.exitOut rfl ⟨(fun h => by cases h), rfl, .of rfl rfl⟩
    rintro (i2 | r2) e σ' _ hq
    · obtain ⟨rfl, hs⟩ := hq
      refine TieX.exit rfl (TieX.sub hs ?_)
      exact TieS.seq (.region (.run 1 rfl (.nil (.ret ⟨.inl rfl, rfl⟩))))
    · obtain ⟨rfl, hs⟩ := hq
      exact TieX.ret ⟨.inl rfl, hs⟩
-- magneto/magnetoref06.Valid
set_option maxRecDepth 100000 in
theorem tie_magnetoref06_Valid (m2 : SMap) : TieF Tryz.prog 61 [A_SMap m2] (magnetoref06_Valid m2) (fun r => .t (tB r)) := by
  refine TieF.intro htab 57 [.tmp 2] Tryz.call61 Tryz.func61 rfl rfl rfl (Nat.le_of_ble_eq_true rfl) fun w0 L => ?_
  refine TieS.seq (.region (.run 2 rfl (.nil (.seq ?_))))
  refine TieS.seq (.region (.run 2 rfl (.call _ rfl rfl rfl (tie_magnetoref06_Axis m2.X) (fun _ => rfl) fun v => .run 2 rfl ?_)))
  refine TieO.bind 5 (fun b2 => ⟨[(1, .ptr 1 0), (14, .t (tB b2))], [(1, .box [.t (tS Pv.encI m2.X), .t (tS Pv.encI m2.Y), .t (tS (Pv.encS Pv.encI) m2.Z)])]⟩) (TieO.split 9 rfl ?_ ?_) fun b2 _ => ?_
  · exact TieO.run 5 rfl (.nil (.leaf ⟨rfl, .of rfl rfl⟩))
  · exact TieO.run 2 rfl (.call _ rfl rfl rfl (tie_magnetoref06_Axis m2.Y) (fun _ => rfl) fun v2 => .run 2 rfl (.nil (.leaf ⟨rfl, .of rfl rfl⟩)))
  refine TieO.run 1 rfl (.selOr (v := ((m2.Z.length : Int) != (m2.X.length : Int))) 8 15 (fun b => ⟨[(1, .ptr 1 0), (23, .t (tB b))], [(1, .box [.t (tS Pv.encI m2.X), .t (tS Pv.encI m2.Y), .t (tS (Pv.encS Pv.encI) m2.Z)])]⟩) rfl ?_ ?_ ?_)
  · exact TieO.run 8 rfl (.nil (.leaf ⟨rfl, .of rfl rfl⟩))
  · exact TieO.run 8 rfl (.nil (.leaf ⟨rfl, .of rfl rfl⟩))
  refine TieO.nil (.cond rfl ?_ ?_)
  · exact TieS.seq (.region (.run 1 rfl (.nil (.ret ⟨.inl rfl, rfl⟩))))
  · refine TieS.skip (.seq (.seq (.region (.run 1 rfl ?_))))
    refine TieO.nil (.block (.loop (fun t => ⟨[(1, .ptr 1 0), (3, .t (tI t))], [(1, .box [.t (tS Pv.encI m2.X), .t (tS Pv.encI m2.Y), .t (tS (Pv.encS Pv.encI) m2.Z)])]⟩) (fun b e σ' => match b with | .inl t => e = .exit 0 ∧ Sub ⟨[], []⟩ σ' | .inr t => e = .ret ∧ retT tab σ' [.tmp 2] = some (((fun r => .t (tB r)) : Bool → T) t)) (.of rfl rfl) ?_ ?_))
    · intro i
      refine TieS.seq (.seq (.region (.run 5 rfl (.nil ?_))))
      refine TieS.cond rfl ?_ ?_
      · refine TieS.skip (.seq (.block (.seq (.seq ?_))))
        refine TieX.pre fun x hx => TieS.draw 10 [_, _, _, _, _, _, _, _, _, _] [(1, .ptr 1 0), (3, .t (tI i))] [(1, .box [.t (tS Pv.encI m2.X), .t (tS Pv.encI m2.Y), .t (tS (Pv.encS Pv.encI) m2.Z)])] mixed (.of rfl rfl) rfl rfl rfl rfl (.cons (.quiet rfl rfl rfl) (.cons (.quiet rfl rfl rfl) (.cons (.quiet rfl rfl rfl) (.cons (.index hx rfl rfl rfl rfl rfl rfl (fun _ => rfl)) (.cons (.quiet rfl rfl rfl) (.cons (.quiet rfl rfl rfl) (.cons (.quiet rfl rfl rfl) (.cons (.quiet rfl rfl rfl) (.cons (.quiet rfl rfl rfl) (.cons (.quiet rfl rfl rfl) (.nil))))))))))) (.nil (.cond rfl ?_ ?_))
        · exact TieS.seq (.region (.run 1 rfl (.nil (.ret ⟨(fun h => by cases h), rfl, rfl⟩))))
        · refine TieS.skip (.seq (.region (.run 1 rfl (.nil ?_))))
          refine TieS.block (.loop (fun t => ⟨[(1, .ptr 1 0), (3, .t (tI i)), (4, .t (tI t))], [(1, .box [.t (tS Pv.encI m2.X), .t (tS Pv.encI m2.Y), .t (tS (Pv.encS Pv.encI) m2.Z)])]⟩) (fun b e σ' => match b with | .inl t => e = .exit 2 ∧ Sub ⟨[(1, .ptr 1 0), (3, .t (tI i))], [(1, .box [.t (tS Pv.encI m2.X), .t (tS Pv.encI m2.Y), .t (tS (Pv.encS Pv.encI) m2.Z)])]⟩ σ' | .inr t => e = .ret ∧ retT tab σ' [.tmp 2] = some (((fun r => .t (tB r)) : Bool → T) t)) (.of rfl rfl) ?_ ?_)
          · intro j
            refine TieS.seq (.seq (.region (.run 5 rfl (.nil ?_))))
            refine TieS.cond rfl ?_ ?_
            · refine TieS.skip (.seq (.block (.seq (.region ?_))))
              refine TieO.run 3 rfl (.indexH hx rfl rfl rfl rfl rfl rfl rfl rfl (fun _ => rfl) (.run 2 rfl (.index rfl rfl rfl rfl rfl rfl rfl rfl (fun _ => rfl) fun x2 hx2 => .run 1 rfl ?_)))
              refine TieO.call _ rfl rfl rfl (tie_magnetoref06_far x2) (fun _ => rfl) fun v3 => .nil (.cond rfl ?_ ?_)
              · exact TieS.seq (.region (.run 1 rfl (.nil (.ret ⟨(fun h => by cases h), rfl, rfl⟩))))
              · refine TieS.skip (.endb (.region (.run 3 rfl (.nil ?_))))
                exact TieS.leaf ⟨rfl, .of rfl rfl⟩
            · exact TieS.exitOut rfl ⟨(fun h => by cases h), rfl, .of rfl rfl⟩
          rintro (j2 | r2) e σ' _ hq
          · obtain ⟨rfl, hs⟩ := hq
            refine TieX.exit rfl (TieX.sub hs ?_)
            exact TieS.endb (.region (.run 3 rfl (.nil (.leaf ⟨rfl, .of rfl rfl⟩))))
          · obtain ⟨rfl, hs⟩ := hq
            exact TieX.ret ⟨(fun h => by cases h), rfl, hs⟩
      · exact TieS.exitOut rfl ⟨(fun h => by cases h), rfl, .of rfl rfl⟩
    rintro (i2 | r3) e σ' _ hq
    · obtain ⟨rfl, hs⟩ := hq
      refine TieX.exit rfl (TieX.sub hs ?_)
      exact TieS.seq (.region (.run 1 rfl (.nil (.ret ⟨.inl rfl, rfl⟩))))
    · obtain ⟨rfl, hs⟩ := hq
      exact TieX.ret ⟨.inl rfl, hs⟩
-- magneto/magnetoref05.Fits
set_option maxRecDepth 100000 in
theorem tie_magnetoref05_Fits (x : Int) : TieF Tryz.prog 220 [.t (tI x)] (magnetoref05_Fits x) (fun r => .t (tB r)) := by
  refine TieF.intro htab 9 [.tmp 2] Tryz.call220 Tryz.func220 rfl rfl rfl (Nat.le_of_ble_eq_true rfl) fun w0 L => ?_
  refine TieS.seq (.region (.run 1 rfl (.nil (.seq ?_))))
  refine TieS.region (.run 3 rfl (.selAnd (v := decide (x ≤ 1073741824)) 3 5 (fun b => ⟨[(8, .t (tB b))], []⟩) rfl ?_ ?_ ?_))
  · exact TieO.run 3 rfl (.nil (.leaf ⟨rfl, .of rfl rfl⟩))
  · exact TieO.run 3 rfl (.nil (.leaf ⟨rfl, .of rfl rfl⟩))
  exact TieO.run 1 rfl (.nil (.ret ⟨.inl rfl, rfl⟩))
-- magneto/magnetoref05.Axis
set_option maxRecDepth 100000 in
theorem tie_magnetoref05_Axis (l : List Int) : TieF Tryz.prog 219 [.t (tS Pv.encI l)] (magnetoref05_Axis l) (fun r => .t (tB r)) := by
  refine TieF.intro htab 40 [.tmp 2] Tryz.call219 Tryz.func219 rfl rfl rfl (Nat.le_of_ble_eq_true rfl) fun w0 L => ?_
  refine TieS.seq (.region (.run 1 rfl (.nil (.seq ?_))))
  refine TieS.seq (.region (.run 4 rfl (.selOr (v := decide ((l.length : Int) > 32)) 4 7 (fun b => ⟨[(0, .t (tS Pv.encI l)), (11, .t (tB b))], []⟩) rfl ?_ ?_ ?_)))
  · exact TieO.run 4 rfl (.nil (.leaf ⟨rfl, .of rfl rfl⟩))
  · exact TieO.run 4 rfl (.nil (.leaf ⟨rfl, .of rfl rfl⟩))
  refine TieO.nil (.cond rfl ?_ ?_)
  · exact TieS.seq (.region (.run 1 rfl (.nil (.ret ⟨.inl rfl, rfl⟩))))
  · refine TieS.skip (.seq (.seq (.region (.run 1 rfl ?_))))
    refine TieO.nil (.block (.loop (fun t => ⟨[(0, .t (tS Pv.encI l)), (3, .t (tI t))], []⟩) (fun b e σ' => match b with | .inl t => e = .exit 0 ∧ Sub ⟨[], []⟩ σ' | .inr t => e = .ret ∧ retT tab σ' [.tmp 2] = some (((fun r => .t (tB r)) : Bool → T) t)) (.of rfl rfl) ?_ ?_))
    · intro i
      refine TieS.seq (.seq (.region (.run 4 rfl (.nil ?_))))
      refine TieS.cond rfl ?_ ?_
      · refine TieS.skip (.seq (.block (.seq (.bind (Q₁ := fun t e σ' => e = .normal ∧ Sub ⟨[(0, .t (tS Pv.encI l)), (3, .t (tI i)), (39, .t (tB t))], []⟩ σ') ?_ ?_))))
        · refine TieX.pre fun x hx => TieX.pre fun v hv => TieX.split (fun hg => ?_) (fun hg2 => ?_)
          · exact TieS.draw 22 [_, _, _, _, _, _, _, _, _, _, _, _, _, _, _, _, _, _, _, _, _, _] [(0, .t (tS Pv.encI l)), (3, .t (tI i))] [] mixed (.of rfl rfl) rfl rfl rfl rfl (.cons (.quiet rfl rfl rfl) (.cons (.quiet rfl rfl rfl) (.cons (.index hx rfl rfl rfl rfl rfl rfl (fun _ => rfl)) (.cons (.quiet rfl rfl rfl) (.cons (.callV (tie_magnetoref05_Fits x) hv rfl rfl rfl rfl) (.cons (.quiet rfl rfl rfl) (.cons (.cast (congrArg T.B hg) (.quiet rfl rfl rfl)) (.cons (.skip rfl) (.cons (.skip rfl) (.cons (.skip rfl) (.cons (.skip rfl) (.cons (.skip rfl) (.cons (.skip rfl) (.cons (.skip rfl) (.cons (.skip rfl) (.cons (.skip rfl) (.cons (.skip rfl) (.cons (.skip rfl) (.cons (.skip rfl) (.cons (.skip rfl) (.cons (.skip rfl) (.cons (.quiet rfl rfl rfl) (.nil))))))))))))))))))))))) (.nil (.leaf ⟨rfl, .of rfl rfl⟩))
          · refine TieX.split (fun hg3 => ?_) (fun hg4 => ?_)
            · exact TieX.pre fun x2 hx2 => TieS.draw 22 [_, _, _, _, _, _, _, _, _, _, _, _, _, _, _, _, _, _, _, _, _, _] [(0, .t (tS Pv.encI l)), (3, .t (tI i))] [] mixed (.of rfl rfl) rfl rfl rfl rfl (.cons (.quiet rfl rfl rfl) (.cons (.quiet rfl rfl rfl) (.cons (.index hx rfl rfl rfl rfl rfl rfl (fun _ => rfl)) (.cons (.quiet rfl rfl rfl) (.cons (.callV (tie_magnetoref05_Fits x) hv rfl rfl rfl rfl) (.cons (.quiet rfl rfl rfl) (.cons (.cast (congrArg T.B hg2) (.quiet rfl rfl rfl)) (.cons (.quiet rfl rfl rfl) (.cons (.quiet rfl rfl rfl) (.cons (.cast (congrArg T.B hg3) (.quiet rfl rfl rfl)) (.cons (.quiet rfl rfl rfl) (.cons (.quiet rfl rfl rfl) (.cons (.index hx rfl rfl rfl rfl rfl rfl (fun _ => rfl)) (.cons (.quiet rfl rfl rfl) (.cons (.quiet rfl rfl rfl) (.cons (.quiet rfl rfl rfl) (.cons (.quiet rfl rfl rfl) (.cons (.index hx2 rfl rfl rfl rfl rfl rfl (fun _ => rfl)) (.cons (.quiet rfl rfl rfl) (.cons (.quiet rfl rfl rfl) (.cons (.quiet rfl rfl rfl) (.cons (.quiet rfl rfl rfl) (.nil))))))))))))))))))))))) (.nil (.leaf ⟨rfl, .of rfl rfl⟩))
            · exact TieS.draw 22 [_, _, _, _, _, _, _, _, _, _, _, _, _, _, _, _, _, _, _, _, _, _] [(0, .t (tS Pv.encI l)), (3, .t (tI i))] [] mixed (.of rfl rfl) rfl rfl rfl rfl (.cons (.quiet rfl rfl rfl) (.cons (.quiet rfl rfl rfl) (.cons (.index hx rfl rfl rfl rfl rfl rfl (fun _ => rfl)) (.cons (.quiet rfl rfl rfl) (.cons (.callV (tie_magnetoref05_Fits x) hv rfl rfl rfl rfl) (.cons (.quiet rfl rfl rfl) (.cons (.cast (congrArg T.B hg2) (.quiet rfl rfl rfl)) (.cons (.quiet rfl rfl rfl) (.cons (.quiet rfl rfl rfl) (.cons (.cast (congrArg T.B hg4) (.quiet rfl rfl rfl)) (.cons (.skip rfl) (.cons (.skip rfl) (.cons (.skip rfl) (.cons (.skip rfl) (.cons (.skip rfl) (.cons (.skip rfl) (.cons (.skip rfl) (.cons (.skip rfl) (.cons (.skip rfl) (.cons (.skip rfl) (.cons (.quiet rfl rfl rfl) (.cons (.quiet rfl rfl rfl) (.nil))))))))))))))))))))))) (.nil (.leaf ⟨rfl, .of rfl rfl⟩))
        rintro v2 e σ' _ ⟨rfl, hs⟩
        refine TieX.sub hs (TieS.cond rfl ?_ ?_)
        · exact TieS.seq (.region (.run 1 rfl (.nil (.ret ⟨(fun h => by cases h), rfl, rfl⟩))))
        · refine TieS.skip (.endb (.region (.run 3 rfl (.nil ?_))))
          exact TieS.leaf ⟨rfl, .of rfl rfl⟩
      · exact TieS.exitOut rfl ⟨(fun h => by cases h), rfl, .of rfl rfl⟩
    rintro (i2 | r2) e σ' _ hq
    · obtain ⟨rfl, hs⟩ := hq
      refine TieX.exit rfl (TieX.sub hs ?_)
      exact TieS.seq (.region (.run 1 rfl (.nil (.ret ⟨.inl rfl, rfl⟩))))
    · obtain ⟨rfl, hs⟩ := hq
      exact TieX.ret ⟨.inl rfl, hs⟩
-- magneto/magnetoref05.Valid
set_option maxRecDepth 100000 in
theorem tie_magnetoref05_Valid (c : SCurve) : TieF Tryz.prog 152 [A_SCurve c] (magnetoref05_Valid c) (fun r => .t (tB r)) := by
  refine TieF.intro htab 31 [.tmp 2] Tryz.call152 Tryz.func152 rfl rfl rfl (Nat.le_of_ble_eq_true rfl) fun w0 L => ?_
  refine TieS.seq (.region (.run 2 rfl (.nil (.seq ?_))))
  refine TieS.seq (.region (.run 2 rfl (.call _ rfl rfl rfl (tie_magnetoref05_Axis c.X) (fun _ => rfl) fun v => .run 2 rfl ?_)))
  refine TieO.selOr (v := ((c.Y.length : Int) != (c.X.length : Int))) 8 8 (fun b => ⟨[(1, .ptr 1 0), (16, .t (tB b))], [(1, .box [.t (tS Pv.encI c.X), .t (tS Pv.encI c.Y)])]⟩) rfl ?_ ?_ ?_
  · exact TieO.run 8 rfl (.nil (.leaf ⟨rfl, .of rfl rfl⟩))
  · exact TieO.run 8 rfl (.nil (.leaf ⟨rfl, .of rfl rfl⟩))
  refine TieO.nil (.cond rfl ?_ ?_)
  · exact TieS.seq (.region (.run 1 rfl (.nil (.ret ⟨.inl rfl, rfl⟩))))
  · refine TieS.skip (.seq (.seq (.region (.run 1 rfl ?_))))
    refine TieO.nil (.block (.loop (fun t => ⟨[(1, .ptr 1 0), (3, .t (tI t))], [(1, .box [.t (tS Pv.encI c.X), .t (tS Pv.encI c.Y)])]⟩) (fun b e σ' => match b with | .inl t => e = .exit 0 ∧ Sub ⟨[], []⟩ σ' | .inr t => e = .ret ∧ retT tab σ' [.tmp 2] = some (((fun r => .t (tB r)) : Bool → T) t)) (.of rfl rfl) ?_ ?_))
    · intro i
      refine TieS.seq (.seq (.region (.run 5 rfl (.nil ?_))))
      refine TieS.cond rfl ?_ ?_
      · refine TieS.skip (.seq (.block (.seq (.region ?_))))
        refine TieO.run 3 rfl (.index rfl rfl rfl rfl rfl rfl rfl rfl (fun _ => rfl) fun x hx => .run 1 rfl (.call _ rfl rfl rfl (tie_magnetoref05_Fits x) (fun _ => rfl) fun v2 => .run 1 rfl ?_))
        refine TieO.nil (.cond rfl ?_ ?_)
        · exact TieS.seq (.region (.run 1 rfl (.nil (.ret ⟨(fun h => by cases h), rfl, rfl⟩))))
        · refine TieS.skip (.endb (.region (.run 3 rfl (.nil ?_))))
          exact TieS.leaf ⟨rfl, .of rfl rfl⟩
      · exact TieS.exitOut rfl ⟨(fun h => by cases h), rfl, .of rfl rfl⟩
    rintro (i2 | r2) e σ' _ hq
    · obtain ⟨rfl, hs⟩ := hq
      refine TieX.exit rfl (TieX.sub hs ?_)
      exact TieS.seq (.region (.run 1 rfl (.nil (.ret ⟨.inl rfl, rfl⟩))))
    · obtain ⟨rfl, hs⟩ := hq
      exact TieX.ret ⟨.inl rfl, hs⟩
-- magneto/magnetoref29.in
set_option maxRecDepth 100000 in
theorem tie_magnetoref29_in (x : Int) (low : Int) (high : Int) : TieF Tryz.prog 153 [.t (tI x), .t (tI low), .t (tI high)] (magnetoref29_in x low high) (fun r => .t (tB r)) := by
  refine TieF.intro htab 15 [.tmp 6] Tryz.call153 Tryz.func153 rfl rfl rfl (Nat.le_of_ble_eq_true rfl) fun w0 L => ?_
  refine TieS.seq (.region (.run 1 rfl (.nil (.seq ?_))))
  refine TieS.region (.run 4 rfl (.selAnd (v := decide (x ≤ high)) 4 10 (fun b => ⟨[(14, .t (tB b))], []⟩) rfl ?_ ?_ ?_))
  · exact TieO.run 4 rfl (.nil (.leaf ⟨rfl, .of rfl rfl⟩))
  · exact TieO.run 4 rfl (.nil (.leaf ⟨rfl, .of rfl rfl⟩))
  exact TieO.run 1 rfl (.nil (.ret ⟨.inl rfl, rfl⟩))
-- magneto/magnetoref29.Valid
set_option maxRecDepth 100000 in
theorem tie_magnetoref29_Valid (t2 : STables) : TieF Tryz.prog 57 [A_STables t2] (magnetoref29_Valid t2) (fun r => .t (tB r)) := by
  refine TieF.intro htab 88 [.tmp 2] Tryz.call57 Tryz.func57 rfl rfl rfl (Nat.le_of_ble_eq_true rfl) fun w0 L => ?_
  refine TieS.seq (.region (.run 2 rfl (.nil (.seq ?_))))
  refine TieS.seq (.region (.run 2 rfl (.call _ rfl rfl rfl (tie_magnetoref06_Valid t2.Air) (fun _ => rfl) fun v => .run 2 rfl ?_)))
  refine TieO.bind 5 (fun b2 => ⟨[(1, .ptr 1 0), (15, .t (tB b2))], [(1, .box (B_STables t2))]⟩) (TieO.split 10 rfl ?_ ?_) fun b2 _ => ?_
  · exact TieO.run 5 rfl (.nil (.leaf ⟨rfl, .of rfl rfl⟩))
  · exact TieO.run 2 rfl (.call _ rfl rfl rfl (tie_magnetoref05_Valid t2.AirTemp) (fun _ => rfl) fun v2 => .run 2 rfl (.nil (.leaf ⟨rfl, .of rfl rfl⟩)))
  refine TieO.nil (.cond rfl ?_ ?_)
  · exact TieS.seq (.region (.run 1 rfl (.nil (.ret ⟨.inl rfl, rfl⟩))))
  · refine TieS.skip (.seq (.seq (.region (.run 1 rfl ?_))))
    refine TieO.nil (.block (.loop (fun t => ⟨[(1, .ptr 1 0), (3, .t (tI t))], [(1, .box (B_STables t2))]⟩) (fun b e σ' => match b with | .inl t => e = .exit 0 ∧ Sub ⟨[(1, .ptr 1 0)], [(1, .box (B_STables t2))]⟩ σ' | .inr t => e = .ret ∧ retT tab σ' [.tmp 2] = some (((fun r => .t (tB r)) : Bool → T) t)) (.of rfl rfl) ?_ ?_))
    · intro i
      refine TieS.seq (.seq (.region (.run 6 rfl (.nil ?_))))
      refine TieS.cond rfl ?_ ?_
      · refine TieS.skip (.seq (.block (.seq (.region ?_))))
        refine TieO.run 1 rfl (.nil (.block (.loop (fun t => ⟨[(1, .ptr 1 0), (3, .t (tI i)), (4, .t (tI t))], [(1, .box (B_STables t2))]⟩) (fun b e σ' => match b with | .inl t => e = .exit 2 ∧ Sub ⟨[(1, .ptr 1 0), (3, .t (tI i))], [(1, .box (B_STables t2))]⟩ σ' | .inr t => e = .ret ∧ retT tab σ' [.tmp 2] = some (((fun r => .t (tB r)) : Bool → T) t)) (.of rfl rfl) ?_ ?_)))
        · intro j
          refine TieS.seq (.seq (.region (.run 5 rfl (.index rfl rfl rfl rfl rfl rfl rfl rfl (fun _ => rfl) fun x hx => ?_))))
          refine TieO.run 3 rfl (.nil (.cond rfl ?_ ?_))
          · refine TieS.skip (.seq (.block (.seq (.bind (Q₁ := fun t e σ' => e = .normal ∧ Sub ⟨[(1, .ptr 1 0), (3, .t (tI i)), (4, .t (tI j)), (71, .t (tB t))], [(1, .box (B_STables t2))]⟩ σ') ?_ ?_))))
            · refine TieX.pre fun x2 hx2 => TieX.pre fun v3 hv3 => TieX.split (fun hg => ?_) (fun hg2 => ?_)
              · exact TieS.draw 37 [_, _, _, _, _, _, _, _, _, _, _, _, _, _, _, _, _, _, _, _, _, _, _, _, _, _, _, _, _, _, _, _, _, _, _, _, _] [(1, .ptr 1 0), (3, .t (tI i)), (4, .t (tI j))] [(1, .box (B_STables t2))] mixed (.of rfl rfl) rfl rfl rfl rfl (.cons (.quiet rfl rfl rfl) (.cons (.quiet rfl rfl rfl) (.cons (.quiet rfl rfl rfl) (.cons (.quiet rfl rfl rfl) (.cons (.index hx rfl rfl rfl rfl rfl rfl (fun _ => rfl)) (.cons (.quiet rfl rfl rfl) (.cons (.quiet rfl rfl rfl) (.cons (.index hx2 rfl rfl rfl rfl rfl rfl (fun _ => rfl)) (.cons (.quiet rfl rfl rfl) (.cons (.callV (tie_magnetoref29_in x2 0 1048576) hv3 rfl rfl rfl rfl) (.cons (.quiet rfl rfl rfl) (.cons (.cast (congrArg T.B hg) (.quiet rfl rfl rfl)) (.cons (.skip rfl) (.cons (.skip rfl) (.cons (.skip rfl) (.cons (.skip rfl) (.cons (.skip rfl) (.cons (.skip rfl) (.cons (.skip rfl) (.cons (.skip rfl) (.cons (.skip rfl) (.cons (.skip rfl) (.cons (.skip rfl) (.cons (.skip rfl) (.cons (.skip rfl) (.cons (.skip rfl) (.cons (.skip rfl) (.cons (.skip rfl) (.cons (.skip rfl) (.cons (.skip rfl) (.cons (.skip rfl) (.cons (.skip rfl) (.cons (.skip rfl) (.cons (.skip rfl) (.cons (.skip rfl) (.cons (.skip rfl) (.cons (.quiet rfl rfl rfl) (.nil)))))))))))))))))))))))))))))))))))))) (.nil (.leaf ⟨rfl, .of rfl rfl⟩))
              · refine TieX.split (fun hg3 => ?_) (fun hg4 => ?_)
                · exact TieX.pre fun x3 hx3 => TieS.draw 37 [_, _, _, _, _, _, _, _, _, _, _, _, _, _, _, _, _, _, _, _, _, _, _, _, _, _, _, _, _, _, _, _, _, _, _, _, _] [(1, .ptr 1 0), (3, .t (tI i)), (4, .t (tI j))] [(1, .box (B_STables t2))] mixed (.of rfl rfl) rfl rfl rfl rfl (.cons (.quiet rfl rfl rfl) (.cons (.quiet rfl rfl rfl) (.cons (.quiet rfl rfl rfl) (.cons (.quiet rfl rfl rfl) (.cons (.index hx rfl rfl rfl rfl rfl rfl (fun _ => rfl)) (.cons (.quiet rfl rfl rfl) (.cons (.quiet rfl rfl rfl) (.cons (.index hx2 rfl rfl rfl rfl rfl rfl (fun _ => rfl)) (.cons (.quiet rfl rfl rfl) (.cons (.callV (tie_magnetoref29_in x2 0 1048576) hv3 rfl rfl rfl rfl) (.cons (.quiet rfl rfl rfl) (.cons (.cast (congrArg T.B hg2) (.quiet rfl rfl rfl)) (.cons (.quiet rfl rfl rfl) (.cons (.quiet rfl rfl rfl) (.cons (.cast (congrArg T.B hg3) (.quiet rfl rfl rfl)) (.cons (.quiet rfl rfl rfl) (.cons (.quiet rfl rfl rfl) (.cons (.quiet rfl rfl rfl) (.cons (.quiet rfl rfl rfl) (.cons (.index hx rfl rfl rfl rfl rfl rfl (fun _ => rfl)) (.cons (.quiet rfl rfl rfl) (.cons (.quiet rfl rfl rfl) (.cons (.index hx2 rfl rfl rfl rfl rfl rfl (fun _ => rfl)) (.cons (.quiet rfl rfl rfl) (.cons (.quiet rfl rfl rfl) (.cons (.quiet rfl rfl rfl) (.cons (.quiet rfl rfl rfl) (.cons (.quiet rfl rfl rfl) (.cons (.index hx rfl rfl rfl rfl rfl rfl (fun _ => rfl)) (.cons (.quiet rfl rfl rfl) (.cons (.quiet rfl rfl rfl) (.cons (.quiet rfl rfl rfl) (.cons (.index hx3 rfl rfl rfl rfl rfl rfl (fun _ => rfl)) (.cons (.quiet rfl rfl rfl) (.cons (.quiet rfl rfl rfl) (.cons (.quiet rfl rfl rfl) (.cons (.quiet rfl rfl rfl) (.nil)))))))))))))))))))))))))))))))))))))) (.nil (.leaf ⟨rfl, .of rfl rfl⟩))
                · exact TieS.draw 37 [_, _, _, _, _, _, _, _, _, _, _, _, _, _, _, _, _, _, _, _, _, _, _, _, _, _, _, _, _, _, _, _, _, _, _, _, _] [(1, .ptr 1 0), (3, .t (tI i)), (4, .t (tI j))] [(1, .box (B_STables t2))] mixed (.of rfl rfl) rfl rfl rfl rfl (.cons (.quiet rfl rfl rfl) (.cons (.quiet rfl rfl rfl) (.cons (.quiet rfl rfl rfl) (.cons (.quiet rfl rfl rfl) (.cons (.index hx rfl rfl rfl rfl rfl rfl (fun _ => rfl)) (.cons (.quiet rfl rfl rfl) (.cons (.quiet rfl rfl rfl) (.cons (.index hx2 rfl rfl rfl rfl rfl rfl (fun _ => rfl)) (.cons (.quiet rfl rfl rfl) (.cons (.callV (tie_magnetoref29_in x2 0 1048576) hv3 rfl rfl rfl rfl) (.cons (.quiet rfl rfl rfl) (.cons (.cast (congrArg T.B hg2) (.quiet rfl rfl rfl)) (.cons (.quiet rfl rfl rfl) (.cons (.quiet rfl rfl rfl) (.cons (.cast (congrArg T.B hg4) (.quiet rfl rfl rfl)) (.cons (.skip rfl) (.cons (.skip rfl) (.cons (.skip rfl) (.cons (.skip rfl) (.cons (.skip rfl) (.cons (.skip rfl) (.cons (.skip rfl) (.cons (.skip rfl) (.cons (.skip rfl) (.cons (.skip rfl) (.cons (.skip rfl) (.cons (.skip rfl) (.cons (.skip rfl) (.cons (.skip rfl) (.cons (.skip rfl) (.cons (.skip rfl) (.cons (.skip rfl) (.cons (.skip rfl) (.cons (.skip rfl) (.cons (.skip rfl) (.cons (.quiet rfl rfl rfl) (.cons (.quiet rfl rfl rfl) (.nil)))))))))))))))))))))))))))))))))))))) (.nil (.leaf ⟨rfl, .of rfl rfl⟩))
            rintro v4 e σ' _ ⟨rfl, hs⟩
            refine TieX.sub hs (TieS.cond rfl ?_ ?_)
            · exact TieS.seq (.region (.run 1 rfl (.nil (.ret ⟨(fun h => by cases h), rfl, rfl⟩))))
            · refine TieS.skip (.endb (.region (.run 3 rfl (.nil ?_))))
              exact TieS.leaf ⟨rfl, .of rfl rfl⟩
          · exact TieS.exitOut rfl ⟨(fun h => by cases h), rfl, .of rfl rfl⟩
        rintro (j2 | r2) e σ' _ hq
        · obtain ⟨rfl, hs⟩ := hq
          refine TieX.exit rfl (TieX.sub hs ?_)
          exact TieS.endb (.region (.run 3 rfl (.nil (.leaf ⟨rfl, .of rfl rfl⟩))))
        · obtain ⟨rfl, hs⟩ := hq
          exact TieX.ret ⟨(fun h => by cases h), rfl, hs⟩
      · exact TieS.exitOut rfl ⟨(fun h => by cases h), rfl, .of rfl rfl⟩
    rintro (i2 | r4) e σ' _ hq
    · obtain ⟨rfl, hs⟩ := hq
      refine TieX.exit rfl (TieX.sub hs ?_)
      refine TieS.seq (.seq (.region (.run 1 rfl (.nil ?_))))
      refine TieS.block (.loop (fun t => ⟨[(1, .ptr 1 0), (5, .t (tI t))], [(1, .box (B_STables t2))]⟩) (fun b e σ' => match b with | .inl t => e = .exit 4 ∧ Sub ⟨[], []⟩ σ' | .inr t => e = .ret ∧ retT tab σ' [.tmp 2] = some (((fun r => .t (tB r)) : Bool → T) t)) (.of rfl rfl) ?_ ?_)
      · intro i3
        refine TieS.seq (.seq (.region (.run 6 rfl (.nil ?_))))
        refine TieS.cond rfl ?_ ?_
        · refine TieS.skip (.seq (.block (.seq (.region ?_))))
          refine TieO.run 4 rfl (.index rfl rfl rfl rfl rfl rfl rfl rfl (fun _ => rfl) fun x4 hx4 => .run 1 rfl (.call _ rfl rfl rfl (tie_magnetoref29_in x4 100 3000) (fun _ => rfl) fun v5 => .run 1 rfl ?_))
          refine TieO.nil (.cond rfl ?_ ?_)
          · exact TieS.seq (.region (.run 1 rfl (.nil (.ret ⟨(fun h => by cases h), rfl, rfl⟩))))
          · refine TieS.skip (.endb (.region (.run 3 rfl (.nil ?_))))
            exact TieS.leaf ⟨rfl, .of rfl rfl⟩
        · exact TieS.exitOut rfl ⟨(fun h => by cases h), rfl, .of rfl rfl⟩
      rintro (i4 | r3) e σ' _ hq
      · obtain ⟨rfl, hs⟩ := hq
        refine TieX.exit rfl (TieX.sub hs ?_)
        exact TieS.seq (.region (.run 1 rfl (.nil (.ret ⟨.inl rfl, rfl⟩))))
      · obtain ⟨rfl, hs⟩ := hq
        exact TieX.ret ⟨.inl rfl, hs⟩
    · obtain ⟨rfl, hs⟩ := hq
      exact TieX.ret ⟨.inl rfl, hs⟩
-- magneto/magnetoref38.between
set_option maxRecDepth 100000 in
theorem tie_magnetoref38_between (n2 : Int) (low : Int) (high : Int) : TieF Tryz.prog 73 [.t (tI n2), .t (tI low), .t (tI high)] (magnetoref38_between n2 low high) (fun r => .t (tB r)) := by
  refine TieF.intro htab 15 [.tmp 6] Tryz.call73 Tryz.func73 rfl rfl rfl (Nat.le_of_ble_eq_true rfl) fun w0 L => ?_
  refine TieS.seq (.region (.run 1 rfl (.nil (.seq ?_))))
  refine TieS.region (.run 4 rfl (.selAnd (v := decide (n2 ≤ high)) 4 10 (fun b => ⟨[(14, .t (tB b))], []⟩) rfl ?_ ?_ ?_))
  · exact TieO.run 4 rfl (.nil (.leaf ⟨rfl, .of rfl rfl⟩))
  · exact TieO.run 4 rfl (.nil (.leaf ⟨rfl, .of rfl rfl⟩))
  exact TieO.run 1 rfl (.nil (.ret ⟨.inl rfl, rfl⟩))
-- magneto/magnetoref38.spark
set_option maxRecDepth 100000 in
theorem tie_magnetoref38_spark (t2 : STables) : TieF Tryz.prog 58 [A_STables t2] (magnetoref38_spark t2) (fun r => .t (tB r)) := by
  refine TieF.intro htab 62 [.tmp 2] Tryz.call58 Tryz.func58 rfl rfl rfl (Nat.le_of_ble_eq_true rfl) fun w0 L => ?_
  refine TieS.seq (.region (.run 2 rfl (.nil (.seq ?_))))
  refine TieS.seq (.region (.run 2 rfl (.call _ rfl rfl rfl (tie_magnetoref06_Valid t2.Spark) (fun _ => rfl) fun v => .run 2 rfl ?_)))
  refine TieO.bind 5 (fun b2 => ⟨[(1, .ptr 1 0), (15, .t (tB b2))], [(1, .box (B_STables t2))]⟩) (TieO.split 10 rfl ?_ ?_) fun b2 _ => ?_
  · exact TieO.run 5 rfl (.nil (.leaf ⟨rfl, .of rfl rfl⟩))
  · exact TieO.run 2 rfl (.call _ rfl rfl rfl (tie_magnetoref05_Valid t2.Dwell) (fun _ => rfl) fun v2 => .run 2 rfl (.nil (.leaf ⟨rfl, .of rfl rfl⟩)))
  refine TieO.nil (.cond rfl ?_ ?_)
  · exact TieS.seq (.region (.run 1 rfl (.nil (.ret ⟨.inl rfl, rfl⟩))))
  · refine TieS.skip (.seq (.seq (.region (.run 1 rfl ?_))))
    refine TieO.nil (.block (.loop (fun t => ⟨[(1, .ptr 1 0), (3, .t (tI t))], [(1, .box (B_STables t2))]⟩) (fun b e σ' => match b with | .inl t => e = .exit 0 ∧ Sub ⟨[(1, .ptr 1 0)], [(1, .box (B_STables t2))]⟩ σ' | .inr t => e = .ret ∧ retT tab σ' [.tmp 2] = some (((fun r => .t (tB r)) : Bool → T) t)) (.of rfl rfl) ?_ ?_))
    · intro i
      refine TieS.seq (.seq (.region (.run 6 rfl (.nil ?_))))
      refine TieS.cond rfl ?_ ?_
      · refine TieS.skip (.seq (.block (.seq (.region ?_))))
        refine TieO.run 1 rfl (.nil (.block (.loop (fun t => ⟨[(1, .ptr 1 0), (3, .t (tI i)), (4, .t (tI t))], [(1, .box (B_STables t2))]⟩) (fun b e σ' => match b with | .inl t => e = .exit 2 ∧ Sub ⟨[(1, .ptr 1 0), (3, .t (tI i))], [(1, .box (B_STables t2))]⟩ σ' | .inr t => e = .ret ∧ retT tab σ' [.tmp 2] = some (((fun r => .t (tB r)) : Bool → T) t)) (.of rfl rfl) ?_ ?_)))
        · intro j
          refine TieS.seq (.seq (.region (.run 5 rfl (.index rfl rfl rfl rfl rfl rfl rfl rfl (fun _ => rfl) fun x hx => ?_))))
          refine TieO.run 3 rfl (.nil (.cond rfl ?_ ?_))
          · refine TieS.skip (.seq (.block (.seq (.region ?_))))
            refine TieO.run 4 rfl (.indexH hx rfl rfl rfl rfl rfl rfl rfl rfl (fun _ => rfl) (.run 2 rfl (.index rfl rfl rfl rfl rfl rfl rfl rfl (fun _ => rfl) fun x2 hx2 => .run 1 rfl ?_)))
            refine TieO.call _ rfl rfl rfl (tie_magnetoref38_between x2 (-1280) 3840) (fun _ => rfl) fun v3 => .run 1 rfl (.nil (.cond rfl ?_ ?_))
            · exact TieS.seq (.region (.run 1 rfl (.nil (.ret ⟨(fun h => by cases h), rfl, rfl⟩))))
            · refine TieS.skip (.endb (.region (.run 3 rfl (.nil ?_))))
              exact TieS.leaf ⟨rfl, .of rfl rfl⟩
          · exact TieS.exitOut rfl ⟨(fun h => by cases h), rfl, .of rfl rfl⟩
        rintro (j2 | r2) e σ' _ hq
        · obtain ⟨rfl, hs⟩ := hq
          refine TieX.exit rfl (TieX.sub hs ?_)
          exact TieS.endb (.region (.run 3 rfl (.nil (.leaf ⟨rfl, .of rfl rfl⟩))))
        · obtain ⟨rfl, hs⟩ := hq
          exact TieX.ret ⟨(fun h => by cases h), rfl, hs⟩
      · exact TieS.exitOut rfl ⟨(fun h => by cases h), rfl, .of rfl rfl⟩
    rintro (i2 | r4) e σ' _ hq
    · obtain ⟨rfl, hs⟩ := hq
      refine TieX.exit rfl (TieX.sub hs ?_)
      refine TieS.seq (.seq (.region (.run 1 rfl (.nil ?_))))
      refine TieS.block (.loop (fun t => ⟨[(1, .ptr 1 0), (5, .t (tI t))], [(1, .box (B_STables t2))]⟩) (fun b e σ' => match b with | .inl t => e = .exit 4 ∧ Sub ⟨[], []⟩ σ' | .inr t => e = .ret ∧ retT tab σ' [.tmp 2] = some (((fun r => .t (tB r)) : Bool → T) t)) (.of rfl rfl) ?_ ?_)
      · intro i3
        refine TieS.seq (.seq (.region (.run 6 rfl (.nil ?_))))
        refine TieS.cond rfl ?_ ?_
        · refine TieS.skip (.seq (.block (.seq (.region ?_))))
          refine TieO.run 4 rfl (.index rfl rfl rfl rfl rfl rfl rfl rfl (fun _ => rfl) fun x3 hx3 => .run 1 rfl (.call _ rfl rfl rfl (tie_magnetoref38_between x3 500 10000) (fun _ => rfl) fun v4 => .run 1 rfl ?_))
          refine TieO.nil (.cond rfl ?_ ?_)
          · exact TieS.seq (.region (.run 1 rfl (.nil (.ret ⟨(fun h => by cases h), rfl, rfl⟩))))
          · refine TieS.skip (.endb (.region (.run 3 rfl (.nil ?_))))
            exact TieS.leaf ⟨rfl, .of rfl rfl⟩
        · exact TieS.exitOut rfl ⟨(fun h => by cases h), rfl, .of rfl rfl⟩
      rintro (i4 | r3) e σ' _ hq
      · obtain ⟨rfl, hs⟩ := hq
        refine TieX.exit rfl (TieX.sub hs ?_)
        exact TieS.seq (.region (.run 1 rfl (.nil (.ret ⟨.inl rfl, rfl⟩))))
      · obtain ⟨rfl, hs⟩ := hq
        exact TieX.ret ⟨.inl rfl, hs⟩
    · obtain ⟨rfl, hs⟩ := hq
      exact TieX.ret ⟨.inl rfl, hs⟩
-- magneto/magnetoref31.Falls
set_option maxRecDepth 100000 in
theorem tie_magnetoref31_Falls (l : List Int) : TieF Tryz.prog 221 [.t (tS Pv.encI l)] (magnetoref31_Falls l) (fun r => .t (tB r)) := by
  refine TieF.intro htab 20 [.tmp 2] Tryz.call221 Tryz.func221 rfl rfl rfl (Nat.le_of_ble_eq_true rfl) fun w0 L => ?_
  refine TieS.seq (.region (.run 1 rfl (.nil (.seq ?_))))
  refine TieS.seq (.region (.run 1 rfl (.nil (.block ?_))))
  refine TieS.loop (fun t => ⟨[(0, .t (tS Pv.encI l)), (3, .t (tI t))], []⟩) (fun b e σ' => match b with | .inl t => e = .exit 0 ∧ Sub ⟨[], []⟩ σ' | .inr t => e = .ret ∧ retT tab σ' [.tmp 2] = some (((fun r => .t (tB r)) : Bool → T) t)) (.of rfl rfl) ?_ ?_
  · intro i
    refine TieS.seq (.seq (.region (.run 4 rfl (.nil ?_))))
    refine TieS.cond rfl ?_ ?_
    · refine TieS.skip (.seq (.block (.seq (TieX.pre fun x hx => ?_))))
      refine TieX.pre fun x2 hx2 => TieS.draw 10 [_, _, _, _, _, _, _, _, _, _] [(0, .t (tS Pv.encI l)), (3, .t (tI i))] [] mixed (.of rfl rfl) rfl rfl rfl rfl (.cons (.quiet rfl rfl rfl) (.cons (.quiet rfl rfl rfl) (.cons (.index hx rfl rfl rfl rfl rfl rfl (fun _ => rfl)) (.cons (.quiet rfl rfl rfl) (.cons (.quiet rfl rfl rfl) (.cons (.quiet rfl rfl rfl) (.cons (.quiet rfl rfl rfl) (.cons (.index hx2 rfl rfl rfl rfl rfl rfl (fun _ => rfl)) (.cons (.quiet rfl rfl rfl) (.cons (.quiet rfl rfl rfl) (.nil))))))))))) (.nil (.cond rfl ?_ ?_))
      · exact TieS.seq (.region (.run 1 rfl (.nil (.ret ⟨(fun h => by cases h), rfl, rfl⟩))))
      · refine TieS.skip (.endb (.region (.run 3 rfl (.nil ?_))))
        exact TieS.leaf ⟨rfl, .of rfl rfl⟩
    · exact TieS.exitOut rfl ⟨(fun h => by cases h), rfl, .of rfl rfl⟩
  rintro (i2 | r2) e σ' _ hq
  · obtain ⟨rfl, hs⟩ := hq
    refine TieX.exit rfl (TieX.sub hs ?_)
    exact TieS.seq (.region (.run 1 rfl (.nil (.ret ⟨.inl rfl, rfl⟩))))
  · obtain ⟨rfl, hs⟩ := hq
    exact TieX.ret ⟨.inl rfl, hs⟩
-- magneto/magnetoref31.In
set_option maxRecDepth 100000 in
theorem tie_magnetoref31_In (x : Int) (low : Int) (high : Int) : TieF Tryz.prog 258 [.t (tI x), .t (tI low), .t (tI high)] (magnetoref31_In x low high) (fun r => .t (tB r)) := by
  refine TieF.intro htab 15 [.tmp 6] Tryz.call258 Tryz.func258 rfl rfl rfl (Nat.le_of_ble_eq_true rfl) fun w0 L => ?_
  refine TieS.seq (.region (.run 1 rfl (.nil (.seq ?_))))
  refine TieS.region (.run 4 rfl (.selAnd (v := decide (x ≤ high)) 4 10 (fun b => ⟨[(14, .t (tB b))], []⟩) rfl ?_ ?_ ?_))
  · exact TieO.run 4 rfl (.nil (.leaf ⟨rfl, .of rfl rfl⟩))
  · exact TieO.run 4 rfl (.nil (.leaf ⟨rfl, .of rfl rfl⟩))
  exact TieO.run 1 rfl (.nil (.ret ⟨.inl rfl, rfl⟩))
-- magneto/magnetoref31.all
set_option maxRecDepth 100000 in
theorem tie_magnetoref31_all (l : List Int) (low : Int) (high : Int) : TieF Tryz.prog 222 [.t (tS Pv.encI l), .t (tI low), .t (tI high)] (magnetoref31_all l low high) (fun r => .t (tB r)) := by
  refine TieF.intro htab 22 [.tmp 6] Tryz.call222 Tryz.func222 rfl rfl rfl (Nat.le_of_ble_eq_true rfl) fun w0 L => ?_
  refine TieS.seq (.region (.run 1 rfl (.nil (.seq ?_))))
  refine TieS.seq (.region (.run 1 rfl (.nil (.block ?_))))
  refine TieS.loop (fun t => ⟨[(0, .t (tS Pv.encI l)), (1, .t (tI low)), (2, .t (tI high)), (7, .t (tI t))], []⟩) (fun b e σ' => match b with | .inl t => e = .exit 0 ∧ Sub ⟨[], []⟩ σ' | .inr t => e = .ret ∧ retT tab σ' [.tmp 6] = some (((fun r => .t (tB r)) : Bool → T) t)) (.of rfl rfl) ?_ ?_
  · intro i
    refine TieS.seq (.seq (.region (.run 4 rfl (.nil ?_))))
    refine TieS.cond rfl ?_ ?_
    · refine TieS.skip (.seq (.block (.seq (.region ?_))))
      refine TieO.run 2 rfl (.index rfl rfl rfl rfl rfl rfl rfl rfl (fun _ => rfl) fun x hx => .run 3 rfl (.call _ rfl rfl rfl (tie_magnetoref31_In x low high) (fun _ => rfl) fun v => .run 1 rfl ?_))
      refine TieO.nil (.cond rfl ?_ ?_)
      · exact TieS.seq (.region (.run 1 rfl (.nil (.ret ⟨(fun h => by cases h), rfl, rfl⟩))))
      · refine TieS.skip (.endb (.region (.run 3 rfl (.nil ?_))))
        exact TieS.leaf ⟨rfl, .of rfl rfl⟩
    · exact TieS.exitOut rfl ⟨(fun h => by cases h), rfl, .of rfl rfl⟩
  rintro (i2 | r2) e σ' _ hq
  · obtain ⟨rfl, hs⟩ := hq
    refine TieX.exit rfl (TieX.sub hs ?_)
    exact TieS.seq (.region (.run 1 rfl (.nil (.ret ⟨.inl rfl, rfl⟩))))
  · obtain ⟨rfl, hs⟩ := hq
    exact TieX.ret ⟨.inl rfl, hs⟩
-- magneto/magnetoref31.Curve
set_option maxRecDepth 100000 in
theorem tie_magnetoref31_Curve (c : SCurve) : TieF Tryz.prog 154 [A_SCurve c] (magnetoref31_Curve c) (fun r => .t (tB r)) := by
  refine TieF.intro htab 15 [.tmp 2] Tryz.call154 Tryz.func154 rfl rfl rfl (Nat.le_of_ble_eq_true rfl) fun w0 L => ?_
  refine TieS.seq (.region (.run 2 rfl (.nil (.seq ?_))))
  refine TieS.region (.run 1 rfl (.call _ rfl rfl rfl (tie_magnetoref05_Valid c) (fun _ => rfl) fun v => .run 1 rfl (.bind 4 (fun b2 => ⟨[(1, .ptr 1 0), (9, .t (tB b2))], [(1, .box [.t (tS Pv.encI c.X), .t (tS Pv.encI c.Y)])]⟩) (TieO.split 5 rfl ?_ ?_) fun b2 _ => ?_)))
  · exact TieO.run 2 rfl (.call _ rfl rfl rfl (tie_magnetoref31_Falls c.Y) (fun _ => rfl) fun v2 => .run 1 rfl (.nil (.leaf ⟨rfl, .of rfl rfl⟩)))
  · exact TieO.run 4 rfl (.nil (.leaf ⟨rfl, .of rfl rfl⟩))
  refine TieO.run 1 rfl (.bind 4 (fun b3 => ⟨[(14, .t (tB b3))], []⟩) (TieO.split 10 rfl ?_ ?_) fun b3 _ => ?_)
  · exact TieO.run 2 rfl (.call _ rfl rfl rfl (tie_magnetoref31_all c.Y 0 1000) (fun _ => rfl) fun v3 => .run 1 rfl (.nil (.leaf ⟨rfl, .of rfl rfl⟩)))
  · exact TieO.run 4 rfl (.nil (.leaf ⟨rfl, .of rfl rfl⟩))
  exact TieO.run 1 rfl (.nil (.ret ⟨.inl rfl, rfl⟩))
-- magneto/magnetoref35.Valid
set_option maxRecDepth 100000 in
theorem tie_magnetoref35_Valid (t2 : STables) : TieF Tryz.prog 59 [A_STables t2] (magnetoref35_Valid t2) (fun r => .t (tB r)) := by
  refine TieF.intro htab 65 [.tmp 2] Tryz.call59 Tryz.func59 rfl rfl rfl (Nat.le_of_ble_eq_true rfl) fun w0 L => ?_
  refine TieS.seq (.region (.run 2 rfl (.nil (.seq ?_))))
  refine TieS.seq (.region (.run 2 rfl (.call _ rfl rfl rfl (tie_magnetoref06_Valid t2.Torque) (fun _ => rfl) fun v => .run 2 rfl ?_)))
  refine TieO.bind 5 (fun b2 => ⟨[(1, .ptr 1 0), (15, .t (tB b2))], [(1, .box (B_STables t2))]⟩) (TieO.split 10 rfl ?_ ?_) fun b2 _ => ?_
  · exact TieO.run 5 rfl (.nil (.leaf ⟨rfl, .of rfl rfl⟩))
  · exact TieO.run 2 rfl (.call _ rfl rfl rfl (tie_magnetoref31_Curve t2.Efficiency) (fun _ => rfl) fun v2 => .run 2 rfl (.nil (.leaf ⟨rfl, .of rfl rfl⟩)))
  refine TieO.nil (.cond rfl ?_ ?_)
  · exact TieS.seq (.region (.run 1 rfl (.nil (.ret ⟨.inl rfl, rfl⟩))))
  · refine TieS.skip (.seq (.seq (.region (.run 1 rfl ?_))))
    refine TieO.nil (.block (.loop (fun t => ⟨[(1, .ptr 1 0), (3, .t (tI t))], [(1, .box (B_STables t2))]⟩) (fun b e σ' => match b with | .inl t => e = .exit 0 ∧ Sub ⟨[], []⟩ σ' | .inr t => e = .ret ∧ retT tab σ' [.tmp 2] = some (((fun r => .t (tB r)) : Bool → T) t)) (.of rfl rfl) ?_ ?_))
    · intro i
      refine TieS.seq (.seq (.region (.run 6 rfl (.nil ?_))))
      refine TieS.cond rfl ?_ ?_
      · refine TieS.skip (.seq (.block (.seq (.region ?_))))
        refine TieO.run 1 rfl (.nil (.block (.loop (fun t => ⟨[(1, .ptr 1 0), (3, .t (tI i)), (4, .t (tI t))], [(1, .box (B_STables t2))]⟩) (fun b e σ' => match b with | .inl t => e = .exit 2 ∧ Sub ⟨[(1, .ptr 1 0), (3, .t (tI i))], [(1, .box (B_STables t2))]⟩ σ' | .inr t => e = .ret ∧ retT tab σ' [.tmp 2] = some (((fun r => .t (tB r)) : Bool → T) t)) (.of rfl rfl) ?_ ?_)))
        · intro j
          refine TieS.seq (.seq (.region (.run 6 rfl (.nil ?_))))
          refine TieS.cond rfl ?_ ?_
          · refine TieS.skip (.seq (.block (.seq (.region ?_))))
            refine TieO.run 4 rfl (.index rfl rfl rfl rfl rfl rfl rfl rfl (fun _ => rfl) fun x hx => .run 2 rfl (.index rfl rfl rfl rfl rfl rfl rfl rfl (fun _ => rfl) fun x2 hx2 => .run 2 rfl ?_))
            refine TieO.nil (.seq (.region (.run 3 rfl (.selOr (v := decide (x2 > 10000)) 3 43 (fun b => ⟨[(1, .ptr 1 0), (3, .t (tI i)), (4, .t (tI j)), (5, .t (tI x2)), (46, .t (tB b))], [(1, .box (B_STables t2))]⟩) rfl ?_ ?_ ?_))))
            · exact TieO.run 3 rfl (.nil (.leaf ⟨rfl, .of rfl rfl⟩))
            · exact TieO.run 3 rfl (.nil (.leaf ⟨rfl, .of rfl rfl⟩))
            refine TieO.run 1 rfl (.bind 17 (fun b4 => ⟨[(1, .ptr 1 0), (3, .t (tI i)), (4, .t (tI j)), (64, .t (tB b4))], [(1, .box (B_STables t2))]⟩) (TieO.split 47 rfl ?_ ?_) fun b4 _ => ?_)
            · exact TieO.run 17 rfl (.nil (.leaf ⟨rfl, .of rfl rfl⟩))
            · refine TieO.run 3 rfl (.bind 13 (fun b3 => ⟨[(1, .ptr 1 0), (3, .t (tI i)), (4, .t (tI j)), (47, .t (tB false)), (63, .t (tB b3))], [(1, .box (B_STables t2))]⟩) (TieO.split 50 rfl ?_ ?_) fun b3 _ => ?_)
              · refine TieO.run 5 rfl (.indexH hx rfl rfl rfl rfl rfl rfl rfl rfl (fun _ => rfl) (.run 3 rfl (.index rfl rfl rfl rfl rfl rfl rfl rfl (fun _ => rfl) fun x3 hx3 => .run 3 rfl ?_)))
                exact TieO.nil (.leaf ⟨rfl, .of rfl rfl⟩)
              · exact TieO.run 13 rfl (.nil (.leaf ⟨rfl, .of rfl rfl⟩))
              exact TieO.run 1 rfl (.nil (.leaf ⟨rfl, .of rfl rfl⟩))
            refine TieO.nil (.cond rfl ?_ ?_)
            · exact TieS.seq (.region (.run 1 rfl (.nil (.ret ⟨(fun h => by cases h), rfl, rfl⟩))))
            · refine TieS.skip (.endb (.region (.run 3 rfl (.nil ?_))))
              exact TieS.leaf ⟨rfl, .of rfl rfl⟩
          · exact TieS.exitOut rfl ⟨(fun h => by cases h), rfl, .of rfl rfl⟩
        rintro (j2 | r2) e σ' _ hq
        · obtain ⟨rfl, hs⟩ := hq
          refine TieX.exit rfl (TieX.sub hs ?_)
          exact TieS.endb (.region (.run 3 rfl (.nil (.leaf ⟨rfl, .of rfl rfl⟩))))
        · obtain ⟨rfl, hs⟩ := hq
          exact TieX.ret ⟨(fun h => by cases h), rfl, hs⟩
      · exact TieS.exitOut rfl ⟨(fun h => by cases h), rfl, .of rfl rfl⟩
    rintro (i2 | r3) e σ' _ hq
    · obtain ⟨rfl, hs⟩ := hq
      refine TieX.exit rfl (TieX.sub hs ?_)
      exact TieS.seq (.region (.run 1 rfl (.nil (.ret ⟨.inl rfl, rfl⟩))))
    · obtain ⟨rfl, hs⟩ := hq
      exact TieX.ret ⟨.inl rfl, hs⟩
-- magneto/magnetoref30.Dead
set_option maxRecDepth 100000 in
theorem tie_magnetoref30_Dead (t2 : STables) : TieF Tryz.prog 60 [A_STables t2] (magnetoref30_Dead t2) (fun r => .t (tB r)) := by
  refine TieF.intro htab 32 [.tmp 2] Tryz.call60 Tryz.func60 rfl rfl rfl (Nat.le_of_ble_eq_true rfl) fun w0 L => ?_
  refine TieS.seq (.region (.run 2 rfl (.nil (.seq ?_))))
  refine TieS.seq (.region (.run 2 rfl (.call _ rfl rfl rfl (tie_magnetoref05_Valid t2.Dead) (fun _ => rfl) fun v => .run 1 rfl ?_)))
  refine TieO.nil (.cond rfl ?_ ?_)
  · exact TieS.seq (.region (.run 1 rfl (.nil (.ret ⟨.inl rfl, rfl⟩))))
  · refine TieS.skip (.seq (.seq (.region (.run 1 rfl ?_))))
    refine TieO.nil (.block (.loop (fun t => ⟨[(1, .ptr 1 0), (3, .t (tI t))], [(1, .box (B_STables t2))]⟩) (fun b e σ' => match b with | .inl t => e = .exit 0 ∧ Sub ⟨[], []⟩ σ' | .inr t => e = .ret ∧ retT tab σ' [.tmp 2] = some (((fun r => .t (tB r)) : Bool → T) t)) (.of rfl rfl) ?_ ?_))
    · intro i
      refine TieS.seq (.seq (.region (.run 6 rfl (.nil ?_))))
      refine TieS.cond rfl ?_ ?_
      · refine TieS.skip (.seq (.block (.seq (.region ?_))))
        refine TieO.run 4 rfl (.index rfl rfl rfl rfl rfl rfl rfl rfl (fun _ => rfl) fun x hx => .run 3 rfl (.bind 8 (fun b2 => ⟨[(1, .ptr 1 0), (3, .t (tI i)), (31, .t (tB b2))], [(1, .box (B_STables t2))]⟩) (TieO.split 23 rfl ?_ ?_) fun b2 _ => ?_))
        · exact TieO.run 8 rfl (.nil (.leaf ⟨rfl, .of rfl rfl⟩))
        · exact TieO.run 4 rfl (.indexH hx rfl rfl rfl rfl rfl rfl rfl rfl (fun _ => rfl) (.run 3 rfl (.nil (.leaf ⟨rfl, .of rfl rfl⟩))))
        refine TieO.nil (.cond rfl ?_ ?_)
        · exact TieS.seq (.region (.run 1 rfl (.nil (.ret ⟨(fun h => by cases h), rfl, rfl⟩))))
        · refine TieS.skip (.endb (.region (.run 3 rfl (.nil ?_))))
          exact TieS.leaf ⟨rfl, .of rfl rfl⟩
      · exact TieS.exitOut rfl ⟨(fun h => by cases h), rfl, .of rfl rfl⟩
    rintro (i2 | r2) e σ' _ hq
    · obtain ⟨rfl, hs⟩ := hq
      refine TieX.exit rfl (TieX.sub hs ?_)
      exact TieS.seq (.region (.run 1 rfl (.nil (.ret ⟨.inl rfl, rfl⟩))))
    · obtain ⟨rfl, hs⟩ := hq
      exact TieX.ret ⟨.inl rfl, hs⟩
-- magneto/magnetoref07.Gain
set_option maxRecDepth 100000 in
theorem tie_magnetoref07_Gain (g : SGain) : TieF Tryz.prog 62 [A_SGain g] (magnetoref07_Gain g) (fun r => .t (tB r)) := by
  refine TieF.intro htab 38 [.tmp 2] Tryz.call62 Tryz.func62 rfl rfl rfl (Nat.le_of_ble_eq_true rfl) fun w0 L => ?_
  refine TieS.seq (.region (.run 2 rfl (.nil (.seq ?_))))
  refine TieS.region (.run 4 rfl (.selAnd (v := decide (g.P ≤ 65536)) 4 6 (fun b => ⟨[(1, .ptr 1 0), (10, .t (tB b))], [(1, .box [.t (tI g.P), .t (tI g.I), .t (tI g.Low), .t (tI g.High)])]⟩) rfl ?_ ?_ ?_))
  · exact TieO.run 4 rfl (.nil (.leaf ⟨rfl, .of rfl rfl⟩))
  · exact TieO.run 4 rfl (.nil (.leaf ⟨rfl, .of rfl rfl⟩))
  refine TieO.run 1 rfl (.selAnd (v := decide (g.I ≥ 0)) 4 11 (fun b => ⟨[(1, .ptr 1 0), (15, .t (tB b))], [(1, .box [.t (tI g.P), .t (tI g.I), .t (tI g.Low), .t (tI g.High)])]⟩) rfl ?_ ?_ ?_)
  · exact TieO.run 4 rfl (.nil (.leaf ⟨rfl, .of rfl rfl⟩))
  · exact TieO.run 4 rfl (.nil (.leaf ⟨rfl, .of rfl rfl⟩))
  refine TieO.run 1 rfl (.selAnd (v := decide (g.I ≤ 65536)) 4 16 (fun b => ⟨[(1, .ptr 1 0), (20, .t (tB b))], [(1, .box [.t (tI g.P), .t (tI g.I), .t (tI g.Low), .t (tI g.High)])]⟩) rfl ?_ ?_ ?_)
  · exact TieO.run 4 rfl (.nil (.leaf ⟨rfl, .of rfl rfl⟩))
  · exact TieO.run 4 rfl (.nil (.leaf ⟨rfl, .of rfl rfl⟩))
  refine TieO.run 1 rfl (.selAnd (v := decide (g.Low ≥ (-1073741824))) 4 21 (fun b => ⟨[(1, .ptr 1 0), (25, .t (tB b))], [(1, .box [.t (tI g.P), .t (tI g.I), .t (tI g.Low), .t (tI g.High)])]⟩) rfl ?_ ?_ ?_)
  · exact TieO.run 4 rfl (.nil (.leaf ⟨rfl, .of rfl rfl⟩))
  · exact TieO.run 4 rfl (.nil (.leaf ⟨rfl, .of rfl rfl⟩))
  refine TieO.run 1 rfl (.selAnd (v := decide (g.Low ≤ g.High)) 6 26 (fun b => ⟨[(1, .ptr 1 0), (32, .t (tB b))], [(1, .box [.t (tI g.P), .t (tI g.I), .t (tI g.Low), .t (tI g.High)])]⟩) rfl ?_ ?_ ?_)
  · exact TieO.run 6 rfl (.nil (.leaf ⟨rfl, .of rfl rfl⟩))
  · exact TieO.run 6 rfl (.nil (.leaf ⟨rfl, .of rfl rfl⟩))
  refine TieO.run 1 rfl (.selAnd (v := decide (g.High ≤ 1073741824)) 4 33 (fun b => ⟨[(37, .t (tB b))], []⟩) rfl ?_ ?_ ?_)
  · exact TieO.run 4 rfl (.nil (.leaf ⟨rfl, .of rfl rfl⟩))
  · exact TieO.run 4 rfl (.nil (.leaf ⟨rfl, .of rfl rfl⟩))
  exact TieO.run 1 rfl (.nil (.ret ⟨.inl rfl, rfl⟩))
-- magneto/magnetoref38.Valid
set_option maxRecDepth 100000 in
theorem tie_magnetoref38_Valid (t2 : STables) : TieF Tryz.prog 16 [A_STables t2] (magnetoref38_Valid t2) (fun r => .t (tB r)) := by
  refine TieF.intro htab 27 [.tmp 2] Tryz.call16 Tryz.func16 rfl rfl rfl (Nat.le_of_ble_eq_true rfl) fun w0 L => ?_
  refine TieS.seq (.region (.run 2 rfl (.nil (.seq ?_))))
  refine TieS.region (.run 1 rfl (.call _ rfl rfl rfl (tie_magnetoref29_Valid t2) (fun _ => rfl) fun v => .run 1 rfl (.bind 3 (fun b2 => ⟨[(1, .ptr 1 0), (8, .t (tB b2))], [(1, .box (B_STables t2))]⟩) (TieO.split 5 rfl ?_ ?_) fun b2 _ => ?_)))
  · exact TieO.run 1 rfl (.call _ rfl rfl rfl (tie_magnetoref38_spark t2) (fun _ => rfl) fun v2 => .run 1 rfl (.nil (.leaf ⟨rfl, .of rfl rfl⟩)))
  · exact TieO.run 3 rfl (.nil (.leaf ⟨rfl, .of rfl rfl⟩))
  refine TieO.run 1 rfl (.bind 3 (fun b3 => ⟨[(1, .ptr 1 0), (12, .t (tB b3))], [(1, .box (B_STables t2))]⟩) (TieO.split 9 rfl ?_ ?_) fun b3 _ => ?_)
  · exact TieO.run 1 rfl (.call _ rfl rfl rfl (tie_magnetoref35_Valid t2) (fun _ => rfl) fun v3 => .run 1 rfl (.nil (.leaf ⟨rfl, .of rfl rfl⟩)))
  · exact TieO.run 3 rfl (.nil (.leaf ⟨rfl, .of rfl rfl⟩))
  refine TieO.run 1 rfl (.bind 3 (fun b4 => ⟨[(1, .ptr 1 0), (16, .t (tB b4))], [(1, .box (B_STables t2))]⟩) (TieO.split 13 rfl ?_ ?_) fun b4 _ => ?_)
  · exact TieO.run 1 rfl (.call _ rfl rfl rfl (tie_magnetoref30_Dead t2) (fun _ => rfl) fun v4 => .run 1 rfl (.nil (.leaf ⟨rfl, .of rfl rfl⟩)))
  · exact TieO.run 3 rfl (.nil (.leaf ⟨rfl, .of rfl rfl⟩))
  refine TieO.run 1 rfl (.bind 4 (fun b5 => ⟨[(1, .ptr 1 0), (21, .t (tB b5))], [(1, .box (B_STables t2))]⟩) (TieO.split 17 rfl ?_ ?_) fun b5 _ => ?_)
  · exact TieO.run 2 rfl (.call _ rfl rfl rfl (tie_magnetoref06_Valid t2.Wish) (fun _ => rfl) fun v5 => .run 1 rfl (.nil (.leaf ⟨rfl, .of rfl rfl⟩)))
  · exact TieO.run 4 rfl (.nil (.leaf ⟨rfl, .of rfl rfl⟩))
  refine TieO.run 1 rfl (.bind 4 (fun b6 => ⟨[(26, .t (tB b6))], []⟩) (TieO.split 22 rfl ?_ ?_) fun b6 _ => ?_)
  · exact TieO.run 2 rfl (.call _ rfl rfl rfl (tie_magnetoref07_Gain t2.Idle) (fun _ => rfl) fun v6 => .run 1 rfl (.nil (.leaf ⟨rfl, .of rfl rfl⟩)))
  · exact TieO.run 4 rfl (.nil (.leaf ⟨rfl, .of rfl rfl⟩))
  exact TieO.run 1 rfl (.nil (.ret ⟨.inl rfl, rfl⟩))
-- magneto/magnetoref34.Same
set_option maxRecDepth 100000 in
theorem tie_magnetoref34_Same (a : SProbe) (b2 : SProbe) : TieF Tryz.prog 63 [A_SProbe a, A_SProbe b2] (magnetoref34_Same a b2) (fun r => .t (tB r)) := by
  refine TieF.intro htab 59 [.tmp 4] Tryz.call63 Tryz.func63 rfl rfl rfl (Nat.le_of_ble_eq_true rfl) fun w0 L => ?_
  refine TieS.seq (.region (.run 3 rfl (.nil (.seq ?_))))
  refine TieS.seq (.region (.run 6 rfl (.selOr (v := (!(a.Rich == b2.Rich))) 6 11 (fun b => ⟨[(2, .ptr 2 0), (3, .ptr 3 0), (17, .t (tB b))], [(2, .box [.t (tB a.Active), .t (tB a.Rich), .t (tI a.Factor), .t (tI a.Wait), .t (tS enc_SCell a.Cells)]), (3, .box [.t (tB b2.Active), .t (tB b2.Rich), .t (tI b2.Factor), .t (tI b2.Wait), .t (tS enc_SCell b2.Cells)])]⟩) rfl ?_ ?_ ?_)))
  · exact TieO.run 6 rfl (.nil (.leaf ⟨rfl, .of rfl rfl⟩))
  · exact TieO.run 6 rfl (.nil (.leaf ⟨rfl, .of rfl rfl⟩))
  refine TieO.run 1 rfl (.selOr (v := (a.Factor != b2.Factor)) 6 18 (fun b => ⟨[(2, .ptr 2 0), (3, .ptr 3 0), (24, .t (tB b))], [(2, .box [.t (tB a.Active), .t (tB a.Rich), .t (tI a.Factor), .t (tI a.Wait), .t (tS enc_SCell a.Cells)]), (3, .box [.t (tB b2.Active), .t (tB b2.Rich), .t (tI b2.Factor), .t (tI b2.Wait), .t (tS enc_SCell b2.Cells)])]⟩) rfl ?_ ?_ ?_)
  · exact TieO.run 6 rfl (.nil (.leaf ⟨rfl, .of rfl rfl⟩))
  · exact TieO.run 6 rfl (.nil (.leaf ⟨rfl, .of rfl rfl⟩))
  refine TieO.run 1 rfl (.selOr (v := (a.Wait != b2.Wait)) 6 25 (fun b => ⟨[(2, .ptr 2 0), (3, .ptr 3 0), (31, .t (tB b))], [(2, .box [.t (tB a.Active), .t (tB a.Rich), .t (tI a.Factor), .t (tI a.Wait), .t (tS enc_SCell a.Cells)]), (3, .box [.t (tB b2.Active), .t (tB b2.Rich), .t (tI b2.Factor), .t (tI b2.Wait), .t (tS enc_SCell b2.Cells)])]⟩) rfl ?_ ?_ ?_)
  · exact TieO.run 6 rfl (.nil (.leaf ⟨rfl, .of rfl rfl⟩))
  · exact TieO.run 6 rfl (.nil (.leaf ⟨rfl, .of rfl rfl⟩))
  refine TieO.run 1 rfl (.selOr (v := ((a.Cells.length : Int) != (b2.Cells.length : Int))) 8 32 (fun b => ⟨[(2, .ptr 2 0), (3, .ptr 3 0), (40, .t (tB b))], [(2, .box [.t (tB a.Active), .t (tB a.Rich), .t (tI a.Factor), .t (tI a.Wait), .t (tS enc_SCell a.Cells)]), (3, .box [.t (tB b2.Active), .t (tB b2.Rich), .t (tI b2.Factor), .t (tI b2.Wait), .t (tS enc_SCell b2.Cells)])]⟩) rfl ?_ ?_ ?_)
  · exact TieO.run 8 rfl (.nil (.leaf ⟨rfl, .of rfl rfl⟩))
  · exact TieO.run 8 rfl (.nil (.leaf ⟨rfl, .of rfl rfl⟩))
  refine TieO.nil (.cond rfl ?_ ?_)
  · exact TieS.seq (.region (.run 1 rfl (.nil (.ret ⟨.inl rfl, rfl⟩))))
  · refine TieS.skip (.seq (.seq (.region (.run 1 rfl ?_))))
    refine TieO.nil (.block (.loop (fun t => ⟨[(2, .ptr 2 0), (3, .ptr 3 0), (5, .t (tI t))], [(2, .box [.t (tB a.Active), .t (tB a.Rich), .t (tI a.Factor), .t (tI a.Wait), .t (tS enc_SCell a.Cells)]), (3, .box [.t (tB b2.Active), .t (tB b2.Rich), .t (tI b2.Factor), .t (tI b2.Wait), .t (tS enc_SCell b2.Cells)])]⟩) (fun b e σ' => match b with | .inl t => e = .exit 0 ∧ Sub ⟨[], []⟩ σ' | .inr t => e = .ret ∧ retT tab σ' [.tmp 4] = some (((fun r => .t (tB r)) : Bool → T) t)) (.of rfl rfl) ?_ ?_))
    · intro i
      refine TieS.seq (.seq (.region (.run 5 rfl (.nil ?_))))
      refine TieS.cond rfl ?_ ?_
      · refine TieS.skip (.seq (.block (.seq (TieX.pre fun x hx => ?_))))
        refine TieX.pre fun x2 hx2 => TieS.draw 11 [_, _, _, _, _, _, _, _, _, _, _] [(2, .ptr 2 0), (3, .ptr 3 0), (5, .t (tI i))] [(2, .box [.t (tB a.Active), .t (tB a.Rich), .t (tI a.Factor), .t (tI a.Wait), .t (tS enc_SCell a.Cells)]), (3, .box [.t (tB b2.Active), .t (tB b2.Rich), .t (tI b2.Factor), .t (tI b2.Wait), .t (tS enc_SCell b2.Cells)])] mixed (.of rfl rfl) rfl rfl rfl rfl (.cons (.quiet rfl rfl rfl) (.cons (.quiet rfl rfl rfl) (.cons (.quiet rfl rfl rfl) (.cons (.index hx rfl rfl rfl rfl rfl rfl (fun _ => rfl)) (.cons (.quiet rfl rfl rfl) (.cons (.quiet rfl rfl rfl) (.cons (.quiet rfl rfl rfl) (.cons (.quiet rfl rfl rfl) (.cons (.index hx2 rfl rfl rfl rfl rfl rfl (fun _ => rfl)) (.cons (.quiet rfl rfl rfl) (.cons (.neS [.int .i64 x.Value, .int .i64 x.Count] [.int .i64 x2.Value, .int .i64 x2.Count] (eqv_105 x.Value x.Count x2.Value x2.Count) rfl rfl rfl rfl) (.nil)))))))))))) (.nil (.cond rfl ?_ ?_))
        · exact TieS.seq (.region (.run 1 rfl (.nil (.ret ⟨(fun h => by cases h), rfl, rfl⟩))))
        · refine TieS.skip (.endb (.region (.run 3 rfl (.nil ?_))))
          exact TieS.leaf ⟨rfl, .of rfl rfl⟩
      · exact TieS.exitOut rfl ⟨(fun h => by cases h), rfl, .of rfl rfl⟩
    rintro (i2 | r2) e σ' _ hq
    · obtain ⟨rfl, hs⟩ := hq
      refine TieX.exit rfl (TieX.sub hs ?_)
      exact TieS.seq (.region (.run 1 rfl (.nil (.ret ⟨.inl rfl, rfl⟩))))
    · obtain ⟨rfl, hs⟩ := hq
      exact TieX.ret ⟨.inl rfl, hs⟩
-- magneto/magnetoref38.Same
set_option maxRecDepth 100000 in
theorem tie_magnetoref38_Same (a : SControls) (b2 : SControls) : TieF Tryz.prog 17 [A_SControls a, A_SControls b2] (magnetoref38_Same a b2) (fun r => .t (tB r)) := by
  refine TieF.intro htab 67 [.tmp 4] Tryz.call17 Tryz.func17 rfl rfl rfl (Nat.le_of_ble_eq_true rfl) fun w0 L => ?_
  refine TieS.seq (.region (.run 3 rfl (.nil (.seq ?_))))
  refine TieS.seq (.region (.run 4 rfl (.neS [.int .i64 a.Pedal.Value, .int .i64 a.Pedal.Differ, .bool a.Pedal.Fault] [.int .i64 b2.Pedal.Value, .int .i64 b2.Pedal.Differ, .bool b2.Pedal.Fault] (eqv_35 a.Pedal.Value a.Pedal.Differ a.Pedal.Fault b2.Pedal.Value b2.Pedal.Differ b2.Pedal.Fault) rfl rfl rfl rfl rfl rfl (.run 1 rfl ?_))))
  refine TieO.bind 6 (fun b3 => ⟨[(2, .ptr 2 0), (3, .ptr 3 0), (17, .t (tB b3))], [(2, .box (B_SControls a)), (3, .box (B_SControls b2))]⟩) (TieO.split 11 rfl ?_ ?_) fun b3 _ => ?_
  · exact TieO.run 6 rfl (.nil (.leaf ⟨rfl, .of rfl rfl⟩))
  · exact TieO.run 4 rfl (.neS [.int .i64 a.Idle.Sum] [.int .i64 b2.Idle.Sum] (eqv_37 a.Idle.Sum b2.Idle.Sum) rfl rfl rfl rfl rfl rfl (.run 1 rfl (.nil (.leaf ⟨rfl, .of rfl rfl⟩))))
  refine TieO.run 1 rfl (.bind 7 (fun b4 => ⟨[(2, .ptr 2 0), (3, .ptr 3 0), (25, .t (tB b4))], [(2, .box (B_SControls a)), (3, .box (B_SControls b2))]⟩) (TieO.split 18 rfl ?_ ?_) fun b4 _ => ?_)
  · exact TieO.run 7 rfl (.nil (.leaf ⟨rfl, .of rfl rfl⟩))
  · exact TieO.run 4 rfl (.call _ rfl rfl rfl (tie_magnetoref34_Same a.Probe b2.Probe) (fun _ => rfl) fun v => .run 2 rfl (.nil (.leaf ⟨rfl, .of rfl rfl⟩)))
  refine TieO.run 1 rfl (.selOr (v := (a.Film != b2.Film)) 6 26 (fun b => ⟨[(2, .ptr 2 0), (3, .ptr 3 0), (32, .t (tB b))], [(2, .box (B_SControls a)), (3, .box (B_SControls b2))]⟩) rfl ?_ ?_ ?_)
  · exact TieO.run 6 rfl (.nil (.leaf ⟨rfl, .of rfl rfl⟩))
  · exact TieO.run 6 rfl (.nil (.leaf ⟨rfl, .of rfl rfl⟩))
  refine TieO.run 1 rfl (.bind 6 (fun b5 => ⟨[(2, .ptr 2 0), (3, .ptr 3 0), (39, .t (tB b5))], [(2, .box (B_SControls a)), (3, .box (B_SControls b2))]⟩) (TieO.split 33 rfl ?_ ?_) fun b5 _ => ?_)
  · exact TieO.run 6 rfl (.nil (.leaf ⟨rfl, .of rfl rfl⟩))
  · exact TieO.run 4 rfl (.neS [.int .i64 a.Grant.Torque, .int .i64 a.Grant.Source] [.int .i64 b2.Grant.Torque, .int .i64 b2.Grant.Source] (eqv_43 a.Grant.Torque a.Grant.Source b2.Grant.Torque b2.Grant.Source) rfl rfl rfl rfl rfl rfl (.run 1 rfl (.nil (.leaf ⟨rfl, .of rfl rfl⟩))))
  refine TieO.run 1 rfl (.selOr (v := ((a.Knock.length : Int) != (b2.Knock.length : Int))) 8 40 (fun b => ⟨[(2, .ptr 2 0), (3, .ptr 3 0), (48, .t (tB b))], [(2, .box (B_SControls a)), (3, .box (B_SControls b2))]⟩) rfl ?_ ?_ ?_)
  · exact TieO.run 8 rfl (.nil (.leaf ⟨rfl, .of rfl rfl⟩))
  · exact TieO.run 8 rfl (.nil (.leaf ⟨rfl, .of rfl rfl⟩))
  refine TieO.nil (.cond rfl ?_ ?_)
  · exact TieS.seq (.region (.run 1 rfl (.nil (.ret ⟨.inl rfl, rfl⟩))))
  · refine TieS.skip (.seq (.seq (.region (.run 1 rfl ?_))))
    refine TieO.nil (.block (.loop (fun t => ⟨[(2, .ptr 2 0), (3, .ptr 3 0), (5, .t (tI t))], [(2, .box (B_SControls a)), (3, .box (B_SControls b2))]⟩) (fun b e σ' => match b with | .inl t => e = .exit 0 ∧ Sub ⟨[], []⟩ σ' | .inr t => e = .ret ∧ retT tab σ' [.tmp 4] = some (((fun r => .t (tB r)) : Bool → T) t)) (.of rfl rfl) ?_ ?_))
    · intro i
      refine TieS.seq (.seq (.region (.run 5 rfl (.nil ?_))))
      refine TieS.cond rfl ?_ ?_
      · refine TieS.skip (.seq (.block (.seq (TieX.pre fun x hx => ?_))))
        refine TieX.pre fun x2 hx2 => TieS.draw 11 [_, _, _, _, _, _, _, _, _, _, _] [(2, .ptr 2 0), (3, .ptr 3 0), (5, .t (tI i))] [(2, .box (B_SControls a)), (3, .box (B_SControls b2))] mixed (.of rfl rfl) rfl rfl rfl rfl (.cons (.quiet rfl rfl rfl) (.cons (.quiet rfl rfl rfl) (.cons (.quiet rfl rfl rfl) (.cons (.index hx rfl rfl rfl rfl rfl rfl (fun _ => rfl)) (.cons (.quiet rfl rfl rfl) (.cons (.quiet rfl rfl rfl) (.cons (.quiet rfl rfl rfl) (.cons (.quiet rfl rfl rfl) (.cons (.index hx2 rfl rfl rfl rfl rfl rfl (fun _ => rfl)) (.cons (.quiet rfl rfl rfl) (.cons (.neS [.int .i64 x.Retard, .int .i64 x.Noise, .int .i64 x.Quiet] [.int .i64 x2.Retard, .int .i64 x2.Noise, .int .i64 x2.Quiet] (eqv_95 x.Retard x.Noise x.Quiet x2.Retard x2.Noise x2.Quiet) rfl rfl rfl rfl) (.nil)))))))))))) (.nil (.cond rfl ?_ ?_))
        · exact TieS.seq (.region (.run 1 rfl (.nil (.ret ⟨(fun h => by cases h), rfl, rfl⟩))))
        · refine TieS.skip (.endb (.region (.run 3 rfl (.nil ?_))))
          exact TieS.leaf ⟨rfl, .of rfl rfl⟩
      · exact TieS.exitOut rfl ⟨(fun h => by cases h), rfl, .of rfl rfl⟩
    rintro (i2 | r2) e σ' _ hq
    · obtain ⟨rfl, hs⟩ := hq
      refine TieX.exit rfl (TieX.sub hs ?_)
      exact TieS.seq (.region (.run 1 rfl (.nil (.ret ⟨.inl rfl, rfl⟩))))
    · obtain ⟨rfl, hs⟩ := hq
      exact TieX.ret ⟨.inl rfl, hs⟩
-- magneto/magnetoref37.Valid
set_option maxRecDepth 100000 in
theorem tie_magnetoref37_Valid (p2 : SPedal) : TieF Tryz.prog 70 [A_SPedal p2] (magnetoref37_Valid p2) (fun r => .t (tB r)) := by
  refine TieF.intro htab 37 [.tmp 2] Tryz.call70 Tryz.func70 rfl rfl rfl (Nat.le_of_ble_eq_true rfl) fun w0 L => ?_
  refine TieS.seq (.region (.run 2 rfl (.nil (.seq ?_))))
  refine TieS.seq (.region (.run 4 rfl (.selOr (v := decide (p2.Value > 1000)) 4 6 (fun b => ⟨[(1, .ptr 1 0), (10, .t (tB b))], [(1, .box [.t (tI p2.Value), .t (tI p2.Differ), .t (tB p2.Fault)])]⟩) rfl ?_ ?_ ?_)))
  · exact TieO.run 4 rfl (.nil (.leaf ⟨rfl, .of rfl rfl⟩))
  · exact TieO.run 4 rfl (.nil (.leaf ⟨rfl, .of rfl rfl⟩))
  refine TieO.run 1 rfl (.selOr (v := decide (p2.Differ < 0)) 4 11 (fun b => ⟨[(1, .ptr 1 0), (15, .t (tB b))], [(1, .box [.t (tI p2.Value), .t (tI p2.Differ), .t (tB p2.Fault)])]⟩) rfl ?_ ?_ ?_)
  · exact TieO.run 4 rfl (.nil (.leaf ⟨rfl, .of rfl rfl⟩))
  · exact TieO.run 4 rfl (.nil (.leaf ⟨rfl, .of rfl rfl⟩))
  refine TieO.run 1 rfl (.selOr (v := decide (p2.Differ > 3)) 4 16 (fun b => ⟨[(1, .ptr 1 0), (20, .t (tB b))], [(1, .box [.t (tI p2.Value), .t (tI p2.Differ), .t (tB p2.Fault)])]⟩) rfl ?_ ?_ ?_)
  · exact TieO.run 4 rfl (.nil (.leaf ⟨rfl, .of rfl rfl⟩))
  · exact TieO.run 4 rfl (.nil (.leaf ⟨rfl, .of rfl rfl⟩))
  refine TieO.run 1 rfl (.selOr (v := (!(p2.Fault == (p2.Differ == 3)))) 7 21 (fun b => ⟨[(1, .ptr 1 0), (28, .t (tB b))], [(1, .box [.t (tI p2.Value), .t (tI p2.Differ), .t (tB p2.Fault)])]⟩) rfl ?_ ?_ ?_)
  · exact TieO.run 7 rfl (.nil (.leaf ⟨rfl, .of rfl rfl⟩))
  · exact TieO.run 7 rfl (.nil (.leaf ⟨rfl, .of rfl rfl⟩))
  refine TieO.nil (.cond rfl ?_ ?_)
  · exact TieS.seq (.region (.run 1 rfl (.nil (.ret ⟨.inl rfl, rfl⟩))))
  · refine TieS.skip (.seq (.region (.run 4 rfl (.selOr (v := decide (p2.Value ≤ 200)) 4 32 (fun b => ⟨[(36, .t (tB b))], []⟩) rfl ?_ ?_ ?_))))
    · exact TieO.run 4 rfl (.nil (.leaf ⟨rfl, .of rfl rfl⟩))
    · exact TieO.run 4 rfl (.nil (.leaf ⟨rfl, .of rfl rfl⟩))
    exact TieO.run 1 rfl (.nil (.ret ⟨.inl rfl, rfl⟩))
-- magneto/magnetoref34.between
set_option maxRecDepth 100000 in
theorem tie_magnetoref34_between (n2 : Int) (low : Int) (high : Int) : TieF Tryz.prog 160 [.t (tI n2), .t (tI low), .t (tI high)] (magnetoref34_between n2 low high) (fun r => .t (tB r)) := by
  refine TieF.intro htab 15 [.tmp 6] Tryz.call160 Tryz.func160 rfl rfl rfl (Nat.le_of_ble_eq_true rfl) fun w0 L => ?_
  refine TieS.seq (.region (.run 1 rfl (.nil (.seq ?_))))
  refine TieS.region (.run 4 rfl (.selAnd (v := decide (n2 ≤ high)) 4 10 (fun b => ⟨[(14, .t (tB b))], []⟩) rfl ?_ ?_ ?_))
  · exact TieO.run 4 rfl (.nil (.leaf ⟨rfl, .of rfl rfl⟩))
  · exact TieO.run 4 rfl (.nil (.leaf ⟨rfl, .of rfl rfl⟩))
  exact TieO.run 1 rfl (.nil (.ret ⟨.inl rfl, rfl⟩))
-- magneto/magnetoref34.Valid
set_option maxRecDepth 100000 in
theorem tie_magnetoref34_Valid (p2 : SProbe) : TieF Tryz.prog 71 [A_SProbe p2] (magnetoref34_Valid p2) (fun r => .t (tB r)) := by
  refine TieF.intro htab 59 [.tmp 2] Tryz.call71 Tryz.func71 rfl rfl rfl (Nat.le_of_ble_eq_true rfl) fun w0 L => ?_
  refine TieS.seq (.region (.run 2 rfl (.nil (.seq ?_))))
  refine TieS.seq (.region (.run 2 rfl (.call _ rfl rfl rfl (tie_magnetoref34_between p2.Factor 750 1250) (fun _ => rfl) fun v => .run 2 rfl ?_)))
  refine TieO.bind 5 (fun b2 => ⟨[(1, .ptr 1 0), (13, .t (tB b2))], [(1, .box [.t (tB p2.Active), .t (tB p2.Rich), .t (tI p2.Factor), .t (tI p2.Wait), .t (tS enc_SCell p2.Cells)])]⟩) (TieO.split 8 rfl ?_ ?_) fun b2 _ => ?_
  · exact TieO.run 5 rfl (.nil (.leaf ⟨rfl, .of rfl rfl⟩))
  · exact TieO.run 2 rfl (.call _ rfl rfl rfl (tie_magnetoref34_between p2.Wait 0 1000) (fun _ => rfl) fun v2 => .run 2 rfl (.nil (.leaf ⟨rfl, .of rfl rfl⟩)))
  refine TieO.run 1 rfl (.selOr (v := ((p2.Cells.length : Int) != 9)) 5 14 (fun b => ⟨[(1, .ptr 1 0), (19, .t (tB b))], [(1, .box [.t (tB p2.Active), .t (tB p2.Rich), .t (tI p2.Factor), .t (tI p2.Wait), .t (tS enc_SCell p2.Cells)])]⟩) rfl ?_ ?_ ?_)
  · exact TieO.run 5 rfl (.nil (.leaf ⟨rfl, .of rfl rfl⟩))
  · exact TieO.run 5 rfl (.nil (.leaf ⟨rfl, .of rfl rfl⟩))
  refine TieO.nil (.cond rfl ?_ ?_)
  · exact TieS.seq (.region (.run 1 rfl (.nil (.ret ⟨.inl rfl, rfl⟩))))
  · refine TieS.skip (.seq (.seq (.region (.run 1 rfl ?_))))
    refine TieO.nil (.block (.loop (fun t => ⟨[(1, .ptr 1 0), (3, .t (tI t))], [(1, .box [.t (tB p2.Active), .t (tB p2.Rich), .t (tI p2.Factor), .t (tI p2.Wait), .t (tS enc_SCell p2.Cells)])]⟩) (fun b e σ' => match b with | .inl t => e = .exit 0 ∧ Sub ⟨[(1, .ptr 1 0)], [(1, .box [.t (tB p2.Active), .t (tB p2.Rich), .t (tI p2.Factor), .t (tI p2.Wait), .t (tS enc_SCell p2.Cells)])]⟩ σ' | .inr t => e = .ret ∧ retT tab σ' [.tmp 2] = some (((fun r => .t (tB r)) : Bool → T) t)) (.of rfl rfl) ?_ ?_))
    · intro i
      refine TieS.seq (.seq (.region (.run 2 rfl (.nil ?_))))
      refine TieS.cond rfl ?_ ?_
      · refine TieS.skip (.seq (.block (.seq (.region ?_))))
        refine TieO.run 3 rfl (.index rfl rfl rfl rfl rfl rfl rfl rfl (fun _ => rfl) fun x hx => .run 2 rfl (.call _ rfl rfl rfl (tie_magnetoref34_between x.Value (-100) 100) (fun _ => rfl) fun v3 => .run 2 rfl ?_))
        refine TieO.bind 9 (fun b3 => ⟨[(1, .ptr 1 0), (3, .t (tI i)), (41, .t (tB b3))], [(1, .box [.t (tB p2.Active), .t (tB p2.Rich), .t (tI p2.Factor), .t (tI p2.Wait), .t (tS enc_SCell p2.Cells)])]⟩) (TieO.split 32 rfl ?_ ?_) fun b3 _ => ?_
        · exact TieO.run 9 rfl (.nil (.leaf ⟨rfl, .of rfl rfl⟩))
        · refine TieO.run 3 rfl (.indexH hx rfl rfl rfl rfl rfl rfl rfl rfl (fun _ => rfl) (.run 2 rfl (.call _ rfl rfl rfl (tie_magnetoref34_between x.Count 0 1000) (fun _ => rfl) fun v4 => .run 2 rfl ?_)))
          exact TieO.nil (.leaf ⟨rfl, .of rfl rfl⟩)
        refine TieO.nil (.cond rfl ?_ ?_)
        · exact TieS.seq (.region (.run 1 rfl (.nil (.ret ⟨(fun h => by cases h), rfl, rfl⟩))))
        · refine TieS.skip (.endb (.region (.run 3 rfl (.nil ?_))))
          exact TieS.leaf ⟨rfl, .of rfl rfl⟩
      · exact TieS.exitOut rfl ⟨(fun h => by cases h), rfl, .of rfl rfl⟩
    rintro (i2 | r2) e σ' _ hq
    · obtain ⟨rfl, hs⟩ := hq
      refine TieX.exit rfl (TieX.sub hs ?_)
      refine TieS.seq (.region (.run 3 rfl (.bind 14 (fun b4 => ⟨[(58, .t (tB b4))], []⟩) (TieO.split 44 rfl ?_ ?_) fun b4 _ => ?_)))
      · exact TieO.run 14 rfl (.nil (.leaf ⟨rfl, .of rfl rfl⟩))
      · refine TieO.run 4 rfl (.selAnd (v := (p2.Wait == 0)) 4 48 (fun b => ⟨[(1, .ptr 1 0), (44, .t (tB false)), (52, .t (tB b))], [(1, .box [.t (tB p2.Active), .t (tB p2.Rich), .t (tI p2.Factor), .t (tI p2.Wait), .t (tS enc_SCell p2.Cells)])]⟩) rfl ?_ ?_ ?_)
        · exact TieO.run 4 rfl (.nil (.leaf ⟨rfl, .of rfl rfl⟩))
        · exact TieO.run 4 rfl (.nil (.leaf ⟨rfl, .of rfl rfl⟩))
        refine TieO.run 1 rfl (.selAnd (v := (!p2.Rich)) 4 53 (fun b => ⟨[(44, .t (tB false)), (57, .t (tB b))], []⟩) rfl ?_ ?_ ?_)
        · exact TieO.run 4 rfl (.nil (.leaf ⟨rfl, .of rfl rfl⟩))
        · exact TieO.run 4 rfl (.nil (.leaf ⟨rfl, .of rfl rfl⟩))
        exact TieO.run 1 rfl (.nil (.leaf ⟨rfl, .of rfl rfl⟩))
      exact TieO.run 1 rfl (.nil (.ret ⟨.inl rfl, rfl⟩))
    · obtain ⟨rfl, hs⟩ := hq
      exact TieX.ret ⟨.inl rfl, hs⟩
-- magneto/magnetoref07.Integral
set_option maxRecDepth 100000 in
theorem tie_magnetoref07_Integral (s : SIntegral) : TieF Tryz.prog 72 [A_SIntegral s] (magnetoref07_Integral s) (fun r => .t (tB r)) := by
  refine TieF.intro htab 11 [.tmp 2] Tryz.call72 Tryz.func72 rfl rfl rfl (Nat.le_of_ble_eq_true rfl) fun w0 L => ?_
  refine TieS.seq (.region (.run 2 rfl (.nil (.seq ?_))))
  refine TieS.region (.run 4 rfl (.selAnd (v := decide (s.Sum ≤ 4398046511104)) 4 6 (fun b => ⟨[(10, .t (tB b))], []⟩) rfl ?_ ?_ ?_))
  · exact TieO.run 4 rfl (.nil (.leaf ⟨rfl, .of rfl rfl⟩))
  · exact TieO.run 4 rfl (.nil (.leaf ⟨rfl, .of rfl rfl⟩))
  exact TieO.run 1 rfl (.nil (.ret ⟨.inl rfl, rfl⟩))
-- magneto/magnetoref32.Intensity
set_option maxRecDepth 100000 in
theorem tie_magnetoref32_Intensity (n2 : Int) : TieF Tryz.prog 79 [.t (tI n2)] (magnetoref32_Intensity n2) (fun r => .t (tB r)) := by
  refine TieF.intro htab 9 [.tmp 2] Tryz.call79 Tryz.func79 rfl rfl rfl (Nat.le_of_ble_eq_true rfl) fun w0 L => ?_
  refine TieS.seq (.region (.run 1 rfl (.nil (.seq ?_))))
  refine TieS.region (.run 3 rfl (.selAnd (v := decide (n2 ≤ 4095)) 3 5 (fun b => ⟨[(8, .t (tB b))], []⟩) rfl ?_ ?_ ?_))
  · exact TieO.run 3 rfl (.nil (.leaf ⟨rfl, .of rfl rfl⟩))
  · exact TieO.run 3 rfl (.nil (.leaf ⟨rfl, .of rfl rfl⟩))
  exact TieO.run 1 rfl (.nil (.ret ⟨.inl rfl, rfl⟩))
-- magneto/magnetoref32.Valid
set_option maxRecDepth 100000 in
theorem tie_magnetoref32_Valid (k : SKnock) : TieF Tryz.prog 74 [A_SKnock k] (magnetoref32_Valid k) (fun r => .t (tB r)) := by
  refine TieF.intro htab 26 [.tmp 2] Tryz.call74 Tryz.func74 rfl rfl rfl (Nat.le_of_ble_eq_true rfl) fun w0 L => ?_
  refine TieS.seq (.region (.run 2 rfl (.nil (.seq ?_))))
  refine TieS.region (.run 4 rfl (.selAnd (v := decide (k.Retard ≤ 960)) 4 6 (fun b => ⟨[(1, .ptr 1 0), (10, .t (tB b))], [(1, .box [.t (tI k.Retard), .t (tI k.Noise), .t (tI k.Quiet)])]⟩) rfl ?_ ?_ ?_))
  · exact TieO.run 4 rfl (.nil (.leaf ⟨rfl, .of rfl rfl⟩))
  · exact TieO.run 4 rfl (.nil (.leaf ⟨rfl, .of rfl rfl⟩))
  refine TieO.run 1 rfl (.bind 4 (fun b2 => ⟨[(1, .ptr 1 0), (15, .t (tB b2))], [(1, .box [.t (tI k.Retard), .t (tI k.Noise), .t (tI k.Quiet)])]⟩) (TieO.split 11 rfl ?_ ?_) fun b2 _ => ?_)
  · exact TieO.run 2 rfl (.call _ rfl rfl rfl (tie_magnetoref32_Intensity k.Noise) (fun _ => rfl) fun v => .run 1 rfl (.nil (.leaf ⟨rfl, .of rfl rfl⟩)))
  · exact TieO.run 4 rfl (.nil (.leaf ⟨rfl, .of rfl rfl⟩))
  refine TieO.run 1 rfl (.selAnd (v := decide (k.Quiet ≥ 0)) 4 16 (fun b => ⟨[(1, .ptr 1 0), (20, .t (tB b))], [(1, .box [.t (tI k.Retard), .t (tI k.Noise), .t (tI k.Quiet)])]⟩) rfl ?_ ?_ ?_)
  · exact TieO.run 4 rfl (.nil (.leaf ⟨rfl, .of rfl rfl⟩))
  · exact TieO.run 4 rfl (.nil (.leaf ⟨rfl, .of rfl rfl⟩))
  refine TieO.run 1 rfl (.selAnd (v := decide (k.Quiet ≤ 99)) 4 21 (fun b => ⟨[(25, .t (tB b))], []⟩) rfl ?_ ?_ ?_)
  · exact TieO.run 4 rfl (.nil (.leaf ⟨rfl, .of rfl rfl⟩))
  · exact TieO.run 4 rfl (.nil (.leaf ⟨rfl, .of rfl rfl⟩))
  exact TieO.run 1 rfl (.nil (.ret ⟨.inl rfl, rfl⟩))
-- magneto/magnetoref36.Torque
set_option maxRecDepth 100000 in
theorem tie_magnetoref36_Torque (t2 : Int) : TieF Tryz.prog 75 [.t (tI t2)] (magnetoref36_Torque t2) (fun r => .t (tB r)) := by
  refine TieF.intro htab 9 [.tmp 2] Tryz.call75 Tryz.func75 rfl rfl rfl (Nat.le_of_ble_eq_true rfl) fun w0 L => ?_
  refine TieS.seq (.region (.run 1 rfl (.nil (.seq ?_))))
  refine TieS.region (.run 3 rfl (.selAnd (v := decide (t2 ≤ 10000)) 3 5 (fun b => ⟨[(8, .t (tB b))], []⟩) rfl ?_ ?_ ?_))
  · exact TieO.run 3 rfl (.nil (.leaf ⟨rfl, .of rfl rfl⟩))
  · exact TieO.run 3 rfl (.nil (.leaf ⟨rfl, .of rfl rfl⟩))
  exact TieO.run 1 rfl (.nil (.ret ⟨.inl rfl, rfl⟩))
-- magneto/magnetoref38.Good
set_option maxRecDepth 100000 in
theorem tie_magnetoref38_Good (e2 : SEngine) (c : SControls) : TieF Tryz.prog 19 [A_SEngine e2, A_SControls c] (magnetoref38_Good e2 c) (fun r => .t (tB r)) := by
  refine TieF.intro htab 66 [.tmp 4] Tryz.call19 Tryz.func19 rfl rfl rfl (Nat.le_of_ble_eq_true rfl) fun w0 L => ?_
  refine TieS.seq (.region (.run 3 rfl (.nil (.seq ?_))))
  refine TieS.seq (.region (.run 1 rfl (.call _ rfl rfl rfl (tie_magnetoref23_Valid e2) (fun _ => rfl) fun v => .run 2 rfl ?_)))
  refine TieO.bind 5 (fun b2 => ⟨[(2, .ptr 2 0), (3, .ptr 3 0), (14, .t (tB b2))], [(2, .box [.t (tS Pv.encI e2.Order), .t (tI e2.First)]), (3, .box (B_SControls c))]⟩) (TieO.split 9 rfl ?_ ?_) fun b2 _ => ?_
  · exact TieO.run 5 rfl (.nil (.leaf ⟨rfl, .of rfl rfl⟩))
  · exact TieO.run 2 rfl (.call _ rfl rfl rfl (tie_magnetoref37_Valid c.Pedal) (fun _ => rfl) fun v2 => .run 2 rfl (.nil (.leaf ⟨rfl, .of rfl rfl⟩)))
  refine TieO.run 1 rfl (.bind 5 (fun b3 => ⟨[(2, .ptr 2 0), (3, .ptr 3 0), (20, .t (tB b3))], [(2, .box [.t (tS Pv.encI e2.Order), .t (tI e2.First)]), (3, .box (B_SControls c))]⟩) (TieO.split 15 rfl ?_ ?_) fun b3 _ => ?_)
  · exact TieO.run 5 rfl (.nil (.leaf ⟨rfl, .of rfl rfl⟩))
  · exact TieO.run 2 rfl (.call _ rfl rfl rfl (tie_magnetoref34_Valid c.Probe) (fun _ => rfl) fun v3 => .run 2 rfl (.nil (.leaf ⟨rfl, .of rfl rfl⟩)))
  refine TieO.run 1 rfl (.bind 5 (fun b4 => ⟨[(2, .ptr 2 0), (3, .ptr 3 0), (26, .t (tB b4))], [(2, .box [.t (tS Pv.encI e2.Order), .t (tI e2.First)]), (3, .box (B_SControls c))]⟩) (TieO.split 21 rfl ?_ ?_) fun b4 _ => ?_)
  · exact TieO.run 5 rfl (.nil (.leaf ⟨rfl, .of rfl rfl⟩))
  · exact TieO.run 2 rfl (.call _ rfl rfl rfl (tie_magnetoref07_Integral c.Idle) (fun _ => rfl) fun v4 => .run 2 rfl (.nil (.leaf ⟨rfl, .of rfl rfl⟩)))
  refine TieO.run 1 rfl (.selOr (v := ((c.Knock.length : Int) != (e2.Order.length : Int))) 8 27 (fun b => ⟨[(3, .ptr 3 0), (35, .t (tB b))], [(3, .box (B_SControls c))]⟩) rfl ?_ ?_ ?_)
  · exact TieO.run 8 rfl (.nil (.leaf ⟨rfl, .of rfl rfl⟩))
  · exact TieO.run 8 rfl (.nil (.leaf ⟨rfl, .of rfl rfl⟩))
  refine TieO.run 1 rfl (.bind 5 (fun b5 => ⟨[(3, .ptr 3 0), (41, .t (tB b5))], [(3, .box (B_SControls c))]⟩) (TieO.split 36 rfl ?_ ?_) fun b5 _ => ?_)
  · exact TieO.run 5 rfl (.nil (.leaf ⟨rfl, .of rfl rfl⟩))
  · exact TieO.run 2 rfl (.call _ rfl rfl rfl (tie_magnetoref38_between c.Film 0 1073741824) (fun _ => rfl) fun v5 => .run 2 rfl (.nil (.leaf ⟨rfl, .of rfl rfl⟩)))
  refine TieO.nil (.cond rfl ?_ ?_)
  · exact TieS.seq (.region (.run 1 rfl (.nil (.ret ⟨.inl rfl, rfl⟩))))
  · refine TieS.skip (.seq (.seq (.region (.run 1 rfl ?_))))
    refine TieO.nil (.block (.loop (fun t => ⟨[(3, .ptr 3 0), (5, .t (tI t))], [(3, .box (B_SControls c))]⟩) (fun b e σ' => match b with | .inl t => e = .exit 0 ∧ Sub ⟨[(3, .ptr 3 0)], [(3, .box (B_SControls c))]⟩ σ' | .inr t => e = .ret ∧ retT tab σ' [.tmp 4] = some (((fun r => .t (tB r)) : Bool → T) t)) (.of rfl rfl) ?_ ?_))
    · intro i
      refine TieS.seq (.seq (.region (.run 5 rfl (.nil ?_))))
      refine TieS.cond rfl ?_ ?_
      · refine TieS.skip (.seq (.block (.seq (.region ?_))))
        refine TieO.run 3 rfl (.index rfl rfl rfl rfl rfl rfl rfl rfl (fun _ => rfl) fun x hx => .run 1 rfl (.call _ rfl rfl rfl (tie_magnetoref32_Valid x) (fun _ => rfl) fun v6 => .run 1 rfl ?_))
        refine TieO.nil (.cond rfl ?_ ?_)
        · exact TieS.seq (.region (.run 1 rfl (.nil (.ret ⟨(fun h => by cases h), rfl, rfl⟩))))
        · refine TieS.skip (.endb (.region (.run 3 rfl (.nil ?_))))
          exact TieS.leaf ⟨rfl, .of rfl rfl⟩
      · exact TieS.exitOut rfl ⟨(fun h => by cases h), rfl, .of rfl rfl⟩
    rintro (i2 | r2) e σ' _ hq
    · obtain ⟨rfl, hs⟩ := hq
      refine TieX.exit rfl (TieX.sub hs ?_)
      refine TieS.seq (.region (.run 3 rfl (.call _ rfl rfl rfl (tie_magnetoref36_Torque c.Grant.Torque) (fun _ => rfl) fun v7 => .run 1 rfl ?_)))
      refine TieO.bind 5 (fun b6 => ⟨[(65, .t (tB b6))], []⟩) (TieO.split 60 rfl ?_ ?_) fun b6 _ => ?_
      · exact TieO.run 3 rfl (.call _ rfl rfl rfl (tie_magnetoref38_between c.Grant.Source (-1) 15) (fun _ => rfl) fun v8 => .run 1 rfl (.nil (.leaf ⟨rfl, .of rfl rfl⟩)))
      · exact TieO.run 5 rfl (.nil (.leaf ⟨rfl, .of rfl rfl⟩))
      exact TieO.run 1 rfl (.nil (.ret ⟨.inl rfl, rfl⟩))
    · obtain ⟨rfl, hs⟩ := hq
      exact TieX.ret ⟨.inl rfl, hs⟩
-- slices.IndexFunc[[]magneto/api.Request,magneto/api.Request]
set_option maxRecDepth 100000 in
theorem tie_slices_IndexFunc_sRequest (s : List SRequest) (n2 : Nat) (cs : List (List Tree)) (f2 : SRequest → Option Bool) (h2 : ∀ x0, TieF Tryz.prog n2 ([A_SRequest x0] ++ cs.map T.el) (f2 x0) (fun r => .t (tB r))) : TieF Tryz.prog 161 [.t (tS enc_SRequest s), .fz n2 cs] (slices_IndexFunc_sRequest s f2) (fun r => .t (tI r)) := by
  refine TieF.intro htab 19 [.tmp 4] Tryz.call161 Tryz.func161 rfl rfl rfl (Nat.le_of_ble_eq_true rfl) fun w0 L => ?_
  refine TieS.seq (.region (.run 1 rfl (.nil (.seq ?_))))
  refine TieS.seq (.region (.run 3 rfl (.nil (.block ?_))))
  refine TieS.loop (fun p => ⟨[(0, .t (tS enc_SRequest s)), (1, .fz n2 cs), (7, .t (tI (s.length : Int))), (8, .t (tI p.1))], []⟩) (fun b e σ' => match b with | .inl t => e = .exit 0 ∧ Sub ⟨[], []⟩ σ' | .inr t => e = .ret ∧ retT tab σ' [.tmp 4] = some (((fun r => .t (tI r)) : Int → T) t)) (.of rfl rfl) ?_ ?_
  · rintro ⟨i, s2⟩
    refine TieS.seq (.region (.run 1 rfl (.nil (.seq ?_))))
    refine TieS.cond rfl ?_ ?_
    · refine TieS.skip (.seq (TieX.sub (σ' := ⟨[(0, .t (tS enc_SRequest s)), (1, .fz n2 cs), (7, .t (tI (s.length : Int))), (8, .t (tI i))], []⟩) (.of rfl rfl) (TieS.bind (Q₁ := fun f e σ' => match f with | .next t => e = .normal ∧ Sub ⟨[(0, .t (tS enc_SRequest s)), (1, .fz n2 cs), (7, .t (tI (s.length : Int))), (8, .t (tI i))], []⟩ σ' | .brk t => e = .exit 0 ∧ Sub ⟨[], []⟩ σ' | .ret t => e = .ret ∧ retT tab σ' [.tmp 4] = some (((fun r => .t (tI r)) : Int → T) t)) ?_ ?_)))
      · refine TieS.block (.seq (.region (.run 2 rfl (.nil ?_))))
        refine TieS.seq (.region (.run 3 rfl (.index rfl rfl rfl rfl rfl rfl rfl rfl (fun _ => rfl) fun x hx => .run 1 rfl ?_)))
        refine TieO.call _ rfl rfl rfl (h2 x) (fun _ => rfl) fun v => .nil (.cond rfl ?_ ?_)
        · exact TieS.seq (.region (.run 2 rfl (.nil (.ret ⟨rfl, rfl⟩))))
        · exact TieS.skip (.endb (.leaf ⟨rfl, .of rfl rfl⟩))
      rintro (t | t | t) e σ' _ hq
      · obtain ⟨rfl, hs⟩ := hq
        exact TieX.sub hs (TieS.region (.run 2 rfl (.nil (.leaf ⟨rfl, .of rfl rfl⟩))))
      · obtain ⟨rfl, hs⟩ := hq
        exact TieX.exitOut rfl ⟨(fun h => by cases h), rfl, hs⟩
      · obtain ⟨rfl, hs⟩ := hq
        exact TieX.ret ⟨(fun h => by cases h), rfl, hs⟩
    · exact TieS.exitOut rfl ⟨(fun h => by cases h), rfl, .of rfl rfl⟩
  rintro (s3 | r2) e σ' _ hq
  · obtain ⟨rfl, hs⟩ := hq
    refine TieX.exit rfl (TieX.sub hs ?_)
    exact TieS.seq (.region (.run 1 rfl (.nil (.ret ⟨.inl rfl, rfl⟩))))
  · obtain ⟨rfl, hs⟩ := hq
    exact TieX.ret ⟨.inl rfl, hs⟩
-- slices.ContainsFunc[[]magneto/api.Request,magneto/api.Request]
set_option maxRecDepth 100000 in
theorem tie_slices_ContainsFunc_sRequest (s : List SRequest) (n2 : Nat) (cs : List (List Tree)) (f2 : SRequest → Option Bool) (h2 : ∀ x0, TieF Tryz.prog n2 ([A_SRequest x0] ++ cs.map T.el) (f2 x0) (fun r => .t (tB r))) : TieF Tryz.prog 76 [.t (tS enc_SRequest s), .fz n2 cs] (slices_ContainsFunc_sRequest s f2) (fun r => .t (tB r)) := by
  refine TieF.intro htab 9 [.tmp 4] Tryz.call76 Tryz.func76 rfl rfl rfl (Nat.le_of_ble_eq_true rfl) fun w0 L => ?_
  refine TieS.seq (.region (.run 1 rfl (.nil (.seq ?_))))
  refine TieS.region (.run 2 rfl (.call _ rfl rfl rfl (tie_slices_IndexFunc_sRequest s n2 cs f2 h2) (fun _ => rfl) fun v => .run 2 rfl (.nil ?_)))
  exact TieS.ret ⟨.inl rfl, rfl⟩
-- magneto/arbiter.torque
set_option maxRecDepth 100000 in
theorem tie_arbiter_torque (t2 : Int) : TieF Tryz.prog 128 [.t (tI t2)] (arbiter_torque t2) (fun r => .t (tB r)) := by
  refine TieF.intro htab 9 [.tmp 2] Tryz.call128 Tryz.func128 rfl rfl rfl (Nat.le_of_ble_eq_true rfl) fun w0 L => ?_
  refine TieS.seq (.region (.run 1 rfl (.nil (.seq ?_))))
  refine TieS.region (.run 3 rfl (.selAnd (v := decide (t2 ≤ 10000)) 3 5 (fun b => ⟨[(8, .t (tB b))], []⟩) rfl ?_ ?_ ?_))
  · exact TieO.run 3 rfl (.nil (.leaf ⟨rfl, .of rfl rfl⟩))
  · exact TieO.run 3 rfl (.nil (.leaf ⟨rfl, .of rfl rfl⟩))
  exact TieO.run 1 rfl (.nil (.ret ⟨.inl rfl, rfl⟩))
-- magneto/arbiter.Valid
set_option maxRecDepth 100000 in
theorem tie_arbiter_Valid (r2 : SRequest) : TieF Tryz.prog 78 [A_SRequest r2] (arbiter_Valid r2) (fun r => .t (tB r)) := by
  refine TieF.intro htab 45 [.tmp 2] Tryz.call78 Tryz.func78 rfl rfl rfl (Nat.le_of_ble_eq_true rfl) fun w0 L => ?_
  refine TieS.seq (.region (.run 2 rfl (.nil (.seq ?_))))
  refine TieS.seq (.region (.run 4 rfl (.selOr (v := decide (r2.Source > 15)) 4 6 (fun b => ⟨[(1, .ptr 1 0), (10, .t (tB b))], [(1, .box [.t (tI r2.Source), .t (tI r2.Kind), .t (tI r2.Torque), .t (tI r2.Priority)])]⟩) rfl ?_ ?_ ?_)))
  · exact TieO.run 4 rfl (.nil (.leaf ⟨rfl, .of rfl rfl⟩))
  · exact TieO.run 4 rfl (.nil (.leaf ⟨rfl, .of rfl rfl⟩))
  refine TieO.run 1 rfl (.selOr (v := decide (r2.Priority < 0)) 4 11 (fun b => ⟨[(1, .ptr 1 0), (15, .t (tB b))], [(1, .box [.t (tI r2.Source), .t (tI r2.Kind), .t (tI r2.Torque), .t (tI r2.Priority)])]⟩) rfl ?_ ?_ ?_)
  · exact TieO.run 4 rfl (.nil (.leaf ⟨rfl, .of rfl rfl⟩))
  · exact TieO.run 4 rfl (.nil (.leaf ⟨rfl, .of rfl rfl⟩))
  refine TieO.run 1 rfl (.selOr (v := decide (r2.Priority > 15)) 4 16 (fun b => ⟨[(1, .ptr 1 0), (20, .t (tB b))], [(1, .box [.t (tI r2.Source), .t (tI r2.Kind), .t (tI r2.Torque), .t (tI r2.Priority)])]⟩) rfl ?_ ?_ ?_)
  · exact TieO.run 4 rfl (.nil (.leaf ⟨rfl, .of rfl rfl⟩))
  · exact TieO.run 4 rfl (.nil (.leaf ⟨rfl, .of rfl rfl⟩))
  refine TieO.run 1 rfl (.bind 5 (fun b2 => ⟨[(1, .ptr 1 0), (26, .t (tB b2))], [(1, .box [.t (tI r2.Source), .t (tI r2.Kind), .t (tI r2.Torque), .t (tI r2.Priority)])]⟩) (TieO.split 21 rfl ?_ ?_) fun b2 _ => ?_)
  · exact TieO.run 5 rfl (.nil (.leaf ⟨rfl, .of rfl rfl⟩))
  · exact TieO.run 2 rfl (.call _ rfl rfl rfl (tie_arbiter_torque r2.Torque) (fun _ => rfl) fun v => .run 2 rfl (.nil (.leaf ⟨rfl, .of rfl rfl⟩)))
  refine TieO.nil (.cond rfl ?_ ?_)
  · exact TieS.seq (.region (.run 1 rfl (.nil (.ret ⟨.inl rfl, rfl⟩))))
  · refine TieS.skip (.seq (.region (.run 4 rfl (.bind 14 (fun b4 => ⟨[(44, .t (tB b4))], []⟩) (TieO.split 30 rfl ?_ ?_) fun b4 _ => ?_))))
    · exact TieO.run 14 rfl (.nil (.leaf ⟨rfl, .of rfl rfl⟩))
    · refine TieO.run 4 rfl (.bind 9 (fun b3 => ⟨[(30, .t (tB false)), (43, .t (tB b3))], []⟩) (TieO.split 34 rfl ?_ ?_) fun b3 _ => ?_)
      · refine TieO.run 4 rfl (.selOr (v := (r2.Kind == 3)) 4 38 (fun b => ⟨[(30, .t (tB false)), (34, .t (tB true)), (42, .t (tB b))], []⟩) rfl ?_ ?_ ?_)
        · exact TieO.run 4 rfl (.nil (.leaf ⟨rfl, .of rfl rfl⟩))
        · exact TieO.run 4 rfl (.nil (.leaf ⟨rfl, .of rfl rfl⟩))
        exact TieO.run 1 rfl (.nil (.leaf ⟨rfl, .of rfl rfl⟩))
      · exact TieO.run 9 rfl (.nil (.leaf ⟨rfl, .of rfl rfl⟩))
      exact TieO.run 1 rfl (.nil (.leaf ⟨rfl, .of rfl rfl⟩))
    exact TieO.run 1 rfl (.nil (.ret ⟨.inl rfl, rfl⟩))
-- magneto/control.Check$1
set_option maxRecDepth 100000 in
theorem tie_control_Check_1 (r2 : SRequest) : TieF Tryz.prog 77 [A_SRequest r2] (control_Check_1 r2) (fun r => .t (tB r)) := by
  refine TieF.intro htab 6 [.tmp 2] Tryz.call77 Tryz.func77 rfl rfl rfl (Nat.le_of_ble_eq_true rfl) fun w0 L => ?_
  refine TieS.seq (.region (.run 2 rfl (.nil (.seq ?_))))
  refine TieS.region (.run 1 rfl (.call _ rfl rfl rfl (tie_arbiter_Valid r2) (fun _ => rfl) fun v => .run 2 rfl (.nil ?_)))
  exact TieS.ret ⟨.inl rfl, rfl⟩
-- magneto/control.Check
set_option maxRecDepth 100000 in
theorem tie_control_Check (i : SInputs) (cylinders : Int) : TieF Tryz.prog 20 [A_SInputs i, .t (tI cylinders)] (control_Check i cylinders) (fun r => .t (tB r)) := by
  refine TieF.intro htab 62 [.tmp 4] Tryz.call20 Tryz.func20 rfl rfl rfl (Nat.le_of_ble_eq_true rfl) fun w0 L => ?_
  refine TieS.seq (.region (.run 2 rfl (.nil (.seq ?_))))
  refine TieS.seq (.region (.run 1 rfl (.call _ rfl rfl rfl (tie_control_in cylinders 1 8) (fun _ => rfl) fun v => .run 2 rfl ?_)))
  refine TieO.selOr (v := ((i.Intensity.length : Int) != cylinders)) 6 9 (fun b => ⟨[(2, .ptr 2 0), (15, .t (tB b))], [(2, .box (B_SInputs i))]⟩) rfl ?_ ?_ ?_
  · exact TieO.run 6 rfl (.nil (.leaf ⟨rfl, .of rfl rfl⟩))
  · exact TieO.run 6 rfl (.nil (.leaf ⟨rfl, .of rfl rfl⟩))
  refine TieO.run 1 rfl (.selOr (v := decide ((i.Requests.length : Int) > 30)) 5 16 (fun b => ⟨[(2, .ptr 2 0), (21, .t (tB b))], [(2, .box (B_SInputs i))]⟩) rfl ?_ ?_ ?_)
  · exact TieO.run 5 rfl (.nil (.leaf ⟨rfl, .of rfl rfl⟩))
  · exact TieO.run 5 rfl (.nil (.leaf ⟨rfl, .of rfl rfl⟩))
  refine TieO.nil (.cond rfl ?_ ?_)
  · exact TieS.seq (.region (.run 1 rfl (.nil (.ret ⟨.inl rfl, rfl⟩))))
  · refine TieS.skip (.seq (.region (.run 2 rfl (.call _ rfl rfl rfl (tie_control_in i.Speed 0 12000) (fun _ => rfl) fun v2 => ?_))))
    refine TieO.run 1 rfl (.bind 4 (fun b2 => ⟨[(2, .ptr 2 0), (29, .t (tB b2))], [(2, .box (B_SInputs i))]⟩) (TieO.split 25 rfl ?_ ?_) fun b2 _ => ?_)
    · exact TieO.run 2 rfl (.call _ rfl rfl rfl (tie_control_in i.Pressure 50 3000) (fun _ => rfl) fun v3 => .run 1 rfl (.nil (.leaf ⟨rfl, .of rfl rfl⟩)))
    · exact TieO.run 4 rfl (.nil (.leaf ⟨rfl, .of rfl rfl⟩))
    refine TieO.run 1 rfl (.bind 4 (fun b3 => ⟨[(2, .ptr 2 0), (34, .t (tB b3))], [(2, .box (B_SInputs i))]⟩) (TieO.split 30 rfl ?_ ?_) fun b3 _ => ?_)
    · exact TieO.run 2 rfl (.call _ rfl rfl rfl (tie_control_in i.AirTemp (-40) 150) (fun _ => rfl) fun v4 => .run 1 rfl (.nil (.leaf ⟨rfl, .of rfl rfl⟩)))
    · exact TieO.run 4 rfl (.nil (.leaf ⟨rfl, .of rfl rfl⟩))
    refine TieO.run 1 rfl (.bind 4 (fun b4 => ⟨[(2, .ptr 2 0), (39, .t (tB b4))], [(2, .box (B_SInputs i))]⟩) (TieO.split 35 rfl ?_ ?_) fun b4 _ => ?_)
    · exact TieO.run 2 rfl (.call _ rfl rfl rfl (tie_control_in i.Coolant (-40) 150) (fun _ => rfl) fun v5 => .run 1 rfl (.nil (.leaf ⟨rfl, .of rfl rfl⟩)))
    · exact TieO.run 4 rfl (.nil (.leaf ⟨rfl, .of rfl rfl⟩))
    refine TieO.run 1 rfl (.bind 4 (fun b5 => ⟨[(2, .ptr 2 0), (44, .t (tB b5))], [(2, .box (B_SInputs i))]⟩) (TieO.split 40 rfl ?_ ?_) fun b5 _ => ?_)
    · exact TieO.run 2 rfl (.call _ rfl rfl rfl (tie_control_in i.Voltage 0 20000) (fun _ => rfl) fun v6 => .run 1 rfl (.nil (.leaf ⟨rfl, .of rfl rfl⟩)))
    · exact TieO.run 4 rfl (.nil (.leaf ⟨rfl, .of rfl rfl⟩))
    refine TieO.run 1 rfl (.bind 4 (fun b6 => ⟨[(2, .ptr 2 0), (49, .t (tB b6))], [(2, .box (B_SInputs i))]⟩) (TieO.split 45 rfl ?_ ?_) fun b6 _ => ?_)
    · exact TieO.run 2 rfl (.call _ rfl rfl rfl (tie_control_in i.Lambda 0 20000) (fun _ => rfl) fun v7 => .run 1 rfl (.nil (.leaf ⟨rfl, .of rfl rfl⟩)))
    · exact TieO.run 4 rfl (.nil (.leaf ⟨rfl, .of rfl rfl⟩))
    refine TieO.run 1 rfl (.nil (.seq (.region (.run 2 rfl ?_))))
    refine TieO.bind 4 (fun b7 => ⟨[(2, .ptr 2 0), (55, .t (tB b7))], [(2, .box (B_SInputs i))]⟩) (TieO.split 51 rfl ?_ ?_) fun b7 _ => ?_
    · exact TieO.run 2 rfl (.call _ rfl rfl rfl (tie_control_all i.Intensity 0 4095) (fun _ => rfl) fun v8 => .run 1 rfl (.nil (.leaf ⟨rfl, .of rfl rfl⟩)))
    · exact TieO.run 4 rfl (.nil (.leaf ⟨rfl, .of rfl rfl⟩))
    refine TieO.run 1 rfl (.bind 5 (fun b8 => ⟨[(61, .t (tB b8))], []⟩) (TieO.split 56 rfl ?_ ?_) fun b8 _ => ?_)
    · exact TieO.run 2 rfl (.call _ rfl rfl rfl (tie_slices_ContainsFunc_sRequest i.Requests 77 [] control_Check_1 tie_control_Check_1) (fun _ => rfl) fun v9 => .run 2 rfl (.nil (.leaf ⟨rfl, .of rfl rfl⟩)))
    · exact TieO.run 5 rfl (.nil (.leaf ⟨rfl, .of rfl rfl⟩))
    exact TieO.run 1 rfl (.nil (.ret ⟨.inl rfl, rfl⟩))
-- magneto/magnetoref36.Valid
set_option maxRecDepth 100000 in
theorem tie_magnetoref36_Valid (r2 : SRequest) : TieF Tryz.prog 80 [A_SRequest r2] (magnetoref36_Valid r2) (fun r => .t (tB r)) := by
  refine TieF.intro htab 45 [.tmp 2] Tryz.call80 Tryz.func80 rfl rfl rfl (Nat.le_of_ble_eq_true rfl) fun w0 L => ?_
  refine TieS.seq (.region (.run 2 rfl (.nil (.seq ?_))))
  refine TieS.seq (.region (.run 4 rfl (.selOr (v := decide (r2.Source > 15)) 4 6 (fun b => ⟨[(1, .ptr 1 0), (10, .t (tB b))], [(1, .box [.t (tI r2.Source), .t (tI r2.Kind), .t (tI r2.Torque), .t (tI r2.Priority)])]⟩) rfl ?_ ?_ ?_)))
  · exact TieO.run 4 rfl (.nil (.leaf ⟨rfl, .of rfl rfl⟩))
  · exact TieO.run 4 rfl (.nil (.leaf ⟨rfl, .of rfl rfl⟩))
  refine TieO.run 1 rfl (.selOr (v := decide (r2.Priority < 0)) 4 11 (fun b => ⟨[(1, .ptr 1 0), (15, .t (tB b))], [(1, .box [.t (tI r2.Source), .t (tI r2.Kind), .t (tI r2.Torque), .t (tI r2.Priority)])]⟩) rfl ?_ ?_ ?_)
  · exact TieO.run 4 rfl (.nil (.leaf ⟨rfl, .of rfl rfl⟩))
  · exact TieO.run 4 rfl (.nil (.leaf ⟨rfl, .of rfl rfl⟩))
  refine TieO.run 1 rfl (.selOr (v := decide (r2.Priority > 15)) 4 16 (fun b => ⟨[(1, .ptr 1 0), (20, .t (tB b))], [(1, .box [.t (tI r2.Source), .t (tI r2.Kind), .t (tI r2.Torque), .t (tI r2.Priority)])]⟩) rfl ?_ ?_ ?_)
  · exact TieO.run 4 rfl (.nil (.leaf ⟨rfl, .of rfl rfl⟩))
  · exact TieO.run 4 rfl (.nil (.leaf ⟨rfl, .of rfl rfl⟩))
  refine TieO.run 1 rfl (.bind 5 (fun b2 => ⟨[(1, .ptr 1 0), (26, .t (tB b2))], [(1, .box [.t (tI r2.Source), .t (tI r2.Kind), .t (tI r2.Torque), .t (tI r2.Priority)])]⟩) (TieO.split 21 rfl ?_ ?_) fun b2 _ => ?_)
  · exact TieO.run 5 rfl (.nil (.leaf ⟨rfl, .of rfl rfl⟩))
  · exact TieO.run 2 rfl (.call _ rfl rfl rfl (tie_magnetoref36_Torque r2.Torque) (fun _ => rfl) fun v => .run 2 rfl (.nil (.leaf ⟨rfl, .of rfl rfl⟩)))
  refine TieO.run 1 rfl (.selOr (v := decide (r2.Kind < 1)) 4 27 (fun b => ⟨[(1, .ptr 1 0), (31, .t (tB b))], [(1, .box [.t (tI r2.Source), .t (tI r2.Kind), .t (tI r2.Torque), .t (tI r2.Priority)])]⟩) rfl ?_ ?_ ?_)
  · exact TieO.run 4 rfl (.nil (.leaf ⟨rfl, .of rfl rfl⟩))
  · exact TieO.run 4 rfl (.nil (.leaf ⟨rfl, .of rfl rfl⟩))
  refine TieO.run 1 rfl (.selOr (v := decide (r2.Kind > 3)) 4 32 (fun b => ⟨[(1, .ptr 1 0), (36, .t (tB b))], [(1, .box [.t (tI r2.Source), .t (tI r2.Kind), .t (tI r2.Torque), .t (tI r2.Priority)])]⟩) rfl ?_ ?_ ?_)
  · exact TieO.run 4 rfl (.nil (.leaf ⟨rfl, .of rfl rfl⟩))
  · exact TieO.run 4 rfl (.nil (.leaf ⟨rfl, .of rfl rfl⟩))
  refine TieO.nil (.cond rfl ?_ ?_)
  · exact TieS.seq (.region (.run 1 rfl (.nil (.ret ⟨.inl rfl, rfl⟩))))
  · refine TieS.skip (.seq (.region (.run 4 rfl (.selOr (v := (r2.Kind == 1)) 4 40 (fun b => ⟨[(44, .t (tB b))], []⟩) rfl ?_ ?_ ?_))))
    · exact TieO.run 4 rfl (.nil (.leaf ⟨rfl, .of rfl rfl⟩))
    · exact TieO.run 4 rfl (.nil (.leaf ⟨rfl, .of rfl rfl⟩))
    exact TieO.run 1 rfl (.nil (.ret ⟨.inl rfl, rfl⟩))
-- magneto/magnetoref38.Check
set_option maxRecDepth 100000 in
theorem tie_magnetoref38_Check (v_in : SInputs) (n2 : Int) : TieF Tryz.prog 21 [A_SInputs v_in, .t (tI n2)] (magnetoref38_Check v_in n2) (fun r => .t (tB r)) := by
  refine TieF.intro htab 83 [.tmp 4] Tryz.call21 Tryz.func21 rfl rfl rfl (Nat.le_of_ble_eq_true rfl) fun w0 L => ?_
  refine TieS.seq (.region (.run 2 rfl (.nil (.seq ?_))))
  refine TieS.seq (.region (.run 1 rfl (.call _ rfl rfl rfl (tie_magnetoref38_between n2 1 8) (fun _ => rfl) fun v => .run 2 rfl ?_)))
  refine TieO.bind 5 (fun b2 => ⟨[(1, .t (tI n2)), (2, .ptr 2 0), (15, .t (tB b2))], [(2, .box (B_SInputs v_in))]⟩) (TieO.split 10 rfl ?_ ?_) fun b2 _ => ?_
  · exact TieO.run 5 rfl (.nil (.leaf ⟨rfl, .of rfl rfl⟩))
  · exact TieO.run 2 rfl (.call _ rfl rfl rfl (tie_magnetoref38_between v_in.Speed 0 12000) (fun _ => rfl) fun v2 => .run 2 rfl (.nil (.leaf ⟨rfl, .of rfl rfl⟩)))
  refine TieO.run 1 rfl (.bind 5 (fun b3 => ⟨[(1, .t (tI n2)), (2, .ptr 2 0), (21, .t (tB b3))], [(2, .box (B_SInputs v_in))]⟩) (TieO.split 16 rfl ?_ ?_) fun b3 _ => ?_)
  · exact TieO.run 5 rfl (.nil (.leaf ⟨rfl, .of rfl rfl⟩))
  · exact TieO.run 2 rfl (.call _ rfl rfl rfl (tie_magnetoref38_between v_in.Pressure 50 3000) (fun _ => rfl) fun v3 => .run 2 rfl (.nil (.leaf ⟨rfl, .of rfl rfl⟩)))
  refine TieO.run 1 rfl (.bind 5 (fun b4 => ⟨[(1, .t (tI n2)), (2, .ptr 2 0), (27, .t (tB b4))], [(2, .box (B_SInputs v_in))]⟩) (TieO.split 22 rfl ?_ ?_) fun b4 _ => ?_)
  · exact TieO.run 5 rfl (.nil (.leaf ⟨rfl, .of rfl rfl⟩))
  · exact TieO.run 2 rfl (.call _ rfl rfl rfl (tie_magnetoref38_between v_in.AirTemp (-40) 150) (fun _ => rfl) fun v4 => .run 2 rfl (.nil (.leaf ⟨rfl, .of rfl rfl⟩)))
  refine TieO.run 1 rfl (.bind 5 (fun b5 => ⟨[(1, .t (tI n2)), (2, .ptr 2 0), (33, .t (tB b5))], [(2, .box (B_SInputs v_in))]⟩) (TieO.split 28 rfl ?_ ?_) fun b5 _ => ?_)
  · exact TieO.run 5 rfl (.nil (.leaf ⟨rfl, .of rfl rfl⟩))
  · exact TieO.run 2 rfl (.call _ rfl rfl rfl (tie_magnetoref38_between v_in.Coolant (-40) 150) (fun _ => rfl) fun v5 => .run 2 rfl (.nil (.leaf ⟨rfl, .of rfl rfl⟩)))
  refine TieO.run 1 rfl (.bind 5 (fun b6 => ⟨[(1, .t (tI n2)), (2, .ptr 2 0), (39, .t (tB b6))], [(2, .box (B_SInputs v_in))]⟩) (TieO.split 34 rfl ?_ ?_) fun b6 _ => ?_)
  · exact TieO.run 5 rfl (.nil (.leaf ⟨rfl, .of rfl rfl⟩))
  · exact TieO.run 2 rfl (.call _ rfl rfl rfl (tie_magnetoref38_between v_in.Voltage 0 20000) (fun _ => rfl) fun v6 => .run 2 rfl (.nil (.leaf ⟨rfl, .of rfl rfl⟩)))
  refine TieO.run 1 rfl (.bind 5 (fun b7 => ⟨[(1, .t (tI n2)), (2, .ptr 2 0), (45, .t (tB b7))], [(2, .box (B_SInputs v_in))]⟩) (TieO.split 40 rfl ?_ ?_) fun b7 _ => ?_)
  · exact TieO.run 5 rfl (.nil (.leaf ⟨rfl, .of rfl rfl⟩))
  · exact TieO.run 2 rfl (.call _ rfl rfl rfl (tie_magnetoref38_between v_in.Lambda 0 20000) (fun _ => rfl) fun v7 => .run 2 rfl (.nil (.leaf ⟨rfl, .of rfl rfl⟩)))
  refine TieO.nil (.cond rfl ?_ ?_)
  · exact TieS.seq (.region (.run 1 rfl (.nil (.ret ⟨.inl rfl, rfl⟩))))
  · refine TieS.skip (.seq (.seq (.region (.run 6 rfl ?_))))
    refine TieO.selOr (v := decide ((v_in.Requests.length : Int) > 30)) 5 51 (fun b => ⟨[(1, .t (tI n2)), (2, .ptr 2 0), (56, .t (tB b))], [(2, .box (B_SInputs v_in))]⟩) rfl ?_ ?_ ?_
    · exact TieO.run 5 rfl (.nil (.leaf ⟨rfl, .of rfl rfl⟩))
    · exact TieO.run 5 rfl (.nil (.leaf ⟨rfl, .of rfl rfl⟩))
    refine TieO.nil (.cond rfl ?_ ?_)
    · exact TieS.seq (.region (.run 1 rfl (.nil (.ret ⟨.inl rfl, rfl⟩))))
    · refine TieS.skip (.seq (.seq (.region (.run 1 rfl ?_))))
      refine TieO.nil (.block (.loop (fun t => ⟨[(1, .t (tI n2)), (2, .ptr 2 0), (5, .t (tI t))], [(2, .box (B_SInputs v_in))]⟩) (fun b e σ' => match b with | .inl t => e = .exit 0 ∧ Sub ⟨[(2, .ptr 2 0)], [(2, .box (B_SInputs v_in))]⟩ σ' | .inr t => e = .ret ∧ retT tab σ' [.tmp 4] = some (((fun r => .t (tB r)) : Bool → T) t)) (.of rfl rfl) ?_ ?_))
      · intro i
        refine TieS.seq (.seq (.region (.run 3 rfl (.nil ?_))))
        refine TieS.cond rfl ?_ ?_
        · refine TieS.skip (.seq (.block (.seq (.region ?_))))
          refine TieO.run 3 rfl (.index rfl rfl rfl rfl rfl rfl rfl rfl (fun _ => rfl) fun x hx => .run 1 rfl (.call _ rfl rfl rfl (tie_magnetoref32_Intensity x) (fun _ => rfl) fun v8 => .run 1 rfl ?_))
          refine TieO.nil (.cond rfl ?_ ?_)
          · exact TieS.seq (.region (.run 1 rfl (.nil (.ret ⟨(fun h => by cases h), rfl, rfl⟩))))
          · refine TieS.skip (.endb (.region (.run 3 rfl (.nil ?_))))
            exact TieS.leaf ⟨rfl, .of rfl rfl⟩
        · exact TieS.exitOut rfl ⟨(fun h => by cases h), rfl, .of rfl rfl⟩
      rintro (i2 | r3) e σ' _ hq
      · obtain ⟨rfl, hs⟩ := hq
        refine TieX.exit rfl (TieX.sub hs ?_)
        refine TieS.seq (.seq (.region (.run 1 rfl (.nil ?_))))
        refine TieS.block (.loop (fun t => ⟨[(2, .ptr 2 0), (6, .t (tI t))], [(2, .box (B_SInputs v_in))]⟩) (fun b e σ' => match b with | .inl t => e = .exit 2 ∧ Sub ⟨[], []⟩ σ' | .inr t => e = .ret ∧ retT tab σ' [.tmp 4] = some (((fun r => .t (tB r)) : Bool → T) t)) (.of rfl rfl) ?_ ?_)
        · intro i3
          refine TieS.seq (.seq (.region (.run 5 rfl (.nil ?_))))
          refine TieS.cond rfl ?_ ?_
          · refine TieS.skip (.seq (.block (.seq (.region ?_))))
            refine TieO.run 3 rfl (.index rfl rfl rfl rfl rfl rfl rfl rfl (fun _ => rfl) fun x2 hx2 => .run 1 rfl (.call _ rfl rfl rfl (tie_magnetoref36_Valid x2) (fun _ => rfl) fun v9 => .run 1 rfl ?_))
            refine TieO.nil (.cond rfl ?_ ?_)
            · exact TieS.seq (.region (.run 1 rfl (.nil (.ret ⟨(fun h => by cases h), rfl, rfl⟩))))
            · refine TieS.skip (.endb (.region (.run 3 rfl (.nil ?_))))
              exact TieS.leaf ⟨rfl, .of rfl rfl⟩
          · exact TieS.exitOut rfl ⟨(fun h => by cases h), rfl, .of rfl rfl⟩
        rintro (i4 | r2) e σ' _ hq
        · obtain ⟨rfl, hs⟩ := hq
          refine TieX.exit rfl (TieX.sub hs ?_)
          exact TieS.seq (.region (.run 1 rfl (.nil (.ret ⟨.inl rfl, rfl⟩))))
        · obtain ⟨rfl, hs⟩ := hq
          exact TieX.ret ⟨.inl rfl, hs⟩
      · obtain ⟨rfl, hs⟩ := hq
        exact TieX.ret ⟨.inl rfl, hs⟩
end Go.Proofs.YtalanclpiojanaaGreat
