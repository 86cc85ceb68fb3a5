/- This file joins: Ties, printed by gen.py: each function of the loaded program computes its model. -/
import Derived.Test.YtjgoihfcmpjimaaGreatTopReactionF
import Derived.Test.YtjgoihfcmpjimaaGreatProg
import Derived.KernelRfl
set_option linter.unusedSimpArgs false
set_option linter.unusedVariables false
namespace Go.Proofs.YtjgoihfcmpjimaaGreat
open Go Go.Pv Go.Proofs
abbrev u8_0 (s : Smagnetotop_monitored) (x : SGuard) : Smagnetotop_monitored := ⟨x, s.quiz, s.stage, s.now⟩
abbrev u8_1 (s : Smagnetotop_monitored) (x : SQuiz) : Smagnetotop_monitored := ⟨s.guard, x, s.stage, s.now⟩
abbrev u8_2 (s : Smagnetotop_monitored) (x : SStage) : Smagnetotop_monitored := ⟨s.guard, s.quiz, x, s.now⟩
abbrev u8_3 (s : Smagnetotop_monitored) (x : Int) : Smagnetotop_monitored := ⟨s.guard, s.quiz, s.stage, x⟩
abbrev u12_0 (s : SFire) (x : Int) : SFire := ⟨x, s.Spark, s.Dwell, s.End, s.Inject, s.Gap, s.Extra⟩
abbrev u12_4 (s : SFire) (x : Int) : SFire := ⟨s.Cylinder, s.Spark, s.Dwell, s.End, x, s.Gap, s.Extra⟩
theorem mixed : Tryz.prog.follows .mixedOrders = true := by kernel_rfl
def tab : Tab := [(3, ⟨1, .int .i64, [.int .i64 0]⟩),
  (4, ⟨1, .bool, [.bool false]⟩),
  (5, ⟨1, .int .u8, [.int .u8 0]⟩),
  (22, ⟨1, .slice 3, [.slice none 0 0]⟩),
  (23, ⟨1, .slice 22, [.slice none 0 0]⟩),
  (25, ⟨3, .struct [(0, 1), (1, 1), (2, 1)], [.slice none 0 0, .slice none 0 0, .slice none 0 0]⟩),
  (27, ⟨2, .struct [(0, 1), (1, 1)], [.slice none 0 0, .slice none 0 0]⟩),
  (29, ⟨4, .struct [(0, 1), (1, 1), (2, 1), (3, 1)], [.int .i64 0, .int .i64 0, .int .i64 0, .int .i64 0]⟩),
  (31, ⟨24, .struct [(0, 3), (3, 3), (6, 3), (9, 3), (12, 2), (14, 2), (16, 2), (18, 2), (20, 4)], [.slice none 0 0, .slice none 0 0, .slice none 0 0, .slice none 0 0, .slice none 0 0, .slice none 0 0, .slice none 0 0, .slice none 0 0, .slice none 0 0, .slice none 0 0, .slice none 0 0, .slice none 0 0, .slice none 0 0, .slice none 0 0, .slice none 0 0, .slice none 0 0, .slice none 0 0, .slice none 0 0, .slice none 0 0, .slice none 0 0, .int .i64 0, .int .i64 0, .int .i64 0, .int .i64 0]⟩),
  (32, ⟨1, .slice 39, [.slice none 0 0]⟩),
  (36, ⟨1, .int .u16, [.int .u16 0]⟩),
  (37, ⟨1, .int .i16, [.int .i16 0]⟩),
  (39, ⟨7, .struct [(0, 1), (1, 1), (2, 1), (3, 1), (4, 1), (5, 1), (6, 1)], [.int .u16 0, .int .u16 0, .int .u16 0, .int .u16 0, .int .u8 0, .bool false, .int .i16 0]⟩),
  (41, ⟨1, .int .i64, [.int .i64 0]⟩),
  (46, ⟨5, .struct [(0, 1), (1, 1), (2, 1), (3, 1), (4, 1)], [.int .i64 0, .int .i64 0, .int .i64 0, .bool false, .bool false]⟩),
  (51, ⟨3, .struct [(0, 1), (1, 1), (2, 1)], [.bool false, .int .i64 0, .int .i64 0]⟩),
  (54, ⟨3, .struct [(0, 1), (1, 1), (2, 1)], [.int .i64 0, .int .i64 0, .bool false]⟩),
  (56, ⟨12, .struct [(0, 3), (3, 5), (8, 3), (11, 1)], [.int .i64 0, .int .i64 0, .bool false, .int .i64 0, .int .i64 0, .int .i64 0, .bool false, .bool false, .bool false, .int .i64 0, .int .i64 0, .int .i64 0]⟩),
  (59, ⟨1, .slice 63, [.slice none 0 0]⟩),
  (63, ⟨3, .struct [(0, 1), (1, 1), (2, 1)], [.int .i64 0, .int .i64 0, .bool false]⟩),
  (66, ⟨2, .struct [(0, 1), (1, 1)], [.int .i64 0, .int .i64 0]⟩),
  (69, ⟨1, .int .u64, [.int .u64 0]⟩),
  (79, ⟨1, .slice 82, [.slice none 0 0]⟩),
  (82, ⟨4, .struct [(0, 1), (1, 1), (2, 1), (3, 1)], [.int .i64 0, .int .i64 0, .int .i64 0, .int .i64 0]⟩),
  (87, ⟨1, .slice 89, [.slice none 0 0]⟩),
  (89, ⟨7, .struct [(0, 1), (1, 1), (2, 1), (3, 1), (4, 1), (5, 1), (6, 1)], [.int .i64 0, .int .i64 0, .int .i64 0, .int .i64 0, .int .i64 0, .int .i64 0, .int .i64 0]⟩),
  (103, ⟨3, .struct [(0, 1), (1, 1), (2, 1)], [.int .i64 0, .int .i64 0, .int .i64 0]⟩),
  (106, ⟨1, .int .u32, [.int .u32 0]⟩),
  (109, ⟨1, .int .u64, [.int .u64 0]⟩)]
theorem ti3 : TIok Tryz.prog 3 ⟨1, .int .i64, [.int .i64 0]⟩ := ⟨Tryz.t3, _, by kernel_rfl, rfl, Tryz.underlying3, rfl, ⟨_, rfl, rfl⟩, Nat.le_of_ble_eq_true rfl⟩
theorem ti4 : TIok Tryz.prog 4 ⟨1, .bool, [.bool false]⟩ := ⟨Tryz.t4, _, by kernel_rfl, rfl, Tryz.underlying4, rfl, ⟨_, rfl, rfl⟩, Nat.le_of_ble_eq_true rfl⟩
theorem ti5 : TIok Tryz.prog 5 ⟨1, .int .u8, [.int .u8 0]⟩ := ⟨Tryz.t5, _, by kernel_rfl, rfl, Tryz.underlying5, rfl, ⟨_, rfl, rfl⟩, Nat.le_of_ble_eq_true rfl⟩
theorem ti22 : TIok Tryz.prog 22 ⟨1, .slice 3, [.slice none 0 0]⟩ := ⟨Tryz.t22, _, by kernel_rfl, rfl, Tryz.underlying22, rfl, ⟨_, rfl, rfl⟩, Nat.le_of_ble_eq_true rfl⟩
theorem ti23 : TIok Tryz.prog 23 ⟨1, .slice 22, [.slice none 0 0]⟩ := ⟨Tryz.t23, _, by kernel_rfl, rfl, Tryz.underlying23, rfl, ⟨_, rfl, rfl⟩, Nat.le_of_ble_eq_true rfl⟩
theorem ti25 : TIok Tryz.prog 25 ⟨3, .struct [(0, 1), (1, 1), (2, 1)], [.slice none 0 0, .slice none 0 0, .slice none 0 0]⟩ := by
  refine ⟨Tryz.t25, _, by kernel_rfl, rfl, Tryz.underlying25, ⟨_, rfl, rfl, fun f o n h => ?_⟩, ⟨_, rfl, rfl⟩, Nat.le_of_ble_eq_true rfl⟩
  match f, h with
  | 0, h => cases h; exact ⟨_, Tryz.t22, rfl, rfl, by kernel_rfl, rfl⟩
  | 1, h => cases h; exact ⟨_, Tryz.t22, rfl, rfl, by kernel_rfl, rfl⟩
  | 2, h => cases h; exact ⟨_, Tryz.t23, rfl, rfl, by kernel_rfl, rfl⟩
  | _ + 3, h => simp at h
theorem ti27 : TIok Tryz.prog 27 ⟨2, .struct [(0, 1), (1, 1)], [.slice none 0 0, .slice none 0 0]⟩ := by
  refine ⟨Tryz.t27, _, by kernel_rfl, rfl, Tryz.underlying27, ⟨_, rfl, rfl, fun f o n h => ?_⟩, ⟨_, rfl, rfl⟩, Nat.le_of_ble_eq_true rfl⟩
  match f, h with
  | 0, h => cases h; exact ⟨_, Tryz.t22, rfl, rfl, by kernel_rfl, rfl⟩
  | 1, h => cases h; exact ⟨_, Tryz.t22, rfl, rfl, by kernel_rfl, rfl⟩
  | _ + 2, h => simp at h
theorem ti29 : TIok Tryz.prog 29 ⟨4, .struct [(0, 1), (1, 1), (2, 1), (3, 1)], [.int .i64 0, .int .i64 0, .int .i64 0, .int .i64 0]⟩ := by
  refine ⟨Tryz.t29, _, by kernel_rfl, rfl, Tryz.underlying29, ⟨_, rfl, rfl, fun f o n h => ?_⟩, ⟨_, rfl, rfl⟩, Nat.le_of_ble_eq_true rfl⟩
  match f, h with
  | 0, h => cases h; exact ⟨_, Tryz.t3, rfl, rfl, by kernel_rfl, rfl⟩
  | 1, h => cases h; exact ⟨_, Tryz.t3, rfl, rfl, by kernel_rfl, rfl⟩
  | 2, h => cases h; exact ⟨_, Tryz.t3, rfl, rfl, by kernel_rfl, rfl⟩
  | 3, h => cases h; exact ⟨_, Tryz.t3, rfl, rfl, by kernel_rfl, rfl⟩
  | _ + 4, h => simp at h
theorem ti31 : TIok Tryz.prog 31 ⟨24, .struct [(0, 3), (3, 3), (6, 3), (9, 3), (12, 2), (14, 2), (16, 2), (18, 2), (20, 4)], [.slice none 0 0, .slice none 0 0, .slice none 0 0, .slice none 0 0, .slice none 0 0, .slice none 0 0, .slice none 0 0, .slice none 0 0, .slice none 0 0, .slice none 0 0, .slice none 0 0, .slice none 0 0, .slice none 0 0, .slice none 0 0, .slice none 0 0, .slice none 0 0, .slice none 0 0, .slice none 0 0, .slice none 0 0, .slice none 0 0, .int .i64 0, .int .i64 0, .int .i64 0, .int .i64 0]⟩ := by
  refine ⟨Tryz.t31, _, by kernel_rfl, rfl, Tryz.underlying31, ⟨_, rfl, rfl, fun f o n h => ?_⟩, ⟨_, rfl, rfl⟩, Nat.le_of_ble_eq_true rfl⟩
  match f, h with
  | 0, h => cases h; exact ⟨_, Tryz.t25, rfl, rfl, by kernel_rfl, rfl⟩
  | 1, h => cases h; exact ⟨_, Tryz.t25, rfl, rfl, by kernel_rfl, rfl⟩
  | 2, h => cases h; exact ⟨_, Tryz.t25, rfl, rfl, by kernel_rfl, rfl⟩
  | 3, h => cases h; exact ⟨_, Tryz.t25, rfl, rfl, by kernel_rfl, rfl⟩
  | 4, h => cases h; exact ⟨_, Tryz.t27, rfl, rfl, by kernel_rfl, rfl⟩
  | 5, h => cases h; exact ⟨_, Tryz.t27, rfl, rfl, by kernel_rfl, rfl⟩
  | 6, h => cases h; exact ⟨_, Tryz.t27, rfl, rfl, by kernel_rfl, rfl⟩
  | 7, h => cases h; exact ⟨_, Tryz.t27, rfl, rfl, by kernel_rfl, rfl⟩
  | 8, h => cases h; exact ⟨_, Tryz.t29, rfl, rfl, by kernel_rfl, rfl⟩
  | _ + 9, h => simp at h
theorem ti32 : TIok Tryz.prog 32 ⟨1, .slice 39, [.slice none 0 0]⟩ := ⟨Tryz.t32, _, by kernel_rfl, rfl, Tryz.underlying32, rfl, ⟨_, rfl, rfl⟩, Nat.le_of_ble_eq_true rfl⟩
theorem ti36 : TIok Tryz.prog 36 ⟨1, .int .u16, [.int .u16 0]⟩ := ⟨Tryz.t36, _, by kernel_rfl, rfl, Tryz.underlying36, rfl, ⟨_, rfl, rfl⟩, Nat.le_of_ble_eq_true rfl⟩
theorem ti37 : TIok Tryz.prog 37 ⟨1, .int .i16, [.int .i16 0]⟩ := ⟨Tryz.t37, _, by kernel_rfl, rfl, Tryz.underlying37, rfl, ⟨_, rfl, rfl⟩, Nat.le_of_ble_eq_true rfl⟩
theorem ti39 : TIok Tryz.prog 39 ⟨7, .struct [(0, 1), (1, 1), (2, 1), (3, 1), (4, 1), (5, 1), (6, 1)], [.int .u16 0, .int .u16 0, .int .u16 0, .int .u16 0, .int .u8 0, .bool false, .int .i16 0]⟩ := by
  refine ⟨Tryz.t39, _, by kernel_rfl, rfl, Tryz.underlying39, ⟨_, rfl, rfl, fun f o n h => ?_⟩, ⟨_, rfl, rfl⟩, Nat.le_of_ble_eq_true rfl⟩
  match f, h with
  | 0, h => cases h; exact ⟨_, Tryz.t36, rfl, rfl, by kernel_rfl, rfl⟩
  | 1, h => cases h; exact ⟨_, Tryz.t36, rfl, rfl, by kernel_rfl, rfl⟩
  | 2, h => cases h; exact ⟨_, Tryz.t36, rfl, rfl, by kernel_rfl, rfl⟩
  | 3, h => cases h; exact ⟨_, Tryz.t36, rfl, rfl, by kernel_rfl, rfl⟩
  | 4, h => cases h; exact ⟨_, Tryz.t5, rfl, rfl, by kernel_rfl, rfl⟩
  | 5, h => cases h; exact ⟨_, Tryz.t4, rfl, rfl, by kernel_rfl, rfl⟩
  | 6, h => cases h; exact ⟨_, Tryz.t37, rfl, rfl, by kernel_rfl, rfl⟩
  | _ + 7, h => simp at h
theorem ti41 : TIok Tryz.prog 41 ⟨1, .int .i64, [.int .i64 0]⟩ := ⟨Tryz.t41, _, by kernel_rfl, rfl, Tryz.underlying41, rfl, ⟨_, rfl, rfl⟩, Nat.le_of_ble_eq_true rfl⟩
theorem ti46 : TIok Tryz.prog 46 ⟨5, .struct [(0, 1), (1, 1), (2, 1), (3, 1), (4, 1)], [.int .i64 0, .int .i64 0, .int .i64 0, .bool false, .bool false]⟩ := by
  refine ⟨Tryz.t46, _, by kernel_rfl, rfl, Tryz.underlying46, ⟨_, rfl, rfl, fun f o n h => ?_⟩, ⟨_, rfl, rfl⟩, Nat.le_of_ble_eq_true rfl⟩
  match f, h with
  | 0, h => cases h; exact ⟨_, Tryz.t3, rfl, rfl, by kernel_rfl, rfl⟩
  | 1, h => cases h; exact ⟨_, Tryz.t3, rfl, rfl, by kernel_rfl, rfl⟩
  | 2, h => cases h; exact ⟨_, Tryz.t3, rfl, rfl, by kernel_rfl, rfl⟩
  | 3, h => cases h; exact ⟨_, Tryz.t4, rfl, rfl, by kernel_rfl, rfl⟩
  | 4, h => cases h; exact ⟨_, Tryz.t4, rfl, rfl, by kernel_rfl, rfl⟩
  | _ + 5, h => simp at h
theorem ti51 : TIok Tryz.prog 51 ⟨3, .struct [(0, 1), (1, 1), (2, 1)], [.bool false, .int .i64 0, .int .i64 0]⟩ := by
  refine ⟨Tryz.t51, _, by kernel_rfl, rfl, Tryz.underlying51, ⟨_, rfl, rfl, fun f o n h => ?_⟩, ⟨_, rfl, rfl⟩, Nat.le_of_ble_eq_true rfl⟩
  match f, h with
  | 0, h => cases h; exact ⟨_, Tryz.t4, rfl, rfl, by kernel_rfl, rfl⟩
  | 1, h => cases h; exact ⟨_, Tryz.t3, rfl, rfl, by kernel_rfl, rfl⟩
  | 2, h => cases h; exact ⟨_, Tryz.t3, rfl, rfl, by kernel_rfl, rfl⟩
  | _ + 3, h => simp at h
theorem ti54 : TIok Tryz.prog 54 ⟨3, .struct [(0, 1), (1, 1), (2, 1)], [.int .i64 0, .int .i64 0, .bool false]⟩ := by
  refine ⟨Tryz.t54, _, by kernel_rfl, rfl, Tryz.underlying54, ⟨_, rfl, rfl, fun f o n h => ?_⟩, ⟨_, rfl, rfl⟩, Nat.le_of_ble_eq_true rfl⟩
  match f, h with
  | 0, h => cases h; exact ⟨_, Tryz.t3, rfl, rfl, by kernel_rfl, rfl⟩
  | 1, h => cases h; exact ⟨_, Tryz.t3, rfl, rfl, by kernel_rfl, rfl⟩
  | 2, h => cases h; exact ⟨_, Tryz.t4, rfl, rfl, by kernel_rfl, rfl⟩
  | _ + 3, h => simp at h
theorem ti56 : TIok Tryz.prog 56 ⟨12, .struct [(0, 3), (3, 5), (8, 3), (11, 1)], [.int .i64 0, .int .i64 0, .bool false, .int .i64 0, .int .i64 0, .int .i64 0, .bool false, .bool false, .bool false, .int .i64 0, .int .i64 0, .int .i64 0]⟩ := by
  refine ⟨Tryz.t56, _, by kernel_rfl, rfl, Tryz.underlying56, ⟨_, rfl, rfl, fun f o n h => ?_⟩, ⟨_, rfl, rfl⟩, Nat.le_of_ble_eq_true rfl⟩
  match f, h with
  | 0, h => cases h; exact ⟨_, Tryz.t54, rfl, rfl, by kernel_rfl, rfl⟩
  | 1, h => cases h; exact ⟨_, Tryz.t46, rfl, rfl, by kernel_rfl, rfl⟩
  | 2, h => cases h; exact ⟨_, Tryz.t51, rfl, rfl, by kernel_rfl, rfl⟩
  | 3, h => cases h; exact ⟨_, Tryz.t3, rfl, rfl, by kernel_rfl, rfl⟩
  | _ + 4, h => simp at h
theorem ti59 : TIok Tryz.prog 59 ⟨1, .slice 63, [.slice none 0 0]⟩ := ⟨Tryz.t59, _, by kernel_rfl, rfl, Tryz.underlying59, rfl, ⟨_, rfl, rfl⟩, Nat.le_of_ble_eq_true rfl⟩
theorem ti63 : TIok Tryz.prog 63 ⟨3, .struct [(0, 1), (1, 1), (2, 1)], [.int .i64 0, .int .i64 0, .bool false]⟩ := by
  refine ⟨Tryz.t63, _, by kernel_rfl, rfl, Tryz.underlying63, ⟨_, rfl, rfl, fun f o n h => ?_⟩, ⟨_, rfl, rfl⟩, Nat.le_of_ble_eq_true rfl⟩
  match f, h with
  | 0, h => cases h; exact ⟨_, Tryz.t3, rfl, rfl, by kernel_rfl, rfl⟩
  | 1, h => cases h; exact ⟨_, Tryz.t3, rfl, rfl, by kernel_rfl, rfl⟩
  | 2, h => cases h; exact ⟨_, Tryz.t4, rfl, rfl, by kernel_rfl, rfl⟩
  | _ + 3, h => simp at h
theorem ti66 : TIok Tryz.prog 66 ⟨2, .struct [(0, 1), (1, 1)], [.int .i64 0, .int .i64 0]⟩ := by
  refine ⟨Tryz.t66, _, by kernel_rfl, rfl, Tryz.underlying66, ⟨_, rfl, rfl, fun f o n h => ?_⟩, ⟨_, rfl, rfl⟩, Nat.le_of_ble_eq_true rfl⟩
  match f, h with
  | 0, h => cases h; exact ⟨_, Tryz.t3, rfl, rfl, by kernel_rfl, rfl⟩
  | 1, h => cases h; exact ⟨_, Tryz.t3, rfl, rfl, by kernel_rfl, rfl⟩
  | _ + 2, h => simp at h
theorem ti69 : TIok Tryz.prog 69 ⟨1, .int .u64, [.int .u64 0]⟩ := ⟨Tryz.t69, _, by kernel_rfl, rfl, Tryz.underlying69, rfl, ⟨_, rfl, rfl⟩, Nat.le_of_ble_eq_true rfl⟩
theorem ti79 : TIok Tryz.prog 79 ⟨1, .slice 82, [.slice none 0 0]⟩ := ⟨Tryz.t79, _, by kernel_rfl, rfl, Tryz.underlying79, rfl, ⟨_, rfl, rfl⟩, Nat.le_of_ble_eq_true rfl⟩
theorem ti82 : TIok Tryz.prog 82 ⟨4, .struct [(0, 1), (1, 1), (2, 1), (3, 1)], [.int .i64 0, .int .i64 0, .int .i64 0, .int .i64 0]⟩ := by
  refine ⟨Tryz.t82, _, by kernel_rfl, rfl, Tryz.underlying82, ⟨_, rfl, rfl, fun f o n h => ?_⟩, ⟨_, rfl, rfl⟩, Nat.le_of_ble_eq_true rfl⟩
  match f, h with
  | 0, h => cases h; exact ⟨_, Tryz.t3, rfl, rfl, by kernel_rfl, rfl⟩
  | 1, h => cases h; exact ⟨_, Tryz.t3, rfl, rfl, by kernel_rfl, rfl⟩
  | 2, h => cases h; exact ⟨_, Tryz.t3, rfl, rfl, by kernel_rfl, rfl⟩
  | 3, h => cases h; exact ⟨_, Tryz.t3, rfl, rfl, by kernel_rfl, rfl⟩
  | _ + 4, h => simp at h
theorem ti87 : TIok Tryz.prog 87 ⟨1, .slice 89, [.slice none 0 0]⟩ := ⟨Tryz.t87, _, by kernel_rfl, rfl, Tryz.underlying87, rfl, ⟨_, rfl, rfl⟩, Nat.le_of_ble_eq_true rfl⟩
theorem ti89 : TIok Tryz.prog 89 ⟨7, .struct [(0, 1), (1, 1), (2, 1), (3, 1), (4, 1), (5, 1), (6, 1)], [.int .i64 0, .int .i64 0, .int .i64 0, .int .i64 0, .int .i64 0, .int .i64 0, .int .i64 0]⟩ := by
  refine ⟨Tryz.t89, _, by kernel_rfl, rfl, Tryz.underlying89, ⟨_, rfl, rfl, fun f o n h => ?_⟩, ⟨_, rfl, rfl⟩, Nat.le_of_ble_eq_true rfl⟩
  match f, h with
  | 0, h => cases h; exact ⟨_, Tryz.t3, rfl, rfl, by kernel_rfl, rfl⟩
  | 1, h => cases h; exact ⟨_, Tryz.t3, rfl, rfl, by kernel_rfl, rfl⟩
  | 2, h => cases h; exact ⟨_, Tryz.t3, rfl, rfl, by kernel_rfl, rfl⟩
  | 3, h => cases h; exact ⟨_, Tryz.t3, rfl, rfl, by kernel_rfl, rfl⟩
  | 4, h => cases h; exact ⟨_, Tryz.t3, rfl, rfl, by kernel_rfl, rfl⟩
  | 5, h => cases h; exact ⟨_, Tryz.t3, rfl, rfl, by kernel_rfl, rfl⟩
  | 6, h => cases h; exact ⟨_, Tryz.t3, rfl, rfl, by kernel_rfl, rfl⟩
  | _ + 7, h => simp at h
theorem ti103 : TIok Tryz.prog 103 ⟨3, .struct [(0, 1), (1, 1), (2, 1)], [.int .i64 0, .int .i64 0, .int .i64 0]⟩ := by
  refine ⟨Tryz.t103, _, by kernel_rfl, rfl, Tryz.underlying103, ⟨_, rfl, rfl, fun f o n h => ?_⟩, ⟨_, rfl, rfl⟩, Nat.le_of_ble_eq_true rfl⟩
  match f, h with
  | 0, h => cases h; exact ⟨_, Tryz.t3, rfl, rfl, by kernel_rfl, rfl⟩
  | 1, h => cases h; exact ⟨_, Tryz.t3, rfl, rfl, by kernel_rfl, rfl⟩
  | 2, h => cases h; exact ⟨_, Tryz.t3, rfl, rfl, by kernel_rfl, rfl⟩
  | _ + 3, h => simp at h
theorem ti106 : TIok Tryz.prog 106 ⟨1, .int .u32, [.int .u32 0]⟩ := ⟨Tryz.t106, _, by kernel_rfl, rfl, Tryz.underlying106, rfl, ⟨_, rfl, rfl⟩, Nat.le_of_ble_eq_true rfl⟩
theorem ti109 : TIok Tryz.prog 109 ⟨1, .int .u64, [.int .u64 0]⟩ := ⟨Tryz.t109, _, by kernel_rfl, rfl, Tryz.underlying109, rfl, ⟨_, rfl, rfl⟩, Nat.le_of_ble_eq_true rfl⟩
theorem htab : TabOk Tryz.prog tab := by
  intro t ti h
  unfold tab at h
  refine tab_step h ti3 fun h => ?_
  refine tab_step h ti4 fun h => ?_
  refine tab_step h ti5 fun h => ?_
  refine tab_step h ti22 fun h => ?_
  refine tab_step h ti23 fun h => ?_
  refine tab_step h ti25 fun h => ?_
  refine tab_step h ti27 fun h => ?_
  refine tab_step h ti29 fun h => ?_
  refine tab_step h ti31 fun h => ?_
  refine tab_step h ti32 fun h => ?_
  refine tab_step h ti36 fun h => ?_
  refine tab_step h ti37 fun h => ?_
  refine tab_step h ti39 fun h => ?_
  refine tab_step h ti41 fun h => ?_
  refine tab_step h ti46 fun h => ?_
  refine tab_step h ti51 fun h => ?_
  refine tab_step h ti54 fun h => ?_
  refine tab_step h ti56 fun h => ?_
  refine tab_step h ti59 fun h => ?_
  refine tab_step h ti63 fun h => ?_
  refine tab_step h ti66 fun h => ?_
  refine tab_step h ti69 fun h => ?_
  refine tab_step h ti79 fun h => ?_
  refine tab_step h ti82 fun h => ?_
  refine tab_step h ti87 fun h => ?_
  refine tab_step h ti89 fun h => ?_
  refine tab_step h ti103 fun h => ?_
  refine tab_step h ti106 fun h => ?_
  refine tab_step h ti109 fun h => ?_
  cases h
theorem eqi_63 (d : Nat) (w : World) (a0 : Int) (a1 : Int) (a2 : Bool) (b0 : Int) (b1 : Int) (b2 : Bool) : (Op.equalIn (d + 2) 63 (.agg #[.int .i64 a0, .int .i64 a1, .bool a2]) (.agg #[.int .i64 b0, .int .i64 b1, .bool b2])).run Tryz.prog w = .ok ((a0 == b0) && ((a1 == b1) && ((a2 == b2) && true))) w :=
  eq_struct (d := d + 1) (fs := [⟨ "At", 3, 0, false, "", "", 0⟩, ⟨ "Channel", 3, 1, false, "", "", 8⟩, ⟨ "Level", 4, 2, false, "", "", 16⟩]) (by kernel_rfl) (by kernel_rfl) (by kernel_rfl) (eqf_cons (by decide) (part_one ti3 rfl rfl) (part_one ti3 rfl rfl) (run_equalIn_int w _ 3 _ _ _ _ Tryz.underlying3) (eqf_cons (by decide) (part_one ti3 rfl rfl) (part_one ti3 rfl rfl) (run_equalIn_int w _ 3 _ _ _ _ Tryz.underlying3) (eqf_cons (by decide) (part_one ti4 rfl rfl) (part_one ti4 rfl rfl) (run_equalIn_bool' w _ 4 _ _ Tryz.underlying4) (eqf_nil))))
theorem eqv_63 (a0 : Int) (a1 : Int) (a2 : Bool) (b0 : Int) (b1 : Int) (b2 : Bool) : EqOk Tryz.prog 63 [.int .i64 a0, .int .i64 a1, .bool a2] [.int .i64 b0, .int .i64 b1, .bool b2] ((a0 == b0) && ((a1 == b1) && ((a2 == b2) && true))) := ⟨fun w => eqi_63 9998 w a0 a1 a2 b0 b1 b2, by kernel_rfl⟩
set_option maxRecDepth 100000 in
theorem tie_quiz_question (n2 : Int) : TieF Tryz.prog 29 [.t (tI n2)] (quiz_question n2) (fun r => .t (tB r)) := by
  refine TieF.intro htab 9 [.tmp 2] Tryz.call29 Tryz.func29 rfl rfl rfl (Nat.le_of_ble_eq_true rfl) fun w0 L => ?_
  refine TieS.seq (.region (.run 1 rfl (.nil (.seq ?_))))
  refine TieS.region (.run 3 rfl (.selAnd (v := decide (n2 ≤ 65535)) 3 5 (fun b => ⟨[(8, .t (tB b))], []⟩) rfl ?_ ?_ ?_))
  · exact TieO.run 3 rfl (.nil (.leaf ⟨rfl, .of rfl rfl⟩))
  · exact TieO.run 3 rfl (.nil (.leaf ⟨rfl, .of rfl rfl⟩))
  exact TieO.run 1 rfl (.nil (.ret ⟨.inl rfl, rfl⟩))
set_option maxRecDepth 100000 in
theorem tie_quiz_New (seed : Int) : TieF Tryz.prog 8 [.t (tI seed)] (quiz_New seed) (fun r => .tup [A_SQuiz r.1, .t (tI r.2)]) := by
  refine TieF.intro htab 10 [.cell 2 46, .tmp 3] Tryz.call8 Tryz.func8 rfl rfl rfl (Nat.le_of_ble_eq_true rfl) fun w0 L => ?_
  refine TieS.seq (.region (.run 2 rfl (.nil (.seq ?_))))
  refine TieS.seq (.region (.run 1 rfl (.call _ rfl rfl rfl (tie_quiz_question seed) (fun _ => rfl) fun v => .run 1 rfl ?_)))
  refine TieO.nil (.cond rfl ?_ ?_)
  · exact TieS.seq (.region (.run 3 rfl (.nil (.ret ⟨.inl rfl, rfl⟩))))
  · refine TieS.skip (.seq (.region (.run 4 rfl (.nil ?_))))
    exact TieS.ret ⟨.inl rfl, rfl⟩
set_option maxRecDepth 100000 in
theorem tie_stage_New : TieF Tryz.prog 9 [] (stage_New) (fun r => A_SStage r) := by
  refine TieF.intro htab 2 [.cell 0 51] Tryz.call9 Tryz.func9 rfl rfl rfl (Nat.le_of_ble_eq_true rfl) fun w0 L => ?_
  refine TieS.seq (.region (.run 1 rfl (.nil (.seq ?_))))
  exact TieS.region (.run 2 rfl (.nil (.ret ⟨.inl rfl, rfl⟩)))
set_option maxRecDepth 100000 in
theorem tie_surface_element (n2 : Int) : TieF Tryz.prog 46 [.t (tI n2)] (surface_element n2) (fun r => .t (tB r)) := by
  refine TieF.intro htab 9 [.tmp 2] Tryz.call46 Tryz.func46 rfl rfl rfl (Nat.le_of_ble_eq_true rfl) fun w0 L => ?_
  refine TieS.seq (.region (.run 1 rfl (.nil (.seq ?_))))
  refine TieS.region (.run 3 rfl (.selAnd (v := decide (n2 ≤ 1073741824)) 3 5 (fun b => ⟨[(8, .t (tB b))], []⟩) rfl ?_ ?_ ?_))
  · exact TieO.run 3 rfl (.nil (.leaf ⟨rfl, .of rfl rfl⟩))
  · exact TieO.run 3 rfl (.nil (.leaf ⟨rfl, .of rfl rfl⟩))
  exact TieO.run 1 rfl (.nil (.ret ⟨.inl rfl, rfl⟩))
set_option maxRecDepth 100000 in
theorem tie_surface_axis (l : List Int) : TieF Tryz.prog 43 [.t (tS Pv.encI l)] (surface_axis l) (fun r => .t (tB r)) := by
  refine TieF.intro htab 37 [.tmp 2] Tryz.call43 Tryz.func43 rfl rfl rfl (Nat.le_of_ble_eq_true rfl) fun w0 L => ?_
  refine TieS.seq (.region (.run 1 rfl (.nil (.seq ?_))))
  refine TieS.seq (.region (.run 4 rfl (.selOr (v := decide ((l.length : Int) > 32)) 4 8 (fun b => ⟨[(0, .t (tS Pv.encI l)), (12, .t (tB b))], []⟩) rfl ?_ ?_ ?_)))
  · exact TieO.run 4 rfl (.nil (.leaf ⟨rfl, .of rfl rfl⟩))
  · exact TieO.run 4 rfl (.nil (.leaf ⟨rfl, .of rfl rfl⟩))
  refine TieO.nil (.cond rfl ?_ ?_)
  · exact TieS.seq (.region (.run 1 rfl (.nil (.ret ⟨.inl rfl, rfl⟩))))
  · refine TieS.skip (.seq (.seq (.region (.run 3 rfl ?_))))
    refine TieO.nil (.block (.loop (fun p => ⟨[(0, .t (tS Pv.encI l)), (13, .t (tS Pv.encI l)), (14, .t (tI (l.length : Int))), (15, .t (tI p.1))], []⟩) (fun b e σ' => match b with | .inl t => e = .exit 0 ∧ Sub ⟨[], []⟩ σ' | .inr t => e = .ret ∧ retT tab σ' [.tmp 2] = some (((fun r => .t (tB r)) : Bool → T) t)) (.of rfl rfl) ?_ ?_))
    · rintro ⟨i, s⟩
      refine TieS.seq (.region (.run 1 rfl (.nil (.seq ?_))))
      refine TieS.cond rfl ?_ ?_
      · refine TieS.skip (.seq (TieX.sub (σ' := ⟨[(0, .t (tS Pv.encI l)), (13, .t (tS Pv.encI l)), (14, .t (tI (l.length : Int))), (15, .t (tI i))], []⟩) (.of rfl rfl) (TieS.bind (Q₁ := fun f e σ' => match f with | .next t => e = .normal ∧ Sub ⟨[(0, .t (tS Pv.encI l)), (13, .t (tS Pv.encI l)), (14, .t (tI (l.length : Int))), (15, .t (tI i))], []⟩ σ' | .brk t => e = .exit 0 ∧ Sub ⟨[], []⟩ σ' | .ret t => e = .ret ∧ retT tab σ' [.tmp 2] = some (((fun r => .t (tB r)) : Bool → T) t)) ?_ ?_)))
        · refine TieS.block (.seq (.region (.run 1 rfl (.index rfl rfl rfl rfl rfl rfl rfl rfl (fun _ => rfl) fun x hx => ?_))))
          refine TieO.run 3 rfl (.nil (.seq (.region (.run 1 rfl ?_))))
          refine TieO.call _ rfl rfl rfl (tie_surface_element x) (fun _ => rfl) fun v => .run 2 rfl (.bind 12 (fun b3 => ⟨[(0, .t (tS Pv.encI l)), (13, .t (tS Pv.encI l)), (14, .t (tI (l.length : Int))), (15, .t (tI i)), (35, .t (tB b3))], []⟩) (TieO.split 23 rfl ?_ ?_) fun b3 _ => ?_)
          · exact TieO.run 12 rfl (.nil (.leaf ⟨rfl, .of rfl rfl⟩))
          · refine TieO.run 3 rfl (.bind 8 (fun b2 => ⟨[(0, .t (tS Pv.encI l)), (13, .t (tS Pv.encI l)), (14, .t (tI (l.length : Int))), (15, .t (tI i)), (23, .t (tB false)), (34, .t (tB b2))], []⟩) (TieO.split 26 rfl ?_ ?_) fun b2 _ => ?_)
            · exact TieO.run 4 rfl (.index rfl rfl rfl rfl rfl rfl rfl rfl (fun _ => rfl) fun x2 hx2 => .run 3 rfl (.nil (.leaf ⟨rfl, .of rfl rfl⟩)))
            · exact TieO.run 8 rfl (.nil (.leaf ⟨rfl, .of rfl rfl⟩))
            exact TieO.run 1 rfl (.nil (.leaf ⟨rfl, .of rfl rfl⟩))
          refine TieO.nil (.cond rfl ?_ ?_)
          · exact TieS.seq (.region (.run 1 rfl (.nil (.ret ⟨rfl, rfl⟩))))
          · exact TieS.skip (.endb (.leaf ⟨rfl, .of rfl rfl⟩))
        rintro (t | t | t) e σ' _ hq
        · obtain ⟨rfl, hs⟩ := hq
          exact TieX.sub hs (TieS.region (.run 2 rfl (.nil (.leaf ⟨rfl, .of rfl rfl⟩))))
        · obtain ⟨rfl, hs⟩ := hq
          exact TieX.exitOut rfl ⟨(fun h => by cases h), rfl, hs⟩
        · obtain ⟨rfl, hs⟩ := hq
          exact TieX.ret ⟨(fun h => by cases h), rfl, hs⟩
      · exact TieS.exitOut rfl ⟨(fun h => by cases h), rfl, .of rfl rfl⟩
    rintro (s2 | r2) e σ' _ hq
    · obtain ⟨rfl, hs⟩ := hq
      refine TieX.exit rfl (TieX.sub hs ?_)
      exact TieS.seq (.region (.run 1 rfl (.nil (.ret ⟨.inl rfl, rfl⟩))))
    · obtain ⟨rfl, hs⟩ := hq
      exact TieX.ret ⟨.inl rfl, hs⟩
set_option maxRecDepth 100000 in
theorem tie_slices_IndexFunc_sint (s : List Int) (n2 : Nat) (cs : List (List Tree)) (f2 : Int → Option Bool) (h2 : ∀ x0, TieF Tryz.prog n2 ([.t (tI x0)] ++ cs.map T.el) (f2 x0) (fun r => .t (tB r))) : TieF Tryz.prog 71 [.t (tS Pv.encI s), .fz n2 cs] (slices_IndexFunc_sint s f2) (fun r => .t (tI r)) := by
  refine TieF.intro htab 19 [.tmp 4] Tryz.call71 Tryz.func71 rfl rfl rfl (Nat.le_of_ble_eq_true rfl) fun w0 L => ?_
  refine TieS.seq (.region (.run 1 rfl (.nil (.seq ?_))))
  refine TieS.seq (.region (.run 3 rfl (.nil (.block ?_))))
  refine TieS.loop (fun p => ⟨[(0, .t (tS Pv.encI s)), (1, .fz n2 cs), (7, .t (tI (s.length : Int))), (8, .t (tI p.1))], []⟩) (fun b e σ' => match b with | .inl t => e = .exit 0 ∧ Sub ⟨[], []⟩ σ' | .inr t => e = .ret ∧ retT tab σ' [.tmp 4] = some (((fun r => .t (tI r)) : Int → T) t)) (.of rfl rfl) ?_ ?_
  · rintro ⟨i, s2⟩
    refine TieS.seq (.region (.run 1 rfl (.nil (.seq ?_))))
    refine TieS.cond rfl ?_ ?_
    · refine TieS.skip (.seq (TieX.sub (σ' := ⟨[(0, .t (tS Pv.encI s)), (1, .fz n2 cs), (7, .t (tI (s.length : Int))), (8, .t (tI i))], []⟩) (.of rfl rfl) (TieS.bind (Q₁ := fun f e σ' => match f with | .next t => e = .normal ∧ Sub ⟨[(0, .t (tS Pv.encI s)), (1, .fz n2 cs), (7, .t (tI (s.length : Int))), (8, .t (tI i))], []⟩ σ' | .brk t => e = .exit 0 ∧ Sub ⟨[], []⟩ σ' | .ret t => e = .ret ∧ retT tab σ' [.tmp 4] = some (((fun r => .t (tI r)) : Int → T) t)) ?_ ?_)))
      · refine TieS.block (.seq (.region (.run 2 rfl (.nil ?_))))
        refine TieS.seq (.region (.run 3 rfl (.index rfl rfl rfl rfl rfl rfl rfl rfl (fun _ => rfl) fun x hx => .run 1 rfl ?_)))
        refine TieO.call _ rfl rfl rfl (h2 x) (fun _ => rfl) fun v => .nil (.cond rfl ?_ ?_)
        · exact TieS.seq (.region (.run 2 rfl (.nil (.ret ⟨rfl, rfl⟩))))
        · exact TieS.skip (.endb (.leaf ⟨rfl, .of rfl rfl⟩))
      rintro (t | t | t) e σ' _ hq
      · obtain ⟨rfl, hs⟩ := hq
        exact TieX.sub hs (TieS.region (.run 2 rfl (.nil (.leaf ⟨rfl, .of rfl rfl⟩))))
      · obtain ⟨rfl, hs⟩ := hq
        exact TieX.exitOut rfl ⟨(fun h => by cases h), rfl, hs⟩
      · obtain ⟨rfl, hs⟩ := hq
        exact TieX.ret ⟨(fun h => by cases h), rfl, hs⟩
    · exact TieS.exitOut rfl ⟨(fun h => by cases h), rfl, .of rfl rfl⟩
  rintro (s3 | r2) e σ' _ hq
  · obtain ⟨rfl, hs⟩ := hq
    refine TieX.exit rfl (TieX.sub hs ?_)
    exact TieS.seq (.region (.run 1 rfl (.nil (.ret ⟨.inl rfl, rfl⟩))))
  · obtain ⟨rfl, hs⟩ := hq
    exact TieX.ret ⟨.inl rfl, hs⟩
set_option maxRecDepth 100000 in
theorem tie_slices_ContainsFunc_sint (s : List Int) (n2 : Nat) (cs : List (List Tree)) (f2 : Int → Option Bool) (h2 : ∀ x0, TieF Tryz.prog n2 ([.t (tI x0)] ++ cs.map T.el) (f2 x0) (fun r => .t (tB r))) : TieF Tryz.prog 44 [.t (tS Pv.encI s), .fz n2 cs] (slices_ContainsFunc_sint s f2) (fun r => .t (tB r)) := by
  refine TieF.intro htab 9 [.tmp 4] Tryz.call44 Tryz.func44 rfl rfl rfl (Nat.le_of_ble_eq_true rfl) fun w0 L => ?_
  refine TieS.seq (.region (.run 1 rfl (.nil (.seq ?_))))
  refine TieS.region (.run 2 rfl (.call _ rfl rfl rfl (tie_slices_IndexFunc_sint s n2 cs f2 h2) (fun _ => rfl) fun v => .run 2 rfl (.nil ?_)))
  exact TieS.ret ⟨.inl rfl, rfl⟩
set_option maxRecDepth 100000 in
theorem tie_surface_Valid_1 (z : Int) : TieF Tryz.prog 45 [.t (tI z)] (surface_Valid_1 z) (fun r => .t (tB r)) := by
  refine TieF.intro htab 6 [.tmp 2] Tryz.call45 Tryz.func45 rfl rfl rfl (Nat.le_of_ble_eq_true rfl) fun w0 L => ?_
  refine TieS.seq (.region (.run 1 rfl (.nil (.seq ?_))))
  refine TieS.region (.run 1 rfl (.call _ rfl rfl rfl (tie_surface_element z) (fun _ => rfl) fun v => .run 2 rfl (.nil ?_)))
  exact TieS.ret ⟨.inl rfl, rfl⟩
abbrev x15_0 (m2 : SMap) : List T := [.t (tS Pv.encI m2.X), .t (tS Pv.encI m2.Y), .t (tS (Pv.encS Pv.encI) m2.Z)]
set_option maxRecDepth 100000 in
theorem tie_surface_Valid (m2 : SMap) : TieF Tryz.prog 15 [A_SMap m2] (surface_Valid m2) (fun r => .t (tB r)) := by
  refine TieF.intro htab 42 [.tmp 2] Tryz.call15 Tryz.func15 rfl rfl rfl (Nat.le_of_ble_eq_true rfl) fun w0 L => ?_
  refine TieS.seq (.region (.run 2 rfl (.nil (.seq ?_))))
  refine TieS.seq (.region (.run 2 rfl (.call _ rfl rfl rfl (tie_surface_axis m2.X) (fun _ => rfl) fun v => .run 2 rfl ?_)))
  refine TieO.bind 5 (fun b2 => ⟨[(1, .ptr 1 0), (14, .t (tB b2))], [(1, .box (x15_0 m2))]⟩) (TieO.split 9 rfl ?_ ?_) fun b2 _ => ?_
  · exact TieO.run 5 rfl (.nil (.leaf ⟨rfl, .of rfl rfl⟩))
  · exact TieO.run 2 rfl (.call _ rfl rfl rfl (tie_surface_axis m2.Y) (fun _ => rfl) fun v2 => .run 2 rfl (.nil (.leaf ⟨rfl, .of rfl rfl⟩)))
  refine TieO.run 1 rfl (.selOr (v := ((m2.Z.length : Int) != (m2.X.length : Int))) 8 15 (fun b => ⟨[(1, .ptr 1 0), (23, .t (tB b))], [(1, .box (x15_0 m2))]⟩) rfl ?_ ?_ ?_)
  · exact TieO.run 8 rfl (.nil (.leaf ⟨rfl, .of rfl rfl⟩))
  · exact TieO.run 8 rfl (.nil (.leaf ⟨rfl, .of rfl rfl⟩))
  refine TieO.nil (.cond rfl ?_ ?_)
  · exact TieS.seq (.region (.run 1 rfl (.nil (.ret ⟨.inl rfl, rfl⟩))))
  · refine TieS.skip (.seq (.seq (.region (.run 4 rfl ?_))))
    refine TieO.nil (.block (.loop (fun p => ⟨[(1, .ptr 1 0), (25, .t (tS (Pv.encS Pv.encI) m2.Z)), (26, .t (tI (m2.Z.length : Int))), (27, .t (tI p.1))], [(1, .box (x15_0 m2))]⟩) (fun b e σ' => match b with | .inl t => e = .exit 0 ∧ Sub ⟨[], []⟩ σ' | .inr t => e = .ret ∧ retT tab σ' [.tmp 2] = some (((fun r => .t (tB r)) : Bool → T) t)) (.of rfl rfl) ?_ ?_))
    · rintro ⟨i, s⟩
      refine TieS.seq (.region (.run 1 rfl (.nil (.seq ?_))))
      refine TieS.cond rfl ?_ ?_
      · refine TieS.skip (.seq (TieX.pre fun x hx => TieX.sub (σ' := ⟨[(1, .ptr 1 0), (25, .t (tS (Pv.encS Pv.encI) m2.Z)), (26, .t (tI (m2.Z.length : Int))), (27, .t (tI i))], [(1, .box (x15_0 m2))]⟩) (.of rfl rfl) (TieS.bind (Q₁ := fun f e σ' => match f with | .next t => e = .normal ∧ Sub ⟨[(1, .ptr 1 0), (25, .t (tS (Pv.encS Pv.encI) m2.Z)), (26, .t (tI (m2.Z.length : Int))), (27, .t (tI i))], [(1, .box (x15_0 m2))]⟩ σ' | .brk t => e = .exit 0 ∧ Sub ⟨[], []⟩ σ' | .ret t => e = .ret ∧ retT tab σ' [.tmp 2] = some (((fun r => .t (tB r)) : Bool → T) t)) ?_ ?_)))
        · refine TieS.block (.seq (.region (.indexH hx rfl rfl rfl rfl rfl rfl rfl rfl (fun _ => rfl) (.run 2 rfl ?_))))
          refine TieO.nil (.seq (.region (.run 7 rfl (.bind 3 (fun b3 => ⟨[(1, .ptr 1 0), (25, .t (tS (Pv.encS Pv.encI) m2.Z)), (26, .t (tI (m2.Z.length : Int))), (27, .t (tI i)), (40, .t (tB b3))], [(1, .box (x15_0 m2))]⟩) (TieO.split 37 rfl ?_ ?_) fun b3 _ => ?_))))
          · exact TieO.run 3 rfl (.nil (.leaf ⟨rfl, .of rfl rfl⟩))
          · exact TieO.run 1 rfl (.call _ rfl rfl rfl (tie_slices_ContainsFunc_sint x 45 [] surface_Valid_1 tie_surface_Valid_1) (fun _ => rfl) fun v3 => .run 1 rfl (.nil (.leaf ⟨rfl, .of rfl rfl⟩)))
          refine TieO.nil (.cond rfl ?_ ?_)
          · exact TieS.seq (.region (.run 1 rfl (.nil (.ret ⟨rfl, rfl⟩))))
          · exact TieS.skip (.endb (.leaf ⟨rfl, .of rfl rfl⟩))
        rintro (t | t | t) e σ' _ hq
        · obtain ⟨rfl, hs⟩ := hq
          exact TieX.sub hs (TieS.region (.run 2 rfl (.nil (.leaf ⟨rfl, .of rfl rfl⟩))))
        · obtain ⟨rfl, hs⟩ := hq
          exact TieX.exitOut rfl ⟨(fun h => by cases h), rfl, hs⟩
        · obtain ⟨rfl, hs⟩ := hq
          exact TieX.ret ⟨(fun h => by cases h), rfl, hs⟩
      · exact TieS.exitOut rfl ⟨(fun h => by cases h), rfl, .of rfl rfl⟩
    rintro (s2 | r2) e σ' _ hq
    · obtain ⟨rfl, hs⟩ := hq
      refine TieX.exit rfl (TieX.sub hs ?_)
      exact TieS.seq (.region (.run 1 rfl (.nil (.ret ⟨.inl rfl, rfl⟩))))
    · obtain ⟨rfl, hs⟩ := hq
      exact TieX.ret ⟨.inl rfl, hs⟩
set_option maxRecDepth 100000 in
theorem tie_slices_IndexFunc_sRequest (s : List SRequest) (n2 : Nat) (cs : List (List Tree)) (f2 : SRequest → Option Bool) (h2 : ∀ x0, TieF Tryz.prog n2 ([A_SRequest x0] ++ cs.map T.el) (f2 x0) (fun r => .t (tB r))) : TieF Tryz.prog 53 [.t (tS enc_SRequest s), .fz n2 cs] (slices_IndexFunc_sRequest s f2) (fun r => .t (tI r)) := by
  refine TieF.intro htab 19 [.tmp 4] Tryz.call53 Tryz.func53 rfl rfl rfl (Nat.le_of_ble_eq_true rfl) fun w0 L => ?_
  refine TieS.seq (.region (.run 1 rfl (.nil (.seq ?_))))
  refine TieS.seq (.region (.run 3 rfl (.nil (.block ?_))))
  refine TieS.loop (fun p => ⟨[(0, .t (tS enc_SRequest s)), (1, .fz n2 cs), (7, .t (tI (s.length : Int))), (8, .t (tI p.1))], []⟩) (fun b e σ' => match b with | .inl t => e = .exit 0 ∧ Sub ⟨[], []⟩ σ' | .inr t => e = .ret ∧ retT tab σ' [.tmp 4] = some (((fun r => .t (tI r)) : Int → T) t)) (.of rfl rfl) ?_ ?_
  · rintro ⟨i, s2⟩
    refine TieS.seq (.region (.run 1 rfl (.nil (.seq ?_))))
    refine TieS.cond rfl ?_ ?_
    · refine TieS.skip (.seq (TieX.sub (σ' := ⟨[(0, .t (tS enc_SRequest s)), (1, .fz n2 cs), (7, .t (tI (s.length : Int))), (8, .t (tI i))], []⟩) (.of rfl rfl) (TieS.bind (Q₁ := fun f e σ' => match f with | .next t => e = .normal ∧ Sub ⟨[(0, .t (tS enc_SRequest s)), (1, .fz n2 cs), (7, .t (tI (s.length : Int))), (8, .t (tI i))], []⟩ σ' | .brk t => e = .exit 0 ∧ Sub ⟨[], []⟩ σ' | .ret t => e = .ret ∧ retT tab σ' [.tmp 4] = some (((fun r => .t (tI r)) : Int → T) t)) ?_ ?_)))
      · refine TieS.block (.seq (.region (.run 2 rfl (.nil ?_))))
        refine TieS.seq (.region (.run 3 rfl (.index rfl rfl rfl rfl rfl rfl rfl rfl (fun _ => rfl) fun x hx => .run 1 rfl ?_)))
        refine TieO.call _ rfl rfl rfl (h2 x) (fun _ => rfl) fun v => .nil (.cond rfl ?_ ?_)
        · exact TieS.seq (.region (.run 2 rfl (.nil (.ret ⟨rfl, rfl⟩))))
        · exact TieS.skip (.endb (.leaf ⟨rfl, .of rfl rfl⟩))
      rintro (t | t | t) e σ' _ hq
      · obtain ⟨rfl, hs⟩ := hq
        exact TieX.sub hs (TieS.region (.run 2 rfl (.nil (.leaf ⟨rfl, .of rfl rfl⟩))))
      · obtain ⟨rfl, hs⟩ := hq
        exact TieX.exitOut rfl ⟨(fun h => by cases h), rfl, hs⟩
      · obtain ⟨rfl, hs⟩ := hq
        exact TieX.ret ⟨(fun h => by cases h), rfl, hs⟩
    · exact TieS.exitOut rfl ⟨(fun h => by cases h), rfl, .of rfl rfl⟩
  rintro (s3 | r2) e σ' _ hq
  · obtain ⟨rfl, hs⟩ := hq
    refine TieX.exit rfl (TieX.sub hs ?_)
    exact TieS.seq (.region (.run 1 rfl (.nil (.ret ⟨.inl rfl, rfl⟩))))
  · obtain ⟨rfl, hs⟩ := hq
    exact TieX.ret ⟨.inl rfl, hs⟩
set_option maxRecDepth 100000 in
theorem tie_slices_ContainsFunc_sRequest (s : List SRequest) (n2 : Nat) (cs : List (List Tree)) (f2 : SRequest → Option Bool) (h2 : ∀ x0, TieF Tryz.prog n2 ([A_SRequest x0] ++ cs.map T.el) (f2 x0) (fun r => .t (tB r))) : TieF Tryz.prog 23 [.t (tS enc_SRequest s), .fz n2 cs] (slices_ContainsFunc_sRequest s f2) (fun r => .t (tB r)) := by
  refine TieF.intro htab 9 [.tmp 4] Tryz.call23 Tryz.func23 rfl rfl rfl (Nat.le_of_ble_eq_true rfl) fun w0 L => ?_
  refine TieS.seq (.region (.run 1 rfl (.nil (.seq ?_))))
  refine TieS.region (.run 2 rfl (.call _ rfl rfl rfl (tie_slices_IndexFunc_sRequest s n2 cs f2 h2) (fun _ => rfl) fun v => .run 2 rfl (.nil ?_)))
  exact TieS.ret ⟨.inl rfl, rfl⟩
set_option maxRecDepth 100000 in
theorem tie_arbiter_torque (t2 : Int) : TieF Tryz.prog 54 [.t (tI t2)] (arbiter_torque t2) (fun r => .t (tB r)) := by
  refine TieF.intro htab 9 [.tmp 2] Tryz.call54 Tryz.func54 rfl rfl rfl (Nat.le_of_ble_eq_true rfl) fun w0 L => ?_
  refine TieS.seq (.region (.run 1 rfl (.nil (.seq ?_))))
  refine TieS.region (.run 3 rfl (.selAnd (v := decide (t2 ≤ 10000)) 3 5 (fun b => ⟨[(8, .t (tB b))], []⟩) rfl ?_ ?_ ?_))
  · exact TieO.run 3 rfl (.nil (.leaf ⟨rfl, .of rfl rfl⟩))
  · exact TieO.run 3 rfl (.nil (.leaf ⟨rfl, .of rfl rfl⟩))
  exact TieO.run 1 rfl (.nil (.ret ⟨.inl rfl, rfl⟩))
abbrev x25_0 (r2 : SRequest) : List T := [.t (tI r2.Source), .t (tI r2.Kind), .t (tI r2.Torque), .t (tI r2.Priority)]
set_option maxRecDepth 100000 in
theorem tie_arbiter_Valid (r2 : SRequest) : TieF Tryz.prog 25 [A_SRequest r2] (arbiter_Valid r2) (fun r => .t (tB r)) := by
  refine TieF.intro htab 45 [.tmp 2] Tryz.call25 Tryz.func25 rfl rfl rfl (Nat.le_of_ble_eq_true rfl) fun w0 L => ?_
  refine TieS.seq (.region (.run 2 rfl (.nil (.seq ?_))))
  refine TieS.seq (.region (.run 4 rfl (.selOr (v := decide (r2.Source > 15)) 4 6 (fun b => ⟨[(1, .ptr 1 0), (10, .t (tB b))], [(1, .box (x25_0 r2))]⟩) rfl ?_ ?_ ?_)))
  · exact TieO.run 4 rfl (.nil (.leaf ⟨rfl, .of rfl rfl⟩))
  · exact TieO.run 4 rfl (.nil (.leaf ⟨rfl, .of rfl rfl⟩))
  refine TieO.run 1 rfl (.selOr (v := decide (r2.Priority < 0)) 4 11 (fun b => ⟨[(1, .ptr 1 0), (15, .t (tB b))], [(1, .box (x25_0 r2))]⟩) rfl ?_ ?_ ?_)
  · exact TieO.run 4 rfl (.nil (.leaf ⟨rfl, .of rfl rfl⟩))
  · exact TieO.run 4 rfl (.nil (.leaf ⟨rfl, .of rfl rfl⟩))
  refine TieO.run 1 rfl (.selOr (v := decide (r2.Priority > 15)) 4 16 (fun b => ⟨[(1, .ptr 1 0), (20, .t (tB b))], [(1, .box (x25_0 r2))]⟩) rfl ?_ ?_ ?_)
  · exact TieO.run 4 rfl (.nil (.leaf ⟨rfl, .of rfl rfl⟩))
  · exact TieO.run 4 rfl (.nil (.leaf ⟨rfl, .of rfl rfl⟩))
  refine TieO.run 1 rfl (.bind 5 (fun b2 => ⟨[(1, .ptr 1 0), (26, .t (tB b2))], [(1, .box (x25_0 r2))]⟩) (TieO.split 21 rfl ?_ ?_) fun b2 _ => ?_)
  · exact TieO.run 5 rfl (.nil (.leaf ⟨rfl, .of rfl rfl⟩))
  · exact TieO.run 2 rfl (.call _ rfl rfl rfl (tie_arbiter_torque r2.Torque) (fun _ => rfl) fun v => .run 2 rfl (.nil (.leaf ⟨rfl, .of rfl rfl⟩)))
  refine TieO.nil (.cond rfl ?_ ?_)
  · exact TieS.seq (.region (.run 1 rfl (.nil (.ret ⟨.inl rfl, rfl⟩))))
  · refine TieS.skip (.seq (.region (.run 4 rfl (.bind 14 (fun b4 => ⟨[(44, .t (tB b4))], []⟩) (TieO.split 30 rfl ?_ ?_) fun b4 _ => ?_))))
    · exact TieO.run 14 rfl (.nil (.leaf ⟨rfl, .of rfl rfl⟩))
    · refine TieO.run 4 rfl (.bind 9 (fun b3 => ⟨[(30, .t (tB false)), (43, .t (tB b3))], []⟩) (TieO.split 34 rfl ?_ ?_) fun b3 _ => ?_)
      · refine TieO.run 4 rfl (.selOr (v := (r2.Kind == 3)) 4 38 (fun b => ⟨[(30, .t (tB false)), (34, .t (tB true)), (42, .t (tB b))], []⟩) rfl ?_ ?_ ?_)
        · exact TieO.run 4 rfl (.nil (.leaf ⟨rfl, .of rfl rfl⟩))
        · exact TieO.run 4 rfl (.nil (.leaf ⟨rfl, .of rfl rfl⟩))
        exact TieO.run 1 rfl (.nil (.leaf ⟨rfl, .of rfl rfl⟩))
      · exact TieO.run 9 rfl (.nil (.leaf ⟨rfl, .of rfl rfl⟩))
      exact TieO.run 1 rfl (.nil (.leaf ⟨rfl, .of rfl rfl⟩))
    exact TieO.run 1 rfl (.nil (.ret ⟨.inl rfl, rfl⟩))
set_option maxRecDepth 100000 in
theorem tie_monitor_Permitted_1 (r2 : SRequest) : TieF Tryz.prog 24 [A_SRequest r2] (monitor_Permitted_1 r2) (fun r => .t (tB r)) := by
  refine TieF.intro htab 6 [.tmp 2] Tryz.call24 Tryz.func24 rfl rfl rfl (Nat.le_of_ble_eq_true rfl) fun w0 L => ?_
  refine TieS.seq (.region (.run 2 rfl (.nil (.seq ?_))))
  refine TieS.region (.run 1 rfl (.call _ rfl rfl rfl (tie_arbiter_Valid r2) (fun _ => rfl) fun v => .run 2 rfl (.nil ?_)))
  exact TieS.ret ⟨.inl rfl, rfl⟩
set_option maxRecDepth 100000 in
theorem tie_monitor_within (x : Int) (low : Int) (high : Int) : TieF Tryz.prog 26 [.t (tI x), .t (tI low), .t (tI high)] (monitor_within x low high) (fun r => .t (tB r)) := by
  refine TieF.intro htab 15 [.tmp 6] Tryz.call26 Tryz.func26 rfl rfl rfl (Nat.le_of_ble_eq_true rfl) fun w0 L => ?_
  refine TieS.seq (.region (.run 1 rfl (.nil (.seq ?_))))
  refine TieS.region (.run 4 rfl (.selAnd (v := decide (x ≤ high)) 4 10 (fun b => ⟨[(14, .t (tB b))], []⟩) rfl ?_ ?_ ?_))
  · exact TieO.run 4 rfl (.nil (.leaf ⟨rfl, .of rfl rfl⟩))
  · exact TieO.run 4 rfl (.nil (.leaf ⟨rfl, .of rfl rfl⟩))
  exact TieO.run 1 rfl (.nil (.ret ⟨.inl rfl, rfl⟩))
set_option maxRecDepth 100000 in
theorem tie_monitor_around (axis : List Int) (x : Int) : TieF Tryz.prog 55 [.t (tS Pv.encI axis), .t (tI x)] (monitor_around axis x) (fun r => .tup [.t (tI r.1), .t (tI r.2)]) := by
  refine TieF.intro htab 45 [.tmp 4, .tmp 5] Tryz.call55 Tryz.func55 rfl rfl rfl (Nat.le_of_ble_eq_true rfl) fun w0 L => ?_
  refine TieS.seq (.region (.run 2 rfl (.nil (.seq ?_))))
  refine TieS.seq (.region (.run 3 rfl (.nil (.block ?_))))
  refine TieS.loop (fun p => ⟨[(0, .t (tS Pv.encI axis)), (1, .t (tI x)), (4, .t (tI p.2)), (9, .t (tS Pv.encI axis)), (10, .t (tI (axis.length : Int))), (11, .t (tI p.1))], []⟩) (fun b e σ' => match b with | .inl t => e = .exit 0 ∧ Sub ⟨[(0, .t (tS Pv.encI axis)), (1, .t (tI x)), (4, .t (tI t))], []⟩ σ' | .inr t => False) (.of rfl rfl) ?_ ?_
  · rintro ⟨i, below⟩
    refine TieS.seq (.region (.run 1 rfl (.nil (.seq ?_))))
    refine TieS.cond rfl ?_ ?_
    · refine TieS.skip (.seq (TieX.sub (σ' := ⟨[(0, .t (tS Pv.encI axis)), (1, .t (tI x)), (4, .t (tI below)), (9, .t (tS Pv.encI axis)), (10, .t (tI (axis.length : Int))), (11, .t (tI i))], []⟩) (.of rfl rfl) (TieS.bind (Q₁ := fun f e σ' => match f with | .next t => e = .normal ∧ Sub ⟨[(0, .t (tS Pv.encI axis)), (1, .t (tI x)), (4, .t (tI t)), (9, .t (tS Pv.encI axis)), (10, .t (tI (axis.length : Int))), (11, .t (tI i))], []⟩ σ' | .brk t => e = .exit 0 ∧ Sub ⟨[(0, .t (tS Pv.encI axis)), (1, .t (tI x)), (4, .t (tI t))], []⟩ σ' | .ret r => False) ?_ ?_)))
      · refine TieS.block (.seq (.region (.run 1 rfl (.index rfl rfl rfl rfl rfl rfl rfl rfl (fun _ => rfl) fun x2 hx2 => ?_))))
        refine TieO.run 3 rfl (.nil (.seq (.region (.run 3 rfl ?_))))
        refine TieO.nil (.cond rfl ?_ ?_)
        · exact TieS.region (.run 2 rfl (.nil (.endb (.leaf ⟨rfl, .of rfl rfl⟩))))
        · exact TieS.skip (.endb (.leaf ⟨rfl, .of rfl rfl⟩))
      rintro (t | t | r) e σ' _ hq
      · obtain ⟨rfl, hs⟩ := hq
        exact TieX.sub hs (TieS.region (.run 2 rfl (.nil (.leaf ⟨rfl, .of rfl rfl⟩))))
      · obtain ⟨rfl, hs⟩ := hq
        exact TieX.exitOut rfl ⟨(fun h => by cases h), rfl, hs⟩
      · exact hq.elim
    · exact TieS.exitOut rfl ⟨(fun h => by cases h), rfl, .of rfl rfl⟩
  rintro (below2 | r) e σ' _ hq
  · obtain ⟨rfl, hs⟩ := hq
    refine TieX.exit rfl (TieX.sub hs ?_)
    refine TieS.seq (.region (.run 4 rfl (.nil (.seq ?_))))
    refine TieS.seq (.region (.run 4 rfl (.nil (.block ?_))))
    refine TieS.loop (fun t => ⟨[(0, .t (tS Pv.encI axis)), (1, .t (tI x)), (4, .t (tI below2)), (5, .t (tI t.2)), (8, .t (tI t.1))], []⟩) (fun b e σ' => match b with | .inl t => e = .exit 2 ∧ Sub ⟨[(0, .t (tS Pv.encI axis)), (1, .t (tI x)), (4, .t (tI below2)), (5, .t (tI t.2))], []⟩ σ' | .inr t => False) (.of rfl rfl) ?_ ?_
    · intro s
      refine TieS.seq (.seq (.region (.run 2 rfl (.nil ?_))))
      refine TieS.cond rfl ?_ ?_
      · refine TieS.skip (.seq (.block (.seq (.region ?_))))
        refine TieO.run 2 rfl (.index rfl rfl rfl rfl rfl rfl rfl rfl (fun _ => rfl) fun x3 hx3 => .run 3 rfl (.nil (.cond rfl ?_ ?_)))
        · refine TieS.region (.run 2 rfl (.nil (.endb (.region ?_))))
          exact TieO.run 3 rfl (.nil (.leaf ⟨rfl, .of rfl rfl⟩))
        · refine TieS.skip (.endb (.region (.run 3 rfl (.nil ?_))))
          exact TieS.leaf ⟨rfl, .of rfl rfl⟩
      · exact TieS.exitOut rfl ⟨(fun h => by cases h), rfl, .of rfl rfl⟩
    rintro (s2 | r) e σ' _ hq
    · obtain ⟨rfl, hs⟩ := hq
      refine TieX.exit rfl (TieX.sub hs ?_)
      refine TieS.seq (.seq (.region (.run 2 rfl (.index rfl rfl rfl rfl rfl rfl rfl rfl (fun _ => rfl) fun x4 hx4 => ?_))))
      refine TieO.run 2 rfl (.nil (.cond rfl ?_ ?_))
      · refine TieS.region (.run 1 rfl (.nil (.seq (.region ?_))))
        exact TieO.run 4 rfl (.nil (.ret ⟨.inl rfl, rfl⟩))
      · refine TieS.skip (.seq (.region (.run 4 rfl (.nil ?_))))
        exact TieS.ret ⟨.inl rfl, rfl⟩
    · exact hq.elim
  · exact hq.elim
set_option maxRecDepth 100000 in
theorem tie_monitor_corner (m2 : SMap) (x : Int) (y : Int) : TieF Tryz.prog 27 [A_SMap m2, .t (tI x), .t (tI y)] (monitor_corner m2 x y) (fun r => .t (tI r)) := by
  refine TieF.intro htab 58 [.tmp 6] Tryz.call27 Tryz.func27 rfl rfl rfl (Nat.le_of_ble_eq_true rfl) fun w0 L => ?_
  refine TieS.seq (.region (.run 2 rfl (.nil (.seq ?_))))
  refine TieS.region (.run 3 rfl (.call _ rfl rfl rfl (tie_monitor_around m2.X x) (fun _ => rfl) fun r2 => .run 5 rfl (.nil ?_)))
  refine TieS.seq (.region (.run 3 rfl (.call _ rfl rfl rfl (tie_monitor_around m2.Y y) (fun _ => rfl) fun r3 => .run 5 rfl ?_)))
  refine TieO.nil (.seq (TieX.pre fun x2 hx2 => TieX.pre fun x3 hx3 => TieX.pre fun x4 hx4 => ?_))
  refine TieX.pre fun x5 hx5 => TieX.pre fun x6 hx6 => TieX.pre fun x7 hx7 => TieS.draw 34 [_, _, _, _, _, _, _, _, _, _, _, _, _, _, _, _, _, _, _, _, _, _, _, _, _, _, _, _, _, _, _, _, _, _] [(3, .ptr 3 0), (7, .t (tI r2.1)), (8, .t (tI r2.2)), (9, .t (tI r3.1)), (10, .t (tI r3.2))] [(3, .box [.t (tS Pv.encI m2.X), .t (tS Pv.encI m2.Y), .t (tS (Pv.encS Pv.encI) m2.Z)])] mixed (.of rfl rfl) rfl rfl rfl rfl (.cons (.quiet rfl rfl rfl) (.cons (.quiet rfl rfl rfl) (.cons (.quiet rfl rfl rfl) (.cons (.index hx2 rfl rfl rfl rfl rfl rfl (fun _ => rfl)) (.cons (.quiet rfl rfl rfl) (.cons (.quiet rfl rfl rfl) (.cons (.index hx3 rfl rfl rfl rfl rfl rfl (fun _ => rfl)) (.cons (.quiet rfl rfl rfl) (.cons (.quiet rfl rfl rfl) (.cons (.quiet rfl rfl rfl) (.cons (.quiet rfl rfl rfl) (.cons (.index hx2 rfl rfl rfl rfl rfl rfl (fun _ => rfl)) (.cons (.quiet rfl rfl rfl) (.cons (.quiet rfl rfl rfl) (.cons (.index hx4 rfl rfl rfl rfl rfl rfl (fun _ => rfl)) (.cons (.quiet rfl rfl rfl) (.cons (.quiet rfl rfl rfl) (.cons (.quiet rfl rfl rfl) (.cons (.quiet rfl rfl rfl) (.cons (.index hx5 rfl rfl rfl rfl rfl rfl (fun _ => rfl)) (.cons (.quiet rfl rfl rfl) (.cons (.quiet rfl rfl rfl) (.cons (.index hx6 rfl rfl rfl rfl rfl rfl (fun _ => rfl)) (.cons (.quiet rfl rfl rfl) (.cons (.quiet rfl rfl rfl) (.cons (.quiet rfl rfl rfl) (.cons (.quiet rfl rfl rfl) (.cons (.index hx5 rfl rfl rfl rfl rfl rfl (fun _ => rfl)) (.cons (.quiet rfl rfl rfl) (.cons (.quiet rfl rfl rfl) (.cons (.index hx7 rfl rfl rfl rfl rfl rfl (fun _ => rfl)) (.cons (.quiet rfl rfl rfl) (.cons (.quiet rfl rfl rfl) (.cons (.quiet rfl rfl rfl) (.nil))))))))))))))))))))))))))))))))))) (.nil ?_)
  exact TieS.ret ⟨.inl rfl, rfl⟩
set_option maxRecDepth 100000 in
theorem tie_monitor_raises (r2 : SRequest) : TieF Tryz.prog 28 [A_SRequest r2] (monitor_raises r2) (fun r => .t (tB r)) := by
  refine TieF.intro htab 11 [.tmp 2] Tryz.call28 Tryz.func28 rfl rfl rfl (Nat.le_of_ble_eq_true rfl) fun w0 L => ?_
  refine TieS.seq (.region (.run 2 rfl (.nil (.seq ?_))))
  refine TieS.region (.run 4 rfl (.selOr (v := (r2.Kind == 3)) 4 6 (fun b => ⟨[(10, .t (tB b))], []⟩) rfl ?_ ?_ ?_))
  · exact TieO.run 4 rfl (.nil (.leaf ⟨rfl, .of rfl rfl⟩))
  · exact TieO.run 4 rfl (.nil (.leaf ⟨rfl, .of rfl rfl⟩))
  exact TieO.run 1 rfl (.nil (.ret ⟨.inl rfl, rfl⟩))
set_option maxRecDepth 100000 in
theorem tie_monitor_Permitted (t2 : STables) (pedal : Int) (speed : Int) (l : List SRequest) : TieF Tryz.prog 7 [A_STables t2, .t (tI pedal), .t (tI speed), .t (tS enc_SRequest l)] (monitor_Permitted t2 pedal speed l) (fun r => .tup [.t (tI r.1), .t (tI r.2)]) := by
  refine TieF.intro htab 96 [.tmp 8, .tmp 9] Tryz.call7 Tryz.func7 rfl rfl rfl (Nat.le_of_ble_eq_true rfl) fun w0 L => ?_
  refine TieS.seq (.region (.run 3 rfl (.nil (.seq ?_))))
  refine TieS.block (.seq (.region (.run 2 rfl (.call _ rfl rfl rfl (tie_surface_Valid t2.Wish) (fun _ => rfl) fun v => ?_))))
  refine TieO.run 2 rfl (.bind 3 (fun b2 => ⟨[(1, .t (tI pedal)), (2, .t (tI speed)), (3, .t (tS enc_SRequest l)), (4, .ptr 4 0), (26, .t (tB b2))], [(4, .box (B_STables t2))]⟩) (TieO.split 23 rfl ?_ ?_) fun b2 _ => ?_)
  · exact TieO.run 3 rfl (.nil (.leaf ⟨rfl, .of rfl rfl⟩))
  · exact TieO.run 1 rfl (.call _ rfl rfl rfl (tie_slices_ContainsFunc_sRequest l 24 [] monitor_Permitted_1 tie_monitor_Permitted_1) (fun _ => rfl) fun v2 => .run 1 rfl (.nil (.leaf ⟨rfl, .of rfl rfl⟩)))
  refine TieO.run 1 rfl (.nil (.cond rfl ?_ ?_))
  · exact TieS.seq (.region (.run 2 rfl (.nil (.ret ⟨.inl rfl, rfl⟩))))
  · refine TieS.seq (.region (.run 4 rfl (.nil (.cond rfl ?_ ?_))))
    · exact TieS.seq (.region (.run 2 rfl (.nil (.ret ⟨.inl rfl, rfl⟩))))
    · refine TieS.seq (.region (.run 1 rfl (.call _ rfl rfl rfl (tie_monitor_within pedal 0 1000) (fun _ => rfl) fun v3 => .run 2 rfl ?_)))
      refine TieO.bind 4 (fun b3 => ⟨[(1, .t (tI pedal)), (2, .t (tI speed)), (3, .t (tS enc_SRequest l)), (4, .ptr 4 0), (39, .t (tB b3))], [(4, .box (B_STables t2))]⟩) (TieO.split 35 rfl ?_ ?_) fun b3 _ => ?_
      · exact TieO.run 4 rfl (.nil (.leaf ⟨rfl, .of rfl rfl⟩))
      · exact TieO.run 1 rfl (.call _ rfl rfl rfl (tie_monitor_within speed 0 12000) (fun _ => rfl) fun v4 => .run 2 rfl (.nil (.leaf ⟨rfl, .of rfl rfl⟩)))
      refine TieO.run 1 rfl (.nil (.cond rfl ?_ ?_))
      · exact TieS.seq (.region (.run 2 rfl (.nil (.ret ⟨.inl rfl, rfl⟩))))
      · refine TieS.skip (.endb (.seq (.region (.run 4 rfl ?_))))
        refine TieO.call _ rfl rfl rfl (tie_monitor_corner t2.Wish speed pedal) (fun _ => rfl) fun v5 => .run 3 rfl (.nil (.seq (.region ?_)))
        refine TieO.run 2 rfl (.nil (.seq (.seq (.region ?_))))
        refine TieO.run 3 rfl (.nil (.block (.loop (fun p => ⟨[(3, .t (tS enc_SRequest l)), (10, .t (tI (minI (maxI v5 (-5000)) 10000))), (11, .t (tI p.2.1)), (12, .t (tI p.2.2)), (47, .t (tS enc_SRequest l)), (48, .t (tI (l.length : Int))), (49, .t (tI p.1))], []⟩) (fun b e σ' => match b with | .inl t => e = .exit 1 ∧ Sub ⟨[(3, .t (tS enc_SRequest l)), (10, .t (tI (minI (maxI v5 (-5000)) 10000))), (11, .t (tI t.1)), (12, .t (tI t.2))], []⟩ σ' | .inr t => False) (.of rfl rfl) ?_ ?_)))
        · rintro ⟨i, s⟩
          refine TieS.seq (.region (.run 1 rfl (.nil (.seq ?_))))
          refine TieS.cond rfl ?_ ?_
          · refine TieS.skip (.seq (TieX.pre fun x hx => TieX.sub (σ' := ⟨[(3, .t (tS enc_SRequest l)), (10, .t (tI (minI (maxI v5 (-5000)) 10000))), (11, .t (tI s.1)), (12, .t (tI s.2)), (47, .t (tS enc_SRequest l)), (48, .t (tI (l.length : Int))), (49, .t (tI i))], []⟩) (.of rfl rfl) (TieS.bind (Q₁ := fun f e σ' => match f with | .next t => e = .normal ∧ Sub ⟨[(3, .t (tS enc_SRequest l)), (10, .t (tI (minI (maxI v5 (-5000)) 10000))), (11, .t (tI t.1)), (12, .t (tI t.2)), (47, .t (tS enc_SRequest l)), (48, .t (tI (l.length : Int))), (49, .t (tI i))], []⟩ σ' | .brk t => e = .exit 1 ∧ Sub ⟨[(3, .t (tS enc_SRequest l)), (10, .t (tI (minI (maxI v5 (-5000)) 10000))), (11, .t (tI t.1)), (12, .t (tI t.2))], []⟩ σ' | .ret r => False) ?_ ?_)))
            · refine TieS.block (.seq (.region (.indexH hx rfl rfl rfl rfl rfl rfl rfl rfl (fun _ => rfl) (.run 3 rfl ?_))))
              refine TieO.nil (.seq (.seq (.region (.run 1 rfl ?_))))
              refine TieO.call _ rfl rfl rfl (tie_monitor_raises x) (fun _ => rfl) fun v6 => .run 1 rfl (.nil (.cond rfl ?_ ?_))
              · exact TieS.exit rfl (.leaf ⟨rfl, .of rfl rfl⟩)
              · refine TieS.skip (.seq (.region (.run 5 rfl (.nil ?_))))
                refine TieS.seq (.region (.run 3 rfl (.nil (.cond rfl ?_ ?_))))
                · exact TieS.region (.run 6 rfl (.nil (.endb (.leaf ⟨rfl, .of rfl rfl⟩))))
                · exact TieS.skip (.endb (.leaf ⟨rfl, .of rfl rfl⟩))
            rintro (t | t | r) e σ' _ hq
            · obtain ⟨rfl, hs⟩ := hq
              exact TieX.sub hs (TieS.region (.run 2 rfl (.nil (.leaf ⟨rfl, .of rfl rfl⟩))))
            · obtain ⟨rfl, hs⟩ := hq
              exact TieX.exitOut rfl ⟨(fun h => by cases h), rfl, hs⟩
            · exact hq.elim
          · exact TieS.exitOut rfl ⟨(fun h => by cases h), rfl, .of rfl rfl⟩
        rintro (s2 | r) e σ' _ hq
        · obtain ⟨rfl, hs⟩ := hq
          refine TieX.exit rfl (TieX.sub hs ?_)
          refine TieS.seq (.region (.run 1 rfl (.nil (.seq ?_))))
          refine TieS.seq (.region (.run 3 rfl (.nil (.block ?_))))
          refine TieS.loop (fun p => ⟨[(10, .t (tI (minI (maxI v5 (-5000)) 10000))), (11, .t (tI s2.1)), (12, .t (tI s2.2)), (15, .t (tI p.2)), (69, .t (tS enc_SRequest l)), (70, .t (tI (l.length : Int))), (71, .t (tI p.1))], []⟩) (fun b e σ' => match b with | .inl t => e = .exit 3 ∧ Sub ⟨[(10, .t (tI (minI (maxI v5 (-5000)) 10000))), (11, .t (tI s2.1)), (15, .t (tI t))], []⟩ σ' | .inr t => False) (.of rfl rfl) ?_ ?_
          · rintro ⟨i2, limit⟩
            refine TieS.seq (.region (.run 1 rfl (.nil (.seq ?_))))
            refine TieS.cond rfl ?_ ?_
            · refine TieS.skip (.seq (TieX.pre fun x2 hx2 => TieX.sub (σ' := ⟨[(10, .t (tI (minI (maxI v5 (-5000)) 10000))), (11, .t (tI s2.1)), (12, .t (tI s2.2)), (15, .t (tI limit)), (69, .t (tS enc_SRequest l)), (70, .t (tI (l.length : Int))), (71, .t (tI i2))], []⟩) (.of rfl rfl) (TieS.bind (Q₁ := fun f e σ' => match f with | .next t => e = .normal ∧ Sub ⟨[(10, .t (tI (minI (maxI v5 (-5000)) 10000))), (11, .t (tI s2.1)), (12, .t (tI s2.2)), (15, .t (tI t)), (69, .t (tS enc_SRequest l)), (70, .t (tI (l.length : Int))), (71, .t (tI i2))], []⟩ σ' | .brk t => e = .exit 3 ∧ Sub ⟨[(10, .t (tI (minI (maxI v5 (-5000)) 10000))), (11, .t (tI s2.1)), (15, .t (tI t))], []⟩ σ' | .ret r => False) ?_ ?_)))
              · refine TieS.block (.seq (.region (.indexH hx2 rfl rfl rfl rfl rfl rfl rfl rfl (fun _ => rfl) (.run 3 rfl ?_))))
                refine TieO.nil (.seq (.region (.run 4 rfl (.selAnd (v := decide (x2.Priority > s2.2)) 5 78 (fun b => ⟨[(10, .t (tI (minI (maxI v5 (-5000)) 10000))), (11, .t (tI s2.1)), (12, .t (tI s2.2)), (15, .t (tI limit)), (17, .ptr 17 0), (69, .t (tS enc_SRequest l)), (70, .t (tI (l.length : Int))), (71, .t (tI i2)), (83, .t (tB b))], [(17, .box [.t (tI x2.Source), .t (tI x2.Kind), .t (tI x2.Torque), .t (tI x2.Priority)])]⟩) rfl ?_ ?_ ?_))))
                · exact TieO.run 5 rfl (.nil (.leaf ⟨rfl, .of rfl rfl⟩))
                · exact TieO.run 5 rfl (.nil (.leaf ⟨rfl, .of rfl rfl⟩))
                refine TieO.nil (.cond rfl ?_ ?_)
                · exact TieS.region (.run 5 rfl (.nil (.endb (.leaf ⟨rfl, .of rfl rfl⟩))))
                · exact TieS.skip (.endb (.leaf ⟨rfl, .of rfl rfl⟩))
              rintro (t | t | r) e σ' _ hq
              · obtain ⟨rfl, hs⟩ := hq
                exact TieX.sub hs (TieS.region (.run 2 rfl (.nil (.leaf ⟨rfl, .of rfl rfl⟩))))
              · obtain ⟨rfl, hs⟩ := hq
                exact TieX.exitOut rfl ⟨(fun h => by cases h), rfl, hs⟩
              · exact hq.elim
            · exact TieS.exitOut rfl ⟨(fun h => by cases h), rfl, .of rfl rfl⟩
          rintro (limit2 | r) e σ' _ hq
          · obtain ⟨rfl, hs⟩ := hq
            refine TieX.exit rfl (TieX.sub hs ?_)
            exact TieS.seq (.region (.run 9 rfl (.nil (.ret ⟨.inl rfl, rfl⟩))))
          · exact hq.elim
        · exact hq.elim
set_option maxRecDepth 100000 in
theorem tie_monitor_Actual (t2 : STables) (speed : Int) (charge : Int) (l : List SFire) : TieF Tryz.prog 30 [A_STables t2, .t (tI speed), .t (tI charge), .t (tS enc_SFire l)] (monitor_Actual t2 speed charge l) (fun r => .tup [.t (tI r.1), .t (tI r.2)]) := by
  refine TieF.intro htab 65 [.tmp 8, .tmp 9] Tryz.call30 Tryz.func30 rfl rfl rfl (Nat.le_of_ble_eq_true rfl) fun w0 L => ?_
  refine TieS.seq (.region (.run 3 rfl (.nil (.seq ?_))))
  refine TieS.block (.seq (.region (.run 2 rfl (.call _ rfl rfl rfl (tie_surface_Valid t2.Torque) (fun _ => rfl) fun v => ?_))))
  refine TieO.run 2 rfl (.nil (.cond rfl ?_ ?_))
  · exact TieS.seq (.region (.run 2 rfl (.nil (.ret ⟨.inl rfl, rfl⟩))))
  · refine TieS.seq (.region (.run 4 rfl (.nil (.cond rfl ?_ ?_))))
    · exact TieS.seq (.region (.run 2 rfl (.nil (.ret ⟨.inl rfl, rfl⟩))))
    · refine TieS.seq (.region (.run 1 rfl (.call _ rfl rfl rfl (tie_monitor_within speed 0 12000) (fun _ => rfl) fun v2 => .run 2 rfl ?_)))
      refine TieO.bind 4 (fun b2 => ⟨[(1, .t (tI speed)), (2, .t (tI charge)), (3, .t (tS enc_SFire l)), (4, .ptr 4 0), (31, .t (tB b2))], [(4, .box (B_STables t2))]⟩) (TieO.split 27 rfl ?_ ?_) fun b2 _ => ?_
      · exact TieO.run 4 rfl (.nil (.leaf ⟨rfl, .of rfl rfl⟩))
      · exact TieO.run 1 rfl (.call _ rfl rfl rfl (tie_monitor_within charge 0 1048576) (fun _ => rfl) fun v3 => .run 2 rfl (.nil (.leaf ⟨rfl, .of rfl rfl⟩)))
      refine TieO.run 1 rfl (.nil (.cond rfl ?_ ?_))
      · exact TieS.seq (.region (.run 2 rfl (.nil (.ret ⟨.inl rfl, rfl⟩))))
      · refine TieS.seq (.region (.run 4 rfl (.nil (.cond rfl ?_ ?_))))
        · exact TieS.seq (.region (.run 2 rfl (.nil (.ret ⟨.inl rfl, rfl⟩))))
        · refine TieS.skip (.endb (.seq (.region (.run 1 rfl ?_))))
          refine TieO.nil (.seq (.seq (.region (.run 3 rfl ?_))))
          refine TieO.nil (.block (.loop (fun p => ⟨[(1, .t (tI speed)), (2, .t (tI charge)), (3, .t (tS enc_SFire l)), (4, .ptr 4 0), (10, .t (tI p.2)), (36, .t (tS enc_SFire l)), (37, .t (tI (l.length : Int))), (38, .t (tI p.1))], [(4, .box (B_STables t2))]⟩) (fun b e σ' => match b with | .inl t => e = .exit 1 ∧ Sub ⟨[(1, .t (tI speed)), (2, .t (tI charge)), (3, .t (tS enc_SFire l)), (4, .ptr 4 0), (10, .t (tI t))], [(4, .box (B_STables t2))]⟩ σ' | .inr t => False) (.of rfl rfl) ?_ ?_))
          · rintro ⟨i, n2⟩
            refine TieS.seq (.region (.run 1 rfl (.nil (.seq ?_))))
            refine TieS.cond rfl ?_ ?_
            · refine TieS.skip (.seq (TieX.pre fun x hx => TieX.sub (σ' := ⟨[(1, .t (tI speed)), (2, .t (tI charge)), (3, .t (tS enc_SFire l)), (4, .ptr 4 0), (10, .t (tI n2)), (36, .t (tS enc_SFire l)), (37, .t (tI (l.length : Int))), (38, .t (tI i))], [(4, .box (B_STables t2))]⟩) (.of rfl rfl) (TieS.bind (Q₁ := fun f e σ' => match f with | .next t => e = .normal ∧ Sub ⟨[(1, .t (tI speed)), (2, .t (tI charge)), (3, .t (tS enc_SFire l)), (4, .ptr 4 0), (10, .t (tI t)), (36, .t (tS enc_SFire l)), (37, .t (tI (l.length : Int))), (38, .t (tI i))], [(4, .box (B_STables t2))]⟩ σ' | .brk t => e = .exit 1 ∧ Sub ⟨[(1, .t (tI speed)), (2, .t (tI charge)), (3, .t (tS enc_SFire l)), (4, .ptr 4 0), (10, .t (tI t))], [(4, .box (B_STables t2))]⟩ σ' | .ret r => False) ?_ ?_)))
              · refine TieS.block (.seq (.region (.indexH hx rfl rfl rfl rfl rfl rfl rfl rfl (fun _ => rfl) (.run 3 rfl ?_))))
                refine TieO.nil (.seq (.region (.run 3 rfl (.nil ?_))))
                refine TieS.cond rfl ?_ ?_
                · exact TieS.region (.run 3 rfl (.nil (.endb (.leaf ⟨rfl, .of rfl rfl⟩))))
                · exact TieS.skip (.endb (.leaf ⟨rfl, .of rfl rfl⟩))
              rintro (t | t | r) e σ' _ hq
              · obtain ⟨rfl, hs⟩ := hq
                exact TieX.sub hs (TieS.region (.run 2 rfl (.nil (.leaf ⟨rfl, .of rfl rfl⟩))))
              · obtain ⟨rfl, hs⟩ := hq
                exact TieX.exitOut rfl ⟨(fun h => by cases h), rfl, hs⟩
              · exact hq.elim
            · exact TieS.exitOut rfl ⟨(fun h => by cases h), rfl, .of rfl rfl⟩
          rintro (n3 | r) e σ' _ hq
          · obtain ⟨rfl, hs⟩ := hq
            refine TieX.exit rfl (TieX.sub hs ?_)
            refine TieS.seq (.region (.run 4 rfl (.call _ rfl rfl rfl (tie_monitor_corner t2.Torque speed charge) (fun _ => rfl) fun v4 => .run 3 rfl ?_)))
            refine TieO.nil (.seq (.region (.run 9 rfl (.quo rfl rfl rfl rfl rfl rfl fun q => ?_))))
            exact TieO.run 2 rfl (.nil (.ret ⟨.inl rfl, rfl⟩))
          · exact hq.elim
set_option maxRecDepth 100000 in
theorem tie_torque_within (x : Int) (low : Int) (high : Int) : TieF Tryz.prog 50 [.t (tI x), .t (tI low), .t (tI high)] (torque_within x low high) (fun r => .t (tB r)) := by
  refine TieF.intro htab 15 [.tmp 6] Tryz.call50 Tryz.func50 rfl rfl rfl (Nat.le_of_ble_eq_true rfl) fun w0 L => ?_
  refine TieS.seq (.region (.run 1 rfl (.nil (.seq ?_))))
  refine TieS.region (.run 4 rfl (.selAnd (v := decide (x ≤ high)) 4 10 (fun b => ⟨[(14, .t (tB b))], []⟩) rfl ?_ ?_ ?_))
  · exact TieO.run 4 rfl (.nil (.leaf ⟨rfl, .of rfl rfl⟩))
  · exact TieO.run 4 rfl (.nil (.leaf ⟨rfl, .of rfl rfl⟩))
  exact TieO.run 1 rfl (.nil (.ret ⟨.inl rfl, rfl⟩))
set_option maxRecDepth 100000 in
theorem tie_curve_far (n2 : Int) : TieF Tryz.prog 48 [.t (tI n2)] (curve_far n2) (fun r => .t (tB r)) := by
  refine TieF.intro htab 9 [.tmp 2] Tryz.call48 Tryz.func48 rfl rfl rfl (Nat.le_of_ble_eq_true rfl) fun w0 L => ?_
  refine TieS.seq (.region (.run 1 rfl (.nil (.seq ?_))))
  refine TieS.region (.run 3 rfl (.selOr (v := decide (n2 > 1073741824)) 3 5 (fun b => ⟨[(8, .t (tB b))], []⟩) rfl ?_ ?_ ?_))
  · exact TieO.run 3 rfl (.nil (.leaf ⟨rfl, .of rfl rfl⟩))
  · exact TieO.run 3 rfl (.nil (.leaf ⟨rfl, .of rfl rfl⟩))
  exact TieO.run 1 rfl (.nil (.ret ⟨.inl rfl, rfl⟩))
set_option maxRecDepth 100000 in
theorem tie_curve_axis (l : List Int) : TieF Tryz.prog 47 [.t (tS Pv.encI l)] (curve_axis l) (fun r => .t (tB r)) := by
  refine TieF.intro htab 33 [.tmp 2] Tryz.call47 Tryz.func47 rfl rfl rfl (Nat.le_of_ble_eq_true rfl) fun w0 L => ?_
  refine TieS.seq (.region (.run 1 rfl (.nil (.seq ?_))))
  refine TieS.seq (.region (.run 4 rfl (.selOr (v := decide ((l.length : Int) > 32)) 4 7 (fun b => ⟨[(0, .t (tS Pv.encI l)), (11, .t (tB b))], []⟩) rfl ?_ ?_ ?_)))
  · exact TieO.run 4 rfl (.nil (.leaf ⟨rfl, .of rfl rfl⟩))
  · exact TieO.run 4 rfl (.nil (.leaf ⟨rfl, .of rfl rfl⟩))
  refine TieO.run 1 rfl (.bind 3 (fun b2 => ⟨[(0, .t (tS Pv.encI l)), (15, .t (tB b2))], []⟩) (TieO.split 12 rfl ?_ ?_) fun b2 _ => ?_)
  · exact TieO.run 3 rfl (.nil (.leaf ⟨rfl, .of rfl rfl⟩))
  · exact TieO.run 1 rfl (.call _ rfl rfl rfl (tie_slices_ContainsFunc_sint l 48 [] curve_far tie_curve_far) (fun _ => rfl) fun v => .run 1 rfl (.nil (.leaf ⟨rfl, .of rfl rfl⟩)))
  refine TieO.nil (.cond rfl ?_ ?_)
  · exact TieS.seq (.region (.run 1 rfl (.nil (.ret ⟨.inl rfl, rfl⟩))))
  · refine TieS.skip (.seq (.seq (.region (.run 4 rfl ?_))))
    refine TieO.nil (.block (.loop (fun p => ⟨[(0, .t (tS Pv.encI l)), (18, .t (tI (w64 ((l.length : Int) - 1)))), (19, .t (tI p.1))], []⟩) (fun b e σ' => match b with | .inl t => e = .exit 0 ∧ Sub ⟨[], []⟩ σ' | .inr t => e = .ret ∧ retT tab σ' [.tmp 2] = some (((fun r => .t (tB r)) : Bool → T) t)) (.of rfl rfl) ?_ ?_))
    · rintro ⟨i, s⟩
      refine TieS.seq (.region (.run 1 rfl (.nil (.seq ?_))))
      refine TieS.cond rfl ?_ ?_
      · refine TieS.skip (.seq (TieX.sub (σ' := ⟨[(0, .t (tS Pv.encI l)), (18, .t (tI (w64 ((l.length : Int) - 1)))), (19, .t (tI i))], []⟩) (.of rfl rfl) (TieS.bind (Q₁ := fun f e σ' => match f with | .next t => e = .normal ∧ Sub ⟨[(0, .t (tS Pv.encI l)), (18, .t (tI (w64 ((l.length : Int) - 1)))), (19, .t (tI i))], []⟩ σ' | .brk t => e = .exit 0 ∧ Sub ⟨[], []⟩ σ' | .ret t => e = .ret ∧ retT tab σ' [.tmp 2] = some (((fun r => .t (tB r)) : Bool → T) t)) ?_ ?_)))
        · refine TieS.block (.seq (.region (.run 2 rfl (.nil ?_))))
          refine TieS.seq (TieX.pre fun x hx => TieX.pre fun x2 hx2 => TieS.draw 10 [_, _, _, _, _, _, _, _, _, _] [(0, .t (tS Pv.encI l)), (3, .t (tI i)), (18, .t (tI (w64 ((l.length : Int) - 1)))), (19, .t (tI i))] [] mixed (.of rfl rfl) rfl rfl rfl rfl (.cons (.quiet rfl rfl rfl) (.cons (.quiet rfl rfl rfl) (.cons (.index hx rfl rfl rfl rfl rfl rfl (fun _ => rfl)) (.cons (.quiet rfl rfl rfl) (.cons (.quiet rfl rfl rfl) (.cons (.quiet rfl rfl rfl) (.cons (.quiet rfl rfl rfl) (.cons (.index hx2 rfl rfl rfl rfl rfl rfl (fun _ => rfl)) (.cons (.quiet rfl rfl rfl) (.cons (.quiet rfl rfl rfl) (.nil))))))))))) (.nil ?_))
          refine TieS.cond rfl ?_ ?_
          · exact TieS.seq (.region (.run 1 rfl (.nil (.ret ⟨rfl, rfl⟩))))
          · exact TieS.skip (.endb (.leaf ⟨rfl, .of rfl rfl⟩))
        rintro (t | t | t) e σ' _ hq
        · obtain ⟨rfl, hs⟩ := hq
          exact TieX.sub hs (TieS.region (.run 2 rfl (.nil (.leaf ⟨rfl, .of rfl rfl⟩))))
        · obtain ⟨rfl, hs⟩ := hq
          exact TieX.exitOut rfl ⟨(fun h => by cases h), rfl, hs⟩
        · obtain ⟨rfl, hs⟩ := hq
          exact TieX.ret ⟨(fun h => by cases h), rfl, hs⟩
      · exact TieS.exitOut rfl ⟨(fun h => by cases h), rfl, .of rfl rfl⟩
    rintro (s2 | r2) e σ' _ hq
    · obtain ⟨rfl, hs⟩ := hq
      refine TieX.exit rfl (TieX.sub hs ?_)
      exact TieS.seq (.region (.run 1 rfl (.nil (.ret ⟨.inl rfl, rfl⟩))))
    · obtain ⟨rfl, hs⟩ := hq
      exact TieX.ret ⟨.inl rfl, hs⟩
set_option maxRecDepth 100000 in
theorem tie_curve_Valid (c : SCurve) : TieF Tryz.prog 16 [A_SCurve c] (curve_Valid c) (fun r => .t (tB r)) := by
  refine TieF.intro htab 21 [.tmp 2] Tryz.call16 Tryz.func16 rfl rfl rfl (Nat.le_of_ble_eq_true rfl) fun w0 L => ?_
  refine TieS.seq (.region (.run 2 rfl (.nil (.seq ?_))))
  refine TieS.region (.run 8 rfl (.bind 4 (fun b2 => ⟨[(1, .ptr 1 0), (14, .t (tB b2))], [(1, .box [.t (tS Pv.encI c.X), .t (tS Pv.encI c.Y)])]⟩) (TieO.split 10 rfl ?_ ?_) fun b2 _ => ?_))
  · exact TieO.run 2 rfl (.call _ rfl rfl rfl (tie_curve_axis c.X) (fun _ => rfl) fun v => .run 1 rfl (.nil (.leaf ⟨rfl, .of rfl rfl⟩)))
  · exact TieO.run 4 rfl (.nil (.leaf ⟨rfl, .of rfl rfl⟩))
  refine TieO.run 1 rfl (.bind 5 (fun b3 => ⟨[(20, .t (tB b3))], []⟩) (TieO.split 15 rfl ?_ ?_) fun b3 _ => ?_)
  · exact TieO.run 2 rfl (.call _ rfl rfl rfl (tie_slices_ContainsFunc_sint c.Y 48 [] curve_far tie_curve_far) (fun _ => rfl) fun v2 => .run 2 rfl (.nil (.leaf ⟨rfl, .of rfl rfl⟩)))
  · exact TieO.run 5 rfl (.nil (.leaf ⟨rfl, .of rfl rfl⟩))
  exact TieO.run 1 rfl (.nil (.ret ⟨.inl rfl, rfl⟩))
set_option maxRecDepth 100000 in
theorem tie_torque_outside_1 (x : Int) (c : Int) (c2 : Int) : TieF Tryz.prog 49 [.t (tI x), .el (Pv.encI c), .el (Pv.encI c2)] (torque_outside_1 x c c2) (fun r => .t (tB r)) := by
  refine TieF.intro htab 10 [.tmp 4] Tryz.call49 Tryz.func49 rfl rfl rfl (Nat.le_of_ble_eq_true rfl) fun w0 L => ?_
  refine TieS.seq (.region (.run 1 rfl (.nil (.seq ?_))))
  refine TieS.region (.run 3 rfl (.call _ rfl rfl rfl (tie_torque_within x c c2) (fun _ => rfl) fun v => .run 2 rfl (.nil ?_)))
  exact TieS.ret ⟨.inl rfl, rfl⟩
set_option maxRecDepth 100000 in
theorem tie_torque_outside (l : List Int) (low : Int) (high : Int) : TieF Tryz.prog 17 [.t (tS Pv.encI l), .t (tI low), .t (tI high)] (torque_outside l low high) (fun r => .t (tB r)) := by
  refine TieF.intro htab 10 [.tmp 6] Tryz.call17 Tryz.func17 rfl rfl rfl (Nat.le_of_ble_eq_true rfl) fun w0 L => ?_
  refine TieS.seq (.region (.run 3 rfl (.nil (.seq ?_))))
  refine TieS.region (.run 1 rfl (.frzBox 4 rfl rfl (.frzBox 5 rfl rfl (.run 1 rfl ?_))))
  exact TieO.sub (σ' := ⟨[(0, .t (tS Pv.encI l)), (1, .t (tI low)), (2, .t (tI high)), (4, .el (Pv.encI low)), (5, .el (Pv.encI high)), (6, .t (tB false)), (7, .t (tS Pv.encI l)), (8, .fz 49 [Pv.encI low, Pv.encI high])], []⟩) (.of rfl rfl) (.call _ rfl rfl rfl (tie_slices_ContainsFunc_sint l 49 [Pv.encI low, Pv.encI high] (fun x0 => torque_outside_1 x0 low high) (fun x0 => tie_torque_outside_1 x0 low high)) (fun _ => rfl) fun v => .run 1 rfl (.nil (.ret ⟨.inl rfl, rfl⟩)))
set_option maxRecDepth 100000 in
theorem tie_slices_IsSortedFunc_sint (x : List Int) (n2 : Nat) (cs : List (List Tree)) (cmp : Int → Int → Option Int) (h2 : ∀ x0 x1, TieF Tryz.prog n2 ([.t (tI x0), .t (tI x1)] ++ cs.map T.el) (cmp x0 x1) (fun r => .t (tI r))) : TieF Tryz.prog 18 [.t (tS Pv.encI x), .fz n2 cs] (slices_IsSortedFunc_sint x cmp) (fun r => .t (tB r)) := by
  refine TieF.intro htab 25 [.tmp 4] Tryz.call18 Tryz.func18 rfl rfl rfl (Nat.le_of_ble_eq_true rfl) fun w0 L => ?_
  refine TieS.seq (.region (.run 1 rfl (.nil (.seq ?_))))
  refine TieS.seq (.region (.run 4 rfl (.nil (.block ?_))))
  refine TieS.loop (fun t => ⟨[(0, .t (tS Pv.encI x)), (1, .fz n2 cs), (5, .t (tI t))], []⟩) (fun b e σ' => match b with | .inl t => e = .exit 0 ∧ Sub ⟨[], []⟩ σ' | .inr t => e = .ret ∧ retT tab σ' [.tmp 4] = some (((fun r => .t (tB r)) : Bool → T) t)) (.of rfl rfl) ?_ ?_
  · intro i
    refine TieS.seq (.seq (.region (.run 2 rfl (.nil ?_))))
    refine TieS.cond rfl ?_ ?_
    · refine TieS.skip (.seq (.block (.seq (TieX.pre fun x2 hx2 => ?_))))
      refine TieX.pre fun x3 hx3 => TieX.pre fun v hv => TieS.draw 12 [_, _, _, _, _, _, _, _, _, _, _, _] [(0, .t (tS Pv.encI x)), (1, .fz n2 cs), (5, .t (tI i))] [] mixed (.of rfl rfl) rfl rfl rfl rfl (.cons (.quiet rfl rfl rfl) (.cons (.quiet rfl rfl rfl) (.cons (.quiet rfl rfl rfl) (.cons (.index hx2 rfl rfl rfl rfl rfl rfl (fun _ => rfl)) (.cons (.quiet rfl rfl rfl) (.cons (.quiet rfl rfl rfl) (.cons (.quiet rfl rfl rfl) (.cons (.quiet rfl rfl rfl) (.cons (.index hx3 rfl rfl rfl rfl rfl rfl (fun _ => rfl)) (.cons (.quiet rfl rfl rfl) (.cons (.callV (h2 x2 x3) hv rfl rfl rfl rfl) (.cons (.quiet rfl rfl rfl) (.nil))))))))))))) (.nil (.cond rfl ?_ ?_))
      · exact TieS.seq (.region (.run 1 rfl (.nil (.ret ⟨(fun h => by cases h), rfl, rfl⟩))))
      · refine TieS.skip (.endb (.region (.run 3 rfl (.nil ?_))))
        exact TieS.leaf ⟨rfl, .of rfl rfl⟩
    · exact TieS.exitOut rfl ⟨(fun h => by cases h), rfl, .of rfl rfl⟩
  rintro (i2 | r2) e σ' _ hq
  · obtain ⟨rfl, hs⟩ := hq
    refine TieX.exit rfl (TieX.sub hs ?_)
    exact TieS.seq (.region (.run 1 rfl (.nil (.ret ⟨.inl rfl, rfl⟩))))
  · obtain ⟨rfl, hs⟩ := hq
    exact TieX.ret ⟨.inl rfl, hs⟩
set_option maxRecDepth 100000 in
theorem tie_torque_Valid_1 (a : Int) (b2 : Int) : TieF Tryz.prog 19 [.t (tI a), .t (tI b2)] (torque_Valid_1 a b2) (fun r => .t (tI r)) := by
  refine TieF.intro htab 8 [.tmp 4] Tryz.call19 Tryz.func19 rfl rfl rfl (Nat.le_of_ble_eq_true rfl) fun w0 L => ?_
  refine TieS.seq (.region (.run 1 rfl (.nil (.seq ?_))))
  exact TieS.region (.run 4 rfl (.nil (.ret ⟨.inl rfl, rfl⟩)))
set_option maxRecDepth 100000 in
theorem tie_slices_IndexFunc_ssint (s : List (List Int)) (n2 : Nat) (cs : List (List Tree)) (f2 : (List Int) → Option Bool) (h2 : ∀ x0, TieF Tryz.prog n2 ([.t (tS Pv.encI x0)] ++ cs.map T.el) (f2 x0) (fun r => .t (tB r))) : TieF Tryz.prog 51 [.t (tS (Pv.encS Pv.encI) s), .fz n2 cs] (slices_IndexFunc_ssint s f2) (fun r => .t (tI r)) := by
  refine TieF.intro htab 19 [.tmp 4] Tryz.call51 Tryz.func51 rfl rfl rfl (Nat.le_of_ble_eq_true rfl) fun w0 L => ?_
  refine TieS.seq (.region (.run 1 rfl (.nil (.seq ?_))))
  refine TieS.seq (.region (.run 3 rfl (.nil (.block ?_))))
  refine TieS.loop (fun p => ⟨[(0, .t (tS (Pv.encS Pv.encI) s)), (1, .fz n2 cs), (7, .t (tI (s.length : Int))), (8, .t (tI p.1))], []⟩) (fun b e σ' => match b with | .inl t => e = .exit 0 ∧ Sub ⟨[], []⟩ σ' | .inr t => e = .ret ∧ retT tab σ' [.tmp 4] = some (((fun r => .t (tI r)) : Int → T) t)) (.of rfl rfl) ?_ ?_
  · rintro ⟨i, s2⟩
    refine TieS.seq (.region (.run 1 rfl (.nil (.seq ?_))))
    refine TieS.cond rfl ?_ ?_
    · refine TieS.skip (.seq (TieX.sub (σ' := ⟨[(0, .t (tS (Pv.encS Pv.encI) s)), (1, .fz n2 cs), (7, .t (tI (s.length : Int))), (8, .t (tI i))], []⟩) (.of rfl rfl) (TieS.bind (Q₁ := fun f e σ' => match f with | .next t => e = .normal ∧ Sub ⟨[(0, .t (tS (Pv.encS Pv.encI) s)), (1, .fz n2 cs), (7, .t (tI (s.length : Int))), (8, .t (tI i))], []⟩ σ' | .brk t => e = .exit 0 ∧ Sub ⟨[], []⟩ σ' | .ret t => e = .ret ∧ retT tab σ' [.tmp 4] = some (((fun r => .t (tI r)) : Int → T) t)) ?_ ?_)))
      · refine TieS.block (.seq (.region (.run 2 rfl (.nil ?_))))
        refine TieS.seq (.region (.run 3 rfl (.index rfl rfl rfl rfl rfl rfl rfl rfl (fun _ => rfl) fun x hx => .run 1 rfl ?_)))
        refine TieO.call _ rfl rfl rfl (h2 x) (fun _ => rfl) fun v => .nil (.cond rfl ?_ ?_)
        · exact TieS.seq (.region (.run 2 rfl (.nil (.ret ⟨rfl, rfl⟩))))
        · exact TieS.skip (.endb (.leaf ⟨rfl, .of rfl rfl⟩))
      rintro (t | t | t) e σ' _ hq
      · obtain ⟨rfl, hs⟩ := hq
        exact TieX.sub hs (TieS.region (.run 2 rfl (.nil (.leaf ⟨rfl, .of rfl rfl⟩))))
      · obtain ⟨rfl, hs⟩ := hq
        exact TieX.exitOut rfl ⟨(fun h => by cases h), rfl, hs⟩
      · obtain ⟨rfl, hs⟩ := hq
        exact TieX.ret ⟨(fun h => by cases h), rfl, hs⟩
    · exact TieS.exitOut rfl ⟨(fun h => by cases h), rfl, .of rfl rfl⟩
  rintro (s3 | r2) e σ' _ hq
  · obtain ⟨rfl, hs⟩ := hq
    refine TieX.exit rfl (TieX.sub hs ?_)
    exact TieS.seq (.region (.run 1 rfl (.nil (.ret ⟨.inl rfl, rfl⟩))))
  · obtain ⟨rfl, hs⟩ := hq
    exact TieX.ret ⟨.inl rfl, hs⟩
set_option maxRecDepth 100000 in
theorem tie_slices_ContainsFunc_ssint (s : List (List Int)) (n2 : Nat) (cs : List (List Tree)) (f2 : (List Int) → Option Bool) (h2 : ∀ x0, TieF Tryz.prog n2 ([.t (tS Pv.encI x0)] ++ cs.map T.el) (f2 x0) (fun r => .t (tB r))) : TieF Tryz.prog 20 [.t (tS (Pv.encS Pv.encI) s), .fz n2 cs] (slices_ContainsFunc_ssint s f2) (fun r => .t (tB r)) := by
  refine TieF.intro htab 9 [.tmp 4] Tryz.call20 Tryz.func20 rfl rfl rfl (Nat.le_of_ble_eq_true rfl) fun w0 L => ?_
  refine TieS.seq (.region (.run 1 rfl (.nil (.seq ?_))))
  refine TieS.region (.run 2 rfl (.call _ rfl rfl rfl (tie_slices_IndexFunc_ssint s n2 cs f2 h2) (fun _ => rfl) fun v => .run 2 rfl (.nil ?_)))
  exact TieS.ret ⟨.inl rfl, rfl⟩
set_option maxRecDepth 100000 in
theorem tie_cmp_isNaN_int (x : Int) : TieF Tryz.prog 72 [.t (tI x)] (cmp_isNaN_int x) (fun r => .t (tB r)) := by
  refine TieF.intro htab 6 [.tmp 2] Tryz.call72 Tryz.func72 rfl rfl rfl (Nat.le_of_ble_eq_true rfl) fun w0 L => ?_
  refine TieS.seq (.region (.run 1 rfl (.nil (.seq ?_))))
  exact TieS.region (.run 4 rfl (.nil (.ret ⟨.inl rfl, rfl⟩)))
set_option maxRecDepth 100000 in
theorem tie_cmp_Less_int (x : Int) (y : Int) : TieF Tryz.prog 52 [.t (tI x), .t (tI y)] (cmp_Less_int x y) (fun r => .t (tB r)) := by
  refine TieF.intro htab 17 [.tmp 4] Tryz.call52 Tryz.func52 rfl rfl rfl (Nat.le_of_ble_eq_true rfl) fun w0 L => ?_
  refine TieS.seq (.region (.run 1 rfl (.nil (.seq ?_))))
  refine TieS.region (.run 1 rfl (.call _ rfl rfl rfl (tie_cmp_isNaN_int x) (fun _ => rfl) fun v => .run 1 rfl (.bind 4 (fun b2 => ⟨[(0, .t (tI x)), (1, .t (tI y)), (11, .t (tB b2))], []⟩) (TieO.split 7 rfl ?_ ?_) fun b2 _ => ?_)))
  · exact TieO.run 1 rfl (.call _ rfl rfl rfl (tie_cmp_isNaN_int y) (fun _ => rfl) fun v2 => .run 2 rfl (.nil (.leaf ⟨rfl, .of rfl rfl⟩)))
  · exact TieO.run 4 rfl (.nil (.leaf ⟨rfl, .of rfl rfl⟩))
  refine TieO.run 1 rfl (.selOr (v := decide (x < y)) 4 12 (fun b => ⟨[(16, .t (tB b))], []⟩) rfl ?_ ?_ ?_)
  · exact TieO.run 4 rfl (.nil (.leaf ⟨rfl, .of rfl rfl⟩))
  · exact TieO.run 4 rfl (.nil (.leaf ⟨rfl, .of rfl rfl⟩))
  exact TieO.run 1 rfl (.nil (.ret ⟨.inl rfl, rfl⟩))
set_option maxRecDepth 100000 in
theorem tie_slices_IsSorted_sint (x : List Int) : TieF Tryz.prog 22 [.t (tS Pv.encI x)] (slices_IsSorted_sint x) (fun r => .t (tB r)) := by
  refine TieF.intro htab 21 [.tmp 2] Tryz.call22 Tryz.func22 rfl rfl rfl (Nat.le_of_ble_eq_true rfl) fun w0 L => ?_
  refine TieS.seq (.region (.run 1 rfl (.nil (.seq ?_))))
  refine TieS.seq (.region (.run 4 rfl (.nil (.block ?_))))
  refine TieS.loop (fun t => ⟨[(0, .t (tS Pv.encI x)), (3, .t (tI t))], []⟩) (fun b e σ' => match b with | .inl t => e = .exit 0 ∧ Sub ⟨[], []⟩ σ' | .inr t => e = .ret ∧ retT tab σ' [.tmp 2] = some (((fun r => .t (tB r)) : Bool → T) t)) (.of rfl rfl) ?_ ?_
  · intro i
    refine TieS.seq (.seq (.region (.run 2 rfl (.nil ?_))))
    refine TieS.cond rfl ?_ ?_
    · refine TieS.skip (.seq (.block (.seq (TieX.pre fun x2 hx2 => ?_))))
      refine TieX.pre fun x3 hx3 => TieX.pre fun v hv => TieS.draw 10 [_, _, _, _, _, _, _, _, _, _] [(0, .t (tS Pv.encI x)), (3, .t (tI i))] [] mixed (.of rfl rfl) rfl rfl rfl rfl (.cons (.quiet rfl rfl rfl) (.cons (.quiet rfl rfl rfl) (.cons (.index hx2 rfl rfl rfl rfl rfl rfl (fun _ => rfl)) (.cons (.quiet rfl rfl rfl) (.cons (.quiet rfl rfl rfl) (.cons (.quiet rfl rfl rfl) (.cons (.quiet rfl rfl rfl) (.cons (.index hx3 rfl rfl rfl rfl rfl rfl (fun _ => rfl)) (.cons (.quiet rfl rfl rfl) (.cons (.callV (tie_cmp_Less_int x2 x3) hv rfl rfl rfl rfl) (.nil))))))))))) (.nil (.cond rfl ?_ ?_))
      · exact TieS.seq (.region (.run 1 rfl (.nil (.ret ⟨(fun h => by cases h), rfl, rfl⟩))))
      · refine TieS.skip (.endb (.region (.run 3 rfl (.nil ?_))))
        exact TieS.leaf ⟨rfl, .of rfl rfl⟩
    · exact TieS.exitOut rfl ⟨(fun h => by cases h), rfl, .of rfl rfl⟩
  rintro (i2 | r2) e σ' _ hq
  · obtain ⟨rfl, hs⟩ := hq
    refine TieX.exit rfl (TieX.sub hs ?_)
    exact TieS.seq (.region (.run 1 rfl (.nil (.ret ⟨.inl rfl, rfl⟩))))
  · obtain ⟨rfl, hs⟩ := hq
    exact TieX.ret ⟨.inl rfl, hs⟩
set_option maxRecDepth 100000 in
theorem tie_torque_Valid_2 (row : List Int) : TieF Tryz.prog 21 [.t (tS Pv.encI row)] (torque_Valid_2 row) (fun r => .t (tB r)) := by
  refine TieF.intro htab 10 [.tmp 2] Tryz.call21 Tryz.func21 rfl rfl rfl (Nat.le_of_ble_eq_true rfl) fun w0 L => ?_
  refine TieS.seq (.region (.run 1 rfl (.nil (.seq ?_))))
  refine TieS.region (.run 1 rfl (.call _ rfl rfl rfl (tie_torque_outside row 0 10000) (fun _ => rfl) fun v => .run 1 rfl (.bind 4 (fun b2 => ⟨[(9, .t (tB b2))], []⟩) (TieO.split 5 rfl ?_ ?_) fun b2 _ => ?_)))
  · exact TieO.run 4 rfl (.nil (.leaf ⟨rfl, .of rfl rfl⟩))
  · exact TieO.run 1 rfl (.call _ rfl rfl rfl (tie_slices_IsSorted_sint row) (fun _ => rfl) fun v2 => .run 2 rfl (.nil (.leaf ⟨rfl, .of rfl rfl⟩)))
  exact TieO.run 1 rfl (.nil (.ret ⟨.inl rfl, rfl⟩))
set_option maxRecDepth 100000 in
theorem tie_torque_Valid (t2 : STables) : TieF Tryz.prog 6 [A_STables t2] (torque_Valid t2) (fun r => .t (tB r)) := by
  refine TieF.intro htab 29 [.tmp 2] Tryz.call6 Tryz.func6 rfl rfl rfl (Nat.le_of_ble_eq_true rfl) fun w0 L => ?_
  refine TieS.seq (.region (.run 2 rfl (.nil (.seq ?_))))
  refine TieS.seq (.region (.run 2 rfl (.call _ rfl rfl rfl (tie_surface_Valid t2.Torque) (fun _ => rfl) fun v => .run 2 rfl ?_)))
  refine TieO.bind 5 (fun b2 => ⟨[(1, .ptr 1 0), (12, .t (tB b2))], [(1, .box (B_STables t2))]⟩) (TieO.split 7 rfl ?_ ?_) fun b2 _ => ?_
  · exact TieO.run 5 rfl (.nil (.leaf ⟨rfl, .of rfl rfl⟩))
  · exact TieO.run 2 rfl (.call _ rfl rfl rfl (tie_curve_Valid t2.Efficiency) (fun _ => rfl) fun v2 => .run 2 rfl (.nil (.leaf ⟨rfl, .of rfl rfl⟩)))
  refine TieO.run 1 rfl (.bind 5 (fun b3 => ⟨[(1, .ptr 1 0), (18, .t (tB b3))], [(1, .box (B_STables t2))]⟩) (TieO.split 13 rfl ?_ ?_) fun b3 _ => ?_)
  · exact TieO.run 5 rfl (.nil (.leaf ⟨rfl, .of rfl rfl⟩))
  · exact TieO.run 3 rfl (.call _ rfl rfl rfl (tie_torque_outside t2.Efficiency.Y 0 1000) (fun _ => rfl) fun v3 => .run 1 rfl (.nil (.leaf ⟨rfl, .of rfl rfl⟩)))
  refine TieO.nil (.cond rfl ?_ ?_)
  · exact TieS.seq (.region (.run 1 rfl (.nil (.ret ⟨.inl rfl, rfl⟩))))
  · refine TieS.skip (.seq (.seq (.region (.run 3 rfl ?_))))
    refine TieO.call _ rfl rfl rfl (tie_slices_IsSortedFunc_sint t2.Efficiency.Y 19 [] torque_Valid_1 tie_torque_Valid_1) (fun _ => rfl) fun v4 => .run 1 rfl (.nil (.cond rfl ?_ ?_))
    · exact TieS.seq (.region (.run 1 rfl (.nil (.ret ⟨.inl rfl, rfl⟩))))
    · refine TieS.skip (.seq (.region (.run 3 rfl (.call _ rfl rfl rfl (tie_slices_ContainsFunc_ssint t2.Torque.Z 21 [] torque_Valid_2 tie_torque_Valid_2) (fun _ => rfl) fun v5 => ?_))))
      exact TieO.run 2 rfl (.nil (.ret ⟨.inl rfl, rfl⟩))
set_option maxRecDepth 100000 in
theorem tie_arith_Clamp (x : Int) (low : Int) (high : Int) : TieF Tryz.prog 86 [.t (tI x), .t (tI low), .t (tI high)] (arith_Clamp x low high) (fun r => .t (tI r)) := by
  refine TieF.intro htab 12 [.tmp 6] Tryz.call86 Tryz.func86 rfl rfl rfl (Nat.le_of_ble_eq_true rfl) fun w0 L => ?_
  refine TieS.seq (.region (.run 1 rfl (.nil (.seq ?_))))
  exact TieS.region (.run 6 rfl (.nil (.ret ⟨.inl rfl, rfl⟩)))
set_option maxRecDepth 100000 in
theorem tie_sort_Search (n2 : Int) (n3 : Nat) (cs : List (List Tree)) (f2 : Int → Option Bool) (h2 : ∀ x0, TieF Tryz.prog n3 ([.t (tI x0)] ++ cs.map T.el) (f2 x0) (fun r => .t (tB r))) : TieF Tryz.prog 108 [.t (tI n2), .fz n3 cs] (sort_Search n2 f2) (fun r => .t (tI r)) := by
  refine TieF.intro htab 26 [.tmp 4] Tryz.call108 Tryz.func108 rfl rfl rfl (Nat.le_of_ble_eq_true rfl) fun w0 L => ?_
  refine TieS.seq (.region (.run 1 rfl (.nil (.seq ?_))))
  refine TieS.region (.run 3 rfl (.nil (.seq (.block ?_))))
  refine TieS.loop (fun t => ⟨[(1, .fz n3 cs), (5, .t (tI t.1)), (6, .t (tI t.2))], []⟩) (fun b e σ' => match b with | .inl t => e = .exit 0 ∧ Sub ⟨[(5, .t (tI t.1))], []⟩ σ' | .inr t => False) (.of rfl rfl) ?_ ?_
  · intro s
    refine TieS.seq (.seq (.region (.run 3 rfl (.nil ?_))))
    refine TieS.cond rfl ?_ ?_
    · refine TieS.skip (.block (.seq (.region (.run 7 rfl ?_))))
      refine TieO.nil (.seq (.region (.run 2 rfl (.call _ rfl rfl rfl (h2 (w64 (bitShr .u64 (IntKind.u64.wrap (w64 (s.1 + s.2))) 1))) (fun _ => rfl) fun v => ?_))))
      refine TieO.run 1 rfl (.nil (.cond rfl ?_ ?_))
      · exact TieS.region (.run 3 rfl (.nil (.endb (.leaf ⟨rfl, .of rfl rfl⟩))))
      · exact TieS.region (.run 2 rfl (.nil (.endb (.leaf ⟨rfl, .of rfl rfl⟩))))
    · exact TieS.exitOut rfl ⟨(fun h => by cases h), rfl, .of rfl rfl⟩
  rintro (s2 | r) e σ' _ hq
  · obtain ⟨rfl, hs⟩ := hq
    refine TieX.exit rfl (TieX.sub hs ?_)
    exact TieS.seq (.region (.run 2 rfl (.nil (.ret ⟨.inl rfl, rfl⟩))))
  · exact hq.elim
set_option maxRecDepth 100000 in
theorem tie_surface_segment_1 (i : Int) (c : List Int) (c2 : Int) : TieF Tryz.prog 109 [.t (tI i), .el ((Pv.encS Pv.encI) c), .el (Pv.encI c2)] (surface_segment_1 i c c2) (fun r => .t (tB r)) := by
  refine TieF.intro htab 11 [.tmp 4] Tryz.call109 Tryz.func109 rfl rfl rfl (Nat.le_of_ble_eq_true rfl) fun w0 L => ?_
  refine TieS.seq (.region (.run 1 rfl (.nil (.seq ?_))))
  exact TieX.pre fun x hx => TieS.draw 7 [_, _, _, _, _, _, _] [(0, .t (tI i)), (1, .el ((Pv.encS Pv.encI) c)), (2, .el (Pv.encI c2))] [] mixed (.of rfl rfl) rfl rfl rfl rfl (.cons (.quiet rfl rfl rfl) (.cons (.quiet rfl rfl rfl) (.cons (.index hx rfl rfl rfl rfl rfl rfl (fun _ => rfl)) (.cons (.quiet rfl rfl rfl) (.cons (.quiet rfl rfl rfl) (.cons (.quiet rfl rfl rfl) (.cons (.quiet rfl rfl rfl) (.nil)))))))) (.nil (.ret ⟨.inl rfl, rfl⟩))
set_option maxRecDepth 100000 in
theorem tie_surface_segment (l : List Int) (x : Int) : TieF Tryz.prog 97 [.t (tS Pv.encI l), .t (tI x)] (surface_segment l x) (fun r => .tup [.t (tI r.1), .t (tI r.2)]) := by
  refine TieF.intro htab 29 [.tmp 4, .tmp 5] Tryz.call97 Tryz.func97 rfl rfl rfl (Nat.le_of_ble_eq_true rfl) fun w0 L => ?_
  refine TieS.seq (.region (.run 4 rfl (.nil (.seq ?_))))
  refine TieX.pre fun x2 hx2 => TieX.pre fun x3 hx3 => TieX.pre fun v hv => TieS.draw 11 [_, _, _, _, _, _, _, _, _, _, _] [(2, .ptr 2 0), (3, .ptr 3 0)] [(2, .box [.t (tS Pv.encI l)]), (3, .box [.t (tI x)])] mixed (.of rfl rfl) rfl rfl rfl rfl (.cons (.quiet rfl rfl rfl) (.cons (.quiet rfl rfl rfl) (.cons (.index hx2 rfl rfl rfl rfl rfl rfl (fun _ => rfl)) (.cons (.quiet rfl rfl rfl) (.cons (.quiet rfl rfl rfl) (.cons (.quiet rfl rfl rfl) (.cons (.quiet rfl rfl rfl) (.cons (.quiet rfl rfl rfl) (.cons (.index hx3 rfl rfl rfl rfl rfl rfl (fun _ => rfl)) (.cons (.quiet rfl rfl rfl) (.cons (.callV (tie_arith_Clamp x x2 x3) hv rfl rfl rfl rfl) (.nil)))))))))))) (.run 1 rfl ?_)
  refine TieO.nil (.seq (.region (.run 2 rfl (.frzBox 2 rfl rfl ?_))))
  refine TieO.frzBox 3 rfl rfl (.run 1 rfl (.sub (σ' := ⟨[(2, .el ((Pv.encS Pv.encI) l)), (3, .el (Pv.encI v)), (7, .t (tI x)), (8, .t (tS Pv.encI l)), (9, .el (Pv.encI x2)), (10, .t (tI x2)), (11, .t (tS Pv.encI l)), (12, .t (tS Pv.encI l)), (13, .t (tI (l.length : Int))), (14, .t (tI (w64 ((l.length : Int) - 1)))), (15, .el (Pv.encI x3)), (16, .t (tI x3)), (17, .t (tI v)), (18, .t (tS Pv.encI l)), (19, .t (tI (l.length : Int))), (20, .fz 109 [(Pv.encS Pv.encI) l, Pv.encI v])], []⟩) (.of rfl rfl) (.call _ rfl rfl rfl (tie_sort_Search (l.length : Int) 109 [(Pv.encS Pv.encI) l, Pv.encI v] (fun x0 => surface_segment_1 x0 l v) (fun x0 => tie_surface_segment_1 x0 l v)) (fun _ => rfl) fun v2 => .run 2 rfl ?_)))
  exact TieO.nil (.seq (.draw 8 [_, _, _, _, _, _, _, _] [(2, .el ((Pv.encS Pv.encI) l)), (3, .el (Pv.encI v)), (6, .t (tI (w64 (v2 - 1))))] [] mixed (.of rfl rfl) rfl rfl rfl rfl (.cons (.quiet rfl rfl rfl) (.cons (.quiet rfl rfl rfl) (.cons (.quiet rfl rfl rfl) (.cons (.quiet rfl rfl rfl) (.cons (.quiet rfl rfl rfl) (.cons (.quiet rfl rfl rfl) (.cons (.quiet rfl rfl rfl) (.cons (.quiet rfl rfl rfl) (.nil))))))))) (.nil (.ret ⟨.inl rfl, rfl⟩))))
set_option maxRecDepth 100000 in
def mul64L42_ren : Go.Shelf.Ren := ⟨fun | 264 => 42 | n => n, fun | 46 => 69 | 53 => 109 | n => n, fun  | n => n⟩
open Go.Shelf in
theorem mul64L42 : Lays.n264 Tryz.prog mul64L42_ren := {
  mixed := by kernel_rfl,
  f264 := Tryz.func42.trans (congrArg some (by kernel_rfl)),
  t46 := Tryz.underlying69,
  a46 := Tryz.isAgg69,
  z46 := Tryz.sizeOf69,
  v46 := Tryz.zeroValue69,
  t53 := Tryz.underlying109,
  a53 := Tryz.isAgg109,
  z53 := Tryz.sizeOf109,
  v53 := Tryz.zeroValue109 }
theorem tie_math_bits_Mul64 (x y : Int) : TieF Tryz.prog 42 [.t (tK .u64 x), .t (tK .u64 y)] (math_bits_Mul64 x y) (fun r => .tup [.t (tK .u64 r.1), .t (tK .u64 r.2)]) :=
  mul64_tie (ρ := mul64L42_ren) mul64L42 Tryz.call42 x y
set_option maxRecDepth 100000 in
theorem tie_arith_magnitude (n2 : Int) : TieF Tryz.prog 115 [.t (tI n2)] (arith_magnitude n2) (fun r => .t (tK .u64 r)) := by
  refine TieF.intro htab 12 [.tmp 2] Tryz.call115 Tryz.func115 rfl rfl rfl (Nat.le_of_ble_eq_true rfl) fun w0 L => ?_
  refine TieS.seq (.region (.run 1 rfl (.nil (.seq ?_))))
  refine TieS.seq (.region (.run 2 rfl (.nil (.cond rfl ?_ ?_))))
  · exact TieS.seq (.region (.run 6 rfl (.nil (.ret ⟨.inl rfl, rfl⟩))))
  · refine TieS.skip (.seq (.region (.run 3 rfl (.nil ?_))))
    exact TieS.ret ⟨.inl rfl, rfl⟩
set_option maxRecDepth 100000 in
def len64L96_ren : Go.Shelf.Ren := ⟨fun | 129 => 96 | n => n, fun | 3 => 3 | 4 => 4 | 5 => 5 | 9 => 9 | 46 => 69 | 53 => 109 | n => n, fun  | n => n⟩
open Go.Shelf in
theorem len64L96 : Lays.n129 Tryz.prog len64L96_ren := {
  mixed := by kernel_rfl,
  f129 := Tryz.func96.trans (congrArg some (by kernel_rfl)),
  t3 := Tryz.underlying3,
  a3 := Tryz.isAgg3,
  z3 := Tryz.sizeOf3,
  v3 := Tryz.zeroValue3,
  t4 := Tryz.underlying4,
  a4 := Tryz.isAgg4,
  z4 := Tryz.sizeOf4,
  v4 := Tryz.zeroValue4,
  t5 := Tryz.underlying5,
  a5 := Tryz.isAgg5,
  z5 := Tryz.sizeOf5,
  v5 := Tryz.zeroValue5,
  t9 := Tryz.underlying9,
  a9 := Tryz.isAgg9,
  z9 := Tryz.sizeOf9,
  v9 := Tryz.zeroValue9,
  t46 := Tryz.underlying69,
  a46 := Tryz.isAgg69,
  z46 := Tryz.sizeOf69,
  v46 := Tryz.zeroValue69,
  t53 := Tryz.underlying109,
  a53 := Tryz.isAgg109,
  z53 := Tryz.sizeOf109,
  v53 := Tryz.zeroValue109 }
theorem tie_math_bits_Len64 (x : Int) : TieF Tryz.prog 96 [.t (tK .u64 x)] (math_bits_Len64 x) (fun r => .t (tI r)) :=
  len64_tie (ρ := len64L96_ren) len64L96 Tryz.call96 x
set_option maxRecDepth 100000 in
theorem tie_math_bits_LeadingZeros64 (x : Int) : TieF Tryz.prog 118 [.t (tK .u64 x)] (math_bits_LeadingZeros64 x) (fun r => .t (tI r)) := by
  refine TieF.intro htab 6 [.tmp 2] Tryz.call118 Tryz.func118 rfl rfl rfl (Nat.le_of_ble_eq_true rfl) fun w0 L => ?_
  refine TieS.seq (.region (.run 1 rfl (.nil (.seq ?_))))
  refine TieS.region (.run 1 rfl (.call _ rfl rfl rfl (tie_math_bits_Len64 x) (fun _ => rfl) fun v => .run 2 rfl (.nil ?_)))
  exact TieS.ret ⟨.inl rfl, rfl⟩
set_option maxRecDepth 100000 in
theorem tie_math_bits_Div64 (hi : Int) (lo : Int) (y : Int) : TieF Tryz.prog 116 [.t (tK .u64 hi), .t (tK .u64 lo), .t (tK .u64 y)] (math_bits_Div64 hi lo y) (fun r => .tup [.t (tK .u64 r.1), .t (tK .u64 r.2)]) := by
  refine TieF.intro htab 135 [.tmp 6, .tmp 7] Tryz.call116 Tryz.func116 rfl rfl rfl (Nat.le_of_ble_eq_true rfl) fun w0 L => ?_
  refine TieS.seq (.region (.run 2 rfl (.nil (.seq ?_))))
  refine TieS.seq (.region (.run 2 rfl (.nil (.bind (Q₁ := fun t e σ' => e = .normal ∧ Sub ⟨[(0, .t (tK .u64 hi)), (1, .t (tK .u64 lo)), (2, .t (tK .u64 y))], []⟩ σ') ?_ ?_))))
  · refine TieS.cond rfl ?_ ?_
    · exact TieS.region (.fail)
    · exact TieS.skip (.leaf ⟨rfl, .of rfl rfl⟩)
  rintro s e σ' _ ⟨rfl, hs⟩
  refine TieX.sub hs (TieS.seq (.seq (.region (.run 3 rfl ?_))))
  refine TieO.nil (.bind (Q₁ := fun t e σ' => e = .normal ∧ Sub ⟨[(0, .t (tK .u64 hi)), (1, .t (tK .u64 lo)), (2, .t (tK .u64 y))], []⟩ σ') ?_ ?_)
  · refine TieS.cond rfl ?_ ?_
    · exact TieS.region (.fail)
    · exact TieS.skip (.leaf ⟨rfl, .of rfl rfl⟩)
  rintro s2 e σ' _ ⟨rfl, hs⟩
  refine TieX.sub hs (TieS.seq (.seq (.region (.run 2 rfl ?_))))
  refine TieO.nil (.cond rfl ?_ ?_)
  · refine TieS.seq (TieX.pre fun q hq => TieX.pre fun q2 hq2 => TieS.draw 8 [_, _, _, _, _, _, _, _] [(1, .t (tK .u64 lo)), (2, .t (tK .u64 y))] [] mixed (.of rfl rfl) rfl rfl rfl rfl (.cons (.quiet rfl rfl rfl) (.cons (.quiet rfl rfl rfl) (.cons (.quo hq rfl rfl rfl rfl) (.cons (.quiet rfl rfl rfl) (.cons (.quiet rfl rfl rfl) (.cons (.rem hq2 rfl rfl rfl rfl) (.cons (.quiet rfl rfl rfl) (.cons (.quiet rfl rfl rfl) (.nil))))))))) (.nil ?_))
    exact TieS.ret ⟨.inl rfl, rfl⟩
  · refine TieS.skip (.seq (.region (.run 1 rfl (.call _ rfl rfl rfl (tie_math_bits_LeadingZeros64 y) (fun _ => rfl) fun v => ?_))))
    refine TieO.run 2 rfl (.nil (.seq (.region (.run 2 rfl ?_))))
    refine TieO.shl rfl rfl rfl rfl rfl rfl fun q3 => .run 1 rfl (.nil (.seq (.region ?_)))
    refine TieO.run 3 rfl (.nil (.seq (.region (.run 3 rfl ?_))))
    refine TieO.nil (.seq (.region (.run 2 rfl (.shl rfl rfl rfl rfl rfl rfl fun q4 => ?_))))
    refine TieO.run 3 rfl (.shr rfl rfl rfl rfl rfl rfl fun q5 => .run 2 rfl (.nil (.seq ?_)))
    refine TieS.region (.run 2 rfl (.shl rfl rfl rfl rfl rfl rfl fun q6 => .run 1 rfl (.nil ?_)))
    refine TieS.seq (.region (.run 3 rfl (.nil (.seq ?_))))
    refine TieS.region (.run 3 rfl (.nil (.seq (.region ?_))))
    refine TieO.run 2 rfl (.quo rfl rfl rfl rfl rfl rfl fun q7 => .run 1 rfl (.nil (.seq ?_)))
    refine TieS.region (.run 6 rfl (.nil (.seq (.block ?_))))
    refine TieS.loop (fun t => ⟨[(2, .t (tK .u64 q3)), (8, .t (tK .u64 (IntKind.u64.wrap v))), (9, .t (tK .u64 (bitShr .u64 q3 32))), (10, .t (tK .u64 (bitAnd .u64 q3 4294967295))), (11, .t (tK .u64 (bitOr .u64 q4 q5))), (13, .t (tK .u64 (bitShr .u64 q6 32))), (14, .t (tK .u64 (bitAnd .u64 q6 4294967295))), (15, .t (tK .u64 t.1)), (16, .t (tK .u64 t.2))], []⟩) (fun b e σ' => match b with | .inl t => e = .exit 0 ∧ Sub ⟨[(2, .t (tK .u64 q3)), (8, .t (tK .u64 (IntKind.u64.wrap v))), (9, .t (tK .u64 (bitShr .u64 q3 32))), (10, .t (tK .u64 (bitAnd .u64 q3 4294967295))), (11, .t (tK .u64 (bitOr .u64 q4 q5))), (13, .t (tK .u64 (bitShr .u64 q6 32))), (14, .t (tK .u64 (bitAnd .u64 q6 4294967295))), (15, .t (tK .u64 t.1))], []⟩ σ' | .inr t => False) (.of rfl rfl) ?_ ?_
    · intro s3
      refine TieS.seq (.seq (.region (.run 3 rfl (.selOr (v := decide ((IntKind.u64.wrap (s3.1 * (bitAnd .u64 q3 4294967295))) > (IntKind.u64.wrap ((IntKind.u64.wrap (4294967296 * s3.2)) + (bitShr .u64 q6 32))))) 9 69 (fun b => ⟨[(2, .t (tK .u64 q3)), (8, .t (tK .u64 (IntKind.u64.wrap v))), (9, .t (tK .u64 (bitShr .u64 q3 32))), (10, .t (tK .u64 (bitAnd .u64 q3 4294967295))), (11, .t (tK .u64 (bitOr .u64 q4 q5))), (13, .t (tK .u64 (bitShr .u64 q6 32))), (14, .t (tK .u64 (bitAnd .u64 q6 4294967295))), (15, .t (tK .u64 s3.1)), (16, .t (tK .u64 s3.2)), (78, .t (tB b))], []⟩) rfl ?_ ?_ ?_))))
      · exact TieO.run 9 rfl (.nil (.leaf ⟨rfl, .of rfl rfl⟩))
      · exact TieO.run 9 rfl (.nil (.leaf ⟨rfl, .of rfl rfl⟩))
      refine TieO.nil (.cond rfl ?_ ?_)
      · refine TieS.skip (.block (.seq (.region (.run 3 rfl ?_))))
        refine TieO.nil (.seq (.region (.run 4 rfl (.nil ?_))))
        refine TieS.seq (.region (.run 2 rfl (.nil (.cond rfl ?_ ?_))))
        · exact TieS.exitOut rfl ⟨(fun h => by cases h), rfl, .of rfl rfl⟩
        · exact TieS.skip (.endb (.leaf ⟨rfl, .of rfl rfl⟩))
      · exact TieS.exitOut rfl ⟨(fun h => by cases h), rfl, .of rfl rfl⟩
    rintro (s4 | r) e σ' _ hq
    · obtain ⟨rfl, hs⟩ := hq
      refine TieX.exit rfl (TieX.sub hs ?_)
      refine TieS.seq (.region (.run 9 rfl (.nil (.seq ?_))))
      refine TieS.region (.run 2 rfl (.quo rfl rfl rfl rfl rfl rfl fun q8 => .run 1 rfl (.nil ?_)))
      refine TieS.seq (.region (.run 6 rfl (.nil (.seq ?_))))
      refine TieS.block (.loop (fun t => ⟨[(2, .t (tK .u64 q3)), (8, .t (tK .u64 (IntKind.u64.wrap v))), (9, .t (tK .u64 (bitShr .u64 q3 32))), (10, .t (tK .u64 (bitAnd .u64 q3 4294967295))), (14, .t (tK .u64 (bitAnd .u64 q6 4294967295))), (15, .t (tK .u64 s4.1)), (16, .t (tK .u64 t.1)), (17, .t (tK .u64 (IntKind.u64.wrap ((IntKind.u64.wrap ((IntKind.u64.wrap ((bitOr .u64 q4 q5) * 4294967296)) + (bitShr .u64 q6 32))) - (IntKind.u64.wrap (s4.1 * q3)))))), (18, .t (tK .u64 t.2))], []⟩) (fun b e σ' => match b with | .inl t => e = .exit 2 ∧ Sub ⟨[(2, .t (tK .u64 q3)), (8, .t (tK .u64 (IntKind.u64.wrap v))), (14, .t (tK .u64 (bitAnd .u64 q6 4294967295))), (15, .t (tK .u64 s4.1)), (17, .t (tK .u64 (IntKind.u64.wrap ((IntKind.u64.wrap ((IntKind.u64.wrap ((bitOr .u64 q4 q5) * 4294967296)) + (bitShr .u64 q6 32))) - (IntKind.u64.wrap (s4.1 * q3)))))), (18, .t (tK .u64 t.2))], []⟩ σ' | .inr t => False) (.of rfl rfl) ?_ ?_)
      · intro s5
        refine TieS.seq (.seq (.region (.run 3 rfl (.selOr (v := decide ((IntKind.u64.wrap (s5.2 * (bitAnd .u64 q3 4294967295))) > (IntKind.u64.wrap ((IntKind.u64.wrap (4294967296 * s5.1)) + (bitAnd .u64 q6 4294967295))))) 9 104 (fun b => ⟨[(2, .t (tK .u64 q3)), (8, .t (tK .u64 (IntKind.u64.wrap v))), (9, .t (tK .u64 (bitShr .u64 q3 32))), (10, .t (tK .u64 (bitAnd .u64 q3 4294967295))), (14, .t (tK .u64 (bitAnd .u64 q6 4294967295))), (15, .t (tK .u64 s4.1)), (16, .t (tK .u64 s5.1)), (17, .t (tK .u64 (IntKind.u64.wrap ((IntKind.u64.wrap ((IntKind.u64.wrap ((bitOr .u64 q4 q5) * 4294967296)) + (bitShr .u64 q6 32))) - (IntKind.u64.wrap (s4.1 * q3)))))), (18, .t (tK .u64 s5.2)), (113, .t (tB b))], []⟩) rfl ?_ ?_ ?_))))
        · exact TieO.run 9 rfl (.nil (.leaf ⟨rfl, .of rfl rfl⟩))
        · exact TieO.run 9 rfl (.nil (.leaf ⟨rfl, .of rfl rfl⟩))
        refine TieO.nil (.cond rfl ?_ ?_)
        · refine TieS.skip (.block (.seq (.region (.run 3 rfl ?_))))
          refine TieO.nil (.seq (.region (.run 4 rfl (.nil ?_))))
          refine TieS.seq (.region (.run 2 rfl (.nil (.cond rfl ?_ ?_))))
          · exact TieS.exitOut rfl ⟨(fun h => by cases h), rfl, .of rfl rfl⟩
          · exact TieS.skip (.endb (.leaf ⟨rfl, .of rfl rfl⟩))
        · exact TieS.exitOut rfl ⟨(fun h => by cases h), rfl, .of rfl rfl⟩
      rintro (s6 | r) e σ' _ hq
      · obtain ⟨rfl, hs⟩ := hq
        refine TieX.exit rfl (TieX.sub hs ?_)
        refine TieS.seq (.region (.run 13 rfl (.shr rfl rfl rfl rfl rfl rfl fun q9 => .run 2 rfl ?_)))
        exact TieO.nil (.ret ⟨.inl rfl, rfl⟩)
      · exact hq.elim
    · exact hq.elim
set_option maxRecDepth 100000 in
theorem tie_arith_rounded (r2 : Int) (c : Int) (negative : Bool) (mode : Int) : TieF Tryz.prog 117 [.t (tK .u64 r2), .t (tK .u64 c), .t (tB negative), .t (tI mode)] (arith_rounded r2 c negative mode) (fun r => .t (tB r)) := by
  refine TieF.intro htab 36 [.tmp 8] Tryz.call117 Tryz.func117 rfl rfl rfl (Nat.le_of_ble_eq_true rfl) fun w0 L => ?_
  refine TieS.seq (.region (.run 1 rfl (.nil (.seq ?_))))
  refine TieS.seq (.region (.run 1 rfl (.nil (.block ?_))))
  refine TieS.seq (.region (.run 2 rfl (.nil (.cond rfl ?_ ?_))))
  · refine TieS.seq (.region (.run 2 rfl (.selAnd (v := decide (r2 > 0)) 3 13 (fun b => ⟨[(16, .t (tB b))], []⟩) rfl ?_ ?_ ?_)))
    · exact TieO.run 3 rfl (.nil (.leaf ⟨rfl, .of rfl rfl⟩))
    · exact TieO.run 3 rfl (.nil (.leaf ⟨rfl, .of rfl rfl⟩))
    exact TieO.run 1 rfl (.nil (.ret ⟨.inl rfl, rfl⟩))
  · refine TieS.seq (.region (.run 2 rfl (.nil (.cond rfl ?_ ?_))))
    · refine TieS.seq (.region (.run 3 rfl (.selAnd (v := decide (r2 > 0)) 3 21 (fun b => ⟨[(24, .t (tB b))], []⟩) rfl ?_ ?_ ?_)))
      · exact TieO.run 3 rfl (.nil (.leaf ⟨rfl, .of rfl rfl⟩))
      · exact TieO.run 3 rfl (.nil (.leaf ⟨rfl, .of rfl rfl⟩))
      exact TieO.run 1 rfl (.nil (.ret ⟨.inl rfl, rfl⟩))
    · refine TieS.skip (.endb (.seq (.seq (.region ?_))))
      refine TieO.run 1 rfl (.nil (.cond rfl ?_ ?_))
      · exact TieS.seq (.region (.run 6 rfl (.nil (.ret ⟨.inl rfl, rfl⟩))))
      · refine TieS.skip (.seq (.region (.run 6 rfl (.nil ?_))))
        exact TieS.ret ⟨.inl rfl, rfl⟩
set_option maxRecDepth 100000 in
theorem tie_arith_MulDiv (a : Int) (b2 : Int) (c : Int) (mode : Int) : TieF Tryz.prog 114 [.t (tI a), .t (tI b2), .t (tI c), .t (tI mode)] (arith_MulDiv a b2 c mode) (fun r => .tup [.t (tI r.1), .t (tI r.2)]) := by
  refine TieF.intro htab 83 [.tmp 8, .tmp 9] Tryz.call114 Tryz.func114 rfl rfl rfl (Nat.le_of_ble_eq_true rfl) fun w0 L => ?_
  refine TieS.seq (.region (.run 2 rfl (.nil (.seq ?_))))
  refine TieS.block (.seq (.region (.run 3 rfl (.selOr (v := decide (mode > 3)) 3 19 (fun b => ⟨[(0, .t (tI a)), (1, .t (tI b2)), (2, .t (tI c)), (3, .t (tI mode)), (22, .t (tB b))], []⟩) rfl ?_ ?_ ?_))))
  · exact TieO.run 3 rfl (.nil (.leaf ⟨rfl, .of rfl rfl⟩))
  · exact TieO.run 3 rfl (.nil (.leaf ⟨rfl, .of rfl rfl⟩))
  refine TieO.run 1 rfl (.nil (.cond rfl ?_ ?_))
  · exact TieS.seq (.region (.run 2 rfl (.nil (.ret ⟨.inl rfl, rfl⟩))))
  · refine TieS.seq (.region (.run 3 rfl (.nil (.cond rfl ?_ ?_))))
    · exact TieS.seq (.region (.run 2 rfl (.nil (.ret ⟨.inl rfl, rfl⟩))))
    · refine TieS.skip (.endb (.seq (.region (.run 9 rfl ?_))))
      refine TieO.nil (.seq (.region (.run 1 rfl (.call _ rfl rfl rfl (tie_arith_magnitude a) (fun _ => rfl) fun v => ?_))))
      refine TieO.run 1 rfl (.call _ rfl rfl rfl (tie_arith_magnitude b2) (fun _ => rfl) fun v2 => .call _ rfl rfl rfl (tie_math_bits_Mul64 v v2) (fun _ => rfl) fun r2 => .run 5 rfl (.nil ?_))
      refine TieS.seq (.region (.run 1 rfl (.call _ rfl rfl rfl (tie_arith_magnitude c) (fun _ => rfl) fun v3 => .run 1 rfl ?_)))
      refine TieO.nil (.seq (.seq (.region (.run 3 rfl ?_))))
      refine TieO.nil (.cond rfl ?_ ?_)
      · exact TieS.seq (.region (.run 2 rfl (.nil (.ret ⟨.inl rfl, rfl⟩))))
      · refine TieS.skip (.seq (.region (.run 3 rfl (.call _ rfl rfl rfl (tie_math_bits_Div64 r2.1 r2.2 v3) (fun _ => rfl) fun r3 => ?_))))
        refine TieO.run 5 rfl (.nil (.seq (.seq (.region ?_))))
        refine TieO.run 2 rfl (.nil (.cond rfl ?_ ?_))
        · exact TieS.seq (.region (.run 2 rfl (.nil (.ret ⟨.inl rfl, rfl⟩))))
        · refine TieS.skip (.seq (.seq (.region (.run 4 rfl ?_))))
          refine TieO.call _ rfl rfl rfl (tie_arith_rounded r3.2 v3 (!((!((decide (a < 0)) == (decide (b2 < 0)))) == (decide (c < 0)))) mode) (fun _ => rfl) fun v4 => .nil (.bind (Q₁ := fun t e σ' => e = .normal ∧ Sub ⟨[(10, .t (tB (!((!((decide (a < 0)) == (decide (b2 < 0)))) == (decide (c < 0)))))), (14, .t (tK .u64 t))], []⟩ σ') ?_ ?_)
          · refine TieS.cond rfl ?_ ?_
            · exact TieS.region (.run 3 rfl (.nil (.leaf ⟨rfl, .of rfl rfl⟩)))
            · exact TieS.skip (.leaf ⟨rfl, .of rfl rfl⟩)
          rintro q e σ' _ ⟨rfl, hs⟩
          refine TieX.sub hs (TieS.seq (.block (.seq (.region ?_))))
          refine TieO.run 2 rfl (.selAnd (v := decide (q ≤ 9223372036854775808)) 3 65 (fun b => ⟨[(10, .t (tB (!((!((decide (a < 0)) == (decide (b2 < 0)))) == (decide (c < 0)))))), (14, .t (tK .u64 q)), (68, .t (tB b))], []⟩) rfl ?_ ?_ ?_)
          · exact TieO.run 3 rfl (.nil (.leaf ⟨rfl, .of rfl rfl⟩))
          · exact TieO.run 3 rfl (.nil (.leaf ⟨rfl, .of rfl rfl⟩))
          refine TieO.run 1 rfl (.nil (.cond rfl ?_ ?_))
          · exact TieS.seq (.region (.run 7 rfl (.nil (.ret ⟨.inl rfl, rfl⟩))))
          · refine TieS.seq (.region (.run 3 rfl (.selAnd (v := decide (q < 9223372036854775808)) 3 77 (fun b => ⟨[(14, .t (tK .u64 q)), (80, .t (tB b))], []⟩) rfl ?_ ?_ ?_)))
            · exact TieO.run 3 rfl (.nil (.leaf ⟨rfl, .of rfl rfl⟩))
            · exact TieO.run 3 rfl (.nil (.leaf ⟨rfl, .of rfl rfl⟩))
            refine TieO.run 1 rfl (.nil (.cond rfl ?_ ?_))
            · exact TieS.seq (.region (.run 4 rfl (.nil (.ret ⟨.inl rfl, rfl⟩))))
            · refine TieS.skip (.endb (.seq (.region (.run 2 rfl ?_))))
              exact TieO.nil (.ret ⟨.inl rfl, rfl⟩)
set_option maxRecDepth 100000 in
theorem tie_arith_Div (a : Int) (b2 : Int) (mode : Int) : TieF Tryz.prog 111 [.t (tI a), .t (tI b2), .t (tI mode)] (arith_Div a b2 mode) (fun r => .tup [.t (tI r.1), .t (tI r.2)]) := by
  refine TieF.intro htab 14 [.tmp 6, .tmp 7] Tryz.call111 Tryz.func111 rfl rfl rfl (Nat.le_of_ble_eq_true rfl) fun w0 L => ?_
  refine TieS.seq (.region (.run 2 rfl (.nil (.seq ?_))))
  refine TieS.region (.run 3 rfl (.call _ rfl rfl rfl (tie_arith_MulDiv a 1 b2 mode) (fun _ => rfl) fun r2 => .run 4 rfl (.nil ?_)))
  exact TieS.ret ⟨.inl rfl, rfl⟩
set_option maxRecDepth 100000 in
theorem tie_arith_Floor (a : Int) (b2 : Int) : TieF Tryz.prog 101 [.t (tI a), .t (tI b2)] (arith_Floor a b2) (fun r => .t (tI r)) := by
  refine TieF.intro htab 14 [.tmp 4] Tryz.call101 Tryz.func101 rfl rfl rfl (Nat.le_of_ble_eq_true rfl) fun w0 L => ?_
  refine TieS.seq (.region (.run 1 rfl (.nil (.seq ?_))))
  refine TieS.region (.run 2 rfl (.call _ rfl rfl rfl (tie_arith_Div a b2 1) (fun _ => rfl) fun r2 => .run 5 rfl (.nil ?_)))
  exact TieS.seq (.region (.run 2 rfl (.nil (.ret ⟨.inl rfl, rfl⟩))))
set_option maxRecDepth 100000 in
theorem tie_surface_between (x0 : Int) (x1 : Int) (y0 : Int) (y1 : Int) (x : Int) : TieF Tryz.prog 99 [.t (tI x0), .t (tI x1), .t (tI y0), .t (tI y1), .t (tI x)] (surface_between x0 x1 y0 y1 x) (fun r => .t (tI r)) := by
  refine TieF.intro htab 24 [.tmp 10] Tryz.call99 Tryz.func99 rfl rfl rfl (Nat.le_of_ble_eq_true rfl) fun w0 L => ?_
  refine TieS.seq (.region (.run 1 rfl (.nil (.seq ?_))))
  refine TieS.region (.run 11 rfl (.call _ rfl rfl rfl (tie_arith_Floor (w64 ((w64 (x - x0)) * (w64 (y1 - y0)))) (w64 (x1 - x0))) (fun _ => rfl) fun v => .run 2 rfl (.nil ?_)))
  exact TieS.ret ⟨.inl rfl, rfl⟩
set_option maxRecDepth 100000 in
theorem tie_surface_at_1 (j : Int) (c : SMap) (c2 : Int) (c3 : Int) : TieF Tryz.prog 98 [.t (tI j), .el (enc_SMap c), .el (Pv.encI c2), .el (Pv.encI c3)] (surface_at_1 j c c2 c3) (fun r => .t (tI r)) := by
  refine TieF.intro htab 36 [.tmp 5] Tryz.call98 Tryz.func98 rfl rfl rfl (Nat.le_of_ble_eq_true rfl) fun w0 L => ?_
  refine TieS.seq (.region (.run 1 rfl (.nil (.seq ?_))))
  refine TieX.pre fun x hx => TieX.pre fun x2 hx2 => TieX.pre fun x3 hx3 => TieX.pre fun x4 hx4 => TieX.pre fun x5 hx5 => ?_
  exact TieX.pre fun x6 hx6 => TieX.pre fun v hv => TieS.draw 31 [_, _, _, _, _, _, _, _, _, _, _, _, _, _, _, _, _, _, _, _, _, _, _, _, _, _, _, _, _, _, _] [(0, .t (tI j)), (1, .el (enc_SMap c)), (2, .el (Pv.encI c2)), (3, .el (Pv.encI c3))] [] mixed (.of rfl rfl) rfl rfl rfl rfl (.cons (.quiet rfl rfl rfl) (.cons (.quiet rfl rfl rfl) (.cons (.quiet rfl rfl rfl) (.cons (.index hx rfl rfl rfl rfl rfl rfl (fun _ => rfl)) (.cons (.quiet rfl rfl rfl) (.cons (.quiet rfl rfl rfl) (.cons (.quiet rfl rfl rfl) (.cons (.quiet rfl rfl rfl) (.cons (.quiet rfl rfl rfl) (.cons (.index hx2 rfl rfl rfl rfl rfl rfl (fun _ => rfl)) (.cons (.quiet rfl rfl rfl) (.cons (.quiet rfl rfl rfl) (.cons (.quiet rfl rfl rfl) (.cons (.quiet rfl rfl rfl) (.cons (.index hx3 rfl rfl rfl rfl rfl rfl (fun _ => rfl)) (.cons (.quiet rfl rfl rfl) (.cons (.quiet rfl rfl rfl) (.cons (.index hx4 rfl rfl rfl rfl rfl rfl (fun _ => rfl)) (.cons (.quiet rfl rfl rfl) (.cons (.quiet rfl rfl rfl) (.cons (.quiet rfl rfl rfl) (.cons (.quiet rfl rfl rfl) (.cons (.quiet rfl rfl rfl) (.cons (.index hx5 rfl rfl rfl rfl rfl rfl (fun _ => rfl)) (.cons (.quiet rfl rfl rfl) (.cons (.quiet rfl rfl rfl) (.cons (.index hx6 rfl rfl rfl rfl rfl rfl (fun _ => rfl)) (.cons (.quiet rfl rfl rfl) (.cons (.quiet rfl rfl rfl) (.cons (.callV (tie_surface_between x x2 x4 x6 c3) hv rfl rfl rfl rfl) (.cons (.quiet rfl rfl rfl) (.nil)))))))))))))))))))))))))))))))) (.nil (.ret ⟨.inl rfl, rfl⟩))
set_option maxRecDepth 100000 in
theorem tie_surface_at (m2 : SMap) (x : Int) (y : Int) : TieF Tryz.prog 82 [A_SMap m2, .t (tI x), .t (tI y)] (surface_at m2 x y) (fun r => .t (tI r)) := by
  refine TieF.intro htab 45 [.tmp 6] Tryz.call82 Tryz.func82 rfl rfl rfl (Nat.le_of_ble_eq_true rfl) fun w0 L => ?_
  refine TieS.seq (.region (.run 3 rfl (.nil (.seq ?_))))
  refine TieS.region (.run 3 rfl (.call _ rfl rfl rfl (tie_surface_segment m2.X x) (fun _ => rfl) fun r2 => .run 6 rfl (.nil ?_)))
  refine TieS.seq (.region (.run 3 rfl (.call _ rfl rfl rfl (tie_surface_segment m2.Y y) (fun _ => rfl) fun r3 => .run 5 rfl ?_)))
  refine TieO.nil (.seq (.region (.frzBox 3 rfl rfl (.frzBox 7 rfl rfl ?_))))
  refine TieO.frzBox 4 rfl rfl (.run 1 rfl (.sub (σ' := ⟨[(0, .agg [.t (tS Pv.encI m2.X), .t (tS Pv.encI m2.Y), .t (tS (Pv.encS Pv.encI) m2.Z)]), (1, .t (tI x)), (2, .t (tI r3.2)), (3, .el (enc_SMap m2)), (4, .el (Pv.encI r2.2)), (6, .t (tI 0)), (7, .el (Pv.encI r2.1)), (8, .t (tI r3.1)), (10, .tup [.t (tI r2.1), .t (tI r2.2)]), (11, .el (enc_SMap m2)), (12, .t (tS Pv.encI m2.X)), (13, .t (tI x)), (14, .tup [.t (tI r2.1), .t (tI r2.2)]), (15, .t (tI r2.1)), (16, .t (tI r2.2)), (17, .tup [.t (tI r3.1), .t (tI r3.2)]), (18, .el (List.drop 1 (enc_SMap m2))), (19, .t (tS Pv.encI m2.Y)), (20, .t (tI y)), (21, .tup [.t (tI r3.1), .t (tI r3.2)]), (22, .t (tI r3.1)), (23, .t (tI r3.2)), (24, .fz 98 [enc_SMap m2, Pv.encI r2.1, Pv.encI r2.2])], []⟩) (.of rfl rfl) (.run 1 rfl (.nil ?_))))
  refine TieS.seq (TieX.pre fun x2 hx2 => TieX.pre fun x3 hx3 => TieX.pre fun v hv => TieX.pre fun v2 hv2 => ?_)
  exact TieX.pre fun v3 hv3 => TieS.draw 21 [_, _, _, _, _, _, _, _, _, _, _, _, _, _, _, _, _, _, _, _, _] [(2, .t (tI r3.2)), (3, .el (enc_SMap m2)), (8, .t (tI r3.1)), (9, .fz 98 [enc_SMap m2, Pv.encI r2.1, Pv.encI r2.2])] [] mixed (.of rfl rfl) rfl rfl rfl rfl (.cons (.quiet rfl rfl rfl) (.cons (.quiet rfl rfl rfl) (.cons (.quiet rfl rfl rfl) (.cons (.index hx2 rfl rfl rfl rfl rfl rfl (fun _ => rfl)) (.cons (.quiet rfl rfl rfl) (.cons (.quiet rfl rfl rfl) (.cons (.quiet rfl rfl rfl) (.cons (.quiet rfl rfl rfl) (.cons (.quiet rfl rfl rfl) (.cons (.index hx3 rfl rfl rfl rfl rfl rfl (fun _ => rfl)) (.cons (.quiet rfl rfl rfl) (.cons (.quiet rfl rfl rfl) (.cons (.quiet rfl rfl rfl) (.cons (.callV (tie_surface_at_1 r3.1 m2 r2.1 r2.2) hv rfl rfl rfl rfl) (.cons (.quiet rfl rfl rfl) (.cons (.quiet rfl rfl rfl) (.cons (.quiet rfl rfl rfl) (.cons (.callV (tie_surface_at_1 (w64 (r3.1 + 1)) m2 r2.1 r2.2) hv2 rfl rfl rfl rfl) (.cons (.quiet rfl rfl rfl) (.cons (.callV (tie_surface_between x2 x3 v v2 r3.2) hv3 rfl rfl rfl rfl) (.cons (.quiet rfl rfl rfl) (.nil)))))))))))))))))))))) (.nil (.ret ⟨.inl rfl, rfl⟩))
set_option maxRecDepth 100000 in
theorem tie_surface_At (m2 : SMap) (x : Int) (y : Int) : TieF Tryz.prog 73 [A_SMap m2, .t (tI x), .t (tI y)] (surface_At m2 x y) (fun r => .t (tI r)) := by
  refine TieF.intro htab 14 [.tmp 6] Tryz.call73 Tryz.func73 rfl rfl rfl (Nat.le_of_ble_eq_true rfl) fun w0 L => ?_
  refine TieS.seq (.region (.run 2 rfl (.nil (.seq ?_))))
  refine TieS.seq (.region (.run 1 rfl (.call _ rfl rfl rfl (tie_surface_Valid m2) (fun _ => rfl) fun v => .run 1 rfl ?_)))
  refine TieO.nil (.cond rfl ?_ ?_)
  · exact TieS.seq (.region (.run 1 rfl (.nil (.ret ⟨.inl rfl, rfl⟩))))
  · refine TieS.skip (.seq (.region (.run 3 rfl (.call _ rfl rfl rfl (tie_surface_at m2 x y) (fun _ => rfl) fun v2 => ?_))))
    exact TieO.run 1 rfl (.nil (.ret ⟨.inl rfl, rfl⟩))
set_option maxRecDepth 100000 in
theorem tie_torque_Optimal (t2 : STables) (speed : Int) (charge : Int) : TieF Tryz.prog 56 [A_STables t2, .t (tI speed), .t (tI charge)] (torque_Optimal t2 speed charge) (fun r => .tup [.t (tI r.1), .t (tI r.2)]) := by
  refine TieF.intro htab 26 [.tmp 6, .tmp 7] Tryz.call56 Tryz.func56 rfl rfl rfl (Nat.le_of_ble_eq_true rfl) fun w0 L => ?_
  refine TieS.seq (.region (.run 3 rfl (.nil (.seq ?_))))
  refine TieS.block (.seq (.region (.run 1 rfl (.call _ rfl rfl rfl (tie_torque_Valid t2) (fun _ => rfl) fun v => ?_))))
  refine TieO.run 2 rfl (.nil (.cond rfl ?_ ?_))
  · exact TieS.seq (.region (.run 2 rfl (.nil (.ret ⟨.inl rfl, rfl⟩))))
  · refine TieS.seq (.region (.run 1 rfl (.call _ rfl rfl rfl (tie_torque_within speed 0 12000) (fun _ => rfl) fun v2 => .run 2 rfl ?_)))
    refine TieO.bind 4 (fun b2 => ⟨[(1, .t (tI speed)), (2, .t (tI charge)), (3, .ptr 3 0), (20, .t (tB b2))], [(3, .box (B_STables t2))]⟩) (TieO.split 16 rfl ?_ ?_) fun b2 _ => ?_
    · exact TieO.run 4 rfl (.nil (.leaf ⟨rfl, .of rfl rfl⟩))
    · exact TieO.run 1 rfl (.call _ rfl rfl rfl (tie_torque_within charge 0 1048576) (fun _ => rfl) fun v3 => .run 2 rfl (.nil (.leaf ⟨rfl, .of rfl rfl⟩)))
    refine TieO.run 1 rfl (.nil (.cond rfl ?_ ?_))
    · exact TieS.seq (.region (.run 2 rfl (.nil (.ret ⟨.inl rfl, rfl⟩))))
    · refine TieS.skip (.endb (.seq (.region (.run 4 rfl ?_))))
      exact TieO.call _ rfl rfl rfl (tie_surface_At t2.Torque speed charge) (fun _ => rfl) fun v4 => .run 2 rfl (.nil (.ret ⟨.inl rfl, rfl⟩))
set_option maxRecDepth 100000 in
theorem tie_curve_segment_1 (i : Int) (c : SCurve) (c2 : Int) : TieF Tryz.prog 110 [.t (tI i), .el (enc_SCurve c), .el (Pv.encI c2)] (curve_segment_1 i c c2) (fun r => .t (tB r)) := by
  refine TieF.intro htab 12 [.tmp 4] Tryz.call110 Tryz.func110 rfl rfl rfl (Nat.le_of_ble_eq_true rfl) fun w0 L => ?_
  refine TieS.seq (.region (.run 1 rfl (.nil (.seq ?_))))
  exact TieX.pre fun x hx => TieS.draw 8 [_, _, _, _, _, _, _, _] [(0, .t (tI i)), (1, .el (enc_SCurve c)), (2, .el (Pv.encI c2))] [] mixed (.of rfl rfl) rfl rfl rfl rfl (.cons (.quiet rfl rfl rfl) (.cons (.quiet rfl rfl rfl) (.cons (.quiet rfl rfl rfl) (.cons (.index hx rfl rfl rfl rfl rfl rfl (fun _ => rfl)) (.cons (.quiet rfl rfl rfl) (.cons (.quiet rfl rfl rfl) (.cons (.quiet rfl rfl rfl) (.cons (.quiet rfl rfl rfl) (.nil))))))))) (.nil (.ret ⟨.inl rfl, rfl⟩))
set_option maxRecDepth 100000 in
theorem tie_curve_segment (c : SCurve) (x : Int) : TieF Tryz.prog 100 [A_SCurve c, .t (tI x)] (curve_segment c x) (fun r => .t (tI r)) := by
  refine TieF.intro htab 11 [.tmp 4] Tryz.call100 Tryz.func100 rfl rfl rfl (Nat.le_of_ble_eq_true rfl) fun w0 L => ?_
  refine TieS.seq (.region (.run 3 rfl (.nil (.seq ?_))))
  refine TieS.region (.run 3 rfl (.frzBox 2 rfl rfl (.frzBox 3 rfl rfl (.run 1 rfl ?_))))
  exact TieO.sub (σ' := ⟨[(0, .agg [.t (tS Pv.encI c.X), .t (tS Pv.encI c.Y)]), (1, .t (tI x)), (2, .el (enc_SCurve c)), (3, .el (Pv.encI x)), (4, .t (tI 0)), (5, .el (enc_SCurve c)), (6, .t (tS Pv.encI c.X)), (7, .t (tI (c.X.length : Int))), (8, .fz 110 [enc_SCurve c, Pv.encI x])], []⟩) (.of rfl rfl) (.call _ rfl rfl rfl (tie_sort_Search (c.X.length : Int) 110 [enc_SCurve c, Pv.encI x] (fun x0 => curve_segment_1 x0 c x) (fun x0 => tie_curve_segment_1 x0 c x)) (fun _ => rfl) fun v => .run 2 rfl (.nil (.ret ⟨.inl rfl, rfl⟩)))
set_option maxRecDepth 100000 in
theorem tie_curve_value (c : SCurve) (x : Int) : TieF Tryz.prog 83 [A_SCurve c, .t (tI x)] (curve_value c x) (fun r => .t (tI r)) := by
  refine TieF.intro htab 78 [.tmp 4] Tryz.call83 Tryz.func83 rfl rfl rfl (Nat.le_of_ble_eq_true rfl) fun w0 L => ?_
  refine TieS.seq (.region (.run 2 rfl (.nil (.seq ?_))))
  refine TieS.region (.run 4 rfl (.nil (.seq (.block ?_))))
  refine TieS.seq (.region (.run 3 rfl (.index rfl rfl rfl rfl rfl rfl rfl rfl (fun _ => rfl) fun x2 hx2 => .run 3 rfl ?_)))
  refine TieO.nil (.cond rfl ?_ ?_)
  · refine TieS.seq (.region (.run 2 rfl (.index rfl rfl rfl rfl rfl rfl rfl rfl (fun _ => rfl) fun x3 hx3 => .run 2 rfl ?_)))
    exact TieO.nil (.ret ⟨.inl rfl, rfl⟩)
  · refine TieS.seq (.region (.run 5 rfl (.index rfl rfl rfl rfl rfl rfl rfl rfl (fun _ => rfl) fun x4 hx4 => .run 3 rfl ?_)))
    refine TieO.nil (.cond rfl ?_ ?_)
    · refine TieS.seq (.region (.run 4 rfl (.index rfl rfl rfl rfl rfl rfl rfl rfl (fun _ => rfl) fun x5 hx5 => .run 2 rfl ?_)))
      exact TieO.nil (.ret ⟨.inl rfl, rfl⟩)
    · refine TieS.skip (.endb (.seq (.region (.run 2 rfl ?_))))
      refine TieO.call _ rfl rfl rfl (tie_curve_segment c x) (fun _ => rfl) fun v => .run 1 rfl (.nil (.seq (TieX.pre fun x6 hx6 => ?_)))
      refine TieX.pre fun x7 hx7 => TieX.pre fun x8 hx8 => TieX.pre fun x9 hx9 => TieX.pre fun v2 hv2 => TieS.draw 40 [_, _, _, _, _, _, _, _, _, _, _, _, _, _, _, _, _, _, _, _, _, _, _, _, _, _, _, _, _, _, _, _, _, _, _, _, _, _, _, _] [(1, .t (tI x)), (2, .ptr 2 0), (6, .t (tI v))] [(2, .box [.t (tS Pv.encI c.X), .t (tS Pv.encI c.Y)])] mixed (.of rfl rfl) rfl rfl rfl rfl (.cons (.quiet rfl rfl rfl) (.cons (.quiet rfl rfl rfl) (.cons (.quiet rfl rfl rfl) (.cons (.index hx6 rfl rfl rfl rfl rfl rfl (fun _ => rfl)) (.cons (.quiet rfl rfl rfl) (.cons (.quiet rfl rfl rfl) (.cons (.quiet rfl rfl rfl) (.cons (.quiet rfl rfl rfl) (.cons (.quiet rfl rfl rfl) (.cons (.index hx7 rfl rfl rfl rfl rfl rfl (fun _ => rfl)) (.cons (.quiet rfl rfl rfl) (.cons (.quiet rfl rfl rfl) (.cons (.quiet rfl rfl rfl) (.cons (.quiet rfl rfl rfl) (.cons (.quiet rfl rfl rfl) (.cons (.quiet rfl rfl rfl) (.cons (.index hx8 rfl rfl rfl rfl rfl rfl (fun _ => rfl)) (.cons (.quiet rfl rfl rfl) (.cons (.quiet rfl rfl rfl) (.cons (.quiet rfl rfl rfl) (.cons (.quiet rfl rfl rfl) (.cons (.index hx6 rfl rfl rfl rfl rfl rfl (fun _ => rfl)) (.cons (.quiet rfl rfl rfl) (.cons (.quiet rfl rfl rfl) (.cons (.quiet rfl rfl rfl) (.cons (.quiet rfl rfl rfl) (.cons (.quiet rfl rfl rfl) (.cons (.quiet rfl rfl rfl) (.cons (.quiet rfl rfl rfl) (.cons (.index hx9 rfl rfl rfl rfl rfl rfl (fun _ => rfl)) (.cons (.quiet rfl rfl rfl) (.cons (.quiet rfl rfl rfl) (.cons (.quiet rfl rfl rfl) (.cons (.quiet rfl rfl rfl) (.cons (.index hx7 rfl rfl rfl rfl rfl rfl (fun _ => rfl)) (.cons (.quiet rfl rfl rfl) (.cons (.quiet rfl rfl rfl) (.cons (.callV (tie_arith_Floor (w64 ((w64 (x - x7)) * (w64 (x8 - x6)))) (w64 (x9 - x7))) hv2 rfl rfl rfl rfl) (.cons (.quiet rfl rfl rfl) (.cons (.quiet rfl rfl rfl) (.nil))))))))))))))))))))))))))))))))))))))))) ?_
      exact TieO.nil (.ret ⟨.inl rfl, rfl⟩)
set_option maxRecDepth 100000 in
theorem tie_curve_At (c : SCurve) (x : Int) : TieF Tryz.prog 74 [A_SCurve c, .t (tI x)] (curve_At c x) (fun r => .t (tI r)) := by
  refine TieF.intro htab 11 [.tmp 4] Tryz.call74 Tryz.func74 rfl rfl rfl (Nat.le_of_ble_eq_true rfl) fun w0 L => ?_
  refine TieS.seq (.region (.run 2 rfl (.nil (.seq ?_))))
  refine TieS.seq (.region (.run 1 rfl (.call _ rfl rfl rfl (tie_curve_Valid c) (fun _ => rfl) fun v => .run 1 rfl ?_)))
  refine TieO.nil (.cond rfl ?_ ?_)
  · exact TieS.seq (.region (.run 1 rfl (.nil (.ret ⟨.inl rfl, rfl⟩))))
  · refine TieS.skip (.seq (.region (.run 2 rfl (.call _ rfl rfl rfl (tie_curve_value c x) (fun _ => rfl) fun v2 => ?_))))
    exact TieO.run 1 rfl (.nil (.ret ⟨.inl rfl, rfl⟩))
set_option maxRecDepth 100000 in
theorem tie_torque_torque (t2 : STables) (optimal : Int) (late : Int) (fired : Int) (cylinders : Int) : TieF Tryz.prog 57 [A_STables t2, .t (tI optimal), .t (tI late), .t (tI fired), .t (tI cylinders)] (torque_torque t2 optimal late fired cylinders) (fun r => .t (tI r)) := by
  refine TieF.intro htab 22 [.tmp 10] Tryz.call57 Tryz.func57 rfl rfl rfl (Nat.le_of_ble_eq_true rfl) fun w0 L => ?_
  refine TieS.seq (.region (.run 2 rfl (.nil (.seq ?_))))
  refine TieS.region (.run 4 rfl (.call _ rfl rfl rfl (tie_curve_At t2.Efficiency late) (fun _ => rfl) fun v => .run 5 rfl (.quo rfl rfl rfl rfl rfl rfl fun q => ?_)))
  exact TieO.run 1 rfl (.nil (.ret ⟨.inl rfl, rfl⟩))
set_option maxRecDepth 100000 in
theorem tie_torque_Torque (t2 : STables) (speed : Int) (charge : Int) (late : Int) (fired : Int) (cylinders : Int) : TieF Tryz.prog 31 [A_STables t2, .t (tI speed), .t (tI charge), .t (tI late), .t (tI fired), .t (tI cylinders)] (torque_Torque t2 speed charge late fired cylinders) (fun r => .tup [.t (tI r.1), .t (tI r.2)]) := by
  refine TieF.intro htab 48 [.tmp 12, .tmp 13] Tryz.call31 Tryz.func31 rfl rfl rfl (Nat.le_of_ble_eq_true rfl) fun w0 L => ?_
  refine TieS.seq (.region (.run 3 rfl (.nil (.seq ?_))))
  refine TieS.region (.run 3 rfl (.call _ rfl rfl rfl (tie_torque_Optimal t2 speed charge) (fun _ => rfl) fun r2 => .run 5 rfl (.nil ?_)))
  refine TieS.seq (.block (.seq (.region (.run 3 rfl ?_))))
  refine TieO.nil (.cond rfl ?_ ?_)
  · exact TieS.seq (.region (.run 3 rfl (.nil (.ret ⟨.inl rfl, rfl⟩))))
  · refine TieS.seq (.region (.run 1 rfl (.call _ rfl rfl rfl (tie_torque_within late 0 2560) (fun _ => rfl) fun v => .run 2 rfl ?_)))
    refine TieO.bind 4 (fun b2 => ⟨[(3, .t (tI late)), (4, .t (tI fired)), (5, .t (tI cylinders)), (6, .ptr 6 0), (14, .t (tI r2.1)), (35, .t (tB b2))], [(6, .box (B_STables t2))]⟩) (TieO.split 31 rfl ?_ ?_) fun b2 _ => ?_
    · exact TieO.run 4 rfl (.nil (.leaf ⟨rfl, .of rfl rfl⟩))
    · exact TieO.run 1 rfl (.call _ rfl rfl rfl (tie_torque_within cylinders 1 8) (fun _ => rfl) fun v2 => .run 2 rfl (.nil (.leaf ⟨rfl, .of rfl rfl⟩)))
    refine TieO.run 1 rfl (.bind 5 (fun b3 => ⟨[(3, .t (tI late)), (4, .t (tI fired)), (5, .t (tI cylinders)), (6, .ptr 6 0), (14, .t (tI r2.1)), (41, .t (tB b3))], [(6, .box (B_STables t2))]⟩) (TieO.split 36 rfl ?_ ?_) fun b3 _ => ?_)
    · exact TieO.run 5 rfl (.nil (.leaf ⟨rfl, .of rfl rfl⟩))
    · exact TieO.run 2 rfl (.call _ rfl rfl rfl (tie_torque_within fired 0 cylinders) (fun _ => rfl) fun v3 => .run 2 rfl (.nil (.leaf ⟨rfl, .of rfl rfl⟩)))
    refine TieO.run 1 rfl (.nil (.cond rfl ?_ ?_))
    · exact TieS.seq (.region (.run 2 rfl (.nil (.ret ⟨.inl rfl, rfl⟩))))
    · refine TieS.skip (.endb (.seq (.region (.run 5 rfl ?_))))
      exact TieO.call _ rfl rfl rfl (tie_torque_torque t2 r2.1 late fired cylinders) (fun _ => rfl) fun v4 => .run 2 rfl (.nil (.ret ⟨.inl rfl, rfl⟩))
set_option maxRecDepth 100000 in
theorem tie_monitor_Step_1 (t2 : Int) : TieF Tryz.prog 58 [.t (tI t2)] (monitor_Step_1 t2) (fun r => .t (tB r)) := by
  refine TieF.intro htab 5 [.tmp 2] Tryz.call58 Tryz.func58 rfl rfl rfl (Nat.le_of_ble_eq_true rfl) fun w0 L => ?_
  refine TieS.seq (.region (.run 1 rfl (.nil (.seq ?_))))
  refine TieS.region (.run 1 rfl (.call _ rfl rfl rfl (tie_monitor_within t2 (-20000) 20000) (fun _ => rfl) fun v => .run 1 rfl (.nil ?_)))
  exact TieS.ret ⟨.inl rfl, rfl⟩
set_option maxRecDepth 100000 in
theorem tie_monitor_Valid (g : SGuard) : TieF Tryz.prog 59 [A_SGuard g] (monitor_Valid g) (fun r => .t (tB r)) := by
  refine TieF.intro htab 30 [.tmp 2] Tryz.call59 Tryz.func59 rfl rfl rfl (Nat.le_of_ble_eq_true rfl) fun w0 L => ?_
  refine TieS.seq (.region (.run 2 rfl (.nil (.seq ?_))))
  refine TieS.region (.run 2 rfl (.call _ rfl rfl rfl (tie_monitor_within g.Over 0 5) (fun _ => rfl) fun v => .run 1 rfl (.bind 4 (fun b2 => ⟨[(1, .ptr 1 0), (10, .t (tB b2))], [(1, .box [.t (tI g.Over), .t (tI g.Calm), .t (tB g.Off)])]⟩) (TieO.split 6 rfl ?_ ?_) fun b2 _ => ?_)))
  · exact TieO.run 2 rfl (.call _ rfl rfl rfl (tie_monitor_within g.Calm 0 1000) (fun _ => rfl) fun v2 => .run 1 rfl (.nil (.leaf ⟨rfl, .of rfl rfl⟩)))
  · exact TieO.run 4 rfl (.nil (.leaf ⟨rfl, .of rfl rfl⟩))
  refine TieO.run 1 rfl (.bind 9 (fun b3 => ⟨[(1, .ptr 1 0), (20, .t (tB b3))], [(1, .box [.t (tI g.Over), .t (tI g.Calm), .t (tB g.Off)])]⟩) (TieO.split 11 rfl ?_ ?_) fun b3 _ => ?_)
  · refine TieO.run 4 rfl (.selOr (v := (g.Calm == 0)) 4 15 (fun b => ⟨[(1, .ptr 1 0), (11, .t (tB true)), (19, .t (tB b))], [(1, .box [.t (tI g.Over), .t (tI g.Calm), .t (tB g.Off)])]⟩) rfl ?_ ?_ ?_)
    · exact TieO.run 4 rfl (.nil (.leaf ⟨rfl, .of rfl rfl⟩))
    · exact TieO.run 4 rfl (.nil (.leaf ⟨rfl, .of rfl rfl⟩))
    exact TieO.run 1 rfl (.nil (.leaf ⟨rfl, .of rfl rfl⟩))
  · exact TieO.run 9 rfl (.nil (.leaf ⟨rfl, .of rfl rfl⟩))
  refine TieO.run 1 rfl (.bind 8 (fun b4 => ⟨[(29, .t (tB b4))], []⟩) (TieO.split 21 rfl ?_ ?_) fun b4 _ => ?_)
  · refine TieO.run 3 rfl (.selOr (v := decide (g.Over < 5)) 4 24 (fun b => ⟨[(21, .t (tB true)), (28, .t (tB b))], []⟩) rfl ?_ ?_ ?_)
    · exact TieO.run 4 rfl (.nil (.leaf ⟨rfl, .of rfl rfl⟩))
    · exact TieO.run 4 rfl (.nil (.leaf ⟨rfl, .of rfl rfl⟩))
    exact TieO.run 1 rfl (.nil (.leaf ⟨rfl, .of rfl rfl⟩))
  · exact TieO.run 8 rfl (.nil (.leaf ⟨rfl, .of rfl rfl⟩))
  exact TieO.run 1 rfl (.nil (.ret ⟨.inl rfl, rfl⟩))
set_option maxRecDepth 100000 in
theorem tie_monitor_Step (g : SGuard) (permitted : Int) (actual : Int) : TieF Tryz.prog 32 [A_SGuard g, .t (tI permitted), .t (tI actual)] (monitor_Step g permitted actual) (fun r => .tup [A_SGuard r.1, .t (tI r.2)]) := by
  refine TieF.intro htab 49 [.cell 6 54, .tmp 7] Tryz.call32 Tryz.func32 rfl rfl rfl (Nat.le_of_ble_eq_true rfl) fun w0 L => ?_
  refine TieS.seq (.region (.run 3 rfl (.nil (.seq ?_))))
  refine TieS.region (.run 1 rfl (.nil (.seq (.block ?_))))
  refine TieS.seq (.region (.run 1 rfl (.call _ rfl rfl rfl (tie_monitor_Valid g) (fun _ => rfl) fun v => .run 2 rfl ?_)))
  refine TieO.nil (.cond rfl ?_ ?_)
  · exact TieS.seq (.region (.run 3 rfl (.nil (.ret ⟨.inl rfl, rfl⟩))))
  · refine TieS.seq (.region (.run 2 rfl (.call _ rfl rfl rfl (tie_monitor_Step_1 permitted) (fun _ => rfl) fun v2 => .run 2 rfl ?_)))
    refine TieO.bind 5 (fun b2 => ⟨[(1, .t (tI permitted)), (2, .t (tI actual)), (3, .ptr 3 0), (6, .ptr 6 0), (25, .t (tB b2))], [(3, .box [.t (tI g.Over), .t (tI g.Calm), .t (tB g.Off)]), (6, .box [.t (tI 0), .t (tI 0), .t (tB false)])]⟩) (TieO.split 20 rfl ?_ ?_) fun b2 _ => ?_
    · exact TieO.run 5 rfl (.nil (.leaf ⟨rfl, .of rfl rfl⟩))
    · exact TieO.run 2 rfl (.call _ rfl rfl rfl (tie_monitor_Step_1 actual) (fun _ => rfl) fun v3 => .run 2 rfl (.nil (.leaf ⟨rfl, .of rfl rfl⟩)))
    refine TieO.run 1 rfl (.nil (.cond rfl ?_ ?_))
    · exact TieS.seq (.region (.run 3 rfl (.nil (.ret ⟨.inl rfl, rfl⟩))))
    · refine TieS.skip (.endb (.seq (.seq (.region ?_))))
      refine TieO.run 3 rfl (.nil (.cond rfl ?_ ?_))
      · refine TieS.seq (.region (.run 5 rfl (.nil (.seq ?_))))
        refine TieS.region (.run 4 rfl (.selOr (v := ((minI 5 (w64 (g.Over + 1))) == 5)) 3 37 (fun b => ⟨[(6, .ptr 6 0), (34, .t (tI (minI 5 (w64 (g.Over + 1))))), (40, .t (tB b))], [(6, .box [.t (tI 0), .t (tI 0), .t (tB false)])]⟩) rfl ?_ ?_ ?_))
        · exact TieO.run 3 rfl (.nil (.leaf ⟨rfl, .of rfl rfl⟩))
        · exact TieO.run 3 rfl (.nil (.leaf ⟨rfl, .of rfl rfl⟩))
        exact TieO.run 3 rfl (.nil (.ret ⟨.inl rfl, rfl⟩))
      · refine TieS.skip (.seq (.region (.run 9 rfl (.nil ?_))))
        exact TieS.ret ⟨.inl rfl, rfl⟩
set_option maxRecDepth 100000 in
theorem tie_stage_time (t2 : Int) : TieF Tryz.prog 61 [.t (tI t2)] (stage_time t2) (fun r => .t (tB r)) := by
  refine TieF.intro htab 9 [.tmp 2] Tryz.call61 Tryz.func61 rfl rfl rfl (Nat.le_of_ble_eq_true rfl) fun w0 L => ?_
  refine TieS.seq (.region (.run 1 rfl (.nil (.seq ?_))))
  refine TieS.region (.run 3 rfl (.selAnd (v := decide (t2 ≤ 1099511627776)) 3 5 (fun b => ⟨[(8, .t (tB b))], []⟩) rfl ?_ ?_ ?_))
  · exact TieO.run 3 rfl (.nil (.leaf ⟨rfl, .of rfl rfl⟩))
  · exact TieO.run 3 rfl (.nil (.leaf ⟨rfl, .of rfl rfl⟩))
  exact TieO.run 1 rfl (.nil (.ret ⟨.inl rfl, rfl⟩))
set_option maxRecDepth 100000 in
theorem tie_stage_Valid (s : SStage) : TieF Tryz.prog 34 [A_SStage s] (stage_Valid s) (fun r => .t (tB r)) := by
  refine TieF.intro htab 24 [.tmp 2] Tryz.call34 Tryz.func34 rfl rfl rfl (Nat.le_of_ble_eq_true rfl) fun w0 L => ?_
  refine TieS.seq (.region (.run 2 rfl (.nil (.seq ?_))))
  refine TieS.region (.run 4 rfl (.selAnd (v := decide (s.Cause ≤ 3)) 4 6 (fun b => ⟨[(1, .ptr 1 0), (10, .t (tB b))], [(1, .box [.t (tB s.Enabled), .t (tI s.Cause), .t (tI s.Since)])]⟩) rfl ?_ ?_ ?_))
  · exact TieO.run 4 rfl (.nil (.leaf ⟨rfl, .of rfl rfl⟩))
  · exact TieO.run 4 rfl (.nil (.leaf ⟨rfl, .of rfl rfl⟩))
  refine TieO.run 1 rfl (.selAnd (v := (s.Enabled == (s.Cause == 0))) 7 11 (fun b => ⟨[(1, .ptr 1 0), (18, .t (tB b))], [(1, .box [.t (tB s.Enabled), .t (tI s.Cause), .t (tI s.Since)])]⟩) rfl ?_ ?_ ?_)
  · exact TieO.run 7 rfl (.nil (.leaf ⟨rfl, .of rfl rfl⟩))
  · exact TieO.run 7 rfl (.nil (.leaf ⟨rfl, .of rfl rfl⟩))
  refine TieO.run 1 rfl (.bind 4 (fun b2 => ⟨[(23, .t (tB b2))], []⟩) (TieO.split 19 rfl ?_ ?_) fun b2 _ => ?_)
  · exact TieO.run 2 rfl (.call _ rfl rfl rfl (tie_stage_time s.Since) (fun _ => rfl) fun v => .run 1 rfl (.nil (.leaf ⟨rfl, .of rfl rfl⟩)))
  · exact TieO.run 4 rfl (.nil (.leaf ⟨rfl, .of rfl rfl⟩))
  exact TieO.run 1 rfl (.nil (.ret ⟨.inl rfl, rfl⟩))
set_option maxRecDepth 100000 in
theorem tie_quiz_instant (t2 : Int) : TieF Tryz.prog 75 [.t (tI t2)] (quiz_instant t2) (fun r => .t (tB r)) := by
  refine TieF.intro htab 9 [.tmp 2] Tryz.call75 Tryz.func75 rfl rfl rfl (Nat.le_of_ble_eq_true rfl) fun w0 L => ?_
  refine TieS.seq (.region (.run 1 rfl (.nil (.seq ?_))))
  refine TieS.region (.run 3 rfl (.selAnd (v := decide (t2 ≤ 1099511627776)) 3 5 (fun b => ⟨[(8, .t (tB b))], []⟩) rfl ?_ ?_ ?_))
  · exact TieO.run 3 rfl (.nil (.leaf ⟨rfl, .of rfl rfl⟩))
  · exact TieO.run 3 rfl (.nil (.leaf ⟨rfl, .of rfl rfl⟩))
  exact TieO.run 1 rfl (.nil (.ret ⟨.inl rfl, rfl⟩))
abbrev x60_0 (q : SQuiz) : List T := [.t (tI q.Question), .t (tI q.Asked), .t (tI q.Errors), .t (tB q.Open), .t (tB q.Off)]
set_option maxRecDepth 100000 in
theorem tie_quiz_Valid (q : SQuiz) : TieF Tryz.prog 60 [A_SQuiz q] (quiz_Valid q) (fun r => .t (tB r)) := by
  refine TieF.intro htab 47 [.tmp 2] Tryz.call60 Tryz.func60 rfl rfl rfl (Nat.le_of_ble_eq_true rfl) fun w0 L => ?_
  refine TieS.seq (.region (.run 2 rfl (.nil (.seq ?_))))
  refine TieS.region (.run 2 rfl (.call _ rfl rfl rfl (tie_quiz_question q.Question) (fun _ => rfl) fun v => .run 1 rfl (.bind 4 (fun b2 => ⟨[(1, .ptr 1 0), (10, .t (tB b2))], [(1, .box (x60_0 q))]⟩) (TieO.split 6 rfl ?_ ?_) fun b2 _ => ?_)))
  · exact TieO.run 2 rfl (.call _ rfl rfl rfl (tie_quiz_instant q.Asked) (fun _ => rfl) fun v2 => .run 1 rfl (.nil (.leaf ⟨rfl, .of rfl rfl⟩)))
  · exact TieO.run 4 rfl (.nil (.leaf ⟨rfl, .of rfl rfl⟩))
  refine TieO.run 1 rfl (.bind 8 (fun b3 => ⟨[(1, .ptr 1 0), (19, .t (tB b3))], [(1, .box (x60_0 q))]⟩) (TieO.split 11 rfl ?_ ?_) fun b3 _ => ?_)
  · refine TieO.run 3 rfl (.selOr (v := (q.Asked == 0)) 4 14 (fun b => ⟨[(1, .ptr 1 0), (11, .t (tB true)), (18, .t (tB b))], [(1, .box (x60_0 q))]⟩) rfl ?_ ?_ ?_)
    · exact TieO.run 4 rfl (.nil (.leaf ⟨rfl, .of rfl rfl⟩))
    · exact TieO.run 4 rfl (.nil (.leaf ⟨rfl, .of rfl rfl⟩))
    exact TieO.run 1 rfl (.nil (.leaf ⟨rfl, .of rfl rfl⟩))
  · exact TieO.run 8 rfl (.nil (.leaf ⟨rfl, .of rfl rfl⟩))
  refine TieO.run 1 rfl (.selAnd (v := decide (q.Errors ≥ 0)) 4 20 (fun b => ⟨[(1, .ptr 1 0), (24, .t (tB b))], [(1, .box (x60_0 q))]⟩) rfl ?_ ?_ ?_)
  · exact TieO.run 4 rfl (.nil (.leaf ⟨rfl, .of rfl rfl⟩))
  · exact TieO.run 4 rfl (.nil (.leaf ⟨rfl, .of rfl rfl⟩))
  refine TieO.run 1 rfl (.selAnd (v := decide (q.Errors ≤ 7)) 4 25 (fun b => ⟨[(1, .ptr 1 0), (29, .t (tB b))], [(1, .box (x60_0 q))]⟩) rfl ?_ ?_ ?_)
  · exact TieO.run 4 rfl (.nil (.leaf ⟨rfl, .of rfl rfl⟩))
  · exact TieO.run 4 rfl (.nil (.leaf ⟨rfl, .of rfl rfl⟩))
  refine TieO.run 1 rfl (.selAnd (v := (q.Off == (q.Errors == 7))) 7 30 (fun b => ⟨[(1, .ptr 1 0), (37, .t (tB b))], [(1, .box (x60_0 q))]⟩) rfl ?_ ?_ ?_)
  · exact TieO.run 7 rfl (.nil (.leaf ⟨rfl, .of rfl rfl⟩))
  · exact TieO.run 7 rfl (.nil (.leaf ⟨rfl, .of rfl rfl⟩))
  refine TieO.run 1 rfl (.bind 8 (fun b4 => ⟨[(46, .t (tB b4))], []⟩) (TieO.split 38 rfl ?_ ?_) fun b4 _ => ?_)
  · refine TieO.run 3 rfl (.selAnd (v := q.Off) 3 41 (fun b => ⟨[(38, .t (tB true)), (44, .t (tB b))], []⟩) rfl ?_ ?_ ?_)
    · exact TieO.run 3 rfl (.nil (.leaf ⟨rfl, .of rfl rfl⟩))
    · exact TieO.run 3 rfl (.nil (.leaf ⟨rfl, .of rfl rfl⟩))
    exact TieO.run 2 rfl (.nil (.leaf ⟨rfl, .of rfl rfl⟩))
  · exact TieO.run 8 rfl (.nil (.leaf ⟨rfl, .of rfl rfl⟩))
  exact TieO.run 1 rfl (.nil (.ret ⟨.inl rfl, rfl⟩))
set_option maxRecDepth 100000 in
theorem tie_stage_cause (key : Bool) (g : SGuard) (q : SQuiz) : TieF Tryz.prog 62 [.t (tB key), A_SGuard g, A_SQuiz q] (stage_cause key g q) (fun r => .t (tI r)) := by
  refine TieF.intro htab 16 [.tmp 6] Tryz.call62 Tryz.func62 rfl rfl rfl (Nat.le_of_ble_eq_true rfl) fun w0 L => ?_
  refine TieS.seq (.region (.run 3 rfl (.nil (.seq ?_))))
  refine TieS.block (.seq (.region (.run 3 rfl (.nil ?_))))
  refine TieS.cond rfl ?_ ?_
  · exact TieS.seq (.region (.run 1 rfl (.nil (.ret ⟨.inl rfl, rfl⟩))))
  · refine TieS.seq (.region (.run 3 rfl (.nil (.cond rfl ?_ ?_))))
    · exact TieS.seq (.region (.run 1 rfl (.nil (.ret ⟨.inl rfl, rfl⟩))))
    · refine TieS.seq (.region (.run 3 rfl (.nil (.cond rfl ?_ ?_))))
      · exact TieS.seq (.region (.run 1 rfl (.nil (.ret ⟨.inl rfl, rfl⟩))))
      · refine TieS.skip (.endb (.seq (.region (.run 1 rfl ?_))))
        exact TieO.nil (.ret ⟨.inl rfl, rfl⟩)
abbrev x33_0 (q : SQuiz) : List T := [.t (tI q.Question), .t (tI q.Asked), .t (tI q.Errors), .t (tB q.Open), .t (tB q.Off)]
set_option maxRecDepth 100000 in
theorem tie_stage_Step (s : SStage) (key : Bool) (g : SGuard) (q : SQuiz) (now : Int) : TieF Tryz.prog 33 [A_SStage s, .t (tB key), A_SGuard g, A_SQuiz q, .t (tI now)] (stage_Step s key g q now) (fun r => .tup [A_SStage r.1, .t (tI r.2)]) := by
  refine TieF.intro htab 58 [.cell 10 51, .tmp 11] Tryz.call33 Tryz.func33 rfl rfl rfl (Nat.le_of_ble_eq_true rfl) fun w0 L => ?_
  refine TieS.seq (.region (.run 5 rfl (.nil (.seq ?_))))
  refine TieS.block (.seq (.region (.run 1 rfl (.call _ rfl rfl rfl (tie_stage_Valid s) (fun _ => rfl) fun v => ?_))))
  refine TieO.run 2 rfl (.bind 4 (fun b2 => ⟨[(1, .t (tB key)), (4, .t (tI now)), (5, .ptr 5 0), (7, .ptr 7 0), (8, .ptr 8 0), (10, .ptr 10 0), (21, .t (tB b2))], [(5, .box [.t (tB s.Enabled), .t (tI s.Cause), .t (tI s.Since)]), (7, .box [.t (tI g.Over), .t (tI g.Calm), .t (tB g.Off)]), (8, .box (x33_0 q)), (10, .box [.t (tB false), .t (tI 0), .t (tI 0)])]⟩) (TieO.split 17 rfl ?_ ?_) fun b2 _ => ?_)
  · exact TieO.run 4 rfl (.nil (.leaf ⟨rfl, .of rfl rfl⟩))
  · exact TieO.run 1 rfl (.call _ rfl rfl rfl (tie_monitor_Valid g) (fun _ => rfl) fun v2 => .run 2 rfl (.nil (.leaf ⟨rfl, .of rfl rfl⟩)))
  refine TieO.run 1 rfl (.bind 4 (fun b3 => ⟨[(1, .t (tB key)), (4, .t (tI now)), (5, .ptr 5 0), (7, .ptr 7 0), (8, .ptr 8 0), (10, .ptr 10 0), (26, .t (tB b3))], [(5, .box [.t (tB s.Enabled), .t (tI s.Cause), .t (tI s.Since)]), (7, .box [.t (tI g.Over), .t (tI g.Calm), .t (tB g.Off)]), (8, .box (x33_0 q)), (10, .box [.t (tB false), .t (tI 0), .t (tI 0)])]⟩) (TieO.split 22 rfl ?_ ?_) fun b3 _ => ?_)
  · exact TieO.run 4 rfl (.nil (.leaf ⟨rfl, .of rfl rfl⟩))
  · exact TieO.run 1 rfl (.call _ rfl rfl rfl (tie_quiz_Valid q) (fun _ => rfl) fun v3 => .run 2 rfl (.nil (.leaf ⟨rfl, .of rfl rfl⟩)))
  refine TieO.run 1 rfl (.nil (.cond rfl ?_ ?_))
  · exact TieS.seq (.region (.run 3 rfl (.nil (.ret ⟨.inl rfl, rfl⟩))))
  · refine TieS.seq (.region (.run 1 rfl (.call _ rfl rfl rfl (tie_stage_time now) (fun _ => rfl) fun v4 => .run 2 rfl ?_)))
    refine TieO.nil (.cond rfl ?_ ?_)
    · exact TieS.seq (.region (.run 3 rfl (.nil (.ret ⟨.inl rfl, rfl⟩))))
    · refine TieS.seq (.region (.run 5 rfl (.nil (.cond rfl ?_ ?_))))
      · exact TieS.seq (.region (.run 3 rfl (.nil (.ret ⟨.inl rfl, rfl⟩))))
      · refine TieS.skip (.endb (.seq (.bind (Q₁ := fun t e σ' => e = .normal ∧ Sub ⟨[(4, .t (tI now)), (5, .ptr 5 0), (10, .ptr 10 0), (12, .ptr 12 0)], [(5, .box [.t (tB s.Enabled), .t (tI s.Cause), .t (tI s.Since)]), (10, .box [.t (tB false), .t (tI 0), .t (tI 0)]), (12, .box [.t (tB false), .t (tI t.1), .t (tI t.2)])]⟩ σ') ?_ ?_)))
        · refine TieX.pre fun v5 hv5 => TieS.draws 8 (bm 9 0) (bm 9 255) ⟨[(4, .t (tI now)), (5, .ptr 5 0), (10, .ptr 10 0), (12, .ptr 12 0), (45, .agg [.t (tB false), .t (tI v5), .t (tI s.Since)])], [(5, .box [.t (tB s.Enabled), .t (tI s.Cause), .t (tI s.Since)]), (7, .box [.t (tI g.Over), .t (tI g.Calm), .t (tB g.Off)]), (8, .box (x33_0 q)), (10, .box [.t (tB false), .t (tI 0), .t (tI 0)]), (12, .box [.t (tB false), .t (tI 0), .t (tI 0)])]⟩ mixed (fun _ _ _ h => by cases h.1) rfl rfl rfl rfl ?_ ?_
          · refine TieA.have_ (fuel₁ := 2) (l₁ := (bm 9 191)) (σ₁ := ⟨[(4, .t (tI now)), (5, .ptr 5 0), (10, .ptr 10 0), (12, .ptr 12 0), (42, .t (tI v5)), (44, .t (tI s.Since))], [(5, .box [.t (tB s.Enabled), .t (tI s.Cause), .t (tI s.Since)]), (7, .box [.t (tI g.Over), .t (tI g.Calm), .t (tB g.Off)]), (8, .box (x33_0 q)), (10, .box [.t (tB false), .t (tI 0), .t (tI 0)]), (12, .box [.t (tB false), .t (tI 0), .t (tI 0)])]⟩) ?_ fun A_2 => ?_
            · refine TieA.all [6] (by kernel_rfl) rfl (AllA.run _ rfl rfl rfl ?_ ?_)
              · exact TieA.done (.of rfl rfl)
              exact AllA.nil
            refine TieA.have_ (fuel₁ := 3) (l₁ := (bm 9 63)) (σ₁ := ⟨[(4, .t (tI now)), (5, .ptr 5 0), (10, .ptr 10 0), (42, .t (tI v5)), (44, .t (tI s.Since))], [(5, .box [.t (tB s.Enabled), .t (tI s.Cause), .t (tI s.Since)]), (7, .box [.t (tI g.Over), .t (tI g.Calm), .t (tB g.Off)]), (8, .box (x33_0 q)), (10, .box [.t (tB false), .t (tI 0), .t (tI 0)])]⟩) ?_ fun A_1 => ?_
            · refine TieA.all [6, 7] (by kernel_rfl) rfl (AllA.run _ rfl rfl rfl ?_ ?_)
              · refine TieA.all [7] (by kernel_rfl) rfl (AllA.run _ rfl rfl rfl ?_ ?_)
                · exact TieA.done (.of rfl rfl)
                exact AllA.nil
              exact AllA.runTo _ rfl rfl rfl (.of rfl rfl) A_2 (AllA.nil)
            refine TieA.have_ (fuel₁ := 3) (l₁ := (bm 9 159)) (σ₁ := ⟨[(4, .t (tI now)), (5, .ptr 5 0), (10, .ptr 10 0), (12, .ptr 12 0), (42, .t (tI v5)), (43, .ptr 5 2)], [(5, .box [.t (tB s.Enabled), .t (tI s.Cause), .t (tI s.Since)]), (7, .box [.t (tI g.Over), .t (tI g.Calm), .t (tB g.Off)]), (8, .box (x33_0 q)), (10, .box [.t (tB false), .t (tI 0), .t (tI 0)]), (12, .box [.t (tB false), .t (tI 0), .t (tI 0)])]⟩) ?_ fun A_3 => ?_
            · exact TieA.all [5] (by kernel_rfl) rfl (AllA.runTo _ rfl rfl rfl (.of rfl rfl) A_2 (AllA.nil))
            refine TieA.have_ (fuel₁ := 3) (l₁ := (bm 9 183)) (σ₁ := ⟨[(4, .t (tI now)), (5, .ptr 5 0), (10, .ptr 10 0), (12, .ptr 12 0), (39, .t (tB key)), (40, .agg [.t (tI g.Over), .t (tI g.Calm), .t (tB g.Off)]), (41, .agg [.t (tI q.Question), .t (tI q.Asked), .t (tI q.Errors), .t (tB q.Open), .t (tB q.Off)]), (44, .t (tI s.Since))], [(5, .box [.t (tB s.Enabled), .t (tI s.Cause), .t (tI s.Since)]), (7, .box [.t (tI g.Over), .t (tI g.Calm), .t (tB g.Off)]), (8, .box (x33_0 q)), (10, .box [.t (tB false), .t (tI 0), .t (tI 0)]), (12, .box [.t (tB false), .t (tI 0), .t (tI 0)])]⟩) ?_ fun A_5 => ?_
            · refine TieA.all [3] (by kernel_rfl) rfl (AllA.cons _ rfl rfl ?_ A_2 ?_)
              · refine TieO.withH hv5 (TieO.call _ rfl rfl rfl (tie_stage_cause key g q) (fun _ => rfl) (TieO.ifH ?_))
                exact TieO.nil (TieS.leaf ⟨rfl, .of rfl rfl⟩)
              exact AllA.nil
            refine TieA.have_ (fuel₁ := 4) (l₁ := (bm 9 55)) (σ₁ := ⟨[(4, .t (tI now)), (5, .ptr 5 0), (10, .ptr 10 0), (39, .t (tB key)), (40, .agg [.t (tI g.Over), .t (tI g.Calm), .t (tB g.Off)]), (41, .agg [.t (tI q.Question), .t (tI q.Asked), .t (tI q.Errors), .t (tB q.Open), .t (tB q.Off)]), (44, .t (tI s.Since))], [(5, .box [.t (tB s.Enabled), .t (tI s.Cause), .t (tI s.Since)]), (7, .box [.t (tI g.Over), .t (tI g.Calm), .t (tB g.Off)]), (8, .box (x33_0 q)), (10, .box [.t (tB false), .t (tI 0), .t (tI 0)])]⟩) ?_ fun A_4 => ?_
            · refine TieA.all [3, 7] (by kernel_rfl) rfl (AllA.cons _ rfl rfl ?_ A_1 ?_)
              · refine TieO.withH hv5 (TieO.call _ rfl rfl rfl (tie_stage_cause key g q) (fun _ => rfl) (TieO.ifH ?_))
                exact TieO.nil (TieS.leaf ⟨rfl, .of rfl rfl⟩)
              exact AllA.runTo _ rfl rfl rfl (.of rfl rfl) A_5 (AllA.nil)
            refine TieA.have_ (fuel₁ := 4) (l₁ := (bm 9 151)) (σ₁ := ⟨[(4, .t (tI now)), (5, .ptr 5 0), (10, .ptr 10 0), (12, .ptr 12 0), (39, .t (tB key)), (40, .agg [.t (tI g.Over), .t (tI g.Calm), .t (tB g.Off)]), (41, .agg [.t (tI q.Question), .t (tI q.Asked), .t (tI q.Errors), .t (tB q.Open), .t (tB q.Off)]), (43, .ptr 5 2)], [(5, .box [.t (tB s.Enabled), .t (tI s.Cause), .t (tI s.Since)]), (7, .box [.t (tI g.Over), .t (tI g.Calm), .t (tB g.Off)]), (8, .box (x33_0 q)), (10, .box [.t (tB false), .t (tI 0), .t (tI 0)]), (12, .box [.t (tB false), .t (tI 0), .t (tI 0)])]⟩) ?_ fun A_6 => ?_
            · refine TieA.all [3, 5] (by kernel_rfl) rfl (AllA.cons _ rfl rfl ?_ A_3 ?_)
              · refine TieO.withH hv5 (TieO.call _ rfl rfl rfl (tie_stage_cause key g q) (fun _ => rfl) (TieO.ifH ?_))
                exact TieO.nil (TieS.leaf ⟨rfl, .of rfl rfl⟩)
              exact AllA.runTo _ rfl rfl rfl (.of rfl rfl) A_5 (AllA.nil)
            refine TieA.have_ (fuel₁ := 5) (l₁ := (bm 9 23)) (σ₁ := ⟨[(4, .t (tI now)), (5, .ptr 5 0), (10, .ptr 10 0), (39, .t (tB key)), (40, .agg [.t (tI g.Over), .t (tI g.Calm), .t (tB g.Off)]), (41, .agg [.t (tI q.Question), .t (tI q.Asked), .t (tI q.Errors), .t (tB q.Open), .t (tB q.Off)]), (43, .ptr 5 2)], [(5, .box [.t (tB s.Enabled), .t (tI s.Cause), .t (tI s.Since)]), (7, .box [.t (tI g.Over), .t (tI g.Calm), .t (tB g.Off)]), (8, .box (x33_0 q)), (10, .box [.t (tB false), .t (tI 0), .t (tI 0)])]⟩) ?_ fun A_0 => ?_
            · refine TieA.all [3, 5, 7] (by kernel_rfl) rfl (AllA.cons (σ₁ := ⟨[(4, .t (tI now)), (5, .ptr 5 0), (10, .ptr 10 0), (42, .t (tI v5)), (43, .ptr 5 2)], [(5, .box [.t (tB s.Enabled), .t (tI s.Cause), .t (tI s.Since)]), (7, .box [.t (tI g.Over), .t (tI g.Calm), .t (tB g.Off)]), (8, .box (x33_0 q)), (10, .box [.t (tB false), .t (tI 0), .t (tI 0)])]⟩) _ rfl rfl ?_ ?_ ?_)
              · refine TieO.withH hv5 (TieO.call _ rfl rfl rfl (tie_stage_cause key g q) (fun _ => rfl) (TieO.ifH ?_))
                exact TieO.nil (TieS.leaf ⟨rfl, .of rfl rfl⟩)
              · exact TieA.all [5, 7] (by kernel_rfl) rfl (AllA.runTo _ rfl rfl rfl (.of rfl rfl) A_1 (AllA.runTo _ rfl rfl rfl (.of rfl rfl) A_3 (AllA.nil)))
              exact AllA.runTo _ rfl rfl rfl (.of rfl rfl) A_4 (AllA.runTo _ rfl rfl rfl (.of rfl rfl) A_6 (AllA.nil))
            refine TieA.have_ (fuel₁ := 4) (l₁ := (bm 9 179)) (σ₁ := ⟨[(4, .t (tI now)), (5, .ptr 5 0), (8, .ptr 8 0), (10, .ptr 10 0), (12, .ptr 12 0), (39, .t (tB key)), (40, .agg [.t (tI g.Over), .t (tI g.Calm), .t (tB g.Off)]), (44, .t (tI s.Since))], [(5, .box [.t (tB s.Enabled), .t (tI s.Cause), .t (tI s.Since)]), (7, .box [.t (tI g.Over), .t (tI g.Calm), .t (tB g.Off)]), (8, .box (x33_0 q)), (10, .box [.t (tB false), .t (tI 0), .t (tI 0)]), (12, .box [.t (tB false), .t (tI 0), .t (tI 0)])]⟩) ?_ fun A_8 => ?_
            · exact TieA.all [2] (by kernel_rfl) rfl (AllA.runTo _ rfl rfl rfl (.of rfl rfl) A_5 (AllA.nil))
            refine TieA.have_ (fuel₁ := 5) (l₁ := (bm 9 51)) (σ₁ := ⟨[(4, .t (tI now)), (5, .ptr 5 0), (8, .ptr 8 0), (10, .ptr 10 0), (39, .t (tB key)), (40, .agg [.t (tI g.Over), .t (tI g.Calm), .t (tB g.Off)]), (44, .t (tI s.Since))], [(5, .box [.t (tB s.Enabled), .t (tI s.Cause), .t (tI s.Since)]), (7, .box [.t (tI g.Over), .t (tI g.Calm), .t (tB g.Off)]), (8, .box (x33_0 q)), (10, .box [.t (tB false), .t (tI 0), .t (tI 0)])]⟩) ?_ fun A_7 => ?_
            · exact TieA.all [2, 7] (by kernel_rfl) rfl (AllA.runTo _ rfl rfl rfl (.of rfl rfl) A_4 (AllA.runTo _ rfl rfl rfl (.of rfl rfl) A_8 (AllA.nil)))
            refine TieA.have_ (fuel₁ := 5) (l₁ := (bm 9 147)) (σ₁ := ⟨[(4, .t (tI now)), (5, .ptr 5 0), (8, .ptr 8 0), (10, .ptr 10 0), (12, .ptr 12 0), (39, .t (tB key)), (40, .agg [.t (tI g.Over), .t (tI g.Calm), .t (tB g.Off)]), (43, .ptr 5 2)], [(5, .box [.t (tB s.Enabled), .t (tI s.Cause), .t (tI s.Since)]), (7, .box [.t (tI g.Over), .t (tI g.Calm), .t (tB g.Off)]), (8, .box (x33_0 q)), (10, .box [.t (tB false), .t (tI 0), .t (tI 0)]), (12, .box [.t (tB false), .t (tI 0), .t (tI 0)])]⟩) ?_ fun A_9 => ?_
            · exact TieA.all [2, 5] (by kernel_rfl) rfl (AllA.runTo _ rfl rfl rfl (.of rfl rfl) A_6 (AllA.runTo _ rfl rfl rfl (.of rfl rfl) A_8 (AllA.nil)))
            refine TieA.have_ (fuel₁ := 4) (l₁ := (bm 9 181)) (σ₁ := ⟨[(4, .t (tI now)), (5, .ptr 5 0), (7, .ptr 7 0), (10, .ptr 10 0), (12, .ptr 12 0), (39, .t (tB key)), (41, .agg [.t (tI q.Question), .t (tI q.Asked), .t (tI q.Errors), .t (tB q.Open), .t (tB q.Off)]), (44, .t (tI s.Since))], [(5, .box [.t (tB s.Enabled), .t (tI s.Cause), .t (tI s.Since)]), (7, .box [.t (tI g.Over), .t (tI g.Calm), .t (tB g.Off)]), (8, .box (x33_0 q)), (10, .box [.t (tB false), .t (tI 0), .t (tI 0)]), (12, .box [.t (tB false), .t (tI 0), .t (tI 0)])]⟩) ?_ fun A_11 => ?_
            · exact TieA.all [1] (by kernel_rfl) rfl (AllA.runTo _ rfl rfl rfl (.of rfl rfl) A_5 (AllA.nil))
            refine TieA.have_ (fuel₁ := 5) (l₁ := (bm 9 53)) (σ₁ := ⟨[(4, .t (tI now)), (5, .ptr 5 0), (7, .ptr 7 0), (10, .ptr 10 0), (39, .t (tB key)), (41, .agg [.t (tI q.Question), .t (tI q.Asked), .t (tI q.Errors), .t (tB q.Open), .t (tB q.Off)]), (44, .t (tI s.Since))], [(5, .box [.t (tB s.Enabled), .t (tI s.Cause), .t (tI s.Since)]), (7, .box [.t (tI g.Over), .t (tI g.Calm), .t (tB g.Off)]), (8, .box (x33_0 q)), (10, .box [.t (tB false), .t (tI 0), .t (tI 0)])]⟩) ?_ fun A_10 => ?_
            · exact TieA.all [1, 7] (by kernel_rfl) rfl (AllA.runTo _ rfl rfl rfl (.of rfl rfl) A_4 (AllA.runTo _ rfl rfl rfl (.of rfl rfl) A_11 (AllA.nil)))
            refine TieA.have_ (fuel₁ := 5) (l₁ := (bm 9 149)) (σ₁ := ⟨[(4, .t (tI now)), (5, .ptr 5 0), (7, .ptr 7 0), (10, .ptr 10 0), (12, .ptr 12 0), (39, .t (tB key)), (41, .agg [.t (tI q.Question), .t (tI q.Asked), .t (tI q.Errors), .t (tB q.Open), .t (tB q.Off)]), (43, .ptr 5 2)], [(5, .box [.t (tB s.Enabled), .t (tI s.Cause), .t (tI s.Since)]), (7, .box [.t (tI g.Over), .t (tI g.Calm), .t (tB g.Off)]), (8, .box (x33_0 q)), (10, .box [.t (tB false), .t (tI 0), .t (tI 0)]), (12, .box [.t (tB false), .t (tI 0), .t (tI 0)])]⟩) ?_ fun A_12 => ?_
            · exact TieA.all [1, 5] (by kernel_rfl) rfl (AllA.runTo _ rfl rfl rfl (.of rfl rfl) A_6 (AllA.runTo _ rfl rfl rfl (.of rfl rfl) A_11 (AllA.nil)))
            refine TieA.have_ (fuel₁ := 5) (l₁ := (bm 9 177)) (σ₁ := ⟨[(4, .t (tI now)), (5, .ptr 5 0), (7, .ptr 7 0), (8, .ptr 8 0), (10, .ptr 10 0), (12, .ptr 12 0), (39, .t (tB key)), (44, .t (tI s.Since))], [(5, .box [.t (tB s.Enabled), .t (tI s.Cause), .t (tI s.Since)]), (7, .box [.t (tI g.Over), .t (tI g.Calm), .t (tB g.Off)]), (8, .box (x33_0 q)), (10, .box [.t (tB false), .t (tI 0), .t (tI 0)]), (12, .box [.t (tB false), .t (tI 0), .t (tI 0)])]⟩) ?_ fun A_13 => ?_
            · exact TieA.all [1, 2] (by kernel_rfl) rfl (AllA.runTo _ rfl rfl rfl (.of rfl rfl) A_8 (AllA.runTo _ rfl rfl rfl (.of rfl rfl) A_11 (AllA.nil)))
            refine TieA.mv 0 rfl (.inl rfl) rfl (by kernel_rfl) rfl (.fP 4 rfl rfl rfl (by kernel_rfl) rfl rfl rfl (.all [1, 2, 5, 7] (by kernel_rfl) rfl (AllA.run _ rfl rfl rfl ?_ ?_)))
            · exact TieA.all [2, 5, 7] (by kernel_rfl) rfl (AllA.runTo _ rfl rfl rfl (.of rfl rfl) A_0 (AllA.runTo _ rfl rfl rfl (.of rfl rfl) A_7 (AllA.runTo _ rfl rfl rfl (.of rfl rfl) A_9 (AllA.nil))))
            refine AllA.run _ rfl rfl rfl ?_ ?_
            · exact TieA.all [1, 5, 7] (by kernel_rfl) rfl (AllA.runTo _ rfl rfl rfl (.of rfl rfl) A_0 (AllA.runTo _ rfl rfl rfl (.of rfl rfl) A_10 (AllA.runTo _ rfl rfl rfl (.of rfl rfl) A_12 (AllA.nil))))
            refine AllA.run _ rfl rfl rfl ?_ ?_
            · exact TieA.all [1, 2, 7] (by kernel_rfl) rfl (AllA.runTo _ rfl rfl rfl (.of rfl rfl) A_7 (AllA.runTo _ rfl rfl rfl (.of rfl rfl) A_10 (AllA.runTo _ rfl rfl rfl (.of rfl rfl) A_13 (AllA.nil))))
            refine AllA.run _ rfl rfl rfl ?_ ?_
            · exact TieA.all [1, 2, 5] (by kernel_rfl) rfl (AllA.runTo _ rfl rfl rfl (.of rfl rfl) A_9 (AllA.runTo _ rfl rfl rfl (.of rfl rfl) A_12 (AllA.runTo _ rfl rfl rfl (.of rfl rfl) A_13 (AllA.nil))))
            exact AllA.nil
          exact TieO.run 1 rfl (.nil (.leaf ⟨rfl, .of rfl rfl⟩))
        rintro s2 e σ' _ ⟨rfl, hs⟩
        refine TieX.sub hs (TieS.seq (.region (.run 5 rfl (.nil ?_))))
        refine TieS.seq (.seq (.region (.run 5 rfl (.nil ?_))))
        refine TieS.cond rfl ?_ ?_
        · refine TieS.region (.run 3 rfl (.nil (.seq (.region ?_))))
          exact TieO.run 3 rfl (.nil (.ret ⟨.inl rfl, rfl⟩))
        · refine TieS.skip (.seq (.region (.run 3 rfl (.nil ?_))))
          exact TieS.ret ⟨.inl rfl, rfl⟩
abbrev x10_0 (s : Smagnetotop_ReactionStep) : List T := [.t (tK .u16 s.Pedal), .t (tK .u16 s.Speed), .t (tK .u16 s.Charge), .t (tK .u16 s.Late), .t (tK .u8 s.Fires), .t (tB s.Limited), .t (tK .i16 s.Limit)]
abbrev x10_1 (s4 : Int × SStage) : List T := [.t (tB s4.2.Enabled), .t (tI s4.2.Cause), .t (tI s4.2.Since)]
set_option maxRecDepth 100000 in
set_option maxHeartbeats 4000000 in
theorem tie_magnetotop_monitored_step (v : Smagnetotop_monitored) (t2 : STables) (s : Smagnetotop_ReactionStep) : TieG Tryz.prog 10 [.ptr 1000000 0, A_STables t2, A_Smagnetotop_ReactionStep s] [(1000000, .box (B_Smagnetotop_monitored v))] (magnetotop_monitored_step v t2 s) (fun r => .tup [.t (tI r.1), .t (tI r.2.1), .t (tI r.2.2.1), .t (tB r.2.2.2.1)]) (fun r => [(1000000, .box (B_Smagnetotop_monitored r.2.2.2.2))]) := by
  refine TieG.intro htab 168 [.tmp 6, .tmp 7, .tmp 8, .tmp 9] Tryz.call10 Tryz.func10 rfl rfl rfl (Nat.le_of_ble_eq_true rfl) fun w0 L => ?_
  refine TieS.seq (.region (.run 6 rfl (.nil (.seq ?_))))
  refine TieS.draw 20 [_, _, _, _, _, _, _, _, _, _, _, _, _, _, _, _, _, _, _, _] [(0, .ptr 1000000 0), (4, .ptr 4 0), (5, .ptr 5 0), (8, .t (tI 0))] [(4, .box (B_STables t2)), (5, .box (x10_0 s)), (1000000, .box (B_Smagnetotop_monitored v))] mixed (.of rfl rfl) rfl rfl rfl rfl (.cons (.quiet rfl rfl rfl) (.cons (.quiet rfl rfl rfl) (.cons (.quiet rfl rfl rfl) (.cons (.quiet rfl rfl rfl) (.cons (.quiet rfl rfl rfl) (.cons (.quiet rfl rfl rfl) (.cons (.quiet rfl rfl rfl) (.cons (.quiet rfl rfl rfl) (.cons (.quiet rfl rfl rfl) (.cons (.quiet rfl rfl rfl) (.cons (.quiet rfl rfl rfl) (.cons (.quiet rfl rfl rfl) (.cons (.quiet rfl rfl rfl) (.cons (.quiet rfl rfl rfl) (.cons (.quiet rfl rfl rfl) (.cons (.quiet rfl rfl rfl) (.cons (.quiet rfl rfl rfl) (.cons (.quiet rfl rfl rfl) (.cons (.quiet rfl rfl rfl) (.cons (.quiet rfl rfl rfl) (.nil))))))))))))))))))))) (.nil (.seq (.region (.run 1 rfl ?_))))
  refine TieO.nil (.seq (.seq (.region (.run 2 rfl ?_))))
  refine TieO.nil (.bind (Q₁ := fun t e σ' => e = .normal ∧ Sub ⟨[(0, .ptr 1000000 0), (4, .ptr 4 0), (5, .ptr 5 0), (8, .t (tI 0)), (10, .t (tI (Int.tmod (w64 s.Pedal) 1001))), (11, .t (tI (Int.tmod (w64 s.Speed) 12001))), (12, .t (tI (w64 (8 * (w64 s.Charge))))), (13, .t (tI (Int.tmod (w64 s.Late) 2561))), (14, .t (tS enc_SRequest t))], [(4, .box (B_STables t2)), (5, .box (x10_0 s)), (1000000, .box (B_Smagnetotop_monitored v))]⟩ σ') ?_ ?_)
  · refine TieS.cond rfl ?_ ?_
    · exact TieS.region (.run 8 rfl (.nil (TieX.frz 48 rfl (TieS.leaf ⟨rfl, .of rfl rfl⟩))))
    · exact TieS.skip (.leaf ⟨rfl, .of rfl rfl⟩)
  rintro requests e σ' _ ⟨rfl, hs⟩
  refine TieX.sub hs (TieS.seq (.region (.makeO (enc := enc_SFire) 2392 (⟨0, 0, 0, 0, 0, 0, 0⟩ : SFire) rfl rfl rfl rfl rfl rfl rfl rfl rfl rfl rfl rfl rfl fun l hl => .run 2 rfl ?_)))
  refine TieO.nil (.seq (.seq (.region (.run 3 rfl ?_))))
  refine TieO.nil (.block (.loop (fun p => ⟨[(0, .ptr 1000000 0), (4, .ptr 4 0), (5, .ptr 5 0), (8, .t (tI 0)), (10, .t (tI (Int.tmod (w64 s.Pedal) 1001))), (11, .t (tI (Int.tmod (w64 s.Speed) 12001))), (12, .t (tI (w64 (8 * (w64 s.Charge))))), (13, .t (tI (Int.tmod (w64 s.Late) 2561))), (14, .t (tS enc_SRequest requests)), (15, .own 2392), (16, .t (tI p.2.1)), (51, .t (tI (l.length : Int))), (52, .t (tI p.1))], [(4, .box (B_STables t2)), (5, .box (x10_0 s)), (2392, .rs 89 7 p.2.2 enc_SFire), (1000000, .box (B_Smagnetotop_monitored v))]⟩) (fun b e σ' => match b with | .inl t => e = .exit 0 ∧ Sub ⟨[(0, .ptr 1000000 0), (4, .ptr 4 0), (8, .t (tI 0)), (10, .t (tI (Int.tmod (w64 s.Pedal) 1001))), (11, .t (tI (Int.tmod (w64 s.Speed) 12001))), (12, .t (tI (w64 (8 * (w64 s.Charge))))), (13, .t (tI (Int.tmod (w64 s.Late) 2561))), (14, .t (tS enc_SRequest requests)), (15, .own 2392), (16, .t (tI t.1))], [(4, .box (B_STables t2)), (2392, .rs 89 7 t.2 enc_SFire), (1000000, .box (B_Smagnetotop_monitored v))]⟩ σ' | .inr t => False) (.of rfl rfl) ?_ ?_))
  · rintro ⟨i, s2⟩
    refine TieS.seq (.region (.run 1 rfl (.nil (.seq ?_))))
    refine TieS.cond rfl ?_ ?_
    · refine TieS.skip (.seq (TieX.sub (σ' := ⟨[(0, .ptr 1000000 0), (4, .ptr 4 0), (5, .ptr 5 0), (8, .t (tI 0)), (10, .t (tI (Int.tmod (w64 s.Pedal) 1001))), (11, .t (tI (Int.tmod (w64 s.Speed) 12001))), (12, .t (tI (w64 (8 * (w64 s.Charge))))), (13, .t (tI (Int.tmod (w64 s.Late) 2561))), (14, .t (tS enc_SRequest requests)), (15, .own 2392), (16, .t (tI s2.1)), (51, .t (tI (l.length : Int))), (52, .t (tI i))], [(4, .box (B_STables t2)), (5, .box (x10_0 s)), (2392, .rs 89 7 s2.2 enc_SFire), (1000000, .box (B_Smagnetotop_monitored v))]⟩) (.of rfl rfl) (TieS.bind (Q₁ := fun f e σ' => match f with | .next t => e = .normal ∧ Sub ⟨[(0, .ptr 1000000 0), (4, .ptr 4 0), (5, .ptr 5 0), (8, .t (tI 0)), (10, .t (tI (Int.tmod (w64 s.Pedal) 1001))), (11, .t (tI (Int.tmod (w64 s.Speed) 12001))), (12, .t (tI (w64 (8 * (w64 s.Charge))))), (13, .t (tI (Int.tmod (w64 s.Late) 2561))), (14, .t (tS enc_SRequest requests)), (15, .own 2392), (16, .t (tI t.1)), (51, .t (tI (l.length : Int))), (52, .t (tI i))], [(4, .box (B_STables t2)), (5, .box (x10_0 s)), (2392, .rs 89 7 t.2 enc_SFire), (1000000, .box (B_Smagnetotop_monitored v))]⟩ σ' | .brk t => e = .exit 0 ∧ Sub ⟨[(0, .ptr 1000000 0), (4, .ptr 4 0), (8, .t (tI 0)), (10, .t (tI (Int.tmod (w64 s.Pedal) 1001))), (11, .t (tI (Int.tmod (w64 s.Speed) 12001))), (12, .t (tI (w64 (8 * (w64 s.Charge))))), (13, .t (tI (Int.tmod (w64 s.Late) 2561))), (14, .t (tS enc_SRequest requests)), (15, .own 2392), (16, .t (tI t.1))], [(4, .box (B_STables t2)), (2392, .rs 89 7 t.2 enc_SFire), (1000000, .box (B_Smagnetotop_monitored v))]⟩ σ' | .ret r => False) ?_ ?_)))
      · refine TieS.block (.seq (.region (.run 2 rfl (.nil ?_))))
        refine TieS.seq (.region (.run 4 rfl (.indexO rfl rfl rfl rfl rfl rfl rfl rfl rfl rfl fun x hx => .run 1 rfl ?_)))
        refine TieO.storeY (u12_0 x (w64 (i + 1))) [tI (w64 (i + 1))] hx rfl rfl rfl rfl rfl rfl rfl rfl rfl rfl rfl rfl fun l2 hl2 => .nil (.seq (.region (.run 3 rfl ?_)))
        refine TieO.shr rfl rfl rfl rfl rfl rfl fun q => .run 2 rfl (.nil (.cond rfl ?_ ?_))
        · refine TieS.seq (.region (.run 2 rfl (.indexOH (setM_get hl2) rfl rfl rfl rfl rfl rfl rfl rfl rfl rfl (.run 1 rfl ?_))))
          refine TieO.storeY (u12_4 (u12_0 x (w64 (i + 1))) 2000) [tI 2000] (setM_get hl2) rfl rfl rfl rfl rfl rfl rfl rfl rfl rfl rfl rfl fun l3 hl3 => .nil (.region (.run 3 rfl (.nil ?_)))
          exact TieS.endb (.leaf ⟨rfl, .of rfl rfl⟩)
        · exact TieS.skip (.endb (.leaf ⟨rfl, .of rfl rfl⟩))
      rintro (t | t | r) e σ' _ hq
      · obtain ⟨rfl, hs⟩ := hq
        exact TieX.sub hs (TieS.region (.run 2 rfl (.nil (.leaf ⟨rfl, .of rfl rfl⟩))))
      · obtain ⟨rfl, hs⟩ := hq
        exact TieX.exitOut rfl ⟨(fun h => by cases h), rfl, hs⟩
      · exact hq.elim
    · exact TieS.exitOut rfl ⟨(fun h => by cases h), rfl, .of rfl rfl⟩
  rintro (s3 | r) e σ' _ hq
  · obtain ⟨rfl, hs⟩ := hq
    refine TieX.exit rfl (TieX.sub hs ?_)
    refine TieS.seq (.region (.run 4 rfl (.call _ rfl rfl rfl (tie_monitor_Permitted t2 (Int.tmod (w64 s.Pedal) 1001) (Int.tmod (w64 s.Speed) 12001) requests) (fun _ => rfl) fun r2 => .run 5 rfl ?_)))
    refine TieO.nil (.seq (.region (.run 4 rfl (.callS _ rfl rfl rfl (tie_monitor_Actual t2 (Int.tmod (w64 s.Speed) 12001) (w64 (8 * (w64 s.Charge))) s3.2) (fun _ => rfl) (fun _ => rfl) fun r3 => ?_))))
    refine TieO.run 5 rfl (.nil (.seq (.region (.run 5 rfl ?_))))
    refine TieO.call _ rfl rfl rfl (tie_torque_Torque t2 (Int.tmod (w64 s.Speed) 12001) (w64 (8 * (w64 s.Charge))) (Int.tmod (w64 s.Late) 2561) s3.1 4) (fun _ => rfl) fun r4 => .run 5 rfl (.nil (.seq (.seq ?_)))
    refine TieS.region (.run 3 rfl (.selOr (v := (r3.2 != 0)) 3 101 (fun b => ⟨[(0, .ptr 1000000 0), (6, .t (tI r2.1)), (7, .t (tI r3.1)), (8, .t (tI 0)), (20, .t (tI r4.1)), (21, .t (tI r4.2)), (104, .t (tB b))], [(1000000, .box (B_Smagnetotop_monitored v))]⟩) rfl ?_ ?_ ?_))
    · exact TieO.run 3 rfl (.nil (.leaf ⟨rfl, .of rfl rfl⟩))
    · exact TieO.run 3 rfl (.nil (.leaf ⟨rfl, .of rfl rfl⟩))
    refine TieO.run 1 rfl (.selOr (v := (r4.2 != 0)) 3 105 (fun b => ⟨[(0, .ptr 1000000 0), (6, .t (tI r2.1)), (7, .t (tI r3.1)), (8, .t (tI 0)), (20, .t (tI r4.1)), (108, .t (tB b))], [(1000000, .box (B_Smagnetotop_monitored v))]⟩) rfl ?_ ?_ ?_)
    · exact TieO.run 3 rfl (.nil (.leaf ⟨rfl, .of rfl rfl⟩))
    · exact TieO.run 3 rfl (.nil (.leaf ⟨rfl, .of rfl rfl⟩))
    refine TieO.nil (.cond rfl ?_ ?_)
    · exact TieS.seq (.region (.run 4 rfl (.nil (.ret ⟨.inl rfl, ⟨[(1000000, 1000000)], _, _, rfl, rfl, rfl, rfl, rfl⟩⟩))))
    · refine TieS.skip (.seq (.region (.run 6 rfl (.call _ rfl rfl rfl (tie_monitor_Step v.guard r2.1 r3.1) (fun _ => rfl) fun r5 => ?_))))
      refine TieO.run 6 rfl (.nil (.seq (.region (.run 8 rfl ?_))))
      refine TieO.nil (.seq (.bind (Q₁ := fun t e σ' => e = .normal ∧ Sub ⟨[(0, .ptr 1000000 0), (6, .t (tI r2.1)), (7, .t (tI r3.1)), (8, .t (tI 0)), (18, .t (tI r5.2)), (19, .t (tI t.1)), (20, .t (tI r4.1)), (22, .ptr 22 0), (23, .ptr 23 0)], [(22, .box [.t (tI r5.1.Over), .t (tI r5.1.Calm), .t (tB r5.1.Off)]), (23, .box [.t (tB t.2.Enabled), .t (tI t.2.Cause), .t (tI t.2.Since)]), (1000000, .box (B_Smagnetotop_monitored (u8_3 v (w64 (v.now + 10000)))))]⟩ σ') ?_ ?_))
      · refine TieX.pre fun r6 hr6 => TieS.draws 19 (bm 20 0) (bm 20 524287) ⟨[(0, .ptr 1000000 0), (6, .t (tI r2.1)), (7, .t (tI r3.1)), (8, .t (tI 0)), (18, .t (tI r5.2)), (20, .t (tI r4.1)), (22, .ptr 22 0), (23, .ptr 23 0), (142, .t (tI r6.2))], [(22, .box [.t (tI r5.1.Over), .t (tI r5.1.Calm), .t (tB r5.1.Off)]), (23, .box [.t (tB r6.1.Enabled), .t (tI r6.1.Cause), .t (tI r6.1.Since)]), (1000000, .box (B_Smagnetotop_monitored (u8_3 v (w64 (v.now + 10000)))))]⟩ mixed (fun _ _ _ h => by cases h.1) rfl rfl rfl rfl ?_ ?_
        · refine TieA.have_ (fuel₁ := 2) (l₁ := (bm 20 262143)) (σ₁ := ⟨[(0, .ptr 1000000 0), (6, .t (tI r2.1)), (7, .t (tI r3.1)), (8, .t (tI 0)), (18, .t (tI r5.2)), (20, .t (tI r4.1)), (22, .ptr 22 0), (23, .ptr 23 0), (141, .agg [.t (tB r6.1.Enabled), .t (tI r6.1.Cause), .t (tI r6.1.Since)]), (142, .t (tI r6.2))], [(22, .box [.t (tI r5.1.Over), .t (tI r5.1.Calm), .t (tB r5.1.Off)]), (23, .box [.t (tB false), .t (tI 0), .t (tI 0)]), (1000000, .box (B_Smagnetotop_monitored (u8_3 v (w64 (v.now + 10000)))))]⟩) ?_ fun A_4 => ?_
          · refine TieA.all [18] (by kernel_rfl) rfl (AllA.run _ rfl rfl rfl ?_ ?_)
            · exact TieA.done (.of rfl rfl)
            exact AllA.nil
          refine TieA.have_ (fuel₁ := 3) (l₁ := (bm 20 131071)) (σ₁ := ⟨[(0, .ptr 1000000 0), (6, .t (tI r2.1)), (7, .t (tI r3.1)), (8, .t (tI 0)), (18, .t (tI r5.2)), (20, .t (tI r4.1)), (22, .ptr 22 0), (141, .agg [.t (tB r6.1.Enabled), .t (tI r6.1.Cause), .t (tI r6.1.Since)]), (142, .t (tI r6.2))], [(22, .box [.t (tI r5.1.Over), .t (tI r5.1.Calm), .t (tB r5.1.Off)]), (1000000, .box (B_Smagnetotop_monitored (u8_3 v (w64 (v.now + 10000)))))]⟩) ?_ fun A_3 => ?_
          · exact TieA.all [17] (by kernel_rfl) rfl (AllA.runTo _ rfl rfl rfl (.of rfl rfl) A_4 (AllA.nil))
          refine TieA.have_ (fuel₁ := 3) (l₁ := (bm 20 196607)) (σ₁ := ⟨[(0, .ptr 1000000 0), (6, .t (tI r2.1)), (7, .t (tI r3.1)), (8, .t (tI 0)), (18, .t (tI r5.2)), (20, .t (tI r4.1)), (22, .ptr 22 0), (23, .ptr 23 0), (126, .tup [.agg [.t (tB r6.1.Enabled), .t (tI r6.1.Cause), .t (tI r6.1.Since)], .t (tI r6.2)]), (141, .agg [.t (tB r6.1.Enabled), .t (tI r6.1.Cause), .t (tI r6.1.Since)])], [(22, .box [.t (tI r5.1.Over), .t (tI r5.1.Calm), .t (tB r5.1.Off)]), (23, .box [.t (tB false), .t (tI 0), .t (tI 0)]), (1000000, .box (B_Smagnetotop_monitored (u8_3 v (w64 (v.now + 10000)))))]⟩) ?_ fun A_5 => ?_
          · refine TieA.all [16, 18] (by kernel_rfl) rfl (AllA.runTo _ rfl rfl rfl (.of rfl rfl) A_4 (AllA.run _ rfl rfl rfl ?_ ?_))
            · refine TieA.all [16] (by kernel_rfl) rfl (AllA.run _ rfl rfl rfl ?_ ?_)
              · exact TieA.done (.of rfl rfl)
              exact AllA.nil
            exact AllA.nil
          refine TieA.have_ (fuel₁ := 3) (l₁ := (bm 20 229375)) (σ₁ := ⟨[(0, .ptr 1000000 0), (6, .t (tI r2.1)), (7, .t (tI r3.1)), (8, .t (tI 0)), (18, .t (tI r5.2)), (20, .t (tI r4.1)), (22, .ptr 22 0), (23, .ptr 23 0), (126, .tup [.agg [.t (tB r6.1.Enabled), .t (tI r6.1.Cause), .t (tI r6.1.Since)], .t (tI r6.2)]), (142, .t (tI r6.2))], [(22, .box [.t (tI r5.1.Over), .t (tI r5.1.Calm), .t (tB r5.1.Off)]), (23, .box [.t (tB false), .t (tI 0), .t (tI 0)]), (1000000, .box (B_Smagnetotop_monitored (u8_3 v (w64 (v.now + 10000)))))]⟩) ?_ fun A_6 => ?_
          · exact TieA.all [15] (by kernel_rfl) rfl (AllA.runTo _ rfl rfl rfl (.of rfl rfl) A_4 (AllA.nil))
          refine TieA.have_ (fuel₁ := 6) (l₁ := (bm 20 139263)) (σ₁ := ⟨[(0, .ptr 1000000 0), (6, .t (tI r2.1)), (7, .t (tI r3.1)), (8, .t (tI 0)), (18, .t (tI r5.2)), (20, .t (tI r4.1)), (22, .ptr 22 0), (23, .ptr 23 0), (130, .agg [.t (tB v.stage.Enabled), .t (tI v.stage.Cause), .t (tI v.stage.Since)]), (131, .agg [.t (tI r5.1.Over), .t (tI r5.1.Calm), .t (tB r5.1.Off)]), (135, .agg [.t (tI v.quiz.Question), .t (tI v.quiz.Asked), .t (tI v.quiz.Errors), .t (tB v.quiz.Open), .t (tB v.quiz.Off)]), (139, .t (tI (w64 (v.now + 10000))))], [(22, .box [.t (tI r5.1.Over), .t (tI r5.1.Calm), .t (tB r5.1.Off)]), (23, .box [.t (tB false), .t (tI 0), .t (tI 0)]), (1000000, .box (B_Smagnetotop_monitored (u8_3 v (w64 (v.now + 10000)))))]⟩) ?_ fun A_7 => ?_
          · refine TieA.all [13] (by kernel_rfl) rfl (AllA.cons (σ₁ := ⟨[(0, .ptr 1000000 0), (6, .t (tI r2.1)), (7, .t (tI r3.1)), (8, .t (tI 0)), (18, .t (tI r5.2)), (20, .t (tI r4.1)), (22, .ptr 22 0), (23, .ptr 23 0), (140, .tup [.agg [.t (tB r6.1.Enabled), .t (tI r6.1.Cause), .t (tI r6.1.Since)], .t (tI r6.2)])], [(22, .box [.t (tI r5.1.Over), .t (tI r5.1.Calm), .t (tB r5.1.Off)]), (23, .box [.t (tB false), .t (tI 0), .t (tI 0)]), (1000000, .box (B_Smagnetotop_monitored (u8_3 v (w64 (v.now + 10000)))))]⟩) _ rfl rfl ?_ ?_ ?_)
            · refine TieO.withH hr6 (TieO.call _ rfl rfl rfl (tie_stage_Step v.stage true r5.1 v.quiz (w64 (v.now + 10000))) (fun _ => rfl) (TieO.ifH ?_))
              exact TieO.nil (TieS.leaf ⟨rfl, .of rfl rfl⟩)
            · exact TieA.mv 14 rfl (.inl rfl) rfl (by kernel_rfl) rfl (.all [15, 16] (by kernel_rfl) rfl (AllA.runTo _ rfl rfl rfl (.of rfl rfl) A_5 (AllA.runTo _ rfl rfl rfl (.of rfl rfl) A_6 (AllA.nil))))
            exact AllA.nil
          refine TieA.have_ (fuel₁ := 7) (l₁ := (bm 20 8191)) (σ₁ := ⟨[(0, .ptr 1000000 0), (6, .t (tI r2.1)), (7, .t (tI r3.1)), (8, .t (tI 0)), (18, .t (tI r5.2)), (20, .t (tI r4.1)), (22, .ptr 22 0), (130, .agg [.t (tB v.stage.Enabled), .t (tI v.stage.Cause), .t (tI v.stage.Since)]), (131, .agg [.t (tI r5.1.Over), .t (tI r5.1.Calm), .t (tB r5.1.Off)]), (135, .agg [.t (tI v.quiz.Question), .t (tI v.quiz.Asked), .t (tI v.quiz.Errors), .t (tB v.quiz.Open), .t (tB v.quiz.Off)]), (139, .t (tI (w64 (v.now + 10000))))], [(22, .box [.t (tI r5.1.Over), .t (tI r5.1.Calm), .t (tB r5.1.Off)]), (1000000, .box (B_Smagnetotop_monitored (u8_3 v (w64 (v.now + 10000)))))]⟩) ?_ fun A_2 => ?_
          · refine TieA.all [13, 17] (by kernel_rfl) rfl (AllA.cons (σ₁ := ⟨[(0, .ptr 1000000 0), (6, .t (tI r2.1)), (7, .t (tI r3.1)), (8, .t (tI 0)), (18, .t (tI r5.2)), (20, .t (tI r4.1)), (22, .ptr 22 0), (140, .tup [.agg [.t (tB r6.1.Enabled), .t (tI r6.1.Cause), .t (tI r6.1.Since)], .t (tI r6.2)])], [(22, .box [.t (tI r5.1.Over), .t (tI r5.1.Calm), .t (tB r5.1.Off)]), (1000000, .box (B_Smagnetotop_monitored (u8_3 v (w64 (v.now + 10000)))))]⟩) _ rfl rfl ?_ ?_ ?_)
            · refine TieO.withH hr6 (TieO.call _ rfl rfl rfl (tie_stage_Step v.stage true r5.1 v.quiz (w64 (v.now + 10000))) (fun _ => rfl) (TieO.ifH ?_))
              exact TieO.nil (TieS.leaf ⟨rfl, .of rfl rfl⟩)
            · refine TieA.mv 14 rfl (.inl rfl) rfl (by kernel_rfl) rfl (.all [15, 16, 17] (by kernel_rfl) rfl (AllA.run _ rfl rfl rfl ?_ ?_))
              · exact TieA.all [16, 17] (by kernel_rfl) rfl (AllA.runTo _ rfl rfl rfl (.of rfl rfl) A_3 (AllA.runTo _ rfl rfl rfl (.of rfl rfl) A_5 (AllA.nil)))
              refine AllA.run _ rfl rfl rfl ?_ ?_
              · exact TieA.all [15, 17] (by kernel_rfl) rfl (AllA.runTo _ rfl rfl rfl (.of rfl rfl) A_3 (AllA.runTo _ rfl rfl rfl (.of rfl rfl) A_6 (AllA.nil)))
              refine AllA.run _ rfl rfl rfl ?_ ?_
              · exact TieA.all [15, 16] (by kernel_rfl) rfl (AllA.runTo _ rfl rfl rfl (.of rfl rfl) A_5 (AllA.runTo _ rfl rfl rfl (.of rfl rfl) A_6 (AllA.nil)))
              exact AllA.nil
            exact AllA.runTo _ rfl rfl rfl (.of rfl rfl) A_7 (AllA.nil)
          refine TieA.have_ (fuel₁ := 7) (l₁ := (bm 20 135167)) (σ₁ := ⟨[(0, .ptr 1000000 0), (6, .t (tI r2.1)), (7, .t (tI r3.1)), (8, .t (tI 0)), (18, .t (tI r5.2)), (20, .t (tI r4.1)), (22, .ptr 22 0), (23, .ptr 23 0), (130, .agg [.t (tB v.stage.Enabled), .t (tI v.stage.Cause), .t (tI v.stage.Since)]), (131, .agg [.t (tI r5.1.Over), .t (tI r5.1.Calm), .t (tB r5.1.Off)]), (135, .agg [.t (tI v.quiz.Question), .t (tI v.quiz.Asked), .t (tI v.quiz.Errors), .t (tB v.quiz.Open), .t (tB v.quiz.Off)]), (138, .ptr 1000000 11)], [(22, .box [.t (tI r5.1.Over), .t (tI r5.1.Calm), .t (tB r5.1.Off)]), (23, .box [.t (tB false), .t (tI 0), .t (tI 0)]), (1000000, .box (B_Smagnetotop_monitored (u8_3 v (w64 (v.now + 10000)))))]⟩) ?_ fun A_8 => ?_
          · exact TieA.all [12] (by kernel_rfl) rfl (AllA.runTo _ rfl rfl rfl (.of rfl rfl) A_7 (AllA.nil))
          refine TieA.have_ (fuel₁ := 8) (l₁ := (bm 20 4095)) (σ₁ := ⟨[(0, .ptr 1000000 0), (6, .t (tI r2.1)), (7, .t (tI r3.1)), (8, .t (tI 0)), (18, .t (tI r5.2)), (20, .t (tI r4.1)), (22, .ptr 22 0), (130, .agg [.t (tB v.stage.Enabled), .t (tI v.stage.Cause), .t (tI v.stage.Since)]), (131, .agg [.t (tI r5.1.Over), .t (tI r5.1.Calm), .t (tB r5.1.Off)]), (135, .agg [.t (tI v.quiz.Question), .t (tI v.quiz.Asked), .t (tI v.quiz.Errors), .t (tB v.quiz.Open), .t (tB v.quiz.Off)]), (138, .ptr 1000000 11)], [(22, .box [.t (tI r5.1.Over), .t (tI r5.1.Calm), .t (tB r5.1.Off)]), (1000000, .box (B_Smagnetotop_monitored (u8_3 v (w64 (v.now + 10000)))))]⟩) ?_ fun A_1 => ?_
          · exact TieA.all [12, 17] (by kernel_rfl) rfl (AllA.runTo _ rfl rfl rfl (.of rfl rfl) A_2 (AllA.runTo _ rfl rfl rfl (.of rfl rfl) A_8 (AllA.nil)))
          refine TieA.have_ (fuel₁ := 7) (l₁ := (bm 20 139007)) (σ₁ := ⟨[(0, .ptr 1000000 0), (6, .t (tI r2.1)), (7, .t (tI r3.1)), (8, .t (tI 0)), (18, .t (tI r5.2)), (20, .t (tI r4.1)), (22, .ptr 22 0), (23, .ptr 23 0), (130, .agg [.t (tB v.stage.Enabled), .t (tI v.stage.Cause), .t (tI v.stage.Since)]), (131, .agg [.t (tI r5.1.Over), .t (tI r5.1.Calm), .t (tB r5.1.Off)]), (134, .ptr 1000000 3), (139, .t (tI (w64 (v.now + 10000))))], [(22, .box [.t (tI r5.1.Over), .t (tI r5.1.Calm), .t (tB r5.1.Off)]), (23, .box [.t (tB false), .t (tI 0), .t (tI 0)]), (1000000, .box (B_Smagnetotop_monitored (u8_3 v (w64 (v.now + 10000)))))]⟩) ?_ fun A_10 => ?_
          · exact TieA.all [8] (by kernel_rfl) rfl (AllA.runTo _ rfl rfl rfl (.of rfl rfl) A_7 (AllA.nil))
          refine TieA.have_ (fuel₁ := 8) (l₁ := (bm 20 7935)) (σ₁ := ⟨[(0, .ptr 1000000 0), (6, .t (tI r2.1)), (7, .t (tI r3.1)), (8, .t (tI 0)), (18, .t (tI r5.2)), (20, .t (tI r4.1)), (22, .ptr 22 0), (130, .agg [.t (tB v.stage.Enabled), .t (tI v.stage.Cause), .t (tI v.stage.Since)]), (131, .agg [.t (tI r5.1.Over), .t (tI r5.1.Calm), .t (tB r5.1.Off)]), (134, .ptr 1000000 3), (139, .t (tI (w64 (v.now + 10000))))], [(22, .box [.t (tI r5.1.Over), .t (tI r5.1.Calm), .t (tB r5.1.Off)]), (1000000, .box (B_Smagnetotop_monitored (u8_3 v (w64 (v.now + 10000)))))]⟩) ?_ fun A_9 => ?_
          · exact TieA.all [8, 17] (by kernel_rfl) rfl (AllA.runTo _ rfl rfl rfl (.of rfl rfl) A_2 (AllA.runTo _ rfl rfl rfl (.of rfl rfl) A_10 (AllA.nil)))
          refine TieA.have_ (fuel₁ := 8) (l₁ := (bm 20 134911)) (σ₁ := ⟨[(0, .ptr 1000000 0), (6, .t (tI r2.1)), (7, .t (tI r3.1)), (8, .t (tI 0)), (18, .t (tI r5.2)), (20, .t (tI r4.1)), (22, .ptr 22 0), (23, .ptr 23 0), (130, .agg [.t (tB v.stage.Enabled), .t (tI v.stage.Cause), .t (tI v.stage.Since)]), (131, .agg [.t (tI r5.1.Over), .t (tI r5.1.Calm), .t (tB r5.1.Off)]), (134, .ptr 1000000 3), (138, .ptr 1000000 11)], [(22, .box [.t (tI r5.1.Over), .t (tI r5.1.Calm), .t (tB r5.1.Off)]), (23, .box [.t (tB false), .t (tI 0), .t (tI 0)]), (1000000, .box (B_Smagnetotop_monitored (u8_3 v (w64 (v.now + 10000)))))]⟩) ?_ fun A_11 => ?_
          · exact TieA.all [8, 12] (by kernel_rfl) rfl (AllA.runTo _ rfl rfl rfl (.of rfl rfl) A_8 (AllA.runTo _ rfl rfl rfl (.of rfl rfl) A_10 (AllA.nil)))
          refine TieA.have_ (fuel₁ := 9) (l₁ := (bm 20 3839)) (σ₁ := ⟨[(0, .ptr 1000000 0), (6, .t (tI r2.1)), (7, .t (tI r3.1)), (8, .t (tI 0)), (18, .t (tI r5.2)), (20, .t (tI r4.1)), (22, .ptr 22 0), (130, .agg [.t (tB v.stage.Enabled), .t (tI v.stage.Cause), .t (tI v.stage.Since)]), (131, .agg [.t (tI r5.1.Over), .t (tI r5.1.Calm), .t (tB r5.1.Off)]), (134, .ptr 1000000 3), (138, .ptr 1000000 11)], [(22, .box [.t (tI r5.1.Over), .t (tI r5.1.Calm), .t (tB r5.1.Off)]), (1000000, .box (B_Smagnetotop_monitored (u8_3 v (w64 (v.now + 10000)))))]⟩) ?_ fun A_0 => ?_
          · exact TieA.all [8, 12, 17] (by kernel_rfl) rfl (AllA.runTo _ rfl rfl rfl (.of rfl rfl) A_1 (AllA.runTo _ rfl rfl rfl (.of rfl rfl) A_9 (AllA.runTo _ rfl rfl rfl (.of rfl rfl) A_11 (AllA.nil))))
          refine TieA.have_ (fuel₁ := 7) (l₁ := (bm 20 139247)) (σ₁ := ⟨[(0, .ptr 1000000 0), (6, .t (tI r2.1)), (7, .t (tI r3.1)), (8, .t (tI 0)), (18, .t (tI r5.2)), (20, .t (tI r4.1)), (22, .ptr 22 0), (23, .ptr 23 0), (130, .agg [.t (tB v.stage.Enabled), .t (tI v.stage.Cause), .t (tI v.stage.Since)]), (135, .agg [.t (tI v.quiz.Question), .t (tI v.quiz.Asked), .t (tI v.quiz.Errors), .t (tB v.quiz.Open), .t (tB v.quiz.Off)]), (139, .t (tI (w64 (v.now + 10000))))], [(22, .box [.t (tI r5.1.Over), .t (tI r5.1.Calm), .t (tB r5.1.Off)]), (23, .box [.t (tB false), .t (tI 0), .t (tI 0)]), (1000000, .box (B_Smagnetotop_monitored (u8_3 v (w64 (v.now + 10000)))))]⟩) ?_ fun A_14 => ?_
          · exact TieA.all [4] (by kernel_rfl) rfl (AllA.runTo _ rfl rfl rfl (.of rfl rfl) A_7 (AllA.nil))
          refine TieA.have_ (fuel₁ := 8) (l₁ := (bm 20 8175)) (σ₁ := ⟨[(0, .ptr 1000000 0), (6, .t (tI r2.1)), (7, .t (tI r3.1)), (8, .t (tI 0)), (18, .t (tI r5.2)), (20, .t (tI r4.1)), (22, .ptr 22 0), (130, .agg [.t (tB v.stage.Enabled), .t (tI v.stage.Cause), .t (tI v.stage.Since)]), (135, .agg [.t (tI v.quiz.Question), .t (tI v.quiz.Asked), .t (tI v.quiz.Errors), .t (tB v.quiz.Open), .t (tB v.quiz.Off)]), (139, .t (tI (w64 (v.now + 10000))))], [(22, .box [.t (tI r5.1.Over), .t (tI r5.1.Calm), .t (tB r5.1.Off)]), (1000000, .box (B_Smagnetotop_monitored (u8_3 v (w64 (v.now + 10000)))))]⟩) ?_ fun A_13 => ?_
          · exact TieA.all [4, 17] (by kernel_rfl) rfl (AllA.runTo _ rfl rfl rfl (.of rfl rfl) A_2 (AllA.runTo _ rfl rfl rfl (.of rfl rfl) A_14 (AllA.nil)))
          refine TieA.have_ (fuel₁ := 8) (l₁ := (bm 20 135151)) (σ₁ := ⟨[(0, .ptr 1000000 0), (6, .t (tI r2.1)), (7, .t (tI r3.1)), (8, .t (tI 0)), (18, .t (tI r5.2)), (20, .t (tI r4.1)), (22, .ptr 22 0), (23, .ptr 23 0), (130, .agg [.t (tB v.stage.Enabled), .t (tI v.stage.Cause), .t (tI v.stage.Since)]), (135, .agg [.t (tI v.quiz.Question), .t (tI v.quiz.Asked), .t (tI v.quiz.Errors), .t (tB v.quiz.Open), .t (tB v.quiz.Off)]), (138, .ptr 1000000 11)], [(22, .box [.t (tI r5.1.Over), .t (tI r5.1.Calm), .t (tB r5.1.Off)]), (23, .box [.t (tB false), .t (tI 0), .t (tI 0)]), (1000000, .box (B_Smagnetotop_monitored (u8_3 v (w64 (v.now + 10000)))))]⟩) ?_ fun A_15 => ?_
          · exact TieA.all [4, 12] (by kernel_rfl) rfl (AllA.runTo _ rfl rfl rfl (.of rfl rfl) A_8 (AllA.runTo _ rfl rfl rfl (.of rfl rfl) A_14 (AllA.nil)))
          refine TieA.have_ (fuel₁ := 9) (l₁ := (bm 20 4079)) (σ₁ := ⟨[(0, .ptr 1000000 0), (6, .t (tI r2.1)), (7, .t (tI r3.1)), (8, .t (tI 0)), (18, .t (tI r5.2)), (20, .t (tI r4.1)), (22, .ptr 22 0), (130, .agg [.t (tB v.stage.Enabled), .t (tI v.stage.Cause), .t (tI v.stage.Since)]), (135, .agg [.t (tI v.quiz.Question), .t (tI v.quiz.Asked), .t (tI v.quiz.Errors), .t (tB v.quiz.Open), .t (tB v.quiz.Off)]), (138, .ptr 1000000 11)], [(22, .box [.t (tI r5.1.Over), .t (tI r5.1.Calm), .t (tB r5.1.Off)]), (1000000, .box (B_Smagnetotop_monitored (u8_3 v (w64 (v.now + 10000)))))]⟩) ?_ fun A_12 => ?_
          · exact TieA.all [4, 12, 17] (by kernel_rfl) rfl (AllA.runTo _ rfl rfl rfl (.of rfl rfl) A_1 (AllA.runTo _ rfl rfl rfl (.of rfl rfl) A_13 (AllA.runTo _ rfl rfl rfl (.of rfl rfl) A_15 (AllA.nil))))
          refine TieA.have_ (fuel₁ := 8) (l₁ := (bm 20 138991)) (σ₁ := ⟨[(0, .ptr 1000000 0), (6, .t (tI r2.1)), (7, .t (tI r3.1)), (8, .t (tI 0)), (18, .t (tI r5.2)), (20, .t (tI r4.1)), (22, .ptr 22 0), (23, .ptr 23 0), (130, .agg [.t (tB v.stage.Enabled), .t (tI v.stage.Cause), .t (tI v.stage.Since)]), (134, .ptr 1000000 3), (139, .t (tI (w64 (v.now + 10000))))], [(22, .box [.t (tI r5.1.Over), .t (tI r5.1.Calm), .t (tB r5.1.Off)]), (23, .box [.t (tB false), .t (tI 0), .t (tI 0)]), (1000000, .box (B_Smagnetotop_monitored (u8_3 v (w64 (v.now + 10000)))))]⟩) ?_ fun A_17 => ?_
          · exact TieA.all [4, 8] (by kernel_rfl) rfl (AllA.runTo _ rfl rfl rfl (.of rfl rfl) A_10 (AllA.runTo _ rfl rfl rfl (.of rfl rfl) A_14 (AllA.nil)))
          refine TieA.have_ (fuel₁ := 9) (l₁ := (bm 20 7919)) (σ₁ := ⟨[(0, .ptr 1000000 0), (6, .t (tI r2.1)), (7, .t (tI r3.1)), (8, .t (tI 0)), (18, .t (tI r5.2)), (20, .t (tI r4.1)), (22, .ptr 22 0), (130, .agg [.t (tB v.stage.Enabled), .t (tI v.stage.Cause), .t (tI v.stage.Since)]), (134, .ptr 1000000 3), (139, .t (tI (w64 (v.now + 10000))))], [(22, .box [.t (tI r5.1.Over), .t (tI r5.1.Calm), .t (tB r5.1.Off)]), (1000000, .box (B_Smagnetotop_monitored (u8_3 v (w64 (v.now + 10000)))))]⟩) ?_ fun A_16 => ?_
          · exact TieA.all [4, 8, 17] (by kernel_rfl) rfl (AllA.runTo _ rfl rfl rfl (.of rfl rfl) A_9 (AllA.runTo _ rfl rfl rfl (.of rfl rfl) A_13 (AllA.runTo _ rfl rfl rfl (.of rfl rfl) A_17 (AllA.nil))))
          refine TieA.have_ (fuel₁ := 9) (l₁ := (bm 20 134895)) (σ₁ := ⟨[(0, .ptr 1000000 0), (6, .t (tI r2.1)), (7, .t (tI r3.1)), (8, .t (tI 0)), (18, .t (tI r5.2)), (20, .t (tI r4.1)), (22, .ptr 22 0), (23, .ptr 23 0), (130, .agg [.t (tB v.stage.Enabled), .t (tI v.stage.Cause), .t (tI v.stage.Since)]), (134, .ptr 1000000 3), (138, .ptr 1000000 11)], [(22, .box [.t (tI r5.1.Over), .t (tI r5.1.Calm), .t (tB r5.1.Off)]), (23, .box [.t (tB false), .t (tI 0), .t (tI 0)]), (1000000, .box (B_Smagnetotop_monitored (u8_3 v (w64 (v.now + 10000)))))]⟩) ?_ fun A_18 => ?_
          · exact TieA.all [4, 8, 12] (by kernel_rfl) rfl (AllA.runTo _ rfl rfl rfl (.of rfl rfl) A_11 (AllA.runTo _ rfl rfl rfl (.of rfl rfl) A_15 (AllA.runTo _ rfl rfl rfl (.of rfl rfl) A_17 (AllA.nil))))
          refine TieA.have_ (fuel₁ := 7) (l₁ := (bm 20 139255)) (σ₁ := ⟨[(0, .ptr 1000000 0), (6, .t (tI r2.1)), (7, .t (tI r3.1)), (8, .t (tI 0)), (18, .t (tI r5.2)), (20, .t (tI r4.1)), (22, .ptr 22 0), (23, .ptr 23 0), (129, .ptr 1000000 8), (131, .agg [.t (tI r5.1.Over), .t (tI r5.1.Calm), .t (tB r5.1.Off)]), (135, .agg [.t (tI v.quiz.Question), .t (tI v.quiz.Asked), .t (tI v.quiz.Errors), .t (tB v.quiz.Open), .t (tB v.quiz.Off)]), (139, .t (tI (w64 (v.now + 10000))))], [(22, .box [.t (tI r5.1.Over), .t (tI r5.1.Calm), .t (tB r5.1.Off)]), (23, .box [.t (tB false), .t (tI 0), .t (tI 0)]), (1000000, .box (B_Smagnetotop_monitored (u8_3 v (w64 (v.now + 10000)))))]⟩) ?_ fun A_21 => ?_
          · exact TieA.all [3] (by kernel_rfl) rfl (AllA.runTo _ rfl rfl rfl (.of rfl rfl) A_7 (AllA.nil))
          refine TieA.have_ (fuel₁ := 8) (l₁ := (bm 20 8183)) (σ₁ := ⟨[(0, .ptr 1000000 0), (6, .t (tI r2.1)), (7, .t (tI r3.1)), (8, .t (tI 0)), (18, .t (tI r5.2)), (20, .t (tI r4.1)), (22, .ptr 22 0), (129, .ptr 1000000 8), (131, .agg [.t (tI r5.1.Over), .t (tI r5.1.Calm), .t (tB r5.1.Off)]), (135, .agg [.t (tI v.quiz.Question), .t (tI v.quiz.Asked), .t (tI v.quiz.Errors), .t (tB v.quiz.Open), .t (tB v.quiz.Off)]), (139, .t (tI (w64 (v.now + 10000))))], [(22, .box [.t (tI r5.1.Over), .t (tI r5.1.Calm), .t (tB r5.1.Off)]), (1000000, .box (B_Smagnetotop_monitored (u8_3 v (w64 (v.now + 10000)))))]⟩) ?_ fun A_20 => ?_
          · exact TieA.all [3, 17] (by kernel_rfl) rfl (AllA.runTo _ rfl rfl rfl (.of rfl rfl) A_2 (AllA.runTo _ rfl rfl rfl (.of rfl rfl) A_21 (AllA.nil)))
          refine TieA.have_ (fuel₁ := 8) (l₁ := (bm 20 135159)) (σ₁ := ⟨[(0, .ptr 1000000 0), (6, .t (tI r2.1)), (7, .t (tI r3.1)), (8, .t (tI 0)), (18, .t (tI r5.2)), (20, .t (tI r4.1)), (22, .ptr 22 0), (23, .ptr 23 0), (129, .ptr 1000000 8), (131, .agg [.t (tI r5.1.Over), .t (tI r5.1.Calm), .t (tB r5.1.Off)]), (135, .agg [.t (tI v.quiz.Question), .t (tI v.quiz.Asked), .t (tI v.quiz.Errors), .t (tB v.quiz.Open), .t (tB v.quiz.Off)]), (138, .ptr 1000000 11)], [(22, .box [.t (tI r5.1.Over), .t (tI r5.1.Calm), .t (tB r5.1.Off)]), (23, .box [.t (tB false), .t (tI 0), .t (tI 0)]), (1000000, .box (B_Smagnetotop_monitored (u8_3 v (w64 (v.now + 10000)))))]⟩) ?_ fun A_22 => ?_
          · exact TieA.all [3, 12] (by kernel_rfl) rfl (AllA.runTo _ rfl rfl rfl (.of rfl rfl) A_8 (AllA.runTo _ rfl rfl rfl (.of rfl rfl) A_21 (AllA.nil)))
          refine TieA.have_ (fuel₁ := 9) (l₁ := (bm 20 4087)) (σ₁ := ⟨[(0, .ptr 1000000 0), (6, .t (tI r2.1)), (7, .t (tI r3.1)), (8, .t (tI 0)), (18, .t (tI r5.2)), (20, .t (tI r4.1)), (22, .ptr 22 0), (129, .ptr 1000000 8), (131, .agg [.t (tI r5.1.Over), .t (tI r5.1.Calm), .t (tB r5.1.Off)]), (135, .agg [.t (tI v.quiz.Question), .t (tI v.quiz.Asked), .t (tI v.quiz.Errors), .t (tB v.quiz.Open), .t (tB v.quiz.Off)]), (138, .ptr 1000000 11)], [(22, .box [.t (tI r5.1.Over), .t (tI r5.1.Calm), .t (tB r5.1.Off)]), (1000000, .box (B_Smagnetotop_monitored (u8_3 v (w64 (v.now + 10000)))))]⟩) ?_ fun A_19 => ?_
          · exact TieA.all [3, 12, 17] (by kernel_rfl) rfl (AllA.runTo _ rfl rfl rfl (.of rfl rfl) A_1 (AllA.runTo _ rfl rfl rfl (.of rfl rfl) A_20 (AllA.runTo _ rfl rfl rfl (.of rfl rfl) A_22 (AllA.nil))))
          refine TieA.have_ (fuel₁ := 8) (l₁ := (bm 20 138999)) (σ₁ := ⟨[(0, .ptr 1000000 0), (6, .t (tI r2.1)), (7, .t (tI r3.1)), (8, .t (tI 0)), (18, .t (tI r5.2)), (20, .t (tI r4.1)), (22, .ptr 22 0), (23, .ptr 23 0), (129, .ptr 1000000 8), (131, .agg [.t (tI r5.1.Over), .t (tI r5.1.Calm), .t (tB r5.1.Off)]), (134, .ptr 1000000 3), (139, .t (tI (w64 (v.now + 10000))))], [(22, .box [.t (tI r5.1.Over), .t (tI r5.1.Calm), .t (tB r5.1.Off)]), (23, .box [.t (tB false), .t (tI 0), .t (tI 0)]), (1000000, .box (B_Smagnetotop_monitored (u8_3 v (w64 (v.now + 10000)))))]⟩) ?_ fun A_24 => ?_
          · exact TieA.all [3, 8] (by kernel_rfl) rfl (AllA.runTo _ rfl rfl rfl (.of rfl rfl) A_10 (AllA.runTo _ rfl rfl rfl (.of rfl rfl) A_21 (AllA.nil)))
          refine TieA.have_ (fuel₁ := 9) (l₁ := (bm 20 7927)) (σ₁ := ⟨[(0, .ptr 1000000 0), (6, .t (tI r2.1)), (7, .t (tI r3.1)), (8, .t (tI 0)), (18, .t (tI r5.2)), (20, .t (tI r4.1)), (22, .ptr 22 0), (129, .ptr 1000000 8), (131, .agg [.t (tI r5.1.Over), .t (tI r5.1.Calm), .t (tB r5.1.Off)]), (134, .ptr 1000000 3), (139, .t (tI (w64 (v.now + 10000))))], [(22, .box [.t (tI r5.1.Over), .t (tI r5.1.Calm), .t (tB r5.1.Off)]), (1000000, .box (B_Smagnetotop_monitored (u8_3 v (w64 (v.now + 10000)))))]⟩) ?_ fun A_23 => ?_
          · exact TieA.all [3, 8, 17] (by kernel_rfl) rfl (AllA.runTo _ rfl rfl rfl (.of rfl rfl) A_9 (AllA.runTo _ rfl rfl rfl (.of rfl rfl) A_20 (AllA.runTo _ rfl rfl rfl (.of rfl rfl) A_24 (AllA.nil))))
          refine TieA.have_ (fuel₁ := 9) (l₁ := (bm 20 134903)) (σ₁ := ⟨[(0, .ptr 1000000 0), (6, .t (tI r2.1)), (7, .t (tI r3.1)), (8, .t (tI 0)), (18, .t (tI r5.2)), (20, .t (tI r4.1)), (22, .ptr 22 0), (23, .ptr 23 0), (129, .ptr 1000000 8), (131, .agg [.t (tI r5.1.Over), .t (tI r5.1.Calm), .t (tB r5.1.Off)]), (134, .ptr 1000000 3), (138, .ptr 1000000 11)], [(22, .box [.t (tI r5.1.Over), .t (tI r5.1.Calm), .t (tB r5.1.Off)]), (23, .box [.t (tB false), .t (tI 0), .t (tI 0)]), (1000000, .box (B_Smagnetotop_monitored (u8_3 v (w64 (v.now + 10000)))))]⟩) ?_ fun A_25 => ?_
          · exact TieA.all [3, 8, 12] (by kernel_rfl) rfl (AllA.runTo _ rfl rfl rfl (.of rfl rfl) A_11 (AllA.runTo _ rfl rfl rfl (.of rfl rfl) A_22 (AllA.runTo _ rfl rfl rfl (.of rfl rfl) A_24 (AllA.nil))))
          refine TieA.have_ (fuel₁ := 8) (l₁ := (bm 20 139239)) (σ₁ := ⟨[(0, .ptr 1000000 0), (6, .t (tI r2.1)), (7, .t (tI r3.1)), (8, .t (tI 0)), (18, .t (tI r5.2)), (20, .t (tI r4.1)), (22, .ptr 22 0), (23, .ptr 23 0), (129, .ptr 1000000 8), (135, .agg [.t (tI v.quiz.Question), .t (tI v.quiz.Asked), .t (tI v.quiz.Errors), .t (tB v.quiz.Open), .t (tB v.quiz.Off)]), (139, .t (tI (w64 (v.now + 10000))))], [(22, .box [.t (tI r5.1.Over), .t (tI r5.1.Calm), .t (tB r5.1.Off)]), (23, .box [.t (tB false), .t (tI 0), .t (tI 0)]), (1000000, .box (B_Smagnetotop_monitored (u8_3 v (w64 (v.now + 10000)))))]⟩) ?_ fun A_27 => ?_
          · exact TieA.all [3, 4] (by kernel_rfl) rfl (AllA.runTo _ rfl rfl rfl (.of rfl rfl) A_14 (AllA.runTo _ rfl rfl rfl (.of rfl rfl) A_21 (AllA.nil)))
          refine TieA.have_ (fuel₁ := 9) (l₁ := (bm 20 8167)) (σ₁ := ⟨[(0, .ptr 1000000 0), (6, .t (tI r2.1)), (7, .t (tI r3.1)), (8, .t (tI 0)), (18, .t (tI r5.2)), (20, .t (tI r4.1)), (22, .ptr 22 0), (129, .ptr 1000000 8), (135, .agg [.t (tI v.quiz.Question), .t (tI v.quiz.Asked), .t (tI v.quiz.Errors), .t (tB v.quiz.Open), .t (tB v.quiz.Off)]), (139, .t (tI (w64 (v.now + 10000))))], [(22, .box [.t (tI r5.1.Over), .t (tI r5.1.Calm), .t (tB r5.1.Off)]), (1000000, .box (B_Smagnetotop_monitored (u8_3 v (w64 (v.now + 10000)))))]⟩) ?_ fun A_26 => ?_
          · exact TieA.all [3, 4, 17] (by kernel_rfl) rfl (AllA.runTo _ rfl rfl rfl (.of rfl rfl) A_13 (AllA.runTo _ rfl rfl rfl (.of rfl rfl) A_20 (AllA.runTo _ rfl rfl rfl (.of rfl rfl) A_27 (AllA.nil))))
          refine TieA.have_ (fuel₁ := 9) (l₁ := (bm 20 135143)) (σ₁ := ⟨[(0, .ptr 1000000 0), (6, .t (tI r2.1)), (7, .t (tI r3.1)), (8, .t (tI 0)), (18, .t (tI r5.2)), (20, .t (tI r4.1)), (22, .ptr 22 0), (23, .ptr 23 0), (129, .ptr 1000000 8), (135, .agg [.t (tI v.quiz.Question), .t (tI v.quiz.Asked), .t (tI v.quiz.Errors), .t (tB v.quiz.Open), .t (tB v.quiz.Off)]), (138, .ptr 1000000 11)], [(22, .box [.t (tI r5.1.Over), .t (tI r5.1.Calm), .t (tB r5.1.Off)]), (23, .box [.t (tB false), .t (tI 0), .t (tI 0)]), (1000000, .box (B_Smagnetotop_monitored (u8_3 v (w64 (v.now + 10000)))))]⟩) ?_ fun A_28 => ?_
          · exact TieA.all [3, 4, 12] (by kernel_rfl) rfl (AllA.runTo _ rfl rfl rfl (.of rfl rfl) A_15 (AllA.runTo _ rfl rfl rfl (.of rfl rfl) A_22 (AllA.runTo _ rfl rfl rfl (.of rfl rfl) A_27 (AllA.nil))))
          refine TieA.have_ (fuel₁ := 9) (l₁ := (bm 20 138983)) (σ₁ := ⟨[(0, .ptr 1000000 0), (6, .t (tI r2.1)), (7, .t (tI r3.1)), (8, .t (tI 0)), (18, .t (tI r5.2)), (20, .t (tI r4.1)), (22, .ptr 22 0), (23, .ptr 23 0), (129, .ptr 1000000 8), (134, .ptr 1000000 3), (139, .t (tI (w64 (v.now + 10000))))], [(22, .box [.t (tI r5.1.Over), .t (tI r5.1.Calm), .t (tB r5.1.Off)]), (23, .box [.t (tB false), .t (tI 0), .t (tI 0)]), (1000000, .box (B_Smagnetotop_monitored (u8_3 v (w64 (v.now + 10000)))))]⟩) ?_ fun A_29 => ?_
          · exact TieA.all [3, 4, 8] (by kernel_rfl) rfl (AllA.runTo _ rfl rfl rfl (.of rfl rfl) A_17 (AllA.runTo _ rfl rfl rfl (.of rfl rfl) A_24 (AllA.runTo _ rfl rfl rfl (.of rfl rfl) A_27 (AllA.nil))))
          refine TieA.mv 0 rfl (.inl rfl) rfl (by kernel_rfl) rfl (.nP 1 rfl rfl rfl (by kernel_rfl) rfl (.fP 2 rfl rfl rfl (by kernel_rfl) rfl rfl rfl (.mv 5 rfl (.inl rfl) rfl (by kernel_rfl) rfl (.nP 6 rfl rfl rfl (by kernel_rfl) rfl ?_))))
          refine TieA.fP 7 rfl rfl rfl (by kernel_rfl) rfl rfl rfl (.mv 9 rfl (.inl rfl) rfl (by kernel_rfl) rfl (.nP 10 rfl rfl rfl (by kernel_rfl) rfl (.fP 11 rfl rfl rfl (by kernel_rfl) rfl rfl rfl (.all [3, 4, 8, 12, 17] (by kernel_rfl) rfl ?_))))
          refine AllA.run _ rfl rfl rfl ?_ ?_
          · refine TieA.all [4, 8, 12, 17] (by kernel_rfl) rfl (AllA.runTo _ rfl rfl rfl (.of rfl rfl) A_0 (AllA.runTo _ rfl rfl rfl (.of rfl rfl) A_12 (AllA.runTo _ rfl rfl rfl (.of rfl rfl) A_16 (AllA.runTo _ rfl rfl rfl (.of rfl rfl) A_18 ?_))))
            exact AllA.nil
          refine AllA.run _ rfl rfl rfl ?_ ?_
          · refine TieA.all [3, 8, 12, 17] (by kernel_rfl) rfl (AllA.runTo _ rfl rfl rfl (.of rfl rfl) A_0 (AllA.runTo _ rfl rfl rfl (.of rfl rfl) A_19 (AllA.runTo _ rfl rfl rfl (.of rfl rfl) A_23 (AllA.runTo _ rfl rfl rfl (.of rfl rfl) A_25 ?_))))
            exact AllA.nil
          refine AllA.run _ rfl rfl rfl ?_ ?_
          · refine TieA.all [3, 4, 12, 17] (by kernel_rfl) rfl (AllA.runTo _ rfl rfl rfl (.of rfl rfl) A_12 (AllA.runTo _ rfl rfl rfl (.of rfl rfl) A_19 (AllA.runTo _ rfl rfl rfl (.of rfl rfl) A_26 (AllA.runTo _ rfl rfl rfl (.of rfl rfl) A_28 ?_))))
            exact AllA.nil
          refine AllA.run _ rfl rfl rfl ?_ ?_
          · refine TieA.all [3, 4, 8, 17] (by kernel_rfl) rfl (AllA.runTo _ rfl rfl rfl (.of rfl rfl) A_16 (AllA.runTo _ rfl rfl rfl (.of rfl rfl) A_23 (AllA.runTo _ rfl rfl rfl (.of rfl rfl) A_26 (AllA.runTo _ rfl rfl rfl (.of rfl rfl) A_29 ?_))))
            exact AllA.nil
          refine AllA.run _ rfl rfl rfl ?_ ?_
          · refine TieA.all [3, 4, 8, 12] (by kernel_rfl) rfl (AllA.runTo _ rfl rfl rfl (.of rfl rfl) A_18 (AllA.runTo _ rfl rfl rfl (.of rfl rfl) A_25 (AllA.runTo _ rfl rfl rfl (.of rfl rfl) A_28 (AllA.runTo _ rfl rfl rfl (.of rfl rfl) A_29 ?_))))
            exact AllA.nil
          exact AllA.nil
        exact TieO.run 1 rfl (.nil (.leaf ⟨rfl, .of rfl rfl⟩))
      rintro s4 e σ' _ ⟨rfl, hs⟩
      refine TieX.sub hs (TieS.seq (.seq (.region (.run 3 rfl ?_))))
      refine TieO.selOr (v := (s4.1 != 0)) 3 145 (fun b => ⟨[(0, .ptr 1000000 0), (6, .t (tI r2.1)), (7, .t (tI r3.1)), (8, .t (tI 0)), (20, .t (tI r4.1)), (22, .ptr 22 0), (23, .ptr 23 0), (148, .t (tB b))], [(22, .box [.t (tI r5.1.Over), .t (tI r5.1.Calm), .t (tB r5.1.Off)]), (23, .box (x10_1 s4)), (1000000, .box (B_Smagnetotop_monitored (u8_3 v (w64 (v.now + 10000)))))]⟩) rfl ?_ ?_ ?_
      · exact TieO.run 3 rfl (.nil (.leaf ⟨rfl, .of rfl rfl⟩))
      · exact TieO.run 3 rfl (.nil (.leaf ⟨rfl, .of rfl rfl⟩))
      refine TieO.run 1 rfl (.selOr (v := decide (r4.1 > r3.1)) 4 149 (fun b => ⟨[(0, .ptr 1000000 0), (6, .t (tI r2.1)), (7, .t (tI r3.1)), (8, .t (tI 0)), (20, .t (tI r4.1)), (22, .ptr 22 0), (23, .ptr 23 0), (153, .t (tB b))], [(22, .box [.t (tI r5.1.Over), .t (tI r5.1.Calm), .t (tB r5.1.Off)]), (23, .box (x10_1 s4)), (1000000, .box (B_Smagnetotop_monitored (u8_3 v (w64 (v.now + 10000)))))]⟩) rfl ?_ ?_ ?_)
      · exact TieO.run 4 rfl (.nil (.leaf ⟨rfl, .of rfl rfl⟩))
      · exact TieO.run 4 rfl (.nil (.leaf ⟨rfl, .of rfl rfl⟩))
      refine TieO.nil (.cond rfl ?_ ?_)
      · exact TieS.seq (.region (.run 4 rfl (.nil (.ret ⟨.inl rfl, ⟨[(1000000, 1000000)], _, _, rfl, rfl, rfl, rfl, rfl⟩⟩))))
      · refine TieS.skip (.seq (.bind (Q₁ := fun t e σ' => e = .normal ∧ Sub ⟨[(6, .t (tI r2.1)), (7, .t (tI r3.1)), (8, .t (tI 0)), (20, .t (tI r4.1)), (23, .ptr 23 0)], [(23, .box (x10_1 s4)), (1000000, .box (B_Smagnetotop_monitored (u8_3 (u8_2 (u8_0 v t.1) t.2) (w64 (v.now + 10000)))))]⟩ σ') ?_ ?_))
        · refine TieS.draws 7 (bm 10 0) (bm 10 127) ⟨[(6, .t (tI r2.1)), (7, .t (tI r3.1)), (8, .t (tI 0)), (20, .t (tI r4.1)), (23, .ptr 23 0), (155, .ptr 1000000 0), (157, .agg [.t (tB s4.2.Enabled), .t (tI s4.2.Cause), .t (tI s4.2.Since)])], [(22, .box [.t (tI r5.1.Over), .t (tI r5.1.Calm), .t (tB r5.1.Off)]), (23, .box (x10_1 s4)), (1000000, .box (B_Smagnetotop_monitored (u8_3 (u8_0 v r5.1) (w64 (v.now + 10000)))))]⟩ mixed (fun _ _ _ h => by cases h.1) rfl rfl rfl rfl ?_ ?_
          · refine TieA.mv 0 rfl (.inl rfl) rfl (by kernel_rfl) rfl (.mv 1 rfl (.inl rfl) rfl (by kernel_rfl) rfl (.all [2, 3] (by kernel_rfl) rfl (AllA.run _ rfl rfl rfl ?_ ?_)))
            · refine TieA.nP 4 rfl rfl rfl (by kernel_rfl) rfl (.fP 5 rfl rfl rfl (by kernel_rfl) rfl rfl rfl (.all [3, 6] (by kernel_rfl) rfl (AllA.run _ rfl rfl rfl ?_ ?_)))
              · refine TieA.all [6] (by kernel_rfl) rfl (AllA.run _ rfl rfl rfl ?_ ?_)
                · exact TieA.done (.of rfl rfl)
                exact AllA.nil
              refine AllA.run _ rfl rfl rfl ?_ ?_
              · refine TieA.all [3] (by kernel_rfl) rfl (AllA.run _ rfl rfl rfl ?_ ?_)
                · exact TieA.done (.of rfl rfl)
                exact AllA.nil
              exact AllA.nil
            refine AllA.run _ rfl rfl rfl ?_ ?_
            · refine TieA.all [2] (by kernel_rfl) rfl (AllA.run _ rfl rfl rfl ?_ ?_)
              · refine TieA.nP 4 rfl rfl rfl (by kernel_rfl) rfl (.fP 5 rfl rfl rfl (by kernel_rfl) rfl rfl rfl (.all [6] (by kernel_rfl) rfl (AllA.run _ rfl rfl rfl ?_ ?_)))
                · exact TieA.done (.of rfl rfl)
                exact AllA.nil
              exact AllA.nil
            exact AllA.nil
          exact TieO.run 3 rfl (.nil (.leaf ⟨rfl, .of rfl rfl⟩))
        rintro s5 e σ' _ ⟨rfl, hs⟩
        refine TieX.sub hs (TieS.seq (.seq (.region (.run 2 rfl ?_))))
        refine TieO.nil (.bind (Q₁ := fun t e σ' => e = .normal ∧ Sub ⟨[(6, .t (tI r2.1)), (7, .t (tI r3.1)), (8, .t (tI t))], [(1000000, .box (B_Smagnetotop_monitored (u8_3 (u8_2 (u8_0 v s5.1) s5.2) (w64 (v.now + 10000)))))]⟩ σ') ?_ ?_)
        · refine TieS.cond rfl ?_ ?_
          · exact TieS.region (.run 2 rfl (.nil (.leaf ⟨rfl, .of rfl rfl⟩)))
          · exact TieS.skip (.leaf ⟨rfl, .of rfl rfl⟩)
        rintro delivered e σ' _ ⟨rfl, hs⟩
        refine TieX.sub hs (TieS.seq (.region (.run 7 rfl (.nil ?_))))
        exact TieS.ret ⟨.inl rfl, ⟨[(1000000, 1000000)], _, _, rfl, rfl, rfl, rfl, rfl⟩⟩
  · exact hq.elim
set_option maxRecDepth 100000 in
theorem tie_stage_list (l : List SSwitch) : TieF Tryz.prog 35 [.t (tS enc_SSwitch l)] (stage_list l) (fun r => .t (tB r)) := by
  refine TieF.intro htab 38 [.tmp 2] Tryz.call35 Tryz.func35 rfl rfl rfl (Nat.le_of_ble_eq_true rfl) fun w0 L => ?_
  refine TieS.seq (.region (.run 1 rfl (.nil (.seq ?_))))
  refine TieS.seq (.region (.run 3 rfl (.nil (.cond rfl ?_ ?_))))
  · exact TieS.seq (.region (.run 1 rfl (.nil (.ret ⟨.inl rfl, rfl⟩))))
  · refine TieS.skip (.seq (.region (.run 1 rfl (.nil ?_))))
    refine TieS.seq (.seq (.region (.run 3 rfl (.nil ?_))))
    refine TieS.block (.loop (fun p => ⟨[(3, .t (tI p.2)), (9, .t (tS enc_SSwitch l)), (10, .t (tI (l.length : Int))), (11, .t (tI p.1))], []⟩) (fun b e σ' => match b with | .inl t => e = .exit 0 ∧ Sub ⟨[], []⟩ σ' | .inr t => e = .ret ∧ retT tab σ' [.tmp 2] = some (((fun r => .t (tB r)) : Bool → T) t)) (.of rfl rfl) ?_ ?_)
    · rintro ⟨i, last⟩
      refine TieS.seq (.region (.run 1 rfl (.nil (.seq ?_))))
      refine TieS.cond rfl ?_ ?_
      · refine TieS.skip (.seq (TieX.pre fun x hx => TieX.sub (σ' := ⟨[(3, .t (tI last)), (9, .t (tS enc_SSwitch l)), (10, .t (tI (l.length : Int))), (11, .t (tI i))], []⟩) (.of rfl rfl) (TieS.bind (Q₁ := fun f e σ' => match f with | .next t => e = .normal ∧ Sub ⟨[(3, .t (tI t)), (9, .t (tS enc_SSwitch l)), (10, .t (tI (l.length : Int))), (11, .t (tI i))], []⟩ σ' | .brk t => e = .exit 0 ∧ Sub ⟨[], []⟩ σ' | .ret t => e = .ret ∧ retT tab σ' [.tmp 2] = some (((fun r => .t (tB r)) : Bool → T) t)) ?_ ?_)))
        · refine TieS.block (.seq (.region (.indexH hx rfl rfl rfl rfl rfl rfl rfl rfl (fun _ => rfl) (.run 3 rfl ?_))))
          refine TieO.nil (.seq (.seq (.region (.run 2 rfl ?_))))
          refine TieO.call _ rfl rfl rfl (tie_stage_time x.At) (fun _ => rfl) fun v => .run 2 rfl (.selOr (v := decide (x.At < last)) 5 19 (fun b => ⟨[(5, .ptr 5 0), (9, .t (tS enc_SSwitch l)), (10, .t (tI (l.length : Int))), (11, .t (tI i)), (24, .t (tB b))], [(5, .box [.t (tI x.At), .t (tI x.Channel), .t (tB x.Level)])]⟩) rfl ?_ ?_ ?_)
          · exact TieO.run 5 rfl (.nil (.leaf ⟨rfl, .of rfl rfl⟩))
          · exact TieO.run 5 rfl (.nil (.leaf ⟨rfl, .of rfl rfl⟩))
          refine TieO.run 1 rfl (.selOr (v := decide (x.Channel < 0)) 4 25 (fun b => ⟨[(5, .ptr 5 0), (9, .t (tS enc_SSwitch l)), (10, .t (tI (l.length : Int))), (11, .t (tI i)), (29, .t (tB b))], [(5, .box [.t (tI x.At), .t (tI x.Channel), .t (tB x.Level)])]⟩) rfl ?_ ?_ ?_)
          · exact TieO.run 4 rfl (.nil (.leaf ⟨rfl, .of rfl rfl⟩))
          · exact TieO.run 4 rfl (.nil (.leaf ⟨rfl, .of rfl rfl⟩))
          refine TieO.run 1 rfl (.selOr (v := decide (x.Channel ≥ 16)) 4 30 (fun b => ⟨[(5, .ptr 5 0), (9, .t (tS enc_SSwitch l)), (10, .t (tI (l.length : Int))), (11, .t (tI i)), (34, .t (tB b))], [(5, .box [.t (tI x.At), .t (tI x.Channel), .t (tB x.Level)])]⟩) rfl ?_ ?_ ?_)
          · exact TieO.run 4 rfl (.nil (.leaf ⟨rfl, .of rfl rfl⟩))
          · exact TieO.run 4 rfl (.nil (.leaf ⟨rfl, .of rfl rfl⟩))
          refine TieO.nil (.cond rfl ?_ ?_)
          · exact TieS.seq (.region (.run 1 rfl (.nil (.ret ⟨rfl, rfl⟩))))
          · refine TieS.skip (.region (.run 3 rfl (.nil (.endb ?_))))
            exact TieS.leaf ⟨rfl, .of rfl rfl⟩
        rintro (t | t | t) e σ' _ hq
        · obtain ⟨rfl, hs⟩ := hq
          exact TieX.sub hs (TieS.region (.run 2 rfl (.nil (.leaf ⟨rfl, .of rfl rfl⟩))))
        · obtain ⟨rfl, hs⟩ := hq
          exact TieX.exitOut rfl ⟨(fun h => by cases h), rfl, hs⟩
        · obtain ⟨rfl, hs⟩ := hq
          exact TieX.ret ⟨(fun h => by cases h), rfl, hs⟩
      · exact TieS.exitOut rfl ⟨(fun h => by cases h), rfl, .of rfl rfl⟩
    rintro (last2 | r2) e σ' _ hq
    · obtain ⟨rfl, hs⟩ := hq
      refine TieX.exit rfl (TieX.sub hs ?_)
      exact TieS.seq (.region (.run 1 rfl (.nil (.ret ⟨.inl rfl, rfl⟩))))
    · obtain ⟨rfl, hs⟩ := hq
      exact TieX.ret ⟨.inl rfl, hs⟩
set_option maxRecDepth 100000 in
theorem tie_slices_IndexFunc_sSwitch (s : List SSwitch) (n2 : Nat) (cs : List (List Tree)) (f2 : SSwitch → Option Bool) (h2 : ∀ x0, TieF Tryz.prog n2 ([A_SSwitch x0] ++ cs.map T.el) (f2 x0) (fun r => .t (tB r))) : TieF Tryz.prog 63 [.t (tS enc_SSwitch s), .fz n2 cs] (slices_IndexFunc_sSwitch s f2) (fun r => .t (tI r)) := by
  refine TieF.intro htab 19 [.tmp 4] Tryz.call63 Tryz.func63 rfl rfl rfl (Nat.le_of_ble_eq_true rfl) fun w0 L => ?_
  refine TieS.seq (.region (.run 1 rfl (.nil (.seq ?_))))
  refine TieS.seq (.region (.run 3 rfl (.nil (.block ?_))))
  refine TieS.loop (fun p => ⟨[(0, .t (tS enc_SSwitch s)), (1, .fz n2 cs), (7, .t (tI (s.length : Int))), (8, .t (tI p.1))], []⟩) (fun b e σ' => match b with | .inl t => e = .exit 0 ∧ Sub ⟨[], []⟩ σ' | .inr t => e = .ret ∧ retT tab σ' [.tmp 4] = some (((fun r => .t (tI r)) : Int → T) t)) (.of rfl rfl) ?_ ?_
  · rintro ⟨i, s2⟩
    refine TieS.seq (.region (.run 1 rfl (.nil (.seq ?_))))
    refine TieS.cond rfl ?_ ?_
    · refine TieS.skip (.seq (TieX.sub (σ' := ⟨[(0, .t (tS enc_SSwitch s)), (1, .fz n2 cs), (7, .t (tI (s.length : Int))), (8, .t (tI i))], []⟩) (.of rfl rfl) (TieS.bind (Q₁ := fun f e σ' => match f with | .next t => e = .normal ∧ Sub ⟨[(0, .t (tS enc_SSwitch s)), (1, .fz n2 cs), (7, .t (tI (s.length : Int))), (8, .t (tI i))], []⟩ σ' | .brk t => e = .exit 0 ∧ Sub ⟨[], []⟩ σ' | .ret t => e = .ret ∧ retT tab σ' [.tmp 4] = some (((fun r => .t (tI r)) : Int → T) t)) ?_ ?_)))
      · refine TieS.block (.seq (.region (.run 2 rfl (.nil ?_))))
        refine TieS.seq (.region (.run 3 rfl (.index rfl rfl rfl rfl rfl rfl rfl rfl (fun _ => rfl) fun x hx => .run 1 rfl ?_)))
        refine TieO.call _ rfl rfl rfl (h2 x) (fun _ => rfl) fun v => .nil (.cond rfl ?_ ?_)
        · exact TieS.seq (.region (.run 2 rfl (.nil (.ret ⟨rfl, rfl⟩))))
        · exact TieS.skip (.endb (.leaf ⟨rfl, .of rfl rfl⟩))
      rintro (t | t | t) e σ' _ hq
      · obtain ⟨rfl, hs⟩ := hq
        exact TieX.sub hs (TieS.region (.run 2 rfl (.nil (.leaf ⟨rfl, .of rfl rfl⟩))))
      · obtain ⟨rfl, hs⟩ := hq
        exact TieX.exitOut rfl ⟨(fun h => by cases h), rfl, hs⟩
      · obtain ⟨rfl, hs⟩ := hq
        exact TieX.ret ⟨(fun h => by cases h), rfl, hs⟩
    · exact TieS.exitOut rfl ⟨(fun h => by cases h), rfl, .of rfl rfl⟩
  rintro (s3 | r2) e σ' _ hq
  · obtain ⟨rfl, hs⟩ := hq
    refine TieX.exit rfl (TieX.sub hs ?_)
    exact TieS.seq (.region (.run 1 rfl (.nil (.ret ⟨.inl rfl, rfl⟩))))
  · obtain ⟨rfl, hs⟩ := hq
    exact TieX.ret ⟨.inl rfl, hs⟩
set_option maxRecDepth 100000 in
theorem tie_slices_DeleteFunc_sSwitch (s : List SSwitch) (n2 : Nat) (cs : List (List Tree)) (del : SSwitch → Option Bool) (h2 : ∀ x0, TieF Tryz.prog n2 ([A_SSwitch x0] ++ cs.map T.el) (del x0) (fun r => .t (tB r))) : TieG Tryz.prog 36 [.own 1000000, .fz n2 cs] [(1000000, .rs 63 3 s enc_SSwitch)] (slices_DeleteFunc_sSwitch s del) (fun r => .t (tS enc_SSwitch r)) (fun _ => []) := by
  refine TieG.intro htab 42 [.tmp 4] Tryz.call36 Tryz.func36 rfl rfl rfl (Nat.le_of_ble_eq_true rfl) fun w0 L => ?_
  refine TieS.seq (.region (.run 1 rfl (.nil (.seq ?_))))
  refine TieS.region (.run 2 rfl (.callS _ rfl rfl rfl (tie_slices_IndexFunc_sSwitch s n2 cs del h2) (fun _ => rfl) (fun _ => rfl) fun v => .run 1 rfl (.nil ?_)))
  refine TieS.seq (.seq (.region (.run 2 rfl (.nil ?_))))
  refine TieS.cond rfl ?_ ?_
  · refine TieS.seq (.region (.run 2 rfl (.nil (TieX.frz 1000000 rfl ?_))))
    exact TieS.ret ⟨.inl rfl, ⟨[], _, _, rfl, rfl, rfl, rfl, rfl⟩⟩
  · refine TieS.skip (.seq (.seq (.region (.run 3 rfl ?_))))
    refine TieO.nil (.block (.loop (fun t => ⟨[(0, .own 1000000), (1, .fz n2 cs), (5, .t (tI t.1)), (6, .t (tI t.2.1))], [(1000000, .rs 63 3 t.2.2 enc_SSwitch)]⟩) (fun b e σ' => match b with | .inl t => e = .exit 0 ∧ Sub ⟨[(0, .own 1000000), (5, .t (tI t.1))], [(1000000, .rs 63 3 t.2.2 enc_SSwitch)]⟩ σ' | .inr t => False) (.of rfl rfl) ?_ ?_))
    · intro s2
      refine TieS.seq (.seq (.region (.run 4 rfl (.nil ?_))))
      refine TieS.cond rfl ?_ ?_
      · refine TieS.skip (.seq (.block (.seq (.region ?_))))
        refine TieO.run 2 rfl (.indexO rfl rfl rfl rfl rfl rfl rfl rfl rfl rfl fun x hx => .loadY hx rfl rfl rfl rfl rfl rfl rfl rfl (.run 2 rfl (.nil ?_)))
        refine TieS.seq (.region (.run 2 rfl (.call _ rfl rfl rfl (h2 x) (fun _ => rfl) fun v2 => .run 1 rfl ?_)))
        refine TieO.nil (.cond rfl ?_ ?_)
        · refine TieS.seq (.region (.run 3 rfl (.indexO rfl rfl rfl rfl rfl rfl rfl rfl rfl rfl fun x2 hx2 => .storeY x [tI x.At, tI x.Channel, tB x.Level] hx2 rfl rfl rfl rfl rfl rfl rfl rfl rfl rfl rfl rfl fun l hl => ?_)))
          refine TieO.nil (.region (.run 3 rfl (.nil (.endb ?_))))
          exact TieS.region (.run 3 rfl (.nil (.leaf ⟨rfl, .of rfl rfl⟩)))
        · refine TieS.skip (.endb (.region (.run 3 rfl (.nil ?_))))
          exact TieS.leaf ⟨rfl, .of rfl rfl⟩
      · exact TieS.exitOut rfl ⟨(fun h => by cases h), rfl, .of rfl rfl⟩
    rintro (s3 | r) e σ' _ hq
    · obtain ⟨rfl, hs⟩ := hq
      refine TieX.exit rfl (TieX.sub hs ?_)
      refine TieS.seq (.region (.run 2 rfl (.viewO rfl rfl rfl rfl rfl rfl rfl rfl rfl rfl rfl fun u hu => .clearV (⟨0, 0, false⟩ : SSwitch) hu chk_le rfl rfl rfl rfl rfl rfl rfl rfl rfl rfl rfl ?_)))
      refine TieO.nil (.seq (.region (.run 2 rfl (.frz 1000000 rfl ?_))))
      exact TieO.sliceF rfl rfl rfl rfl rfl rfl rfl (fun _ => rfl) rfl rfl fun l2 hl2 => .run 1 rfl (.nil (.ret ⟨.inl rfl, ⟨[], _, _, rfl, rfl, rfl, rfl, rfl⟩⟩))
    · exact hq.elim
set_option maxRecDepth 100000 in
theorem tie_slices_Clone_sSwitch (s : List SSwitch) : TieG Tryz.prog 37 [.t (tS enc_SSwitch s)] [] (slices_Clone_sSwitch s) (fun _ => .own 900000) (fun r => [(900000, .rs 63 3 r enc_SSwitch)]) := by
  refine TieG.intro htab 8 [.tmp 2] Tryz.call37 Tryz.func37 rfl rfl rfl (Nat.le_of_ble_eq_true rfl) fun w0 L => ?_
  refine TieS.seq (.region (.run 1 rfl (.nil (.seq ?_))))
  refine TieS.seq (.region (.run 1 rfl (.isNil rfl rfl rfl rfl rfl rfl fun b2 hb2 => .nil ?_)))
  refine TieS.condB rfl (fun hb1 => ?_) (fun _ => ?_)
  · refine TieX.model (m' := some ([] : List SSwitch)) (by rw [hb2 hb1]; rfl) (TieS.seq (.region (.run 1 rfl (.nil ?_))))
    exact TieX.nilP 2 70000 63 3 [] rfl rfl rfl rfl rfl (TieS.ret ⟨.inl rfl, ⟨[(70000, 900000)], _, _, rfl, rfl, rfl, rfl, rfl⟩⟩)
  · refine TieS.skip (.seq (.region (.run 2 rfl (.appendY (id := 5) (e' := 0) (l := ([] : List SSwitch)) (r := s) (tm' := [(0, .t (tS enc_SSwitch s)), (2, .t (.v (.slice none 0 0))), (3, .t (tS enc_SSwitch s)), (4, .t (tB b2)), (6, .t (tS enc_SSwitch s))]) (hp' := []) rfl rfl rfl rfl rfl rfl rfl (fun _ => rfl) (fun _ => rfl) (.inl ⟨rfl, rfl⟩) (.inl rfl) (.of rfl rfl) rfl rfl rfl fun l => ?_))))
    exact TieO.run 1 rfl (.nil (.ret ⟨.inl rfl, ⟨[(5, 900000)], _, _, rfl, rfl, rfl, rfl, rfl⟩⟩))
set_option maxRecDepth 100000 in
theorem tie_stage_Pass_1 (x : SSwitch) (c : SStage) : TieF Tryz.prog 38 [A_SSwitch x, .el (enc_SStage c)] (stage_Pass_1 x c) (fun r => .t (tB r)) := by
  refine TieF.intro htab 11 [.tmp 3] Tryz.call38 Tryz.func38 rfl rfl rfl (Nat.le_of_ble_eq_true rfl) fun w0 L => ?_
  refine TieS.seq (.region (.run 2 rfl (.nil (.seq ?_))))
  refine TieS.region (.run 3 rfl (.selAnd (v := (!c.Enabled)) 4 6 (fun b => ⟨[(10, .t (tB b))], []⟩) rfl ?_ ?_ ?_))
  · exact TieO.run 4 rfl (.nil (.leaf ⟨rfl, .of rfl rfl⟩))
  · exact TieO.run 4 rfl (.nil (.leaf ⟨rfl, .of rfl rfl⟩))
  exact TieO.run 1 rfl (.nil (.ret ⟨.inl rfl, rfl⟩))
set_option maxRecDepth 100000 in
theorem tie_stage_Pass (s : SStage) (l : List SSwitch) : TieF Tryz.prog 11 [A_SStage s, .t (tS enc_SSwitch l)] (stage_Pass s l) (fun r => .tup [.t (tS enc_SSwitch r.1), .t (tI r.2)]) := by
  refine TieF.intro htab 18 [.tmp 4, .tmp 5] Tryz.call11 Tryz.func11 rfl rfl rfl (Nat.le_of_ble_eq_true rfl) fun w0 L => ?_
  refine TieS.seq (.region (.run 3 rfl (.nil (.seq ?_))))
  refine TieS.seq (.region (.run 1 rfl (.call _ rfl rfl rfl (tie_stage_Valid s) (fun _ => rfl) fun v => .run 2 rfl ?_)))
  refine TieO.bind 4 (fun b2 => ⟨[(1, .t (tS enc_SSwitch l)), (2, .ptr 2 0), (13, .t (tB b2))], [(2, .box [.t (tB s.Enabled), .t (tI s.Cause), .t (tI s.Since)])]⟩) (TieO.split 9 rfl ?_ ?_) fun b2 _ => ?_
  · exact TieO.run 4 rfl (.nil (.leaf ⟨rfl, .of rfl rfl⟩))
  · exact TieO.run 1 rfl (.call _ rfl rfl rfl (tie_stage_list l) (fun _ => rfl) fun v2 => .run 2 rfl (.nil (.leaf ⟨rfl, .of rfl rfl⟩)))
  refine TieO.nil (.cond rfl ?_ ?_)
  · exact TieS.seq (.region (.run 2 rfl (.nil (.ret ⟨.inl rfl, rfl⟩))))
  · refine TieS.skip (.seq (.region (.run 1 rfl (.callG [] [(900000, 2120)] (fun v3 => ⟨[(1, .t (tS enc_SSwitch l)), (2, .ptr 2 0), (13, .t (tB b2)), (14, .t (tS enc_SSwitch l)), (15, .own 2120)], [(2, .box [.t (tB s.Enabled), .t (tI s.Cause), .t (tI s.Since)]), (2120, .rs 63 3 v3 enc_SSwitch)]⟩) (tie_slices_Clone_sSwitch l) rfl rfl rfl rfl rfl rfl rfl (fun _ => rfl) (fun _ => rfl) (fun _ => rfl) (fun _ => .of rfl rfl) fun v3 hv3 => ?_))))
    refine TieO.frzBox 2 rfl rfl (.run 1 rfl (.sub (σ' := ⟨[(1, .t (tS enc_SSwitch l)), (2, .el (enc_SStage s)), (13, .t (tB b2)), (14, .t (tS enc_SSwitch l)), (15, .own 2120), (16, .fz 38 [enc_SStage s])], [(2120, .rs 63 3 v3 enc_SSwitch)]⟩) (.of rfl rfl) (.callG [(1000000, 2120)] [] (fun v4 => ⟨[(1, .t (tS enc_SSwitch l)), (2, .el (enc_SStage s)), (13, .t (tB b2)), (14, .t (tS enc_SSwitch l)), (16, .fz 38 [enc_SStage s]), (17, .t (tS enc_SSwitch v4))], []⟩) (tie_slices_DeleteFunc_sSwitch v3 38 [enc_SStage s] (fun x0 => stage_Pass_1 x0 s) (fun x0 => tie_stage_Pass_1 x0 s)) rfl rfl rfl rfl rfl rfl rfl (fun _ => rfl) (fun _ => rfl) (fun _ => rfl) (fun _ => .of rfl rfl) fun v4 hv4 => .run 2 rfl ?_)))
    exact TieO.nil (.ret ⟨.inl rfl, rfl⟩)
set_option maxRecDepth 100000 in
theorem tie_slices_Equal_sSwitch (s1 : List SSwitch) (s2 : List SSwitch) : TieF Tryz.prog 12 [.t (tS enc_SSwitch s1), .t (tS enc_SSwitch s2)] (slices_Equal_sSwitch s1 s2) (fun r => .t (tB r)) := by
  refine TieF.intro htab 26 [.tmp 4] Tryz.call12 Tryz.func12 rfl rfl rfl (Nat.le_of_ble_eq_true rfl) fun w0 L => ?_
  refine TieS.seq (.region (.run 1 rfl (.nil (.seq ?_))))
  refine TieS.seq (.region (.run 5 rfl (.nil (.cond rfl ?_ ?_))))
  · exact TieS.seq (.region (.run 1 rfl (.nil (.ret ⟨.inl rfl, rfl⟩))))
  · refine TieS.skip (.seq (.seq (.region (.run 3 rfl ?_))))
    refine TieO.nil (.block (.loop (fun p => ⟨[(0, .t (tS enc_SSwitch s1)), (1, .t (tS enc_SSwitch s2)), (12, .t (tI (s1.length : Int))), (13, .t (tI p.1))], []⟩) (fun b e σ' => match b with | .inl t => e = .exit 0 ∧ Sub ⟨[], []⟩ σ' | .inr t => e = .ret ∧ retT tab σ' [.tmp 4] = some (((fun r => .t (tB r)) : Bool → T) t)) (.of rfl rfl) ?_ ?_))
    · rintro ⟨i, s⟩
      refine TieS.seq (.region (.run 1 rfl (.nil (.seq ?_))))
      refine TieS.cond rfl ?_ ?_
      · refine TieS.skip (.seq (TieX.sub (σ' := ⟨[(0, .t (tS enc_SSwitch s1)), (1, .t (tS enc_SSwitch s2)), (12, .t (tI (s1.length : Int))), (13, .t (tI i))], []⟩) (.of rfl rfl) (TieS.bind (Q₁ := fun f e σ' => match f with | .next t => e = .normal ∧ Sub ⟨[(0, .t (tS enc_SSwitch s1)), (1, .t (tS enc_SSwitch s2)), (12, .t (tI (s1.length : Int))), (13, .t (tI i))], []⟩ σ' | .brk t => e = .exit 0 ∧ Sub ⟨[], []⟩ σ' | .ret t => e = .ret ∧ retT tab σ' [.tmp 4] = some (((fun r => .t (tB r)) : Bool → T) t)) ?_ ?_)))
        · refine TieS.block (.seq (.region (.run 2 rfl (.nil ?_))))
          refine TieS.seq (TieX.pre fun x hx => TieX.pre fun x2 hx2 => TieS.draw 9 [_, _, _, _, _, _, _, _, _] [(0, .t (tS enc_SSwitch s1)), (1, .t (tS enc_SSwitch s2)), (5, .t (tI i)), (12, .t (tI (s1.length : Int))), (13, .t (tI i))] [] mixed (.of rfl rfl) rfl rfl rfl rfl (.cons (.quiet rfl rfl rfl) (.cons (.quiet rfl rfl rfl) (.cons (.index hx rfl rfl rfl rfl rfl rfl (fun _ => rfl)) (.cons (.quiet rfl rfl rfl) (.cons (.quiet rfl rfl rfl) (.cons (.quiet rfl rfl rfl) (.cons (.index hx2 rfl rfl rfl rfl rfl rfl (fun _ => rfl)) (.cons (.quiet rfl rfl rfl) (.cons (.neS [.int .i64 x.At, .int .i64 x.Channel, .bool x.Level] [.int .i64 x2.At, .int .i64 x2.Channel, .bool x2.Level] (eqv_63 x.At x.Channel x.Level x2.At x2.Channel x2.Level) rfl rfl rfl rfl) (.nil)))))))))) (.nil ?_))
          refine TieS.cond rfl ?_ ?_
          · exact TieS.seq (.region (.run 1 rfl (.nil (.ret ⟨rfl, rfl⟩))))
          · exact TieS.skip (.endb (.leaf ⟨rfl, .of rfl rfl⟩))
        rintro (t | t | t) e σ' _ hq
        · obtain ⟨rfl, hs⟩ := hq
          exact TieX.sub hs (TieS.region (.run 2 rfl (.nil (.leaf ⟨rfl, .of rfl rfl⟩))))
        · obtain ⟨rfl, hs⟩ := hq
          exact TieX.exitOut rfl ⟨(fun h => by cases h), rfl, hs⟩
        · obtain ⟨rfl, hs⟩ := hq
          exact TieX.ret ⟨(fun h => by cases h), rfl, hs⟩
      · exact TieS.exitOut rfl ⟨(fun h => by cases h), rfl, .of rfl rfl⟩
    rintro (s3 | r2) e σ' _ hq
    · obtain ⟨rfl, hs⟩ := hq
      refine TieX.exit rfl (TieX.sub hs ?_)
      exact TieS.seq (.region (.run 1 rfl (.nil (.ret ⟨.inl rfl, rfl⟩))))
    · obtain ⟨rfl, hs⟩ := hq
      exact TieX.ret ⟨.inl rfl, hs⟩
set_option maxRecDepth 100000 in
theorem tie_arbiter_given_1 (r2 : SRequest) : TieF Tryz.prog 64 [A_SRequest r2] (arbiter_given_1 r2) (fun r => .t (tB r)) := by
  refine TieF.intro htab 6 [.tmp 2] Tryz.call64 Tryz.func64 rfl rfl rfl (Nat.le_of_ble_eq_true rfl) fun w0 L => ?_
  refine TieS.seq (.region (.run 2 rfl (.nil (.seq ?_))))
  refine TieS.region (.run 1 rfl (.call _ rfl rfl rfl (tie_arbiter_Valid r2) (fun _ => rfl) fun v => .run 2 rfl (.nil ?_)))
  exact TieS.ret ⟨.inl rfl, rfl⟩
set_option maxRecDepth 100000 in
theorem tie_arbiter_given (l : List SRequest) (low : Int) (high : Int) : TieF Tryz.prog 39 [.t (tS enc_SRequest l), .t (tI low), .t (tI high)] (arbiter_given l low high) (fun r => .t (tI r)) := by
  refine TieF.intro htab 28 [.tmp 6] Tryz.call39 Tryz.func39 rfl rfl rfl (Nat.le_of_ble_eq_true rfl) fun w0 L => ?_
  refine TieS.seq (.region (.run 1 rfl (.nil (.seq ?_))))
  refine TieS.block (.seq (.region (.run 1 rfl (.call _ rfl rfl rfl (tie_slices_ContainsFunc_sRequest l 64 [] arbiter_given_1 tie_arbiter_given_1) (fun _ => rfl) fun v => ?_))))
  refine TieO.run 1 rfl (.nil (.cond rfl ?_ ?_))
  · exact TieS.seq (.region (.run 1 rfl (.nil (.ret ⟨.inl rfl, rfl⟩))))
  · refine TieS.seq (.region (.run 4 rfl (.nil (.cond rfl ?_ ?_))))
    · exact TieS.seq (.region (.run 1 rfl (.nil (.ret ⟨.inl rfl, rfl⟩))))
    · refine TieS.seq (.region (.run 1 rfl (.call _ rfl rfl rfl (tie_arbiter_torque low) (fun _ => rfl) fun v2 => .run 2 rfl ?_)))
      refine TieO.bind 4 (fun b2 => ⟨[(1, .t (tI low)), (2, .t (tI high)), (22, .t (tB b2))], []⟩) (TieO.split 18 rfl ?_ ?_) fun b2 _ => ?_
      · exact TieO.run 4 rfl (.nil (.leaf ⟨rfl, .of rfl rfl⟩))
      · exact TieO.run 1 rfl (.call _ rfl rfl rfl (tie_arbiter_torque high) (fun _ => rfl) fun v3 => .run 2 rfl (.nil (.leaf ⟨rfl, .of rfl rfl⟩)))
      refine TieO.run 1 rfl (.selOr (v := decide (low > high)) 4 23 (fun b => ⟨[(27, .t (tB b))], []⟩) rfl ?_ ?_ ?_)
      · exact TieO.run 4 rfl (.nil (.leaf ⟨rfl, .of rfl rfl⟩))
      · exact TieO.run 4 rfl (.nil (.leaf ⟨rfl, .of rfl rfl⟩))
      refine TieO.run 1 rfl (.nil (.cond rfl ?_ ?_))
      · exact TieS.seq (.region (.run 1 rfl (.nil (.ret ⟨.inl rfl, rfl⟩))))
      · refine TieS.skip (.endb (.seq (.region (.run 1 rfl ?_))))
        exact TieO.nil (.ret ⟨.inl rfl, rfl⟩)
set_option maxRecDepth 100000 in
theorem tie_slices_Clone_sRequest (s : List SRequest) : TieG Tryz.prog 65 [.t (tS enc_SRequest s)] [] (slices_Clone_sRequest s) (fun _ => .own 900000) (fun r => [(900000, .rs 82 4 r enc_SRequest)]) := by
  refine TieG.intro htab 8 [.tmp 2] Tryz.call65 Tryz.func65 rfl rfl rfl (Nat.le_of_ble_eq_true rfl) fun w0 L => ?_
  refine TieS.seq (.region (.run 1 rfl (.nil (.seq ?_))))
  refine TieS.seq (.region (.run 1 rfl (.isNil rfl rfl rfl rfl rfl rfl fun b2 hb2 => .nil ?_)))
  refine TieS.condB rfl (fun hb1 => ?_) (fun _ => ?_)
  · refine TieX.model (m' := some ([] : List SRequest)) (by rw [hb2 hb1]; rfl) (TieS.seq (.region (.run 1 rfl (.nil ?_))))
    exact TieX.nilP 2 70000 82 4 [] rfl rfl rfl rfl rfl (TieS.ret ⟨.inl rfl, ⟨[(70000, 900000)], _, _, rfl, rfl, rfl, rfl, rfl⟩⟩)
  · refine TieS.skip (.seq (.region (.run 2 rfl (.appendY (id := 5) (e' := 0) (l := ([] : List SRequest)) (r := s) (tm' := [(0, .t (tS enc_SRequest s)), (2, .t (.v (.slice none 0 0))), (3, .t (tS enc_SRequest s)), (4, .t (tB b2)), (6, .t (tS enc_SRequest s))]) (hp' := []) rfl rfl rfl rfl rfl rfl rfl (fun _ => rfl) (fun _ => rfl) (.inl ⟨rfl, rfl⟩) (.inl rfl) (.of rfl rfl) rfl rfl rfl fun l => ?_))))
    exact TieO.run 1 rfl (.nil (.ret ⟨.inl rfl, ⟨[(5, 900000)], _, _, rfl, rfl, rfl, rfl, rfl⟩⟩))
set_option maxRecDepth 100000 in
theorem tie_slices_insertionSortCmpFunc_Request (data : List SRequest) (a : Int) (b2 : Int) (n2 : Nat) (cs : List (List Tree)) (cmp : SRequest → SRequest → Option Int) (h2 : ∀ x0 x1, TieF Tryz.prog n2 ([A_SRequest x0, A_SRequest x1] ++ cs.map T.el) (cmp x0 x1) (fun r => .t (tI r))) : TieG Tryz.prog 84 [.own 1000000, .t (tI a), .t (tI b2), .fz n2 cs] [(1000000, .rs 82 4 data enc_SRequest)] (slices_insertionSortCmpFunc_Request data a b2 cmp) (fun _ => .tup []) (fun r => [(1000000, .rs 82 4 r enc_SRequest)]) := by
  refine TieG.intro htab 53 [] Tryz.call84 Tryz.func84 rfl rfl rfl (Nat.le_of_ble_eq_true rfl) fun w0 L => ?_
  refine TieS.seq (.region (.run 3 rfl (.nil (.block ?_))))
  refine TieS.loop (fun t => ⟨[(0, .own 1000000), (1, .t (tI a)), (2, .t (tI b2)), (3, .fz n2 cs), (8, .t (tI t.1))], [(1000000, .rs 82 4 t.2 enc_SRequest)]⟩) (fun b e σ' => match b with | .inl t => e = .exit 0 ∧ Sub ⟨[], [(1000000, .rs 82 4 t.2 enc_SRequest)]⟩ σ' | .inr t => False) (.of rfl rfl) ?_ ?_
  · intro s
    refine TieS.seq (.seq (.region (.run 3 rfl (.nil ?_))))
    refine TieS.cond rfl ?_ ?_
    · refine TieS.skip (.seq (.block (.seq (.region ?_))))
      refine TieO.run 2 rfl (.nil (.block (.loop (fun t => ⟨[(0, .own 1000000), (1, .t (tI a)), (2, .t (tI b2)), (3, .fz n2 cs), (8, .t (tI s.1)), (9, .t (tI t.1))], [(1000000, .rs 82 4 t.2 enc_SRequest)]⟩) (fun b e σ' => match b with | .inl t => e = .exit 2 ∧ Sub ⟨[(0, .own 1000000), (1, .t (tI a)), (2, .t (tI b2)), (3, .fz n2 cs), (8, .t (tI s.1))], [(1000000, .rs 82 4 t.2 enc_SRequest)]⟩ σ' | .inr t => False) (.of rfl rfl) ?_ ?_)))
      · intro s2
        refine TieS.seq (.seq (.bind (Q₁ := fun t e σ' => e = .normal ∧ Sub ⟨[(0, .own 1000000), (1, .t (tI a)), (2, .t (tI b2)), (3, .fz n2 cs), (8, .t (tI s.1)), (9, .t (tI s2.1)), (34, .t (tB t))], [(1000000, .rs 82 4 s2.2 enc_SRequest)]⟩ σ') ?_ ?_))
        · refine TieX.split (fun hg => ?_) (fun hg2 => ?_)
          · refine TieX.pre fun x hx => TieX.pre fun x2 hx2 => TieX.pre fun v hv => TieS.draw 17 [_, _, _, _, _, _, _, _, _, _, _, _, _, _, _, _, _] [(0, .own 1000000), (1, .t (tI a)), (2, .t (tI b2)), (3, .fz n2 cs), (8, .t (tI s.1)), (9, .t (tI s2.1))] [(1000000, .rs 82 4 s2.2 enc_SRequest)] mixed (.of rfl rfl) rfl rfl rfl rfl (.cons (.quiet rfl rfl rfl) (.cons (.quiet rfl rfl rfl) (.cons (.quiet rfl rfl rfl) (.cons (.cast (congrArg T.B hg) (.quiet rfl rfl rfl)) (.cons (.quiet rfl rfl rfl) (.cons (.quiet rfl rfl rfl) (.cons (.quiet rfl rfl rfl) (.cons (.indexO (sz := 4) hx rfl rfl rfl rfl rfl rfl rfl rfl) (.cons (.loadY hx rfl rfl rfl rfl rfl rfl) (.cons (.quiet rfl rfl rfl) (.cons (.quiet rfl rfl rfl) (.cons (.quiet rfl rfl rfl) (.cons (.indexO (sz := 4) hx2 rfl rfl rfl rfl rfl rfl rfl rfl) (.cons (.loadY hx2 rfl rfl rfl rfl rfl rfl) (.cons (.callV (h2 x x2) hv rfl rfl rfl rfl) (.cons (.quiet rfl rfl rfl) (.cons (.quiet rfl rfl rfl) (.nil)))))))))))))))))) (.nil ?_)
            exact TieS.leaf ⟨rfl, .of rfl rfl⟩
          · exact TieS.draw 17 [_, _, _, _, _, _, _, _, _, _, _, _, _, _, _, _, _] [(0, .own 1000000), (1, .t (tI a)), (2, .t (tI b2)), (3, .fz n2 cs), (8, .t (tI s.1)), (9, .t (tI s2.1))] [(1000000, .rs 82 4 s2.2 enc_SRequest)] mixed (.of rfl rfl) rfl rfl rfl rfl (.cons (.quiet rfl rfl rfl) (.cons (.quiet rfl rfl rfl) (.cons (.quiet rfl rfl rfl) (.cons (.cast (congrArg T.B hg2) (.quiet rfl rfl rfl)) (.cons (.skip rfl) (.cons (.skip rfl) (.cons (.skip rfl) (.cons (.skip rfl) (.cons (.skip rfl) (.cons (.skip rfl) (.cons (.skip rfl) (.cons (.skip rfl) (.cons (.skip rfl) (.cons (.skip rfl) (.cons (.skip rfl) (.cons (.skip rfl) (.cons (.quiet rfl rfl rfl) (.nil)))))))))))))))))) (.nil (.leaf ⟨rfl, .of rfl rfl⟩))
        rintro v2 e σ' _ ⟨rfl, hs⟩
        refine TieX.sub hs (TieS.cond rfl ?_ ?_)
        · refine TieS.skip (.seq (.block (.bind (Q₁ := fun t e σ' => e = .normal ∧ Sub ⟨[(0, .own 1000000), (1, .t (tI a)), (2, .t (tI b2)), (3, .fz n2 cs), (8, .t (tI s.1)), (9, .t (tI s2.1))], [(1000000, .rs 82 4 t enc_SRequest)]⟩ σ') ?_ ?_)))
          · refine TieX.pre fun x3 hx3 => TieX.pre fun x4 hx4 => TieX.pre fun l hl => TieS.draws 16 (bm 18 0) (bm 18 65535) ⟨[(0, .own 1000000), (1, .t (tI a)), (2, .t (tI b2)), (3, .fz n2 cs), (8, .t (tI s.1)), (9, .t (tI s2.1)), (39, .own 1000000), (41, .t (tI (w64 (s2.1 - 1)))), (50, .agg [.t (tI x4.Source), .t (tI x4.Kind), .t (tI x4.Torque), .t (tI x4.Priority)])], [(1000000, .rs 82 4 l enc_SRequest)]⟩ mixed (fun _ _ _ h => by cases h.1) rfl rfl rfl rfl ?_ ?_
            · refine TieA.have_ (fuel₁ := 4) (l₁ := (bm 18 16383)) (σ₁ := ⟨[(0, .own 1000000), (1, .t (tI a)), (2, .t (tI b2)), (3, .fz n2 cs), (8, .t (tI s.1)), (9, .t (tI s2.1)), (37, .own 1000000), (38, .t (tI s2.1)), (39, .own 1000000), (41, .t (tI (w64 (s2.1 - 1)))), (46, .agg [.t (tI x3.Source), .t (tI x3.Kind), .t (tI x3.Torque), .t (tI x3.Priority)]), (50, .agg [.t (tI x4.Source), .t (tI x4.Kind), .t (tI x4.Torque), .t (tI x4.Priority)])], [(1000000, .rs 82 4 s2.2 enc_SRequest)]⟩) ?_ fun A_0 => ?_
              · refine TieA.idx 14 _ hx4 rfl rfl rfl rfl rfl rfl (by kernel_rfl) (by kernel_rfl) (by kernel_rfl) rfl rfl rfl rfl rfl rfl (.all [15] (by kernel_rfl) rfl (AllA.cons (σ₁ := ⟨[(0, .own 1000000), (1, .t (tI a)), (2, .t (tI b2)), (3, .fz n2 cs), (8, .t (tI s.1)), (9, .t (tI s2.1)), (39, .own 1000000), (41, .t (tI (w64 (s2.1 - 1)))), (50, .agg [.t (tI x4.Source), .t (tI x4.Kind), .t (tI x4.Torque), .t (tI x4.Priority)])], [(1000000, .rs 82 4 l enc_SRequest)]⟩) _ rfl rfl ?_ ?_ ?_))
                · refine TieO.withH hl (TieO.storeY x3 [tI x3.Source, tI x3.Kind, tI x3.Torque, tI x3.Priority] hx4 rfl rfl rfl rfl rfl rfl rfl rfl rfl rfl rfl rfl (TieO.ifG ?_))
                  exact TieO.nil (TieS.leaf ⟨rfl, .of rfl rfl⟩)
                · exact TieA.done (.of rfl rfl)
                exact AllA.nil
              refine TieA.mv 0 rfl (.inl rfl) rfl (by kernel_rfl) rfl (.mv 1 rfl (.inl rfl) rfl (by kernel_rfl) rfl (.mv 2 rfl (.inl rfl) rfl (by kernel_rfl) rfl (.mv 3 rfl (.inl rfl) rfl (by kernel_rfl) rfl (.bin (V := .t (tI (w64 (s2.1 - 1)))) 4 _ rfl rfl rfl rfl rfl rfl (by kernel_rfl) (by kernel_rfl) (by kernel_rfl) rfl rfl rfl rfl ?_))))
              refine TieA.mv 5 rfl (.inl rfl) rfl (by kernel_rfl) rfl (.mv 6 rfl (.inl rfl) rfl (by kernel_rfl) rfl (.bin (V := .t (tI (w64 (s2.1 - 1)))) 7 _ rfl rfl rfl rfl rfl rfl (by kernel_rfl) (by kernel_rfl) (by kernel_rfl) rfl rfl rfl rfl (.idx 8 _ hx3 rfl rfl rfl rfl rfl rfl (by kernel_rfl) (by kernel_rfl) (by kernel_rfl) rfl rfl rfl rfl rfl rfl (.mv 10 rfl (.inl rfl) rfl (by kernel_rfl) rfl ?_))))
              refine TieA.mv 11 rfl (.inl rfl) rfl (by kernel_rfl) rfl (.idx 12 _ hx4 rfl rfl rfl rfl rfl rfl (by kernel_rfl) (by kernel_rfl) (by kernel_rfl) rfl rfl rfl rfl rfl rfl (.all [9, 13] (by kernel_rfl) rfl (AllA.cons (σ₁ := ⟨[(0, .own 1000000), (1, .t (tI a)), (2, .t (tI b2)), (3, .fz n2 cs), (8, .t (tI s.1)), (9, .t (tI s2.1)), (37, .own 1000000), (38, .t (tI s2.1)), (39, .own 1000000), (41, .t (tI (w64 (s2.1 - 1)))), (46, .agg [.t (tI x3.Source), .t (tI x3.Kind), .t (tI x3.Torque), .t (tI x3.Priority)]), (49, .pe 1000000 (Int.toNat s2.1) 4 0)], [(1000000, .rs 82 4 s2.2 enc_SRequest)]⟩) _ rfl rfl ?_ ?_ ?_)))
              · exact TieO.loadY hx3 rfl rfl rfl rfl rfl rfl rfl rfl (.nil (TieS.leaf ⟨rfl, .of rfl rfl⟩))
              · refine TieA.all [13] (by kernel_rfl) rfl (AllA.cons _ rfl rfl ?_ A_0 ?_)
                · exact TieO.loadY hx4 rfl rfl rfl rfl rfl rfl rfl rfl (.nil (TieS.leaf ⟨rfl, .of rfl rfl⟩))
                exact AllA.nil
              refine AllA.cons (σ₁ := ⟨[(0, .own 1000000), (1, .t (tI a)), (2, .t (tI b2)), (3, .fz n2 cs), (8, .t (tI s.1)), (9, .t (tI s2.1)), (37, .own 1000000), (38, .t (tI s2.1)), (39, .own 1000000), (41, .t (tI (w64 (s2.1 - 1)))), (45, .pe 1000000 (Int.toNat (w64 (s2.1 - 1))) 4 0), (50, .agg [.t (tI x4.Source), .t (tI x4.Kind), .t (tI x4.Torque), .t (tI x4.Priority)])], [(1000000, .rs 82 4 s2.2 enc_SRequest)]⟩) _ rfl rfl ?_ ?_ ?_
              · exact TieO.loadY hx4 rfl rfl rfl rfl rfl rfl rfl rfl (.nil (TieS.leaf ⟨rfl, .of rfl rfl⟩))
              · refine TieA.all [9] (by kernel_rfl) rfl (AllA.cons _ rfl rfl ?_ A_0 ?_)
                · exact TieO.loadY hx3 rfl rfl rfl rfl rfl rfl rfl rfl (.nil (TieS.leaf ⟨rfl, .of rfl rfl⟩))
                exact AllA.nil
              exact AllA.nil
            exact TieO.indexO rfl rfl rfl rfl rfl rfl rfl rfl rfl rfl fun x5 hx5 => .storeY x4 [tI x4.Source, tI x4.Kind, tI x4.Torque, tI x4.Priority] hx5 rfl rfl rfl rfl rfl rfl rfl rfl rfl rfl rfl rfl fun l2 hl2 => .nil (.leaf ⟨rfl, .of rfl rfl⟩)
          rintro f2 e σ' _ ⟨rfl, hs⟩
          refine TieX.sub hs (TieS.endb (.region (.run 3 rfl (.nil ?_))))
          exact TieS.leaf ⟨rfl, .of rfl rfl⟩
        · exact TieS.exitOut rfl ⟨(fun h => by cases h), rfl, .of rfl rfl⟩
      rintro (s3 | r) e σ' _ hq
      · obtain ⟨rfl, hs⟩ := hq
        refine TieX.exit rfl (TieX.sub hs ?_)
        exact TieS.endb (.region (.run 3 rfl (.nil (.leaf ⟨rfl, .of rfl rfl⟩))))
      · exact hq.elim
    · exact TieS.exitOut rfl ⟨(fun h => by cases h), rfl, .of rfl rfl⟩
  rintro (s4 | r) e σ' _ hq
  · obtain ⟨rfl, hs⟩ := hq
    refine TieX.exit rfl (TieX.sub hs ?_)
    exact TieS.leaf ⟨.inr rfl, ⟨[(1000000, 1000000)], _, _, rfl, rfl, rfl, rfl, rfl⟩⟩
  · exact hq.elim
set_option maxRecDepth 100000 in
theorem tie_slices_swapRangeCmpFunc_Request (data : List SRequest) (a : Int) (b2 : Int) (n2 : Int) (n3 : Nat) (cs : List (List Tree)) (cmp : SRequest → SRequest → Option Int) (h2 : ∀ x0 x1, TieF Tryz.prog n3 ([A_SRequest x0, A_SRequest x1] ++ cs.map T.el) (cmp x0 x1) (fun r => .t (tI r))) : TieG Tryz.prog 112 [.own 1000000, .t (tI a), .t (tI b2), .t (tI n2), .fz n3 cs] [(1000000, .rs 82 4 data enc_SRequest)] (slices_swapRangeCmpFunc_Request data a b2 n2 cmp) (fun _ => .tup []) (fun r => [(1000000, .rs 82 4 r enc_SRequest)]) := by
  refine TieG.intro htab 38 [] Tryz.call112 Tryz.func112 rfl rfl rfl (Nat.le_of_ble_eq_true rfl) fun w0 L => ?_
  refine TieS.seq (.region (.run 1 rfl (.nil (.block ?_))))
  refine TieS.loop (fun t => ⟨[(0, .own 1000000), (1, .t (tI a)), (2, .t (tI b2)), (3, .t (tI n2)), (10, .t (tI t.1))], [(1000000, .rs 82 4 t.2 enc_SRequest)]⟩) (fun b e σ' => match b with | .inl t => e = .exit 0 ∧ Sub ⟨[], [(1000000, .rs 82 4 t.2 enc_SRequest)]⟩ σ' | .inr t => False) (.of rfl rfl) ?_ ?_
  · intro s
    refine TieS.seq (.seq (.region (.run 3 rfl (.nil ?_))))
    refine TieS.cond rfl ?_ ?_
    · refine TieS.skip (.seq (.block (.bind (Q₁ := fun t e σ' => e = .normal ∧ Sub ⟨[(0, .own 1000000), (1, .t (tI a)), (2, .t (tI b2)), (3, .t (tI n2)), (10, .t (tI s.1))], [(1000000, .rs 82 4 t enc_SRequest)]⟩ σ') ?_ ?_)))
      · refine TieX.pre fun x hx => TieX.pre fun x2 hx2 => TieX.pre fun l hl => TieS.draws 22 (bm 24 0) (bm 24 4194303) ⟨[(0, .own 1000000), (1, .t (tI a)), (2, .t (tI b2)), (3, .t (tI n2)), (10, .t (tI s.1)), (20, .own 1000000), (23, .t (tI (w64 (b2 + s.1)))), (35, .agg [.t (tI x2.Source), .t (tI x2.Kind), .t (tI x2.Torque), .t (tI x2.Priority)])], [(1000000, .rs 82 4 l enc_SRequest)]⟩ mixed (fun _ _ _ h => by cases h.1) rfl rfl rfl rfl ?_ ?_
        · refine TieA.have_ (fuel₁ := 4) (l₁ := (bm 24 1048575)) (σ₁ := ⟨[(0, .own 1000000), (1, .t (tI a)), (2, .t (tI b2)), (3, .t (tI n2)), (10, .t (tI s.1)), (16, .own 1000000), (19, .t (tI (w64 (a + s.1)))), (20, .own 1000000), (23, .t (tI (w64 (b2 + s.1)))), (29, .agg [.t (tI x.Source), .t (tI x.Kind), .t (tI x.Torque), .t (tI x.Priority)]), (35, .agg [.t (tI x2.Source), .t (tI x2.Kind), .t (tI x2.Torque), .t (tI x2.Priority)])], [(1000000, .rs 82 4 s.2 enc_SRequest)]⟩) ?_ fun A_0 => ?_
          · refine TieA.idx 20 _ hx2 rfl rfl rfl rfl rfl rfl (by kernel_rfl) (by kernel_rfl) (by kernel_rfl) rfl rfl rfl rfl rfl rfl (.all [21] (by kernel_rfl) rfl (AllA.cons (σ₁ := ⟨[(0, .own 1000000), (1, .t (tI a)), (2, .t (tI b2)), (3, .t (tI n2)), (10, .t (tI s.1)), (20, .own 1000000), (23, .t (tI (w64 (b2 + s.1)))), (35, .agg [.t (tI x2.Source), .t (tI x2.Kind), .t (tI x2.Torque), .t (tI x2.Priority)])], [(1000000, .rs 82 4 l enc_SRequest)]⟩) _ rfl rfl ?_ ?_ ?_))
            · refine TieO.withH hl (TieO.storeY x [tI x.Source, tI x.Kind, tI x.Torque, tI x.Priority] hx2 rfl rfl rfl rfl rfl rfl rfl rfl rfl rfl rfl rfl (TieO.ifG ?_))
              exact TieO.nil (TieS.leaf ⟨rfl, .of rfl rfl⟩)
            · exact TieA.done (.of rfl rfl)
            exact AllA.nil
          refine TieA.mv 0 rfl (.inl rfl) rfl (by kernel_rfl) rfl (.mv 1 rfl (.inl rfl) rfl (by kernel_rfl) rfl (.mv 2 rfl (.inl rfl) rfl (by kernel_rfl) rfl (.bin (V := .t (tI (w64 (a + s.1)))) 3 _ rfl rfl rfl rfl rfl rfl (by kernel_rfl) (by kernel_rfl) (by kernel_rfl) rfl rfl rfl rfl (.mv 4 rfl (.inl rfl) rfl (by kernel_rfl) rfl ?_))))
          refine TieA.mv 5 rfl (.inl rfl) rfl (by kernel_rfl) rfl (.mv 6 rfl (.inl rfl) rfl (by kernel_rfl) rfl (.bin (V := .t (tI (w64 (b2 + s.1)))) 7 _ rfl rfl rfl rfl rfl rfl (by kernel_rfl) (by kernel_rfl) (by kernel_rfl) rfl rfl rfl rfl (.mv 8 rfl (.inl rfl) rfl (by kernel_rfl) rfl (.mv 9 rfl (.inl rfl) rfl (by kernel_rfl) rfl ?_))))
          refine TieA.mv 10 rfl (.inl rfl) rfl (by kernel_rfl) rfl (.bin (V := .t (tI (w64 (b2 + s.1)))) 11 _ rfl rfl rfl rfl rfl rfl (by kernel_rfl) (by kernel_rfl) (by kernel_rfl) rfl rfl rfl rfl (.idx 12 _ hx rfl rfl rfl rfl rfl rfl (by kernel_rfl) (by kernel_rfl) (by kernel_rfl) rfl rfl rfl rfl rfl rfl (.mv 14 rfl (.inl rfl) rfl (by kernel_rfl) rfl (.mv 15 rfl (.inl rfl) rfl (by kernel_rfl) rfl ?_))))
          refine TieA.mv 16 rfl (.inl rfl) rfl (by kernel_rfl) rfl (.bin (V := .t (tI (w64 (a + s.1)))) 17 _ rfl rfl rfl rfl rfl rfl (by kernel_rfl) (by kernel_rfl) (by kernel_rfl) rfl rfl rfl rfl (.idx 18 _ hx2 rfl rfl rfl rfl rfl rfl (by kernel_rfl) (by kernel_rfl) (by kernel_rfl) rfl rfl rfl rfl rfl rfl (.all [13, 19] (by kernel_rfl) rfl (AllA.cons (σ₁ := ⟨[(0, .own 1000000), (1, .t (tI a)), (2, .t (tI b2)), (3, .t (tI n2)), (10, .t (tI s.1)), (16, .own 1000000), (19, .t (tI (w64 (a + s.1)))), (20, .own 1000000), (23, .t (tI (w64 (b2 + s.1)))), (29, .agg [.t (tI x.Source), .t (tI x.Kind), .t (tI x.Torque), .t (tI x.Priority)]), (34, .pe 1000000 (Int.toNat (w64 (a + s.1))) 4 0)], [(1000000, .rs 82 4 s.2 enc_SRequest)]⟩) _ rfl rfl ?_ ?_ ?_))))
          · exact TieO.loadY hx rfl rfl rfl rfl rfl rfl rfl rfl (.nil (TieS.leaf ⟨rfl, .of rfl rfl⟩))
          · refine TieA.all [19] (by kernel_rfl) rfl (AllA.cons _ rfl rfl ?_ A_0 ?_)
            · exact TieO.loadY hx2 rfl rfl rfl rfl rfl rfl rfl rfl (.nil (TieS.leaf ⟨rfl, .of rfl rfl⟩))
            exact AllA.nil
          refine AllA.cons (σ₁ := ⟨[(0, .own 1000000), (1, .t (tI a)), (2, .t (tI b2)), (3, .t (tI n2)), (10, .t (tI s.1)), (16, .own 1000000), (19, .t (tI (w64 (a + s.1)))), (20, .own 1000000), (23, .t (tI (w64 (b2 + s.1)))), (28, .pe 1000000 (Int.toNat (w64 (b2 + s.1))) 4 0), (35, .agg [.t (tI x2.Source), .t (tI x2.Kind), .t (tI x2.Torque), .t (tI x2.Priority)])], [(1000000, .rs 82 4 s.2 enc_SRequest)]⟩) _ rfl rfl ?_ ?_ ?_
          · exact TieO.loadY hx2 rfl rfl rfl rfl rfl rfl rfl rfl (.nil (TieS.leaf ⟨rfl, .of rfl rfl⟩))
          · refine TieA.all [13] (by kernel_rfl) rfl (AllA.cons _ rfl rfl ?_ A_0 ?_)
            · exact TieO.loadY hx rfl rfl rfl rfl rfl rfl rfl rfl (.nil (TieS.leaf ⟨rfl, .of rfl rfl⟩))
            exact AllA.nil
          exact AllA.nil
        exact TieO.indexO rfl rfl rfl rfl rfl rfl rfl rfl rfl rfl fun x3 hx3 => .storeY x2 [tI x2.Source, tI x2.Kind, tI x2.Torque, tI x2.Priority] hx3 rfl rfl rfl rfl rfl rfl rfl rfl rfl rfl rfl rfl fun l2 hl2 => .nil (.leaf ⟨rfl, .of rfl rfl⟩)
      rintro f2 e σ' _ ⟨rfl, hs⟩
      refine TieX.sub hs (TieS.endb (.region (.run 3 rfl (.nil ?_))))
      exact TieS.leaf ⟨rfl, .of rfl rfl⟩
    · exact TieS.exitOut rfl ⟨(fun h => by cases h), rfl, .of rfl rfl⟩
  rintro (s2 | r) e σ' _ hq
  · obtain ⟨rfl, hs⟩ := hq
    refine TieX.exit rfl (TieX.sub hs ?_)
    exact TieS.leaf ⟨.inr rfl, ⟨[(1000000, 1000000)], _, _, rfl, rfl, rfl, rfl, rfl⟩⟩
  · exact hq.elim
set_option maxRecDepth 100000 in
theorem tie_slices_rotateCmpFunc_Request (data : List SRequest) (a : Int) (m2 : Int) (b2 : Int) (n2 : Nat) (cs : List (List Tree)) (cmp : SRequest → SRequest → Option Int) (h2 : ∀ x0 x1, TieF Tryz.prog n2 ([A_SRequest x0, A_SRequest x1] ++ cs.map T.el) (cmp x0 x1) (fun r => .t (tI r))) : TieG Tryz.prog 102 [.own 1000000, .t (tI a), .t (tI m2), .t (tI b2), .fz n2 cs] [(1000000, .rs 82 4 data enc_SRequest)] (slices_rotateCmpFunc_Request data a m2 b2 cmp) (fun _ => .tup []) (fun r => [(1000000, .rs 82 4 r enc_SRequest)]) := by
  refine TieG.intro htab 58 [] Tryz.call102 Tryz.func102 rfl rfl rfl (Nat.le_of_ble_eq_true rfl) fun w0 L => ?_
  refine TieS.seq (.region (.run 4 rfl (.nil (.seq ?_))))
  refine TieS.region (.run 4 rfl (.nil (.seq (.block ?_))))
  refine TieS.loop (fun t => ⟨[(0, .own 1000000), (2, .t (tI m2)), (4, .fz n2 cs), (10, .t (tI t.1)), (11, .t (tI t.2.1))], [(1000000, .rs 82 4 t.2.2 enc_SRequest)]⟩) (fun b e σ' => match b with | .inl t => e = .exit 0 ∧ Sub ⟨[(0, .own 1000000), (2, .t (tI m2)), (4, .fz n2 cs), (10, .t (tI t.1))], [(1000000, .rs 82 4 t.2.2 enc_SRequest)]⟩ σ' | .inr t => False) (.of rfl rfl) ?_ ?_
  · intro s
    refine TieS.seq (.seq (.region (.run 3 rfl (.nil ?_))))
    refine TieS.cond rfl ?_ ?_
    · refine TieS.skip (.block (.seq (.region (.run 3 rfl ?_))))
      refine TieO.nil (.cond rfl ?_ ?_)
      · refine TieS.seq (.region (.run 7 rfl (.callG [(1000000, 1000000)] [] (fun v => ⟨[(0, .own 1000000), (2, .t (tI m2)), (4, .fz n2 cs), (10, .t (tI s.1)), (11, .t (tI s.2.1)), (18, .t (tI s.1)), (19, .t (tI s.2.1)), (20, .t (tB (s.1 != s.2.1))), (21, .t (tI s.1)), (22, .t (tI s.2.1)), (23, .t (tB (decide (s.1 > s.2.1)))), (24, .own 1000000), (25, .t (tI m2)), (26, .t (tI s.1)), (27, .t (tI (w64 (m2 - s.1)))), (28, .t (tI m2)), (29, .t (tI s.2.1)), (30, .fz n2 cs), (31, .tup [])], [(1000000, .rs 82 4 v enc_SRequest)]⟩) (tie_slices_swapRangeCmpFunc_Request s.2.2 (w64 (m2 - s.1)) m2 s.2.1 n2 cs cmp h2) rfl rfl rfl rfl rfl rfl rfl (fun _ => rfl) (fun _ => rfl) (fun _ => rfl) (fun _ => .of rfl rfl) fun v hv => .nil ?_)))
        exact TieS.region (.run 4 rfl (.nil (.endb (.leaf ⟨rfl, .of rfl rfl⟩))))
      · refine TieS.seq (.region (.run 11 rfl (.callG [(1000000, 1000000)] [] (fun v2 => ⟨[(0, .own 1000000), (2, .t (tI m2)), (4, .fz n2 cs), (10, .t (tI s.1)), (11, .t (tI s.2.1)), (18, .t (tI s.1)), (19, .t (tI s.2.1)), (20, .t (tB (s.1 != s.2.1))), (21, .t (tI s.1)), (22, .t (tI s.2.1)), (23, .t (tB (decide (s.1 > s.2.1)))), (35, .own 1000000), (36, .t (tI m2)), (37, .t (tI s.1)), (38, .t (tI (w64 (m2 - s.1)))), (39, .t (tI m2)), (40, .t (tI s.2.1)), (41, .t (tI (w64 (m2 + s.2.1)))), (42, .t (tI s.1)), (43, .t (tI (w64 ((w64 (m2 + s.2.1)) - s.1)))), (44, .t (tI s.1)), (45, .fz n2 cs), (46, .tup [])], [(1000000, .rs 82 4 v2 enc_SRequest)]⟩) (tie_slices_swapRangeCmpFunc_Request s.2.2 (w64 (m2 - s.1)) (w64 ((w64 (m2 + s.2.1)) - s.1)) s.1 n2 cs cmp h2) rfl rfl rfl rfl rfl rfl rfl (fun _ => rfl) (fun _ => rfl) (fun _ => rfl) (fun _ => .of rfl rfl) fun v2 hv2 => .nil ?_)))
        exact TieS.region (.run 4 rfl (.nil (.endb (.leaf ⟨rfl, .of rfl rfl⟩))))
    · exact TieS.exitOut rfl ⟨(fun h => by cases h), rfl, .of rfl rfl⟩
  rintro (s2 | r) e σ' _ hq
  · obtain ⟨rfl, hs⟩ := hq
    refine TieX.exit rfl (TieX.sub hs ?_)
    exact TieS.region (.run 7 rfl (.callG [(1000000, 1000000)] [] (fun v3 => ⟨[(0, .own 1000000), (2, .t (tI m2)), (4, .fz n2 cs), (10, .t (tI s2.1)), (50, .own 1000000), (51, .t (tI m2)), (52, .t (tI s2.1)), (53, .t (tI (w64 (m2 - s2.1)))), (54, .t (tI m2)), (55, .t (tI s2.1)), (56, .fz n2 cs), (57, .tup [])], [(1000000, .rs 82 4 v3 enc_SRequest)]⟩) (tie_slices_swapRangeCmpFunc_Request s2.2.2 (w64 (m2 - s2.1)) m2 s2.1 n2 cs cmp h2) rfl rfl rfl rfl rfl rfl rfl (fun _ => rfl) (fun _ => rfl) (fun _ => rfl) (fun _ => .of rfl rfl) fun v3 hv3 => .nil (.leaf ⟨.inr rfl, ⟨[(1000000, 1000000)], _, _, rfl, rfl, rfl, rfl, rfl⟩⟩)))
  · exact hq.elim
end Go.Proofs.YtjgoihfcmpjimaaGreat
