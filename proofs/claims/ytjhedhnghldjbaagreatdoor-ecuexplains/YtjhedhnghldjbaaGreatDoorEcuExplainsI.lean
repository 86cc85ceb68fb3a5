/- This file joins: The table of types, printed by gen3.py. Part Xg: loops by invariants, lists. Plain Lean. The walk reckoned, part N: what models run as, for the bridge to plain models. -/
import Derived.Test.YtjhedhnghldjbaaGreatDoorEcuExplainsH
import Derived.Test.YtjhedhnghldjbaaGreatDoorProg
import Derived.KernelRfl
set_option linter.unusedSimpArgs false
set_option linter.unusedVariables false
namespace Go.Proofs.YtjhedhnghldjbaaGreatDoor
open Go Go.Pv Go.Proofs
set_option maxRecDepth 100000
set_option maxHeartbeats 4000000
theorem mixed : Tryz.prog.follows .mixedOrders = true := by kernel_rfl
def tab : Tab := [(3, ⟨1, .int .i64, [.int .i64 0]⟩),
  (4, ⟨1, .bool, [.bool false]⟩),
  (5, ⟨1, .int .u8, [.int .u8 0]⟩),
  (9, ⟨1, .string, [.string (ByteArray.mk #[])]⟩),
  (22, ⟨1, .slice 409, [.slice none 0 0]⟩),
  (23, ⟨1, .slice 31, [.slice none 0 0]⟩),
  (25, ⟨7, .struct [(0, 1), (1, 1), (2, 1), (3, 1), (4, 1), (5, 1), (6, 1)], [.int .i64 0, .int .i64 0, .int .i64 0, .int .i64 0, .slice none 0 0, .slice none 0 0, .bool false]⟩),
  (26, ⟨1, .slice 44, [.slice none 0 0]⟩),
  (29, ⟨1, .slice 3, [.slice none 0 0]⟩),
  (31, ⟨2, .struct [(0, 1), (1, 1)], [.int .i64 0, .slice none 0 0]⟩),
  (33, ⟨1, .int .i64, [.int .i64 0]⟩),
  (38, ⟨1, .slice 63, [.slice none 0 0]⟩),
  (44, ⟨8, .struct [(0, 1), (1, 1), (2, 1), (3, 1), (4, 1), (5, 1), (6, 1), (7, 1)], [.int .i64 0, .int .i64 0, .int .i64 0, .int .i64 0, .int .i64 0, .int .i64 0, .bool false, .int .i64 0]⟩),
  (47, ⟨1, .slice 29, [.slice none 0 0]⟩),
  (49, ⟨3, .struct [(0, 1), (1, 1), (2, 1)], [.slice none 0 0, .slice none 0 0, .slice none 0 0]⟩),
  (51, ⟨2, .struct [(0, 1), (1, 1)], [.slice none 0 0, .slice none 0 0]⟩),
  (53, ⟨4, .struct [(0, 1), (1, 1), (2, 1), (3, 1)], [.int .i64 0, .int .i64 0, .int .i64 0, .int .i64 0]⟩),
  (55, ⟨24, .struct [(0, 3), (3, 3), (6, 3), (9, 3), (12, 2), (14, 2), (16, 2), (18, 2), (20, 4)], [.slice none 0 0, .slice none 0 0, .slice none 0 0, .slice none 0 0, .slice none 0 0, .slice none 0 0, .slice none 0 0, .slice none 0 0, .slice none 0 0, .slice none 0 0, .slice none 0 0, .slice none 0 0, .slice none 0 0, .slice none 0 0, .slice none 0 0, .slice none 0 0, .slice none 0 0, .slice none 0 0, .slice none 0 0, .slice none 0 0, .int .i64 0, .int .i64 0, .int .i64 0, .int .i64 0]⟩),
  (59, ⟨7, .struct [(0, 1), (1, 1), (2, 1), (3, 1), (4, 1), (5, 1), (6, 1)], [.int .i64 0, .int .i64 0, .int .i64 0, .int .i64 0, .int .i64 0, .int .i64 0, .int .i64 0]⟩),
  (63, ⟨5, .struct [(0, 1), (1, 1), (2, 1), (3, 1), (4, 1)], [.string (ByteArray.mk #[]), .int .i64 0, .int .i64 0, .slice none 0 0, .int .i64 0]⟩),
  (68, ⟨2, .struct [(0, 1), (1, 1)], [.slice none 0 0, .int .i64 0]⟩),
  (69, ⟨1, .int .u16, [.int .u16 0]⟩),
  (71, ⟨3, .struct [(0, 1), (1, 1), (2, 1)], [.int .i64 0, .int .i64 0, .bool false]⟩),
  (73, ⟨1, .struct [(0, 1)], [.int .i64 0]⟩),
  (74, ⟨1, .slice 237, [.slice none 0 0]⟩),
  (75, ⟨1, .slice 359, [.slice none 0 0]⟩),
  (77, ⟨5, .struct [(0, 1), (1, 1), (2, 1), (3, 1), (4, 1)], [.bool false, .bool false, .int .i64 0, .int .i64 0, .slice none 0 0]⟩),
  (79, ⟨2, .struct [(0, 1), (1, 1)], [.int .i64 0, .int .i64 0]⟩),
  (81, ⟨13, .struct [(0, 3), (3, 1), (4, 1), (5, 5), (10, 1), (11, 2)], [.int .i64 0, .int .i64 0, .bool false, .int .i64 0, .slice none 0 0, .bool false, .bool false, .int .i64 0, .int .i64 0, .slice none 0 0, .int .i64 0, .int .i64 0, .int .i64 0]⟩),
  (83, ⟨6, .struct [(0, 1), (1, 1), (2, 1), (3, 1), (4, 1), (5, 1)], [.bool false, .int .i64 0, .int .i64 0, .int .i64 0, .int .i64 0, .int .i64 0]⟩),
  (84, ⟨1, .slice 351, [.slice none 0 0]⟩),
  (86, ⟨2, .struct [(0, 1), (1, 1)], [.int .i64 0, .slice none 0 0]⟩),
  (87, ⟨1, .slice 293, [.slice none 0 0]⟩),
  (88, ⟨1, .slice 248, [.slice none 0 0]⟩),
  (90, ⟨13, .struct [(0, 2), (2, 6), (8, 2), (10, 1), (11, 1), (12, 1)], [.slice none 0 0, .int .i64 0, .bool false, .int .i64 0, .int .i64 0, .int .i64 0, .int .i64 0, .int .i64 0, .int .i64 0, .slice none 0 0, .slice none 0 0, .slice none 0 0, .bool false]⟩),
  (92, ⟨6, .struct [(0, 1), (1, 1), (2, 1), (3, 1), (4, 1), (5, 1)], [.int .i64 0, .int .i64 0, .int .i64 0, .int .i64 0, .int .i64 0, .int .i64 0]⟩),
  (94, ⟨4, .struct [(0, 1), (1, 1), (2, 1), (3, 1)], [.bool false, .int .i64 0, .int .i64 0, .bool false]⟩),
  (96, ⟨3, .struct [(0, 1), (1, 1), (2, 1)], [.bool false, .int .i64 0, .int .i64 0]⟩),
  (98, ⟨3, .struct [(0, 1), (1, 1), (2, 1)], [.int .i64 0, .int .i64 0, .bool false]⟩),
  (100, ⟨5, .struct [(0, 1), (1, 1), (2, 1), (3, 1), (4, 1)], [.int .i64 0, .int .i64 0, .int .i64 0, .bool false, .bool false]⟩),
  (102, ⟨3, .struct [(0, 1), (1, 1), (2, 1)], [.bool false, .int .i64 0, .int .i64 0]⟩),
  (103, ⟨1, .slice 197, [.slice none 0 0]⟩),
  (105, ⟨4, .struct [(0, 1), (1, 1), (2, 1), (3, 1)], [.slice none 0 0, .slice none 0 0, .int .i64 0, .bool false]⟩),
  (107, ⟨6, .struct [(0, 1), (1, 1), (2, 1), (3, 1), (4, 1), (5, 1)], [.int .i64 0, .int .i64 0, .int .i64 0, .int .i64 0, .int .i64 0, .slice none 0 0]⟩),
  (109, ⟨92, .struct [(0, 24), (24, 13), (37, 13), (50, 6), (56, 4), (60, 3), (63, 3), (66, 5), (71, 3), (74, 4), (78, 6), (84, 7), (91, 1)], [.slice none 0 0, .slice none 0 0, .slice none 0 0, .slice none 0 0, .slice none 0 0, .slice none 0 0, .slice none 0 0, .slice none 0 0, .slice none 0 0, .slice none 0 0, .slice none 0 0, .slice none 0 0, .slice none 0 0, .slice none 0 0, .slice none 0 0, .slice none 0 0, .slice none 0 0, .slice none 0 0, .slice none 0 0, .slice none 0 0, .int .i64 0, .int .i64 0, .int .i64 0, .int .i64 0, .int .i64 0, .int .i64 0, .bool false, .int .i64 0, .slice none 0 0, .bool false, .bool false, .int .i64 0, .int .i64 0, .slice none 0 0, .int .i64 0, .int .i64 0, .int .i64 0, .slice none 0 0, .int .i64 0, .bool false, .int .i64 0, .int .i64 0, .int .i64 0, .int .i64 0, .int .i64 0, .int .i64 0, .slice none 0 0, .slice none 0 0, .slice none 0 0, .bool false, .int .i64 0, .int .i64 0, .int .i64 0, .int .i64 0, .int .i64 0, .int .i64 0, .bool false, .int .i64 0, .int .i64 0, .bool false, .bool false, .int .i64 0, .int .i64 0, .int .i64 0, .int .i64 0, .bool false, .int .i64 0, .int .i64 0, .int .i64 0, .bool false, .bool false, .bool false, .int .i64 0, .int .i64 0, .slice none 0 0, .slice none 0 0, .int .i64 0, .bool false, .int .i64 0, .int .i64 0, .int .i64 0, .int .i64 0, .int .i64 0, .slice none 0 0, .int .i64 0, .int .i64 0, .int .i64 0, .int .i64 0, .int .i64 0, .int .i64 0, .int .i64 0, .int .i64 0]⟩),
  (113, ⟨4, .struct [(0, 1), (1, 1), (2, 1), (3, 1)], [.int .i64 0, .int .i64 0, .int .i64 0, .int .i64 0]⟩),
  (114, ⟨1, .slice 113, [.slice none 0 0]⟩),
  (115, ⟨1, .slice 25, [.slice none 0 0]⟩),
  (119, ⟨5, .struct [(0, 1), (1, 1), (2, 1), (3, 1), (4, 1)], [.int .i64 0, .int .i64 0, .int .i64 0, .int .i64 0, .int .i64 0]⟩),
  (120, ⟨1, .slice 119, [.slice none 0 0]⟩),
  (128, ⟨1, .other, [.pointer none]⟩),
  (129, ⟨1, .slice 5, [.slice none 0 0]⟩),
  (131, ⟨2, .struct [(0, 1), (1, 1)], [.pointer none, .slice none 0 0]⟩),
  (132, ⟨1, .slice 9, [.slice none 0 0]⟩),
  (146, ⟨1, .slice 49, [.slice none 0 0]⟩),
  (149, ⟨1, .slice 51, [.slice none 0 0]⟩),
  (195, ⟨1, .other, [.pointer none]⟩),
  (197, ⟨7, .struct [(0, 1), (1, 1), (2, 1), (3, 1), (4, 1), (5, 1), (6, 1)], [.int .i64 0, .int .i64 0, .int .i64 0, .int .i64 0, .int .i64 0, .slice none 0 0, .int .i64 0]⟩),
  (204, ⟨2, .struct [(0, 1), (1, 1)], [.int .i64 0, .int .i64 0]⟩),
  (208, ⟨1, .struct [(0, 1)], [.slice none 0 0]⟩),
  (215, ⟨5, .array 5 3, [.int .i64 0, .int .i64 0, .int .i64 0, .int .i64 0, .int .i64 0]⟩),
  (218, ⟨3, .struct [(0, 1), (1, 1), (2, 1)], [.string (ByteArray.mk #[]), .int .i64 0, .int .i64 0]⟩),
  (219, ⟨15, .array 5 218, [.string (ByteArray.mk #[]), .int .i64 0, .int .i64 0, .string (ByteArray.mk #[]), .int .i64 0, .int .i64 0, .string (ByteArray.mk #[]), .int .i64 0, .int .i64 0, .string (ByteArray.mk #[]), .int .i64 0, .int .i64 0, .string (ByteArray.mk #[]), .int .i64 0, .int .i64 0]⟩),
  (223, ⟨1, .other, [.pointer none]⟩),
  (225, ⟨3, .struct [(0, 1), (1, 1), (2, 1)], [.int .i64 0, .slice none 0 0, .int .i64 0]⟩),
  (227, ⟨115, .struct [(0, 92), (92, 5), (97, 1), (98, 1), (99, 1), (100, 1), (101, 1), (102, 1), (103, 1), (104, 1), (105, 1), (106, 3), (109, 1), (110, 1), (111, 1), (112, 1), (113, 1), (114, 1)], [.slice none 0 0, .slice none 0 0, .slice none 0 0, .slice none 0 0, .slice none 0 0, .slice none 0 0, .slice none 0 0, .slice none 0 0, .slice none 0 0, .slice none 0 0, .slice none 0 0, .slice none 0 0, .slice none 0 0, .slice none 0 0, .slice none 0 0, .slice none 0 0, .slice none 0 0, .slice none 0 0, .slice none 0 0, .slice none 0 0, .int .i64 0, .int .i64 0, .int .i64 0, .int .i64 0, .int .i64 0, .int .i64 0, .bool false, .int .i64 0, .slice none 0 0, .bool false, .bool false, .int .i64 0, .int .i64 0, .slice none 0 0, .int .i64 0, .int .i64 0, .int .i64 0, .slice none 0 0, .int .i64 0, .bool false, .int .i64 0, .int .i64 0, .int .i64 0, .int .i64 0, .int .i64 0, .int .i64 0, .slice none 0 0, .slice none 0 0, .slice none 0 0, .bool false, .int .i64 0, .int .i64 0, .int .i64 0, .int .i64 0, .int .i64 0, .int .i64 0, .bool false, .int .i64 0, .int .i64 0, .bool false, .bool false, .int .i64 0, .int .i64 0, .int .i64 0, .int .i64 0, .bool false, .int .i64 0, .int .i64 0, .int .i64 0, .bool false, .bool false, .bool false, .int .i64 0, .int .i64 0, .slice none 0 0, .slice none 0 0, .int .i64 0, .bool false, .int .i64 0, .int .i64 0, .int .i64 0, .int .i64 0, .int .i64 0, .slice none 0 0, .int .i64 0, .int .i64 0, .int .i64 0, .int .i64 0, .int .i64 0, .int .i64 0, .int .i64 0, .int .i64 0, .int .i64 0, .int .i64 0, .int .i64 0, .int .i64 0, .int .i64 0, .slice none 0 0, .int .i64 0, .int .i64 0, .slice none 0 0, .int .i64 0, .int .i64 0, .int .i64 0, .int .i64 0, .int .i64 0, .int .i64 0, .slice none 0 0, .int .i64 0, .int .i64 0, .int .i64 0, .bool false, .bool false, .slice none 0 0, .int .i64 0]⟩),
  (237, ⟨3, .struct [(0, 1), (1, 1), (2, 1)], [.int .i64 0, .int .i64 0, .int .i64 0]⟩),
  (246, ⟨4, .struct [(0, 1), (1, 1), (2, 1), (3, 1)], [.int .i64 0, .int .i64 0, .int .i64 0, .int .i64 0]⟩),
  (248, ⟨7, .struct [(0, 4), (4, 1), (5, 1), (6, 1)], [.int .i64 0, .int .i64 0, .int .i64 0, .int .i64 0, .int .i64 0, .bool false, .int .i64 0]⟩),
  (265, ⟨1, .int .u64, [.int .u64 0]⟩),
  (266, ⟨7, .array 7 4, [.bool false, .bool false, .bool false, .bool false, .bool false, .bool false, .bool false]⟩),
  (276, ⟨4, .struct [(0, 1), (1, 1), (2, 1), (3, 1)], [.int .i64 0, .int .i64 0, .int .i64 0, .int .i64 0]⟩),
  (278, ⟨1, .slice 276, [.slice none 0 0]⟩),
  (280, ⟨10, .struct [(0, 1), (1, 1), (2, 1), (3, 1), (4, 1), (5, 1), (6, 1), (7, 1), (8, 1), (9, 1)], [.int .i64 0, .int .i64 0, .int .i64 0, .int .i64 0, .int .i64 0, .int .i64 0, .int .i64 0, .int .i64 0, .slice none 0 0, .slice none 0 0]⟩),
  (293, ⟨7, .struct [(0, 1), (1, 1), (2, 1), (3, 1), (4, 1), (5, 1), (6, 1)], [.int .i64 0, .int .i64 0, .int .i64 0, .int .i64 0, .int .i64 0, .int .i64 0, .int .i64 0]⟩),
  (336, ⟨2, .struct [(0, 1), (1, 1)], [.int .i64 0, .int .i64 0]⟩),
  (351, ⟨4, .struct [(0, 1), (1, 1), (2, 1), (3, 1)], [.bool false, .int .i64 0, .bool false, .bool false]⟩),
  (359, ⟨2, .struct [(0, 1), (1, 1)], [.int .i64 0, .int .i64 0]⟩),
  (374, ⟨1, .other, [.pointer none]⟩),
  (375, ⟨1, .slice 4, [.slice none 0 0]⟩),
  (377, ⟨66, .struct [(0, 24), (24, 2), (26, 7), (33, 13), (46, 10), (56, 1), (57, 1), (58, 1), (59, 1), (60, 1), (61, 1), (62, 3), (65, 1)], [.slice none 0 0, .slice none 0 0, .slice none 0 0, .slice none 0 0, .slice none 0 0, .slice none 0 0, .slice none 0 0, .slice none 0 0, .slice none 0 0, .slice none 0 0, .slice none 0 0, .slice none 0 0, .slice none 0 0, .slice none 0 0, .slice none 0 0, .slice none 0 0, .slice none 0 0, .slice none 0 0, .slice none 0 0, .slice none 0 0, .int .i64 0, .int .i64 0, .int .i64 0, .int .i64 0, .slice none 0 0, .int .i64 0, .int .i64 0, .int .i64 0, .int .i64 0, .int .i64 0, .int .i64 0, .int .i64 0, .int .i64 0, .int .i64 0, .int .i64 0, .bool false, .int .i64 0, .slice none 0 0, .bool false, .bool false, .int .i64 0, .int .i64 0, .slice none 0 0, .int .i64 0, .int .i64 0, .int .i64 0, .int .i64 0, .int .i64 0, .int .i64 0, .int .i64 0, .int .i64 0, .int .i64 0, .int .i64 0, .int .i64 0, .slice none 0 0, .slice none 0 0, .int .i64 0, .int .i64 0, .int .i64 0, .int .i64 0, .slice none 0 0, .int .i64 0, .int .i64 0, .slice none 0 0, .int .i64 0, .int .i64 0]⟩),
  (401, ⟨1, .other, [.pointer none]⟩),
  (402, ⟨1, .other, [.pointer none]⟩),
  (404, ⟨13, .struct [(0, 6), (6, 7)], [.int .i64 0, .int .i64 0, .int .i64 0, .int .i64 0, .int .i64 0, .slice none 0 0, .int .i64 0, .int .i64 0, .int .i64 0, .int .i64 0, .int .i64 0, .int .i64 0, .int .i64 0]⟩),
  (409, ⟨3, .struct [(0, 1), (1, 1), (2, 1)], [.int .i64 0, .int .i64 0, .bool false]⟩),
  (413, ⟨1, .int .u64, [.int .u64 0]⟩),
  (468, ⟨3, .struct [(0, 1), (1, 1), (2, 1)], [.int .i64 0, .int .i64 0, .int .i64 0]⟩),
  (483, ⟨1, .slice 487, [.slice none 0 0]⟩),
  (487, ⟨5, .struct [(0, 4), (4, 1)], [.int .i64 0, .int .i64 0, .int .i64 0, .int .i64 0, .int .i64 0]⟩),
  (488, ⟨1, .other, [.pointer none]⟩),
  (505, ⟨1, .slice 246, [.slice none 0 0]⟩),
  (510, ⟨2, .array 2 3, [.int .i64 0, .int .i64 0]⟩),
  (511, ⟨4, .array 2 510, [.int .i64 0, .int .i64 0, .int .i64 0, .int .i64 0]⟩),
  (516, ⟨1, .other, [.pointer none]⟩)]
theorem ti3 : TIok Tryz.prog 3 ⟨1, .int .i64, [.int .i64 0]⟩ := ⟨Tryz.t3, _, by kernel_rfl, rfl, Tryz.underlying3, rfl, ⟨_, rfl, rfl⟩, Nat.le_of_ble_eq_true rfl⟩
theorem ti4 : TIok Tryz.prog 4 ⟨1, .bool, [.bool false]⟩ := ⟨Tryz.t4, _, by kernel_rfl, rfl, Tryz.underlying4, rfl, ⟨_, rfl, rfl⟩, Nat.le_of_ble_eq_true rfl⟩
theorem ti5 : TIok Tryz.prog 5 ⟨1, .int .u8, [.int .u8 0]⟩ := ⟨Tryz.t5, _, by kernel_rfl, rfl, Tryz.underlying5, rfl, ⟨_, rfl, rfl⟩, Nat.le_of_ble_eq_true rfl⟩
theorem ti9 : TIok Tryz.prog 9 ⟨1, .string, [.string (ByteArray.mk #[])]⟩ := ⟨Tryz.t9, _, by kernel_rfl, rfl, Tryz.underlying9, rfl, ⟨_, rfl, rfl⟩, Nat.le_of_ble_eq_true rfl⟩
theorem ti22 : TIok Tryz.prog 22 ⟨1, .slice 409, [.slice none 0 0]⟩ := ⟨Tryz.t22, _, by kernel_rfl, rfl, Tryz.underlying22, rfl, ⟨_, rfl, rfl⟩, Nat.le_of_ble_eq_true rfl⟩
theorem ti23 : TIok Tryz.prog 23 ⟨1, .slice 31, [.slice none 0 0]⟩ := ⟨Tryz.t23, _, by kernel_rfl, rfl, Tryz.underlying23, rfl, ⟨_, rfl, rfl⟩, Nat.le_of_ble_eq_true rfl⟩
theorem ti25 : TIok Tryz.prog 25 ⟨7, .struct [(0, 1), (1, 1), (2, 1), (3, 1), (4, 1), (5, 1), (6, 1)], [.int .i64 0, .int .i64 0, .int .i64 0, .int .i64 0, .slice none 0 0, .slice none 0 0, .bool false]⟩ := by
  refine ⟨Tryz.t25, _, by kernel_rfl, rfl, Tryz.underlying25, ⟨_, rfl, rfl, fun f o n h => ?_⟩, ⟨_, rfl, rfl⟩, Nat.le_of_ble_eq_true rfl⟩
  match f, h with
  | 0, h => cases h; exact ⟨_, Tryz.t3, rfl, rfl, by kernel_rfl, rfl⟩
  | 1, h => cases h; exact ⟨_, Tryz.t3, rfl, rfl, by kernel_rfl, rfl⟩
  | 2, h => cases h; exact ⟨_, Tryz.t3, rfl, rfl, by kernel_rfl, rfl⟩
  | 3, h => cases h; exact ⟨_, Tryz.t3, rfl, rfl, by kernel_rfl, rfl⟩
  | 4, h => cases h; exact ⟨_, Tryz.t22, rfl, rfl, by kernel_rfl, rfl⟩
  | 5, h => cases h; exact ⟨_, Tryz.t23, rfl, rfl, by kernel_rfl, rfl⟩
  | 6, h => cases h; exact ⟨_, Tryz.t4, rfl, rfl, by kernel_rfl, rfl⟩
  | _ + 7, h => simp at h
theorem ti26 : TIok Tryz.prog 26 ⟨1, .slice 44, [.slice none 0 0]⟩ := ⟨Tryz.t26, _, by kernel_rfl, rfl, Tryz.underlying26, rfl, ⟨_, rfl, rfl⟩, Nat.le_of_ble_eq_true rfl⟩
theorem ti29 : TIok Tryz.prog 29 ⟨1, .slice 3, [.slice none 0 0]⟩ := ⟨Tryz.t29, _, by kernel_rfl, rfl, Tryz.underlying29, rfl, ⟨_, rfl, rfl⟩, Nat.le_of_ble_eq_true rfl⟩
theorem ti31 : TIok Tryz.prog 31 ⟨2, .struct [(0, 1), (1, 1)], [.int .i64 0, .slice none 0 0]⟩ := by
  refine ⟨Tryz.t31, _, by kernel_rfl, rfl, Tryz.underlying31, ⟨_, rfl, rfl, fun f o n h => ?_⟩, ⟨_, rfl, rfl⟩, Nat.le_of_ble_eq_true rfl⟩
  match f, h with
  | 0, h => cases h; exact ⟨_, Tryz.t3, rfl, rfl, by kernel_rfl, rfl⟩
  | 1, h => cases h; exact ⟨_, Tryz.t29, rfl, rfl, by kernel_rfl, rfl⟩
  | _ + 2, h => simp at h
theorem ti33 : TIok Tryz.prog 33 ⟨1, .int .i64, [.int .i64 0]⟩ := ⟨Tryz.t33, _, by kernel_rfl, rfl, Tryz.underlying33, rfl, ⟨_, rfl, rfl⟩, Nat.le_of_ble_eq_true rfl⟩
theorem ti38 : TIok Tryz.prog 38 ⟨1, .slice 63, [.slice none 0 0]⟩ := ⟨Tryz.t38, _, by kernel_rfl, rfl, Tryz.underlying38, rfl, ⟨_, rfl, rfl⟩, Nat.le_of_ble_eq_true rfl⟩
theorem ti44 : TIok Tryz.prog 44 ⟨8, .struct [(0, 1), (1, 1), (2, 1), (3, 1), (4, 1), (5, 1), (6, 1), (7, 1)], [.int .i64 0, .int .i64 0, .int .i64 0, .int .i64 0, .int .i64 0, .int .i64 0, .bool false, .int .i64 0]⟩ := by
  refine ⟨Tryz.t44, _, by kernel_rfl, rfl, Tryz.underlying44, ⟨_, rfl, rfl, fun f o n h => ?_⟩, ⟨_, rfl, rfl⟩, Nat.le_of_ble_eq_true rfl⟩
  match f, h with
  | 0, h => cases h; exact ⟨_, Tryz.t3, rfl, rfl, by kernel_rfl, rfl⟩
  | 1, h => cases h; exact ⟨_, Tryz.t3, rfl, rfl, by kernel_rfl, rfl⟩
  | 2, h => cases h; exact ⟨_, Tryz.t3, rfl, rfl, by kernel_rfl, rfl⟩
  | 3, h => cases h; exact ⟨_, Tryz.t3, rfl, rfl, by kernel_rfl, rfl⟩
  | 4, h => cases h; exact ⟨_, Tryz.t3, rfl, rfl, by kernel_rfl, rfl⟩
  | 5, h => cases h; exact ⟨_, Tryz.t3, rfl, rfl, by kernel_rfl, rfl⟩
  | 6, h => cases h; exact ⟨_, Tryz.t4, rfl, rfl, by kernel_rfl, rfl⟩
  | 7, h => cases h; exact ⟨_, Tryz.t3, rfl, rfl, by kernel_rfl, rfl⟩
  | _ + 8, h => simp at h
theorem ti47 : TIok Tryz.prog 47 ⟨1, .slice 29, [.slice none 0 0]⟩ := ⟨Tryz.t47, _, by kernel_rfl, rfl, Tryz.underlying47, rfl, ⟨_, rfl, rfl⟩, Nat.le_of_ble_eq_true rfl⟩
theorem ti49 : TIok Tryz.prog 49 ⟨3, .struct [(0, 1), (1, 1), (2, 1)], [.slice none 0 0, .slice none 0 0, .slice none 0 0]⟩ := by
  refine ⟨Tryz.t49, _, by kernel_rfl, rfl, Tryz.underlying49, ⟨_, rfl, rfl, fun f o n h => ?_⟩, ⟨_, rfl, rfl⟩, Nat.le_of_ble_eq_true rfl⟩
  match f, h with
  | 0, h => cases h; exact ⟨_, Tryz.t29, rfl, rfl, by kernel_rfl, rfl⟩
  | 1, h => cases h; exact ⟨_, Tryz.t29, rfl, rfl, by kernel_rfl, rfl⟩
  | 2, h => cases h; exact ⟨_, Tryz.t47, rfl, rfl, by kernel_rfl, rfl⟩
  | _ + 3, h => simp at h
theorem ti51 : TIok Tryz.prog 51 ⟨2, .struct [(0, 1), (1, 1)], [.slice none 0 0, .slice none 0 0]⟩ := by
  refine ⟨Tryz.t51, _, by kernel_rfl, rfl, Tryz.underlying51, ⟨_, rfl, rfl, fun f o n h => ?_⟩, ⟨_, rfl, rfl⟩, Nat.le_of_ble_eq_true rfl⟩
  match f, h with
  | 0, h => cases h; exact ⟨_, Tryz.t29, rfl, rfl, by kernel_rfl, rfl⟩
  | 1, h => cases h; exact ⟨_, Tryz.t29, rfl, rfl, by kernel_rfl, rfl⟩
  | _ + 2, h => simp at h
theorem ti53 : TIok Tryz.prog 53 ⟨4, .struct [(0, 1), (1, 1), (2, 1), (3, 1)], [.int .i64 0, .int .i64 0, .int .i64 0, .int .i64 0]⟩ := by
  refine ⟨Tryz.t53, _, by kernel_rfl, rfl, Tryz.underlying53, ⟨_, rfl, rfl, fun f o n h => ?_⟩, ⟨_, rfl, rfl⟩, Nat.le_of_ble_eq_true rfl⟩
  match f, h with
  | 0, h => cases h; exact ⟨_, Tryz.t3, rfl, rfl, by kernel_rfl, rfl⟩
  | 1, h => cases h; exact ⟨_, Tryz.t3, rfl, rfl, by kernel_rfl, rfl⟩
  | 2, h => cases h; exact ⟨_, Tryz.t3, rfl, rfl, by kernel_rfl, rfl⟩
  | 3, h => cases h; exact ⟨_, Tryz.t3, rfl, rfl, by kernel_rfl, rfl⟩
  | _ + 4, h => simp at h
theorem ti55 : TIok Tryz.prog 55 ⟨24, .struct [(0, 3), (3, 3), (6, 3), (9, 3), (12, 2), (14, 2), (16, 2), (18, 2), (20, 4)], [.slice none 0 0, .slice none 0 0, .slice none 0 0, .slice none 0 0, .slice none 0 0, .slice none 0 0, .slice none 0 0, .slice none 0 0, .slice none 0 0, .slice none 0 0, .slice none 0 0, .slice none 0 0, .slice none 0 0, .slice none 0 0, .slice none 0 0, .slice none 0 0, .slice none 0 0, .slice none 0 0, .slice none 0 0, .slice none 0 0, .int .i64 0, .int .i64 0, .int .i64 0, .int .i64 0]⟩ := by
  refine ⟨Tryz.t55, _, by kernel_rfl, rfl, Tryz.underlying55, ⟨_, rfl, rfl, fun f o n h => ?_⟩, ⟨_, rfl, rfl⟩, Nat.le_of_ble_eq_true rfl⟩
  match f, h with
  | 0, h => cases h; exact ⟨_, Tryz.t49, rfl, rfl, by kernel_rfl, rfl⟩
  | 1, h => cases h; exact ⟨_, Tryz.t49, rfl, rfl, by kernel_rfl, rfl⟩
  | 2, h => cases h; exact ⟨_, Tryz.t49, rfl, rfl, by kernel_rfl, rfl⟩
  | 3, h => cases h; exact ⟨_, Tryz.t49, rfl, rfl, by kernel_rfl, rfl⟩
  | 4, h => cases h; exact ⟨_, Tryz.t51, rfl, rfl, by kernel_rfl, rfl⟩
  | 5, h => cases h; exact ⟨_, Tryz.t51, rfl, rfl, by kernel_rfl, rfl⟩
  | 6, h => cases h; exact ⟨_, Tryz.t51, rfl, rfl, by kernel_rfl, rfl⟩
  | 7, h => cases h; exact ⟨_, Tryz.t51, rfl, rfl, by kernel_rfl, rfl⟩
  | 8, h => cases h; exact ⟨_, Tryz.t53, rfl, rfl, by kernel_rfl, rfl⟩
  | _ + 9, h => simp at h
theorem ti59 : TIok Tryz.prog 59 ⟨7, .struct [(0, 1), (1, 1), (2, 1), (3, 1), (4, 1), (5, 1), (6, 1)], [.int .i64 0, .int .i64 0, .int .i64 0, .int .i64 0, .int .i64 0, .int .i64 0, .int .i64 0]⟩ := by
  refine ⟨Tryz.t59, _, by kernel_rfl, rfl, Tryz.underlying59, ⟨_, rfl, rfl, fun f o n h => ?_⟩, ⟨_, rfl, rfl⟩, Nat.le_of_ble_eq_true rfl⟩
  match f, h with
  | 0, h => cases h; exact ⟨_, Tryz.t3, rfl, rfl, by kernel_rfl, rfl⟩
  | 1, h => cases h; exact ⟨_, Tryz.t3, rfl, rfl, by kernel_rfl, rfl⟩
  | 2, h => cases h; exact ⟨_, Tryz.t3, rfl, rfl, by kernel_rfl, rfl⟩
  | 3, h => cases h; exact ⟨_, Tryz.t3, rfl, rfl, by kernel_rfl, rfl⟩
  | 4, h => cases h; exact ⟨_, Tryz.t3, rfl, rfl, by kernel_rfl, rfl⟩
  | 5, h => cases h; exact ⟨_, Tryz.t3, rfl, rfl, by kernel_rfl, rfl⟩
  | 6, h => cases h; exact ⟨_, Tryz.t3, rfl, rfl, by kernel_rfl, rfl⟩
  | _ + 7, h => simp at h
theorem ti63 : TIok Tryz.prog 63 ⟨5, .struct [(0, 1), (1, 1), (2, 1), (3, 1), (4, 1)], [.string (ByteArray.mk #[]), .int .i64 0, .int .i64 0, .slice none 0 0, .int .i64 0]⟩ := by
  refine ⟨Tryz.t63, _, by kernel_rfl, rfl, Tryz.underlying63, ⟨_, rfl, rfl, fun f o n h => ?_⟩, ⟨_, rfl, rfl⟩, Nat.le_of_ble_eq_true rfl⟩
  match f, h with
  | 0, h => cases h; exact ⟨_, Tryz.t9, rfl, rfl, by kernel_rfl, rfl⟩
  | 1, h => cases h; exact ⟨_, Tryz.t3, rfl, rfl, by kernel_rfl, rfl⟩
  | 2, h => cases h; exact ⟨_, Tryz.t3, rfl, rfl, by kernel_rfl, rfl⟩
  | 3, h => cases h; exact ⟨_, Tryz.t29, rfl, rfl, by kernel_rfl, rfl⟩
  | 4, h => cases h; exact ⟨_, Tryz.t3, rfl, rfl, by kernel_rfl, rfl⟩
  | _ + 5, h => simp at h
theorem ti68 : TIok Tryz.prog 68 ⟨2, .struct [(0, 1), (1, 1)], [.slice none 0 0, .int .i64 0]⟩ := by
  refine ⟨Tryz.t68, _, by kernel_rfl, rfl, Tryz.underlying68, ⟨_, rfl, rfl, fun f o n h => ?_⟩, ⟨_, rfl, rfl⟩, Nat.le_of_ble_eq_true rfl⟩
  match f, h with
  | 0, h => cases h; exact ⟨_, Tryz.t29, rfl, rfl, by kernel_rfl, rfl⟩
  | 1, h => cases h; exact ⟨_, Tryz.t3, rfl, rfl, by kernel_rfl, rfl⟩
  | _ + 2, h => simp at h
theorem ti69 : TIok Tryz.prog 69 ⟨1, .int .u16, [.int .u16 0]⟩ := ⟨Tryz.t69, _, by kernel_rfl, rfl, Tryz.underlying69, rfl, ⟨_, rfl, rfl⟩, Nat.le_of_ble_eq_true rfl⟩
theorem ti71 : TIok Tryz.prog 71 ⟨3, .struct [(0, 1), (1, 1), (2, 1)], [.int .i64 0, .int .i64 0, .bool false]⟩ := by
  refine ⟨Tryz.t71, _, by kernel_rfl, rfl, Tryz.underlying71, ⟨_, rfl, rfl, fun f o n h => ?_⟩, ⟨_, rfl, rfl⟩, Nat.le_of_ble_eq_true rfl⟩
  match f, h with
  | 0, h => cases h; exact ⟨_, Tryz.t3, rfl, rfl, by kernel_rfl, rfl⟩
  | 1, h => cases h; exact ⟨_, Tryz.t3, rfl, rfl, by kernel_rfl, rfl⟩
  | 2, h => cases h; exact ⟨_, Tryz.t4, rfl, rfl, by kernel_rfl, rfl⟩
  | _ + 3, h => simp at h
theorem ti73 : TIok Tryz.prog 73 ⟨1, .struct [(0, 1)], [.int .i64 0]⟩ := by
  refine ⟨Tryz.t73, _, by kernel_rfl, rfl, Tryz.underlying73, ⟨_, rfl, rfl, fun f o n h => ?_⟩, ⟨_, rfl, rfl⟩, Nat.le_of_ble_eq_true rfl⟩
  match f, h with
  | 0, h => cases h; exact ⟨_, Tryz.t3, rfl, rfl, by kernel_rfl, rfl⟩
  | _ + 1, h => simp at h
theorem ti74 : TIok Tryz.prog 74 ⟨1, .slice 237, [.slice none 0 0]⟩ := ⟨Tryz.t74, _, by kernel_rfl, rfl, Tryz.underlying74, rfl, ⟨_, rfl, rfl⟩, Nat.le_of_ble_eq_true rfl⟩
theorem ti75 : TIok Tryz.prog 75 ⟨1, .slice 359, [.slice none 0 0]⟩ := ⟨Tryz.t75, _, by kernel_rfl, rfl, Tryz.underlying75, rfl, ⟨_, rfl, rfl⟩, Nat.le_of_ble_eq_true rfl⟩
theorem ti77 : TIok Tryz.prog 77 ⟨5, .struct [(0, 1), (1, 1), (2, 1), (3, 1), (4, 1)], [.bool false, .bool false, .int .i64 0, .int .i64 0, .slice none 0 0]⟩ := by
  refine ⟨Tryz.t77, _, by kernel_rfl, rfl, Tryz.underlying77, ⟨_, rfl, rfl, fun f o n h => ?_⟩, ⟨_, rfl, rfl⟩, Nat.le_of_ble_eq_true rfl⟩
  match f, h with
  | 0, h => cases h; exact ⟨_, Tryz.t4, rfl, rfl, by kernel_rfl, rfl⟩
  | 1, h => cases h; exact ⟨_, Tryz.t4, rfl, rfl, by kernel_rfl, rfl⟩
  | 2, h => cases h; exact ⟨_, Tryz.t3, rfl, rfl, by kernel_rfl, rfl⟩
  | 3, h => cases h; exact ⟨_, Tryz.t3, rfl, rfl, by kernel_rfl, rfl⟩
  | 4, h => cases h; exact ⟨_, Tryz.t75, rfl, rfl, by kernel_rfl, rfl⟩
  | _ + 5, h => simp at h
theorem ti79 : TIok Tryz.prog 79 ⟨2, .struct [(0, 1), (1, 1)], [.int .i64 0, .int .i64 0]⟩ := by
  refine ⟨Tryz.t79, _, by kernel_rfl, rfl, Tryz.underlying79, ⟨_, rfl, rfl, fun f o n h => ?_⟩, ⟨_, rfl, rfl⟩, Nat.le_of_ble_eq_true rfl⟩
  match f, h with
  | 0, h => cases h; exact ⟨_, Tryz.t3, rfl, rfl, by kernel_rfl, rfl⟩
  | 1, h => cases h; exact ⟨_, Tryz.t3, rfl, rfl, by kernel_rfl, rfl⟩
  | _ + 2, h => simp at h
theorem ti81 : TIok Tryz.prog 81 ⟨13, .struct [(0, 3), (3, 1), (4, 1), (5, 5), (10, 1), (11, 2)], [.int .i64 0, .int .i64 0, .bool false, .int .i64 0, .slice none 0 0, .bool false, .bool false, .int .i64 0, .int .i64 0, .slice none 0 0, .int .i64 0, .int .i64 0, .int .i64 0]⟩ := by
  refine ⟨Tryz.t81, _, by kernel_rfl, rfl, Tryz.underlying81, ⟨_, rfl, rfl, fun f o n h => ?_⟩, ⟨_, rfl, rfl⟩, Nat.le_of_ble_eq_true rfl⟩
  match f, h with
  | 0, h => cases h; exact ⟨_, Tryz.t71, rfl, rfl, by kernel_rfl, rfl⟩
  | 1, h => cases h; exact ⟨_, Tryz.t73, rfl, rfl, by kernel_rfl, rfl⟩
  | 2, h => cases h; exact ⟨_, Tryz.t74, rfl, rfl, by kernel_rfl, rfl⟩
  | 3, h => cases h; exact ⟨_, Tryz.t77, rfl, rfl, by kernel_rfl, rfl⟩
  | 4, h => cases h; exact ⟨_, Tryz.t3, rfl, rfl, by kernel_rfl, rfl⟩
  | 5, h => cases h; exact ⟨_, Tryz.t79, rfl, rfl, by kernel_rfl, rfl⟩
  | _ + 6, h => simp at h
theorem ti83 : TIok Tryz.prog 83 ⟨6, .struct [(0, 1), (1, 1), (2, 1), (3, 1), (4, 1), (5, 1)], [.bool false, .int .i64 0, .int .i64 0, .int .i64 0, .int .i64 0, .int .i64 0]⟩ := by
  refine ⟨Tryz.t83, _, by kernel_rfl, rfl, Tryz.underlying83, ⟨_, rfl, rfl, fun f o n h => ?_⟩, ⟨_, rfl, rfl⟩, Nat.le_of_ble_eq_true rfl⟩
  match f, h with
  | 0, h => cases h; exact ⟨_, Tryz.t4, rfl, rfl, by kernel_rfl, rfl⟩
  | 1, h => cases h; exact ⟨_, Tryz.t3, rfl, rfl, by kernel_rfl, rfl⟩
  | 2, h => cases h; exact ⟨_, Tryz.t3, rfl, rfl, by kernel_rfl, rfl⟩
  | 3, h => cases h; exact ⟨_, Tryz.t3, rfl, rfl, by kernel_rfl, rfl⟩
  | 4, h => cases h; exact ⟨_, Tryz.t3, rfl, rfl, by kernel_rfl, rfl⟩
  | 5, h => cases h; exact ⟨_, Tryz.t3, rfl, rfl, by kernel_rfl, rfl⟩
  | _ + 6, h => simp at h
theorem ti84 : TIok Tryz.prog 84 ⟨1, .slice 351, [.slice none 0 0]⟩ := ⟨Tryz.t84, _, by kernel_rfl, rfl, Tryz.underlying84, rfl, ⟨_, rfl, rfl⟩, Nat.le_of_ble_eq_true rfl⟩
theorem ti86 : TIok Tryz.prog 86 ⟨2, .struct [(0, 1), (1, 1)], [.int .i64 0, .slice none 0 0]⟩ := by
  refine ⟨Tryz.t86, _, by kernel_rfl, rfl, Tryz.underlying86, ⟨_, rfl, rfl, fun f o n h => ?_⟩, ⟨_, rfl, rfl⟩, Nat.le_of_ble_eq_true rfl⟩
  match f, h with
  | 0, h => cases h; exact ⟨_, Tryz.t3, rfl, rfl, by kernel_rfl, rfl⟩
  | 1, h => cases h; exact ⟨_, Tryz.t84, rfl, rfl, by kernel_rfl, rfl⟩
  | _ + 2, h => simp at h
theorem ti87 : TIok Tryz.prog 87 ⟨1, .slice 293, [.slice none 0 0]⟩ := ⟨Tryz.t87, _, by kernel_rfl, rfl, Tryz.underlying87, rfl, ⟨_, rfl, rfl⟩, Nat.le_of_ble_eq_true rfl⟩
theorem ti88 : TIok Tryz.prog 88 ⟨1, .slice 248, [.slice none 0 0]⟩ := ⟨Tryz.t88, _, by kernel_rfl, rfl, Tryz.underlying88, rfl, ⟨_, rfl, rfl⟩, Nat.le_of_ble_eq_true rfl⟩
theorem ti90 : TIok Tryz.prog 90 ⟨13, .struct [(0, 2), (2, 6), (8, 2), (10, 1), (11, 1), (12, 1)], [.slice none 0 0, .int .i64 0, .bool false, .int .i64 0, .int .i64 0, .int .i64 0, .int .i64 0, .int .i64 0, .int .i64 0, .slice none 0 0, .slice none 0 0, .slice none 0 0, .bool false]⟩ := by
  refine ⟨Tryz.t90, _, by kernel_rfl, rfl, Tryz.underlying90, ⟨_, rfl, rfl, fun f o n h => ?_⟩, ⟨_, rfl, rfl⟩, Nat.le_of_ble_eq_true rfl⟩
  match f, h with
  | 0, h => cases h; exact ⟨_, Tryz.t68, rfl, rfl, by kernel_rfl, rfl⟩
  | 1, h => cases h; exact ⟨_, Tryz.t83, rfl, rfl, by kernel_rfl, rfl⟩
  | 2, h => cases h; exact ⟨_, Tryz.t86, rfl, rfl, by kernel_rfl, rfl⟩
  | 3, h => cases h; exact ⟨_, Tryz.t87, rfl, rfl, by kernel_rfl, rfl⟩
  | 4, h => cases h; exact ⟨_, Tryz.t88, rfl, rfl, by kernel_rfl, rfl⟩
  | 5, h => cases h; exact ⟨_, Tryz.t4, rfl, rfl, by kernel_rfl, rfl⟩
  | _ + 6, h => simp at h
theorem ti92 : TIok Tryz.prog 92 ⟨6, .struct [(0, 1), (1, 1), (2, 1), (3, 1), (4, 1), (5, 1)], [.int .i64 0, .int .i64 0, .int .i64 0, .int .i64 0, .int .i64 0, .int .i64 0]⟩ := by
  refine ⟨Tryz.t92, _, by kernel_rfl, rfl, Tryz.underlying92, ⟨_, rfl, rfl, fun f o n h => ?_⟩, ⟨_, rfl, rfl⟩, Nat.le_of_ble_eq_true rfl⟩
  match f, h with
  | 0, h => cases h; exact ⟨_, Tryz.t3, rfl, rfl, by kernel_rfl, rfl⟩
  | 1, h => cases h; exact ⟨_, Tryz.t3, rfl, rfl, by kernel_rfl, rfl⟩
  | 2, h => cases h; exact ⟨_, Tryz.t3, rfl, rfl, by kernel_rfl, rfl⟩
  | 3, h => cases h; exact ⟨_, Tryz.t3, rfl, rfl, by kernel_rfl, rfl⟩
  | 4, h => cases h; exact ⟨_, Tryz.t3, rfl, rfl, by kernel_rfl, rfl⟩
  | 5, h => cases h; exact ⟨_, Tryz.t3, rfl, rfl, by kernel_rfl, rfl⟩
  | _ + 6, h => simp at h
theorem ti94 : TIok Tryz.prog 94 ⟨4, .struct [(0, 1), (1, 1), (2, 1), (3, 1)], [.bool false, .int .i64 0, .int .i64 0, .bool false]⟩ := by
  refine ⟨Tryz.t94, _, by kernel_rfl, rfl, Tryz.underlying94, ⟨_, rfl, rfl, fun f o n h => ?_⟩, ⟨_, rfl, rfl⟩, Nat.le_of_ble_eq_true rfl⟩
  match f, h with
  | 0, h => cases h; exact ⟨_, Tryz.t4, rfl, rfl, by kernel_rfl, rfl⟩
  | 1, h => cases h; exact ⟨_, Tryz.t3, rfl, rfl, by kernel_rfl, rfl⟩
  | 2, h => cases h; exact ⟨_, Tryz.t3, rfl, rfl, by kernel_rfl, rfl⟩
  | 3, h => cases h; exact ⟨_, Tryz.t4, rfl, rfl, by kernel_rfl, rfl⟩
  | _ + 4, h => simp at h
theorem ti96 : TIok Tryz.prog 96 ⟨3, .struct [(0, 1), (1, 1), (2, 1)], [.bool false, .int .i64 0, .int .i64 0]⟩ := by
  refine ⟨Tryz.t96, _, by kernel_rfl, rfl, Tryz.underlying96, ⟨_, rfl, rfl, fun f o n h => ?_⟩, ⟨_, rfl, rfl⟩, Nat.le_of_ble_eq_true rfl⟩
  match f, h with
  | 0, h => cases h; exact ⟨_, Tryz.t4, rfl, rfl, by kernel_rfl, rfl⟩
  | 1, h => cases h; exact ⟨_, Tryz.t3, rfl, rfl, by kernel_rfl, rfl⟩
  | 2, h => cases h; exact ⟨_, Tryz.t3, rfl, rfl, by kernel_rfl, rfl⟩
  | _ + 3, h => simp at h
theorem ti98 : TIok Tryz.prog 98 ⟨3, .struct [(0, 1), (1, 1), (2, 1)], [.int .i64 0, .int .i64 0, .bool false]⟩ := by
  refine ⟨Tryz.t98, _, by kernel_rfl, rfl, Tryz.underlying98, ⟨_, rfl, rfl, fun f o n h => ?_⟩, ⟨_, rfl, rfl⟩, Nat.le_of_ble_eq_true rfl⟩
  match f, h with
  | 0, h => cases h; exact ⟨_, Tryz.t3, rfl, rfl, by kernel_rfl, rfl⟩
  | 1, h => cases h; exact ⟨_, Tryz.t3, rfl, rfl, by kernel_rfl, rfl⟩
  | 2, h => cases h; exact ⟨_, Tryz.t4, rfl, rfl, by kernel_rfl, rfl⟩
  | _ + 3, h => simp at h
theorem ti100 : TIok Tryz.prog 100 ⟨5, .struct [(0, 1), (1, 1), (2, 1), (3, 1), (4, 1)], [.int .i64 0, .int .i64 0, .int .i64 0, .bool false, .bool false]⟩ := by
  refine ⟨Tryz.t100, _, by kernel_rfl, rfl, Tryz.underlying100, ⟨_, rfl, rfl, fun f o n h => ?_⟩, ⟨_, rfl, rfl⟩, Nat.le_of_ble_eq_true rfl⟩
  match f, h with
  | 0, h => cases h; exact ⟨_, Tryz.t3, rfl, rfl, by kernel_rfl, rfl⟩
  | 1, h => cases h; exact ⟨_, Tryz.t3, rfl, rfl, by kernel_rfl, rfl⟩
  | 2, h => cases h; exact ⟨_, Tryz.t3, rfl, rfl, by kernel_rfl, rfl⟩
  | 3, h => cases h; exact ⟨_, Tryz.t4, rfl, rfl, by kernel_rfl, rfl⟩
  | 4, h => cases h; exact ⟨_, Tryz.t4, rfl, rfl, by kernel_rfl, rfl⟩
  | _ + 5, h => simp at h
theorem ti102 : TIok Tryz.prog 102 ⟨3, .struct [(0, 1), (1, 1), (2, 1)], [.bool false, .int .i64 0, .int .i64 0]⟩ := by
  refine ⟨Tryz.t102, _, by kernel_rfl, rfl, Tryz.underlying102, ⟨_, rfl, rfl, fun f o n h => ?_⟩, ⟨_, rfl, rfl⟩, Nat.le_of_ble_eq_true rfl⟩
  match f, h with
  | 0, h => cases h; exact ⟨_, Tryz.t4, rfl, rfl, by kernel_rfl, rfl⟩
  | 1, h => cases h; exact ⟨_, Tryz.t3, rfl, rfl, by kernel_rfl, rfl⟩
  | 2, h => cases h; exact ⟨_, Tryz.t3, rfl, rfl, by kernel_rfl, rfl⟩
  | _ + 3, h => simp at h
theorem ti103 : TIok Tryz.prog 103 ⟨1, .slice 197, [.slice none 0 0]⟩ := ⟨Tryz.t103, _, by kernel_rfl, rfl, Tryz.underlying103, rfl, ⟨_, rfl, rfl⟩, Nat.le_of_ble_eq_true rfl⟩
theorem ti105 : TIok Tryz.prog 105 ⟨4, .struct [(0, 1), (1, 1), (2, 1), (3, 1)], [.slice none 0 0, .slice none 0 0, .int .i64 0, .bool false]⟩ := by
  refine ⟨Tryz.t105, _, by kernel_rfl, rfl, Tryz.underlying105, ⟨_, rfl, rfl, fun f o n h => ?_⟩, ⟨_, rfl, rfl⟩, Nat.le_of_ble_eq_true rfl⟩
  match f, h with
  | 0, h => cases h; exact ⟨_, Tryz.t26, rfl, rfl, by kernel_rfl, rfl⟩
  | 1, h => cases h; exact ⟨_, Tryz.t103, rfl, rfl, by kernel_rfl, rfl⟩
  | 2, h => cases h; exact ⟨_, Tryz.t3, rfl, rfl, by kernel_rfl, rfl⟩
  | 3, h => cases h; exact ⟨_, Tryz.t4, rfl, rfl, by kernel_rfl, rfl⟩
  | _ + 4, h => simp at h
theorem ti107 : TIok Tryz.prog 107 ⟨6, .struct [(0, 1), (1, 1), (2, 1), (3, 1), (4, 1), (5, 1)], [.int .i64 0, .int .i64 0, .int .i64 0, .int .i64 0, .int .i64 0, .slice none 0 0]⟩ := by
  refine ⟨Tryz.t107, _, by kernel_rfl, rfl, Tryz.underlying107, ⟨_, rfl, rfl, fun f o n h => ?_⟩, ⟨_, rfl, rfl⟩, Nat.le_of_ble_eq_true rfl⟩
  match f, h with
  | 0, h => cases h; exact ⟨_, Tryz.t3, rfl, rfl, by kernel_rfl, rfl⟩
  | 1, h => cases h; exact ⟨_, Tryz.t3, rfl, rfl, by kernel_rfl, rfl⟩
  | 2, h => cases h; exact ⟨_, Tryz.t3, rfl, rfl, by kernel_rfl, rfl⟩
  | 3, h => cases h; exact ⟨_, Tryz.t3, rfl, rfl, by kernel_rfl, rfl⟩
  | 4, h => cases h; exact ⟨_, Tryz.t3, rfl, rfl, by kernel_rfl, rfl⟩
  | 5, h => cases h; exact ⟨_, Tryz.t29, rfl, rfl, by kernel_rfl, rfl⟩
  | _ + 6, h => simp at h
theorem ti109 : TIok Tryz.prog 109 ⟨92, .struct [(0, 24), (24, 13), (37, 13), (50, 6), (56, 4), (60, 3), (63, 3), (66, 5), (71, 3), (74, 4), (78, 6), (84, 7), (91, 1)], [.slice none 0 0, .slice none 0 0, .slice none 0 0, .slice none 0 0, .slice none 0 0, .slice none 0 0, .slice none 0 0, .slice none 0 0, .slice none 0 0, .slice none 0 0, .slice none 0 0, .slice none 0 0, .slice none 0 0, .slice none 0 0, .slice none 0 0, .slice none 0 0, .slice none 0 0, .slice none 0 0, .slice none 0 0, .slice none 0 0, .int .i64 0, .int .i64 0, .int .i64 0, .int .i64 0, .int .i64 0, .int .i64 0, .bool false, .int .i64 0, .slice none 0 0, .bool false, .bool false, .int .i64 0, .int .i64 0, .slice none 0 0, .int .i64 0, .int .i64 0, .int .i64 0, .slice none 0 0, .int .i64 0, .bool false, .int .i64 0, .int .i64 0, .int .i64 0, .int .i64 0, .int .i64 0, .int .i64 0, .slice none 0 0, .slice none 0 0, .slice none 0 0, .bool false, .int .i64 0, .int .i64 0, .int .i64 0, .int .i64 0, .int .i64 0, .int .i64 0, .bool false, .int .i64 0, .int .i64 0, .bool false, .bool false, .int .i64 0, .int .i64 0, .int .i64 0, .int .i64 0, .bool false, .int .i64 0, .int .i64 0, .int .i64 0, .bool false, .bool false, .bool false, .int .i64 0, .int .i64 0, .slice none 0 0, .slice none 0 0, .int .i64 0, .bool false, .int .i64 0, .int .i64 0, .int .i64 0, .int .i64 0, .int .i64 0, .slice none 0 0, .int .i64 0, .int .i64 0, .int .i64 0, .int .i64 0, .int .i64 0, .int .i64 0, .int .i64 0, .int .i64 0]⟩ := by
  refine ⟨Tryz.t109, _, by kernel_rfl, rfl, Tryz.underlying109, ⟨_, rfl, rfl, fun f o n h => ?_⟩, ⟨_, rfl, rfl⟩, Nat.le_of_ble_eq_true rfl⟩
  match f, h with
  | 0, h => cases h; exact ⟨_, Tryz.t55, rfl, rfl, by kernel_rfl, rfl⟩
  | 1, h => cases h; exact ⟨_, Tryz.t81, rfl, rfl, by kernel_rfl, rfl⟩
  | 2, h => cases h; exact ⟨_, Tryz.t90, rfl, rfl, by kernel_rfl, rfl⟩
  | 3, h => cases h; exact ⟨_, Tryz.t92, rfl, rfl, by kernel_rfl, rfl⟩
  | 4, h => cases h; exact ⟨_, Tryz.t94, rfl, rfl, by kernel_rfl, rfl⟩
  | 5, h => cases h; exact ⟨_, Tryz.t96, rfl, rfl, by kernel_rfl, rfl⟩
  | 6, h => cases h; exact ⟨_, Tryz.t98, rfl, rfl, by kernel_rfl, rfl⟩
  | 7, h => cases h; exact ⟨_, Tryz.t100, rfl, rfl, by kernel_rfl, rfl⟩
  | 8, h => cases h; exact ⟨_, Tryz.t102, rfl, rfl, by kernel_rfl, rfl⟩
  | 9, h => cases h; exact ⟨_, Tryz.t105, rfl, rfl, by kernel_rfl, rfl⟩
  | 10, h => cases h; exact ⟨_, Tryz.t107, rfl, rfl, by kernel_rfl, rfl⟩
  | 11, h => cases h; exact ⟨_, Tryz.t59, rfl, rfl, by kernel_rfl, rfl⟩
  | 12, h => cases h; exact ⟨_, Tryz.t3, rfl, rfl, by kernel_rfl, rfl⟩
  | _ + 13, h => simp at h
theorem ti113 : TIok Tryz.prog 113 ⟨4, .struct [(0, 1), (1, 1), (2, 1), (3, 1)], [.int .i64 0, .int .i64 0, .int .i64 0, .int .i64 0]⟩ := by
  refine ⟨Tryz.t113, _, by kernel_rfl, rfl, Tryz.underlying113, ⟨_, rfl, rfl, fun f o n h => ?_⟩, ⟨_, rfl, rfl⟩, Nat.le_of_ble_eq_true rfl⟩
  match f, h with
  | 0, h => cases h; exact ⟨_, Tryz.t3, rfl, rfl, by kernel_rfl, rfl⟩
  | 1, h => cases h; exact ⟨_, Tryz.t3, rfl, rfl, by kernel_rfl, rfl⟩
  | 2, h => cases h; exact ⟨_, Tryz.t3, rfl, rfl, by kernel_rfl, rfl⟩
  | 3, h => cases h; exact ⟨_, Tryz.t3, rfl, rfl, by kernel_rfl, rfl⟩
  | _ + 4, h => simp at h
theorem ti114 : TIok Tryz.prog 114 ⟨1, .slice 113, [.slice none 0 0]⟩ := ⟨Tryz.t114, _, by kernel_rfl, rfl, Tryz.underlying114, rfl, ⟨_, rfl, rfl⟩, Nat.le_of_ble_eq_true rfl⟩
theorem ti115 : TIok Tryz.prog 115 ⟨1, .slice 25, [.slice none 0 0]⟩ := ⟨Tryz.t115, _, by kernel_rfl, rfl, Tryz.underlying115, rfl, ⟨_, rfl, rfl⟩, Nat.le_of_ble_eq_true rfl⟩
theorem ti119 : TIok Tryz.prog 119 ⟨5, .struct [(0, 1), (1, 1), (2, 1), (3, 1), (4, 1)], [.int .i64 0, .int .i64 0, .int .i64 0, .int .i64 0, .int .i64 0]⟩ := by
  refine ⟨Tryz.t119, _, by kernel_rfl, rfl, Tryz.underlying119, ⟨_, rfl, rfl, fun f o n h => ?_⟩, ⟨_, rfl, rfl⟩, Nat.le_of_ble_eq_true rfl⟩
  match f, h with
  | 0, h => cases h; exact ⟨_, Tryz.t3, rfl, rfl, by kernel_rfl, rfl⟩
  | 1, h => cases h; exact ⟨_, Tryz.t3, rfl, rfl, by kernel_rfl, rfl⟩
  | 2, h => cases h; exact ⟨_, Tryz.t3, rfl, rfl, by kernel_rfl, rfl⟩
  | 3, h => cases h; exact ⟨_, Tryz.t3, rfl, rfl, by kernel_rfl, rfl⟩
  | 4, h => cases h; exact ⟨_, Tryz.t3, rfl, rfl, by kernel_rfl, rfl⟩
  | _ + 5, h => simp at h
theorem ti120 : TIok Tryz.prog 120 ⟨1, .slice 119, [.slice none 0 0]⟩ := ⟨Tryz.t120, _, by kernel_rfl, rfl, Tryz.underlying120, rfl, ⟨_, rfl, rfl⟩, Nat.le_of_ble_eq_true rfl⟩
theorem ti128 : TIok Tryz.prog 128 ⟨1, .other, [.pointer none]⟩ := ⟨Tryz.t128, _, by kernel_rfl, rfl, Tryz.underlying128, rfl, ⟨_, rfl, rfl⟩, Nat.le_of_ble_eq_true rfl⟩
theorem ti129 : TIok Tryz.prog 129 ⟨1, .slice 5, [.slice none 0 0]⟩ := ⟨Tryz.t129, _, by kernel_rfl, rfl, Tryz.underlying129, rfl, ⟨_, rfl, rfl⟩, Nat.le_of_ble_eq_true rfl⟩
theorem ti131 : TIok Tryz.prog 131 ⟨2, .struct [(0, 1), (1, 1)], [.pointer none, .slice none 0 0]⟩ := by
  refine ⟨Tryz.t131, _, by kernel_rfl, rfl, Tryz.underlying131, ⟨_, rfl, rfl, fun f o n h => ?_⟩, ⟨_, rfl, rfl⟩, Nat.le_of_ble_eq_true rfl⟩
  match f, h with
  | 0, h => cases h; exact ⟨_, Tryz.t128, rfl, rfl, by kernel_rfl, rfl⟩
  | 1, h => cases h; exact ⟨_, Tryz.t129, rfl, rfl, by kernel_rfl, rfl⟩
  | _ + 2, h => simp at h
theorem ti132 : TIok Tryz.prog 132 ⟨1, .slice 9, [.slice none 0 0]⟩ := ⟨Tryz.t132, _, by kernel_rfl, rfl, Tryz.underlying132, rfl, ⟨_, rfl, rfl⟩, Nat.le_of_ble_eq_true rfl⟩
theorem ti146 : TIok Tryz.prog 146 ⟨1, .slice 49, [.slice none 0 0]⟩ := ⟨Tryz.t146, _, by kernel_rfl, rfl, Tryz.underlying146, rfl, ⟨_, rfl, rfl⟩, Nat.le_of_ble_eq_true rfl⟩
theorem ti149 : TIok Tryz.prog 149 ⟨1, .slice 51, [.slice none 0 0]⟩ := ⟨Tryz.t149, _, by kernel_rfl, rfl, Tryz.underlying149, rfl, ⟨_, rfl, rfl⟩, Nat.le_of_ble_eq_true rfl⟩
theorem ti195 : TIok Tryz.prog 195 ⟨1, .other, [.pointer none]⟩ := ⟨Tryz.t195, _, by kernel_rfl, rfl, Tryz.underlying195, rfl, ⟨_, rfl, rfl⟩, Nat.le_of_ble_eq_true rfl⟩
theorem ti197 : TIok Tryz.prog 197 ⟨7, .struct [(0, 1), (1, 1), (2, 1), (3, 1), (4, 1), (5, 1), (6, 1)], [.int .i64 0, .int .i64 0, .int .i64 0, .int .i64 0, .int .i64 0, .slice none 0 0, .int .i64 0]⟩ := by
  refine ⟨Tryz.t197, _, by kernel_rfl, rfl, Tryz.underlying197, ⟨_, rfl, rfl, fun f o n h => ?_⟩, ⟨_, rfl, rfl⟩, Nat.le_of_ble_eq_true rfl⟩
  match f, h with
  | 0, h => cases h; exact ⟨_, Tryz.t3, rfl, rfl, by kernel_rfl, rfl⟩
  | 1, h => cases h; exact ⟨_, Tryz.t3, rfl, rfl, by kernel_rfl, rfl⟩
  | 2, h => cases h; exact ⟨_, Tryz.t3, rfl, rfl, by kernel_rfl, rfl⟩
  | 3, h => cases h; exact ⟨_, Tryz.t3, rfl, rfl, by kernel_rfl, rfl⟩
  | 4, h => cases h; exact ⟨_, Tryz.t3, rfl, rfl, by kernel_rfl, rfl⟩
  | 5, h => cases h; exact ⟨_, Tryz.t29, rfl, rfl, by kernel_rfl, rfl⟩
  | 6, h => cases h; exact ⟨_, Tryz.t3, rfl, rfl, by kernel_rfl, rfl⟩
  | _ + 7, h => simp at h
theorem ti204 : TIok Tryz.prog 204 ⟨2, .struct [(0, 1), (1, 1)], [.int .i64 0, .int .i64 0]⟩ := by
  refine ⟨Tryz.t204, _, by kernel_rfl, rfl, Tryz.underlying204, ⟨_, rfl, rfl, fun f o n h => ?_⟩, ⟨_, rfl, rfl⟩, Nat.le_of_ble_eq_true rfl⟩
  match f, h with
  | 0, h => cases h; exact ⟨_, Tryz.t3, rfl, rfl, by kernel_rfl, rfl⟩
  | 1, h => cases h; exact ⟨_, Tryz.t3, rfl, rfl, by kernel_rfl, rfl⟩
  | _ + 2, h => simp at h
theorem ti208 : TIok Tryz.prog 208 ⟨1, .struct [(0, 1)], [.slice none 0 0]⟩ := by
  refine ⟨Tryz.t208, _, by kernel_rfl, rfl, Tryz.underlying208, ⟨_, rfl, rfl, fun f o n h => ?_⟩, ⟨_, rfl, rfl⟩, Nat.le_of_ble_eq_true rfl⟩
  match f, h with
  | 0, h => cases h; exact ⟨_, Tryz.t29, rfl, rfl, by kernel_rfl, rfl⟩
  | _ + 1, h => simp at h
theorem ti215 : TIok Tryz.prog 215 ⟨5, .array 5 3, [.int .i64 0, .int .i64 0, .int .i64 0, .int .i64 0, .int .i64 0]⟩ := ⟨Tryz.t215, _, by kernel_rfl, rfl, Tryz.underlying215, rfl, ⟨_, rfl, rfl⟩, Nat.le_of_ble_eq_true rfl⟩
theorem ti218 : TIok Tryz.prog 218 ⟨3, .struct [(0, 1), (1, 1), (2, 1)], [.string (ByteArray.mk #[]), .int .i64 0, .int .i64 0]⟩ := by
  refine ⟨Tryz.t218, _, by kernel_rfl, rfl, Tryz.underlying218, ⟨_, rfl, rfl, fun f o n h => ?_⟩, ⟨_, rfl, rfl⟩, Nat.le_of_ble_eq_true rfl⟩
  match f, h with
  | 0, h => cases h; exact ⟨_, Tryz.t9, rfl, rfl, by kernel_rfl, rfl⟩
  | 1, h => cases h; exact ⟨_, Tryz.t3, rfl, rfl, by kernel_rfl, rfl⟩
  | 2, h => cases h; exact ⟨_, Tryz.t3, rfl, rfl, by kernel_rfl, rfl⟩
  | _ + 3, h => simp at h
theorem ti219 : TIok Tryz.prog 219 ⟨15, .array 5 218, [.string (ByteArray.mk #[]), .int .i64 0, .int .i64 0, .string (ByteArray.mk #[]), .int .i64 0, .int .i64 0, .string (ByteArray.mk #[]), .int .i64 0, .int .i64 0, .string (ByteArray.mk #[]), .int .i64 0, .int .i64 0, .string (ByteArray.mk #[]), .int .i64 0, .int .i64 0]⟩ := ⟨Tryz.t219, _, by kernel_rfl, rfl, Tryz.underlying219, rfl, ⟨_, rfl, rfl⟩, Nat.le_of_ble_eq_true rfl⟩
theorem ti223 : TIok Tryz.prog 223 ⟨1, .other, [.pointer none]⟩ := ⟨Tryz.t223, _, by kernel_rfl, rfl, Tryz.underlying223, rfl, ⟨_, rfl, rfl⟩, Nat.le_of_ble_eq_true rfl⟩
theorem ti225 : TIok Tryz.prog 225 ⟨3, .struct [(0, 1), (1, 1), (2, 1)], [.int .i64 0, .slice none 0 0, .int .i64 0]⟩ := by
  refine ⟨Tryz.t225, _, by kernel_rfl, rfl, Tryz.underlying225, ⟨_, rfl, rfl, fun f o n h => ?_⟩, ⟨_, rfl, rfl⟩, Nat.le_of_ble_eq_true rfl⟩
  match f, h with
  | 0, h => cases h; exact ⟨_, Tryz.t3, rfl, rfl, by kernel_rfl, rfl⟩
  | 1, h => cases h; exact ⟨_, Tryz.t87, rfl, rfl, by kernel_rfl, rfl⟩
  | 2, h => cases h; exact ⟨_, Tryz.t3, rfl, rfl, by kernel_rfl, rfl⟩
  | _ + 3, h => simp at h
theorem ti227 : TIok Tryz.prog 227 ⟨115, .struct [(0, 92), (92, 5), (97, 1), (98, 1), (99, 1), (100, 1), (101, 1), (102, 1), (103, 1), (104, 1), (105, 1), (106, 3), (109, 1), (110, 1), (111, 1), (112, 1), (113, 1), (114, 1)], [.slice none 0 0, .slice none 0 0, .slice none 0 0, .slice none 0 0, .slice none 0 0, .slice none 0 0, .slice none 0 0, .slice none 0 0, .slice none 0 0, .slice none 0 0, .slice none 0 0, .slice none 0 0, .slice none 0 0, .slice none 0 0, .slice none 0 0, .slice none 0 0, .slice none 0 0, .slice none 0 0, .slice none 0 0, .slice none 0 0, .int .i64 0, .int .i64 0, .int .i64 0, .int .i64 0, .int .i64 0, .int .i64 0, .bool false, .int .i64 0, .slice none 0 0, .bool false, .bool false, .int .i64 0, .int .i64 0, .slice none 0 0, .int .i64 0, .int .i64 0, .int .i64 0, .slice none 0 0, .int .i64 0, .bool false, .int .i64 0, .int .i64 0, .int .i64 0, .int .i64 0, .int .i64 0, .int .i64 0, .slice none 0 0, .slice none 0 0, .slice none 0 0, .bool false, .int .i64 0, .int .i64 0, .int .i64 0, .int .i64 0, .int .i64 0, .int .i64 0, .bool false, .int .i64 0, .int .i64 0, .bool false, .bool false, .int .i64 0, .int .i64 0, .int .i64 0, .int .i64 0, .bool false, .int .i64 0, .int .i64 0, .int .i64 0, .bool false, .bool false, .bool false, .int .i64 0, .int .i64 0, .slice none 0 0, .slice none 0 0, .int .i64 0, .bool false, .int .i64 0, .int .i64 0, .int .i64 0, .int .i64 0, .int .i64 0, .slice none 0 0, .int .i64 0, .int .i64 0, .int .i64 0, .int .i64 0, .int .i64 0, .int .i64 0, .int .i64 0, .int .i64 0, .int .i64 0, .int .i64 0, .int .i64 0, .int .i64 0, .int .i64 0, .slice none 0 0, .int .i64 0, .int .i64 0, .slice none 0 0, .int .i64 0, .int .i64 0, .int .i64 0, .int .i64 0, .int .i64 0, .int .i64 0, .slice none 0 0, .int .i64 0, .int .i64 0, .int .i64 0, .bool false, .bool false, .slice none 0 0, .int .i64 0]⟩ := by
  refine ⟨Tryz.t227, _, by kernel_rfl, rfl, Tryz.underlying227, ⟨_, rfl, rfl, fun f o n h => ?_⟩, ⟨_, rfl, rfl⟩, Nat.le_of_ble_eq_true rfl⟩
  match f, h with
  | 0, h => cases h; exact ⟨_, Tryz.t109, rfl, rfl, by kernel_rfl, rfl⟩
  | 1, h => cases h; exact ⟨_, Tryz.t119, rfl, rfl, by kernel_rfl, rfl⟩
  | 2, h => cases h; exact ⟨_, Tryz.t114, rfl, rfl, by kernel_rfl, rfl⟩
  | 3, h => cases h; exact ⟨_, Tryz.t3, rfl, rfl, by kernel_rfl, rfl⟩
  | 4, h => cases h; exact ⟨_, Tryz.t3, rfl, rfl, by kernel_rfl, rfl⟩
  | 5, h => cases h; exact ⟨_, Tryz.t23, rfl, rfl, by kernel_rfl, rfl⟩
  | 6, h => cases h; exact ⟨_, Tryz.t3, rfl, rfl, by kernel_rfl, rfl⟩
  | 7, h => cases h; exact ⟨_, Tryz.t3, rfl, rfl, by kernel_rfl, rfl⟩
  | 8, h => cases h; exact ⟨_, Tryz.t3, rfl, rfl, by kernel_rfl, rfl⟩
  | 9, h => cases h; exact ⟨_, Tryz.t3, rfl, rfl, by kernel_rfl, rfl⟩
  | 10, h => cases h; exact ⟨_, Tryz.t3, rfl, rfl, by kernel_rfl, rfl⟩
  | 11, h => cases h; exact ⟨_, Tryz.t225, rfl, rfl, by kernel_rfl, rfl⟩
  | 12, h => cases h; exact ⟨_, Tryz.t3, rfl, rfl, by kernel_rfl, rfl⟩
  | 13, h => cases h; exact ⟨_, Tryz.t3, rfl, rfl, by kernel_rfl, rfl⟩
  | 14, h => cases h; exact ⟨_, Tryz.t4, rfl, rfl, by kernel_rfl, rfl⟩
  | 15, h => cases h; exact ⟨_, Tryz.t4, rfl, rfl, by kernel_rfl, rfl⟩
  | 16, h => cases h; exact ⟨_, Tryz.t22, rfl, rfl, by kernel_rfl, rfl⟩
  | 17, h => cases h; exact ⟨_, Tryz.t3, rfl, rfl, by kernel_rfl, rfl⟩
  | _ + 18, h => simp at h
theorem ti237 : TIok Tryz.prog 237 ⟨3, .struct [(0, 1), (1, 1), (2, 1)], [.int .i64 0, .int .i64 0, .int .i64 0]⟩ := by
  refine ⟨Tryz.t237, _, by kernel_rfl, rfl, Tryz.underlying237, ⟨_, rfl, rfl, fun f o n h => ?_⟩, ⟨_, rfl, rfl⟩, Nat.le_of_ble_eq_true rfl⟩
  match f, h with
  | 0, h => cases h; exact ⟨_, Tryz.t3, rfl, rfl, by kernel_rfl, rfl⟩
  | 1, h => cases h; exact ⟨_, Tryz.t3, rfl, rfl, by kernel_rfl, rfl⟩
  | 2, h => cases h; exact ⟨_, Tryz.t3, rfl, rfl, by kernel_rfl, rfl⟩
  | _ + 3, h => simp at h
theorem ti246 : TIok Tryz.prog 246 ⟨4, .struct [(0, 1), (1, 1), (2, 1), (3, 1)], [.int .i64 0, .int .i64 0, .int .i64 0, .int .i64 0]⟩ := by
  refine ⟨Tryz.t246, _, by kernel_rfl, rfl, Tryz.underlying246, ⟨_, rfl, rfl, fun f o n h => ?_⟩, ⟨_, rfl, rfl⟩, Nat.le_of_ble_eq_true rfl⟩
  match f, h with
  | 0, h => cases h; exact ⟨_, Tryz.t3, rfl, rfl, by kernel_rfl, rfl⟩
  | 1, h => cases h; exact ⟨_, Tryz.t3, rfl, rfl, by kernel_rfl, rfl⟩
  | 2, h => cases h; exact ⟨_, Tryz.t3, rfl, rfl, by kernel_rfl, rfl⟩
  | 3, h => cases h; exact ⟨_, Tryz.t3, rfl, rfl, by kernel_rfl, rfl⟩
  | _ + 4, h => simp at h
theorem ti248 : TIok Tryz.prog 248 ⟨7, .struct [(0, 4), (4, 1), (5, 1), (6, 1)], [.int .i64 0, .int .i64 0, .int .i64 0, .int .i64 0, .int .i64 0, .bool false, .int .i64 0]⟩ := by
  refine ⟨Tryz.t248, _, by kernel_rfl, rfl, Tryz.underlying248, ⟨_, rfl, rfl, fun f o n h => ?_⟩, ⟨_, rfl, rfl⟩, Nat.le_of_ble_eq_true rfl⟩
  match f, h with
  | 0, h => cases h; exact ⟨_, Tryz.t246, rfl, rfl, by kernel_rfl, rfl⟩
  | 1, h => cases h; exact ⟨_, Tryz.t3, rfl, rfl, by kernel_rfl, rfl⟩
  | 2, h => cases h; exact ⟨_, Tryz.t4, rfl, rfl, by kernel_rfl, rfl⟩
  | 3, h => cases h; exact ⟨_, Tryz.t3, rfl, rfl, by kernel_rfl, rfl⟩
  | _ + 4, h => simp at h
theorem ti265 : TIok Tryz.prog 265 ⟨1, .int .u64, [.int .u64 0]⟩ := ⟨Tryz.t265, _, by kernel_rfl, rfl, Tryz.underlying265, rfl, ⟨_, rfl, rfl⟩, Nat.le_of_ble_eq_true rfl⟩
theorem ti266 : TIok Tryz.prog 266 ⟨7, .array 7 4, [.bool false, .bool false, .bool false, .bool false, .bool false, .bool false, .bool false]⟩ := ⟨Tryz.t266, _, by kernel_rfl, rfl, Tryz.underlying266, rfl, ⟨_, rfl, rfl⟩, Nat.le_of_ble_eq_true rfl⟩
theorem ti276 : TIok Tryz.prog 276 ⟨4, .struct [(0, 1), (1, 1), (2, 1), (3, 1)], [.int .i64 0, .int .i64 0, .int .i64 0, .int .i64 0]⟩ := by
  refine ⟨Tryz.t276, _, by kernel_rfl, rfl, Tryz.underlying276, ⟨_, rfl, rfl, fun f o n h => ?_⟩, ⟨_, rfl, rfl⟩, Nat.le_of_ble_eq_true rfl⟩
  match f, h with
  | 0, h => cases h; exact ⟨_, Tryz.t3, rfl, rfl, by kernel_rfl, rfl⟩
  | 1, h => cases h; exact ⟨_, Tryz.t3, rfl, rfl, by kernel_rfl, rfl⟩
  | 2, h => cases h; exact ⟨_, Tryz.t3, rfl, rfl, by kernel_rfl, rfl⟩
  | 3, h => cases h; exact ⟨_, Tryz.t3, rfl, rfl, by kernel_rfl, rfl⟩
  | _ + 4, h => simp at h
theorem ti278 : TIok Tryz.prog 278 ⟨1, .slice 276, [.slice none 0 0]⟩ := ⟨Tryz.t278, _, by kernel_rfl, rfl, Tryz.underlying278, rfl, ⟨_, rfl, rfl⟩, Nat.le_of_ble_eq_true rfl⟩
theorem ti280 : TIok Tryz.prog 280 ⟨10, .struct [(0, 1), (1, 1), (2, 1), (3, 1), (4, 1), (5, 1), (6, 1), (7, 1), (8, 1), (9, 1)], [.int .i64 0, .int .i64 0, .int .i64 0, .int .i64 0, .int .i64 0, .int .i64 0, .int .i64 0, .int .i64 0, .slice none 0 0, .slice none 0 0]⟩ := by
  refine ⟨Tryz.t280, _, by kernel_rfl, rfl, Tryz.underlying280, ⟨_, rfl, rfl, fun f o n h => ?_⟩, ⟨_, rfl, rfl⟩, Nat.le_of_ble_eq_true rfl⟩
  match f, h with
  | 0, h => cases h; exact ⟨_, Tryz.t3, rfl, rfl, by kernel_rfl, rfl⟩
  | 1, h => cases h; exact ⟨_, Tryz.t3, rfl, rfl, by kernel_rfl, rfl⟩
  | 2, h => cases h; exact ⟨_, Tryz.t3, rfl, rfl, by kernel_rfl, rfl⟩
  | 3, h => cases h; exact ⟨_, Tryz.t3, rfl, rfl, by kernel_rfl, rfl⟩
  | 4, h => cases h; exact ⟨_, Tryz.t3, rfl, rfl, by kernel_rfl, rfl⟩
  | 5, h => cases h; exact ⟨_, Tryz.t3, rfl, rfl, by kernel_rfl, rfl⟩
  | 6, h => cases h; exact ⟨_, Tryz.t3, rfl, rfl, by kernel_rfl, rfl⟩
  | 7, h => cases h; exact ⟨_, Tryz.t3, rfl, rfl, by kernel_rfl, rfl⟩
  | 8, h => cases h; exact ⟨_, Tryz.t29, rfl, rfl, by kernel_rfl, rfl⟩
  | 9, h => cases h; exact ⟨_, Tryz.t278, rfl, rfl, by kernel_rfl, rfl⟩
  | _ + 10, h => simp at h
theorem ti293 : TIok Tryz.prog 293 ⟨7, .struct [(0, 1), (1, 1), (2, 1), (3, 1), (4, 1), (5, 1), (6, 1)], [.int .i64 0, .int .i64 0, .int .i64 0, .int .i64 0, .int .i64 0, .int .i64 0, .int .i64 0]⟩ := by
  refine ⟨Tryz.t293, _, by kernel_rfl, rfl, Tryz.underlying293, ⟨_, rfl, rfl, fun f o n h => ?_⟩, ⟨_, rfl, rfl⟩, Nat.le_of_ble_eq_true rfl⟩
  match f, h with
  | 0, h => cases h; exact ⟨_, Tryz.t3, rfl, rfl, by kernel_rfl, rfl⟩
  | 1, h => cases h; exact ⟨_, Tryz.t3, rfl, rfl, by kernel_rfl, rfl⟩
  | 2, h => cases h; exact ⟨_, Tryz.t3, rfl, rfl, by kernel_rfl, rfl⟩
  | 3, h => cases h; exact ⟨_, Tryz.t3, rfl, rfl, by kernel_rfl, rfl⟩
  | 4, h => cases h; exact ⟨_, Tryz.t3, rfl, rfl, by kernel_rfl, rfl⟩
  | 5, h => cases h; exact ⟨_, Tryz.t3, rfl, rfl, by kernel_rfl, rfl⟩
  | 6, h => cases h; exact ⟨_, Tryz.t3, rfl, rfl, by kernel_rfl, rfl⟩
  | _ + 7, h => simp at h
theorem ti336 : TIok Tryz.prog 336 ⟨2, .struct [(0, 1), (1, 1)], [.int .i64 0, .int .i64 0]⟩ := by
  refine ⟨Tryz.t336, _, by kernel_rfl, rfl, Tryz.underlying336, ⟨_, rfl, rfl, fun f o n h => ?_⟩, ⟨_, rfl, rfl⟩, Nat.le_of_ble_eq_true rfl⟩
  match f, h with
  | 0, h => cases h; exact ⟨_, Tryz.t3, rfl, rfl, by kernel_rfl, rfl⟩
  | 1, h => cases h; exact ⟨_, Tryz.t3, rfl, rfl, by kernel_rfl, rfl⟩
  | _ + 2, h => simp at h
theorem ti351 : TIok Tryz.prog 351 ⟨4, .struct [(0, 1), (1, 1), (2, 1), (3, 1)], [.bool false, .int .i64 0, .bool false, .bool false]⟩ := by
  refine ⟨Tryz.t351, _, by kernel_rfl, rfl, Tryz.underlying351, ⟨_, rfl, rfl, fun f o n h => ?_⟩, ⟨_, rfl, rfl⟩, Nat.le_of_ble_eq_true rfl⟩
  match f, h with
  | 0, h => cases h; exact ⟨_, Tryz.t4, rfl, rfl, by kernel_rfl, rfl⟩
  | 1, h => cases h; exact ⟨_, Tryz.t3, rfl, rfl, by kernel_rfl, rfl⟩
  | 2, h => cases h; exact ⟨_, Tryz.t4, rfl, rfl, by kernel_rfl, rfl⟩
  | 3, h => cases h; exact ⟨_, Tryz.t4, rfl, rfl, by kernel_rfl, rfl⟩
  | _ + 4, h => simp at h
theorem ti359 : TIok Tryz.prog 359 ⟨2, .struct [(0, 1), (1, 1)], [.int .i64 0, .int .i64 0]⟩ := by
  refine ⟨Tryz.t359, _, by kernel_rfl, rfl, Tryz.underlying359, ⟨_, rfl, rfl, fun f o n h => ?_⟩, ⟨_, rfl, rfl⟩, Nat.le_of_ble_eq_true rfl⟩
  match f, h with
  | 0, h => cases h; exact ⟨_, Tryz.t3, rfl, rfl, by kernel_rfl, rfl⟩
  | 1, h => cases h; exact ⟨_, Tryz.t3, rfl, rfl, by kernel_rfl, rfl⟩
  | _ + 2, h => simp at h
theorem ti374 : TIok Tryz.prog 374 ⟨1, .other, [.pointer none]⟩ := ⟨Tryz.t374, _, by kernel_rfl, rfl, Tryz.underlying374, rfl, ⟨_, rfl, rfl⟩, Nat.le_of_ble_eq_true rfl⟩
theorem ti375 : TIok Tryz.prog 375 ⟨1, .slice 4, [.slice none 0 0]⟩ := ⟨Tryz.t375, _, by kernel_rfl, rfl, Tryz.underlying375, rfl, ⟨_, rfl, rfl⟩, Nat.le_of_ble_eq_true rfl⟩
theorem ti377 : TIok Tryz.prog 377 ⟨66, .struct [(0, 24), (24, 2), (26, 7), (33, 13), (46, 10), (56, 1), (57, 1), (58, 1), (59, 1), (60, 1), (61, 1), (62, 3), (65, 1)], [.slice none 0 0, .slice none 0 0, .slice none 0 0, .slice none 0 0, .slice none 0 0, .slice none 0 0, .slice none 0 0, .slice none 0 0, .slice none 0 0, .slice none 0 0, .slice none 0 0, .slice none 0 0, .slice none 0 0, .slice none 0 0, .slice none 0 0, .slice none 0 0, .slice none 0 0, .slice none 0 0, .slice none 0 0, .slice none 0 0, .int .i64 0, .int .i64 0, .int .i64 0, .int .i64 0, .slice none 0 0, .int .i64 0, .int .i64 0, .int .i64 0, .int .i64 0, .int .i64 0, .int .i64 0, .int .i64 0, .int .i64 0, .int .i64 0, .int .i64 0, .bool false, .int .i64 0, .slice none 0 0, .bool false, .bool false, .int .i64 0, .int .i64 0, .slice none 0 0, .int .i64 0, .int .i64 0, .int .i64 0, .int .i64 0, .int .i64 0, .int .i64 0, .int .i64 0, .int .i64 0, .int .i64 0, .int .i64 0, .int .i64 0, .slice none 0 0, .slice none 0 0, .int .i64 0, .int .i64 0, .int .i64 0, .int .i64 0, .slice none 0 0, .int .i64 0, .int .i64 0, .slice none 0 0, .int .i64 0, .int .i64 0]⟩ := by
  refine ⟨Tryz.t377, _, by kernel_rfl, rfl, Tryz.underlying377, ⟨_, rfl, rfl, fun f o n h => ?_⟩, ⟨_, rfl, rfl⟩, Nat.le_of_ble_eq_true rfl⟩
  match f, h with
  | 0, h => cases h; exact ⟨_, Tryz.t55, rfl, rfl, by kernel_rfl, rfl⟩
  | 1, h => cases h; exact ⟨_, Tryz.t68, rfl, rfl, by kernel_rfl, rfl⟩
  | 2, h => cases h; exact ⟨_, Tryz.t59, rfl, rfl, by kernel_rfl, rfl⟩
  | 3, h => cases h; exact ⟨_, Tryz.t81, rfl, rfl, by kernel_rfl, rfl⟩
  | 4, h => cases h; exact ⟨_, Tryz.t280, rfl, rfl, by kernel_rfl, rfl⟩
  | 5, h => cases h; exact ⟨_, Tryz.t3, rfl, rfl, by kernel_rfl, rfl⟩
  | 6, h => cases h; exact ⟨_, Tryz.t3, rfl, rfl, by kernel_rfl, rfl⟩
  | 7, h => cases h; exact ⟨_, Tryz.t3, rfl, rfl, by kernel_rfl, rfl⟩
  | 8, h => cases h; exact ⟨_, Tryz.t3, rfl, rfl, by kernel_rfl, rfl⟩
  | 9, h => cases h; exact ⟨_, Tryz.t375, rfl, rfl, by kernel_rfl, rfl⟩
  | 10, h => cases h; exact ⟨_, Tryz.t3, rfl, rfl, by kernel_rfl, rfl⟩
  | 11, h => cases h; exact ⟨_, Tryz.t225, rfl, rfl, by kernel_rfl, rfl⟩
  | 12, h => cases h; exact ⟨_, Tryz.t33, rfl, rfl, by kernel_rfl, rfl⟩
  | _ + 13, h => simp at h
theorem ti401 : TIok Tryz.prog 401 ⟨1, .other, [.pointer none]⟩ := ⟨Tryz.t401, _, by kernel_rfl, rfl, Tryz.underlying401, rfl, ⟨_, rfl, rfl⟩, Nat.le_of_ble_eq_true rfl⟩
theorem ti402 : TIok Tryz.prog 402 ⟨1, .other, [.pointer none]⟩ := ⟨Tryz.t402, _, by kernel_rfl, rfl, Tryz.underlying402, rfl, ⟨_, rfl, rfl⟩, Nat.le_of_ble_eq_true rfl⟩
theorem ti404 : TIok Tryz.prog 404 ⟨13, .struct [(0, 6), (6, 7)], [.int .i64 0, .int .i64 0, .int .i64 0, .int .i64 0, .int .i64 0, .slice none 0 0, .int .i64 0, .int .i64 0, .int .i64 0, .int .i64 0, .int .i64 0, .int .i64 0, .int .i64 0]⟩ := by
  refine ⟨Tryz.t404, _, by kernel_rfl, rfl, Tryz.underlying404, ⟨_, rfl, rfl, fun f o n h => ?_⟩, ⟨_, rfl, rfl⟩, Nat.le_of_ble_eq_true rfl⟩
  match f, h with
  | 0, h => cases h; exact ⟨_, Tryz.t107, rfl, rfl, by kernel_rfl, rfl⟩
  | 1, h => cases h; exact ⟨_, Tryz.t59, rfl, rfl, by kernel_rfl, rfl⟩
  | _ + 2, h => simp at h
theorem ti409 : TIok Tryz.prog 409 ⟨3, .struct [(0, 1), (1, 1), (2, 1)], [.int .i64 0, .int .i64 0, .bool false]⟩ := by
  refine ⟨Tryz.t409, _, by kernel_rfl, rfl, Tryz.underlying409, ⟨_, rfl, rfl, fun f o n h => ?_⟩, ⟨_, rfl, rfl⟩, Nat.le_of_ble_eq_true rfl⟩
  match f, h with
  | 0, h => cases h; exact ⟨_, Tryz.t3, rfl, rfl, by kernel_rfl, rfl⟩
  | 1, h => cases h; exact ⟨_, Tryz.t3, rfl, rfl, by kernel_rfl, rfl⟩
  | 2, h => cases h; exact ⟨_, Tryz.t4, rfl, rfl, by kernel_rfl, rfl⟩
  | _ + 3, h => simp at h
theorem ti413 : TIok Tryz.prog 413 ⟨1, .int .u64, [.int .u64 0]⟩ := ⟨Tryz.t413, _, by kernel_rfl, rfl, Tryz.underlying413, rfl, ⟨_, rfl, rfl⟩, Nat.le_of_ble_eq_true rfl⟩
theorem ti468 : TIok Tryz.prog 468 ⟨3, .struct [(0, 1), (1, 1), (2, 1)], [.int .i64 0, .int .i64 0, .int .i64 0]⟩ := by
  refine ⟨Tryz.t468, _, by kernel_rfl, rfl, Tryz.underlying468, ⟨_, rfl, rfl, fun f o n h => ?_⟩, ⟨_, rfl, rfl⟩, Nat.le_of_ble_eq_true rfl⟩
  match f, h with
  | 0, h => cases h; exact ⟨_, Tryz.t3, rfl, rfl, by kernel_rfl, rfl⟩
  | 1, h => cases h; exact ⟨_, Tryz.t3, rfl, rfl, by kernel_rfl, rfl⟩
  | 2, h => cases h; exact ⟨_, Tryz.t3, rfl, rfl, by kernel_rfl, rfl⟩
  | _ + 3, h => simp at h
theorem ti483 : TIok Tryz.prog 483 ⟨1, .slice 487, [.slice none 0 0]⟩ := ⟨Tryz.t483, _, by kernel_rfl, rfl, Tryz.underlying483, rfl, ⟨_, rfl, rfl⟩, Nat.le_of_ble_eq_true rfl⟩
theorem ti487 : TIok Tryz.prog 487 ⟨5, .struct [(0, 4), (4, 1)], [.int .i64 0, .int .i64 0, .int .i64 0, .int .i64 0, .int .i64 0]⟩ := by
  refine ⟨Tryz.t487, _, by kernel_rfl, rfl, Tryz.underlying487, ⟨_, rfl, rfl, fun f o n h => ?_⟩, ⟨_, rfl, rfl⟩, Nat.le_of_ble_eq_true rfl⟩
  match f, h with
  | 0, h => cases h; exact ⟨_, Tryz.t246, rfl, rfl, by kernel_rfl, rfl⟩
  | 1, h => cases h; exact ⟨_, Tryz.t3, rfl, rfl, by kernel_rfl, rfl⟩
  | _ + 2, h => simp at h
theorem ti488 : TIok Tryz.prog 488 ⟨1, .other, [.pointer none]⟩ := ⟨Tryz.t488, _, by kernel_rfl, rfl, Tryz.underlying488, rfl, ⟨_, rfl, rfl⟩, Nat.le_of_ble_eq_true rfl⟩
theorem ti505 : TIok Tryz.prog 505 ⟨1, .slice 246, [.slice none 0 0]⟩ := ⟨Tryz.t505, _, by kernel_rfl, rfl, Tryz.underlying505, rfl, ⟨_, rfl, rfl⟩, Nat.le_of_ble_eq_true rfl⟩
theorem ti510 : TIok Tryz.prog 510 ⟨2, .array 2 3, [.int .i64 0, .int .i64 0]⟩ := ⟨Tryz.t510, _, by kernel_rfl, rfl, Tryz.underlying510, rfl, ⟨_, rfl, rfl⟩, Nat.le_of_ble_eq_true rfl⟩
theorem ti511 : TIok Tryz.prog 511 ⟨4, .array 2 510, [.int .i64 0, .int .i64 0, .int .i64 0, .int .i64 0]⟩ := ⟨Tryz.t511, _, by kernel_rfl, rfl, Tryz.underlying511, rfl, ⟨_, rfl, rfl⟩, Nat.le_of_ble_eq_true rfl⟩
theorem ti516 : TIok Tryz.prog 516 ⟨1, .other, [.pointer none]⟩ := ⟨Tryz.t516, _, by kernel_rfl, rfl, Tryz.underlying516, rfl, ⟨_, rfl, rfl⟩, Nat.le_of_ble_eq_true rfl⟩
theorem htab : TabOk Tryz.prog tab := by
  intro t ti h
  unfold tab at h
  refine tab_step h ti3 fun h => ?_
  refine tab_step h ti4 fun h => ?_
  refine tab_step h ti5 fun h => ?_
  refine tab_step h ti9 fun h => ?_
  refine tab_step h ti22 fun h => ?_
  refine tab_step h ti23 fun h => ?_
  refine tab_step h ti25 fun h => ?_
  refine tab_step h ti26 fun h => ?_
  refine tab_step h ti29 fun h => ?_
  refine tab_step h ti31 fun h => ?_
  refine tab_step h ti33 fun h => ?_
  refine tab_step h ti38 fun h => ?_
  refine tab_step h ti44 fun h => ?_
  refine tab_step h ti47 fun h => ?_
  refine tab_step h ti49 fun h => ?_
  refine tab_step h ti51 fun h => ?_
  refine tab_step h ti53 fun h => ?_
  refine tab_step h ti55 fun h => ?_
  refine tab_step h ti59 fun h => ?_
  refine tab_step h ti63 fun h => ?_
  refine tab_step h ti68 fun h => ?_
  refine tab_step h ti69 fun h => ?_
  refine tab_step h ti71 fun h => ?_
  refine tab_step h ti73 fun h => ?_
  refine tab_step h ti74 fun h => ?_
  refine tab_step h ti75 fun h => ?_
  refine tab_step h ti77 fun h => ?_
  refine tab_step h ti79 fun h => ?_
  refine tab_step h ti81 fun h => ?_
  refine tab_step h ti83 fun h => ?_
  refine tab_step h ti84 fun h => ?_
  refine tab_step h ti86 fun h => ?_
  refine tab_step h ti87 fun h => ?_
  refine tab_step h ti88 fun h => ?_
  refine tab_step h ti90 fun h => ?_
  refine tab_step h ti92 fun h => ?_
  refine tab_step h ti94 fun h => ?_
  refine tab_step h ti96 fun h => ?_
  refine tab_step h ti98 fun h => ?_
  refine tab_step h ti100 fun h => ?_
  refine tab_step h ti102 fun h => ?_
  refine tab_step h ti103 fun h => ?_
  refine tab_step h ti105 fun h => ?_
  refine tab_step h ti107 fun h => ?_
  refine tab_step h ti109 fun h => ?_
  refine tab_step h ti113 fun h => ?_
  refine tab_step h ti114 fun h => ?_
  refine tab_step h ti115 fun h => ?_
  refine tab_step h ti119 fun h => ?_
  refine tab_step h ti120 fun h => ?_
  refine tab_step h ti128 fun h => ?_
  refine tab_step h ti129 fun h => ?_
  refine tab_step h ti131 fun h => ?_
  refine tab_step h ti132 fun h => ?_
  refine tab_step h ti146 fun h => ?_
  refine tab_step h ti149 fun h => ?_
  refine tab_step h ti195 fun h => ?_
  refine tab_step h ti197 fun h => ?_
  refine tab_step h ti204 fun h => ?_
  refine tab_step h ti208 fun h => ?_
  refine tab_step h ti215 fun h => ?_
  refine tab_step h ti218 fun h => ?_
  refine tab_step h ti219 fun h => ?_
  refine tab_step h ti223 fun h => ?_
  refine tab_step h ti225 fun h => ?_
  refine tab_step h ti227 fun h => ?_
  refine tab_step h ti237 fun h => ?_
  refine tab_step h ti246 fun h => ?_
  refine tab_step h ti248 fun h => ?_
  refine tab_step h ti265 fun h => ?_
  refine tab_step h ti266 fun h => ?_
  refine tab_step h ti276 fun h => ?_
  refine tab_step h ti278 fun h => ?_
  refine tab_step h ti280 fun h => ?_
  refine tab_step h ti293 fun h => ?_
  refine tab_step h ti336 fun h => ?_
  refine tab_step h ti351 fun h => ?_
  refine tab_step h ti359 fun h => ?_
  refine tab_step h ti374 fun h => ?_
  refine tab_step h ti375 fun h => ?_
  refine tab_step h ti377 fun h => ?_
  refine tab_step h ti401 fun h => ?_
  refine tab_step h ti402 fun h => ?_
  refine tab_step h ti404 fun h => ?_
  refine tab_step h ti409 fun h => ?_
  refine tab_step h ti413 fun h => ?_
  refine tab_step h ti468 fun h => ?_
  refine tab_step h ti483 fun h => ?_
  refine tab_step h ti487 fun h => ?_
  refine tab_step h ti488 fun h => ?_
  refine tab_step h ti505 fun h => ?_
  refine tab_step h ti510 fun h => ?_
  refine tab_step h ti511 fun h => ?_
  refine tab_step h ti516 fun h => ?_
  cases h
theorem eqi_83 (d : Nat) (w : World) (a0 : Bool) (a1 : Int) (a2 : Int) (a3 : Int) (a4 : Int) (a5 : Int) (b0 : Bool) (b1 : Int) (b2 : Int) (b3 : Int) (b4 : Int) (b5 : Int) : (Op.equalIn (d + 2) 83 (.agg #[.bool a0, .int .i64 a1, .int .i64 a2, .int .i64 a3, .int .i64 a4, .int .i64 a5]) (.agg #[.bool b0, .int .i64 b1, .int .i64 b2, .int .i64 b3, .int .i64 b4, .int .i64 b5])).run Tryz.prog w = .ok ((a0 == b0) && ((a1 == b1) && ((a2 == b2) && ((a3 == b3) && ((a4 == b4) && ((a5 == b5) && true)))))) w :=
  eq_struct (d := d + 1) (fs := [⟨ "Valid", 4, 0, false, "", "", 0⟩, ⟨ "At", 3, 1, false, "", "", 8⟩, ⟨ "Angle", 3, 2, false, "", "", 16⟩, ⟨ "Period", 3, 3, false, "", "", 24⟩, ⟨ "Space", 3, 4, false, "", "", 32⟩, ⟨ "Ahead", 3, 5, false, "", "", 40⟩]) (by kernel_rfl) (by kernel_rfl) (by kernel_rfl) (eqf_cons (by decide) (part_one ti4 rfl rfl) (part_one ti4 rfl rfl) (run_equalIn_bool' w _ 4 _ _ Tryz.underlying4) (eqf_cons (by decide) (part_one ti3 rfl rfl) (part_one ti3 rfl rfl) (run_equalIn_int w _ 3 _ _ _ _ Tryz.underlying3) (eqf_cons (by decide) (part_one ti3 rfl rfl) (part_one ti3 rfl rfl) (run_equalIn_int w _ 3 _ _ _ _ Tryz.underlying3) (eqf_cons (by decide) (part_one ti3 rfl rfl) (part_one ti3 rfl rfl) (run_equalIn_int w _ 3 _ _ _ _ Tryz.underlying3) (eqf_cons (by decide) (part_one ti3 rfl rfl) (part_one ti3 rfl rfl) (run_equalIn_int w _ 3 _ _ _ _ Tryz.underlying3) (eqf_cons (by decide) (part_one ti3 rfl rfl) (part_one ti3 rfl rfl) (run_equalIn_int w _ 3 _ _ _ _ Tryz.underlying3) (eqf_nil)))))))
theorem eqv_83 (a0 : Bool) (a1 : Int) (a2 : Int) (a3 : Int) (a4 : Int) (a5 : Int) (b0 : Bool) (b1 : Int) (b2 : Int) (b3 : Int) (b4 : Int) (b5 : Int) : EqOk Tryz.prog 83 [.bool a0, .int .i64 a1, .int .i64 a2, .int .i64 a3, .int .i64 a4, .int .i64 a5] [.bool b0, .int .i64 b1, .int .i64 b2, .int .i64 b3, .int .i64 b4, .int .i64 b5] ((a0 == b0) && ((a1 == b1) && ((a2 == b2) && ((a3 == b3) && ((a4 == b4) && ((a5 == b5) && true)))))) := ⟨fun w => eqi_83 9998 w a0 a1 a2 a3 a4 a5 b0 b1 b2 b3 b4 b5, by kernel_rfl⟩
theorem eqi_92 (d : Nat) (w : World) (a0 : Int) (a1 : Int) (a2 : Int) (a3 : Int) (a4 : Int) (a5 : Int) (b0 : Int) (b1 : Int) (b2 : Int) (b3 : Int) (b4 : Int) (b5 : Int) : (Op.equalIn (d + 2) 92 (.agg #[.int .i64 a0, .int .i64 a1, .int .i64 a2, .int .i64 a3, .int .i64 a4, .int .i64 a5]) (.agg #[.int .i64 b0, .int .i64 b1, .int .i64 b2, .int .i64 b3, .int .i64 b4, .int .i64 b5])).run Tryz.prog w = .ok ((a0 == b0) && ((a1 == b1) && ((a2 == b2) && ((a3 == b3) && ((a4 == b4) && ((a5 == b5) && true)))))) w :=
  eq_struct (d := d + 1) (fs := [⟨ "Mode", 3, 0, false, "", "", 0⟩, ⟨ "Tooth", 3, 1, false, "", "", 8⟩, ⟨ "Last", 3, 2, false, "", "", 16⟩, ⟨ "Period", 3, 3, false, "", "", 24⟩, ⟨ "Normal", 3, 4, false, "", "", 32⟩, ⟨ "Teeth", 3, 5, false, "", "", 40⟩]) (by kernel_rfl) (by kernel_rfl) (by kernel_rfl) (eqf_cons (by decide) (part_one ti3 rfl rfl) (part_one ti3 rfl rfl) (run_equalIn_int w _ 3 _ _ _ _ Tryz.underlying3) (eqf_cons (by decide) (part_one ti3 rfl rfl) (part_one ti3 rfl rfl) (run_equalIn_int w _ 3 _ _ _ _ Tryz.underlying3) (eqf_cons (by decide) (part_one ti3 rfl rfl) (part_one ti3 rfl rfl) (run_equalIn_int w _ 3 _ _ _ _ Tryz.underlying3) (eqf_cons (by decide) (part_one ti3 rfl rfl) (part_one ti3 rfl rfl) (run_equalIn_int w _ 3 _ _ _ _ Tryz.underlying3) (eqf_cons (by decide) (part_one ti3 rfl rfl) (part_one ti3 rfl rfl) (run_equalIn_int w _ 3 _ _ _ _ Tryz.underlying3) (eqf_cons (by decide) (part_one ti3 rfl rfl) (part_one ti3 rfl rfl) (run_equalIn_int w _ 3 _ _ _ _ Tryz.underlying3) (eqf_nil)))))))
theorem eqv_92 (a0 : Int) (a1 : Int) (a2 : Int) (a3 : Int) (a4 : Int) (a5 : Int) (b0 : Int) (b1 : Int) (b2 : Int) (b3 : Int) (b4 : Int) (b5 : Int) : EqOk Tryz.prog 92 [.int .i64 a0, .int .i64 a1, .int .i64 a2, .int .i64 a3, .int .i64 a4, .int .i64 a5] [.int .i64 b0, .int .i64 b1, .int .i64 b2, .int .i64 b3, .int .i64 b4, .int .i64 b5] ((a0 == b0) && ((a1 == b1) && ((a2 == b2) && ((a3 == b3) && ((a4 == b4) && ((a5 == b5) && true)))))) := ⟨fun w => eqi_92 9998 w a0 a1 a2 a3 a4 a5 b0 b1 b2 b3 b4 b5, by kernel_rfl⟩
def eqF : Nat → List T → List T → Option Bool
  | 83, [.t (.v (.bool a0)), .t (.v (.int .i64 a1)), .t (.v (.int .i64 a2)), .t (.v (.int .i64 a3)), .t (.v (.int .i64 a4)), .t (.v (.int .i64 a5))], [.t (.v (.bool b0)), .t (.v (.int .i64 b1)), .t (.v (.int .i64 b2)), .t (.v (.int .i64 b3)), .t (.v (.int .i64 b4)), .t (.v (.int .i64 b5))] => some (((a0 == b0) && ((a1 == b1) && ((a2 == b2) && ((a3 == b3) && ((a4 == b4) && ((a5 == b5) && true)))))))
  | 92, [.t (.v (.int .i64 a0)), .t (.v (.int .i64 a1)), .t (.v (.int .i64 a2)), .t (.v (.int .i64 a3)), .t (.v (.int .i64 a4)), .t (.v (.int .i64 a5))], [.t (.v (.int .i64 b0)), .t (.v (.int .i64 b1)), .t (.v (.int .i64 b2)), .t (.v (.int .i64 b3)), .t (.v (.int .i64 b4)), .t (.v (.int .i64 b5))] => some (((a0 == b0) && ((a1 == b1) && ((a2 == b2) && ((a3 == b3) && ((a4 == b4) && ((a5 == b5) && true)))))))
  | _, _, _ => none
theorem eqF_ok : ∀ ty xs ys b, eqF ty xs ys = some b → ∃ vs us, xs = tvs vs ∧ ys = tvs us ∧ EqOk Tryz.prog ty vs us b := by
  intro ty xs ys b h
  unfold eqF at h
  split at h
  · cases h; exact ⟨_, _, rfl, rfl, eqv_83 _ _ _ _ _ _ _ _ _ _ _ _⟩
  · cases h; exact ⟨_, _, rfl, rfl, eqv_92 _ _ _ _ _ _ _ _ _ _ _ _⟩
  · cases h
noncomputable def Z : En Tryz.prog := ⟨tab, htab, ⟨eqF, eqF_ok, true⟩, mixed⟩
noncomputable def Zd : En Tryz.prog := { Z with Ev := { Z.Ev with dr := false } }
noncomputable def mq238 : Mq Tryz.prog Int Bool := ⟨inferInstance, 238, 3, 4, .int .i64, (fun n : Int => .int .i64 n), (fun v : Bool => .bool v), false, (intKey .i64), Tryz.underlying238, Tryz.underlying3, ⟨Tryz.t4, by kernel_rfl, rfl⟩⟩
noncomputable def mq424 : Mq Tryz.prog ByteArray Bool := ⟨inferInstance, 424, 9, 4, .string, (fun s : ByteArray => .string s), (fun v : Bool => .bool v), false, strKey, Tryz.underlying424, Tryz.underlying9, ⟨Tryz.t4, by kernel_rfl, rfl⟩⟩
end Go.Proofs.YtjhedhnghldjbaaGreatDoor
namespace Go.Pv
open Go.RowKit
end Go.Pv
namespace Go.Pv
theorem index_anyL {α : Type} (l : List α) (hn : l.length ≤ 9223372036854775807) (f : α → Option Bool) (p : α → Bool) (h : ∀ y ∈ l, f y = some (p y)) :
    (Option.bind (Option.bind (loopM (fun (s : Int × Unit) => bif decide (s.1 < (l.length : Int)) then (Option.bind (Option.bind (getI l s.1) fun t => Option.bind (f t) fun t => bif t then some (Fl.ret s.1) else some (Fl.next ())) (rangeK s.1)) else some (Sum.inr (Sum.inl s.2))) (0, ())) fun (t : Unit ⊕ Int) => match t with | .inl _ => (some (-1)) | .inr r2 => some r2) fun v => some (decide (v ≥ 0))) = some (l.any p) := by
  have := index_any l hn f p h
  exact this
end Go.Pv
