/-
The table of types, and per function its loops.
-/
import Derived.Test.YtnkjpkfijafkgaaProg
import Derived.Test.YtnkjpkfijafkgaaA2
import Derived.KernelRfl
set_option linter.unusedVariables false
set_option linter.unusedSimpArgs false
set_option maxRecDepth 100000
namespace Go.Proofs.Ytnkjpkfijafkgaa
open Go.Abs
noncomputable def rows : List (TypeId × TI) := [
  (1, ⟨1, 8, false, .func, (some [.v .nilfunc]), none⟩),
  (2, ⟨1, 8, false, .int .i64, (some [.v (.int .i64 0)]), (some [.int .i64])⟩),
  (3, ⟨1, 8, false, .int .i64, (some [.v (.int .i64 0)]), (some [.int .i64])⟩),
  (4, ⟨1, 1, false, .bool, (some [.v (.bool false)]), (some [.bool])⟩),
  (5, ⟨1, 1, false, .int .u8, (some [.v (.int .u8 0)]), (some [.int .u8])⟩),
  (6, ⟨1, 1, false, .int .u8, (some [.v (.int .u8 0)]), (some [.int .u8])⟩),
  (7, ⟨4, 24, true, .struct [(0, 2), (1, 3), (2, 4), (3, 6)], (some [.v (.int .i64 0), .v (.int .i64 0), .v (.bool false), .v (.int .u8 0)]), (some [.int .i64, .int .i64, .bool, .int .u8])⟩),
  (8, ⟨4, 24, true, .struct [(0, 2), (1, 3), (2, 4), (3, 6)], (some [.v (.int .i64 0), .v (.int .i64 0), .v (.bool false), .v (.int .u8 0)]), (some [.int .i64, .int .i64, .bool, .int .u8])⟩),
  (9, ⟨1, 16, false, .str, (some [.v (.str ⟨#[]⟩)]), none⟩),
  (10, ⟨1, 16, false, .str, (some [.v (.str ⟨#[]⟩)]), none⟩),
  (11, ⟨1, 16, false, .str, (some [.v (.str ⟨#[]⟩)]), none⟩),
  (12, ⟨1, 8, false, .int .u64, (some [.v (.int .u64 0)]), (some [.int .u64])⟩),
  (13, ⟨2, 24, true, .struct [(0, 9), (1, 12)], (some [.v (.str ⟨#[]⟩), .v (.int .u64 0)]), none⟩),
  (14, ⟨2, 24, true, .struct [(0, 9), (1, 12)], (some [.v (.str ⟨#[]⟩), .v (.int .u64 0)]), none⟩),
  (15, ⟨1, 8, false, .ptr 114, (some [.v .nilptr]), none⟩),
  (16, ⟨1, 8, false, .ptr 117, (some [.v .nilptr]), none⟩),
  (17, ⟨1, 8, false, .ptr 125, (some [.v .nilptr]), none⟩),
  (18, ⟨1, 8, true, .struct [(0, 17)], (some [.v .nilptr]), none⟩),
  (19, ⟨1, 8, true, .struct [(0, 17)], (some [.v .nilptr]), none⟩),
  (20, ⟨1, 16, false, .iface, (some [.v .niliface]), none⟩),
  (21, ⟨1, 4, false, .int .i32, (some [.v (.int .i32 0)]), (some [.int .i32])⟩),
  (22, ⟨1, 24, false, .slice 3, (some [.sl 3]), none⟩),
  (23, ⟨1, 8, false, .ptr 70, (some [.v .nilptr]), none⟩),
  (24, ⟨1, 8, false, .int .i64, (some [.v (.int .i64 0)]), (some [.int .i64])⟩),
  (26, ⟨1, 8, false, .func, (some [.v .nilfunc]), none⟩),
  (27, ⟨1, 8, false, .ptr 72, (some [.v .nilptr]), none⟩),
  (28, ⟨1, 8, false, .func, (some [.v .nilfunc]), none⟩),
  (29, ⟨1, 8, false, .func, (some [.v .nilfunc]), none⟩),
  (30, ⟨1, 24, false, .slice 4, (some [.sl 4]), none⟩),
  (31, ⟨1, 8, false, .func, (some [.v .nilfunc]), none⟩),
  (32, ⟨1, 8, false, .func, (some [.v .nilfunc]), none⟩),
  (33, ⟨1, 24, false, .slice 5, (some [.sl 5]), none⟩),
  (34, ⟨1, 8, false, .func, (some [.v .nilfunc]), none⟩),
  (35, ⟨1, 8, false, .func, (some [.v .nilfunc]), none⟩),
  (36, ⟨1, 8, false, .func, (some [.v .nilfunc]), none⟩),
  (37, ⟨1, 8, false, .ptr 77, (some [.v .nilptr]), none⟩),
  (38, ⟨1, 8, false, .func, (some [.v .nilfunc]), none⟩),
  (39, ⟨1, 8, false, .func, (some [.v .nilfunc]), none⟩),
  (40, ⟨1, 8, false, .ptr 43, (some [.v .nilptr]), none⟩),
  (41, ⟨1, 8, false, .func, (some [.v .nilfunc]), none⟩),
  (42, ⟨2, 32, true, .struct [(0, 30), (1, 3)], (some [.sl 4, .v (.int .i64 0)]), none⟩),
  (43, ⟨2, 32, true, .struct [(0, 30), (1, 3)], (some [.sl 4, .v (.int .i64 0)]), none⟩),
  (45, ⟨1, 8, false, .func, (some [.v .nilfunc]), none⟩),
  (46, ⟨1, 8, false, .func, (some [.v .nilfunc]), none⟩),
  (47, ⟨1, 8, false, .func, (some [.v .nilfunc]), none⟩),
  (48, ⟨1, 8, false, .func, (some [.v .nilfunc]), none⟩),
  (49, ⟨1, 8, false, .func, (some [.v .nilfunc]), none⟩),
  (51, ⟨1, 8, false, .func, (some [.v .nilfunc]), none⟩),
  (52, ⟨1, 24, false, .slice 62, (some [.sl 62]), none⟩),
  (53, ⟨1, 8, false, .func, (some [.v .nilfunc]), none⟩),
  (55, ⟨1, 8, false, .func, (some [.v .nilfunc]), none⟩),
  (57, ⟨1, 8, false, .func, (some [.v .nilfunc]), none⟩),
  (58, ⟨1, 8, false, .func, (some [.v .nilfunc]), none⟩),
  (59, ⟨1, 8, false, .func, (some [.v .nilfunc]), none⟩),
  (60, ⟨1, 8, false, .func, (some [.v .nilfunc]), none⟩),
  (61, ⟨3, 24, true, .struct [(0, 3), (1, 3), (2, 3)], (some [.v (.int .i64 0), .v (.int .i64 0), .v (.int .i64 0)]), (some [.int .i64, .int .i64, .int .i64])⟩),
  (62, ⟨3, 24, true, .struct [(0, 3), (1, 3), (2, 3)], (some [.v (.int .i64 0), .v (.int .i64 0), .v (.int .i64 0)]), (some [.int .i64, .int .i64, .int .i64])⟩),
  (63, ⟨1, 8, false, .func, (some [.v .nilfunc]), none⟩),
  (64, ⟨1, 8, false, .func, (some [.v .nilfunc]), none⟩),
  (65, ⟨1, 8, false, .func, (some [.v .nilfunc]), none⟩),
  (66, ⟨1, 8, false, .func, (some [.v .nilfunc]), none⟩),
  (67, ⟨1, 8, false, .func, (some [.v .nilfunc]), none⟩),
  (68, ⟨16, 128, true, .arr 16 3, (some [.run .i64 16]), none⟩),
  (69, ⟨19, 200, true, .struct [(0, 68), (16, 22), (17, 22), (18, 22)], (some [.run .i64 16, .sl 3, .sl 3, .sl 3]), none⟩),
  (70, ⟨19, 200, true, .struct [(0, 68), (16, 22), (17, 22), (18, 22)], (some [.run .i64 16, .sl 3, .sl 3, .sl 3]), none⟩),
  (71, ⟨3, 40, true, .struct [(0, 33), (1, 3), (2, 3)], (some [.sl 5, .v (.int .i64 0), .v (.int .i64 0)]), none⟩),
  (72, ⟨3, 40, true, .struct [(0, 33), (1, 3), (2, 3)], (some [.sl 5, .v (.int .i64 0), .v (.int .i64 0)]), none⟩),
  (73, ⟨1, 8, false, .func, (some [.v .nilfunc]), none⟩),
  (74, ⟨1, 8, false, .func, (some [.v .nilfunc]), none⟩),
  (75, ⟨1, 8, false, .func, (some [.v .nilfunc]), none⟩),
  (76, ⟨4, 48, true, .struct [(0, 33), (1, 3), (2, 3), (3, 3)], (some [.sl 5, .v (.int .i64 0), .v (.int .i64 0), .v (.int .i64 0)]), none⟩),
  (77, ⟨4, 48, true, .struct [(0, 33), (1, 3), (2, 3), (3, 3)], (some [.sl 5, .v (.int .i64 0), .v (.int .i64 0), .v (.int .i64 0)]), none⟩),
  (78, ⟨1, 8, false, .func, (some [.v .nilfunc]), none⟩),
  (79, ⟨1, 8, false, .func, (some [.v .nilfunc]), none⟩),
  (80, ⟨1, 8, false, .int .u64, (some [.v (.int .u64 0)]), (some [.int .u64])⟩),
  (82, ⟨1, 8, false, .func, (some [.v .nilfunc]), none⟩),
  (83, ⟨1, 8, false, .func, (some [.v .nilfunc]), none⟩),
  (84, ⟨1, 8, false, .func, (some [.v .nilfunc]), none⟩),
  (85, ⟨1, 8, false, .func, (some [.v .nilfunc]), none⟩),
  (86, ⟨1, 8, false, .func, (some [.v .nilfunc]), none⟩),
  (87, ⟨1, 24, false, .slice 89, (some [.sl 89]), none⟩),
  (88, ⟨3, 24, true, .struct [(0, 3), (1, 3), (2, 3)], (some [.v (.int .i64 0), .v (.int .i64 0), .v (.int .i64 0)]), (some [.int .i64, .int .i64, .int .i64])⟩),
  (89, ⟨3, 24, true, .struct [(0, 3), (1, 3), (2, 3)], (some [.v (.int .i64 0), .v (.int .i64 0), .v (.int .i64 0)]), (some [.int .i64, .int .i64, .int .i64])⟩),
  (90, ⟨1, 8, false, .func, (some [.v .nilfunc]), none⟩),
  (91, ⟨1, 8, false, .func, (some [.v .nilfunc]), none⟩),
  (93, ⟨1, 8, false, .func, (some [.v .nilfunc]), none⟩),
  (94, ⟨1, 8, false, .func, (some [.v .nilfunc]), none⟩),
  (95, ⟨2, 16, true, .struct [(0, 3), (1, 3)], (some [.v (.int .i64 0), .v (.int .i64 0)]), (some [.int .i64, .int .i64])⟩),
  (96, ⟨2, 16, true, .struct [(0, 3), (1, 3)], (some [.v (.int .i64 0), .v (.int .i64 0)]), (some [.int .i64, .int .i64])⟩),
  (97, ⟨1, 16, false, .iface, (some [.v .niliface]), none⟩),
  (98, ⟨1, 16, false, .iface, (some [.v .niliface]), none⟩),
  (99, ⟨1, 8, false, .func, (some [.v .nilfunc]), none⟩),
  (100, ⟨1, 8, false, .func, (some [.v .nilfunc]), none⟩),
  (101, ⟨1, 8, false, .func, (some [.v .nilfunc]), none⟩),
  (103, ⟨1, 8, false, .func, (some [.v .nilfunc]), none⟩),
  (105, ⟨1, 8, false, .func, (some [.v .nilfunc]), none⟩),
  (106, ⟨1, 4, false, .int .u32, (some [.v (.int .u32 0)]), (some [.int .u32])⟩),
  (108, ⟨1, 8, false, .func, (some [.v .nilfunc]), none⟩),
  (109, ⟨1, 8, false, .int .u64, (some [.v (.int .u64 0)]), (some [.int .u64])⟩),
  (111, ⟨1, 8, false, .func, (some [.v .nilfunc]), none⟩),
  (112, ⟨1, 8, false, .func, (some [.v .nilfunc]), none⟩),
  (113, ⟨4, 40, true, .struct [(0, 17), (1, 17), (2, 17), (3, 9)], (some [.v .nilptr, .v .nilptr, .v .nilptr, .v (.str ⟨#[]⟩)]), none⟩),
  (114, ⟨4, 40, true, .struct [(0, 17), (1, 17), (2, 17), (3, 9)], (some [.v .nilptr, .v .nilptr, .v .nilptr, .v (.str ⟨#[]⟩)]), none⟩),
  (115, ⟨0, 0, true, .arr 0 16, (some []), none⟩),
  (116, ⟨0, 0, true, .struct [(0, 115)], (some []), none⟩),
  (117, ⟨0, 0, true, .struct [(0, 115)], (some []), none⟩),
  (118, ⟨1, 1, false, .int .u8, (some [.v (.int .u8 0)]), (some [.int .u8])⟩),
  (119, ⟨1, 1, false, .int .u8, (some [.v (.int .u8 0)]), (some [.int .u8])⟩),
  (120, ⟨1, 8, false, .func, (some [.v .nilfunc]), none⟩),
  (121, ⟨1, 8, false, .ptr 5, (some [.v .nilptr]), none⟩),
  (122, ⟨1, 4, false, .int .i32, (some [.v (.int .i32 0)]), (some [.int .i32])⟩),
  (123, ⟨1, 4, false, .int .i32, (some [.v (.int .i32 0)]), (some [.int .i32])⟩),
  (124, ⟨11, 48, true, .struct [(0, 12), (1, 12), (2, 106), (3, 118), (4, 5), (5, 5), (6, 119), (7, 120), (8, 121), (9, 122), (10, 123)], (some [.v (.int .u64 0), .v (.int .u64 0), .v (.int .u32 0), .v (.int .u8 0), .v (.int .u8 0), .v (.int .u8 0), .v (.int .u8 0), .v .nilfunc, .v .nilptr, .v (.int .i32 0), .v (.int .i32 0)]), none⟩),
  (125, ⟨11, 48, true, .struct [(0, 12), (1, 12), (2, 106), (3, 118), (4, 5), (5, 5), (6, 119), (7, 120), (8, 121), (9, 122), (10, 123)], (some [.v (.int .u64 0), .v (.int .u64 0), .v (.int .u32 0), .v (.int .u8 0), .v (.int .u8 0), .v (.int .u8 0), .v (.int .u8 0), .v .nilfunc, .v .nilptr, .v (.int .i32 0), .v (.int .i32 0)]), none⟩),
  (126, ⟨1, 8, false, .func, (some [.v .nilfunc]), none⟩),
  (127, ⟨1, 8, false, .other, (some [.v .nilptr]), none⟩)
]
noncomputable def tab : TT := tget rows

@[simp] theorem tab_1 : tab 1 = some ⟨1, 8, false, .func, (some [.v .nilfunc]), none⟩ := rfl
@[simp] theorem tab_2 : tab 2 = some ⟨1, 8, false, .int .i64, (some [.v (.int .i64 0)]), (some [.int .i64])⟩ := rfl
@[simp] theorem tab_3 : tab 3 = some ⟨1, 8, false, .int .i64, (some [.v (.int .i64 0)]), (some [.int .i64])⟩ := rfl
@[simp] theorem tab_4 : tab 4 = some ⟨1, 1, false, .bool, (some [.v (.bool false)]), (some [.bool])⟩ := rfl
@[simp] theorem tab_5 : tab 5 = some ⟨1, 1, false, .int .u8, (some [.v (.int .u8 0)]), (some [.int .u8])⟩ := rfl
@[simp] theorem tab_6 : tab 6 = some ⟨1, 1, false, .int .u8, (some [.v (.int .u8 0)]), (some [.int .u8])⟩ := rfl
@[simp] theorem tab_7 : tab 7 = some ⟨4, 24, true, .struct [(0, 2), (1, 3), (2, 4), (3, 6)], (some [.v (.int .i64 0), .v (.int .i64 0), .v (.bool false), .v (.int .u8 0)]), (some [.int .i64, .int .i64, .bool, .int .u8])⟩ := rfl
@[simp] theorem tab_8 : tab 8 = some ⟨4, 24, true, .struct [(0, 2), (1, 3), (2, 4), (3, 6)], (some [.v (.int .i64 0), .v (.int .i64 0), .v (.bool false), .v (.int .u8 0)]), (some [.int .i64, .int .i64, .bool, .int .u8])⟩ := rfl
@[simp] theorem tab_9 : tab 9 = some ⟨1, 16, false, .str, (some [.v (.str ⟨#[]⟩)]), none⟩ := rfl
@[simp] theorem tab_10 : tab 10 = some ⟨1, 16, false, .str, (some [.v (.str ⟨#[]⟩)]), none⟩ := rfl
@[simp] theorem tab_11 : tab 11 = some ⟨1, 16, false, .str, (some [.v (.str ⟨#[]⟩)]), none⟩ := rfl
@[simp] theorem tab_12 : tab 12 = some ⟨1, 8, false, .int .u64, (some [.v (.int .u64 0)]), (some [.int .u64])⟩ := rfl
@[simp] theorem tab_13 : tab 13 = some ⟨2, 24, true, .struct [(0, 9), (1, 12)], (some [.v (.str ⟨#[]⟩), .v (.int .u64 0)]), none⟩ := rfl
@[simp] theorem tab_14 : tab 14 = some ⟨2, 24, true, .struct [(0, 9), (1, 12)], (some [.v (.str ⟨#[]⟩), .v (.int .u64 0)]), none⟩ := rfl
@[simp] theorem tab_15 : tab 15 = some ⟨1, 8, false, .ptr 114, (some [.v .nilptr]), none⟩ := rfl
@[simp] theorem tab_16 : tab 16 = some ⟨1, 8, false, .ptr 117, (some [.v .nilptr]), none⟩ := rfl
@[simp] theorem tab_17 : tab 17 = some ⟨1, 8, false, .ptr 125, (some [.v .nilptr]), none⟩ := rfl
@[simp] theorem tab_18 : tab 18 = some ⟨1, 8, true, .struct [(0, 17)], (some [.v .nilptr]), none⟩ := rfl
@[simp] theorem tab_19 : tab 19 = some ⟨1, 8, true, .struct [(0, 17)], (some [.v .nilptr]), none⟩ := rfl
@[simp] theorem tab_20 : tab 20 = some ⟨1, 16, false, .iface, (some [.v .niliface]), none⟩ := rfl
@[simp] theorem tab_21 : tab 21 = some ⟨1, 4, false, .int .i32, (some [.v (.int .i32 0)]), (some [.int .i32])⟩ := rfl
@[simp] theorem tab_22 : tab 22 = some ⟨1, 24, false, .slice 3, (some [.sl 3]), none⟩ := rfl
@[simp] theorem tab_23 : tab 23 = some ⟨1, 8, false, .ptr 70, (some [.v .nilptr]), none⟩ := rfl
@[simp] theorem tab_24 : tab 24 = some ⟨1, 8, false, .int .i64, (some [.v (.int .i64 0)]), (some [.int .i64])⟩ := rfl
@[simp] theorem tab_26 : tab 26 = some ⟨1, 8, false, .func, (some [.v .nilfunc]), none⟩ := rfl
@[simp] theorem tab_27 : tab 27 = some ⟨1, 8, false, .ptr 72, (some [.v .nilptr]), none⟩ := rfl
@[simp] theorem tab_28 : tab 28 = some ⟨1, 8, false, .func, (some [.v .nilfunc]), none⟩ := rfl
@[simp] theorem tab_29 : tab 29 = some ⟨1, 8, false, .func, (some [.v .nilfunc]), none⟩ := rfl
@[simp] theorem tab_30 : tab 30 = some ⟨1, 24, false, .slice 4, (some [.sl 4]), none⟩ := rfl
@[simp] theorem tab_31 : tab 31 = some ⟨1, 8, false, .func, (some [.v .nilfunc]), none⟩ := rfl
@[simp] theorem tab_32 : tab 32 = some ⟨1, 8, false, .func, (some [.v .nilfunc]), none⟩ := rfl
@[simp] theorem tab_33 : tab 33 = some ⟨1, 24, false, .slice 5, (some [.sl 5]), none⟩ := rfl
@[simp] theorem tab_34 : tab 34 = some ⟨1, 8, false, .func, (some [.v .nilfunc]), none⟩ := rfl
@[simp] theorem tab_35 : tab 35 = some ⟨1, 8, false, .func, (some [.v .nilfunc]), none⟩ := rfl
@[simp] theorem tab_36 : tab 36 = some ⟨1, 8, false, .func, (some [.v .nilfunc]), none⟩ := rfl
@[simp] theorem tab_37 : tab 37 = some ⟨1, 8, false, .ptr 77, (some [.v .nilptr]), none⟩ := rfl
@[simp] theorem tab_38 : tab 38 = some ⟨1, 8, false, .func, (some [.v .nilfunc]), none⟩ := rfl
@[simp] theorem tab_39 : tab 39 = some ⟨1, 8, false, .func, (some [.v .nilfunc]), none⟩ := rfl
@[simp] theorem tab_40 : tab 40 = some ⟨1, 8, false, .ptr 43, (some [.v .nilptr]), none⟩ := rfl
@[simp] theorem tab_41 : tab 41 = some ⟨1, 8, false, .func, (some [.v .nilfunc]), none⟩ := rfl
@[simp] theorem tab_42 : tab 42 = some ⟨2, 32, true, .struct [(0, 30), (1, 3)], (some [.sl 4, .v (.int .i64 0)]), none⟩ := rfl
@[simp] theorem tab_43 : tab 43 = some ⟨2, 32, true, .struct [(0, 30), (1, 3)], (some [.sl 4, .v (.int .i64 0)]), none⟩ := rfl
@[simp] theorem tab_45 : tab 45 = some ⟨1, 8, false, .func, (some [.v .nilfunc]), none⟩ := rfl
@[simp] theorem tab_46 : tab 46 = some ⟨1, 8, false, .func, (some [.v .nilfunc]), none⟩ := rfl
@[simp] theorem tab_47 : tab 47 = some ⟨1, 8, false, .func, (some [.v .nilfunc]), none⟩ := rfl
@[simp] theorem tab_48 : tab 48 = some ⟨1, 8, false, .func, (some [.v .nilfunc]), none⟩ := rfl
@[simp] theorem tab_49 : tab 49 = some ⟨1, 8, false, .func, (some [.v .nilfunc]), none⟩ := rfl
@[simp] theorem tab_51 : tab 51 = some ⟨1, 8, false, .func, (some [.v .nilfunc]), none⟩ := rfl
@[simp] theorem tab_52 : tab 52 = some ⟨1, 24, false, .slice 62, (some [.sl 62]), none⟩ := rfl
@[simp] theorem tab_53 : tab 53 = some ⟨1, 8, false, .func, (some [.v .nilfunc]), none⟩ := rfl
@[simp] theorem tab_55 : tab 55 = some ⟨1, 8, false, .func, (some [.v .nilfunc]), none⟩ := rfl
@[simp] theorem tab_57 : tab 57 = some ⟨1, 8, false, .func, (some [.v .nilfunc]), none⟩ := rfl
@[simp] theorem tab_58 : tab 58 = some ⟨1, 8, false, .func, (some [.v .nilfunc]), none⟩ := rfl
@[simp] theorem tab_59 : tab 59 = some ⟨1, 8, false, .func, (some [.v .nilfunc]), none⟩ := rfl
@[simp] theorem tab_60 : tab 60 = some ⟨1, 8, false, .func, (some [.v .nilfunc]), none⟩ := rfl
@[simp] theorem tab_61 : tab 61 = some ⟨3, 24, true, .struct [(0, 3), (1, 3), (2, 3)], (some [.v (.int .i64 0), .v (.int .i64 0), .v (.int .i64 0)]), (some [.int .i64, .int .i64, .int .i64])⟩ := rfl
@[simp] theorem tab_62 : tab 62 = some ⟨3, 24, true, .struct [(0, 3), (1, 3), (2, 3)], (some [.v (.int .i64 0), .v (.int .i64 0), .v (.int .i64 0)]), (some [.int .i64, .int .i64, .int .i64])⟩ := rfl
@[simp] theorem tab_63 : tab 63 = some ⟨1, 8, false, .func, (some [.v .nilfunc]), none⟩ := rfl
@[simp] theorem tab_64 : tab 64 = some ⟨1, 8, false, .func, (some [.v .nilfunc]), none⟩ := rfl
@[simp] theorem tab_65 : tab 65 = some ⟨1, 8, false, .func, (some [.v .nilfunc]), none⟩ := rfl
@[simp] theorem tab_66 : tab 66 = some ⟨1, 8, false, .func, (some [.v .nilfunc]), none⟩ := rfl
@[simp] theorem tab_67 : tab 67 = some ⟨1, 8, false, .func, (some [.v .nilfunc]), none⟩ := rfl
@[simp] theorem tab_68 : tab 68 = some ⟨16, 128, true, .arr 16 3, (some [.run .i64 16]), none⟩ := rfl
@[simp] theorem tab_69 : tab 69 = some ⟨19, 200, true, .struct [(0, 68), (16, 22), (17, 22), (18, 22)], (some [.run .i64 16, .sl 3, .sl 3, .sl 3]), none⟩ := rfl
@[simp] theorem tab_70 : tab 70 = some ⟨19, 200, true, .struct [(0, 68), (16, 22), (17, 22), (18, 22)], (some [.run .i64 16, .sl 3, .sl 3, .sl 3]), none⟩ := rfl
@[simp] theorem tab_71 : tab 71 = some ⟨3, 40, true, .struct [(0, 33), (1, 3), (2, 3)], (some [.sl 5, .v (.int .i64 0), .v (.int .i64 0)]), none⟩ := rfl
@[simp] theorem tab_72 : tab 72 = some ⟨3, 40, true, .struct [(0, 33), (1, 3), (2, 3)], (some [.sl 5, .v (.int .i64 0), .v (.int .i64 0)]), none⟩ := rfl
@[simp] theorem tab_73 : tab 73 = some ⟨1, 8, false, .func, (some [.v .nilfunc]), none⟩ := rfl
@[simp] theorem tab_74 : tab 74 = some ⟨1, 8, false, .func, (some [.v .nilfunc]), none⟩ := rfl
@[simp] theorem tab_75 : tab 75 = some ⟨1, 8, false, .func, (some [.v .nilfunc]), none⟩ := rfl
@[simp] theorem tab_76 : tab 76 = some ⟨4, 48, true, .struct [(0, 33), (1, 3), (2, 3), (3, 3)], (some [.sl 5, .v (.int .i64 0), .v (.int .i64 0), .v (.int .i64 0)]), none⟩ := rfl
@[simp] theorem tab_77 : tab 77 = some ⟨4, 48, true, .struct [(0, 33), (1, 3), (2, 3), (3, 3)], (some [.sl 5, .v (.int .i64 0), .v (.int .i64 0), .v (.int .i64 0)]), none⟩ := rfl
@[simp] theorem tab_78 : tab 78 = some ⟨1, 8, false, .func, (some [.v .nilfunc]), none⟩ := rfl
@[simp] theorem tab_79 : tab 79 = some ⟨1, 8, false, .func, (some [.v .nilfunc]), none⟩ := rfl
@[simp] theorem tab_80 : tab 80 = some ⟨1, 8, false, .int .u64, (some [.v (.int .u64 0)]), (some [.int .u64])⟩ := rfl
@[simp] theorem tab_82 : tab 82 = some ⟨1, 8, false, .func, (some [.v .nilfunc]), none⟩ := rfl
@[simp] theorem tab_83 : tab 83 = some ⟨1, 8, false, .func, (some [.v .nilfunc]), none⟩ := rfl
@[simp] theorem tab_84 : tab 84 = some ⟨1, 8, false, .func, (some [.v .nilfunc]), none⟩ := rfl
@[simp] theorem tab_85 : tab 85 = some ⟨1, 8, false, .func, (some [.v .nilfunc]), none⟩ := rfl
@[simp] theorem tab_86 : tab 86 = some ⟨1, 8, false, .func, (some [.v .nilfunc]), none⟩ := rfl
@[simp] theorem tab_87 : tab 87 = some ⟨1, 24, false, .slice 89, (some [.sl 89]), none⟩ := rfl
@[simp] theorem tab_88 : tab 88 = some ⟨3, 24, true, .struct [(0, 3), (1, 3), (2, 3)], (some [.v (.int .i64 0), .v (.int .i64 0), .v (.int .i64 0)]), (some [.int .i64, .int .i64, .int .i64])⟩ := rfl
@[simp] theorem tab_89 : tab 89 = some ⟨3, 24, true, .struct [(0, 3), (1, 3), (2, 3)], (some [.v (.int .i64 0), .v (.int .i64 0), .v (.int .i64 0)]), (some [.int .i64, .int .i64, .int .i64])⟩ := rfl
@[simp] theorem tab_90 : tab 90 = some ⟨1, 8, false, .func, (some [.v .nilfunc]), none⟩ := rfl
@[simp] theorem tab_91 : tab 91 = some ⟨1, 8, false, .func, (some [.v .nilfunc]), none⟩ := rfl
@[simp] theorem tab_93 : tab 93 = some ⟨1, 8, false, .func, (some [.v .nilfunc]), none⟩ := rfl
@[simp] theorem tab_94 : tab 94 = some ⟨1, 8, false, .func, (some [.v .nilfunc]), none⟩ := rfl
@[simp] theorem tab_95 : tab 95 = some ⟨2, 16, true, .struct [(0, 3), (1, 3)], (some [.v (.int .i64 0), .v (.int .i64 0)]), (some [.int .i64, .int .i64])⟩ := rfl
@[simp] theorem tab_96 : tab 96 = some ⟨2, 16, true, .struct [(0, 3), (1, 3)], (some [.v (.int .i64 0), .v (.int .i64 0)]), (some [.int .i64, .int .i64])⟩ := rfl
@[simp] theorem tab_97 : tab 97 = some ⟨1, 16, false, .iface, (some [.v .niliface]), none⟩ := rfl
@[simp] theorem tab_98 : tab 98 = some ⟨1, 16, false, .iface, (some [.v .niliface]), none⟩ := rfl
@[simp] theorem tab_99 : tab 99 = some ⟨1, 8, false, .func, (some [.v .nilfunc]), none⟩ := rfl
@[simp] theorem tab_100 : tab 100 = some ⟨1, 8, false, .func, (some [.v .nilfunc]), none⟩ := rfl
@[simp] theorem tab_101 : tab 101 = some ⟨1, 8, false, .func, (some [.v .nilfunc]), none⟩ := rfl
@[simp] theorem tab_103 : tab 103 = some ⟨1, 8, false, .func, (some [.v .nilfunc]), none⟩ := rfl
@[simp] theorem tab_105 : tab 105 = some ⟨1, 8, false, .func, (some [.v .nilfunc]), none⟩ := rfl
@[simp] theorem tab_106 : tab 106 = some ⟨1, 4, false, .int .u32, (some [.v (.int .u32 0)]), (some [.int .u32])⟩ := rfl
@[simp] theorem tab_108 : tab 108 = some ⟨1, 8, false, .func, (some [.v .nilfunc]), none⟩ := rfl
@[simp] theorem tab_109 : tab 109 = some ⟨1, 8, false, .int .u64, (some [.v (.int .u64 0)]), (some [.int .u64])⟩ := rfl
@[simp] theorem tab_111 : tab 111 = some ⟨1, 8, false, .func, (some [.v .nilfunc]), none⟩ := rfl
@[simp] theorem tab_112 : tab 112 = some ⟨1, 8, false, .func, (some [.v .nilfunc]), none⟩ := rfl
@[simp] theorem tab_113 : tab 113 = some ⟨4, 40, true, .struct [(0, 17), (1, 17), (2, 17), (3, 9)], (some [.v .nilptr, .v .nilptr, .v .nilptr, .v (.str ⟨#[]⟩)]), none⟩ := rfl
@[simp] theorem tab_114 : tab 114 = some ⟨4, 40, true, .struct [(0, 17), (1, 17), (2, 17), (3, 9)], (some [.v .nilptr, .v .nilptr, .v .nilptr, .v (.str ⟨#[]⟩)]), none⟩ := rfl
@[simp] theorem tab_115 : tab 115 = some ⟨0, 0, true, .arr 0 16, (some []), none⟩ := rfl
@[simp] theorem tab_116 : tab 116 = some ⟨0, 0, true, .struct [(0, 115)], (some []), none⟩ := rfl
@[simp] theorem tab_117 : tab 117 = some ⟨0, 0, true, .struct [(0, 115)], (some []), none⟩ := rfl
@[simp] theorem tab_118 : tab 118 = some ⟨1, 1, false, .int .u8, (some [.v (.int .u8 0)]), (some [.int .u8])⟩ := rfl
@[simp] theorem tab_119 : tab 119 = some ⟨1, 1, false, .int .u8, (some [.v (.int .u8 0)]), (some [.int .u8])⟩ := rfl
@[simp] theorem tab_120 : tab 120 = some ⟨1, 8, false, .func, (some [.v .nilfunc]), none⟩ := rfl
@[simp] theorem tab_121 : tab 121 = some ⟨1, 8, false, .ptr 5, (some [.v .nilptr]), none⟩ := rfl
@[simp] theorem tab_122 : tab 122 = some ⟨1, 4, false, .int .i32, (some [.v (.int .i32 0)]), (some [.int .i32])⟩ := rfl
@[simp] theorem tab_123 : tab 123 = some ⟨1, 4, false, .int .i32, (some [.v (.int .i32 0)]), (some [.int .i32])⟩ := rfl
@[simp] theorem tab_124 : tab 124 = some ⟨11, 48, true, .struct [(0, 12), (1, 12), (2, 106), (3, 118), (4, 5), (5, 5), (6, 119), (7, 120), (8, 121), (9, 122), (10, 123)], (some [.v (.int .u64 0), .v (.int .u64 0), .v (.int .u32 0), .v (.int .u8 0), .v (.int .u8 0), .v (.int .u8 0), .v (.int .u8 0), .v .nilfunc, .v .nilptr, .v (.int .i32 0), .v (.int .i32 0)]), none⟩ := rfl
@[simp] theorem tab_125 : tab 125 = some ⟨11, 48, true, .struct [(0, 12), (1, 12), (2, 106), (3, 118), (4, 5), (5, 5), (6, 119), (7, 120), (8, 121), (9, 122), (10, 123)], (some [.v (.int .u64 0), .v (.int .u64 0), .v (.int .u32 0), .v (.int .u8 0), .v (.int .u8 0), .v (.int .u8 0), .v (.int .u8 0), .v .nilfunc, .v .nilptr, .v (.int .i32 0), .v (.int .i32 0)]), none⟩ := rfl
@[simp] theorem tab_126 : tab 126 = some ⟨1, 8, false, .func, (some [.v .nilfunc]), none⟩ := rfl
@[simp] theorem tab_127 : tab 127 = some ⟨1, 8, false, .other, (some [.v .nilptr]), none⟩ := rfl
/-- methods: of a type, by name -/
noncomputable def meths : List (TypeId × String × FuncId) := [(37, "Bits", 44), (37, "Left", 23), (37, "erasure/bits.next", 88)]
-- 3 erasure/erasurelaw05.HuffPuts  callees [11, 12, 13, 14, 15, 16, 17]
def draws3 : List Draw := [⟨16, [[], [0], [0, 1], [0, 1, 2], [0, 1, 2, 3], [0, 1], [0, 1, 2, 3, 5], [0, 1, 2, 3, 5, 6], [0, 1, 2, 3, 4, 5, 6, 7], [0, 1, 2, 3, 4, 5, 6, 7, 8], [0, 1, 2, 3, 4, 5, 6, 7, 8, 9]], [(4, some 3, []), (4, some 6, [])]⟩]
def loops3 : List Lk := [⟨9, [0, 1, 5, 7, 8, 9], [7, 8], [4]⟩]
-- 4 erasure/erasurelaw05.HuffReads  callees [11, 13, 18, 19, 20, 21, 22, 23]
def draws4 : List Draw := [⟨13, [[], [], [0, 1], [0, 1, 2], [0, 1, 2, 3], [0, 1, 2, 3], [0, 1, 2, 3, 4, 5], [0, 1, 2, 3, 4, 5, 6], [0, 1, 2, 3, 4, 5, 6, 7], [0, 1, 2, 3, 4, 5, 6, 7, 8], [0, 1, 2, 3, 4, 5, 6, 7, 8, 9], [0, 1, 2, 3, 4, 5, 6, 7, 8], [0, 1, 2, 3, 4, 5, 6, 7, 8, 11], [0, 1, 2, 3, 4, 5, 6, 7, 8, 11, 12], [0, 1, 2, 3, 4, 5, 6, 7, 8, 11, 12, 13], [0, 1, 2, 3, 4, 5, 6, 7, 8, 11, 12, 13, 14], [0, 1, 2, 3, 4, 5, 6, 7, 8], [0, 1, 2, 3, 4, 5, 6, 7, 8, 16], [0, 1, 2, 3, 4, 5, 6, 7, 8, 16, 17], [0, 1, 2, 3, 4, 5, 6, 7, 8, 16, 17, 18], [0, 1, 2, 3, 4, 5, 6, 7, 8, 11, 12, 13, 14, 15, 16, 17, 18, 19], [0, 1, 2, 3, 4, 5, 6, 7, 8, 9, 10, 11, 12, 13, 14, 15, 16, 17, 18, 19, 20], [0, 1, 2, 3, 4, 5, 6, 7, 8, 9, 10, 11, 12, 13, 14, 15, 16, 17, 18, 19, 20, 21]], [(14, none, []), (14, some 10, []), (19, none, []), (19, some 10, [])]⟩]
def loops4 : List Lk := [⟨9, [0, 1, 5, 7, 8, 9], [], [4]⟩]
-- 5 erasure/erasurelaw05.HuffNil  callees [11, 12, 13, 15, 18, 21]
def draws5 : List Draw := []
def loops5 : List Lk := []
-- 6 erasure/erasurelaw05.HuffBack  callees [11, 12, 13, 15, 16, 18, 21, 23, 24]
def draws6 : List Draw := [⟨14, [[], [], [0, 1], [0, 1, 2], [0, 1, 2, 3], [0, 1, 2, 3], [0, 1, 2, 3, 4, 5], [0, 1, 2, 3, 4, 5, 6], [0, 1, 2, 3, 4, 5, 6, 7], [0, 1, 2, 3, 4, 5, 6, 7, 8], [0, 1, 2, 3, 4, 5, 6, 7, 8, 9], [0, 1, 2, 3, 4, 5, 6, 7, 8, 9, 10], [0, 1, 2, 3, 4, 5, 6, 7, 8, 9, 10], [0, 1, 2, 3, 4, 5, 6, 7, 8, 9, 10, 11, 12], [0, 1, 2, 3, 4, 5, 6, 7, 8, 9, 10, 11, 12, 13], [0, 1, 2, 3, 4, 5, 6, 7, 8, 9, 10], [0, 1, 2, 3, 4, 5, 6, 7, 8, 9, 10], [0, 1, 2, 3, 4, 5, 6, 7, 8, 9, 10, 15, 16], [0, 1, 2, 3, 4, 5, 6, 7, 8, 9, 10, 15, 16, 17], [0, 1, 2, 3, 4, 5, 6, 7, 8, 9, 10, 11, 12, 13, 14, 15, 16, 17, 18], [0, 1, 2, 3, 4, 5, 6, 7, 8, 9, 10, 11, 12, 13, 14, 15, 16, 17, 18, 19], [0, 1, 2, 3, 4, 5, 6, 7, 8, 9, 10, 11, 12, 13, 14, 15, 16, 17, 18, 19, 20], [0, 1, 2, 3, 4, 5, 6, 7, 8, 9, 10, 11, 12, 13, 14, 15, 16, 17, 18, 19, 20, 21], [0, 1, 2, 3, 4, 5, 6, 7, 8, 9, 10, 11, 12, 13, 14, 15, 16, 17, 18, 19, 20, 21], [0, 1, 2, 3, 4, 5, 6, 7, 8, 9, 10, 11, 12, 13, 14, 15, 16, 17, 18, 19, 20, 21, 22, 23], [0, 1, 2, 3, 4, 5, 6, 7, 8, 9, 10, 11, 12, 13, 14, 15, 16, 17, 18, 19, 20, 21, 22, 23, 24], [0, 1, 2, 3, 4, 5, 6, 7, 8, 9, 10, 11, 12, 13, 14, 15, 16, 17, 18, 19, 20, 21, 22, 23, 24, 25], [0, 1, 2, 3, 4, 5, 6, 7, 8, 9, 10, 11, 12, 13, 14, 15, 16, 17, 18, 19, 20, 21, 22, 23, 24, 25, 26]], []⟩]
def loops6 : List Lk := [⟨9, [0, 1, 5, 7, 9, 10], [1, 5, 9], [4]⟩, ⟨12, [0, 1, 5, 7, 9, 10, 11], [0, 1, 5, 7, 9, 10], [4]⟩, ⟨17, [0, 1, 5, 7, 9, 10, 11, 12, 13], [0, 1, 5, 7, 9, 10, 11, 12], [4]⟩, ⟨24, [1, 5, 9, 14, 15], [5, 9, 14], [4]⟩, ⟨30, [5, 14, 16, 17], [16], [4]⟩]
-- 7 erasure/erasurelaw07.DeflateDoes  callees [25, 26, 27, 28, 29, 30, 31, 32, 33]
def draws7 : List Draw := []
def loops7 : List Lk := []
-- 8 erasure/erasurelaw07.DeflateLong  callees [26, 32]
def draws8 : List Draw := [⟨17, [[], [0], [0, 1], [0, 1, 2], [0, 1, 2], [0, 1, 2, 3, 4], [0, 1, 2], [0, 1, 2, 6], [0, 1, 2, 3, 4, 5, 6, 7], [0, 1, 2, 3, 4, 5, 6, 7, 8], [0, 1, 2, 3, 4, 5, 6, 7, 8, 9], [0, 1, 2, 3, 4, 5, 6, 7, 8, 9, 10], [0, 1, 2, 3, 4, 5, 6, 7, 8, 9, 10], [0, 1, 2, 3, 4, 5, 6, 7, 8, 9, 10], [0, 1, 2, 3, 4, 5, 6, 7, 8, 9, 10, 12, 13], [0, 1, 2, 3, 4, 5, 6, 7, 8, 9, 10, 11, 12, 13, 14], [0, 1, 2, 3, 4, 5, 6, 7, 8, 9, 10, 11, 12, 13, 14, 15], [0, 1, 2, 3, 4, 5, 6, 7, 8, 9, 10], [0, 1, 2, 3, 4, 5, 6, 7, 8, 9, 10], [0, 1, 2, 3, 4, 5, 6, 7, 8, 9, 10], [0, 1, 2, 3, 4, 5, 6, 7, 8, 9, 10, 18, 19], [0, 1, 2, 3, 4, 5, 6, 7, 8, 9, 10], [0, 1, 2, 3, 4, 5, 6, 7, 8, 9, 10, 18, 19, 20, 21], [0, 1, 2, 3, 4, 5, 6, 7, 8, 9, 10, 17, 18, 19, 20, 21, 22], [0, 1, 2, 3, 4, 5, 6, 7, 8, 9, 10, 17, 18, 19, 20, 21, 22, 23], [0, 1, 2, 3, 4, 5, 6, 7, 8, 9, 10, 11, 12, 13, 14, 15, 16, 17, 18, 19, 20, 21, 22, 23, 24], [0, 1, 2, 3, 4, 5, 6, 7, 8, 9, 10, 11, 12, 13, 14, 15, 16, 17, 18, 19, 20, 21, 22, 23, 24, 25]], []⟩]
def loops8 : List Lk := [⟨8, [0, 3, 5, 6], [0, 5], [2]⟩, ⟨14, [0, 3, 5, 6, 7, 8], [0, 3, 5, 6, 7], [2]⟩, ⟨17, [0, 3, 5, 6, 7, 8, 9], [0, 3, 5, 6, 7, 8, 9], [2]⟩]
-- 9 erasure/erasurelaw07.DeflateRun  callees [26, 32]
def draws9 : List Draw := []
def loops9 : List Lk := [⟨5, [0, 1, 5, 6], [0, 1, 5], [4]⟩, ⟨11, [0, 7, 8, 9, 10], [8, 9], [4]⟩]
-- 10 erasure/erasurelaw08.ZlibSums  callees [34, 35]
def draws10 : List Draw := []
def loops10 : List Lk := []
-- 11 erasure/huff.Make  callees [24, 36]
def draws11 : List Draw := [⟨14, [[], [], [0], [0, 2], [0, 1, 2, 3], [0, 1, 2, 3, 4], [0, 1, 2, 3, 4, 5], [0], [0, 7], [0, 1, 2, 3, 4, 5, 6, 7, 8], [0, 1, 2, 3, 4, 5, 6, 7, 8, 9]], []⟩]
def loops11 : List Lk := [⟨7, [0, 6, 7, 24], [6, 7], [2, 3]⟩, ⟨10, [0, 6, 7, 8, 24, 27, 28, 29], [0, 6, 7, 24], [2, 3]⟩]
-- 12 erasure/bits.NewWriter  callees []
def draws12 : List Draw := []
def loops12 : List Lk := []
-- 13 erasure/erasurelaw05.awake  callees [11, 24, 37, 38]
def draws13 : List Draw := []
def loops13 : List Lk := []
-- 14 erasure/erasureref05.Word  callees [39]
def draws14 : List Draw := []
def loops14 : List Lk := [⟨7, [7, 8, 9], [7], [4]⟩]
-- 15 (*erasure/huff.Table).Put  callees [40, 41]
def draws15 : List Draw := [⟨3, [[], [0], [0, 1], [0, 1, 2], [0, 1, 2], [0, 1, 2, 4], [0, 1, 2, 4, 5], [0, 1, 2, 4, 5, 6], [0, 1, 2, 4, 5, 6, 7], [0, 1, 2, 3, 4, 5, 6, 7, 8], [0, 1, 2, 3, 4, 5, 6, 7, 8, 9], [0, 1, 2, 3, 4, 5, 6, 7, 8, 9, 10], [0, 1, 2, 3, 4, 5, 6, 7, 8, 9, 10, 11], [0, 1, 2, 3, 4, 5, 6, 7, 8, 9, 10, 11, 12], [0, 1, 2, 3, 4, 5, 6, 7, 8, 9, 10, 11, 12, 13], [0, 1, 2, 3, 4, 5, 6, 7, 8, 9, 10, 11, 12, 13, 14], [0, 1, 2, 3, 4, 5, 6, 7, 8, 9, 10, 11], [0, 1, 2, 3, 4, 5, 6, 7, 8, 9, 10, 11, 12, 13, 14, 15, 16], [0, 1, 2, 3, 4, 5, 6, 7, 8, 9, 10, 11, 12, 13, 14, 15, 16, 17], [0, 1, 2, 3, 4, 5, 6, 7, 8, 9, 10, 11, 12, 13, 14, 15, 16, 17, 18], [0, 1, 2, 3, 4, 5, 6, 7, 8, 9, 10, 11, 12, 13, 14, 15, 16, 17, 18, 19], [0, 1, 2, 3, 4, 5, 6, 7, 8, 9, 10, 11, 12, 13, 14, 15, 16, 17, 18, 19, 20]], []⟩,
  ⟨6, [[], [0], [0, 1], [0, 1, 2], [], [0, 1, 2, 3, 4], [0, 1, 2, 3, 4, 5], []], []⟩]
def loops15 : List Lk := [⟨7, [1, 7, 46, 47], [], [6]⟩]
-- 16 (*erasure/bits.Writer).Bytes  callees [42]
def draws16 : List Draw := []
def loops16 : List Lk := []
-- 17 erasure/erasureref04.Bytes  callees []
def draws17 : List Draw := []
def loops17 : List Lk := [⟨3, [0, 3, 4], [3], [2]⟩, ⟨8, [0, 3, 4, 5, 6], [0, 3, 4, 5], [2]⟩]
-- 18 erasure/bits.NewReader  callees [42]
def draws18 : List Draw := []
def loops18 : List Lk := []
-- 19 erasure/erasureref05.Make  callees [39, 43]
def draws19 : List Draw := []
def loops19 : List Lk := [⟨7, [0, 5, 6, 7], [0, 5, 6], [2]⟩]
-- 20 erasure/erasureref04.Of  callees []
def draws20 : List Draw := []
def loops20 : List Lk := [⟨3, [0, 3, 4], [3], [2]⟩, ⟨7, [0, 3, 4, 5, 6], [0, 3, 4], [2]⟩]
-- 21 (*erasure/huff.Table).Read  callees [44]
def draws21 : List Draw := []
def loops21 : List Lk := [⟨5, [0, 1, 6, 7, 8, 9], [], [4, 5]⟩]
-- 22 erasure/erasureref05.Read  callees [39, 45]
def draws22 : List Draw := []
def loops22 : List Lk := [⟨4, [0, 1, 6, 8, 9], [], [4, 5]⟩, ⟨11, [0, 1, 6, 8, 9, 12], [0, 1, 6, 8, 9], [4, 5]⟩]
-- 23 (*erasure/bits.Reader).Left  callees []
def draws23 : List Draw := [⟨3, [[], [0], [0, 1], [0, 1, 2], [0, 1, 2, 3], [], [5], [5, 6], [5, 6, 7], [0, 1, 2, 3, 4, 5, 6, 7, 8], [0, 1, 2, 3, 4, 5, 6, 7, 8, 9], [], [11], [11, 12], [11, 12, 13], [0, 1, 2, 3, 4, 5, 6, 7, 8, 9, 10, 11, 12, 13, 14], [0, 1, 2, 3, 4, 5, 6, 7, 8, 9, 10, 11, 12, 13, 14, 15]], []⟩]
def loops23 : List Lk := []
-- 24 erasure/huff.Codes  callees [46]
def draws24 : List Draw := [⟨8, [[], [0], [], [2], [2, 3], [], [5], [5, 6], [2, 3, 4, 5, 6, 7], [2, 3, 4, 5, 6, 7, 8], [0, 1, 2, 3, 4, 5, 6, 7, 8, 9], [0, 1, 2, 3, 4, 5, 6, 7, 8, 9, 10]], []⟩]
def loops24 : List Lk := [⟨6, [0, 4, 6, 7], [0, 6], [2, 3]⟩, ⟨11, [6, 8, 37, 38, 39], [8], [2, 3]⟩]
-- 25 erasure/erasureref04.Own  callees []
def draws25 : List Draw := []
def loops25 : List Lk := []
-- 26 erasure/deflate.Tokens  callees [47]
def draws26 : List Draw := []
def loops26 : List Lk := [⟨5, [0, 4, 5], [4], [2, 3]⟩, ⟨8, [0, 4, 5, 6, 7], [0, 4, 5, 6], [2, 3]⟩]
-- 27 erasure/erasureref07.Tokens  callees [48]
def draws27 : List Draw := []
def loops27 : List Lk := [⟨5, [0, 4, 5], [4], [2, 3]⟩, ⟨9, [0, 4, 5, 6, 7, 8], [0, 4, 5, 6, 7], [2, 3]⟩]
-- 28 erasure/deflate.Put  callees [11, 12, 15, 16, 38, 41, 49, 50, 52, 53, 54, 55]
def draws28 : List Draw := []
def loops28 : List Lk := [⟨14, [4, 6, 7, 8, 9, 10, 38, 39, 40], [4, 7], [2, 3]⟩]
-- 29 erasure/erasureref07.Put  callees [14, 17, 56, 57, 58, 59, 60]
def draws29 : List Draw := []
def loops29 : List Lk := [⟨3, [0, 4, 5], [0, 4], [2, 3]⟩, ⟨10, [0, 4, 6, 7, 8], [6, 7], [2, 3]⟩, ⟨19, [0, 4, 6, 7, 8, 9, 10, 11, 12], [0, 4, 6, 7, 8, 9, 10, 11, 12], [2, 3]⟩, ⟨28, [0, 4, 6, 7, 8, 9, 10, 11, 12], [0, 4, 6, 7, 8, 9, 10, 11, 12], [2, 3]⟩]
-- 30 erasure/deflate.Deflate  callees [26, 28]
def draws30 : List Draw := []
def loops30 : List Lk := []
-- 31 erasure/erasureref07.Deflate  callees [27, 29]
def draws31 : List Draw := []
def loops31 : List Lk := []
-- 32 erasure/erasurelaw07.awake  callees [26, 30, 33]
def draws32 : List Draw := []
def loops32 : List Lk := []
-- 33 erasure/erasureref06.Same  callees []
def draws33 : List Draw := [⟨6, [[], [], [0, 1], [0, 1, 2], [], [], [4, 5], [4, 5, 6], [0, 1, 2, 3, 4, 5, 6, 7]], []⟩]
def loops33 : List Lk := [⟨4, [0, 1, 5], [], [4]⟩]
-- 34 erasure/zlib.Sum  callees []
def draws34 : List Draw := []
def loops34 : List Lk := [⟨3, [3, 7, 8, 9], [3], [2]⟩]
-- 35 erasure/erasurelaw08.awake  callees [34, 61]
def draws35 : List Draw := []
def loops35 : List Lk := []
-- 36 slices.Clone[[]int,int]  callees []
def draws36 : List Draw := []
def loops36 : List Lk := []
-- 37 erasure/erasureref05.Ints  callees []
def draws37 : List Draw := [⟨6, [[], [], [0, 1], [0, 1, 2], [], [], [4, 5], [4, 5, 6], [0, 1, 2, 3, 4, 5, 6, 7]], []⟩]
def loops37 : List Lk := [⟨4, [0, 1, 5], [], [4]⟩]
-- 38 erasure/huff.Fixed  callees [52]
def draws38 : List Draw := []
def loops38 : List Lk := [⟨3, [1, 2], [1], [0]⟩]
-- 39 erasure/erasureref05.Codes  callees [43]
def draws39 : List Draw := []
def loops39 : List Lk := [⟨9, [0, 5, 6, 7], [5], [2, 3]⟩, ⟨13, [0, 5, 6, 7, 8], [0, 5, 6, 7], [2, 3]⟩]
-- 40 (*erasure/huff.Table).Put$1  callees []
def draws40 : List Draw := [⟨1, [[], [0], [0, 1], [0, 1, 2], [], [0, 1, 2, 3, 4], [0, 1, 2, 3, 4, 5], [], [7], [7, 8], [7, 8, 9], [], [7, 8, 9, 10, 11], [7, 8, 9, 10, 11, 12], [7, 8, 9, 10, 11, 12, 13], [], [7, 8, 9, 10, 11, 12, 13, 14, 15], [0, 1, 2, 3, 4, 5, 6, 7, 8, 9, 10, 11, 12, 13, 14, 15, 16], [0, 1, 2, 3, 4, 5, 6, 7, 8, 9, 10, 11, 12, 13, 14, 15, 16, 17], [0, 1, 2, 3, 4, 5, 6, 7, 8, 9, 10, 11, 12, 13, 14, 15, 16, 17, 18]], []⟩]
def loops40 : List Lk := []
-- 41 (*erasure/bits.Writer).Put  callees []
def draws41 : List Draw := [⟨5, [[], [0], [0, 1], [0, 1, 2], [], [], [5], [5, 6], [5, 6, 7], [4, 5, 6, 7, 8], [0, 1, 2, 3, 4, 5, 6, 7, 8, 9], [0, 1, 2, 3, 4, 5, 6, 7, 8, 9, 10], [0, 1, 2, 3, 4, 5, 6, 7, 8, 9, 10, 11], [0, 1, 2, 3, 4, 5, 6, 7, 8, 9, 10, 11, 12]], []⟩,
  ⟨9, [[], [], [1], [1, 2], [1, 2, 3], [], [5], [5, 6], [5, 6, 7], [5, 6, 7, 8], [5, 6, 7, 8, 9], [1, 2, 3, 4, 5, 6, 7, 8, 9, 10], [0, 1, 2, 3, 4, 5, 6, 7, 8, 9, 10, 11], [0, 1, 2, 3, 4, 5, 6, 7, 8, 9, 10, 11, 12], [0, 1, 2, 3, 4, 5, 6, 7, 8, 9, 10, 11, 12, 13]], []⟩]
def loops41 : List Lk := [⟨7, [0], [], [6]⟩]
-- 42 slices.Clone[[]byte,byte]  callees []
def draws42 : List Draw := []
def loops42 : List Lk := []
-- 43 erasure/erasureref05.Share  callees [62]
def draws43 : List Draw := []
def loops43 : List Lk := [⟨5, [0, 3, 4], [3], [2]⟩]
-- 44 (*erasure/bits.Reader).Bits  callees [23]
def draws44 : List Draw := [⟨9, [[], [0], [0, 1], [0, 1, 2], [], [4], [4, 5], [], [7], [7, 8], [7, 8, 9], [4, 5, 6, 7, 8, 9, 10], [0, 1, 2, 3, 4, 5, 6, 7, 8, 9, 10, 11], [0, 1, 2, 3, 4, 5, 6, 7, 8, 9, 10, 11, 12], [0, 1, 2, 3, 4, 5, 6, 7, 8, 9, 10, 11, 12, 13], [0, 1, 2, 3, 4, 5, 6, 7, 8, 9, 10, 11, 12, 13, 14]], [(3, none, []), (3, some 5, []), (10, none, []), (10, some 5, [])]⟩,
  ⟨11, [[], [0], [0, 1], [0, 1, 2], [], [4], [4, 5], [0, 1, 2, 3, 4, 5, 6], [0, 1, 2, 3, 4, 5, 6, 7]], []⟩]
def loops44 : List Lk := [⟨8, [0, 1, 6], [0, 1], [4, 5]⟩]
-- 45 (*erasure/erasureref04.Reader).Bits  callees [63]
def draws45 : List Draw := [⟨3, [[], [], [1], [1, 2], [1, 2, 3], [1, 2, 3, 4], [], [6], [6, 7], [6, 7, 8], [1, 2, 3, 4, 5, 6, 7, 8, 9], [0, 1, 2, 3, 4, 5, 6, 7, 8, 9, 10]], []⟩,
  ⟨6, [[], [0], [0, 1], [0, 1, 2], [], [4], [4, 5], [4, 5, 6], [], [4, 5, 6, 7, 8], [], [10], [10, 11], [10, 11, 12], [0, 1, 2, 3, 4, 5, 6, 7, 8, 9, 10, 11, 12, 13], [0, 1, 2, 3, 4, 5, 6, 7, 8, 9, 10, 11, 12, 13, 14], [0, 1, 2, 3, 4, 5, 6, 7, 8, 9, 10, 11, 12, 13, 14, 15], [0, 1, 2, 3, 4, 5, 6, 7, 8, 9, 10, 11, 12, 13, 14, 15, 16]], []⟩]
def loops45 : List Lk := []
-- 46 erasure/huff.count  callees []
def draws46 : List Draw := []
def loops46 : List Lk := [⟨6, [2, 4, 5, 12, 13, 14], [2, 4, 5], [2, 3]⟩]
-- 47 erasure/deflate.run  callees []
def draws47 : List Draw := [⟨2, [[], [0], [0, 1], [0, 1, 2], [0, 1, 2], [0, 1, 2, 3, 4], [0, 1, 2], [0, 1, 2, 6], [0, 1, 2, 3, 4, 5, 6, 7], [0, 1, 2, 3, 4, 5, 6, 7, 8], [0, 1, 2, 3, 4, 5, 6, 7, 8, 9], [0, 1, 2, 3, 4, 5, 6, 7, 8, 9, 10], [0, 1, 2, 3, 4, 5, 6, 7, 8, 9, 10], [0, 1, 2, 3, 4, 5, 6, 7, 8, 9, 10], [0, 1, 2, 3, 4, 5, 6, 7, 8, 9, 10, 12, 13], [0, 1, 2, 3, 4, 5, 6, 7, 8, 9, 10, 11, 12, 13, 14], [0, 1, 2, 3, 4, 5, 6, 7, 8, 9, 10, 11, 12, 13, 14, 15], [0, 1, 2, 3, 4, 5, 6, 7, 8, 9, 10], [0, 1, 2, 3, 4, 5, 6, 7, 8, 9, 10], [0, 1, 2, 3, 4, 5, 6, 7, 8, 9, 10], [0, 1, 2, 3, 4, 5, 6, 7, 8, 9, 10, 18, 19], [0, 1, 2, 3, 4, 5, 6, 7, 8, 9, 10], [0, 1, 2, 3, 4, 5, 6, 7, 8, 9, 10, 18, 19, 20, 21], [0, 1, 2, 3, 4, 5, 6, 7, 8, 9, 10, 17, 18, 19, 20, 21, 22], [0, 1, 2, 3, 4, 5, 6, 7, 8, 9, 10, 17, 18, 19, 20, 21, 22, 23], [0, 1, 2, 3, 4, 5, 6, 7, 8, 9, 10, 11, 12, 13, 14, 15, 16, 17, 18, 19, 20, 21, 22, 23, 24], [0, 1, 2, 3, 4, 5, 6, 7, 8, 9, 10, 11, 12, 13, 14, 15, 16, 17, 18, 19, 20, 21, 22, 23, 24, 25]], []⟩]
def loops47 : List Lk := [⟨2, [0, 1, 2, 7], [7], [6]⟩]
-- 48 erasure/erasureref07.run  callees []
def draws48 : List Draw := [⟨2, [[], [0], [0, 1], [0, 1, 2], [0, 1, 2], [0, 1, 2, 3, 4], [0, 1, 2], [0, 1, 2, 6], [0, 1, 2, 3, 4, 5, 6, 7], [0, 1, 2, 3, 4, 5, 6, 7, 8], [0, 1, 2, 3, 4, 5, 6, 7, 8, 9], [0, 1, 2, 3, 4, 5, 6, 7, 8, 9, 10], [0, 1, 2, 3, 4, 5, 6, 7, 8, 9, 10], [0, 1, 2, 3, 4, 5, 6, 7, 8, 9, 10], [0, 1, 2, 3, 4, 5, 6, 7, 8, 9, 10, 12, 13], [0, 1, 2, 3, 4, 5, 6, 7, 8, 9, 10, 11, 12, 13, 14], [0, 1, 2, 3, 4, 5, 6, 7, 8, 9, 10, 11, 12, 13, 14, 15], [0, 1, 2, 3, 4, 5, 6, 7, 8, 9, 10], [0, 1, 2, 3, 4, 5, 6, 7, 8, 9, 10], [0, 1, 2, 3, 4, 5, 6, 7, 8, 9, 10], [0, 1, 2, 3, 4, 5, 6, 7, 8, 9, 10, 18, 19], [0, 1, 2, 3, 4, 5, 6, 7, 8, 9, 10], [0, 1, 2, 3, 4, 5, 6, 7, 8, 9, 10, 18, 19, 20, 21], [0, 1, 2, 3, 4, 5, 6, 7, 8, 9, 10, 17, 18, 19, 20, 21, 22], [0, 1, 2, 3, 4, 5, 6, 7, 8, 9, 10, 17, 18, 19, 20, 21, 22, 23], [0, 1, 2, 3, 4, 5, 6, 7, 8, 9, 10, 11, 12, 13, 14, 15, 16, 17, 18, 19, 20, 21, 22, 23, 24], [0, 1, 2, 3, 4, 5, 6, 7, 8, 9, 10, 11, 12, 13, 14, 15, 16, 17, 18, 19, 20, 21, 22, 23, 24, 25]], []⟩]
def loops48 : List Lk := [⟨2, [0, 1, 2, 7], [7], [6]⟩]
-- 49 slices.ContainsFunc[[]erasure/api.Token,erasure/api.Token]  callees [64]
def draws49 : List Draw := []
def loops49 : List Lk := []
-- 50 erasure/deflate.Put$1  callees [51]
def draws50 : List Draw := []
def loops50 : List Lk := []
-- 51 erasure/deflate.is  callees []
def draws51 : List Draw := []
def loops51 : List Lk := []
-- 52 slices.Repeat[[]int,int]  callees [65]
def draws52 : List Draw := [⟨9, [[], [], [], [1, 2], [], [], [4, 5], [1, 2, 3, 4, 5, 6], [0, 1, 2, 3, 4, 5, 6, 7], [0, 1, 2, 3, 4, 5, 6, 7, 8]], []⟩]
def loops52 : List Lk := [⟨8, [7, 8], [7], [4]⟩]
-- 53 erasure/deflate.Put$2  callees [15, 41]
def draws53 : List Draw := [⟨3, [[], [], [], [], [2, 3], [2, 3, 4], [2, 3, 4, 5], [0, 1, 2, 3, 4, 5, 6]], []⟩,
  ⟨4, [[], [], [], [], [2, 3], [2, 3, 4], [2, 3, 4, 5], [1, 2, 3, 4, 5, 6], [], [], [8, 9], [8, 9, 10], [8, 9, 10, 11], [0, 1, 2, 3, 4, 5, 6, 7, 8, 9, 10, 11, 12]], []⟩]
def loops53 : List Lk := [⟨1, [0, 1, 2, 3, 7], [0, 1, 2, 3, 7], []⟩]
-- 54 erasure/deflate.lengths  callees []
def draws54 : List Draw := []
def loops54 : List Lk := [⟨4, [1, 2, 3], [1], [0]⟩]
-- 55 erasure/deflate.backwards  callees []
def draws55 : List Draw := []
def loops55 : List Lk := [⟨4, [1, 2, 6], [1], [0]⟩]
-- 56 erasure/erasureref05.Fixed  callees []
def draws56 : List Draw := []
def loops56 : List Lk := [⟨3, [1, 2], [1], [0]⟩]
-- 57 erasure/erasureref06.Is  callees []
def draws57 : List Draw := []
def loops57 : List Lk := []
-- 58 erasure/erasureref06.Length  callees [66, 67]
def draws58 : List Draw := []
def loops58 : List Lk := [⟨5, [0, 4, 5], [0, 4], [2, 3]⟩]
-- 59 erasure/erasureref07.put  callees [68]
def draws59 : List Draw := []
def loops59 : List Lk := []
-- 60 erasure/erasureref06.Back  callees [66, 69]
def draws60 : List Draw := []
def loops60 : List Lk := [⟨3, [0, 4, 5], [0, 4], [2, 3]⟩]
-- 61 erasure/zlib.Pack  callees [30, 34]
def draws61 : List Draw := []
def loops61 : List Lk := [⟨6, [0, 4, 6, 18], [0, 4, 6], [2, 3]⟩]
-- 62 erasure/erasureref05.power  callees []
def draws62 : List Draw := []
def loops62 : List Lk := [⟨3, [0, 3, 4], [3], [2]⟩]
-- 63 erasure/erasureref04.Number  callees []
def draws63 : List Draw := []
def loops63 : List Lk := [⟨3, [0, 3, 4], [3], [2]⟩]
-- 64 slices.IndexFunc[[]erasure/api.Token,erasure/api.Token]  callees []
def draws64 : List Draw := []
def loops64 : List Lk := [⟨2, [0, 1, 7, 8], [], [4]⟩]
-- 65 math/bits.Mul  callees [70, 71]
def draws65 : List Draw := []
def loops65 : List Lk := []
-- 66 erasure/erasureref06.power  callees []
def draws66 : List Draw := []
def loops66 : List Lk := [⟨3, [0, 3, 4], [3], [2]⟩]
-- 67 erasure/erasureref06.more  callees []
def draws67 : List Draw := []
def loops67 : List Lk := []
-- 68 erasure/erasureref04.Put  callees []
def draws68 : List Draw := []
def loops68 : List Lk := [⟨5, [0, 1, 2, 8, 9], [0, 1, 8], [6, 7]⟩]
-- 69 erasure/erasureref06.behind  callees []
def draws69 : List Draw := []
def loops69 : List Lk := []
-- 70 math/bits.Mul32  callees []
def draws70 : List Draw := []
def loops70 : List Lk := []
-- 71 math/bits.Mul64  callees []
def draws71 : List Draw := []
def loops71 : List Lk := []
-- 87 (*erasure/bits.Writer).Align: no body
-- 88 (*erasure/bits.Reader).next  callees []
def draws88 : List Draw := [⟨1, [[], [0], [0, 1], [0, 1, 2], [], [4], [4, 5], [4, 5, 6], [0, 1, 2, 3, 4, 5, 6, 7], [0, 1, 2, 3, 4, 5, 6, 7, 8], [0, 1, 2, 3, 4, 5, 6, 7, 8, 9]], []⟩]
def loops88 : List Lk := []
-- 89 (*erasure/erasureref04.Reader).Align: no body
end Go.Proofs.Ytnkjpkfijafkgaa
