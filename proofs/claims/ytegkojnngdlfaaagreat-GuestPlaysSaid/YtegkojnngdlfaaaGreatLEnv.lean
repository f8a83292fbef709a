/- The types of this seat as the calculus reads them, and that its functions have bodies. Written by a program (mkenv.py). No conditions. -/
import Derived.Test.YtegkojnngdlfaaaGreatLG3
import Derived.Test.YtegkojnngdlfaaaGreatProg
namespace Go.Proofs.YtegkojnngdlfaaaGreat
open Go Go.Sx
def env : TEnv := [
  (2, ⟨.int .i64, false, 1, 8, some [.int .i64 0], []⟩),
  (3, ⟨.int .i64, false, 1, 8, some [.int .i64 0], []⟩),
  (4, ⟨.bool, false, 1, 1, some [.bool false], []⟩),
  (5, ⟨.int .u8, false, 1, 1, some [.int .u8 0], []⟩),
  (9, ⟨.str, false, 1, 16, some [.string ⟨#[]⟩], []⟩),
  (21, ⟨.int .i32, false, 1, 4, some [.int .i32 0], []⟩),
  (22, ⟨.other, true, 6, 48, some [.int .i64 0, .int .i64 0, .int .i64 0, .int .i64 0, .int .i64 0, .int .i64 0], [(0, 3, 1, false), (1, 3, 1, false), (2, 3, 1, false), (3, 3, 1, false), (4, 3, 1, false), (5, 3, 1, false)]⟩),
  (23, ⟨.other, true, 6, 48, some [.int .i64 0, .int .i64 0, .int .i64 0, .int .i64 0, .int .i64 0, .int .i64 0], [(0, 3, 1, false), (1, 3, 1, false), (2, 3, 1, false), (3, 3, 1, false), (4, 3, 1, false), (5, 3, 1, false)]⟩),
  (24, ⟨.other, true, 3, 40, some [.int .i64 0, .string ⟨#[]⟩, .string ⟨#[]⟩], [(0, 3, 1, false), (1, 9, 1, false), (2, 9, 1, false)]⟩),
  (25, ⟨.other, true, 3, 40, some [.int .i64 0, .string ⟨#[]⟩, .string ⟨#[]⟩], [(0, 3, 1, false), (1, 9, 1, false), (2, 9, 1, false)]⟩),
  (26, ⟨.slice 5, false, 1, 24, some [.slice none 0 0], []⟩),
  (27, ⟨.other, true, 8, 80, some [.int .i64 0, .int .i64 0, .int .i64 0, .int .i64 0, .int .i64 0, .int .i64 0, .int .i64 0, .slice none 0 0], [(0, 3, 1, false), (1, 3, 1, false), (2, 3, 1, false), (3, 3, 1, false), (4, 3, 1, false), (5, 3, 1, false), (6, 3, 1, false), (7, 26, 1, false)]⟩),
  (28, ⟨.other, true, 8, 80, some [.int .i64 0, .int .i64 0, .int .i64 0, .int .i64 0, .int .i64 0, .int .i64 0, .int .i64 0, .slice none 0 0], [(0, 3, 1, false), (1, 3, 1, false), (2, 3, 1, false), (3, 3, 1, false), (4, 3, 1, false), (5, 3, 1, false), (6, 3, 1, false), (7, 26, 1, false)]⟩),
  (29, ⟨.ptr, false, 1, 8, some [.pointer none], []⟩),
  (30, ⟨.int .i64, false, 1, 8, some [.int .i64 0], []⟩),
  (33, ⟨.slice 28, false, 1, 24, some [.slice none 0 0], []⟩),
  (37, ⟨.other, true, 2, 32, some [.string ⟨#[]⟩, .string ⟨#[]⟩], [(0, 9, 1, false), (1, 9, 1, false)]⟩),
  (38, ⟨.other, true, 2, 32, some [.string ⟨#[]⟩, .string ⟨#[]⟩], [(0, 9, 1, false), (1, 9, 1, false)]⟩),
  (39, ⟨.slice 81, false, 1, 24, some [.slice none 0 0], []⟩),
  (40, ⟨.slice 25, false, 1, 24, some [.slice none 0 0], []⟩),
  (41, ⟨.other, true, 8, 96, some [.int .i64 0, .int .i64 0, .int .i64 0, .int .i64 0, .int .i64 0, .int .i64 0, .slice none 0 0, .slice none 0 0], [(0, 3, 1, false), (1, 3, 1, false), (2, 3, 1, false), (3, 3, 1, false), (4, 3, 1, false), (5, 3, 1, false), (6, 39, 1, false), (7, 40, 1, false)]⟩),
  (42, ⟨.other, true, 8, 96, some [.int .i64 0, .int .i64 0, .int .i64 0, .int .i64 0, .int .i64 0, .int .i64 0, .slice none 0 0, .slice none 0 0], [(0, 3, 1, false), (1, 3, 1, false), (2, 3, 1, false), (3, 3, 1, false), (4, 3, 1, false), (5, 3, 1, false), (6, 39, 1, false), (7, 40, 1, false)]⟩),
  (51, ⟨.slice 56, false, 1, 24, some [.slice none 0 0], []⟩),
  (52, ⟨.ptr, false, 1, 8, some [.pointer none], []⟩),
  (55, ⟨.other, true, 8, 104, some [.int .i64 0, .int .i64 0, .string ⟨#[]⟩, .string ⟨#[]⟩, .string ⟨#[]⟩, .int .i64 0, .string ⟨#[]⟩, .string ⟨#[]⟩], [(0, 3, 1, false), (1, 3, 1, false), (2, 9, 1, false), (3, 38, 2, true), (5, 25, 3, true)]⟩),
  (56, ⟨.other, true, 8, 104, some [.int .i64 0, .int .i64 0, .string ⟨#[]⟩, .string ⟨#[]⟩, .string ⟨#[]⟩, .int .i64 0, .string ⟨#[]⟩, .string ⟨#[]⟩], [(0, 3, 1, false), (1, 3, 1, false), (2, 9, 1, false), (3, 38, 2, true), (5, 25, 3, true)]⟩),
  (59, ⟨.slice 38, false, 1, 24, some [.slice none 0 0], []⟩),
  (60, ⟨.slice 3, false, 1, 24, some [.slice none 0 0], []⟩),
  (61, ⟨.slice 84, false, 1, 24, some [.slice none 0 0], []⟩),
  (62, ⟨.other, true, 29, 344, some [.int .i64 0, .int .i64 0, .int .i64 0, .int .i64 0, .int .i64 0, .int .i64 0, .int .i64 0, .int .i64 0, .int .i64 0, .int .i64 0, .int .i64 0, .int .i64 0, .int .i64 0, .int .i64 0, .int .i64 0, .int .i64 0, .int .i64 0, .int .i64 0, .slice none 0 0, .slice none 0 0, .bool false, .slice none 0 0, .string ⟨#[]⟩, .string ⟨#[]⟩, .slice none 0 0, .slice none 0 0, .slice none 0 0, .int .i64 0, .int .i64 0], [(0, 23, 6, true), (6, 3, 1, false), (7, 3, 1, false), (8, 3, 1, false), (9, 3, 1, false), (10, 3, 1, false), (11, 3, 1, false), (12, 42, 8, true), (20, 4, 1, false), (21, 59, 1, false), (22, 38, 2, true), (24, 60, 1, false), (25, 61, 1, false), (26, 33, 1, false), (27, 3, 1, false), (28, 3, 1, false)]⟩),
  (63, ⟨.other, true, 29, 344, some [.int .i64 0, .int .i64 0, .int .i64 0, .int .i64 0, .int .i64 0, .int .i64 0, .int .i64 0, .int .i64 0, .int .i64 0, .int .i64 0, .int .i64 0, .int .i64 0, .int .i64 0, .int .i64 0, .int .i64 0, .int .i64 0, .int .i64 0, .int .i64 0, .slice none 0 0, .slice none 0 0, .bool false, .slice none 0 0, .string ⟨#[]⟩, .string ⟨#[]⟩, .slice none 0 0, .slice none 0 0, .slice none 0 0, .int .i64 0, .int .i64 0], [(0, 23, 6, true), (6, 3, 1, false), (7, 3, 1, false), (8, 3, 1, false), (9, 3, 1, false), (10, 3, 1, false), (11, 3, 1, false), (12, 42, 8, true), (20, 4, 1, false), (21, 59, 1, false), (22, 38, 2, true), (24, 60, 1, false), (25, 61, 1, false), (26, 33, 1, false), (27, 3, 1, false), (28, 3, 1, false)]⟩),
  (68, ⟨.slice 9, false, 1, 24, some [.slice none 0 0], []⟩),
  (73, ⟨.other, true, 3, 56, some [.int .i64 0, .slice none 0 0, .slice none 0 0], [(0, 3, 1, false), (1, 59, 1, false), (2, 40, 1, false)]⟩),
  (74, ⟨.other, true, 3, 56, some [.int .i64 0, .slice none 0 0, .slice none 0 0], [(0, 3, 1, false), (1, 59, 1, false), (2, 40, 1, false)]⟩),
  (80, ⟨.other, true, 4, 64, some [.string ⟨#[]⟩, .string ⟨#[]⟩, .int .i64 0, .slice none 0 0], [(0, 38, 2, true), (2, 3, 1, false), (3, 61, 1, false)]⟩),
  (81, ⟨.other, true, 4, 64, some [.string ⟨#[]⟩, .string ⟨#[]⟩, .int .i64 0, .slice none 0 0], [(0, 38, 2, true), (2, 3, 1, false), (3, 61, 1, false)]⟩),
  (83, ⟨.other, true, 2, 32, some [.string ⟨#[]⟩, .string ⟨#[]⟩], [(0, 9, 1, false), (1, 9, 1, false)]⟩),
  (84, ⟨.other, true, 2, 32, some [.string ⟨#[]⟩, .string ⟨#[]⟩], [(0, 9, 1, false), (1, 9, 1, false)]⟩),
  (86, ⟨.ptr, false, 1, 8, some [.pointer none], []⟩),
  (87, ⟨.slice 74, false, 1, 24, some [.slice none 0 0], []⟩),
  (88, ⟨.other, true, 9, 88, some [.pointer none, .pointer none, .int .i64 0, .int .i64 0, .int .i64 0, .int .i64 0, .int .i64 0, .int .i64 0, .slice none 0 0], [(0, 29, 1, false), (1, 86, 1, false), (2, 23, 6, true), (8, 87, 1, false)]⟩),
  (89, ⟨.other, true, 9, 88, some [.pointer none, .pointer none, .int .i64 0, .int .i64 0, .int .i64 0, .int .i64 0, .int .i64 0, .int .i64 0, .slice none 0 0], [(0, 29, 1, false), (1, 86, 1, false), (2, 23, 6, true), (8, 87, 1, false)]⟩),
  (106, ⟨.ptr, false, 1, 8, some [.pointer none], []⟩),
  (107, ⟨.other, true, 2, 32, some [.slice none 0 0, .int .i64 0], [(0, 26, 1, false), (1, 30, 1, false)]⟩),
  (108, ⟨.other, true, 2, 32, some [.slice none 0 0, .int .i64 0], [(0, 26, 1, false), (1, 30, 1, false)]⟩),
  (117, ⟨.ptr, false, 1, 8, some [.pointer none], []⟩),
  (123, ⟨.ptr, false, 1, 8, some [.pointer none], []⟩),
  (124, ⟨.other, true, 2, 32, some [.slice none 0 0, .bool false], [(0, 26, 1, false), (1, 4, 1, false)]⟩),
  (125, ⟨.other, true, 2, 32, some [.slice none 0 0, .bool false], [(0, 26, 1, false), (1, 4, 1, false)]⟩),
  (129, ⟨.other, true, 2, 32, some [.int .i64 0, .slice none 0 0], [(0, 3, 1, false), (1, 61, 1, false)]⟩),
  (130, ⟨.other, true, 2, 32, some [.int .i64 0, .slice none 0 0], [(0, 3, 1, false), (1, 61, 1, false)]⟩),
  (131, ⟨.slice 130, false, 1, 24, some [.slice none 0 0], []⟩),
  (132, ⟨.other, true, 3, 40, some [.slice none 0 0, .int .i64 0, .int .i64 0], [(0, 131, 1, false), (1, 3, 1, false), (2, 3, 1, false)]⟩),
  (133, ⟨.other, true, 3, 40, some [.slice none 0 0, .int .i64 0, .int .i64 0], [(0, 131, 1, false), (1, 3, 1, false), (2, 3, 1, false)]⟩),
  (144, ⟨.other, true, 2, 32, some [.slice none 0 0, .int .i64 0], [(0, 26, 1, false), (1, 30, 1, false)]⟩),
  (151, ⟨.int .u64, false, 1, 8, some [.int .u64 0], []⟩),
  (155, ⟨.ptr, false, 1, 8, some [.pointer none], []⟩),
  (156, ⟨.other, true, 2, 32, some [.pointer none, .slice none 0 0], [(0, 155, 1, false), (1, 26, 1, false)]⟩),
  (157, ⟨.other, true, 2, 32, some [.pointer none, .slice none 0 0], [(0, 155, 1, false), (1, 26, 1, false)]⟩),
  (169, ⟨.int .u32, false, 1, 4, some [.int .u32 0], []⟩),
  (172, ⟨.int .u64, false, 1, 8, some [.int .u64 0], []⟩),
  (175, ⟨.ptr, false, 1, 8, some [.pointer none], []⟩),
  (184, ⟨.other, true, 4, 40, some [.pointer none, .pointer none, .pointer none, .string ⟨#[]⟩], [(0, 17, 1, false), (1, 17, 1, false), (2, 17, 1, false), (3, 9, 1, false)]⟩),
  (185, ⟨.other, true, 4, 40, some [.pointer none, .pointer none, .pointer none, .string ⟨#[]⟩], [(0, 17, 1, false), (1, 17, 1, false), (2, 17, 1, false), (3, 9, 1, false)]⟩),
  (187, ⟨.other, true, 0, 0, some [], [(0, 186, 0, true)]⟩),
  (188, ⟨.other, true, 0, 0, some [], [(0, 186, 0, true)]⟩),
  (189, ⟨.int .u8, false, 1, 1, some [.int .u8 0], []⟩),
  (190, ⟨.int .u8, false, 1, 1, some [.int .u8 0], []⟩),
  (192, ⟨.int .i32, false, 1, 4, some [.int .i32 0], []⟩),
  (193, ⟨.int .i32, false, 1, 4, some [.int .i32 0], []⟩),
  (194, ⟨.other, true, 11, 48, some [.int .u64 0, .int .u64 0, .int .u32 0, .int .u8 0, .int .u8 0, .int .u8 0, .int .u8 0, .nilFunc, .pointer none, .int .i32 0, .int .i32 0], [(0, 12, 1, false), (1, 12, 1, false), (2, 169, 1, false), (3, 189, 1, false), (4, 5, 1, false), (5, 5, 1, false), (6, 190, 1, false), (7, 191, 1, false), (8, 175, 1, false), (9, 192, 1, false), (10, 193, 1, false)]⟩),
  (195, ⟨.other, true, 11, 48, some [.int .u64 0, .int .u64 0, .int .u32 0, .int .u8 0, .int .u8 0, .int .u8 0, .int .u8 0, .nilFunc, .pointer none, .int .i32 0, .int .i32 0], [(0, 12, 1, false), (1, 12, 1, false), (2, 169, 1, false), (3, 189, 1, false), (4, 5, 1, false), (5, 5, 1, false), (6, 190, 1, false), (7, 191, 1, false), (8, 175, 1, false), (9, 192, 1, false), (10, 193, 1, false)]⟩)]
theorem eOk : TOk Tryz.prog env := TOk.of (by kernel_rfl)
theorem fOk : FOk Tryz.prog env := FOk.of (by kernel_rfl)
theorem fo3 : FnOk Tryz.prog 3 := ⟨_, Tryz.func3, by kernel_rfl⟩
theorem fo4 : FnOk Tryz.prog 4 := ⟨_, Tryz.func4, by kernel_rfl⟩
theorem fo5 : FnOk Tryz.prog 5 := ⟨_, Tryz.func5, by kernel_rfl⟩
theorem fo6 : FnOk Tryz.prog 6 := ⟨_, Tryz.func6, by kernel_rfl⟩
theorem fo7 : FnOk Tryz.prog 7 := ⟨_, Tryz.func7, by kernel_rfl⟩
theorem fo8 : FnOk Tryz.prog 8 := ⟨_, Tryz.func8, by kernel_rfl⟩
theorem fo9 : FnOk Tryz.prog 9 := ⟨_, Tryz.func9, by kernel_rfl⟩
theorem fo10 : FnOk Tryz.prog 10 := ⟨_, Tryz.func10, by kernel_rfl⟩
theorem fo11 : FnOk Tryz.prog 11 := ⟨_, Tryz.func11, by kernel_rfl⟩
theorem fo12 : FnOk Tryz.prog 12 := ⟨_, Tryz.func12, by kernel_rfl⟩
theorem fo13 : FnOk Tryz.prog 13 := ⟨_, Tryz.func13, by kernel_rfl⟩
theorem fo14 : FnOk Tryz.prog 14 := ⟨_, Tryz.func14, by kernel_rfl⟩
theorem fo15 : FnOk Tryz.prog 15 := ⟨_, Tryz.func15, by kernel_rfl⟩
theorem fo16 : FnOk Tryz.prog 16 := ⟨_, Tryz.func16, by kernel_rfl⟩
theorem fo17 : FnOk Tryz.prog 17 := ⟨_, Tryz.func17, by kernel_rfl⟩
theorem fo18 : FnOk Tryz.prog 18 := ⟨_, Tryz.func18, by kernel_rfl⟩
theorem fo19 : FnOk Tryz.prog 19 := ⟨_, Tryz.func19, by kernel_rfl⟩
theorem fo20 : FnOk Tryz.prog 20 := ⟨_, Tryz.func20, by kernel_rfl⟩
theorem fo21 : FnOk Tryz.prog 21 := ⟨_, Tryz.func21, by kernel_rfl⟩
theorem fo22 : FnOk Tryz.prog 22 := ⟨_, Tryz.func22, by kernel_rfl⟩
theorem fo23 : FnOk Tryz.prog 23 := ⟨_, Tryz.func23, by kernel_rfl⟩
theorem fo24 : FnOk Tryz.prog 24 := ⟨_, Tryz.func24, by kernel_rfl⟩
theorem fo25 : FnOk Tryz.prog 25 := ⟨_, Tryz.func25, by kernel_rfl⟩
theorem fo26 : FnOk Tryz.prog 26 := ⟨_, Tryz.func26, by kernel_rfl⟩
theorem fo27 : FnOk Tryz.prog 27 := ⟨_, Tryz.func27, by kernel_rfl⟩
theorem fo28 : FnOk Tryz.prog 28 := ⟨_, Tryz.func28, by kernel_rfl⟩
theorem fo29 : FnOk Tryz.prog 29 := ⟨_, Tryz.func29, by kernel_rfl⟩
theorem fo30 : FnOk Tryz.prog 30 := ⟨_, Tryz.func30, by kernel_rfl⟩
theorem fo31 : FnOk Tryz.prog 31 := ⟨_, Tryz.func31, by kernel_rfl⟩
theorem fo32 : FnOk Tryz.prog 32 := ⟨_, Tryz.func32, by kernel_rfl⟩
theorem fo33 : FnOk Tryz.prog 33 := ⟨_, Tryz.func33, by kernel_rfl⟩
theorem fo34 : FnOk Tryz.prog 34 := ⟨_, Tryz.func34, by kernel_rfl⟩
theorem fo35 : FnOk Tryz.prog 35 := ⟨_, Tryz.func35, by kernel_rfl⟩
theorem fo36 : FnOk Tryz.prog 36 := ⟨_, Tryz.func36, by kernel_rfl⟩
theorem fo37 : FnOk Tryz.prog 37 := ⟨_, Tryz.func37, by kernel_rfl⟩
theorem fo38 : FnOk Tryz.prog 38 := ⟨_, Tryz.func38, by kernel_rfl⟩
theorem fo39 : FnOk Tryz.prog 39 := ⟨_, Tryz.func39, by kernel_rfl⟩
theorem fo40 : FnOk Tryz.prog 40 := ⟨_, Tryz.func40, by kernel_rfl⟩
theorem fo41 : FnOk Tryz.prog 41 := ⟨_, Tryz.func41, by kernel_rfl⟩
theorem fo42 : FnOk Tryz.prog 42 := ⟨_, Tryz.func42, by kernel_rfl⟩
theorem fo43 : FnOk Tryz.prog 43 := ⟨_, Tryz.func43, by kernel_rfl⟩
theorem fo44 : FnOk Tryz.prog 44 := ⟨_, Tryz.func44, by kernel_rfl⟩
theorem fo45 : FnOk Tryz.prog 45 := ⟨_, Tryz.func45, by kernel_rfl⟩
theorem fo46 : FnOk Tryz.prog 46 := ⟨_, Tryz.func46, by kernel_rfl⟩
theorem fo47 : FnOk Tryz.prog 47 := ⟨_, Tryz.func47, by kernel_rfl⟩
theorem fo48 : FnOk Tryz.prog 48 := ⟨_, Tryz.func48, by kernel_rfl⟩
theorem fo49 : FnOk Tryz.prog 49 := ⟨_, Tryz.func49, by kernel_rfl⟩
theorem fo50 : FnOk Tryz.prog 50 := ⟨_, Tryz.func50, by kernel_rfl⟩
theorem fo51 : FnOk Tryz.prog 51 := ⟨_, Tryz.func51, by kernel_rfl⟩
theorem fo52 : FnOk Tryz.prog 52 := ⟨_, Tryz.func52, by kernel_rfl⟩
theorem fo53 : FnOk Tryz.prog 53 := ⟨_, Tryz.func53, by kernel_rfl⟩
theorem fo54 : FnOk Tryz.prog 54 := ⟨_, Tryz.func54, by kernel_rfl⟩
theorem fo55 : FnOk Tryz.prog 55 := ⟨_, Tryz.func55, by kernel_rfl⟩
theorem fo56 : FnOk Tryz.prog 56 := ⟨_, Tryz.func56, by kernel_rfl⟩
theorem fo57 : FnOk Tryz.prog 57 := ⟨_, Tryz.func57, by kernel_rfl⟩
theorem fo58 : FnOk Tryz.prog 58 := ⟨_, Tryz.func58, by kernel_rfl⟩
theorem fo59 : FnOk Tryz.prog 59 := ⟨_, Tryz.func59, by kernel_rfl⟩
theorem fo60 : FnOk Tryz.prog 60 := ⟨_, Tryz.func60, by kernel_rfl⟩
theorem fo61 : FnOk Tryz.prog 61 := ⟨_, Tryz.func61, by kernel_rfl⟩
theorem fo62 : FnOk Tryz.prog 62 := ⟨_, Tryz.func62, by kernel_rfl⟩
theorem fo63 : FnOk Tryz.prog 63 := ⟨_, Tryz.func63, by kernel_rfl⟩
theorem fo64 : FnOk Tryz.prog 64 := ⟨_, Tryz.func64, by kernel_rfl⟩
theorem fo65 : FnOk Tryz.prog 65 := ⟨_, Tryz.func65, by kernel_rfl⟩
theorem fo66 : FnOk Tryz.prog 66 := ⟨_, Tryz.func66, by kernel_rfl⟩
theorem fo67 : FnOk Tryz.prog 67 := ⟨_, Tryz.func67, by kernel_rfl⟩
theorem fo68 : FnOk Tryz.prog 68 := ⟨_, Tryz.func68, by kernel_rfl⟩
theorem fo69 : FnOk Tryz.prog 69 := ⟨_, Tryz.func69, by kernel_rfl⟩
theorem fo70 : FnOk Tryz.prog 70 := ⟨_, Tryz.func70, by kernel_rfl⟩
theorem fo71 : FnOk Tryz.prog 71 := ⟨_, Tryz.func71, by kernel_rfl⟩
theorem fo72 : FnOk Tryz.prog 72 := ⟨_, Tryz.func72, by kernel_rfl⟩
theorem fo73 : FnOk Tryz.prog 73 := ⟨_, Tryz.func73, by kernel_rfl⟩
theorem fo74 : FnOk Tryz.prog 74 := ⟨_, Tryz.func74, by kernel_rfl⟩
theorem fo75 : FnOk Tryz.prog 75 := ⟨_, Tryz.func75, by kernel_rfl⟩
theorem fo76 : FnOk Tryz.prog 76 := ⟨_, Tryz.func76, by kernel_rfl⟩
theorem fo77 : FnOk Tryz.prog 77 := ⟨_, Tryz.func77, by kernel_rfl⟩
theorem fo78 : FnOk Tryz.prog 78 := ⟨_, Tryz.func78, by kernel_rfl⟩
theorem fo79 : FnOk Tryz.prog 79 := ⟨_, Tryz.func79, by kernel_rfl⟩
theorem fo80 : FnOk Tryz.prog 80 := ⟨_, Tryz.func80, by kernel_rfl⟩
theorem fo81 : FnOk Tryz.prog 81 := ⟨_, Tryz.func81, by kernel_rfl⟩
theorem fo82 : FnOk Tryz.prog 82 := ⟨_, Tryz.func82, by kernel_rfl⟩
theorem fo83 : FnOk Tryz.prog 83 := ⟨_, Tryz.func83, by kernel_rfl⟩
theorem fo84 : FnOk Tryz.prog 84 := ⟨_, Tryz.func84, by kernel_rfl⟩
theorem fo85 : FnOk Tryz.prog 85 := ⟨_, Tryz.func85, by kernel_rfl⟩
theorem fo86 : FnOk Tryz.prog 86 := ⟨_, Tryz.func86, by kernel_rfl⟩
theorem fo87 : FnOk Tryz.prog 87 := ⟨_, Tryz.func87, by kernel_rfl⟩
theorem fo88 : FnOk Tryz.prog 88 := ⟨_, Tryz.func88, by kernel_rfl⟩
theorem fo89 : FnOk Tryz.prog 89 := ⟨_, Tryz.func89, by kernel_rfl⟩
theorem fo90 : FnOk Tryz.prog 90 := ⟨_, Tryz.func90, by kernel_rfl⟩
theorem fo91 : FnOk Tryz.prog 91 := ⟨_, Tryz.func91, by kernel_rfl⟩
theorem fo92 : FnOk Tryz.prog 92 := ⟨_, Tryz.func92, by kernel_rfl⟩
theorem fo93 : FnOk Tryz.prog 93 := ⟨_, Tryz.func93, by kernel_rfl⟩
theorem fo94 : FnOk Tryz.prog 94 := ⟨_, Tryz.func94, by kernel_rfl⟩
theorem fo95 : FnOk Tryz.prog 95 := ⟨_, Tryz.func95, by kernel_rfl⟩
theorem fo96 : FnOk Tryz.prog 96 := ⟨_, Tryz.func96, by kernel_rfl⟩
theorem fo97 : FnOk Tryz.prog 97 := ⟨_, Tryz.func97, by kernel_rfl⟩
theorem fo98 : FnOk Tryz.prog 98 := ⟨_, Tryz.func98, by kernel_rfl⟩
theorem fo99 : FnOk Tryz.prog 99 := ⟨_, Tryz.func99, by kernel_rfl⟩
theorem fo100 : FnOk Tryz.prog 100 := ⟨_, Tryz.func100, by kernel_rfl⟩
theorem fo101 : FnOk Tryz.prog 101 := ⟨_, Tryz.func101, by kernel_rfl⟩
theorem fo102 : FnOk Tryz.prog 102 := ⟨_, Tryz.func102, by kernel_rfl⟩
theorem fo103 : FnOk Tryz.prog 103 := ⟨_, Tryz.func103, by kernel_rfl⟩
theorem fo104 : FnOk Tryz.prog 104 := ⟨_, Tryz.func104, by kernel_rfl⟩
theorem fo105 : FnOk Tryz.prog 105 := ⟨_, Tryz.func105, by kernel_rfl⟩
theorem fo106 : FnOk Tryz.prog 106 := ⟨_, Tryz.func106, by kernel_rfl⟩
theorem fo107 : FnOk Tryz.prog 107 := ⟨_, Tryz.func107, by kernel_rfl⟩
theorem fo108 : FnOk Tryz.prog 108 := ⟨_, Tryz.func108, by kernel_rfl⟩
theorem fo109 : FnOk Tryz.prog 109 := ⟨_, Tryz.func109, by kernel_rfl⟩
theorem fo110 : FnOk Tryz.prog 110 := ⟨_, Tryz.func110, by kernel_rfl⟩
theorem fo111 : FnOk Tryz.prog 111 := ⟨_, Tryz.func111, by kernel_rfl⟩
theorem fo113 : FnOk Tryz.prog 113 := ⟨_, Tryz.func113, by kernel_rfl⟩
theorem fo116 : FnOk Tryz.prog 116 := ⟨_, Tryz.func116, by kernel_rfl⟩
theorem fo117 : FnOk Tryz.prog 117 := ⟨_, Tryz.func117, by kernel_rfl⟩
theorem fo118 : FnOk Tryz.prog 118 := ⟨_, Tryz.func118, by kernel_rfl⟩
end Go.Proofs.YtegkojnngdlfaaaGreat
