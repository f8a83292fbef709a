/- The types of this seat as the calculus reads them, and that its functions have bodies. Written by a program (mkenv.py). No conditions. -/
import Derived.Test.YtnigonhkfpnodaaLG3
import Derived.Test.YtnigonhkfpnodaaProg
namespace Go.Proofs.Ytnigonhkfpnodaa
open Go Go.Sx
def env : TEnv := [
  (2, ⟨.int .i64, false, 1, 8, some [.int .i64 0], []⟩),
  (3, ⟨.int .i64, false, 1, 8, some [.int .i64 0], []⟩),
  (4, ⟨.bool, false, 1, 1, some [.bool false], []⟩),
  (5, ⟨.int .u8, false, 1, 1, some [.int .u8 0], []⟩),
  (9, ⟨.str, false, 1, 16, some [.string ⟨#[]⟩], []⟩),
  (21, ⟨.int .i32, false, 1, 4, some [.int .i32 0], []⟩),
  (22, ⟨.other, true, 2, 16, some [.int .i64 0, .int .i64 0], [(0, 3, 1, false), (1, 3, 1, false)]⟩),
  (23, ⟨.other, true, 2, 16, some [.int .i64 0, .int .i64 0], [(0, 3, 1, false), (1, 3, 1, false)]⟩),
  (24, ⟨.slice 3, false, 1, 24, some [.slice none 0 0], []⟩),
  (25, ⟨.other, true, 4, 48, some [.int .i64 0, .int .i64 0, .int .i64 0, .slice none 0 0], [(0, 3, 1, false), (1, 3, 1, false), (2, 3, 1, false), (3, 24, 1, false)]⟩),
  (26, ⟨.other, true, 4, 48, some [.int .i64 0, .int .i64 0, .int .i64 0, .slice none 0 0], [(0, 3, 1, false), (1, 3, 1, false), (2, 3, 1, false), (3, 24, 1, false)]⟩),
  (27, ⟨.ptr, false, 1, 8, some [.pointer none], []⟩),
  (28, ⟨.other, true, 8, 80, some [.int .i64 0, .int .i64 0, .int .i64 0, .int .i64 0, .int .i64 0, .int .i64 0, .int .i64 0, .slice none 0 0], [(0, 23, 2, true), (2, 23, 2, true), (4, 26, 4, true)]⟩),
  (29, ⟨.other, true, 8, 80, some [.int .i64 0, .int .i64 0, .int .i64 0, .int .i64 0, .int .i64 0, .int .i64 0, .int .i64 0, .slice none 0 0], [(0, 23, 2, true), (2, 23, 2, true), (4, 26, 4, true)]⟩),
  (30, ⟨.int .i64, false, 1, 8, some [.int .i64 0], []⟩),
  (41, ⟨.slice 23, false, 1, 24, some [.slice none 0 0], []⟩),
  (42, ⟨.ptr, false, 1, 8, some [.pointer none], []⟩),
  (50, ⟨.slice 52, false, 1, 24, some [.slice none 0 0], []⟩),
  (51, ⟨.other, true, 9, 88, some [.int .i64 0, .int .i64 0, .int .i64 0, .int .i64 0, .int .i64 0, .int .i64 0, .int .i64 0, .slice none 0 0, .int .u8 0], [(0, 3, 1, false), (1, 3, 1, false), (2, 23, 2, true), (4, 26, 4, true), (8, 5, 1, false)]⟩),
  (52, ⟨.other, true, 9, 88, some [.int .i64 0, .int .i64 0, .int .i64 0, .int .i64 0, .int .i64 0, .int .i64 0, .int .i64 0, .slice none 0 0, .int .u8 0], [(0, 3, 1, false), (1, 3, 1, false), (2, 23, 2, true), (4, 26, 4, true), (8, 5, 1, false)]⟩),
  (56, ⟨.slice 100, false, 1, 24, some [.slice none 0 0], []⟩),
  (57, ⟨.other, true, 2, 32, some [.string ⟨#[]⟩, .string ⟨#[]⟩], [(0, 9, 1, false), (1, 9, 1, false)]⟩),
  (58, ⟨.other, true, 2, 32, some [.string ⟨#[]⟩, .string ⟨#[]⟩], [(0, 9, 1, false), (1, 9, 1, false)]⟩),
  (60, ⟨.slice 58, false, 1, 24, some [.slice none 0 0], []⟩),
  (61, ⟨.slice 68, false, 1, 24, some [.slice none 0 0], []⟩),
  (62, ⟨.ptr, false, 1, 8, some [.pointer none], []⟩),
  (66, ⟨.other, true, 4, 48, some [.int .i64 0, .int .i64 0, .int .i64 0, .slice none 0 0], [(0, 3, 1, false), (1, 3, 1, false), (2, 3, 1, false), (3, 56, 1, false)]⟩),
  (67, ⟨.other, true, 4, 48, some [.int .i64 0, .int .i64 0, .int .i64 0, .slice none 0 0], [(0, 3, 1, false), (1, 3, 1, false), (2, 3, 1, false), (3, 56, 1, false)]⟩),
  (68, ⟨.slice 102, false, 1, 24, some [.slice none 0 0], []⟩),
  (83, ⟨.ptr, false, 1, 8, some [.pointer none], []⟩),
  (84, ⟨.other, true, 9, 88, some [.pointer none, .int .i64 0, .int .i64 0, .int .i64 0, .int .i64 0, .int .i64 0, .int .i64 0, .int .i64 0, .slice none 0 0], [(0, 83, 1, false), (1, 29, 8, true)]⟩),
  (85, ⟨.other, true, 9, 88, some [.pointer none, .int .i64 0, .int .i64 0, .int .i64 0, .int .i64 0, .int .i64 0, .int .i64 0, .int .i64 0, .slice none 0 0], [(0, 83, 1, false), (1, 29, 8, true)]⟩),
  (90, ⟨.slice 94, false, 1, 24, some [.slice none 0 0], []⟩),
  (94, ⟨.slice 5, false, 1, 24, some [.slice none 0 0], []⟩),
  (95, ⟨.other, true, 5, 56, some [.slice none 0 0, .int .i64 0, .int .i64 0, .int .i64 0, .bool false], [(0, 94, 1, false), (1, 3, 1, false), (2, 3, 1, false), (3, 3, 1, false), (4, 4, 1, false)]⟩),
  (96, ⟨.other, true, 5, 56, some [.slice none 0 0, .int .i64 0, .int .i64 0, .int .i64 0, .bool false], [(0, 94, 1, false), (1, 3, 1, false), (2, 3, 1, false), (3, 3, 1, false), (4, 4, 1, false)]⟩),
  (99, ⟨.other, true, 3, 40, some [.int .i64 0, .string ⟨#[]⟩, .string ⟨#[]⟩], [(0, 3, 1, false), (1, 9, 1, false), (2, 9, 1, false)]⟩),
  (100, ⟨.other, true, 3, 40, some [.int .i64 0, .string ⟨#[]⟩, .string ⟨#[]⟩], [(0, 3, 1, false), (1, 9, 1, false), (2, 9, 1, false)]⟩),
  (101, ⟨.other, true, 2, 32, some [.string ⟨#[]⟩, .string ⟨#[]⟩], [(0, 9, 1, false), (1, 9, 1, false)]⟩),
  (102, ⟨.other, true, 2, 32, some [.string ⟨#[]⟩, .string ⟨#[]⟩], [(0, 9, 1, false), (1, 9, 1, false)]⟩),
  (105, ⟨.ptr, false, 1, 8, some [.pointer none], []⟩),
  (107, ⟨.other, true, 4, 48, some [.pointer none, .pointer none, .string ⟨#[]⟩, .string ⟨#[]⟩], [(0, 105, 1, false), (1, 83, 1, false), (2, 58, 2, true)]⟩),
  (108, ⟨.other, true, 4, 48, some [.pointer none, .pointer none, .string ⟨#[]⟩, .string ⟨#[]⟩], [(0, 105, 1, false), (1, 83, 1, false), (2, 58, 2, true)]⟩),
  (119, ⟨.ptr, false, 1, 8, some [.pointer none], []⟩),
  (120, ⟨.other, true, 2, 32, some [.slice none 0 0, .int .i64 0], [(0, 94, 1, false), (1, 30, 1, false)]⟩),
  (121, ⟨.other, true, 2, 32, some [.slice none 0 0, .int .i64 0], [(0, 94, 1, false), (1, 30, 1, false)]⟩),
  (130, ⟨.other, true, 3, 40, some [.pointer none, .slice none 0 0, .bool false], [(0, 42, 1, false), (1, 90, 1, false), (2, 4, 1, false)]⟩),
  (131, ⟨.other, true, 3, 40, some [.pointer none, .slice none 0 0, .bool false], [(0, 42, 1, false), (1, 90, 1, false), (2, 4, 1, false)]⟩),
  (137, ⟨.ptr, false, 1, 8, some [.pointer none], []⟩),
  (144, ⟨.slice 155, false, 1, 24, some [.slice none 0 0], []⟩),
  (145, ⟨.other, true, 5, 72, some [.int .i64 0, .slice none 0 0, .slice none 0 0, .int .i64 0, .int .i64 0], [(0, 3, 1, false), (1, 68, 1, false), (2, 144, 1, false), (3, 3, 1, false), (4, 3, 1, false)]⟩),
  (146, ⟨.other, true, 5, 72, some [.int .i64 0, .slice none 0 0, .slice none 0 0, .int .i64 0, .int .i64 0], [(0, 3, 1, false), (1, 68, 1, false), (2, 144, 1, false), (3, 3, 1, false), (4, 3, 1, false)]⟩),
  (154, ⟨.other, true, 2, 32, some [.int .i64 0, .slice none 0 0], [(0, 3, 1, false), (1, 56, 1, false)]⟩),
  (155, ⟨.other, true, 2, 32, some [.int .i64 0, .slice none 0 0], [(0, 3, 1, false), (1, 56, 1, false)]⟩),
  (168, ⟨.slice 9, false, 1, 24, some [.slice none 0 0], []⟩),
  (177, ⟨.int .u32, false, 1, 4, some [.int .u32 0], []⟩),
  (178, ⟨.int .u64, false, 1, 8, some [.int .u64 0], []⟩),
  (180, ⟨.other, true, 2, 32, some [.slice none 0 0, .int .i64 0], [(0, 94, 1, false), (1, 30, 1, false)]⟩),
  (202, ⟨.other, true, 4, 40, some [.pointer none, .pointer none, .pointer none, .string ⟨#[]⟩], [(0, 17, 1, false), (1, 17, 1, false), (2, 17, 1, false), (3, 9, 1, false)]⟩),
  (203, ⟨.other, true, 4, 40, some [.pointer none, .pointer none, .pointer none, .string ⟨#[]⟩], [(0, 17, 1, false), (1, 17, 1, false), (2, 17, 1, false), (3, 9, 1, false)]⟩),
  (205, ⟨.other, true, 0, 0, some [], [(0, 204, 0, true)]⟩),
  (206, ⟨.other, true, 0, 0, some [], [(0, 204, 0, true)]⟩),
  (207, ⟨.int .u8, false, 1, 1, some [.int .u8 0], []⟩),
  (208, ⟨.int .u8, false, 1, 1, some [.int .u8 0], []⟩),
  (210, ⟨.ptr, false, 1, 8, some [.pointer none], []⟩),
  (211, ⟨.int .i32, false, 1, 4, some [.int .i32 0], []⟩),
  (212, ⟨.int .i32, false, 1, 4, some [.int .i32 0], []⟩),
  (213, ⟨.other, true, 11, 48, some [.int .u64 0, .int .u64 0, .int .u32 0, .int .u8 0, .int .u8 0, .int .u8 0, .int .u8 0, .nilFunc, .pointer none, .int .i32 0, .int .i32 0], [(0, 12, 1, false), (1, 12, 1, false), (2, 177, 1, false), (3, 207, 1, false), (4, 5, 1, false), (5, 5, 1, false), (6, 208, 1, false), (7, 209, 1, false), (8, 210, 1, false), (9, 211, 1, false), (10, 212, 1, false)]⟩),
  (214, ⟨.other, true, 11, 48, some [.int .u64 0, .int .u64 0, .int .u32 0, .int .u8 0, .int .u8 0, .int .u8 0, .int .u8 0, .nilFunc, .pointer none, .int .i32 0, .int .i32 0], [(0, 12, 1, false), (1, 12, 1, false), (2, 177, 1, false), (3, 207, 1, false), (4, 5, 1, false), (5, 5, 1, false), (6, 208, 1, false), (7, 209, 1, false), (8, 210, 1, false), (9, 211, 1, false), (10, 212, 1, false)]⟩)]
theorem eOk : TOk Try.prog env := TOk.of (by kernel_rfl)
theorem fOk : FOk Try.prog env := FOk.of (by kernel_rfl)
theorem fo3 : FnOk Try.prog 3 := ⟨_, Try.func3, by kernel_rfl⟩
theorem fo4 : FnOk Try.prog 4 := ⟨_, Try.func4, by kernel_rfl⟩
theorem fo5 : FnOk Try.prog 5 := ⟨_, Try.func5, by kernel_rfl⟩
theorem fo6 : FnOk Try.prog 6 := ⟨_, Try.func6, by kernel_rfl⟩
theorem fo7 : FnOk Try.prog 7 := ⟨_, Try.func7, by kernel_rfl⟩
theorem fo8 : FnOk Try.prog 8 := ⟨_, Try.func8, by kernel_rfl⟩
theorem fo9 : FnOk Try.prog 9 := ⟨_, Try.func9, by kernel_rfl⟩
theorem fo10 : FnOk Try.prog 10 := ⟨_, Try.func10, by kernel_rfl⟩
theorem fo11 : FnOk Try.prog 11 := ⟨_, Try.func11, by kernel_rfl⟩
theorem fo12 : FnOk Try.prog 12 := ⟨_, Try.func12, by kernel_rfl⟩
theorem fo13 : FnOk Try.prog 13 := ⟨_, Try.func13, by kernel_rfl⟩
theorem fo14 : FnOk Try.prog 14 := ⟨_, Try.func14, by kernel_rfl⟩
theorem fo15 : FnOk Try.prog 15 := ⟨_, Try.func15, by kernel_rfl⟩
theorem fo16 : FnOk Try.prog 16 := ⟨_, Try.func16, by kernel_rfl⟩
theorem fo17 : FnOk Try.prog 17 := ⟨_, Try.func17, by kernel_rfl⟩
theorem fo18 : FnOk Try.prog 18 := ⟨_, Try.func18, by kernel_rfl⟩
theorem fo19 : FnOk Try.prog 19 := ⟨_, Try.func19, by kernel_rfl⟩
theorem fo20 : FnOk Try.prog 20 := ⟨_, Try.func20, by kernel_rfl⟩
theorem fo21 : FnOk Try.prog 21 := ⟨_, Try.func21, by kernel_rfl⟩
theorem fo22 : FnOk Try.prog 22 := ⟨_, Try.func22, by kernel_rfl⟩
theorem fo23 : FnOk Try.prog 23 := ⟨_, Try.func23, by kernel_rfl⟩
theorem fo24 : FnOk Try.prog 24 := ⟨_, Try.func24, by kernel_rfl⟩
theorem fo25 : FnOk Try.prog 25 := ⟨_, Try.func25, by kernel_rfl⟩
theorem fo26 : FnOk Try.prog 26 := ⟨_, Try.func26, by kernel_rfl⟩
theorem fo27 : FnOk Try.prog 27 := ⟨_, Try.func27, by kernel_rfl⟩
theorem fo28 : FnOk Try.prog 28 := ⟨_, Try.func28, by kernel_rfl⟩
theorem fo29 : FnOk Try.prog 29 := ⟨_, Try.func29, by kernel_rfl⟩
theorem fo30 : FnOk Try.prog 30 := ⟨_, Try.func30, by kernel_rfl⟩
theorem fo31 : FnOk Try.prog 31 := ⟨_, Try.func31, by kernel_rfl⟩
theorem fo32 : FnOk Try.prog 32 := ⟨_, Try.func32, by kernel_rfl⟩
theorem fo33 : FnOk Try.prog 33 := ⟨_, Try.func33, by kernel_rfl⟩
theorem fo34 : FnOk Try.prog 34 := ⟨_, Try.func34, by kernel_rfl⟩
theorem fo35 : FnOk Try.prog 35 := ⟨_, Try.func35, by kernel_rfl⟩
theorem fo36 : FnOk Try.prog 36 := ⟨_, Try.func36, by kernel_rfl⟩
theorem fo37 : FnOk Try.prog 37 := ⟨_, Try.func37, by kernel_rfl⟩
theorem fo38 : FnOk Try.prog 38 := ⟨_, Try.func38, by kernel_rfl⟩
theorem fo39 : FnOk Try.prog 39 := ⟨_, Try.func39, by kernel_rfl⟩
theorem fo40 : FnOk Try.prog 40 := ⟨_, Try.func40, by kernel_rfl⟩
theorem fo41 : FnOk Try.prog 41 := ⟨_, Try.func41, by kernel_rfl⟩
theorem fo42 : FnOk Try.prog 42 := ⟨_, Try.func42, by kernel_rfl⟩
theorem fo43 : FnOk Try.prog 43 := ⟨_, Try.func43, by kernel_rfl⟩
theorem fo44 : FnOk Try.prog 44 := ⟨_, Try.func44, by kernel_rfl⟩
theorem fo45 : FnOk Try.prog 45 := ⟨_, Try.func45, by kernel_rfl⟩
theorem fo46 : FnOk Try.prog 46 := ⟨_, Try.func46, by kernel_rfl⟩
theorem fo47 : FnOk Try.prog 47 := ⟨_, Try.func47, by kernel_rfl⟩
theorem fo48 : FnOk Try.prog 48 := ⟨_, Try.func48, by kernel_rfl⟩
theorem fo49 : FnOk Try.prog 49 := ⟨_, Try.func49, by kernel_rfl⟩
theorem fo50 : FnOk Try.prog 50 := ⟨_, Try.func50, by kernel_rfl⟩
theorem fo51 : FnOk Try.prog 51 := ⟨_, Try.func51, by kernel_rfl⟩
theorem fo52 : FnOk Try.prog 52 := ⟨_, Try.func52, by kernel_rfl⟩
theorem fo53 : FnOk Try.prog 53 := ⟨_, Try.func53, by kernel_rfl⟩
theorem fo54 : FnOk Try.prog 54 := ⟨_, Try.func54, by kernel_rfl⟩
theorem fo55 : FnOk Try.prog 55 := ⟨_, Try.func55, by kernel_rfl⟩
theorem fo56 : FnOk Try.prog 56 := ⟨_, Try.func56, by kernel_rfl⟩
theorem fo57 : FnOk Try.prog 57 := ⟨_, Try.func57, by kernel_rfl⟩
theorem fo58 : FnOk Try.prog 58 := ⟨_, Try.func58, by kernel_rfl⟩
theorem fo59 : FnOk Try.prog 59 := ⟨_, Try.func59, by kernel_rfl⟩
theorem fo60 : FnOk Try.prog 60 := ⟨_, Try.func60, by kernel_rfl⟩
theorem fo61 : FnOk Try.prog 61 := ⟨_, Try.func61, by kernel_rfl⟩
theorem fo62 : FnOk Try.prog 62 := ⟨_, Try.func62, by kernel_rfl⟩
theorem fo63 : FnOk Try.prog 63 := ⟨_, Try.func63, by kernel_rfl⟩
theorem fo64 : FnOk Try.prog 64 := ⟨_, Try.func64, by kernel_rfl⟩
theorem fo65 : FnOk Try.prog 65 := ⟨_, Try.func65, by kernel_rfl⟩
theorem fo66 : FnOk Try.prog 66 := ⟨_, Try.func66, by kernel_rfl⟩
theorem fo67 : FnOk Try.prog 67 := ⟨_, Try.func67, by kernel_rfl⟩
theorem fo68 : FnOk Try.prog 68 := ⟨_, Try.func68, by kernel_rfl⟩
theorem fo69 : FnOk Try.prog 69 := ⟨_, Try.func69, by kernel_rfl⟩
theorem fo70 : FnOk Try.prog 70 := ⟨_, Try.func70, by kernel_rfl⟩
theorem fo71 : FnOk Try.prog 71 := ⟨_, Try.func71, by kernel_rfl⟩
theorem fo72 : FnOk Try.prog 72 := ⟨_, Try.func72, by kernel_rfl⟩
theorem fo73 : FnOk Try.prog 73 := ⟨_, Try.func73, by kernel_rfl⟩
theorem fo74 : FnOk Try.prog 74 := ⟨_, Try.func74, by kernel_rfl⟩
theorem fo75 : FnOk Try.prog 75 := ⟨_, Try.func75, by kernel_rfl⟩
theorem fo76 : FnOk Try.prog 76 := ⟨_, Try.func76, by kernel_rfl⟩
theorem fo77 : FnOk Try.prog 77 := ⟨_, Try.func77, by kernel_rfl⟩
theorem fo78 : FnOk Try.prog 78 := ⟨_, Try.func78, by kernel_rfl⟩
theorem fo79 : FnOk Try.prog 79 := ⟨_, Try.func79, by kernel_rfl⟩
theorem fo80 : FnOk Try.prog 80 := ⟨_, Try.func80, by kernel_rfl⟩
theorem fo81 : FnOk Try.prog 81 := ⟨_, Try.func81, by kernel_rfl⟩
theorem fo82 : FnOk Try.prog 82 := ⟨_, Try.func82, by kernel_rfl⟩
theorem fo83 : FnOk Try.prog 83 := ⟨_, Try.func83, by kernel_rfl⟩
theorem fo84 : FnOk Try.prog 84 := ⟨_, Try.func84, by kernel_rfl⟩
theorem fo85 : FnOk Try.prog 85 := ⟨_, Try.func85, by kernel_rfl⟩
theorem fo86 : FnOk Try.prog 86 := ⟨_, Try.func86, by kernel_rfl⟩
theorem fo87 : FnOk Try.prog 87 := ⟨_, Try.func87, by kernel_rfl⟩
theorem fo88 : FnOk Try.prog 88 := ⟨_, Try.func88, by kernel_rfl⟩
theorem fo89 : FnOk Try.prog 89 := ⟨_, Try.func89, by kernel_rfl⟩
theorem fo90 : FnOk Try.prog 90 := ⟨_, Try.func90, by kernel_rfl⟩
theorem fo91 : FnOk Try.prog 91 := ⟨_, Try.func91, by kernel_rfl⟩
theorem fo92 : FnOk Try.prog 92 := ⟨_, Try.func92, by kernel_rfl⟩
theorem fo93 : FnOk Try.prog 93 := ⟨_, Try.func93, by kernel_rfl⟩
theorem fo94 : FnOk Try.prog 94 := ⟨_, Try.func94, by kernel_rfl⟩
theorem fo95 : FnOk Try.prog 95 := ⟨_, Try.func95, by kernel_rfl⟩
theorem fo96 : FnOk Try.prog 96 := ⟨_, Try.func96, by kernel_rfl⟩
theorem fo97 : FnOk Try.prog 97 := ⟨_, Try.func97, by kernel_rfl⟩
theorem fo98 : FnOk Try.prog 98 := ⟨_, Try.func98, by kernel_rfl⟩
theorem fo99 : FnOk Try.prog 99 := ⟨_, Try.func99, by kernel_rfl⟩
theorem fo100 : FnOk Try.prog 100 := ⟨_, Try.func100, by kernel_rfl⟩
theorem fo101 : FnOk Try.prog 101 := ⟨_, Try.func101, by kernel_rfl⟩
theorem fo102 : FnOk Try.prog 102 := ⟨_, Try.func102, by kernel_rfl⟩
theorem fo103 : FnOk Try.prog 103 := ⟨_, Try.func103, by kernel_rfl⟩
theorem fo104 : FnOk Try.prog 104 := ⟨_, Try.func104, by kernel_rfl⟩
theorem fo105 : FnOk Try.prog 105 := ⟨_, Try.func105, by kernel_rfl⟩
theorem fo106 : FnOk Try.prog 106 := ⟨_, Try.func106, by kernel_rfl⟩
theorem fo107 : FnOk Try.prog 107 := ⟨_, Try.func107, by kernel_rfl⟩
theorem fo108 : FnOk Try.prog 108 := ⟨_, Try.func108, by kernel_rfl⟩
theorem fo109 : FnOk Try.prog 109 := ⟨_, Try.func109, by kernel_rfl⟩
theorem fo110 : FnOk Try.prog 110 := ⟨_, Try.func110, by kernel_rfl⟩
theorem fo111 : FnOk Try.prog 111 := ⟨_, Try.func111, by kernel_rfl⟩
theorem fo112 : FnOk Try.prog 112 := ⟨_, Try.func112, by kernel_rfl⟩
theorem fo113 : FnOk Try.prog 113 := ⟨_, Try.func113, by kernel_rfl⟩
theorem fo114 : FnOk Try.prog 114 := ⟨_, Try.func114, by kernel_rfl⟩
theorem fo115 : FnOk Try.prog 115 := ⟨_, Try.func115, by kernel_rfl⟩
theorem fo116 : FnOk Try.prog 116 := ⟨_, Try.func116, by kernel_rfl⟩
theorem fo117 : FnOk Try.prog 117 := ⟨_, Try.func117, by kernel_rfl⟩
theorem fo118 : FnOk Try.prog 118 := ⟨_, Try.func118, by kernel_rfl⟩
theorem fo119 : FnOk Try.prog 119 := ⟨_, Try.func119, by kernel_rfl⟩
theorem fo120 : FnOk Try.prog 120 := ⟨_, Try.func120, by kernel_rfl⟩
theorem fo121 : FnOk Try.prog 121 := ⟨_, Try.func121, by kernel_rfl⟩
theorem fo122 : FnOk Try.prog 122 := ⟨_, Try.func122, by kernel_rfl⟩
theorem fo123 : FnOk Try.prog 123 := ⟨_, Try.func123, by kernel_rfl⟩
theorem fo124 : FnOk Try.prog 124 := ⟨_, Try.func124, by kernel_rfl⟩
theorem fo125 : FnOk Try.prog 125 := ⟨_, Try.func125, by kernel_rfl⟩
theorem fo126 : FnOk Try.prog 126 := ⟨_, Try.func126, by kernel_rfl⟩
theorem fo127 : FnOk Try.prog 127 := ⟨_, Try.func127, by kernel_rfl⟩
theorem fo128 : FnOk Try.prog 128 := ⟨_, Try.func128, by kernel_rfl⟩
theorem fo129 : FnOk Try.prog 129 := ⟨_, Try.func129, by kernel_rfl⟩
theorem fo131 : FnOk Try.prog 131 := ⟨_, Try.func131, by kernel_rfl⟩
theorem fo132 : FnOk Try.prog 132 := ⟨_, Try.func132, by kernel_rfl⟩
theorem fo133 : FnOk Try.prog 133 := ⟨_, Try.func133, by kernel_rfl⟩
theorem fo134 : FnOk Try.prog 134 := ⟨_, Try.func134, by kernel_rfl⟩
end Go.Proofs.Ytnigonhkfpnodaa
