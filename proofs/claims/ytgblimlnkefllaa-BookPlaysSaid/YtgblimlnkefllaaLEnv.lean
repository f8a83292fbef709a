/- The types of this seat as the calculus reads them, and that its functions have bodies. Written by a program (mkenv.py). No conditions. -/
import Derived.Test.YtgblimlnkefllaaLG3
import Derived.Test.YtgblimlnkefllaaProg
namespace Go.Proofs.Ytgblimlnkefllaa
open Go Go.Sx
def env : TEnv := [
  (2, ⟨.int .i64, false, 1, 8, some [.int .i64 0], []⟩),
  (3, ⟨.int .i64, false, 1, 8, some [.int .i64 0], []⟩),
  (4, ⟨.bool, false, 1, 1, some [.bool false], []⟩),
  (5, ⟨.int .u8, false, 1, 1, some [.int .u8 0], []⟩),
  (9, ⟨.str, false, 1, 16, some [.string ⟨#[]⟩], []⟩),
  (21, ⟨.int .i32, false, 1, 4, some [.int .i32 0], []⟩),
  (22, ⟨.slice 28, false, 1, 24, some [.slice none 0 0], []⟩),
  (23, ⟨.ptr, false, 1, 8, some [.pointer none], []⟩),
  (24, ⟨.int .i64, false, 1, 8, some [.int .i64 0], []⟩),
  (28, ⟨.slice 5, false, 1, 24, some [.slice none 0 0], []⟩),
  (36, ⟨.slice 41, false, 1, 24, some [.slice none 0 0], []⟩),
  (37, ⟨.ptr, false, 1, 8, some [.pointer none], []⟩),
  (38, ⟨.other, true, 5, 56, some [.string ⟨#[]⟩, .string ⟨#[]⟩, .int .i64 0, .int .i64 0, .bool false], [(0, 9, 1, false), (1, 9, 1, false), (2, 3, 1, false), (3, 3, 1, false), (4, 4, 1, false)]⟩),
  (39, ⟨.other, true, 5, 56, some [.string ⟨#[]⟩, .string ⟨#[]⟩, .int .i64 0, .int .i64 0, .bool false], [(0, 9, 1, false), (1, 9, 1, false), (2, 3, 1, false), (3, 3, 1, false), (4, 4, 1, false)]⟩),
  (40, ⟨.other, true, 4, 48, some [.int .i64 0, .int .i64 0, .slice none 0 0, .int .u8 0], [(0, 3, 1, false), (1, 3, 1, false), (2, 28, 1, false), (3, 5, 1, false)]⟩),
  (41, ⟨.other, true, 4, 48, some [.int .i64 0, .int .i64 0, .slice none 0 0, .int .u8 0], [(0, 3, 1, false), (1, 3, 1, false), (2, 28, 1, false), (3, 5, 1, false)]⟩),
  (46, ⟨.ptr, false, 1, 8, some [.pointer none], []⟩),
  (56, ⟨.slice 58, false, 1, 24, some [.slice none 0 0], []⟩),
  (57, ⟨.other, true, 4, 48, some [.int .i64 0, .int .i64 0, .slice none 0 0, .int .u8 0], [(0, 3, 1, false), (1, 3, 1, false), (2, 22, 1, false), (3, 5, 1, false)]⟩),
  (58, ⟨.other, true, 4, 48, some [.int .i64 0, .int .i64 0, .slice none 0 0, .int .u8 0], [(0, 3, 1, false), (1, 3, 1, false), (2, 22, 1, false), (3, 5, 1, false)]⟩),
  (61, ⟨.other, true, 5, 56, some [.slice none 0 0, .int .i64 0, .int .i64 0, .int .i64 0, .bool false], [(0, 28, 1, false), (1, 3, 1, false), (2, 3, 1, false), (3, 3, 1, false), (4, 4, 1, false)]⟩),
  (62, ⟨.other, true, 5, 56, some [.slice none 0 0, .int .i64 0, .int .i64 0, .int .i64 0, .bool false], [(0, 28, 1, false), (1, 3, 1, false), (2, 3, 1, false), (3, 3, 1, false), (4, 4, 1, false)]⟩),
  (65, ⟨.other, true, 3, 40, some [.pointer none, .slice none 0 0, .bool false], [(0, 23, 1, false), (1, 22, 1, false), (2, 4, 1, false)]⟩),
  (66, ⟨.other, true, 3, 40, some [.pointer none, .slice none 0 0, .bool false], [(0, 23, 1, false), (1, 22, 1, false), (2, 4, 1, false)]⟩),
  (75, ⟨.int .u32, false, 1, 4, some [.int .u32 0], []⟩),
  (76, ⟨.int .u64, false, 1, 8, some [.int .u64 0], []⟩),
  (78, ⟨.ptr, false, 1, 8, some [.pointer none], []⟩),
  (79, ⟨.other, true, 2, 32, some [.slice none 0 0, .int .i64 0], [(0, 28, 1, false), (1, 24, 1, false)]⟩),
  (80, ⟨.other, true, 2, 32, some [.slice none 0 0, .int .i64 0], [(0, 28, 1, false), (1, 24, 1, false)]⟩),
  (84, ⟨.slice 9, false, 1, 24, some [.slice none 0 0], []⟩),
  (87, ⟨.other, true, 4, 40, some [.pointer none, .pointer none, .pointer none, .string ⟨#[]⟩], [(0, 17, 1, false), (1, 17, 1, false), (2, 17, 1, false), (3, 9, 1, false)]⟩),
  (88, ⟨.other, true, 4, 40, some [.pointer none, .pointer none, .pointer none, .string ⟨#[]⟩], [(0, 17, 1, false), (1, 17, 1, false), (2, 17, 1, false), (3, 9, 1, false)]⟩),
  (90, ⟨.other, true, 0, 0, some [], [(0, 89, 0, true)]⟩),
  (91, ⟨.other, true, 0, 0, some [], [(0, 89, 0, true)]⟩),
  (92, ⟨.int .u8, false, 1, 1, some [.int .u8 0], []⟩),
  (93, ⟨.int .u8, false, 1, 1, some [.int .u8 0], []⟩),
  (95, ⟨.ptr, false, 1, 8, some [.pointer none], []⟩),
  (96, ⟨.int .i32, false, 1, 4, some [.int .i32 0], []⟩),
  (97, ⟨.int .i32, false, 1, 4, some [.int .i32 0], []⟩),
  (98, ⟨.other, true, 11, 48, some [.int .u64 0, .int .u64 0, .int .u32 0, .int .u8 0, .int .u8 0, .int .u8 0, .int .u8 0, .nilFunc, .pointer none, .int .i32 0, .int .i32 0], [(0, 12, 1, false), (1, 12, 1, false), (2, 75, 1, false), (3, 92, 1, false), (4, 5, 1, false), (5, 5, 1, false), (6, 93, 1, false), (7, 94, 1, false), (8, 95, 1, false), (9, 96, 1, false), (10, 97, 1, false)]⟩),
  (99, ⟨.other, true, 11, 48, some [.int .u64 0, .int .u64 0, .int .u32 0, .int .u8 0, .int .u8 0, .int .u8 0, .int .u8 0, .nilFunc, .pointer none, .int .i32 0, .int .i32 0], [(0, 12, 1, false), (1, 12, 1, false), (2, 75, 1, false), (3, 92, 1, false), (4, 5, 1, false), (5, 5, 1, false), (6, 93, 1, false), (7, 94, 1, false), (8, 95, 1, false), (9, 96, 1, false), (10, 97, 1, false)]⟩)]
theorem eOk : TOk Try.prog env := TOk.of (by kernel_rfl)
theorem fOk : FOk Try.prog env := FOk.of (by kernel_rfl)
theorem fo3 : FnOk Try.prog 3 := ⟨_, Try.func3, by kernel_rfl⟩
theorem fo4 : FnOk Try.prog 4 := ⟨_, Try.func4, by kernel_rfl⟩
theorem fo5 : FnOk Try.prog 5 := ⟨_, Try.func5, by kernel_rfl⟩
theorem fo6 : FnOk Try.prog 6 := ⟨_, Try.func6, by kernel_rfl⟩
theorem fo7 : FnOk Try.prog 7 := ⟨_, Try.func7, by kernel_rfl⟩
theorem fo8 : FnOk Try.prog 8 := ⟨_, Try.func8, by kernel_rfl⟩
theorem fo9 : FnOk Try.prog 9 := ⟨_, Try.func9, by kernel_rfl⟩
theorem fo10 : FnOk Try.prog 10 := ⟨_, Try.func10, by kernel_rfl⟩
theorem fo11 : FnOk Try.prog 11 := ⟨_, Try.func11, by kernel_rfl⟩
theorem fo12 : FnOk Try.prog 12 := ⟨_, Try.func12, by kernel_rfl⟩
theorem fo13 : FnOk Try.prog 13 := ⟨_, Try.func13, by kernel_rfl⟩
theorem fo14 : FnOk Try.prog 14 := ⟨_, Try.func14, by kernel_rfl⟩
theorem fo15 : FnOk Try.prog 15 := ⟨_, Try.func15, by kernel_rfl⟩
theorem fo16 : FnOk Try.prog 16 := ⟨_, Try.func16, by kernel_rfl⟩
theorem fo17 : FnOk Try.prog 17 := ⟨_, Try.func17, by kernel_rfl⟩
theorem fo18 : FnOk Try.prog 18 := ⟨_, Try.func18, by kernel_rfl⟩
theorem fo19 : FnOk Try.prog 19 := ⟨_, Try.func19, by kernel_rfl⟩
theorem fo20 : FnOk Try.prog 20 := ⟨_, Try.func20, by kernel_rfl⟩
theorem fo21 : FnOk Try.prog 21 := ⟨_, Try.func21, by kernel_rfl⟩
theorem fo22 : FnOk Try.prog 22 := ⟨_, Try.func22, by kernel_rfl⟩
theorem fo23 : FnOk Try.prog 23 := ⟨_, Try.func23, by kernel_rfl⟩
theorem fo24 : FnOk Try.prog 24 := ⟨_, Try.func24, by kernel_rfl⟩
theorem fo25 : FnOk Try.prog 25 := ⟨_, Try.func25, by kernel_rfl⟩
theorem fo26 : FnOk Try.prog 26 := ⟨_, Try.func26, by kernel_rfl⟩
theorem fo27 : FnOk Try.prog 27 := ⟨_, Try.func27, by kernel_rfl⟩
theorem fo28 : FnOk Try.prog 28 := ⟨_, Try.func28, by kernel_rfl⟩
theorem fo29 : FnOk Try.prog 29 := ⟨_, Try.func29, by kernel_rfl⟩
theorem fo30 : FnOk Try.prog 30 := ⟨_, Try.func30, by kernel_rfl⟩
theorem fo31 : FnOk Try.prog 31 := ⟨_, Try.func31, by kernel_rfl⟩
theorem fo32 : FnOk Try.prog 32 := ⟨_, Try.func32, by kernel_rfl⟩
theorem fo33 : FnOk Try.prog 33 := ⟨_, Try.func33, by kernel_rfl⟩
theorem fo34 : FnOk Try.prog 34 := ⟨_, Try.func34, by kernel_rfl⟩
theorem fo35 : FnOk Try.prog 35 := ⟨_, Try.func35, by kernel_rfl⟩
theorem fo36 : FnOk Try.prog 36 := ⟨_, Try.func36, by kernel_rfl⟩
theorem fo37 : FnOk Try.prog 37 := ⟨_, Try.func37, by kernel_rfl⟩
theorem fo38 : FnOk Try.prog 38 := ⟨_, Try.func38, by kernel_rfl⟩
theorem fo39 : FnOk Try.prog 39 := ⟨_, Try.func39, by kernel_rfl⟩
theorem fo40 : FnOk Try.prog 40 := ⟨_, Try.func40, by kernel_rfl⟩
theorem fo41 : FnOk Try.prog 41 := ⟨_, Try.func41, by kernel_rfl⟩
theorem fo42 : FnOk Try.prog 42 := ⟨_, Try.func42, by kernel_rfl⟩
theorem fo43 : FnOk Try.prog 43 := ⟨_, Try.func43, by kernel_rfl⟩
theorem fo44 : FnOk Try.prog 44 := ⟨_, Try.func44, by kernel_rfl⟩
theorem fo45 : FnOk Try.prog 45 := ⟨_, Try.func45, by kernel_rfl⟩
theorem fo46 : FnOk Try.prog 46 := ⟨_, Try.func46, by kernel_rfl⟩
theorem fo47 : FnOk Try.prog 47 := ⟨_, Try.func47, by kernel_rfl⟩
theorem fo48 : FnOk Try.prog 48 := ⟨_, Try.func48, by kernel_rfl⟩
theorem fo49 : FnOk Try.prog 49 := ⟨_, Try.func49, by kernel_rfl⟩
theorem fo50 : FnOk Try.prog 50 := ⟨_, Try.func50, by kernel_rfl⟩
theorem fo51 : FnOk Try.prog 51 := ⟨_, Try.func51, by kernel_rfl⟩
theorem fo52 : FnOk Try.prog 52 := ⟨_, Try.func52, by kernel_rfl⟩
theorem fo53 : FnOk Try.prog 53 := ⟨_, Try.func53, by kernel_rfl⟩
theorem fo54 : FnOk Try.prog 54 := ⟨_, Try.func54, by kernel_rfl⟩
theorem fo55 : FnOk Try.prog 55 := ⟨_, Try.func55, by kernel_rfl⟩
theorem fo56 : FnOk Try.prog 56 := ⟨_, Try.func56, by kernel_rfl⟩
theorem fo57 : FnOk Try.prog 57 := ⟨_, Try.func57, by kernel_rfl⟩
theorem fo58 : FnOk Try.prog 58 := ⟨_, Try.func58, by kernel_rfl⟩
end Go.Proofs.Ytgblimlnkefllaa
