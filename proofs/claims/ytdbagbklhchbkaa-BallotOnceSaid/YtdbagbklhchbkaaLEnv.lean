/- The types of this seat as the calculus reads them, and that its functions have bodies. Written by a program (mkenv.py). No conditions. -/
import Derived.Test.YtdbagbklhchbkaaLG3
import Derived.Test.YtdbagbklhchbkaaProg
namespace Go.Proofs.Ytdbagbklhchbkaa
open Go Go.Sx
def env : TEnv := [
  (2, ⟨.int .i64, false, 1, 8, some [.int .i64 0], []⟩),
  (3, ⟨.int .i64, false, 1, 8, some [.int .i64 0], []⟩),
  (4, ⟨.bool, false, 1, 1, some [.bool false], []⟩),
  (5, ⟨.int .u8, false, 1, 1, some [.int .u8 0], []⟩),
  (9, ⟨.str, false, 1, 16, some [.string ⟨#[]⟩], []⟩),
  (21, ⟨.int .i32, false, 1, 4, some [.int .i32 0], []⟩),
  (22, ⟨.other, true, 2, 16, some [.int .i64 0, .int .i64 0], [(0, 3, 1, false), (1, 3, 1, false)]⟩),
  (23, ⟨.other, true, 2, 16, some [.int .i64 0, .int .i64 0], [(0, 3, 1, false), (1, 3, 1, false)]⟩),
  (27, ⟨.slice 3, false, 1, 24, some [.slice none 0 0], []⟩),
  (28, ⟨.other, true, 4, 48, some [.int .i64 0, .int .i64 0, .int .i64 0, .slice none 0 0], [(0, 3, 1, false), (1, 3, 1, false), (2, 3, 1, false), (3, 27, 1, false)]⟩),
  (29, ⟨.other, true, 4, 48, some [.int .i64 0, .int .i64 0, .int .i64 0, .slice none 0 0], [(0, 3, 1, false), (1, 3, 1, false), (2, 3, 1, false), (3, 27, 1, false)]⟩),
  (30, ⟨.other, true, 8, 80, some [.int .i64 0, .int .i64 0, .int .i64 0, .int .i64 0, .int .i64 0, .int .i64 0, .int .i64 0, .slice none 0 0], [(0, 23, 2, true), (2, 23, 2, true), (4, 29, 4, true)]⟩),
  (31, ⟨.other, true, 8, 80, some [.int .i64 0, .int .i64 0, .int .i64 0, .int .i64 0, .int .i64 0, .int .i64 0, .int .i64 0, .slice none 0 0], [(0, 23, 2, true), (2, 23, 2, true), (4, 29, 4, true)]⟩),
  (37, ⟨.slice 31, false, 1, 24, some [.slice none 0 0], []⟩),
  (43, ⟨.slice 50, false, 1, 24, some [.slice none 0 0], []⟩),
  (44, ⟨.slice 37, false, 1, 24, some [.slice none 0 0], []⟩),
  (45, ⟨.slice 29, false, 1, 24, some [.slice none 0 0], []⟩),
  (46, ⟨.slice 47, false, 1, 24, some [.slice none 0 0], []⟩),
  (47, ⟨.slice 4, false, 1, 24, some [.slice none 0 0], []⟩),
  (49, ⟨.other, true, 3, 24, some [.int .i64 0, .int .i64 0, .int .i64 0], [(0, 3, 1, false), (1, 3, 1, false), (2, 3, 1, false)]⟩),
  (50, ⟨.other, true, 3, 24, some [.int .i64 0, .int .i64 0, .int .i64 0], [(0, 3, 1, false), (1, 3, 1, false), (2, 3, 1, false)]⟩),
  (52, ⟨.slice 5, false, 1, 24, some [.slice none 0 0], []⟩),
  (53, ⟨.int .i64, false, 1, 8, some [.int .i64 0], []⟩),
  (76, ⟨.ptr, false, 1, 8, some [.pointer none], []⟩),
  (81, ⟨.int .u64, false, 1, 8, some [.int .u64 0], []⟩),
  (82, ⟨.other, true, 2, 32, some [.slice none 0 0, .int .i64 0], [(0, 52, 1, false), (1, 53, 1, false)]⟩),
  (83, ⟨.other, true, 2, 32, some [.slice none 0 0, .int .i64 0], [(0, 52, 1, false), (1, 53, 1, false)]⟩),
  (86, ⟨.other, true, 4, 40, some [.pointer none, .pointer none, .pointer none, .string ⟨#[]⟩], [(0, 17, 1, false), (1, 17, 1, false), (2, 17, 1, false), (3, 9, 1, false)]⟩),
  (87, ⟨.other, true, 4, 40, some [.pointer none, .pointer none, .pointer none, .string ⟨#[]⟩], [(0, 17, 1, false), (1, 17, 1, false), (2, 17, 1, false), (3, 9, 1, false)]⟩),
  (89, ⟨.other, true, 0, 0, some [], [(0, 88, 0, true)]⟩),
  (90, ⟨.other, true, 0, 0, some [], [(0, 88, 0, true)]⟩),
  (91, ⟨.int .u32, false, 1, 4, some [.int .u32 0], []⟩),
  (92, ⟨.int .u8, false, 1, 1, some [.int .u8 0], []⟩),
  (93, ⟨.int .u8, false, 1, 1, some [.int .u8 0], []⟩),
  (95, ⟨.ptr, false, 1, 8, some [.pointer none], []⟩),
  (96, ⟨.int .i32, false, 1, 4, some [.int .i32 0], []⟩),
  (97, ⟨.int .i32, false, 1, 4, some [.int .i32 0], []⟩),
  (98, ⟨.other, true, 11, 48, some [.int .u64 0, .int .u64 0, .int .u32 0, .int .u8 0, .int .u8 0, .int .u8 0, .int .u8 0, .nilFunc, .pointer none, .int .i32 0, .int .i32 0], [(0, 12, 1, false), (1, 12, 1, false), (2, 91, 1, false), (3, 92, 1, false), (4, 5, 1, false), (5, 5, 1, false), (6, 93, 1, false), (7, 94, 1, false), (8, 95, 1, false), (9, 96, 1, false), (10, 97, 1, false)]⟩),
  (99, ⟨.other, true, 11, 48, some [.int .u64 0, .int .u64 0, .int .u32 0, .int .u8 0, .int .u8 0, .int .u8 0, .int .u8 0, .nilFunc, .pointer none, .int .i32 0, .int .i32 0], [(0, 12, 1, false), (1, 12, 1, false), (2, 91, 1, false), (3, 92, 1, false), (4, 5, 1, false), (5, 5, 1, false), (6, 93, 1, false), (7, 94, 1, false), (8, 95, 1, false), (9, 96, 1, false), (10, 97, 1, false)]⟩)]
theorem eOk : TOk Try.prog env := TOk.of (by kernel_rfl)
theorem fOk : FOk Try.prog env := FOk.of (by kernel_rfl)
theorem fo3 : FnOk Try.prog 3 := ⟨_, Try.func3, by kernel_rfl⟩
theorem fo4 : FnOk Try.prog 4 := ⟨_, Try.func4, by kernel_rfl⟩
theorem fo5 : FnOk Try.prog 5 := ⟨_, Try.func5, by kernel_rfl⟩
theorem fo6 : FnOk Try.prog 6 := ⟨_, Try.func6, by kernel_rfl⟩
theorem fo7 : FnOk Try.prog 7 := ⟨_, Try.func7, by kernel_rfl⟩
theorem fo8 : FnOk Try.prog 8 := ⟨_, Try.func8, by kernel_rfl⟩
theorem fo9 : FnOk Try.prog 9 := ⟨_, Try.func9, by kernel_rfl⟩
theorem fo10 : FnOk Try.prog 10 := ⟨_, Try.func10, by kernel_rfl⟩
theorem fo11 : FnOk Try.prog 11 := ⟨_, Try.func11, by kernel_rfl⟩
theorem fo12 : FnOk Try.prog 12 := ⟨_, Try.func12, by kernel_rfl⟩
theorem fo13 : FnOk Try.prog 13 := ⟨_, Try.func13, by kernel_rfl⟩
theorem fo14 : FnOk Try.prog 14 := ⟨_, Try.func14, by kernel_rfl⟩
theorem fo15 : FnOk Try.prog 15 := ⟨_, Try.func15, by kernel_rfl⟩
theorem fo16 : FnOk Try.prog 16 := ⟨_, Try.func16, by kernel_rfl⟩
theorem fo17 : FnOk Try.prog 17 := ⟨_, Try.func17, by kernel_rfl⟩
theorem fo18 : FnOk Try.prog 18 := ⟨_, Try.func18, by kernel_rfl⟩
theorem fo19 : FnOk Try.prog 19 := ⟨_, Try.func19, by kernel_rfl⟩
theorem fo20 : FnOk Try.prog 20 := ⟨_, Try.func20, by kernel_rfl⟩
theorem fo21 : FnOk Try.prog 21 := ⟨_, Try.func21, by kernel_rfl⟩
theorem fo22 : FnOk Try.prog 22 := ⟨_, Try.func22, by kernel_rfl⟩
theorem fo23 : FnOk Try.prog 23 := ⟨_, Try.func23, by kernel_rfl⟩
theorem fo24 : FnOk Try.prog 24 := ⟨_, Try.func24, by kernel_rfl⟩
theorem fo25 : FnOk Try.prog 25 := ⟨_, Try.func25, by kernel_rfl⟩
theorem fo26 : FnOk Try.prog 26 := ⟨_, Try.func26, by kernel_rfl⟩
theorem fo27 : FnOk Try.prog 27 := ⟨_, Try.func27, by kernel_rfl⟩
theorem fo28 : FnOk Try.prog 28 := ⟨_, Try.func28, by kernel_rfl⟩
theorem fo29 : FnOk Try.prog 29 := ⟨_, Try.func29, by kernel_rfl⟩
theorem fo30 : FnOk Try.prog 30 := ⟨_, Try.func30, by kernel_rfl⟩
theorem fo31 : FnOk Try.prog 31 := ⟨_, Try.func31, by kernel_rfl⟩
theorem fo32 : FnOk Try.prog 32 := ⟨_, Try.func32, by kernel_rfl⟩
theorem fo33 : FnOk Try.prog 33 := ⟨_, Try.func33, by kernel_rfl⟩
theorem fo34 : FnOk Try.prog 34 := ⟨_, Try.func34, by kernel_rfl⟩
theorem fo35 : FnOk Try.prog 35 := ⟨_, Try.func35, by kernel_rfl⟩
theorem fo36 : FnOk Try.prog 36 := ⟨_, Try.func36, by kernel_rfl⟩
theorem fo37 : FnOk Try.prog 37 := ⟨_, Try.func37, by kernel_rfl⟩
theorem fo38 : FnOk Try.prog 38 := ⟨_, Try.func38, by kernel_rfl⟩
theorem fo39 : FnOk Try.prog 39 := ⟨_, Try.func39, by kernel_rfl⟩
theorem fo40 : FnOk Try.prog 40 := ⟨_, Try.func40, by kernel_rfl⟩
theorem fo41 : FnOk Try.prog 41 := ⟨_, Try.func41, by kernel_rfl⟩
theorem fo42 : FnOk Try.prog 42 := ⟨_, Try.func42, by kernel_rfl⟩
theorem fo43 : FnOk Try.prog 43 := ⟨_, Try.func43, by kernel_rfl⟩
theorem fo44 : FnOk Try.prog 44 := ⟨_, Try.func44, by kernel_rfl⟩
theorem fo45 : FnOk Try.prog 45 := ⟨_, Try.func45, by kernel_rfl⟩
theorem fo46 : FnOk Try.prog 46 := ⟨_, Try.func46, by kernel_rfl⟩
theorem fo47 : FnOk Try.prog 47 := ⟨_, Try.func47, by kernel_rfl⟩
theorem fo48 : FnOk Try.prog 48 := ⟨_, Try.func48, by kernel_rfl⟩
end Go.Proofs.Ytdbagbklhchbkaa
