/- The types of this seat as the calculus reads them, and that its functions have bodies. Written by a program (mkenv.py). No conditions. -/
import Derived.Test.YtocmeaamaecgeaaLG3
import Derived.Test.YtocmeaamaecgeaaProg
namespace Go.Proofs.Ytocmeaamaecgeaa
open Go Go.Sx
def env : TEnv := [
  (2, ⟨.int .i64, false, 1, 8, some [.int .i64 0], []⟩),
  (3, ⟨.int .i64, false, 1, 8, some [.int .i64 0], []⟩),
  (4, ⟨.bool, false, 1, 1, some [.bool false], []⟩),
  (5, ⟨.int .u8, false, 1, 1, some [.int .u8 0], []⟩),
  (9, ⟨.str, false, 1, 16, some [.string ⟨#[]⟩], []⟩),
  (21, ⟨.int .i32, false, 1, 4, some [.int .i32 0], []⟩),
  (22, ⟨.slice 23, false, 1, 24, some [.slice none 0 0], []⟩),
  (23, ⟨.slice 3, false, 1, 24, some [.slice none 0 0], []⟩),
  (24, ⟨.int .i64, false, 1, 8, some [.int .i64 0], []⟩),
  (31, ⟨.slice 52, false, 1, 24, some [.slice none 0 0], []⟩),
  (32, ⟨.slice 57, false, 1, 24, some [.slice none 0 0], []⟩),
  (33, ⟨.other, true, 3, 56, some [.int .i64 0, .slice none 0 0, .slice none 0 0], [(0, 3, 1, false), (1, 31, 1, false), (2, 32, 1, false)]⟩),
  (34, ⟨.other, true, 3, 56, some [.int .i64 0, .slice none 0 0, .slice none 0 0], [(0, 3, 1, false), (1, 31, 1, false), (2, 32, 1, false)]⟩),
  (39, ⟨.slice 34, false, 1, 24, some [.slice none 0 0], []⟩),
  (51, ⟨.other, true, 2, 32, some [.string ⟨#[]⟩, .string ⟨#[]⟩], [(0, 9, 1, false), (1, 9, 1, false)]⟩),
  (52, ⟨.other, true, 2, 32, some [.string ⟨#[]⟩, .string ⟨#[]⟩], [(0, 9, 1, false), (1, 9, 1, false)]⟩),
  (56, ⟨.other, true, 3, 40, some [.int .i64 0, .string ⟨#[]⟩, .string ⟨#[]⟩], [(0, 3, 1, false), (1, 9, 1, false), (2, 9, 1, false)]⟩),
  (57, ⟨.other, true, 3, 40, some [.int .i64 0, .string ⟨#[]⟩, .string ⟨#[]⟩], [(0, 3, 1, false), (1, 9, 1, false), (2, 9, 1, false)]⟩),
  (60, ⟨.int .u64, false, 1, 8, some [.int .u64 0], []⟩),
  (66, ⟨.int .u32, false, 1, 4, some [.int .u32 0], []⟩),
  (69, ⟨.int .u64, false, 1, 8, some [.int .u64 0], []⟩),
  (72, ⟨.slice 5, false, 1, 24, some [.slice none 0 0], []⟩),
  (73, ⟨.ptr, false, 1, 8, some [.pointer none], []⟩),
  (75, ⟨.other, true, 4, 40, some [.pointer none, .pointer none, .pointer none, .string ⟨#[]⟩], [(0, 17, 1, false), (1, 17, 1, false), (2, 17, 1, false), (3, 9, 1, false)]⟩),
  (76, ⟨.other, true, 4, 40, some [.pointer none, .pointer none, .pointer none, .string ⟨#[]⟩], [(0, 17, 1, false), (1, 17, 1, false), (2, 17, 1, false), (3, 9, 1, false)]⟩),
  (78, ⟨.other, true, 0, 0, some [], [(0, 77, 0, true)]⟩),
  (79, ⟨.other, true, 0, 0, some [], [(0, 77, 0, true)]⟩),
  (81, ⟨.int .u8, false, 1, 1, some [.int .u8 0], []⟩),
  (82, ⟨.int .u8, false, 1, 1, some [.int .u8 0], []⟩),
  (84, ⟨.int .i32, false, 1, 4, some [.int .i32 0], []⟩),
  (85, ⟨.int .i32, false, 1, 4, some [.int .i32 0], []⟩),
  (86, ⟨.other, true, 11, 48, some [.int .u64 0, .int .u64 0, .int .u32 0, .int .u8 0, .int .u8 0, .int .u8 0, .int .u8 0, .nilFunc, .pointer none, .int .i32 0, .int .i32 0], [(0, 12, 1, false), (1, 12, 1, false), (2, 66, 1, false), (3, 81, 1, false), (4, 5, 1, false), (5, 5, 1, false), (6, 82, 1, false), (7, 83, 1, false), (8, 73, 1, false), (9, 84, 1, false), (10, 85, 1, false)]⟩),
  (87, ⟨.other, true, 11, 48, some [.int .u64 0, .int .u64 0, .int .u32 0, .int .u8 0, .int .u8 0, .int .u8 0, .int .u8 0, .nilFunc, .pointer none, .int .i32 0, .int .i32 0], [(0, 12, 1, false), (1, 12, 1, false), (2, 66, 1, false), (3, 81, 1, false), (4, 5, 1, false), (5, 5, 1, false), (6, 82, 1, false), (7, 83, 1, false), (8, 73, 1, false), (9, 84, 1, false), (10, 85, 1, false)]⟩)]
theorem eOk : TOk Try.prog env := TOk.of (by kernel_rfl)
theorem fOk : FOk Try.prog env := FOk.of (by kernel_rfl)
theorem fo3 : FnOk Try.prog 3 := ⟨_, Try.func3, by kernel_rfl⟩
theorem fo4 : FnOk Try.prog 4 := ⟨_, Try.func4, by kernel_rfl⟩
theorem fo5 : FnOk Try.prog 5 := ⟨_, Try.func5, by kernel_rfl⟩
theorem fo6 : FnOk Try.prog 6 := ⟨_, Try.func6, by kernel_rfl⟩
theorem fo7 : FnOk Try.prog 7 := ⟨_, Try.func7, by kernel_rfl⟩
theorem fo8 : FnOk Try.prog 8 := ⟨_, Try.func8, by kernel_rfl⟩
theorem fo9 : FnOk Try.prog 9 := ⟨_, Try.func9, by kernel_rfl⟩
theorem fo10 : FnOk Try.prog 10 := ⟨_, Try.func10, by kernel_rfl⟩
theorem fo11 : FnOk Try.prog 11 := ⟨_, Try.func11, by kernel_rfl⟩
theorem fo12 : FnOk Try.prog 12 := ⟨_, Try.func12, by kernel_rfl⟩
theorem fo13 : FnOk Try.prog 13 := ⟨_, Try.func13, by kernel_rfl⟩
theorem fo14 : FnOk Try.prog 14 := ⟨_, Try.func14, by kernel_rfl⟩
theorem fo15 : FnOk Try.prog 15 := ⟨_, Try.func15, by kernel_rfl⟩
theorem fo16 : FnOk Try.prog 16 := ⟨_, Try.func16, by kernel_rfl⟩
theorem fo17 : FnOk Try.prog 17 := ⟨_, Try.func17, by kernel_rfl⟩
theorem fo18 : FnOk Try.prog 18 := ⟨_, Try.func18, by kernel_rfl⟩
theorem fo19 : FnOk Try.prog 19 := ⟨_, Try.func19, by kernel_rfl⟩
theorem fo20 : FnOk Try.prog 20 := ⟨_, Try.func20, by kernel_rfl⟩
theorem fo21 : FnOk Try.prog 21 := ⟨_, Try.func21, by kernel_rfl⟩
theorem fo22 : FnOk Try.prog 22 := ⟨_, Try.func22, by kernel_rfl⟩
theorem fo23 : FnOk Try.prog 23 := ⟨_, Try.func23, by kernel_rfl⟩
theorem fo24 : FnOk Try.prog 24 := ⟨_, Try.func24, by kernel_rfl⟩
theorem fo25 : FnOk Try.prog 25 := ⟨_, Try.func25, by kernel_rfl⟩
theorem fo26 : FnOk Try.prog 26 := ⟨_, Try.func26, by kernel_rfl⟩
theorem fo27 : FnOk Try.prog 27 := ⟨_, Try.func27, by kernel_rfl⟩
theorem fo28 : FnOk Try.prog 28 := ⟨_, Try.func28, by kernel_rfl⟩
theorem fo29 : FnOk Try.prog 29 := ⟨_, Try.func29, by kernel_rfl⟩
theorem fo30 : FnOk Try.prog 30 := ⟨_, Try.func30, by kernel_rfl⟩
theorem fo31 : FnOk Try.prog 31 := ⟨_, Try.func31, by kernel_rfl⟩
theorem fo32 : FnOk Try.prog 32 := ⟨_, Try.func32, by kernel_rfl⟩
theorem fo33 : FnOk Try.prog 33 := ⟨_, Try.func33, by kernel_rfl⟩
theorem fo34 : FnOk Try.prog 34 := ⟨_, Try.func34, by kernel_rfl⟩
theorem fo35 : FnOk Try.prog 35 := ⟨_, Try.func35, by kernel_rfl⟩
theorem fo36 : FnOk Try.prog 36 := ⟨_, Try.func36, by kernel_rfl⟩
theorem fo37 : FnOk Try.prog 37 := ⟨_, Try.func37, by kernel_rfl⟩
theorem fo38 : FnOk Try.prog 38 := ⟨_, Try.func38, by kernel_rfl⟩
theorem fo39 : FnOk Try.prog 39 := ⟨_, Try.func39, by kernel_rfl⟩
theorem fo40 : FnOk Try.prog 40 := ⟨_, Try.func40, by kernel_rfl⟩
theorem fo41 : FnOk Try.prog 41 := ⟨_, Try.func41, by kernel_rfl⟩
end Go.Proofs.Ytocmeaamaecgeaa
