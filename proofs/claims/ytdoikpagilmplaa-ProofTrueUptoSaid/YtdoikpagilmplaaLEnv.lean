/- The types of this seat as the calculus reads them, and that its functions have bodies. Written by a program (mkenv.py). No conditions. -/
import Derived.Test.YtdoikpagilmplaaLG3
import Derived.Test.YtdoikpagilmplaaProg
namespace Go.Proofs.Ytdoikpagilmplaa
open Go Go.Sx
def env : TEnv := [
  (2, ⟨.int .i64, false, 1, 8, some [.int .i64 0], []⟩),
  (3, ⟨.int .i64, false, 1, 8, some [.int .i64 0], []⟩),
  (4, ⟨.bool, false, 1, 1, some [.bool false], []⟩),
  (5, ⟨.int .u8, false, 1, 1, some [.int .u8 0], []⟩),
  (9, ⟨.str, false, 1, 16, some [.string ⟨#[]⟩], []⟩),
  (21, ⟨.int .i32, false, 1, 4, some [.int .i32 0], []⟩),
  (22, ⟨.slice 53, false, 1, 24, some [.slice none 0 0], []⟩),
  (23, ⟨.slice 41, false, 1, 24, some [.slice none 0 0], []⟩),
  (24, ⟨.int .i64, false, 1, 8, some [.int .i64 0], []⟩),
  (32, ⟨.slice 46, false, 1, 24, some [.slice none 0 0], []⟩),
  (37, ⟨.other, true, 2, 32, some [.string ⟨#[]⟩, .string ⟨#[]⟩], [(0, 9, 1, false), (1, 9, 1, false)]⟩),
  (38, ⟨.other, true, 2, 32, some [.string ⟨#[]⟩, .string ⟨#[]⟩], [(0, 9, 1, false), (1, 9, 1, false)]⟩),
  (39, ⟨.slice 58, false, 1, 24, some [.slice none 0 0], []⟩),
  (40, ⟨.other, true, 2, 32, some [.string ⟨#[]⟩, .string ⟨#[]⟩], [(0, 9, 1, false), (1, 9, 1, false)]⟩),
  (41, ⟨.other, true, 2, 32, some [.string ⟨#[]⟩, .string ⟨#[]⟩], [(0, 9, 1, false), (1, 9, 1, false)]⟩),
  (42, ⟨.other, true, 4, 64, some [.string ⟨#[]⟩, .string ⟨#[]⟩, .int .i64 0, .slice none 0 0], [(0, 38, 2, true), (2, 3, 1, false), (3, 23, 1, false)]⟩),
  (43, ⟨.other, true, 4, 64, some [.string ⟨#[]⟩, .string ⟨#[]⟩, .int .i64 0, .slice none 0 0], [(0, 38, 2, true), (2, 3, 1, false), (3, 23, 1, false)]⟩),
  (44, ⟨.slice 43, false, 1, 24, some [.slice none 0 0], []⟩),
  (45, ⟨.other, true, 8, 96, some [.int .i64 0, .int .i64 0, .int .i64 0, .int .i64 0, .int .i64 0, .int .i64 0, .slice none 0 0, .slice none 0 0], [(0, 3, 1, false), (1, 3, 1, false), (2, 3, 1, false), (3, 3, 1, false), (4, 3, 1, false), (5, 3, 1, false), (6, 44, 1, false), (7, 39, 1, false)]⟩),
  (46, ⟨.other, true, 8, 96, some [.int .i64 0, .int .i64 0, .int .i64 0, .int .i64 0, .int .i64 0, .int .i64 0, .slice none 0 0, .slice none 0 0], [(0, 3, 1, false), (1, 3, 1, false), (2, 3, 1, false), (3, 3, 1, false), (4, 3, 1, false), (5, 3, 1, false), (6, 44, 1, false), (7, 39, 1, false)]⟩),
  (52, ⟨.other, true, 4, 48, some [.int .i64 0, .int .i64 0, .int .i64 0, .slice none 0 0], [(0, 3, 1, false), (1, 3, 1, false), (2, 3, 1, false), (3, 39, 1, false)]⟩),
  (53, ⟨.other, true, 4, 48, some [.int .i64 0, .int .i64 0, .int .i64 0, .slice none 0 0], [(0, 3, 1, false), (1, 3, 1, false), (2, 3, 1, false), (3, 39, 1, false)]⟩),
  (57, ⟨.other, true, 3, 40, some [.int .i64 0, .string ⟨#[]⟩, .string ⟨#[]⟩], [(0, 3, 1, false), (1, 9, 1, false), (2, 9, 1, false)]⟩),
  (58, ⟨.other, true, 3, 40, some [.int .i64 0, .string ⟨#[]⟩, .string ⟨#[]⟩], [(0, 3, 1, false), (1, 9, 1, false), (2, 9, 1, false)]⟩),
  (93, ⟨.int .u64, false, 1, 8, some [.int .u64 0], []⟩),
  (97, ⟨.other, true, 4, 40, some [.pointer none, .pointer none, .pointer none, .string ⟨#[]⟩], [(0, 17, 1, false), (1, 17, 1, false), (2, 17, 1, false), (3, 9, 1, false)]⟩),
  (98, ⟨.other, true, 4, 40, some [.pointer none, .pointer none, .pointer none, .string ⟨#[]⟩], [(0, 17, 1, false), (1, 17, 1, false), (2, 17, 1, false), (3, 9, 1, false)]⟩),
  (100, ⟨.other, true, 0, 0, some [], [(0, 99, 0, true)]⟩),
  (101, ⟨.other, true, 0, 0, some [], [(0, 99, 0, true)]⟩),
  (103, ⟨.int .u32, false, 1, 4, some [.int .u32 0], []⟩),
  (104, ⟨.int .u8, false, 1, 1, some [.int .u8 0], []⟩),
  (105, ⟨.int .u8, false, 1, 1, some [.int .u8 0], []⟩),
  (107, ⟨.ptr, false, 1, 8, some [.pointer none], []⟩),
  (108, ⟨.int .i32, false, 1, 4, some [.int .i32 0], []⟩),
  (109, ⟨.int .i32, false, 1, 4, some [.int .i32 0], []⟩),
  (110, ⟨.other, true, 11, 48, some [.int .u64 0, .int .u64 0, .int .u32 0, .int .u8 0, .int .u8 0, .int .u8 0, .int .u8 0, .nilFunc, .pointer none, .int .i32 0, .int .i32 0], [(0, 12, 1, false), (1, 12, 1, false), (2, 103, 1, false), (3, 104, 1, false), (4, 5, 1, false), (5, 5, 1, false), (6, 105, 1, false), (7, 106, 1, false), (8, 107, 1, false), (9, 108, 1, false), (10, 109, 1, false)]⟩),
  (111, ⟨.other, true, 11, 48, some [.int .u64 0, .int .u64 0, .int .u32 0, .int .u8 0, .int .u8 0, .int .u8 0, .int .u8 0, .nilFunc, .pointer none, .int .i32 0, .int .i32 0], [(0, 12, 1, false), (1, 12, 1, false), (2, 103, 1, false), (3, 104, 1, false), (4, 5, 1, false), (5, 5, 1, false), (6, 105, 1, false), (7, 106, 1, false), (8, 107, 1, false), (9, 108, 1, false), (10, 109, 1, false)]⟩)]
theorem eOk : TOk Try.prog env := TOk.of (by kernel_rfl)
theorem fOk : FOk Try.prog env := FOk.of (by kernel_rfl)
theorem fo3 : FnOk Try.prog 3 := ⟨_, Try.func3, by kernel_rfl⟩
theorem fo4 : FnOk Try.prog 4 := ⟨_, Try.func4, by kernel_rfl⟩
theorem fo5 : FnOk Try.prog 5 := ⟨_, Try.func5, by kernel_rfl⟩
theorem fo6 : FnOk Try.prog 6 := ⟨_, Try.func6, by kernel_rfl⟩
theorem fo7 : FnOk Try.prog 7 := ⟨_, Try.func7, by kernel_rfl⟩
theorem fo8 : FnOk Try.prog 8 := ⟨_, Try.func8, by kernel_rfl⟩
theorem fo9 : FnOk Try.prog 9 := ⟨_, Try.func9, by kernel_rfl⟩
theorem fo10 : FnOk Try.prog 10 := ⟨_, Try.func10, by kernel_rfl⟩
theorem fo11 : FnOk Try.prog 11 := ⟨_, Try.func11, by kernel_rfl⟩
theorem fo12 : FnOk Try.prog 12 := ⟨_, Try.func12, by kernel_rfl⟩
theorem fo13 : FnOk Try.prog 13 := ⟨_, Try.func13, by kernel_rfl⟩
theorem fo14 : FnOk Try.prog 14 := ⟨_, Try.func14, by kernel_rfl⟩
theorem fo15 : FnOk Try.prog 15 := ⟨_, Try.func15, by kernel_rfl⟩
theorem fo16 : FnOk Try.prog 16 := ⟨_, Try.func16, by kernel_rfl⟩
theorem fo17 : FnOk Try.prog 17 := ⟨_, Try.func17, by kernel_rfl⟩
theorem fo18 : FnOk Try.prog 18 := ⟨_, Try.func18, by kernel_rfl⟩
theorem fo19 : FnOk Try.prog 19 := ⟨_, Try.func19, by kernel_rfl⟩
theorem fo20 : FnOk Try.prog 20 := ⟨_, Try.func20, by kernel_rfl⟩
theorem fo21 : FnOk Try.prog 21 := ⟨_, Try.func21, by kernel_rfl⟩
theorem fo22 : FnOk Try.prog 22 := ⟨_, Try.func22, by kernel_rfl⟩
theorem fo23 : FnOk Try.prog 23 := ⟨_, Try.func23, by kernel_rfl⟩
theorem fo24 : FnOk Try.prog 24 := ⟨_, Try.func24, by kernel_rfl⟩
theorem fo25 : FnOk Try.prog 25 := ⟨_, Try.func25, by kernel_rfl⟩
theorem fo26 : FnOk Try.prog 26 := ⟨_, Try.func26, by kernel_rfl⟩
theorem fo27 : FnOk Try.prog 27 := ⟨_, Try.func27, by kernel_rfl⟩
theorem fo28 : FnOk Try.prog 28 := ⟨_, Try.func28, by kernel_rfl⟩
theorem fo29 : FnOk Try.prog 29 := ⟨_, Try.func29, by kernel_rfl⟩
theorem fo30 : FnOk Try.prog 30 := ⟨_, Try.func30, by kernel_rfl⟩
theorem fo31 : FnOk Try.prog 31 := ⟨_, Try.func31, by kernel_rfl⟩
theorem fo32 : FnOk Try.prog 32 := ⟨_, Try.func32, by kernel_rfl⟩
theorem fo33 : FnOk Try.prog 33 := ⟨_, Try.func33, by kernel_rfl⟩
theorem fo34 : FnOk Try.prog 34 := ⟨_, Try.func34, by kernel_rfl⟩
theorem fo35 : FnOk Try.prog 35 := ⟨_, Try.func35, by kernel_rfl⟩
theorem fo36 : FnOk Try.prog 36 := ⟨_, Try.func36, by kernel_rfl⟩
theorem fo37 : FnOk Try.prog 37 := ⟨_, Try.func37, by kernel_rfl⟩
theorem fo38 : FnOk Try.prog 38 := ⟨_, Try.func38, by kernel_rfl⟩
theorem fo39 : FnOk Try.prog 39 := ⟨_, Try.func39, by kernel_rfl⟩
theorem fo40 : FnOk Try.prog 40 := ⟨_, Try.func40, by kernel_rfl⟩
theorem fo41 : FnOk Try.prog 41 := ⟨_, Try.func41, by kernel_rfl⟩
theorem fo42 : FnOk Try.prog 42 := ⟨_, Try.func42, by kernel_rfl⟩
theorem fo43 : FnOk Try.prog 43 := ⟨_, Try.func43, by kernel_rfl⟩
theorem fo44 : FnOk Try.prog 44 := ⟨_, Try.func44, by kernel_rfl⟩
theorem fo45 : FnOk Try.prog 45 := ⟨_, Try.func45, by kernel_rfl⟩
theorem fo46 : FnOk Try.prog 46 := ⟨_, Try.func46, by kernel_rfl⟩
theorem fo47 : FnOk Try.prog 47 := ⟨_, Try.func47, by kernel_rfl⟩
theorem fo48 : FnOk Try.prog 48 := ⟨_, Try.func48, by kernel_rfl⟩
theorem fo49 : FnOk Try.prog 49 := ⟨_, Try.func49, by kernel_rfl⟩
theorem fo50 : FnOk Try.prog 50 := ⟨_, Try.func50, by kernel_rfl⟩
theorem fo51 : FnOk Try.prog 51 := ⟨_, Try.func51, by kernel_rfl⟩
theorem fo52 : FnOk Try.prog 52 := ⟨_, Try.func52, by kernel_rfl⟩
theorem fo53 : FnOk Try.prog 53 := ⟨_, Try.func53, by kernel_rfl⟩
theorem fo54 : FnOk Try.prog 54 := ⟨_, Try.func54, by kernel_rfl⟩
theorem fo55 : FnOk Try.prog 55 := ⟨_, Try.func55, by kernel_rfl⟩
theorem fo56 : FnOk Try.prog 56 := ⟨_, Try.func56, by kernel_rfl⟩
theorem fo57 : FnOk Try.prog 57 := ⟨_, Try.func57, by kernel_rfl⟩
theorem fo58 : FnOk Try.prog 58 := ⟨_, Try.func58, by kernel_rfl⟩
theorem fo59 : FnOk Try.prog 59 := ⟨_, Try.func59, by kernel_rfl⟩
theorem fo60 : FnOk Try.prog 60 := ⟨_, Try.func60, by kernel_rfl⟩
theorem fo61 : FnOk Try.prog 61 := ⟨_, Try.func61, by kernel_rfl⟩
theorem fo62 : FnOk Try.prog 62 := ⟨_, Try.func62, by kernel_rfl⟩
theorem fo63 : FnOk Try.prog 63 := ⟨_, Try.func63, by kernel_rfl⟩
theorem fo64 : FnOk Try.prog 64 := ⟨_, Try.func64, by kernel_rfl⟩
theorem fo65 : FnOk Try.prog 65 := ⟨_, Try.func65, by kernel_rfl⟩
theorem fo66 : FnOk Try.prog 66 := ⟨_, Try.func66, by kernel_rfl⟩
theorem fo68 : FnOk Try.prog 68 := ⟨_, Try.func68, by kernel_rfl⟩
theorem fo69 : FnOk Try.prog 69 := ⟨_, Try.func69, by kernel_rfl⟩
theorem fo70 : FnOk Try.prog 70 := ⟨_, Try.func70, by kernel_rfl⟩
theorem fo71 : FnOk Try.prog 71 := ⟨_, Try.func71, by kernel_rfl⟩
theorem fo72 : FnOk Try.prog 72 := ⟨_, Try.func72, by kernel_rfl⟩
theorem fo73 : FnOk Try.prog 73 := ⟨_, Try.func73, by kernel_rfl⟩
theorem fo74 : FnOk Try.prog 74 := ⟨_, Try.func74, by kernel_rfl⟩
end Go.Proofs.Ytdoikpagilmplaa
