/- The types of this seat as the calculus reads them, and that its functions have bodies. Written by a program (mkenv.py). No conditions. -/
import Derived.Test.YtmenbognkdeipaaLG3
import Derived.Test.YtmenbognkdeipaaProg
namespace Go.Proofs.Ytmenbognkdeipaa
open Go Go.Sx
def env : TEnv := [
  (2, ⟨.int .i64, false, 1, 8, some [.int .i64 0], []⟩),
  (3, ⟨.int .i64, false, 1, 8, some [.int .i64 0], []⟩),
  (4, ⟨.bool, false, 1, 1, some [.bool false], []⟩),
  (5, ⟨.int .u8, false, 1, 1, some [.int .u8 0], []⟩),
  (9, ⟨.str, false, 1, 16, some [.string ⟨#[]⟩], []⟩),
  (21, ⟨.int .i32, false, 1, 4, some [.int .i32 0], []⟩),
  (22, ⟨.slice 5, false, 1, 24, some [.slice none 0 0], []⟩),
  (23, ⟨.other, true, 8, 80, some [.int .i64 0, .int .i64 0, .int .i64 0, .int .i64 0, .int .i64 0, .int .i64 0, .int .i64 0, .slice none 0 0], [(0, 3, 1, false), (1, 3, 1, false), (2, 3, 1, false), (3, 3, 1, false), (4, 3, 1, false), (5, 3, 1, false), (6, 3, 1, false), (7, 22, 1, false)]⟩),
  (24, ⟨.other, true, 8, 80, some [.int .i64 0, .int .i64 0, .int .i64 0, .int .i64 0, .int .i64 0, .int .i64 0, .int .i64 0, .slice none 0 0], [(0, 3, 1, false), (1, 3, 1, false), (2, 3, 1, false), (3, 3, 1, false), (4, 3, 1, false), (5, 3, 1, false), (6, 3, 1, false), (7, 22, 1, false)]⟩),
  (25, ⟨.int .i64, false, 1, 8, some [.int .i64 0], []⟩),
  (33, ⟨.int .u16, false, 1, 2, some [.int .u16 0], []⟩),
  (34, ⟨.int .u32, false, 1, 4, some [.int .u32 0], []⟩),
  (36, ⟨.other, true, 2, 16, some [.int .i64 0, .int .i64 0], [(0, 3, 1, false), (1, 3, 1, false)]⟩),
  (37, ⟨.other, true, 2, 16, some [.int .i64 0, .int .i64 0], [(0, 3, 1, false), (1, 3, 1, false)]⟩),
  (38, ⟨.slice 3, false, 1, 24, some [.slice none 0 0], []⟩),
  (39, ⟨.other, true, 4, 48, some [.int .i64 0, .int .i64 0, .int .i64 0, .slice none 0 0], [(0, 3, 1, false), (1, 3, 1, false), (2, 3, 1, false), (3, 38, 1, false)]⟩),
  (40, ⟨.other, true, 4, 48, some [.int .i64 0, .int .i64 0, .int .i64 0, .slice none 0 0], [(0, 3, 1, false), (1, 3, 1, false), (2, 3, 1, false), (3, 38, 1, false)]⟩),
  (41, ⟨.other, true, 8, 80, some [.int .i64 0, .int .i64 0, .int .i64 0, .int .i64 0, .int .i64 0, .int .i64 0, .int .i64 0, .slice none 0 0], [(0, 37, 2, true), (2, 37, 2, true), (4, 40, 4, true)]⟩),
  (42, ⟨.other, true, 8, 80, some [.int .i64 0, .int .i64 0, .int .i64 0, .int .i64 0, .int .i64 0, .int .i64 0, .int .i64 0, .slice none 0 0], [(0, 37, 2, true), (2, 37, 2, true), (4, 40, 4, true)]⟩),
  (53, ⟨.slice 126, false, 1, 24, some [.slice none 0 0], []⟩),
  (54, ⟨.other, true, 4, 48, some [.int .i64 0, .int .i64 0, .int .i64 0, .slice none 0 0], [(0, 3, 1, false), (1, 3, 1, false), (2, 3, 1, false), (3, 53, 1, false)]⟩),
  (55, ⟨.other, true, 4, 48, some [.int .i64 0, .int .i64 0, .int .i64 0, .slice none 0 0], [(0, 3, 1, false), (1, 3, 1, false), (2, 3, 1, false), (3, 53, 1, false)]⟩),
  (61, ⟨.slice 110, false, 1, 24, some [.slice none 0 0], []⟩),
  (62, ⟨.other, true, 3, 56, some [.int .i64 0, .slice none 0 0, .slice none 0 0], [(0, 3, 1, false), (1, 61, 1, false), (2, 53, 1, false)]⟩),
  (63, ⟨.other, true, 3, 56, some [.int .i64 0, .slice none 0 0, .slice none 0 0], [(0, 3, 1, false), (1, 61, 1, false), (2, 53, 1, false)]⟩),
  (71, ⟨.ptr, false, 1, 8, some [.pointer none], []⟩),
  (72, ⟨.other, true, 2, 32, some [.slice none 0 0, .int .i64 0], [(0, 22, 1, false), (1, 25, 1, false)]⟩),
  (73, ⟨.other, true, 2, 32, some [.slice none 0 0, .int .i64 0], [(0, 22, 1, false), (1, 25, 1, false)]⟩),
  (82, ⟨.ptr, false, 1, 8, some [.pointer none], []⟩),
  (87, ⟨.ptr, false, 1, 8, some [.pointer none], []⟩),
  (88, ⟨.other, true, 2, 32, some [.slice none 0 0, .bool false], [(0, 22, 1, false), (1, 4, 1, false)]⟩),
  (89, ⟨.other, true, 2, 32, some [.slice none 0 0, .bool false], [(0, 22, 1, false), (1, 4, 1, false)]⟩),
  (109, ⟨.other, true, 2, 32, some [.string ⟨#[]⟩, .string ⟨#[]⟩], [(0, 9, 1, false), (1, 9, 1, false)]⟩),
  (110, ⟨.other, true, 2, 32, some [.string ⟨#[]⟩, .string ⟨#[]⟩], [(0, 9, 1, false), (1, 9, 1, false)]⟩),
  (112, ⟨.slice 9, false, 1, 24, some [.slice none 0 0], []⟩),
  (114, ⟨.int .u64, false, 1, 8, some [.int .u64 0], []⟩),
  (115, ⟨.other, true, 2, 32, some [.slice none 0 0, .int .i64 0], [(0, 22, 1, false), (1, 25, 1, false)]⟩),
  (122, ⟨.slice 42, false, 1, 24, some [.slice none 0 0], []⟩),
  (125, ⟨.other, true, 3, 40, some [.int .i64 0, .string ⟨#[]⟩, .string ⟨#[]⟩], [(0, 3, 1, false), (1, 9, 1, false), (2, 9, 1, false)]⟩),
  (126, ⟨.other, true, 3, 40, some [.int .i64 0, .string ⟨#[]⟩, .string ⟨#[]⟩], [(0, 3, 1, false), (1, 9, 1, false), (2, 9, 1, false)]⟩),
  (135, ⟨.other, true, 4, 40, some [.pointer none, .pointer none, .pointer none, .string ⟨#[]⟩], [(0, 17, 1, false), (1, 17, 1, false), (2, 17, 1, false), (3, 9, 1, false)]⟩),
  (136, ⟨.other, true, 4, 40, some [.pointer none, .pointer none, .pointer none, .string ⟨#[]⟩], [(0, 17, 1, false), (1, 17, 1, false), (2, 17, 1, false), (3, 9, 1, false)]⟩),
  (138, ⟨.other, true, 0, 0, some [], [(0, 137, 0, true)]⟩),
  (139, ⟨.other, true, 0, 0, some [], [(0, 137, 0, true)]⟩),
  (140, ⟨.int .u8, false, 1, 1, some [.int .u8 0], []⟩),
  (141, ⟨.int .u8, false, 1, 1, some [.int .u8 0], []⟩),
  (143, ⟨.ptr, false, 1, 8, some [.pointer none], []⟩),
  (144, ⟨.int .i32, false, 1, 4, some [.int .i32 0], []⟩),
  (145, ⟨.int .i32, false, 1, 4, some [.int .i32 0], []⟩),
  (146, ⟨.other, true, 11, 48, some [.int .u64 0, .int .u64 0, .int .u32 0, .int .u8 0, .int .u8 0, .int .u8 0, .int .u8 0, .nilFunc, .pointer none, .int .i32 0, .int .i32 0], [(0, 12, 1, false), (1, 12, 1, false), (2, 34, 1, false), (3, 140, 1, false), (4, 5, 1, false), (5, 5, 1, false), (6, 141, 1, false), (7, 142, 1, false), (8, 143, 1, false), (9, 144, 1, false), (10, 145, 1, false)]⟩),
  (147, ⟨.other, true, 11, 48, some [.int .u64 0, .int .u64 0, .int .u32 0, .int .u8 0, .int .u8 0, .int .u8 0, .int .u8 0, .nilFunc, .pointer none, .int .i32 0, .int .i32 0], [(0, 12, 1, false), (1, 12, 1, false), (2, 34, 1, false), (3, 140, 1, false), (4, 5, 1, false), (5, 5, 1, false), (6, 141, 1, false), (7, 142, 1, false), (8, 143, 1, false), (9, 144, 1, false), (10, 145, 1, false)]⟩)]
theorem eOk : TOk Try.prog env := TOk.of (by kernel_rfl)
theorem fOk : FOk Try.prog env := FOk.of (by kernel_rfl)
theorem fo3 : FnOk Try.prog 3 := ⟨_, Try.func3, by kernel_rfl⟩
theorem fo4 : FnOk Try.prog 4 := ⟨_, Try.func4, by kernel_rfl⟩
theorem fo5 : FnOk Try.prog 5 := ⟨_, Try.func5, by kernel_rfl⟩
theorem fo6 : FnOk Try.prog 6 := ⟨_, Try.func6, by kernel_rfl⟩
theorem fo7 : FnOk Try.prog 7 := ⟨_, Try.func7, by kernel_rfl⟩
theorem fo8 : FnOk Try.prog 8 := ⟨_, Try.func8, by kernel_rfl⟩
theorem fo9 : FnOk Try.prog 9 := ⟨_, Try.func9, by kernel_rfl⟩
theorem fo10 : FnOk Try.prog 10 := ⟨_, Try.func10, by kernel_rfl⟩
theorem fo11 : FnOk Try.prog 11 := ⟨_, Try.func11, by kernel_rfl⟩
theorem fo12 : FnOk Try.prog 12 := ⟨_, Try.func12, by kernel_rfl⟩
theorem fo13 : FnOk Try.prog 13 := ⟨_, Try.func13, by kernel_rfl⟩
theorem fo14 : FnOk Try.prog 14 := ⟨_, Try.func14, by kernel_rfl⟩
theorem fo15 : FnOk Try.prog 15 := ⟨_, Try.func15, by kernel_rfl⟩
theorem fo16 : FnOk Try.prog 16 := ⟨_, Try.func16, by kernel_rfl⟩
theorem fo17 : FnOk Try.prog 17 := ⟨_, Try.func17, by kernel_rfl⟩
theorem fo18 : FnOk Try.prog 18 := ⟨_, Try.func18, by kernel_rfl⟩
theorem fo19 : FnOk Try.prog 19 := ⟨_, Try.func19, by kernel_rfl⟩
theorem fo20 : FnOk Try.prog 20 := ⟨_, Try.func20, by kernel_rfl⟩
theorem fo21 : FnOk Try.prog 21 := ⟨_, Try.func21, by kernel_rfl⟩
theorem fo22 : FnOk Try.prog 22 := ⟨_, Try.func22, by kernel_rfl⟩
theorem fo23 : FnOk Try.prog 23 := ⟨_, Try.func23, by kernel_rfl⟩
theorem fo24 : FnOk Try.prog 24 := ⟨_, Try.func24, by kernel_rfl⟩
theorem fo25 : FnOk Try.prog 25 := ⟨_, Try.func25, by kernel_rfl⟩
theorem fo26 : FnOk Try.prog 26 := ⟨_, Try.func26, by kernel_rfl⟩
theorem fo27 : FnOk Try.prog 27 := ⟨_, Try.func27, by kernel_rfl⟩
theorem fo28 : FnOk Try.prog 28 := ⟨_, Try.func28, by kernel_rfl⟩
theorem fo29 : FnOk Try.prog 29 := ⟨_, Try.func29, by kernel_rfl⟩
theorem fo30 : FnOk Try.prog 30 := ⟨_, Try.func30, by kernel_rfl⟩
theorem fo31 : FnOk Try.prog 31 := ⟨_, Try.func31, by kernel_rfl⟩
theorem fo32 : FnOk Try.prog 32 := ⟨_, Try.func32, by kernel_rfl⟩
theorem fo33 : FnOk Try.prog 33 := ⟨_, Try.func33, by kernel_rfl⟩
theorem fo34 : FnOk Try.prog 34 := ⟨_, Try.func34, by kernel_rfl⟩
theorem fo35 : FnOk Try.prog 35 := ⟨_, Try.func35, by kernel_rfl⟩
theorem fo36 : FnOk Try.prog 36 := ⟨_, Try.func36, by kernel_rfl⟩
theorem fo37 : FnOk Try.prog 37 := ⟨_, Try.func37, by kernel_rfl⟩
theorem fo38 : FnOk Try.prog 38 := ⟨_, Try.func38, by kernel_rfl⟩
theorem fo39 : FnOk Try.prog 39 := ⟨_, Try.func39, by kernel_rfl⟩
theorem fo40 : FnOk Try.prog 40 := ⟨_, Try.func40, by kernel_rfl⟩
theorem fo41 : FnOk Try.prog 41 := ⟨_, Try.func41, by kernel_rfl⟩
theorem fo42 : FnOk Try.prog 42 := ⟨_, Try.func42, by kernel_rfl⟩
theorem fo43 : FnOk Try.prog 43 := ⟨_, Try.func43, by kernel_rfl⟩
theorem fo44 : FnOk Try.prog 44 := ⟨_, Try.func44, by kernel_rfl⟩
theorem fo45 : FnOk Try.prog 45 := ⟨_, Try.func45, by kernel_rfl⟩
theorem fo46 : FnOk Try.prog 46 := ⟨_, Try.func46, by kernel_rfl⟩
theorem fo47 : FnOk Try.prog 47 := ⟨_, Try.func47, by kernel_rfl⟩
theorem fo48 : FnOk Try.prog 48 := ⟨_, Try.func48, by kernel_rfl⟩
theorem fo49 : FnOk Try.prog 49 := ⟨_, Try.func49, by kernel_rfl⟩
theorem fo50 : FnOk Try.prog 50 := ⟨_, Try.func50, by kernel_rfl⟩
theorem fo51 : FnOk Try.prog 51 := ⟨_, Try.func51, by kernel_rfl⟩
theorem fo52 : FnOk Try.prog 52 := ⟨_, Try.func52, by kernel_rfl⟩
theorem fo53 : FnOk Try.prog 53 := ⟨_, Try.func53, by kernel_rfl⟩
theorem fo54 : FnOk Try.prog 54 := ⟨_, Try.func54, by kernel_rfl⟩
theorem fo55 : FnOk Try.prog 55 := ⟨_, Try.func55, by kernel_rfl⟩
theorem fo56 : FnOk Try.prog 56 := ⟨_, Try.func56, by kernel_rfl⟩
theorem fo57 : FnOk Try.prog 57 := ⟨_, Try.func57, by kernel_rfl⟩
theorem fo58 : FnOk Try.prog 58 := ⟨_, Try.func58, by kernel_rfl⟩
theorem fo59 : FnOk Try.prog 59 := ⟨_, Try.func59, by kernel_rfl⟩
theorem fo60 : FnOk Try.prog 60 := ⟨_, Try.func60, by kernel_rfl⟩
theorem fo61 : FnOk Try.prog 61 := ⟨_, Try.func61, by kernel_rfl⟩
theorem fo62 : FnOk Try.prog 62 := ⟨_, Try.func62, by kernel_rfl⟩
theorem fo63 : FnOk Try.prog 63 := ⟨_, Try.func63, by kernel_rfl⟩
theorem fo64 : FnOk Try.prog 64 := ⟨_, Try.func64, by kernel_rfl⟩
theorem fo65 : FnOk Try.prog 65 := ⟨_, Try.func65, by kernel_rfl⟩
theorem fo66 : FnOk Try.prog 66 := ⟨_, Try.func66, by kernel_rfl⟩
theorem fo67 : FnOk Try.prog 67 := ⟨_, Try.func67, by kernel_rfl⟩
theorem fo68 : FnOk Try.prog 68 := ⟨_, Try.func68, by kernel_rfl⟩
theorem fo69 : FnOk Try.prog 69 := ⟨_, Try.func69, by kernel_rfl⟩
theorem fo70 : FnOk Try.prog 70 := ⟨_, Try.func70, by kernel_rfl⟩
theorem fo71 : FnOk Try.prog 71 := ⟨_, Try.func71, by kernel_rfl⟩
theorem fo72 : FnOk Try.prog 72 := ⟨_, Try.func72, by kernel_rfl⟩
theorem fo73 : FnOk Try.prog 73 := ⟨_, Try.func73, by kernel_rfl⟩
theorem fo74 : FnOk Try.prog 74 := ⟨_, Try.func74, by kernel_rfl⟩
theorem fo75 : FnOk Try.prog 75 := ⟨_, Try.func75, by kernel_rfl⟩
theorem fo76 : FnOk Try.prog 76 := ⟨_, Try.func76, by kernel_rfl⟩
theorem fo77 : FnOk Try.prog 77 := ⟨_, Try.func77, by kernel_rfl⟩
theorem fo78 : FnOk Try.prog 78 := ⟨_, Try.func78, by kernel_rfl⟩
theorem fo79 : FnOk Try.prog 79 := ⟨_, Try.func79, by kernel_rfl⟩
theorem fo80 : FnOk Try.prog 80 := ⟨_, Try.func80, by kernel_rfl⟩
theorem fo81 : FnOk Try.prog 81 := ⟨_, Try.func81, by kernel_rfl⟩
theorem fo82 : FnOk Try.prog 82 := ⟨_, Try.func82, by kernel_rfl⟩
theorem fo83 : FnOk Try.prog 83 := ⟨_, Try.func83, by kernel_rfl⟩
theorem fo84 : FnOk Try.prog 84 := ⟨_, Try.func84, by kernel_rfl⟩
theorem fo85 : FnOk Try.prog 85 := ⟨_, Try.func85, by kernel_rfl⟩
theorem fo86 : FnOk Try.prog 86 := ⟨_, Try.func86, by kernel_rfl⟩
theorem fo87 : FnOk Try.prog 87 := ⟨_, Try.func87, by kernel_rfl⟩
theorem fo88 : FnOk Try.prog 88 := ⟨_, Try.func88, by kernel_rfl⟩
theorem fo89 : FnOk Try.prog 89 := ⟨_, Try.func89, by kernel_rfl⟩
theorem fo90 : FnOk Try.prog 90 := ⟨_, Try.func90, by kernel_rfl⟩
theorem fo91 : FnOk Try.prog 91 := ⟨_, Try.func91, by kernel_rfl⟩
theorem fo92 : FnOk Try.prog 92 := ⟨_, Try.func92, by kernel_rfl⟩
theorem fo93 : FnOk Try.prog 93 := ⟨_, Try.func93, by kernel_rfl⟩
theorem fo94 : FnOk Try.prog 94 := ⟨_, Try.func94, by kernel_rfl⟩
theorem fo95 : FnOk Try.prog 95 := ⟨_, Try.func95, by kernel_rfl⟩
theorem fo96 : FnOk Try.prog 96 := ⟨_, Try.func96, by kernel_rfl⟩
theorem fo97 : FnOk Try.prog 97 := ⟨_, Try.func97, by kernel_rfl⟩
theorem fo98 : FnOk Try.prog 98 := ⟨_, Try.func98, by kernel_rfl⟩
theorem fo99 : FnOk Try.prog 99 := ⟨_, Try.func99, by kernel_rfl⟩
theorem fo100 : FnOk Try.prog 100 := ⟨_, Try.func100, by kernel_rfl⟩
theorem fo101 : FnOk Try.prog 101 := ⟨_, Try.func101, by kernel_rfl⟩
end Go.Proofs.Ytmenbognkdeipaa
