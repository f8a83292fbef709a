/- The types of seat a1 without slices of slices. Printed out of LEnv. No conditions. -/
import Derived.Test.YtdbagbklhchbkaaLEnv
namespace Go.Proofs.Ytdbagbklhchbkaa
open Go Go.Sx
def env2 : TEnv := [
  (2, ⟨.int .i64, false, 1, 8, some [.int .i64 0], []⟩),
  (3, ⟨.int .i64, false, 1, 8, some [.int .i64 0], []⟩),
  (4, ⟨.bool, false, 1, 1, some [.bool false], []⟩),
  (5, ⟨.int .u8, false, 1, 1, some [.int .u8 0], []⟩),
  (9, ⟨.str, false, 1, 16, some [.string ⟨#[]⟩], []⟩),
  (21, ⟨.int .i32, false, 1, 4, some [.int .i32 0], []⟩),
  (22, ⟨.other, true, 2, 16, some [.int .i64 0, .int .i64 0], [(0, 3, 1, false), (1, 3, 1, false)]⟩),
  (23, ⟨.other, true, 2, 16, some [.int .i64 0, .int .i64 0], [(0, 3, 1, false), (1, 3, 1, false)]⟩),
  (27, ⟨.slice 3, false, 1, 24, some [.slice none 0 0], []⟩),
  (28, ⟨.other, true, 4, 48, some [.int .i64 0, .int .i64 0, .int .i64 0, .slice none 0 0], [(0, 3, 1, false), (1, 3, 1, false), (2, 3, 1, false), (3, 27, 1, false)]⟩),
  (29, ⟨.other, true, 4, 48, some [.int .i64 0, .int .i64 0, .int .i64 0, .slice none 0 0], [(0, 3, 1, false), (1, 3, 1, false), (2, 3, 1, false), (3, 27, 1, false)]⟩),
  (30, ⟨.other, true, 8, 80, some [.int .i64 0, .int .i64 0, .int .i64 0, .int .i64 0, .int .i64 0, .int .i64 0, .int .i64 0, .slice none 0 0], [(0, 23, 2, true), (2, 23, 2, true), (4, 29, 4, true)]⟩),
  (31, ⟨.other, true, 8, 80, some [.int .i64 0, .int .i64 0, .int .i64 0, .int .i64 0, .int .i64 0, .int .i64 0, .int .i64 0, .slice none 0 0], [(0, 23, 2, true), (2, 23, 2, true), (4, 29, 4, true)]⟩),
  (37, ⟨.slice 31, false, 1, 24, some [.slice none 0 0], []⟩),
  (43, ⟨.slice 50, false, 1, 24, some [.slice none 0 0], []⟩),
  (45, ⟨.slice 29, false, 1, 24, some [.slice none 0 0], []⟩),
  (47, ⟨.slice 4, false, 1, 24, some [.slice none 0 0], []⟩),
  (49, ⟨.other, true, 3, 24, some [.int .i64 0, .int .i64 0, .int .i64 0], [(0, 3, 1, false), (1, 3, 1, false), (2, 3, 1, false)]⟩),
  (50, ⟨.other, true, 3, 24, some [.int .i64 0, .int .i64 0, .int .i64 0], [(0, 3, 1, false), (1, 3, 1, false), (2, 3, 1, false)]⟩),
  (52, ⟨.slice 5, false, 1, 24, some [.slice none 0 0], []⟩),
  (53, ⟨.int .i64, false, 1, 8, some [.int .i64 0], []⟩),
  (76, ⟨.ptr, false, 1, 8, some [.pointer none], []⟩),
  (81, ⟨.int .u64, false, 1, 8, some [.int .u64 0], []⟩),
  (82, ⟨.other, true, 2, 32, some [.slice none 0 0, .int .i64 0], [(0, 52, 1, false), (1, 53, 1, false)]⟩),
  (83, ⟨.other, true, 2, 32, some [.slice none 0 0, .int .i64 0], [(0, 52, 1, false), (1, 53, 1, false)]⟩),
  (86, ⟨.other, true, 4, 40, some [.pointer none, .pointer none, .pointer none, .string ⟨#[]⟩], [(0, 17, 1, false), (1, 17, 1, false), (2, 17, 1, false), (3, 9, 1, false)]⟩),
  (87, ⟨.other, true, 4, 40, some [.pointer none, .pointer none, .pointer none, .string ⟨#[]⟩], [(0, 17, 1, false), (1, 17, 1, false), (2, 17, 1, false), (3, 9, 1, false)]⟩),
  (89, ⟨.other, true, 0, 0, some [], [(0, 88, 0, true)]⟩),
  (90, ⟨.other, true, 0, 0, some [], [(0, 88, 0, true)]⟩),
  (91, ⟨.int .u32, false, 1, 4, some [.int .u32 0], []⟩),
  (92, ⟨.int .u8, false, 1, 1, some [.int .u8 0], []⟩),
  (93, ⟨.int .u8, false, 1, 1, some [.int .u8 0], []⟩),
  (95, ⟨.ptr, false, 1, 8, some [.pointer none], []⟩),
  (96, ⟨.int .i32, false, 1, 4, some [.int .i32 0], []⟩),
  (97, ⟨.int .i32, false, 1, 4, some [.int .i32 0], []⟩),
  (98, ⟨.other, true, 11, 48, some [.int .u64 0, .int .u64 0, .int .u32 0, .int .u8 0, .int .u8 0, .int .u8 0, .int .u8 0, .nilFunc, .pointer none, .int .i32 0, .int .i32 0], [(0, 12, 1, false), (1, 12, 1, false), (2, 91, 1, false), (3, 92, 1, false), (4, 5, 1, false), (5, 5, 1, false), (6, 93, 1, false), (7, 94, 1, false), (8, 95, 1, false), (9, 96, 1, false), (10, 97, 1, false)]⟩),
  (99, ⟨.other, true, 11, 48, some [.int .u64 0, .int .u64 0, .int .u32 0, .int .u8 0, .int .u8 0, .int .u8 0, .int .u8 0, .nilFunc, .pointer none, .int .i32 0, .int .i32 0], [(0, 12, 1, false), (1, 12, 1, false), (2, 91, 1, false), (3, 92, 1, false), (4, 5, 1, false), (5, 5, 1, false), (6, 93, 1, false), (7, 94, 1, false), (8, 95, 1, false), (9, 96, 1, false), (10, 97, 1, false)]⟩)]
theorem eOk2 : TOk Try.prog env2 := TOk.of (by kernel_rfl)
theorem fOk2 : FOk Try.prog env2 := FOk.of (by kernel_rfl)
end Go.Proofs.Ytdbagbklhchbkaa
