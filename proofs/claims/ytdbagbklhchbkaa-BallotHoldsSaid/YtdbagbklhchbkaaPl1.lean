/- Plain facts on bytes and numbers, for the walks: no program. No conditions. -/
import Derived.Test.YtdbagbklhchbkaaSx7
set_option linter.unusedSimpArgs false
set_option linter.unusedVariables false
namespace Go.Sx
open Go
def byteV (l : List UInt8) : List Value := l.map fun b => .int .u8 b.toNat
/-- A number's bytes. -/
def enc (x : Nat) : List UInt8 := if x < 128 then [UInt8.ofNat x] else UInt8.ofNat (x % 128 + 128) :: enc (x / 128)
theorem enc_len : ∀ (k x : Nat), x < 128 ^ (k + 1) → (enc x).length ≤ k + 1 := by
  intro k
  induction k with
  | zero => intro x hx; unfold enc; rw [if_pos (by simpa using hx)]; simp
  | succ k ih =>
    intro x hx
    unfold enc
    split
    · simp
    · have := ih (x / 128) (by rw [Nat.div_lt_iff_lt_mul (by omega)]; rwa [Nat.pow_succ] at hx)
      simp only [List.length_cons]; omega
theorem enc_lo {x : Nat} (h : x < 128) : enc x = [UInt8.ofNat x] := by rw [enc, if_pos h]
theorem enc_hi {x : Nat} (h : ¬ x < 128) : enc x = UInt8.ofNat (x % 128 + 128) :: enc (x / 128) := by rw [enc, if_neg h]
theorem enc_pos (x : Nat) : 1 ≤ (enc x).length := by unfold enc; split <;> simp
theorem enc_len9 {x : Nat} (h : x < 9223372036854775808) : (enc x).length ≤ 9 := enc_len 8 x (by omega)
theorem or128 : ∀ a, a < 256 → bits .or .u8 (a : Nat) 128 = ((a % 128 + 128 : Nat) : Int) := by decide +kernel
theorem wrap_u8 (y : Nat) : IntKind.u8.wrap (Int.ofNat y) = ((y % 256 : Nat) : Int) := by
  rw [IntKind.wrap_u8]; simp only [Int.ofNat_eq_natCast]; omega
theorem shr7 (y : Nat) : (Int.ofNat y).fdiv (2 ^ (min 7 IntKind.i64.bits)) = ((y / 128 : Nat) : Int) := by
  show (Int.ofNat y).fdiv 128 = _
  rw [Int.fdiv_eq_ediv_of_nonneg _ (by omega)]; rfl
theorem byteV_append (a b : List UInt8) : byteV (a ++ b) = byteV a ++ byteV b := List.map_append
theorem byteV_length (a : List UInt8) : (byteV a).length = a.length := List.length_map _
theorem byteV_flat (a : List UInt8) : (byteV a).flatMap (fun y => y.cells.toList) = byteV a := by
  induction a with
  | nil => rfl
  | cons x r ih => rw [show byteV (x :: r) = .int .u8 x.toNat :: byteV r from rfl, List.flatMap_cons, ih]; rfl
theorem byteV_size {a : List UInt8} : ∀ y ∈ byteV a, y.cells.toList.length = 1 := by
  intro y hy; obtain ⟨b, _, rfl⟩ := List.mem_map.1 hy; rfl
theorem byteV_one {a : List UInt8} : ∀ y ∈ byteV a, ∀ u ∈ y.cells.toList, u.oneCell' = true := by
  intro y hy u hu; obtain ⟨b, _, rfl⟩ := List.mem_map.1 hy; simp [Value.cells] at hu; subst hu; rfl
theorem byteV_get {a : List UInt8} {i : Nat} (h : i < a.length) : (byteV a)[i]? = some (.int .u8 (a[i].toNat : Nat)) := by
  simp [byteV, h]
theorem ofNat_toNat {n : Nat} (h : n < 256) : (UInt8.ofNat n).toNat = n := by simp; omega
end Go.Sx
