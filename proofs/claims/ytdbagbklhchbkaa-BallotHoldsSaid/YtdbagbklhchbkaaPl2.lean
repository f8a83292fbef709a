/- Plain facts on numbers as bytes: what they begin with. No program. No conditions. -/
import Derived.Test.YtdbagbklhchbkaaSx12
set_option linter.unusedSimpArgs false
set_option linter.unusedVariables false
namespace Go.Sx
open Go
/-- What bytes begin with, behind i that made acc: the number, how many bytes, the error's number. -/
def dec (i acc : Nat) : List UInt8 → Nat × Nat × Nat
  | [] => (0, 0, if 9 ≤ i then 2 else 3)
  | x :: r => if i = 9 then (0, 0, 2) else if 128 ≤ x.toNat then dec (i + 1) (acc + (x.toNat - 128) * 128 ^ i) r else if x.toNat = 0 ∧ 0 < i then (0, 0, 2) else (acc + x.toNat * 128 ^ i, i + 1, 0)

theorem dec_nil (i acc : Nat) : dec i acc [] = (0, 0, if 9 ≤ i then 2 else 3) := rfl
theorem dec_cons (i acc : Nat) (x : UInt8) (r : List UInt8) : dec i acc (x :: r) = if i = 9 then (0, 0, 2) else if 128 ≤ x.toNat then dec (i + 1) (acc + (x.toNat - 128) * 128 ^ i) r else if x.toNat = 0 ∧ 0 < i then (0, 0, 2) else (acc + x.toNat * 128 ^ i, i + 1, 0) := rfl
theorem i64_nat {n : Nat} {z : Int} (h : z = (n : Int)) (hn : n < 9223372036854775808) : IntKind.i64.wrap z = (n : Int) := by
  subst h; exact IntWalk.i64_in _ (by omega)
theorem or_add (a b k : Nat) (h : a < 2 ^ k) : a ||| b * 2 ^ k = a + b * 2 ^ k := by
  rw [Nat.or_comm, Nat.mul_comm, ← Nat.two_pow_add_eq_or_of_lt h b, Nat.add_comm]
theorem bits_or (a b : Nat) (ha : a < 9223372036854775808) (hb : b < 9223372036854775808) : bits .or .i64 (a : Int) (b : Int) = ((a ||| b : Nat) : Int) := by
  have h1 : BitVec.ofInt 64 (a : Int) = BitVec.ofNat 64 a := BitVec.ofInt_natCast 64 a
  have h2 : BitVec.ofInt 64 (b : Int) = BitVec.ofNat 64 b := BitVec.ofInt_natCast 64 b
  have h3 : a ||| b < 2 ^ 63 := Nat.or_lt_two_pow (by simpa using ha) (by simpa using hb)
  show IntKind.i64.wrap (((BitVec.ofInt 64 (a : Int)) ||| (BitVec.ofInt 64 (b : Int))).toNat : Int) = _
  rw [h1, h2, BitVec.toNat_or, BitVec.toNat_ofNat, BitVec.toNat_ofNat, Nat.mod_eq_of_lt (by omega), Nat.mod_eq_of_lt (by omega)]
  exact IntWalk.i64_in _ (by omega)
theorem and127 : ∀ a, a < 256 → bits .and .u8 (a : Nat) 127 = ((a % 128 : Nat) : Int) := by decide +kernel
theorem pow128 (i : Nat) : 128 ^ i = 2 ^ (7 * i) := by rw [Nat.pow_mul]
theorem pow_le9 {i : Nat} (h : i ≤ 9) : 128 ^ i ≤ 9223372036854775808 := Nat.pow_le_pow_right (by omega) h
theorem dec_step {i x : Nat} (acc : Nat) (hi : i < 9) (ha : acc < 128 ^ i) (hx : x < 128) : acc + x * 128 ^ i < 128 ^ (i + 1) := by
  rw [Nat.pow_succ]
  have : x * 128 ^ i ≤ 127 * 128 ^ i := Nat.mul_le_mul_right _ (by omega)
  omega
theorem shl_val {x i : Nat} (hx : x < 128) (hi : i < 9) : IntKind.i64.wrap ((x : Int) * 2 ^ (min (7 * i) 64)) = ((x * 128 ^ i : Nat) : Int) := by
  have h1 : min (7 * i) 64 = 7 * i := by omega
  have h2 : x * 128 ^ i < 128 ^ (i + 1) := by have := dec_step 0 hi (Nat.pow_pos (by omega)) hx; simpa using this
  have h3 := pow_le9 (show i + 1 ≤ 9 by omega)
  rw [h1, pow128]
  have h4 : ((x : Int) * 2 ^ (7 * i)) = ((x * 2 ^ (7 * i) : Nat) : Int) := by simp
  rw [h4]
  rw [pow128] at h2
  exact IntWalk.i64_in _ (by omega)
theorem or_val {acc x i : Nat} (hi : i < 9) (ha : acc < 128 ^ i) (hx : x < 128) : bits .or .i64 (acc : Int) ((x * 128 ^ i : Nat) : Int) = ((acc + x * 128 ^ i : Nat) : Int) := by
  have h2 := dec_step acc hi ha hx
  have h3 := pow_le9 (show i + 1 ≤ 9 by omega)
  rw [bits_or acc (x * 128 ^ i) (by omega) (by omega), pow128, or_add _ _ _ (by rw [← pow128]; exact ha)]
/-- A shift to the left by what is not known. -/
theorem run_shl {P : Program} {t : TypeId} {x y : Operand} {k yk : IntKind} {a b : Int} (hb : 0 ≤ b) (w : World) :
    (do eqGuard .shl t x y (.int k a) (.int yk b); binOp .shl t (.int k a) (.int yk b) : Sem Value).run P w = .ok (.int k (k.wrap (a * 2 ^ (min b.toNat k.bits)))) w := by
  rw [Sem.run_bind, eqGuard_at_int]
  simp only [Sem.run_pure, Result.andThen_ok]
  have hn : ¬ b < 0 := by omega
  simp [binOp, Op.shift, hn]

theorem run_shl' {P : Program} {t : TypeId} {x y : Operand} {k yk : IntKind} {a b r : Int} {m : Nat} (hb : b = (m : Int)) (hr : k.wrap (a * 2 ^ (min m k.bits)) = r) (w : World) :
    (do eqGuard .shl t x y (.int k a) (.int yk b); binOp .shl t (.int k a) (.int yk b) : Sem Value).run P w = .ok (.int k r) w := by
  subst hb hr
  exact run_shl (by omega) w

theorem dec_lt : ∀ (l : List UInt8) (i acc : Nat), i ≤ 9 → acc < 128 ^ i → (dec i acc l).1 < 9223372036854775808
  | [], i, acc, _, _ => by simp [dec]
  | x :: r, i, acc, hi, ha => by
    unfold dec
    split
    · simp
    · split
      · exact dec_lt r (i + 1) _ (by omega) (dec_step acc (by omega) ha (by have := x.toNat_lt; omega))
      · split
        · simp
        · have h2 := dec_step acc (i := i) (x := x.toNat) (by omega) ha (by omega)
          have h3 := pow_le9 (show i + 1 ≤ 9 by omega)
          simp only; omega
theorem dec_used : ∀ (l : List UInt8) (i acc : Nat), (dec i acc l).2.2 = 0 → (dec i acc l).2.1 ≤ i + l.length ∧ i < (dec i acc l).2.1
  | [], i, acc, h => by simp [dec] at h; split at h <;> simp at h
  | x :: r, i, acc, h => by
    unfold dec at h ⊢
    split at h
    · simp at h
    · rename_i h9
      rw [if_neg h9]
      split at h
      · rename_i hx
        rw [if_pos hx]
        have := dec_used r (i + 1) _ h
        simp only [List.length_cons]; omega
      · rename_i hx
        rw [if_neg hx]
        split at h
        · simp at h
        · rename_i h0
          rw [if_neg h0]
          simp only [List.length_cons]; omega
theorem dec_err : ∀ (l : List UInt8) (i acc : Nat), (dec i acc l).2.2 ≠ 0 → (dec i acc l).1 = 0 ∧ (dec i acc l).2.1 = 0
  | [], i, acc, _ => by simp [dec]
  | x :: r, i, acc, h => by
    unfold dec at h ⊢
    split
    · simp
    · rename_i h9
      rw [if_neg h9] at h
      split
      · rename_i hx
        rw [if_pos hx] at h
        exact dec_err r _ _ h
      · rename_i hx
        rw [if_neg hx] at h
        split
        · simp
        · rename_i h0
          rw [if_neg h0] at h
          simp at h
end Go.Sx
