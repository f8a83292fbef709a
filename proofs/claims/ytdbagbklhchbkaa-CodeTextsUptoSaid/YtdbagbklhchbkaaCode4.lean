/- What the document's Num does. No conditions. -/
import Derived.Test.YtdbagbklhchbkaaCode3
set_option maxRecDepth 100000
set_option maxHeartbeats 4000000
set_option linter.unusedSimpArgs false
set_option linter.unusedVariables false
namespace Go.Proofs.Ytdbagbklhchbkaa
open Go Go.Sx

theorem rnum_spec {H : Hp} (hb : H.Bd) {a : Option Addr} {n c : Nat} {l : List UInt8} (S : Bs H a n c l) :
    FnV Try.prog 28 [.slice a n c] H (numR (dec 0 0 l)) := by
  have hlen := Bs.length S
  refine fn_of_vc eOk fOk Try.func28 rfl rfl rfl hb ?_
  intro add sub mul quo rem band bor bxor bclr shl shr ieq ilt ile seq slt beq bnot orb bcond iwrap iof ssz hA op hop code hcode ret hret
  cbv
  refine hcode _ _ _ (CodeEv.loop eOk fOk (ι := Nat × Nat × Int) (fun i => [(0, .v (.slice a n c)), (5, .v (.int .i64 (Int.ofNat i.2.1))), (6, .v (.int .i64 i.2.2)), (7, .v (.int .i64 (Int.ofNat i.1)))])
    (fun i => []) (fun i H' => H.Le H' ∧ i.1 ≤ n ∧ i.1 ≤ 9 ∧ i.2.1 < 128 ^ i.1 ∧ (i.1 < 9 → i.2.2 = ((128 ^ i.1 : Nat) : Int)) ∧ dec 0 0 l = dec i.1 i.2.1 (l.drop i.1)) (fun i => n - i.1) (0, 0, 1) ?_ ?_)
  · exact ⟨⟨rfl, rfl, rfl, rfl, trivial⟩, rfl, Hp.Le.refl _, Nat.zero_le _, by simp, by simp, by simp, rfl⟩
  rintro ⟨k, acc, t⟩ H1 ⟨hl1, h1, h2, h3, ht, h4⟩ rd hrd
  simp only at h1 h2 h3 h4 ht
  intro add1 sub1 mul1 quo1 rem1 band1 bor1 bxor1 bclr1 shl1 shr1 ieq1 ilt1 ile1 seq1 slt1 beq1 bnot1 orb1 bcond1 iwrap1 iof1 ssz1 hA1 op1 hop1 code1 hcode1
  cbv
  by_cases hk : k < n
  · refine vcIf.yes (by rw [hA1.lt, hA1.ofNat]; exact decide_eq_true (Int.ofNat_lt.2 hk)) ?_
    obtain ⟨x, hx⟩ : ∃ x : Nat, (l[k]'(by omega)).toNat = x := ⟨_, rfl⟩
    have hxb : x < 256 := by rw [← hx]; exact UInt8.toNat_lt _
    have hkl : k < l.length := by omega
    have hget : (byteV l)[(Int.ofNat k).toNat]? = some (.int .u8 (Int.ofNat x)) := by
      rw [← hx]; exact byteV_get hkl
    have hdrop : l.drop k = l[k]'(by omega) :: l.drop (k + 1) := List.drop_eq_getElem_cons (by omega)
    rw [hdrop, dec_cons, hx] at h4
    cbv
    by_cases h9 : k < 9
    · have ht := ht h9
      rw [if_neg (by omega)] at h4
      refine vcIf.yes (by rw [hA1.cond, hA1.lt]; simp only [cond_true, Int.ofNat_eq_natCast, decide_eq_true_eq]; omega) ?_
      have e1 : iwrap1 .i64 (rem1 (Int.ofNat x) (Int.ofNat 128)) = ((x % 128 : Nat) : Int) := by
        rw [hA1.wrap, hA1.rem]; exact i64_nat rfl (by omega)
      have hp := dec_step acc h9 h3 (show x % 128 < 128 by omega)
      have hp9 := pow_le9 (show k + 1 ≤ 9 by omega)
      have e2 : add1 .i64 (Int.ofNat acc) (mul1 .i64 (iwrap1 .i64 (rem1 (Int.ofNat x) (Int.ofNat 128))) t) = ((acc + x % 128 * 128 ^ k : Nat) : Int) := by
        rw [e1, hA1.mul, ht, i64_nat (n := x % 128 * 128 ^ k) (by simp) (by omega), hA1.add]
        exact i64_nat (by simp) (by omega)
      cbv
      refine hop1 _ _ _ (PEv.index eOk rfl rfl rfl rfl rfl rfl (S.mono hl1).sl S.len (Int.natCast_nonneg k) hget fun b off => ?_).op
      cbv
      refine hop1 _ _ _ (PEv.index eOk rfl rfl rfl rfl rfl rfl (S.mono hl1).sl S.len (Int.natCast_nonneg k) hget fun b off => ?_).op
      cbv
      by_cases hx8 : 128 ≤ x
      · rw [if_pos hx8] at h4
        refine vcIf.no (by rw [hA1.lt]; simp only [Int.ofNat_eq_natCast, decide_eq_false_iff_not]; omega) ?_
        cbv
        obtain ⟨t', ht'⟩ : ∃ t', t' = mul1 .i64 t 128 := ⟨_, rfl⟩
        refine hrd _ ⟨(k + 1, acc + (x - 128) * 128 ^ k, t'), ?_, rfl, ⟨rfl, ?_, ?_, ?_, trivial⟩, rfl, ?_, ?_, ?_, ?_, ?_, ?_⟩
        · simp only; omega
        · show some (V.v (.int .i64 (add1 .i64 (Int.ofNat acc) (mul1 .i64 (iwrap1 .i64 (rem1 (Int.ofNat x) (Int.ofNat 128))) t)))) = _
          rw [e2, show x % 128 = x - 128 by omega]; rfl
        · show some (V.v (.int .i64 (mul1 .i64 t 128))) = some (V.v (.int .i64 t'))
          rw [ht']
        · show some (V.v (.int .i64 (add1 .i64 (Int.ofNat k) 1))) = some (V.v (.int .i64 (Int.ofNat (k + 1))))
          rw [hA1.add, IntWalk.i64_in _ (by simp only [Int.ofNat_eq_natCast]; omega)]; rfl
        · exact hl1
        · simp only; omega
        · simp only; omega
        · simp only; rw [show x - 128 = x % 128 by omega]; exact hp
        · intro hk9
          simp only at hk9 ⊢
          have := pow_le9 (show k + 2 ≤ 9 by omega)
          have h8 : (128 : Nat) ^ (k + 2) = 128 ^ (k + 1) * 128 := Nat.pow_succ ..
          rw [ht', hA1.mul, ht]
          exact i64_nat (by rw [Nat.pow_succ]; simp) (by omega)
        · exact h4
      · rw [if_neg hx8] at h4
        refine vcIf.yes (by rw [hA1.lt]; simp only [Int.ofNat_eq_natCast, decide_eq_true_eq]; omega) ?_
        have e5 : add1 .i64 (Int.ofNat k) 1 = ((k + 1 : Nat) : Int) := by
          rw [hA1.add]; exact i64_nat (by simp) (by omega)
        cbv
        refine hop1 _ _ _ (PEv.index eOk rfl rfl rfl rfl rfl rfl (S.mono hl1).sl S.len (Int.natCast_nonneg k) hget fun b off => ?_).op
        cbv
        rw [show x % 128 = x by omega] at e2
        by_cases hx0 : x = 0
        · refine vcIf.yes (by rw [hA1.eq, hx0]; rfl) ?_
          cbv
          by_cases hk0 : 0 < k
          · rw [if_pos ⟨hx0, hk0⟩] at h4
            refine vcIf.yes (by rw [hA1.cond, hA1.lt]; simp only [cond_true, Int.ofNat_eq_natCast, decide_eq_true_eq]; omega) ?_
            cbv
            exact hret _ (RetEv.fn eOk rfl fun H' _ => ⟨0, 0, 2, h4.symm, rfl⟩)
          · rw [if_neg (by omega)] at h4
            refine vcIf.no (by rw [hA1.cond, hA1.lt]; simp only [cond_true, Int.ofNat_eq_natCast, decide_eq_false_iff_not]; omega) ?_
            cbv
            exact hret _ (RetEv.fn eOk rfl fun H' _ => ⟨_, _, 0, h4.symm, by
              show Value.tuple #[.int .i64 (add1 .i64 (Int.ofNat acc) (mul1 .i64 (iwrap1 .i64 (rem1 (Int.ofNat x) (Int.ofNat 128))) t)), .int .i64 (add1 .i64 (Int.ofNat k) 1), .int .i64 0] = _
              rw [e2, e5]; rfl⟩)
        · rw [if_neg (by omega)] at h4
          refine vcIf.no (by rw [hA1.eq]; simp only [Int.ofNat_eq_natCast, beq_eq_false_iff_ne]; omega) ?_
          cbv
          exact hret _ (RetEv.fn eOk rfl fun H' _ => ⟨_, _, 0, h4.symm, by
            show Value.tuple #[.int .i64 (add1 .i64 (Int.ofNat acc) (mul1 .i64 (iwrap1 .i64 (rem1 (Int.ofNat x) (Int.ofNat 128))) t)), .int .i64 (add1 .i64 (Int.ofNat k) 1), .int .i64 0] = _
            rw [e2, e5]; rfl⟩)
    · refine vcIf.no (by rw [hA1.cond, hA1.lt]; simp only [cond_true, Int.ofNat_eq_natCast, decide_eq_false_iff_not]; omega) ?_
      rw [if_pos (by omega)] at h4
      cbv
      refine vcIf.yes (by rw [hA.le, hA.ofNat]; simp only [decide_eq_true_eq]; omega) ?_
      cbv
      exact hret _ (RetEv.fn eOk rfl fun H' _ => ⟨0, 0, 2, h4.symm, rfl⟩)
  · refine vcIf.no (by rw [hA1.lt, hA1.ofNat]; exact decide_eq_false (by simp only [Int.ofNat_eq_natCast]; omega)) ?_
    have hke : k = n := by omega
    rw [hke, ← hlen, List.drop_length, dec_nil, hlen] at h4
    cbv
    by_cases h9 : 9 ≤ n
    · refine vcIf.yes (by rw [hA.le, hA.ofNat]; simp only [decide_eq_true_eq, decide_eq_false_iff_not]; omega) ?_
      cbv
      exact hret _ (RetEv.fn eOk rfl fun H' _ => ⟨0, 0, 2, by rw [h4, if_pos (by omega)], rfl⟩)
    · refine vcIf.no (by rw [hA.le, hA.ofNat]; simp only [decide_eq_true_eq, decide_eq_false_iff_not]; omega) ?_
      cbv
      exact hret _ (RetEv.fn eOk rfl fun H' _ => ⟨0, 0, 3, by rw [h4, if_neg (by omega)], rfl⟩)
end Go.Proofs.Ytdbagbklhchbkaa
