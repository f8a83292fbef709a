/- What the document's Put and Num do; texts; the simplest facts. Conditions: on sizes. -/
import Derived.Test.YtgblimlnkefllaaLCode2
set_option maxRecDepth 100000
set_option maxHeartbeats 4000000
set_option linter.unusedSimpArgs false
set_option linter.unusedVariables false
namespace Go.Proofs.Ytgblimlnkefllaa
open Go Go.Lx
open Go.Sx (vcIf)

theorem rput_spec (xs : List PV) (m x : Nat) (hm : xs.length = m) (hx : x < 9223372036854775808) (hs : m + 10 ≤ 140737488355328) :
    FnL Try.prog 53 [.vw 0 1 0 m none, .p (.int .i64 (x : Int))] [.arr 5 1 xs] fun z own => ∃ m' ys, m' = m + (enc x).length ∧ ys = xs ++ bP (enc x) ∧ z = .vw 0 1 0 m' none ∧ own = [.arr 5 1 ys] := by
  refine fn_of_vc eOk fOk fo53 Try.func53 rfl rfl rfl fun B hB => ?_
  intro add sub mul quo rem band bor bxor bclr shl shr ieq ilt ile seq slt beq bnot orb bcond iwrap iof ssz hA cat sq sl imin imax smin smax len slen u8 hL op hop call hcall code hcode ret hret
  cbv
  refine hcode _ _ _ (CodeEv.loop eOk fOk (ι := Nat × Nat × List PV) (fun i => [(0, .vw 0 1 0 i.1 none), (1, .p (.int .i64 (Int.ofNat i.2.1)))]) (fun i => [.arr 5 1 i.2.2])
    (fun i => ∃ pre, enc x = pre ++ enc i.2.1 ∧ i.1 = m + pre.length ∧ i.2.2 = xs ++ bP pre ∧ i.2.1 < 9223372036854775808 ∧ pre.length + (enc i.2.1).length ≤ 10) (fun i => i.2.1) (m, x, xs) ?_ ?_)
  · exact ⟨⟨rfl, rfl, trivial⟩, rfl, [], rfl, rfl, by simp [bP], hx, by have := enc_len9 hx; simp; omega⟩
  rintro ⟨n, y, ys⟩ ⟨pre, h1, h2, h3, h4, h5⟩ rd hrd
  simp only at h1 h2 h3 h4 h5
  have hyl : ys.length = n := by rw [h3, h2]; simp [bP_length, hm]
  have hpos := enc_pos y
  intro add1 sub1 mul1 quo1 rem1 band1 bor1 bxor1 bclr1 shl1 shr1 ieq1 ilt1 ile1 seq1 slt1 beq1 bnot1 orb1 bcond1 iwrap1 iof1 ssz1 hA1 cat1 sq1 sl1 imin1 imax1 smin1 smax1 len1 slen1 u81 hL1 op1 hop1 call1 hcall1 code1 hcode1
  cbv
  by_cases hy : y < 128
  · refine vcIf.no (by rw [hA1.lt]; simp; omega) ?_
    cbv
    refine ⟨false, ?_⟩
    cbv
    refine .inl ⟨(), rfl, hyl.symm, Wf.one (PV.wf1 rfl), ?_, ?_, ?_⟩
    · show n + 1 ≤ maxLen
      unfold maxLen; omega
    · show (n + 1) * 1 ≤ _
      omega
    intro zs n' hz hn'
    simp only [Sq.get] at hz hn'
    cbv
    refine hret _ (RetEv.ret eOk rfl ⟨n', zs, ?_, ?_, rfl, rfl⟩)
    · rw [hn', h1, enc_lo hy, h2]; simp; omega
    · rw [hz, h1, enc_lo hy, h3, hA.wrap, wrap_u8, bP_append]
      simp [bP]
  · refine vcIf.yes (by rw [hA1.lt]; simp; omega) ?_
    have hpos2 := enc_pos (y / 128)
    rw [enc_hi hy] at h1 h5
    simp only [List.length_cons] at h5
    cbv
    refine ⟨false, ?_⟩
    cbv
    refine .inl ⟨(), rfl, hyl.symm, Wf.one (PV.wf1 rfl), ?_, ?_, ?_⟩
    · show n + 1 ≤ maxLen
      unfold maxLen; omega
    · show (n + 1) * 1 ≤ _
      omega
    intro zs n' hz hn'
    simp only [Sq.get] at hz hn'
    cbv
    have hrem : add1 .i64 128 (rem1 (Int.ofNat y) (Int.ofNat 128)) = ((y % 128 + 128 : Nat) : Int) := by
      rw [hA1.rem, hA1.add, show (Int.ofNat y).tmod (Int.ofNat 128) = ((y % 128 : Nat) : Int) from rfl]
      rw [show (128 : Int) + ((y % 128 : Nat) : Int) = ((y % 128 + 128 : Nat) : Int) by omega]
      exact IntWalk.i64_in _ (by omega)
    refine hrd _ ⟨(n', y / 128, zs), [], ?_, ⟨pre ++ [UInt8.ofNat (y % 128 + 128)], ?_, ?_, ?_, ?_, ?_⟩, rfl, ⟨rfl, ?_, trivial⟩, rfl, rfl, rfl, ?_⟩
    · simp only; omega
    · simp only [h1]; simp
    · rw [hn', h2]; simp; omega
    · rw [hz, h3, hrem, hA1.wrap, bP_append]
      rw [show ((y % 128 + 128 : Nat) : Int) = Int.ofNat (y % 128 + 128) from rfl, wrap_u8]
      simp [bP]
    · simp only; omega
    · simp; omega
    · show some (V.p (.int .i64 (quo1 .i64 (Int.ofNat y) 128))) = some (V.p (.int .i64 ((y / 128 : Nat) : Int)))
      rw [hA1.quo, show (Int.ofNat y).tdiv 128 = ((y / 128 : Nat) : Int) from rfl, IntWalk.i64_in _ (by omega)]
    · rw [hB]; exact Nat.le_refl _

theorem rnum_spec (l : List UInt8) : FnL Try.prog 48 [.p (.sl (bP l))] [] (numR (dec 0 0 l)) := by
  obtain ⟨xs, hxs⟩ : ∃ xs, xs = bP l := ⟨_, rfl⟩
  have hxl : xs.length = l.length := by rw [hxs, bP_length]
  rw [← hxs]
  refine fn_of_vc eOk fOk fo48 Try.func48 rfl rfl rfl fun B hB => ?_
  intro add sub mul quo rem band bor bxor bclr shl shr ieq ilt ile seq slt beq bnot orb bcond iwrap iof ssz hA cat sq sl imin imax smin smax len slen u8 hL op hop call hcall code hcode ret hret
  cbv
  refine hcode _ _ _ (CodeEv.loop eOk fOk (ι := Nat × Nat × Int) (fun i => [(0, .p (.sl xs)), (5, .p (.int .i64 (Int.ofNat i.2.1))), (6, .p (.int .i64 i.2.2)), (7, .p (.int .i64 (Int.ofNat i.1)))])
    (fun i => []) (fun i => i.1 ≤ l.length ∧ i.1 ≤ 9 ∧ i.2.1 < 128 ^ i.1 ∧ (i.1 < 9 → i.2.2 = ((128 ^ i.1 : Nat) : Int)) ∧ dec 0 0 l = dec i.1 i.2.1 (l.drop i.1)) (fun i => l.length - i.1) (0, 0, 1) ?_ ?_)
  · exact ⟨⟨rfl, rfl, rfl, rfl, trivial⟩, rfl, Nat.zero_le _, by simp, by simp, by simp, rfl⟩
  rintro ⟨k, acc, t⟩ ⟨h1, h2, h3, ht, h4⟩ rd hrd
  simp only at h1 h2 h3 h4 ht
  intro add1 sub1 mul1 quo1 rem1 band1 bor1 bxor1 bclr1 shl1 shr1 ieq1 ilt1 ile1 seq1 slt1 beq1 bnot1 orb1 bcond1 iwrap1 iof1 ssz1 hA1 cat1 sq1 sl1 imin1 imax1 smin1 smax1 len1 slen1 u81 hL1 op1 hop1 call1 hcall1 code1 hcode1
  have hlen : len xs = (l.length : Int) := by rw [hL.len, hxl]
  have hlen1 : len1 xs = (l.length : Int) := by rw [hL1.len, hxl]
  cbv
  by_cases hk : k < l.length
  · refine vcIf.yes (by rw [hA1.lt, hlen1]; exact decide_eq_true (Int.ofNat_lt.2 hk)) ?_
    obtain ⟨x, hx⟩ : ∃ x : Nat, (l[k]'(by omega)).toNat = x := ⟨_, rfl⟩
    have hxb : x < 256 := by rw [← hx]; exact UInt8.toNat_lt _
    have hget : xs[k]? = some (.int .u8 (Int.ofNat x)) := by
      rw [← hx, hxs]; exact bP_get (List.getElem?_eq_getElem hk)
    have hdrop : l.drop k = l[k]'(by omega) :: l.drop (k + 1) := List.drop_eq_getElem_cons (by omega)
    rw [hdrop, dec_cons, hx] at h4
    cbv
    by_cases h9 : k < 9
    · have ht := ht h9
      rw [if_neg (by omega)] at h4
      refine vcIf.yes (by rw [hA1.cond, hA1.lt]; simp only [cond_true, Int.ofNat_eq_natCast, decide_eq_true_eq]; omega) ?_
      have e1 : iwrap1 .i64 (rem1 (Int.ofNat x) (Int.ofNat 128)) = ((x % 128 : Nat) : Int) := by
        rw [hA1.wrap, hA1.rem]; exact i64_nat rfl (by omega)
      have hp := dec_step acc h9 h3 (show x % 128 < 128 by omega)
      have hp9 := pow_le9 (show k + 1 ≤ 9 by omega)
      have e2 : add1 .i64 (Int.ofNat acc) (mul1 .i64 (iwrap1 .i64 (rem1 (Int.ofNat x) (Int.ofNat 128))) t) = ((acc + x % 128 * 128 ^ k : Nat) : Int) := by
        rw [e1, hA1.mul, ht, i64_nat (n := x % 128 * 128 ^ k) (by simp) (by omega), hA1.add]
        exact i64_nat (by simp) (by omega)
      cbv
      refine ⟨k, _, rfl, hget, rfl, ?_⟩
      cbv
      refine ⟨k, _, rfl, hget, rfl, ?_⟩
      cbv
      by_cases hx8 : 128 ≤ x
      · rw [if_pos hx8] at h4
        refine vcIf.no (by rw [hA1.lt]; simp only [Int.ofNat_eq_natCast, decide_eq_false_iff_not]; omega) ?_
        cbv
        obtain ⟨t', ht'⟩ : ∃ t', t' = mul1 .i64 t 128 := ⟨_, rfl⟩
        refine hrd _ ⟨(k + 1, acc + (x - 128) * 128 ^ k, t'), [], ?_, ⟨?_, ?_, ?_, ?_, h4⟩, rfl, ⟨rfl, ?_, ?_, ?_, trivial⟩, rfl, rfl, rfl, ?_⟩
        · simp only; omega
        · simp only; omega
        · simp only; omega
        · simp only; rw [show x - 128 = x % 128 by omega]; exact hp
        · intro hk9
          simp only at hk9 ⊢
          have := pow_le9 (show k + 2 ≤ 9 by omega)
          have h8 : (128 : Nat) ^ (k + 2) = 128 ^ (k + 1) * 128 := Nat.pow_succ ..
          rw [ht', hA1.mul, ht]
          exact i64_nat (by rw [Nat.pow_succ]; simp) (by omega)
        · show some (V.p (.int .i64 (add1 .i64 (Int.ofNat acc) (mul1 .i64 (iwrap1 .i64 (rem1 (Int.ofNat x) (Int.ofNat 128))) t)))) = _
          rw [e2, show x % 128 = x - 128 by omega]; rfl
        · show some (V.p (.int .i64 (mul1 .i64 t 128))) = some (V.p (.int .i64 t'))
          rw [ht']
        · show some (V.p (.int .i64 (add1 .i64 (Int.ofNat k) 1))) = some (V.p (.int .i64 (Int.ofNat (k + 1))))
          rw [hA1.add, IntWalk.i64_in _ (by simp only [Int.ofNat_eq_natCast]; omega)]; rfl
        · rw [hB]; exact Nat.le_refl _
      · rw [if_neg hx8] at h4
        refine vcIf.yes (by rw [hA1.lt]; simp only [Int.ofNat_eq_natCast, decide_eq_true_eq]; omega) ?_
        have e5 : add1 .i64 (Int.ofNat k) 1 = ((k + 1 : Nat) : Int) := by
          rw [hA1.add]; exact i64_nat (by simp) (by omega)
        cbv
        refine ⟨k, _, rfl, hget, rfl, ?_⟩
        cbv
        rw [show x % 128 = x by omega] at e2
        have fin : (acc + x * 128 ^ k, k + 1, 0) = dec 0 0 l → numR (dec 0 0 l) (.p (.tup [.int .i64 (add1 .i64 (Int.ofNat acc) (mul1 .i64 (iwrap1 .i64 (rem1 (Int.ofNat x) (Int.ofNat 128))) t)), .int .i64 (add1 .i64 (Int.ofNat k) 1), .int .i64 0])) [] :=
          fun h => ⟨_, _, 0, h, by rw [e2, e5]; rfl, rfl⟩
        by_cases hx0 : x = 0
        · refine vcIf.yes (by rw [hA1.eq, hx0]; rfl) ?_
          cbv
          by_cases hk0 : 0 < k
          · rw [if_pos ⟨hx0, hk0⟩] at h4
            refine vcIf.yes (by rw [hA1.cond, hA1.lt]; simp only [cond_true, Int.ofNat_eq_natCast, decide_eq_true_eq]; omega) ?_
            cbv
            exact hret _ (RetEv.ret eOk rfl ⟨0, 0, 2, h4.symm, rfl, rfl⟩)
          · rw [if_neg (by omega)] at h4
            refine vcIf.no (by rw [hA1.cond, hA1.lt]; simp only [cond_true, Int.ofNat_eq_natCast, decide_eq_false_iff_not]; omega) ?_
            cbv
            exact hret _ (RetEv.ret eOk rfl (fin h4.symm))
        · rw [if_neg (by omega)] at h4
          refine vcIf.no (by rw [hA1.eq]; simp only [Int.ofNat_eq_natCast, beq_eq_false_iff_ne]; omega) ?_
          cbv
          exact hret _ (RetEv.ret eOk rfl (fin h4.symm))
    · refine vcIf.no (by rw [hA1.cond, hA1.lt]; simp only [cond_true, Int.ofNat_eq_natCast, decide_eq_false_iff_not]; omega) ?_
      rw [if_pos (by omega)] at h4
      cbv
      refine vcIf.yes (by rw [hA.le, hlen]; exact dle (show 9 ≤ l.length by omega)) ?_
      cbv
      exact hret _ (RetEv.ret eOk rfl ⟨0, 0, 2, h4.symm, rfl, rfl⟩)
  · refine vcIf.no (by rw [hA1.lt, hlen1]; exact dlt' hk) ?_
    have hke : k = l.length := by omega
    rw [hke, List.drop_length, dec_nil] at h4
    cbv
    by_cases h9 : 9 ≤ l.length
    · refine vcIf.yes (by rw [hA.le, hlen]; exact decide_eq_true (Int.ofNat_le.2 h9)) ?_
      cbv
      exact hret _ (RetEv.ret eOk rfl ⟨0, 0, 2, by rw [h4, if_pos h9], rfl, rfl⟩)
    · refine vcIf.no (by rw [hA.le, hlen]; exact decide_eq_false fun h => h9 (Int.ofNat_le.1 h)) ?_
      cbv
      exact hret _ (RetEv.ret eOk rfl ⟨0, 0, 3, by rw [h4, if_neg h9], rfl, rfl⟩)
end Go.Proofs.Ytgblimlnkefllaa
