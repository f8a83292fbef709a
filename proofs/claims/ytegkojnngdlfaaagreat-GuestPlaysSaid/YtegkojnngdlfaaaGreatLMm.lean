/- LBc, LCode1, LCode2, LCode3, LCode4, LCode5, LWr, LRd, LCas1, LCas2, LFr1, LFr2, LFr3, LFr4, LFr5, LFr6, LFr7, LCode6, LFr8, LFr9 together. Conditions: on sizes. -/
import Derived.Test.YtegkojnngdlfaaaGreatLEnv
set_option maxRecDepth 100000
set_option maxHeartbeats 4000000
set_option linter.unusedSimpArgs false
set_option linter.unusedVariables false
section
namespace Go.Proofs.YtegkojnngdlfaaaGreat
open Go Go.Lx
open Go.Sx (vcIf)
end Go.Proofs.YtegkojnngdlfaaaGreat
end
section
namespace Go.Proofs.YtegkojnngdlfaaaGreat
open Go Go.Lx
open Go.Sx (vcIf)
theorem put_spec (xs : List PV) (m x : Nat) (hm : xs.length = m) (hx : x < 9223372036854775808) (hs : m + 10 ≤ 140737488355328) :
    FnL Tryz.prog 82 [.vw 0 1 0 m none, .p (.int .i64 (x : Int))] [.arr 5 1 xs] fun z own => ∃ m' ys, m' = m + (enc x).length ∧ ys = xs ++ bP (enc x) ∧ z = .vw 0 1 0 m' none ∧ own = [.arr 5 1 ys] := by
  refine fn_of_vc eOk fOk fo82 Tryz.func82 rfl rfl rfl fun B hB => ?_
  intro _ _ _ _ _ _ _ _ _ _ shr _ _ _ _ _ _ _ _ _ _ _ _ hA _ _ _ _ _ _ _ _ _ _ _ _ _ _ _ _ hcode ret hret
  cbv
  refine hcode _ _ _ (CodeEv.loop eOk fOk (ι := Nat × Nat × List PV) (fun i => [(0, .vw 0 1 0 i.1 none), (1, .p (.int .i64 (Int.ofNat i.2.1)))]) (fun i => [.arr 5 1 i.2.2])
    (fun i => ∃ pre, enc x = pre ++ enc i.2.1 ∧ i.1 = m + pre.length ∧ i.2.2 = xs ++ bP pre ∧ i.2.1 < 9223372036854775808 ∧ pre.length + (enc i.2.1).length ≤ 10) (fun i => i.2.1) (m, x, xs) ?_ ?_)
  · exact ⟨⟨rfl, rfl, trivial⟩, rfl, [], rfl, rfl, by simp [bP], hx, by have := enc_len9 hx; simp; omega⟩
  rintro ⟨n, y, ys⟩ ⟨pre, h1, h2, h3, h4, h5⟩ rd hrd
  simp only at h1 h2 h3 h4 h5
  have hyl : ys.length = n := by rw [h3, h2]; simp [bP_length, hm]
  have hpos := enc_pos y
  intro _ _ _ _ _ _ _ _ _ _ shr1 _ _ _ _ _ _ _ _ _ _ _ _ hA1 _ _ _ _ _ _ _ _ _ _ _ _ _ _ _ _ _
  cbv
  by_cases hy : y < 128
  · refine vcIf.no (by rw [hA1.le]; simp; omega) ?_
    cbv
    refine ⟨false, ?_⟩
    cbv
    refine .inl ⟨(), rfl, hyl.symm, Wf.one (PV.wf1 rfl), ?_, ?_, ?_⟩
    · show n + 1 ≤ maxLen
      unfold maxLen; omega
    · show (n + 1) * 1 ≤ _
      omega
    intro zs n' hz hn'
    simp only [Sq.get] at hz hn'
    cbv
    refine hret _ (RetEv.ret eOk rfl ⟨n', zs, ?_, ?_, rfl, rfl⟩)
    · rw [hn', h1, enc_lo hy, h2]; simp; omega
    · rw [hz, h1, enc_lo hy, h3, hA.wrap, wrap_u8, bP_append]
      simp [bP]
  · refine vcIf.yes (by rw [hA1.le]; simp; omega) ?_
    have hpos2 := enc_pos (y / 128)
    rw [enc_hi hy] at h1 h5
    simp only [List.length_cons] at h5
    cbv
    refine ⟨false, ?_⟩
    cbv
    refine .inl ⟨(), rfl, hyl.symm, Wf.one (PV.wf1 rfl), ?_, ?_, ?_⟩
    · show n + 1 ≤ maxLen
      unfold maxLen; omega
    · show (n + 1) * 1 ≤ _
      omega
    intro zs n' hz hn'
    simp only [Sq.get] at hz hn'
    cbv
    refine hrd _ ⟨(n', y / 128, zs), [], ?_, ⟨pre ++ [UInt8.ofNat (y % 128 + 128)], ?_, ?_, ?_, ?_, ?_⟩, rfl, ⟨rfl, ?_, trivial⟩, rfl, rfl, rfl, ?_⟩
    · simp only; omega
    · simp only [h1]; simp
    · rw [hn', h2]; simp; omega
    · rw [hz, h3, hA1.or, hA1.wrap, wrap_u8, bP_append, or128 (y % 256) (by omega)]
      simp [bP]; omega
    · simp only; omega
    · simp; omega
    · show some (V.p (.int .i64 (shr1 .i64 (Int.ofNat y) 7))) = some (V.p (.int .i64 ((y / 128 : Nat) : Int)))
      rw [hA1.shr, shr7]
    · rw [hB]; exact Nat.le_refl _
end Go.Proofs.YtegkojnngdlfaaaGreat
end
section
namespace Go.Proofs.YtegkojnngdlfaaaGreat
open Go Go.Lx
open Go.Sx (vcIf)
def numR (r : Nat × Nat × Nat) (z : V) (own : List Res) : Prop := ∃ x u e : Nat, (x, u, e) = r ∧ z = .p (.tup [.int .i64 x, .int .i64 u, .int .i64 e]) ∧ own = []
theorem num_spec (l : List UInt8) : FnL Tryz.prog 102 [.p (.sl (bP l))] [] (numR (dec 0 0 l)) := by
  obtain ⟨xs, hxs⟩ : ∃ xs, xs = bP l := ⟨_, rfl⟩
  have hxl : xs.length = l.length := by rw [hxs, bP_length]
  rw [← hxs]
  refine fn_of_vc eOk fOk fo102 Tryz.func102 rfl rfl rfl fun B hB => ?_
  intro add _ mul _ _ _ _ _ _ shl _ _ _ _ _ _ _ _ _ _ _ _ _ hA _ _ sl _ _ _ _ len _ u8 hL _ _ _ _ _ hcode ret hret
  cbv
  refine hcode _ _ _ (CodeEv.loop eOk fOk (ι := Nat × Nat) (fun i => [(0, .p (.sl xs)), (2, .p (.int .i64 (Int.ofNat i.2))), (7, .p (.sl xs)), (8, .p (.int .i64 (len xs))), (9, .p (.int .i64 (Int.ofNat i.1)))])
    (fun i => []) (fun i => i.1 ≤ l.length ∧ i.1 ≤ 9 ∧ i.2 < 128 ^ i.1 ∧ dec 0 0 l = dec i.1 i.2 (l.drop i.1)) (fun i => l.length - i.1) (0, 0) ?_ ?_)
  · exact ⟨⟨rfl, rfl, rfl, rfl, rfl, trivial⟩, rfl, Nat.zero_le _, by simp, by simp, rfl⟩
  rintro ⟨k, acc⟩ ⟨h1, h2, h3, h4⟩ rd hrd
  simp only at h1 h2 h3 h4
  intro add1 _ mul1 _ _ band1 bor1 _ _ shl1 _ _ _ _ _ _ _ _ _ _ iwrap1 _ _ hA1 _ _ _ _ _ _ _ _ _ _ _ _ _ _ _ _ _
  cbv
  have hlen : len xs = (l.length : Int) := by rw [hL.len, hxl]
  by_cases hk : k < l.length
  · refine vcIf.yes (by rw [hA1.lt, hlen]; exact decide_eq_true (Int.ofNat_lt.2 hk)) ?_
    obtain ⟨x, hx⟩ : ∃ x : Nat, (l[k]'(by omega)).toNat = x := ⟨_, rfl⟩
    have hxb : x < 256 := by rw [← hx]; exact UInt8.toNat_lt _
    have hget : xs[k]? = some (.int .u8 (Int.ofNat x)) := by
      rw [← hx, hxs]; exact bP_get (List.getElem?_eq_getElem hk)
    have hdrop : l.drop k = l[k]'(by omega) :: l.drop (k + 1) := List.drop_eq_getElem_cons (by omega)
    rw [hdrop, dec_cons, hx] at h4
    cbv
    refine ⟨k, _, rfl, hget, rfl, ?_⟩
    cbv
    by_cases h9 : k = 9
    · rw [if_pos h9] at h4
      refine vcIf.yes (by rw [hA1.eq, h9]; rfl) ?_
      cbv
      exact hret _ (RetEv.ret eOk rfl ⟨0, 0, 2, h4.symm, rfl, rfl⟩)
    · rw [if_neg h9] at h4
      refine vcIf.no (by rw [hA1.eq]; simp only [Int.ofNat_eq_natCast, beq_eq_false_iff_ne]; omega) ?_
      cbv
      have e1 : mul1 .i64 7 (Int.ofNat k) = ((7 * k : Nat) : Int) := by
        rw [hA1.mul]; exact i64_nat (by simp) (by omega)
      by_cases hx8 : 128 ≤ x
      · rw [if_pos hx8] at h4
        refine vcIf.yes (by rw [hA1.le]; simp only [Int.ofNat_eq_natCast, decide_eq_true_eq]; omega) ?_
        have e2 : iwrap1 .i64 (band1 .u8 (Int.ofNat x) 127) = ((x % 128 : Nat) : Int) := by
          rw [hA1.and, hA1.wrap]; exact i64_nat (and127 x hxb) (by omega)
        obtain ⟨m, hm⟩ : ∃ m, m = 7 * k := ⟨_, rfl⟩
        have e4 : shl1 .i64 (iwrap1 .i64 (band1 .u8 (Int.ofNat x) 127)) m = ((x % 128 * 128 ^ k : Nat) : Int) := by
          rw [hA1.shl, e2, hm]; exact shl_val (by omega) (by omega)
        cbv
        refine ⟨m, by rw [e1, hm], ?_⟩
        cbv
        refine hrd _ ⟨(k + 1, acc + (x - 128) * 128 ^ k), [], ?_, ⟨?_, ?_, ?_, ?_⟩, rfl, ⟨rfl, ?_, rfl, rfl, ?_, trivial⟩, rfl, rfl, rfl, ?_⟩
        · simp only; omega
        · simp only; omega
        · simp only; omega
        · exact dec_step acc (by omega) h3 (by omega)
        · exact h4
        · show some (V.p (.int .i64 (bor1 .i64 (Int.ofNat acc) (shl1 .i64 (iwrap1 .i64 (band1 .u8 (Int.ofNat x) 127)) m)))) = _
          rw [e4, hA1.or]
          simp only [Int.ofNat_eq_natCast]
          rw [or_val (by omega) h3 (by omega), show x % 128 = x - 128 by omega]
        · show some (V.p (.int .i64 (add1 .i64 (Int.ofNat k) 1))) = some (V.p (.int .i64 (Int.ofNat (k + 1))))
          rw [hA1.add, IntWalk.i64_in _ (by simp only [Int.ofNat_eq_natCast]; omega)]; rfl
        · rw [hB]; exact Nat.le_refl _
      · rw [if_neg hx8] at h4
        refine vcIf.no (by rw [hA1.le]; simp only [Int.ofNat_eq_natCast, decide_eq_false_iff_not]; omega) ?_
        obtain ⟨m, hm⟩ : ∃ m, m = 7 * k := ⟨_, rfl⟩
        have e2 : iwrap1 .i64 (Int.ofNat x) = ((x : Nat) : Int) := by
          rw [hA1.wrap]; exact i64_nat rfl (by omega)
        have e4 : bor1 .i64 (Int.ofNat acc) (shl1 .i64 (iwrap1 .i64 (Int.ofNat x)) m) = ((acc + x * 128 ^ k : Nat) : Int) := by
          rw [hA1.shl, e2, hm, show IntKind.i64.wrap (((x : Nat) : Int) * 2 ^ (min (7 * k) IntKind.i64.bits)) = _ from shl_val (by omega) (by omega), hA1.or]
          exact or_val (by omega) h3 (by omega)
        have e5 : add1 .i64 (Int.ofNat k) 1 = ((k + 1 : Nat) : Int) := by
          rw [hA1.add]; exact i64_nat (by simp) (by omega)
        have fin : (acc + x * 128 ^ k, k + 1, 0) = dec 0 0 l → numR (dec 0 0 l) (.p (.tup [.int .i64 (bor1 .i64 (Int.ofNat acc) (shl1 .i64 (iwrap1 .i64 (Int.ofNat x)) m)), .int .i64 (add1 .i64 (Int.ofNat k) 1), .int .i64 0])) [] :=
          fun h => ⟨_, _, 0, h, by rw [e4, e5]; rfl, rfl⟩
        cbv
        by_cases hx0 : x = 0
        · refine vcIf.yes (by rw [hA1.eq, hx0]; rfl) ?_
          cbv
          by_cases hk0 : 0 < k
          · rw [if_pos ⟨hx0, hk0⟩] at h4
            refine vcIf.yes (by rw [hA1.cond, hA1.lt]; simp only [Int.ofNat_eq_natCast, decide_eq_true_eq, cond_true]; omega) ?_
            cbv
            exact hret _ (RetEv.ret eOk rfl ⟨0, 0, 2, h4.symm, rfl, rfl⟩)
          · rw [if_neg (by omega)] at h4
            refine vcIf.no (by rw [hA1.cond, hA1.lt]; simp only [Int.ofNat_eq_natCast, decide_eq_false_iff_not, cond_true]; omega) ?_
            cbv
            refine ⟨m, by rw [e1, hm], ?_⟩
            cbv
            exact hret _ (RetEv.ret eOk rfl (fin h4.symm))
        · rw [if_neg (by omega)] at h4
          refine vcIf.no (by rw [hA1.eq]; simp only [Int.ofNat_eq_natCast, beq_eq_false_iff_ne]; omega) ?_
          cbv
          refine ⟨m, by rw [e1, hm], ?_⟩
          cbv
          exact hret _ (RetEv.ret eOk rfl (fin h4.symm))
  · refine vcIf.no (by rw [hA1.lt, hlen]; exact decide_eq_false (by simp only [Int.ofNat_eq_natCast]; omega)) ?_
    have hke : k = l.length := by omega
    rw [hke, List.drop_length, dec_nil] at h4
    cbv
    by_cases h9 : 9 ≤ l.length
    · refine vcIf.yes (by rw [hA.le, hlen]; exact decide_eq_true (Int.ofNat_le.2 h9)) ?_
      cbv
      exact hret _ (RetEv.ret eOk rfl ⟨0, 0, 2, by rw [h4, if_pos h9], rfl, rfl⟩)
    · refine vcIf.no (by rw [hA.le, hlen]; exact decide_eq_false fun h => h9 (Int.ofNat_le.1 h)) ?_
      cbv
      exact hret _ (RetEv.ret eOk rfl ⟨0, 0, 3, by rw [h4, if_neg h9], rfl, rfl⟩)
end Go.Proofs.YtegkojnngdlfaaaGreat
end
section
namespace Go.Proofs.YtegkojnngdlfaaaGreat
open Go Go.Lx
open Go.Sx (vcIf)
theorem rput_spec (xs : List PV) (m x : Nat) (hm : xs.length = m) (hx : x < 9223372036854775808) (hs : m + 10 ≤ 140737488355328) :
    FnL Tryz.prog 65 [.vw 0 1 0 m none, .p (.int .i64 (x : Int))] [.arr 5 1 xs] fun z own => ∃ m' ys, m' = m + (enc x).length ∧ ys = xs ++ bP (enc x) ∧ z = .vw 0 1 0 m' none ∧ own = [.arr 5 1 ys] := by
  refine fn_of_vc eOk fOk fo65 Tryz.func65 rfl rfl rfl fun B hB => ?_
  intro add _ _ quo rem _ _ _ _ _ _ _ _ _ _ _ _ _ _ _ _ _ _ hA _ _ _ _ _ _ _ _ _ _ _ _ _ _ _ _ hcode ret hret
  cbv
  refine hcode _ _ _ (CodeEv.loop eOk fOk (ι := Nat × Nat × List PV) (fun i => [(0, .vw 0 1 0 i.1 none), (1, .p (.int .i64 (Int.ofNat i.2.1)))]) (fun i => [.arr 5 1 i.2.2])
    (fun i => ∃ pre, enc x = pre ++ enc i.2.1 ∧ i.1 = m + pre.length ∧ i.2.2 = xs ++ bP pre ∧ i.2.1 < 9223372036854775808 ∧ pre.length + (enc i.2.1).length ≤ 10) (fun i => i.2.1) (m, x, xs) ?_ ?_)
  · exact ⟨⟨rfl, rfl, trivial⟩, rfl, [], rfl, rfl, by simp [bP], hx, by have := enc_len9 hx; simp; omega⟩
  rintro ⟨n, y, ys⟩ ⟨pre, h1, h2, h3, h4, h5⟩ rd hrd
  simp only at h1 h2 h3 h4 h5
  have hyl : ys.length = n := by rw [h3, h2]; simp [bP_length, hm]
  have hpos := enc_pos y
  intro add1 _ _ quo1 rem1 _ _ _ _ _ _ _ _ _ _ _ _ _ _ _ _ _ _ hA1 _ _ _ _ _ _ _ _ _ _ _ _ _ _ _ _ _
  cbv
  by_cases hy : y < 128
  · refine vcIf.no (by rw [hA1.lt]; simp; omega) ?_
    cbv
    refine ⟨false, ?_⟩
    cbv
    refine .inl ⟨(), rfl, hyl.symm, Wf.one (PV.wf1 rfl), ?_, ?_, ?_⟩
    · show n + 1 ≤ maxLen
      unfold maxLen; omega
    · show (n + 1) * 1 ≤ _
      omega
    intro zs n' hz hn'
    simp only [Sq.get] at hz hn'
    cbv
    refine hret _ (RetEv.ret eOk rfl ⟨n', zs, ?_, ?_, rfl, rfl⟩)
    · rw [hn', h1, enc_lo hy, h2]; simp; omega
    · rw [hz, h1, enc_lo hy, h3, hA.wrap, wrap_u8, bP_append]
      simp [bP]
  · refine vcIf.yes (by rw [hA1.lt]; simp; omega) ?_
    have hpos2 := enc_pos (y / 128)
    rw [enc_hi hy] at h1 h5
    simp only [List.length_cons] at h5
    cbv
    refine ⟨false, ?_⟩
    cbv
    refine .inl ⟨(), rfl, hyl.symm, Wf.one (PV.wf1 rfl), ?_, ?_, ?_⟩
    · show n + 1 ≤ maxLen
      unfold maxLen; omega
    · show (n + 1) * 1 ≤ _
      omega
    intro zs n' hz hn'
    simp only [Sq.get] at hz hn'
    cbv
    have hrem : add1 .i64 128 (rem1 (Int.ofNat y) (Int.ofNat 128)) = ((y % 128 + 128 : Nat) : Int) := by
      rw [hA1.rem, hA1.add, show (Int.ofNat y).tmod (Int.ofNat 128) = ((y % 128 : Nat) : Int) from rfl]
      rw [show (128 : Int) + ((y % 128 : Nat) : Int) = ((y % 128 + 128 : Nat) : Int) by omega]
      exact IntWalk.i64_in _ (by omega)
    refine hrd _ ⟨(n', y / 128, zs), [], ?_, ⟨pre ++ [UInt8.ofNat (y % 128 + 128)], ?_, ?_, ?_, ?_, ?_⟩, rfl, ⟨rfl, ?_, trivial⟩, rfl, rfl, rfl, ?_⟩
    · simp only; omega
    · simp only [h1]; simp
    · rw [hn', h2]; simp; omega
    · rw [hz, h3, hrem, hA1.wrap, bP_append]
      rw [show ((y % 128 + 128 : Nat) : Int) = Int.ofNat (y % 128 + 128) from rfl, wrap_u8]
      simp [bP]
    · simp only; omega
    · simp; omega
    · show some (V.p (.int .i64 (quo1 .i64 (Int.ofNat y) 128))) = some (V.p (.int .i64 ((y / 128 : Nat) : Int)))
      rw [hA1.quo, show (Int.ofNat y).tdiv 128 = ((y / 128 : Nat) : Int) from rfl, IntWalk.i64_in _ (by omega)]
    · rw [hB]; exact Nat.le_refl _
theorem rnum_spec (l : List UInt8) : FnL Tryz.prog 103 [.p (.sl (bP l))] [] (numR (dec 0 0 l)) := by
  obtain ⟨xs, hxs⟩ : ∃ xs, xs = bP l := ⟨_, rfl⟩
  have hxl : xs.length = l.length := by rw [hxs, bP_length]
  rw [← hxs]
  refine fn_of_vc eOk fOk fo103 Tryz.func103 rfl rfl rfl fun B hB => ?_
  intro add _ mul _ rem _ _ _ _ _ _ _ _ _ _ _ _ _ _ _ _ _ _ hA _ _ sl _ _ _ _ len _ u8 hL _ _ _ _ _ hcode ret hret
  cbv
  refine hcode _ _ _ (CodeEv.loop eOk fOk (ι := Nat × Nat × Int) (fun i => [(0, .p (.sl xs)), (5, .p (.int .i64 (Int.ofNat i.2.1))), (6, .p (.int .i64 i.2.2)), (7, .p (.int .i64 (Int.ofNat i.1)))])
    (fun i => []) (fun i => i.1 ≤ l.length ∧ i.1 ≤ 9 ∧ i.2.1 < 128 ^ i.1 ∧ (i.1 < 9 → i.2.2 = ((128 ^ i.1 : Nat) : Int)) ∧ dec 0 0 l = dec i.1 i.2.1 (l.drop i.1)) (fun i => l.length - i.1) (0, 0, 1) ?_ ?_)
  · exact ⟨⟨rfl, rfl, rfl, rfl, trivial⟩, rfl, Nat.zero_le _, by simp, by simp, by simp, rfl⟩
  rintro ⟨k, acc, t⟩ ⟨h1, h2, h3, ht, h4⟩ rd hrd
  simp only at h1 h2 h3 h4 ht
  intro add1 _ mul1 _ rem1 _ _ _ _ _ _ _ _ _ _ _ _ _ _ _ iwrap1 _ _ hA1 _ _ _ _ _ _ _ len1 _ _ hL1 _ _ _ _ _ _
  have hlen : len xs = (l.length : Int) := by rw [hL.len, hxl]
  have hlen1 : len1 xs = (l.length : Int) := by rw [hL1.len, hxl]
  cbv
  by_cases hk : k < l.length
  · refine vcIf.yes (by rw [hA1.lt, hlen1]; exact decide_eq_true (Int.ofNat_lt.2 hk)) ?_
    obtain ⟨x, hx⟩ : ∃ x : Nat, (l[k]'(by omega)).toNat = x := ⟨_, rfl⟩
    have hxb : x < 256 := by rw [← hx]; exact UInt8.toNat_lt _
    have hget : xs[k]? = some (.int .u8 (Int.ofNat x)) := by
      rw [← hx, hxs]; exact bP_get (List.getElem?_eq_getElem hk)
    have hdrop : l.drop k = l[k]'(by omega) :: l.drop (k + 1) := List.drop_eq_getElem_cons (by omega)
    rw [hdrop, dec_cons, hx] at h4
    cbv
    by_cases h9 : k < 9
    · have ht := ht h9
      rw [if_neg (by omega)] at h4
      refine vcIf.yes (by rw [hA1.cond, hA1.lt]; simp only [cond_true, Int.ofNat_eq_natCast, decide_eq_true_eq]; omega) ?_
      have e1 : iwrap1 .i64 (rem1 (Int.ofNat x) (Int.ofNat 128)) = ((x % 128 : Nat) : Int) := by
        rw [hA1.wrap, hA1.rem]; exact i64_nat rfl (by omega)
      have hp := dec_step acc h9 h3 (show x % 128 < 128 by omega)
      have hp9 := pow_le9 (show k + 1 ≤ 9 by omega)
      have e2 : add1 .i64 (Int.ofNat acc) (mul1 .i64 (iwrap1 .i64 (rem1 (Int.ofNat x) (Int.ofNat 128))) t) = ((acc + x % 128 * 128 ^ k : Nat) : Int) := by
        rw [e1, hA1.mul, ht, i64_nat (n := x % 128 * 128 ^ k) (by simp) (by omega), hA1.add]
        exact i64_nat (by simp) (by omega)
      cbv
      refine ⟨k, _, rfl, hget, rfl, ?_⟩
      cbv
      refine ⟨k, _, rfl, hget, rfl, ?_⟩
      cbv
      by_cases hx8 : 128 ≤ x
      · rw [if_pos hx8] at h4
        refine vcIf.no (by rw [hA1.lt]; simp only [Int.ofNat_eq_natCast, decide_eq_false_iff_not]; omega) ?_
        cbv
        obtain ⟨t', ht'⟩ : ∃ t', t' = mul1 .i64 t 128 := ⟨_, rfl⟩
        refine hrd _ ⟨(k + 1, acc + (x - 128) * 128 ^ k, t'), [], ?_, ⟨?_, ?_, ?_, ?_, h4⟩, rfl, ⟨rfl, ?_, ?_, ?_, trivial⟩, rfl, rfl, rfl, ?_⟩
        · simp only; omega
        · simp only; omega
        · simp only; omega
        · simp only; rw [show x - 128 = x % 128 by omega]; exact hp
        · intro hk9
          simp only at hk9 ⊢
          have := pow_le9 (show k + 2 ≤ 9 by omega)
          have h8 : (128 : Nat) ^ (k + 2) = 128 ^ (k + 1) * 128 := Nat.pow_succ ..
          rw [ht', hA1.mul, ht]
          exact i64_nat (by rw [Nat.pow_succ]; simp) (by omega)
        · show some (V.p (.int .i64 (add1 .i64 (Int.ofNat acc) (mul1 .i64 (iwrap1 .i64 (rem1 (Int.ofNat x) (Int.ofNat 128))) t)))) = _
          rw [e2, show x % 128 = x - 128 by omega]; rfl
        · show some (V.p (.int .i64 (mul1 .i64 t 128))) = some (V.p (.int .i64 t'))
          rw [ht']
        · show some (V.p (.int .i64 (add1 .i64 (Int.ofNat k) 1))) = some (V.p (.int .i64 (Int.ofNat (k + 1))))
          rw [hA1.add, IntWalk.i64_in _ (by simp only [Int.ofNat_eq_natCast]; omega)]; rfl
        · rw [hB]; exact Nat.le_refl _
      · rw [if_neg hx8] at h4
        refine vcIf.yes (by rw [hA1.lt]; simp only [Int.ofNat_eq_natCast, decide_eq_true_eq]; omega) ?_
        have e5 : add1 .i64 (Int.ofNat k) 1 = ((k + 1 : Nat) : Int) := by
          rw [hA1.add]; exact i64_nat (by simp) (by omega)
        cbv
        refine ⟨k, _, rfl, hget, rfl, ?_⟩
        cbv
        rw [show x % 128 = x by omega] at e2
        have fin : (acc + x * 128 ^ k, k + 1, 0) = dec 0 0 l → numR (dec 0 0 l) (.p (.tup [.int .i64 (add1 .i64 (Int.ofNat acc) (mul1 .i64 (iwrap1 .i64 (rem1 (Int.ofNat x) (Int.ofNat 128))) t)), .int .i64 (add1 .i64 (Int.ofNat k) 1), .int .i64 0])) [] :=
          fun h => ⟨_, _, 0, h, by rw [e2, e5]; rfl, rfl⟩
        by_cases hx0 : x = 0
        · refine vcIf.yes (by rw [hA1.eq, hx0]; rfl) ?_
          cbv
          by_cases hk0 : 0 < k
          · rw [if_pos ⟨hx0, hk0⟩] at h4
            refine vcIf.yes (by rw [hA1.cond, hA1.lt]; simp only [cond_true, Int.ofNat_eq_natCast, decide_eq_true_eq]; omega) ?_
            cbv
            exact hret _ (RetEv.ret eOk rfl ⟨0, 0, 2, h4.symm, rfl, rfl⟩)
          · rw [if_neg (by omega)] at h4
            refine vcIf.no (by rw [hA1.cond, hA1.lt]; simp only [cond_true, Int.ofNat_eq_natCast, decide_eq_false_iff_not]; omega) ?_
            cbv
            exact hret _ (RetEv.ret eOk rfl (fin h4.symm))
        · rw [if_neg (by omega)] at h4
          refine vcIf.no (by rw [hA1.eq]; simp only [Int.ofNat_eq_natCast, beq_eq_false_iff_ne]; omega) ?_
          cbv
          exact hret _ (RetEv.ret eOk rfl (fin h4.symm))
    · refine vcIf.no (by rw [hA1.cond, hA1.lt]; simp only [cond_true, Int.ofNat_eq_natCast, decide_eq_false_iff_not]; omega) ?_
      rw [if_pos (by omega)] at h4
      cbv
      refine vcIf.yes (by rw [hA.le, hlen]; exact dle (show 9 ≤ l.length by omega)) ?_
      cbv
      exact hret _ (RetEv.ret eOk rfl ⟨0, 0, 2, h4.symm, rfl, rfl⟩)
  · refine vcIf.no (by rw [hA1.lt, hlen1]; exact dlt' hk) ?_
    have hke : k = l.length := by omega
    rw [hke, List.drop_length, dec_nil] at h4
    cbv
    by_cases h9 : 9 ≤ l.length
    · refine vcIf.yes (by rw [hA.le, hlen]; exact decide_eq_true (Int.ofNat_le.2 h9)) ?_
      cbv
      exact hret _ (RetEv.ret eOk rfl ⟨0, 0, 2, by rw [h4, if_pos h9], rfl, rfl⟩)
    · refine vcIf.no (by rw [hA.le, hlen]; exact decide_eq_false fun h => h9 (Int.ofNat_le.1 h)) ?_
      cbv
      exact hret _ (RetEv.ret eOk rfl ⟨0, 0, 3, by rw [h4, if_neg h9], rfl, rfl⟩)
end Go.Proofs.YtegkojnngdlfaaaGreat
end
section
namespace Go.Proofs.YtegkojnngdlfaaaGreat
open Go Go.Lx
open Go.Sx (vcIf)
def decT (l : List UInt8) : List UInt8 × Nat × Nat :=
  match dec 0 0 l with
  | (n, u, e) => if e ≠ 0 then ([], 0, e) else if 65536 < n then ([], 0, 6) else if l.length - u < n then ([], 0, 3) else ((l.drop u).take n, u + n, 0)
def textR (r : List UInt8 × Nat × Nat) (z : V) (own : List Res) : Prop := ∃ (s : List UInt8) (u e : Nat), (s, u, e) = r ∧ z = .p (.tup [.str s, .int .i64 u, .int .i64 e]) ∧ own = []
theorem text_spec (l : List UInt8) (hl : l.length < 9223372036854775807) : FnL Tryz.prog 86 [.p (.sl (bP l))] [] (textR (decT l)) := by
  have hnum := num_spec l
  have hus := dec_used l 0 0
  have her := dec_err l 0 0
  have hlt := dec_lt l 0 0 (by omega) (by simp)
  obtain ⟨R, hR⟩ : ∃ R, R = decT l := ⟨_, rfl⟩
  have hR2 := hR
  unfold decT at hR2
  rw [← hR]
  obtain ⟨xs, hxs⟩ : ∃ xs, xs = bP l := ⟨_, rfl⟩
  have hxl : xs.length = l.length := by rw [hxs, bP_length]
  obtain ⟨n, hn⟩ : ∃ n, n = l.length := ⟨_, rfl⟩
  rw [← hxs] at hnum ⊢
  refine fn_of_vc eOk fOk fo86 Tryz.func86 rfl rfl rfl fun B hB => ?_
  intro add sub _ _ _ _ _ _ _ _ _ _ _ _ _ _ _ _ _ _ _ _ _ hA _ _ sl _ _ _ _ len _ _ hL _ _ _ hcall _ _ ret hret
  have hlen : len xs = Int.ofNat n := by rw [hL.len, hxl, hn]; rfl
  cbv
  refine hcall _ _ _ _ _ (CallEv.same hnum rfl ?_)
  rintro _ _ ⟨x, u, e, hd, rfl, rfl⟩
  rw [← hd] at hus her hlt hR2
  simp only at hR2
  simp only at hus her hlt
  cbv
  by_cases he : e = 0
  · subst he
    have hus := hus rfl
    refine vcIf.no (by rw [hA.not, hA.eq]; rfl) ?_
    cbv
    by_cases hx : 65536 < x
    · refine vcIf.yes (by rw [hA.lt]; exact dlt hx) ?_
      cbv
      exact hret _ (RetEv.ret eOk rfl ⟨[], 0, 6, by rw [hR2]; simp [hx], rfl, rfl⟩)
    · refine vcIf.no (by rw [hA.lt]; exact dlt' hx) ?_
      have e1 : sub .i64 (len xs) (Int.ofNat u) = ((n - u : Nat) : Int) := by
        rw [hA.sub, hlen]; exact i64_nat (by simp only [Int.ofNat_eq_natCast]; omega) (by omega)
      cbv
      by_cases hs : n - u < x
      · refine vcIf.yes (by rw [hA.lt, e1]; exact dlt hs) ?_
        cbv
        exact hret _ (RetEv.ret eOk rfl ⟨[], 0, 3, by rw [hR2]; simp [hx, show l.length - u < x by omega], rfl, rfl⟩)
      · have e2 : add .i64 (Int.ofNat u) (Int.ofNat x) = ((u + x : Nat) : Int) := by
          rw [hA.add]; exact i64_nat (by simp) (by omega)
        refine vcIf.no (by rw [hA.lt, e1]; exact dlt' hs) ?_
        cbv
        refine ⟨u, u + x, n, rfl, e2, hxl.symm ▸ hn, by omega, by omega, by omega, fun y hy => ?_, ?_⟩
        · rw [hxs] at hy; exact (bP_wf l y hy).1
        intro zs hz
        cbv
        refine ⟨(l.drop u).take x, ?_, ?_⟩
        · show zs = _
          rw [hz, hxs, bP_drop, bP_take, show u + x - u = x by omega]
        obtain ⟨r, hr⟩ : ∃ r, r = (l.drop u).take x := ⟨_, rfl⟩
        rw [← hr]
        cbv
        refine hret _ (RetEv.ret eOk rfl ⟨r, u + x, 0, ?_, ?_, rfl⟩)
        · rw [hR2]; simp [hx, show ¬ l.length - u < x by omega, hr]
        · show V.p (.tup [.str r, .int .i64 (add .i64 (Int.ofNat u) (Int.ofNat x)), .int .i64 0]) = _
          rw [e2]; rfl
  · refine vcIf.yes (by rw [hA.not, hA.eq]; simp; omega) ?_
    cbv
    exact hret _ (RetEv.ret eOk rfl ⟨[], 0, e, by rw [hR2]; simp [he], rfl, rfl⟩)
end Go.Proofs.YtegkojnngdlfaaaGreat
end
section
namespace Go.Proofs.YtegkojnngdlfaaaGreat
open Go Go.Lx
open Go.Sx (vcIf)
abbrev rdSt (xs : List PV) (e : Nat) : Res := .st 144 [.p (.sl xs), .p (.int .i64 (e : Int))]
def rdN (l : List UInt8) (e : Nat) : Nat × List UInt8 × Nat :=
  if e ≠ 0 then (0, l, e) else ((dec 0 0 l).1, l.drop (dec 0 0 l).2.1, (dec 0 0 l).2.2)
theorem newReader_spec (xs : List PV) : FnL Tryz.prog 57 [.p (.sl xs)] [] fun z own => z = .own 0 0 ∧ own = [rdSt xs 0] := by
  refine fn_of_vc eOk fOk fo57 Tryz.func57 rfl rfl rfl fun B hB => ?_
  intro _ _ _ _ _ _ _ _ _ _ _ _ _ _ _ _ _ _ _ _ _ _ _ _ _ _ sl _ _ _ _ _ _ _ _ _ _ _ _ _ _ ret hret
  cbv
  exact hret _ (RetEv.ret eOk rfl ⟨rfl, rfl⟩)
theorem rdNum_spec (l : List UInt8) (e : Nat) :
    FnL Tryz.prog 85 [.own 0 0] [rdSt (bP l) e] fun z own => ∃ (n : Nat) (l' : List UInt8) (e' : Nat) (ys : List PV), (n, l', e') = rdN l e ∧ ys = bP l' ∧ z = .p (.int .i64 (n : Int)) ∧ own = [rdSt ys e'] := by
  have hnum := num_spec l
  have hus := dec_used l 0 0
  have her := dec_err l 0 0
  obtain ⟨xs, hxs⟩ : ∃ xs, xs = bP l := ⟨_, rfl⟩
  have hxl : xs.length = l.length := by rw [hxs, bP_length]
  rw [← hxs] at hnum ⊢
  refine fn_of_vc eOk fOk fo85 Tryz.func85 rfl rfl rfl fun B hB => ?_
  intro _ _ _ _ _ _ _ _ _ _ _ _ _ _ _ _ _ _ _ _ _ _ _ hA _ _ _ _ _ _ _ _ _ _ _ _ _ _ hcall _ _ ret hret
  cbv
  by_cases he : e = 0
  · refine vcIf.no (by rw [hA.not, hA.eq, he]; rfl) ?_
    cbv
    refine hcall _ _ _ _ _ (CallEv.same hnum rfl ?_)
    rintro _ _ ⟨x, u, e', hd, rfl, rfl⟩
    rw [← hd] at hus her
    simp only at hus her
    have hul : u ≤ l.length := by
      by_cases he' : e' = 0
      · have := hus he'; omega
      · have := her he'; omega
    cbv
    refine ⟨u, xs.length, xs.length, rfl, rfl, rfl, by omega, Nat.le_refl _, Nat.le_refl _, fun y hy => ?_, ?_⟩
    · rw [hxs] at hy; exact (bP_wf l y hy).1
    intro zs hz
    cbv
    refine hret _ (RetEv.ret eOk rfl ⟨x, l.drop u, e', zs, ?_, ?_, rfl, rfl⟩)
    · unfold rdN; rw [if_neg (by simpa using he), ← hd]
    · rw [hz, hxs, bP_drop, List.take_of_length_le (by simp [bP_length])]
  · refine vcIf.yes (by rw [hA.not, hA.eq]; simp; omega) ?_
    cbv
    refine hret _ (RetEv.ret eOk rfl ⟨0, l, e, xs, ?_, hxs, rfl, rfl⟩)
    unfold rdN; rw [if_pos he]
theorem rdError_spec (xs : List PV) (e : Nat) : FnL Tryz.prog 59 [.own 0 0] [rdSt xs e] fun z own => z = .p (.int .i64 (e : Int)) ∧ own = [rdSt xs e] := by
  refine fn_of_vc eOk fOk fo59 Tryz.func59 rfl rfl rfl fun B hB => ?_
  intro _ _ _ _ _ _ _ _ _ _ _ _ _ _ _ _ _ _ _ _ _ _ _ _ _ _ _ _ _ _ _ _ _ _ _ _ _ _ _ _ _ ret hret
  cbv
  exact hret _ (RetEv.ret eOk rfl ⟨rfl, rfl⟩)
def rdNs : Nat → List UInt8 → Nat → List Int × List UInt8 × Nat
  | 0, l, e => ([], l, e)
  | k + 1, l, e => if e ≠ 0 then ([], l, e) else
    let r := rdN l e
    let s := rdNs k r.2.1 r.2.2
    ((r.1 : Int) :: s.1, s.2)
end Go.Proofs.YtegkojnngdlfaaaGreat
end
section
namespace Go.Proofs.YtegkojnngdlfaaaGreat
open Go Go.Lx
open Go.Sx (vcIf)
abbrev wrS (n : Nat) (e : Int) : Res := .st 108 [.vw 1 1 0 n none, .p (.int .i64 e)]
abbrev wrA (xs : List PV) : Res := .arr 5 1 xs
abbrev wr0 : Res := .st 108 [.p .nils, .p (.int .i64 0)]
def Wrote (ok : Prop) (more : List UInt8) (m : Nat) (n : Nat) (e : Int) (xs : List PV) (n' : Nat) (e' : Int) (ys : List PV) : Prop :=
  ys.length = n' ∧ n' ≤ n + m ∧ (ok → e' = e ∧ ys = xs ++ bP more) ∧ (¬ ok → e' = 2)
def encs (l : List Int) : List UInt8 := l.flatMap fun z => enc z.toNat
theorem wrL {own : List Res} {js : List Nat} {i j n : Nat} {e : Int} {xs : List PV} (hi : js[0]? = some i) (hj : js[1]? = some j)
    (h1 : own[i]? = some (.st 108 [.vw j 1 0 n none, .p (.int .i64 e)])) (h2 : own[j]? = some (wrA xs)) : TrO own js [] [i, j] [wrS n e, wrA xs] :=
  ⟨⟨_, h1, .st _ _ _ (.cons (.vw 1 j 1 0 n none hj) (.cons (.p _) .nil))⟩, ⟨_, h2, .arr _ _ _⟩, trivial⟩
theorem wrL0 {own : List Res} {js : List Nat} {i : Nat} (h1 : own[i]? = some wr0) : TrO own js [] [i] [wr0] :=
  ⟨⟨_, h1, .st _ _ _ (.cons (.p _) (.cons (.p _) .nil))⟩, trivial⟩
theorem wrNums_spec (l : List Int) (zs : List PV) (hzs : zs = iP l) (hl : ∀ z ∈ l, z ≤ 9223372036854775807) (n : Nat) (e : Int) (xs : List PV) (hxl : xs.length = n) (hs : n + 9 * l.length + 10 ≤ 140737488355328) :
    FnL Tryz.prog 51 [.own 0 0, .p (.sl zs)] [wrS n e, wrA xs] fun v own => ∃ (n' : Nat) (e' : Int) (ys : List PV), Wrote (∀ z ∈ l, 0 ≤ z) (encs l) (9 * l.length) n e xs n' e' ys ∧ v = .own 0 0 ∧ own = [wrS n' e', wrA ys] := by
  have hzl : zs.length = l.length := by rw [hzs, iP_length]
  obtain ⟨N, hN⟩ : ∃ N, N = l.length := ⟨_, rfl⟩
  rw [← hN] at hzl hs
  refine fn_of_vc eOk fOk fo51 Tryz.func51 rfl rfl rfl fun B hB => ?_
  intro add _ _ _ _ _ _ _ _ _ _ _ _ _ _ _ _ _ _ _ _ _ _ _ _ _ sl _ _ _ _ len _ _ hL _ _ _ _ _ hcode ret hret
  have hlen : len zs = Int.ofNat N := by rw [hL.len, hzl]; rfl
  cbv
  rw [hlen]
  refine hcode _ _ _ (CodeEv.loop eOk fOk (ι := Nat × Nat × List PV) (fun s => [(0, .own 0 0), (7, .p (.sl zs)), (8, .p (.int .i64 (Int.ofNat N))), (9, .p (.int .i64 (Int.ofNat s.1)))])
    (fun s => [wrS s.2.1 e, wrA s.2.2]) (fun s => s.1 ≤ N ∧ s.2.2.length = s.2.1 ∧ s.2.1 ≤ n + 9 * s.1 ∧ (∀ z ∈ l.take s.1, 0 ≤ z) ∧ s.2.2 = xs ++ bP (encs (l.take s.1))) (fun s => N - s.1) (0, n, xs) ?_ ?_)
  · exact ⟨⟨rfl, rfl, rfl, rfl, trivial⟩, rfl, Nat.zero_le _, hxl, Nat.le_refl _, fun z hz => by simp at hz, by simp [encs, bP]⟩
  rintro ⟨i, m, us⟩ ⟨h1, h2, h3, h4, h5⟩ rd hrd
  simp only at h1 h2 h3 h4 h5
  intro add1 _ _ _ _ _ _ _ _ _ _ _ _ _ _ _ _ _ _ _ _ _ _ hA1 _ _ _ _ _ _ _ _ _ _ hL1 _ _ _ hcall1 _ _
  have hadd1 : i < N → add1 .i64 (Int.ofNat i) 1 = Int.ofNat (i + 1) := fun _ => by rw [hA1.add, IntWalk.i64_in _ (by simp only [Int.ofNat_eq_natCast]; omega)]; rfl
  cbv
  by_cases hi : i < N
  · obtain ⟨z, hz⟩ := get_of_lt (show i < l.length by omega)
    have hzm := hl z (List.mem_of_getElem? hz)
    have hzz : zs[i]? = some (.int .i64 z) := by rw [hzs]; exact iP_get hz
    have htk : l.take (i + 1) = l.take i ++ [z] := by rw [List.take_add_one, hz]; rfl
    refine vcIf.yes (by first | (simp [smW hA1 hL1, hi]; done) | (simp only [hi]; simp [smW hA1 hL1, hi]; done) | (simp [smW hA1 hL1, hi]; omega) | (simp only [hi]; simp [smW hA1 hL1, hi]; omega)) ?_
    cbv
    refine ⟨i, _, rfl, hzz, rfl, ?_⟩
    cbv
    by_cases hz0 : z < 0
    · refine vcIf.yes (by first | (simp [smW hA1 hL1, hz0]; done) | (simp only [hz0]; simp [smW hA1 hL1, hz0]; done) | (simp [smW hA1 hL1, hz0]; omega) | (simp only [hz0]; simp [smW hA1 hL1, hz0]; omega)) ?_
      cbv
      refine hret _ (RetEv.ret eOk rfl ⟨m, 2, us, ⟨h2, by omega, fun c => absurd (c z (List.mem_of_getElem? hz)) (by omega), fun _ => rfl⟩, rfl, rfl⟩)
    · obtain ⟨y, hy⟩ : ∃ y : Nat, z = Int.ofNat y := ⟨z.toNat, by simp only [Int.ofNat_eq_natCast]; omega⟩
      have hylt : y < 9223372036854775808 := by simp only [Int.ofNat_eq_natCast] at hy; omega
      have hput := put_spec us m y h2 hylt (by omega)
      have hen := enc_len9 hylt
      have hen2 : encs (l.take (i + 1)) = encs (l.take i) ++ enc y := by rw [htk]; unfold encs; rw [List.flatMap_append, hy]; simp
      have hnn : ∀ z ∈ l.take (i + 1), 0 ≤ z := fun w hw => by
        rw [htk] at hw
        rcases List.mem_append.1 hw with c | c
        · exact h4 w c
        · simp at c; rw [c]; omega
      subst hy
      refine vcIf.no (by first | (simp [smW hA1 hL1, hz0]; done) | (simp only [hz0]; simp [smW hA1 hL1, hz0]; done) | (simp [smW hA1 hL1, hz0]; omega) | (simp only [hz0]; simp [smW hA1 hL1, hz0]; omega)) ?_
      cbv
      refine hcall1 _ _ _ _ _ (CallEv.lend [1] hput rfl (.cons (.vw 0 1 1 0 m none rfl) (.cons (.p _) .nil)) ⟨⟨_, rfl, .arr _ _ _⟩, trivial⟩ ?_)
      rintro _ _ ⟨m', us', hm', hus', rfl, rfl⟩
      cbv
      refine hrd _ ⟨(i + 1, m', us'), [], ?_, ⟨hi, ?_, ?_, hnn, ?_⟩, rfl, ⟨rfl, rfl, rfl, ?_, trivial⟩, rfl, rfl, rfl, ?_⟩
      · simp only; omega
      · simp only; rw [hus', List.length_append, bP_length]; omega
      · simp only; omega
      · simp only; rw [hus', h5, hen2, bP_append, List.append_assoc]
      · show some (V.p (.int .i64 _)) = _
        rw [hadd1 hi]
      · rw [hB]; exact Nat.le_refl _
  · refine vcIf.no (by first | (simp [smW hA1 hL1, hi]; done) | (simp only [hi]; simp [smW hA1 hL1, hi]; done) | (simp [smW hA1 hL1, hi]; omega) | (simp only [hi]; simp [smW hA1 hL1, hi]; omega)) ?_
    cbv
    rw [List.take_of_length_le (by omega)] at h4 h5
    refine hret _ (RetEv.ret eOk rfl ⟨m, e, us, ⟨h2, by omega, fun _ => ⟨rfl, h5⟩, fun c => absurd h4 c⟩, rfl, rfl⟩)
def enct (s : List UInt8) : List UInt8 := enc s.length ++ s
def encts (l : List (List UInt8)) : List UInt8 := l.flatMap enct
def sP (l : List (List UInt8)) : List PV := l.map PV.str
theorem wrTexts_spec (l : List (List UInt8)) (zs : List PV) (hzs : zs = sP l) (hl : ∀ s ∈ l, s.length < 9223372036854775808) (n : Nat) (e : Int) (xs : List PV) (hxl : xs.length = n) (hs : n + 65546 * l.length + 10 ≤ 140737488355328) :
    FnL Tryz.prog 48 [.own 0 0, .p (.sl zs)] [wrS n e, wrA xs] fun v own => ∃ (n' : Nat) (e' : Int) (ys : List PV), Wrote (∀ s ∈ l, s.length ≤ 65536) (encts l) (65546 * l.length) n e xs n' e' ys ∧ v = .own 0 0 ∧ own = [wrS n' e', wrA ys] := by
  have hzl : zs.length = l.length := by rw [hzs, sP, List.length_map]
  obtain ⟨N, hN⟩ : ∃ N, N = l.length := ⟨_, rfl⟩
  rw [← hN] at hzl hs
  refine fn_of_vc eOk fOk fo48 Tryz.func48 rfl rfl rfl fun B hB => ?_
  intro add _ _ _ _ _ _ _ _ _ _ _ _ _ _ _ _ _ _ _ _ _ _ _ _ _ sl _ _ _ _ len slen _ hL _ _ _ _ _ hcode ret hret
  have hlen : len zs = Int.ofNat N := by rw [hL.len, hzl]; rfl
  cbv
  rw [hlen]
  refine hcode _ _ _ (CodeEv.loop eOk fOk (ι := Nat × Nat × List PV) (fun s => [(0, .own 0 0), (7, .p (.sl zs)), (8, .p (.int .i64 (Int.ofNat N))), (9, .p (.int .i64 (Int.ofNat s.1)))])
    (fun s => [wrS s.2.1 e, wrA s.2.2]) (fun s => s.1 ≤ N ∧ s.2.2.length = s.2.1 ∧ s.2.1 ≤ n + 65546 * s.1 ∧ (∀ z ∈ l.take s.1, z.length ≤ 65536) ∧ s.2.2 = xs ++ bP (encts (l.take s.1))) (fun s => N - s.1) (0, n, xs) ?_ ?_)
  · exact ⟨⟨rfl, rfl, rfl, rfl, trivial⟩, rfl, Nat.zero_le _, hxl, Nat.le_refl _, fun z hz => by simp at hz, by simp [encts, bP]⟩
  rintro ⟨i, m, us⟩ ⟨h1, h2, h3, h4, h5⟩ rd hrd
  simp only at h1 h2 h3 h4 h5
  intro add1 _ _ _ _ _ _ _ _ _ _ _ _ _ _ _ _ _ _ _ _ _ _ hA1 _ _ _ _ _ _ _ _ slen1 _ hL1 _ _ _ hcall1 _ _
  have hadd1 : i < N → add1 .i64 (Int.ofNat i) 1 = Int.ofNat (i + 1) := fun _ => by rw [hA1.add, IntWalk.i64_in _ (by simp only [Int.ofNat_eq_natCast]; omega)]; rfl
  cbv
  by_cases hi : i < N
  · obtain ⟨z, hz⟩ := get_of_lt (show i < l.length by omega)
    have hzm := hl z (List.mem_of_getElem? hz)
    have hzz : zs[i]? = some (.str z) := by rw [hzs, sP, List.getElem?_map, hz]; rfl
    have htk : l.take (i + 1) = l.take i ++ [z] := by rw [List.take_add_one, hz]; rfl
    have hsl : slen1 z = Int.ofNat z.length := by rw [hL1.slen]; rfl
    refine vcIf.yes (by first | (simp [smW hA1 hL1, hi]; done) | (simp only [hi]; simp [smW hA1 hL1, hi]; done) | (simp [smW hA1 hL1, hi]; omega) | (simp only [hi]; simp [smW hA1 hL1, hi]; omega)) ?_
    cbv
    refine ⟨i, _, rfl, hzz, rfl, ?_⟩
    cbv
    by_cases hz0 : 65536 < z.length
    · refine vcIf.yes (by first | (simp [smW hA1 hL1, hz0]; done) | (simp only [hz0]; simp [smW hA1 hL1, hz0]; done) | (simp [smW hA1 hL1, hz0]; omega) | (simp only [hz0]; simp [smW hA1 hL1, hz0]; omega)) ?_
      cbv
      refine hret _ (RetEv.ret eOk rfl ⟨m, 2, us, ⟨h2, by omega, fun c => absurd (c z (List.mem_of_getElem? hz)) (by omega), fun _ => rfl⟩, rfl, rfl⟩)
    · have hput := put_spec us m z.length h2 hzm (by omega)
      have hen := enc_len9 hzm
      have hen2 : encts (l.take (i + 1)) = encts (l.take i) ++ (enc z.length ++ z) := by rw [htk]; unfold encts; rw [List.flatMap_append]; simp [enct]
      have hnn : ∀ z ∈ l.take (i + 1), z.length ≤ 65536 := fun w hw => by
        rw [htk] at hw
        rcases List.mem_append.1 hw with c | c
        · exact h4 w c
        · simp at c; rw [c]; omega
      refine vcIf.no (by first | (simp [smW hA1 hL1, hz0]; done) | (simp only [hz0]; simp [smW hA1 hL1, hz0]; done) | (simp [smW hA1 hL1, hz0]; omega) | (simp only [hz0]; simp [smW hA1 hL1, hz0]; omega)) ?_
      cbv
      rw [hsl]
      refine hcall1 _ _ _ _ _ (CallEv.lend [1] hput rfl (.cons (.vw 0 1 1 0 m none rfl) (.cons (.p _) .nil)) ⟨⟨_, rfl, .arr _ _ _⟩, trivial⟩ ?_)
      rintro _ _ ⟨m', us', hm', hus', rfl, rfl⟩
      have hul : us'.length = m' := by rw [hus', List.length_append, bP_length]; omega
      cbv
      refine .inl ⟨(), rfl, hul.symm, bP_wf z, ?_, ?_, ?_⟩
      · show m' + (bP z).length ≤ maxLen
        rw [bP_length]; unfold maxLen; omega
      · show (m' + (bP z).length) * 1 ≤ _
        rw [bP_length]; omega
      intro ws n' hw hn'
      replace hw : ws = us' ++ bP z := hw
      replace hn' : n' = m' + (bP z).length := hn'
      rw [bP_length] at hn'
      cbv
      refine hrd _ ⟨(i + 1, n', ws), [], ?_, ⟨hi, ?_, ?_, hnn, ?_⟩, rfl, ⟨rfl, rfl, rfl, ?_, trivial⟩, rfl, rfl, rfl, ?_⟩
      · simp only; omega
      · simp only; rw [hw, List.length_append, bP_length]; omega
      · simp only; omega
      · simp only; rw [hw, hus', h5, hen2, bP_append, bP_append, List.append_assoc, List.append_assoc]
      · show some (V.p (.int .i64 _)) = _
        rw [hadd1 hi]
      · rw [hB]; exact Nat.le_refl _
  · refine vcIf.no (by first | (simp [smW hA1 hL1, hi]; done) | (simp only [hi]; simp [smW hA1 hL1, hi]; done) | (simp [smW hA1 hL1, hi]; omega) | (simp only [hi]; simp [smW hA1 hL1, hi]; omega)) ?_
    cbv
    rw [List.take_of_length_le (by omega)] at h4 h5
    refine hret _ (RetEv.ret eOk rfl ⟨m, e, us, ⟨h2, by omega, fun _ => ⟨rfl, h5⟩, fun c => absurd h4 c⟩, rfl, rfl⟩)
theorem wrBytes_spec (n : Nat) (e : Int) (xs : List PV) :
    FnL Tryz.prog 49 [.own 0 0] [wrS n e, wrA xs] fun v own => (e = 0 ∧ v = .tup [.vw 1 1 0 n none, .p (.int .i64 0)] ∨ e ≠ 0 ∧ v = .p (.tup [.nils, .int .i64 e])) ∧ own = [wrS n e, wrA xs] := by
  refine fn_of_vc eOk fOk fo49 Tryz.func49 rfl rfl rfl fun B hB => ?_
  intro _ _ _ _ _ _ _ _ _ _ _ _ _ _ _ _ _ _ _ _ _ _ _ hA _ _ _ _ _ _ _ _ _ _ hL _ _ _ _ _ hcode ret hret
  cbv
  by_cases h : e = 0
  · refine vcIf.no (by first | (simp [smW hA hL, h]; done) | (simp only [h]; simp [smW hA hL, h]; done) | (simp [smW hA hL, h]; omega) | (simp only [h]; simp [smW hA hL, h]; omega)) ?_
    cbv
    exact hret _ (RetEv.ret eOk rfl ⟨.inl ⟨h, rfl⟩, rfl⟩)
  · refine vcIf.yes (by first | (simp [smW hA hL, h]; done) | (simp only [h]; simp [smW hA hL, h]; done) | (simp [smW hA hL, h]; omega) | (simp only [h]; simp [smW hA hL, h]; omega)) ?_
    cbv
    refine hcode _ _ _ (CodeEv.drawA eOk fOk (by kernel_rfl) noX (by kernel_rfl) (by kernel_rfl) (by kernel_rfl) ?_)
    intro _ _ _ _ _ _ _ _ _ _ _ _ _ _ _ _ _ _ _ _ _ _ _ _ _ _ _ _ _ _ _ _ _ _ _ _ _ _ _ _ _ _ hq2
    cbv
    refine hq2 _ ?_
    cbv
    exact hret _ (RetEv.ret eOk rfl ⟨.inr ⟨h, rfl⟩, rfl⟩)
/-! A writer that has nothing yet -/
theorem wr0_of {f : FuncId} {args : List V} {R : V → List Res → Prop} (h : FnL Tryz.prog f args [wrS 0 0, wrA []] R) : FnL Tryz.prog f args [wr0] R :=
  FnL.hollow 0 0 5 1 (by decide) rfl rfl h
end Go.Proofs.YtegkojnngdlfaaaGreat
end
section
namespace Go.Proofs.YtegkojnngdlfaaaGreat
open Go Go.Lx
open Go.Sx (vcIf)
theorem rdNumV (l : List UInt8) (e : Nat) (ys : List PV) (hys : ys = bP l) :
    FnL Tryz.prog 85 [.own 0 0] [rdSt ys e] fun z own => ∃ (n : Nat) (l' : List UInt8) (e' : Nat) (zs : List PV), (n, l', e') = rdN l e ∧ zs = bP l' ∧ z = .p (.int .i64 (n : Int)) ∧ own = [rdSt zs e'] := by subst hys; exact rdNum_spec l e
def rdT (l : List UInt8) (e : Nat) : List UInt8 × List UInt8 × Nat := if e ≠ 0 then ([], l, e) else ((decT l).1, l.drop (decT l).2.1, (decT l).2.2)
theorem decT_used (l : List UInt8) : (decT l).2.1 ≤ l.length := by
  have hus := dec_used l 0 0
  unfold decT
  obtain ⟨⟨x, u, e⟩, hd⟩ : ∃ r, r = dec 0 0 l := ⟨_, rfl⟩
  rw [← hd] at hus ⊢
  simp only at hus ⊢
  split
  · exact Nat.zero_le _
  split
  · exact Nat.zero_le _
  split
  · exact Nat.zero_le _
  · rename_i h1 h2 h3
    have := hus (by simpa using h1)
    simp only; omega
theorem rdText_spec (l : List UInt8) (hl : l.length < 9223372036854775807) (e : Nat) (ys : List PV) (hys : ys = bP l) :
    FnL Tryz.prog 60 [.own 0 0] [rdSt ys e] fun z own => ∃ (s l' : List UInt8) (e' : Nat) (zs : List PV), (s, l', e') = rdT l e ∧ zs = bP l' ∧ z = .p (.str s) ∧ own = [rdSt zs e'] := by
  have htx := text_spec l hl
  have hus := decT_used l
  have hyl : ys.length = l.length := by rw [hys, bP_length]
  rw [← hys] at htx
  refine fn_of_vc eOk fOk fo60 Tryz.func60 rfl rfl rfl fun B hB => ?_
  intro _ _ _ _ _ _ _ _ _ _ _ _ _ _ _ _ _ _ _ _ _ _ _ hA _ _ _ _ _ _ _ _ _ _ hL _ _ _ hcall _ _ ret hret
  cbv
  by_cases he : e = 0
  · subst he
    repeat (first | (refine vcIf.yes ?_ ?_; (focus (simp [smW hA hL]; done)); cbv) | (refine vcIf.no ?_ ?_; (focus (simp [smW hA hL]; done)); cbv))
    refine hcall _ _ _ _ _ (CallEv.same htx rfl ?_)
    rintro _ _ ⟨s, u, e', hd, rfl, rfl⟩
    rw [← hd] at hus
    simp only at hus
    cbv
    refine ⟨u, ys.length, ys.length, rfl, rfl, rfl, by omega, Nat.le_refl _, Nat.le_refl _, fun y hy => ?_, ?_⟩
    · rw [hys] at hy; exact (bP_wf l y hy).1
    intro zs hz
    cbv
    refine hret _ (RetEv.ret eOk rfl ⟨s, l.drop u, e', zs, ?_, ?_, rfl, rfl⟩)
    · unfold rdT; rw [if_neg (by simp), ← hd]
    · rw [hz, hys, bP_drop, List.take_of_length_le (by simp [bP_length])]
  · refine vcIf.yes (by rw [hA.not, hA.eq]; simp; omega) ?_
    cbv
    refine hret _ (RetEv.ret eOk rfl ⟨[], l, e, ys, ?_, hys, rfl, rfl⟩)
    unfold rdT; rw [if_pos he]
def rdC (l : List UInt8) (e most : Nat) : Nat × List UInt8 × Nat := if most < (rdN l e).1 then (0, (rdN l e).2.1, 2) else rdN l e
theorem rdCount_spec (l : List UInt8) (e : Nat) (ys : List PV) (hys : ys = bP l) (most : Nat) :
    FnL Tryz.prog 58 [.own 0 0, .p (.int .i64 (most : Int))] [rdSt ys e] fun z own => ∃ (n : Nat) (l' : List UInt8) (e' : Nat) (zs : List PV), (n, l', e') = rdC l e most ∧ zs = bP l' ∧ z = .p (.int .i64 (n : Int)) ∧ own = [rdSt zs e'] := by
  have hn := rdNumV l e ys hys
  refine fn_of_vc eOk fOk fo58 Tryz.func58 rfl rfl rfl fun B hB => ?_
  intro _ _ _ _ _ _ _ _ _ _ _ _ _ _ _ _ _ _ _ _ _ _ _ hA _ _ _ _ _ _ _ _ _ _ _ _ _ _ hcall _ _ ret hret
  cbv
  refine hcall _ _ _ _ _ (CallEv.lend [0] hn rfl (.cons (.own 0 0 0 rfl) .nil) ⟨⟨_, rfl, .st _ _ _ (.cons (.p _) (.cons (.p _) .nil))⟩, trivial⟩ ?_)
  rintro _ _ ⟨n, l', e', zs, hd, hzs, rfl, rfl⟩
  cbv
  by_cases h : most < n
  · refine vcIf.yes (by rw [hA.lt]; exact dlt h) ?_
    cbv
    refine hret _ (RetEv.ret eOk rfl ⟨0, l', 2, zs, ?_, hzs, rfl, rfl⟩)
    unfold rdC; rw [← hd, if_pos h]
  · refine vcIf.no (by rw [hA.lt]; exact dlt' h) ?_
    cbv
    refine hret _ (RetEv.ret eOk rfl ⟨n, l', e', zs, ?_, hzs, rfl, rfl⟩)
    unfold rdC; rw [← hd, if_neg h]
theorem rdL {own : List Res} {js : List Nat} {i : Nat} {ys : List PV} {e : Nat} (h : own[i]? = some (rdSt ys e)) : TrO own js [] [i] [rdSt ys e] :=
  ⟨⟨_, h, .st _ _ _ (.cons (.p _) (.cons (.p _) .nil))⟩, trivial⟩
/-! The document's -/
abbrev rrSt (xs : List PV) (b : Bool) : Res := .st 125 [.p (.sl xs), .p (.bool b)]
theorem rrL {own : List Res} {js : List Nat} {i : Nat} {ys : List PV} {b : Bool} (h : own[i]? = some (rrSt ys b)) : TrO own js [] [i] [rrSt ys b] :=
  ⟨⟨_, h, .st _ _ _ (.cons (.p _) (.cons (.p _) .nil))⟩, trivial⟩
theorem rtext_spec (l : List UInt8) (hl : l.length < 9223372036854775807) : FnL Tryz.prog 89 [.p (.sl (bP l))] [] (textR (decT l)) := by
  have hnum := rnum_spec l
  have hus := dec_used l 0 0
  have her := dec_err l 0 0
  have hlt := dec_lt l 0 0 (by omega) (by simp)
  obtain ⟨R, hR⟩ : ∃ R, R = decT l := ⟨_, rfl⟩
  have hR2 := hR
  unfold decT at hR2
  rw [← hR]
  obtain ⟨xs, hxs⟩ : ∃ xs, xs = bP l := ⟨_, rfl⟩
  have hxl : xs.length = l.length := by rw [hxs, bP_length]
  obtain ⟨n, hn⟩ : ∃ n, n = l.length := ⟨_, rfl⟩
  rw [← hxs] at hnum ⊢
  refine fn_of_vc eOk fOk fo89 Tryz.func89 rfl rfl rfl fun B hB => ?_
  intro add sub _ _ _ _ _ _ _ _ _ _ _ _ _ _ _ _ _ _ _ _ _ hA _ _ sl _ _ _ _ len _ _ hL _ _ _ hcall _ _ ret hret
  have hlen : len xs = Int.ofNat n := by rw [hL.len, hxl, hn]; rfl
  cbv
  refine hcall _ _ _ _ _ (CallEv.same hnum rfl ?_)
  rintro _ _ ⟨x, u, e, hd, rfl, rfl⟩
  rw [← hd] at hus her hlt hR2
  simp only at hR2
  simp only at hus her hlt
  cbv
  by_cases he : e = 0
  · subst he
    have hus := hus rfl
    refine vcIf.no (by rw [hA.not, hA.eq]; rfl) ?_
    cbv
    by_cases hx : 65536 < x
    · refine vcIf.yes (by rw [hA.lt]; exact dlt hx) ?_
      cbv
      exact hret _ (RetEv.ret eOk rfl ⟨[], 0, 6, by rw [hR2]; simp [hx], rfl, rfl⟩)
    · refine vcIf.no (by rw [hA.lt]; exact dlt' hx) ?_
      have e1 : sub .i64 (len xs) (Int.ofNat u) = ((n - u : Nat) : Int) := by
        rw [hA.sub, hlen]; exact i64_nat (by simp only [Int.ofNat_eq_natCast]; omega) (by omega)
      cbv
      by_cases hs : n - u < x
      · refine vcIf.yes (by rw [hA.lt, e1]; exact dlt hs) ?_
        cbv
        exact hret _ (RetEv.ret eOk rfl ⟨[], 0, 3, by rw [hR2]; simp [hx, show l.length - u < x by omega], rfl, rfl⟩)
      · have e2 : add .i64 (Int.ofNat u) (Int.ofNat x) = ((u + x : Nat) : Int) := by
          rw [hA.add]; exact i64_nat (by simp) (by omega)
        refine vcIf.no (by rw [hA.lt, e1]; exact dlt' hs) ?_
        cbv
        refine ⟨u, u + x, n, rfl, e2, hxl.symm ▸ hn, by omega, by omega, by omega, fun y hy => ?_, ?_⟩
        · rw [hxs] at hy; exact (bP_wf l y hy).1
        intro zs hz
        cbv
        refine ⟨(l.drop u).take x, ?_, ?_⟩
        · show zs = _
          rw [hz, hxs, bP_drop, bP_take, show u + x - u = x by omega]
        obtain ⟨r, hr⟩ : ∃ r, r = (l.drop u).take x := ⟨_, rfl⟩
        rw [← hr]
        cbv
        refine hret _ (RetEv.ret eOk rfl ⟨r, u + x, 0, ?_, ?_, rfl⟩)
        · rw [hR2]; simp [hx, show ¬ l.length - u < x by omega, hr]
        · show V.p (.tup [.str r, .int .i64 (add .i64 (Int.ofNat u) (Int.ofNat x)), .int .i64 0]) = _
          rw [e2]; rfl
  · refine vcIf.yes (by rw [hA.not, hA.eq]; simp; omega) ?_
    cbv
    exact hret _ (RetEv.ret eOk rfl ⟨[], 0, e, by rw [hR2]; simp [he], rfl, rfl⟩)
theorem decT_err (l : List UInt8) (h : (decT l).2.2 ≠ 0) : (decT l).1 = [] ∧ (decT l).2.1 = 0 := by
  unfold decT at h ⊢
  obtain ⟨⟨x, u, e⟩, hd⟩ : ∃ r, r = dec 0 0 l := ⟨_, rfl⟩
  rw [← hd] at h ⊢
  simp only at h ⊢
  split
  · exact ⟨rfl, rfl⟩
  split
  · exact ⟨rfl, rfl⟩
  split
  · exact ⟨rfl, rfl⟩
  · rename_i h1 h2 h3
    rw [if_neg h1, if_neg h2, if_neg h3] at h
    exact absurd rfl h
theorem rrText_spec (l : List UInt8) (hl : l.length < 9223372036854775807) (e : Nat) (ys : List PV) (hys : ys = bP l) (bad : Bool) (hbad : bad = decide (e ≠ 0)) :
    FnL Tryz.prog 62 [.own 0 0] [rrSt ys bad] fun z own => ∃ (s l' : List UInt8) (e' : Nat) (zs : List PV) (b : Bool), (s, l', e') = rdT l e ∧ zs = bP l' ∧ b = decide (e' ≠ 0) ∧ z = .p (.str s) ∧ own = [rrSt zs b] := by
  have htx := rtext_spec l hl
  have hus := decT_used l
  have her := decT_err l
  have hyl : ys.length = l.length := by rw [hys, bP_length]
  rw [← hys] at htx
  refine fn_of_vc eOk fOk fo62 Tryz.func62 rfl rfl rfl fun B hB => ?_
  intro _ _ _ _ _ _ _ _ _ _ _ _ _ _ _ _ _ _ _ _ _ _ _ hA _ _ _ _ _ _ _ _ _ _ hL _ _ _ hcall _ _ ret hret
  cbv
  refine hcall _ _ _ _ _ (CallEv.same htx rfl ?_)
  rintro _ _ ⟨s, u, e1, hd, rfl, rfl⟩
  rw [← hd] at hus
  simp only at hus
  cbv
  by_cases h1 : e1 = 0
  · subst h1
    repeat (first | (refine vcIf.yes ?_ ?_; (focus (simp [smW hA hL]; done)); cbv) | (refine vcIf.no ?_ ?_; (focus (simp [smW hA hL]; done)); cbv))
    by_cases he : e = 0
    · obtain rfl : bad = false := by rw [hbad, he]; rfl
      cbv
      repeat (first | (refine vcIf.yes ?_ ?_; (focus (simp [smW hA hL]; done)); cbv) | (refine vcIf.no ?_ ?_; (focus (simp [smW hA hL]; done)); cbv))
      refine ⟨u, ys.length, ys.length, rfl, rfl, rfl, by omega, Nat.le_refl _, Nat.le_refl _, fun y hy => ?_, ?_⟩
      · rw [hys] at hy; exact (bP_wf l y hy).1
      intro zs hz
      cbv
      refine hret _ (RetEv.ret eOk rfl ⟨s, l.drop u, 0, zs, false, ?_, ?_, rfl, rfl, rfl⟩)
      · unfold rdT; rw [if_neg (by simpa using he), ← hd]
      · rw [hz, hys, bP_drop, List.take_of_length_le (by simp [bP_length])]
    · obtain rfl : bad = true := by rw [hbad]; exact decide_eq_true he
      cbv
      repeat (first | (refine vcIf.yes ?_ ?_; (focus (simp [smW hA hL]; done)); cbv) | (refine vcIf.no ?_ ?_; (focus (simp [smW hA hL]; done)); cbv))
      refine hret _ (RetEv.ret eOk rfl ⟨[], l, e, ys, true, ?_, hys, (decide_eq_true he).symm, rfl, rfl⟩)
      unfold rdT; rw [if_pos he]
  · refine vcIf.yes (by rw [hA.not, hA.eq]; simp; omega) ?_
    cbv
    repeat (first | (refine vcIf.yes ?_ ?_; (focus (simp [smW hA hL]; done)); cbv) | (refine vcIf.no ?_ ?_; (focus (simp [smW hA hL]; done)); cbv))
    by_cases he : e = 0
    · refine hret _ (RetEv.ret eOk rfl ⟨[], l, e1, ys, true, ?_, hys, (decide_eq_true h1).symm, rfl, rfl⟩)
      unfold rdT; rw [if_neg (by simpa using he), ← hd]
      (rw [← hd] at her; obtain ⟨k1, k2⟩ := her h1; simp only at k1 k2; rw [k1, k2]; rfl)
    · refine hret _ (RetEv.ret eOk rfl ⟨[], l, e, ys, true, ?_, hys, (decide_eq_true he).symm, rfl, rfl⟩)
      unfold rdT; rw [if_pos he]
theorem rrNum_spec (l : List UInt8) (e : Nat) (ys : List PV) (hys : ys = bP l) (bad : Bool) (hbad : bad = decide (e ≠ 0)) :
    FnL Tryz.prog 87 [.own 0 0] [rrSt ys bad] fun z own => ∃ (n : Nat) (l' : List UInt8) (e' : Nat) (zs : List PV) (b : Bool), (n, l', e') = rdN l e ∧ zs = bP l' ∧ b = decide (e' ≠ 0) ∧ z = .p (.int .i64 (n : Int)) ∧ own = [rrSt zs b] := by
  have htx := rnum_spec l
  have hus : (dec 0 0 l).2.1 ≤ l.length := by
    have h1 := dec_used l 0 0
    have h2 := dec_err l 0 0
    by_cases h : (dec 0 0 l).2.2 = 0
    · have := (h1 h).1; omega
    · have := (h2 h).2; omega
  have her := dec_err l 0 0
  have hyl : ys.length = l.length := by rw [hys, bP_length]
  rw [← hys] at htx
  refine fn_of_vc eOk fOk fo87 Tryz.func87 rfl rfl rfl fun B hB => ?_
  intro _ _ _ _ _ _ _ _ _ _ _ _ _ _ _ _ _ _ _ _ _ _ _ hA _ _ _ _ _ _ _ _ _ _ hL _ _ _ hcall _ _ ret hret
  cbv
  refine hcall _ _ _ _ _ (CallEv.same htx rfl ?_)
  rintro _ _ ⟨s, u, e1, hd, rfl, rfl⟩
  rw [← hd] at hus
  simp only at hus
  cbv
  by_cases h1 : e1 = 0
  · subst h1
    repeat (first | (refine vcIf.yes ?_ ?_; (focus (simp [smW hA hL]; done)); cbv) | (refine vcIf.no ?_ ?_; (focus (simp [smW hA hL]; done)); cbv))
    by_cases he : e = 0
    · obtain rfl : bad = false := by rw [hbad, he]; rfl
      cbv
      repeat (first | (refine vcIf.yes ?_ ?_; (focus (simp [smW hA hL]; done)); cbv) | (refine vcIf.no ?_ ?_; (focus (simp [smW hA hL]; done)); cbv))
      refine ⟨u, ys.length, ys.length, rfl, rfl, rfl, by omega, Nat.le_refl _, Nat.le_refl _, fun y hy => ?_, ?_⟩
      · rw [hys] at hy; exact (bP_wf l y hy).1
      intro zs hz
      cbv
      refine hret _ (RetEv.ret eOk rfl ⟨s, l.drop u, 0, zs, false, ?_, ?_, rfl, rfl, rfl⟩)
      · unfold rdN; rw [if_neg (by simpa using he), ← hd]
      · rw [hz, hys, bP_drop, List.take_of_length_le (by simp [bP_length])]
    · obtain rfl : bad = true := by rw [hbad]; exact decide_eq_true he
      cbv
      repeat (first | (refine vcIf.yes ?_ ?_; (focus (simp [smW hA hL]; done)); cbv) | (refine vcIf.no ?_ ?_; (focus (simp [smW hA hL]; done)); cbv))
      refine hret _ (RetEv.ret eOk rfl ⟨0, l, e, ys, true, ?_, hys, (decide_eq_true he).symm, rfl, rfl⟩)
      unfold rdN; rw [if_pos he]
  · refine vcIf.yes (by rw [hA.not, hA.eq]; simp; omega) ?_
    cbv
    repeat (first | (refine vcIf.yes ?_ ?_; (focus (simp [smW hA hL]; done)); cbv) | (refine vcIf.no ?_ ?_; (focus (simp [smW hA hL]; done)); cbv))
    by_cases he : e = 0
    · refine hret _ (RetEv.ret eOk rfl ⟨0, l, e1, ys, true, ?_, hys, (decide_eq_true h1).symm, rfl, rfl⟩)
      unfold rdN; rw [if_neg (by simpa using he), ← hd]
      (rw [← hd] at her; obtain ⟨k1, k2⟩ := her h1; simp only at k1 k2; rw [k1, k2]; rfl)
    · refine hret _ (RetEv.ret eOk rfl ⟨0, l, e, ys, true, ?_, hys, (decide_eq_true he).symm, rfl, rfl⟩)
      unfold rdN; rw [if_pos he]
end Go.Proofs.YtegkojnngdlfaaaGreat
end
section
namespace Go.Proofs.YtegkojnngdlfaaaGreat
open Go Go.Lx
open Go.Sx (vcIf)
end Go.Proofs.YtegkojnngdlfaaaGreat
end
section
namespace Go.Proofs.YtegkojnngdlfaaaGreat
open Go Go.Lx
open Go.Sx (vcIf)
end Go.Proofs.YtegkojnngdlfaaaGreat
end
section
namespace Go.Proofs.YtegkojnngdlfaaaGreat
open Go Go.Lx
open Go.Sx (vcIf)
theorem encs_len : ∀ (l : List Int), (∀ z ∈ l, z ≤ 9223372036854775807) → (encs l).length ≤ 9 * l.length
  | [], _ => by simp [encs]
  | z :: r, h => by
    have h1 := encs_len r fun y hy => h y (by simp [hy])
    have h2 := h z (by simp)
    have h3 := enc_len9 (x := z.toNat) (by omega)
    unfold encs at h1 ⊢
    rw [List.flatMap_cons, List.length_append, List.length_cons]; omega
structure Msg where
  kind : Int
  from_ : Int
  to_ : Int
  epoch : Int
  a : Int
  b : Int
  c : Int
  body : List UInt8
def Msg.v (m : Msg) : PV := .agg [.int .i64 m.kind, .int .i64 m.from_, .int .i64 m.to_, .int .i64 m.epoch, .int .i64 m.a, .int .i64 m.b, .int .i64 m.c, .sl (bP m.body)]
def Msg.nums (m : Msg) : List Int := [m.kind, m.from_, m.to_, m.epoch, m.a, m.b, m.c]
def Msg.okB (m : Msg) : Bool := decide (1 ≤ m.kind ∧ m.kind ≤ 20 ∧ 0 ≤ m.from_ ∧ m.from_ ≤ 255 ∧ 0 ≤ m.to_ ∧ m.to_ ≤ 255 ∧ 0 ≤ m.epoch ∧ 0 ≤ m.a ∧ 0 ≤ m.b ∧ 0 ≤ m.c ∧ m.body.length ≤ 65536)
def Msg.fit (m : Msg) : Prop := (∀ z ∈ m.nums, -9223372036854775808 ≤ z ∧ z ≤ 9223372036854775807) ∧ m.body.length < 140737488355328
end Go.Proofs.YtegkojnngdlfaaaGreat
end
section
namespace Go.Proofs.YtegkojnngdlfaaaGreat
open Go Go.Lx
open Go.Sx (vcIf)
theorem rdN_len {l l' : List UInt8} {e n e' : Nat} (h : (n, l', e') = rdN l e) : l'.length ≤ l.length := by
  unfold rdN at h
  split at h
  · cases h; exact Nat.le_refl _
  · cases h; rw [List.length_drop]; omega
theorem rdT_len {l l' s : List UInt8} {e e' : Nat} (h : (s, l', e') = rdT l e) : s.length ≤ 65536 ∧ l'.length ≤ l.length := by
  unfold rdT at h
  split at h
  · cases h; exact ⟨Nat.zero_le _, Nat.le_refl _⟩
  · cases h
    refine ⟨?_, by rw [List.length_drop]; omega⟩
    unfold decT
    split
    split
    · exact Nat.zero_le _
    split
    · exact Nat.zero_le _
    split
    · exact Nat.zero_le _
    · rw [List.length_take]; omega
def Msg.zero : Msg := ⟨0, 0, 0, 0, 0, 0, 0, []⟩
end Go.Proofs.YtegkojnngdlfaaaGreat
end
section
namespace Go.Proofs.YtegkojnngdlfaaaGreat
open Go Go.Lx
open Go.Sx (vcIf)
theorem rputText_spec (s : List UInt8) (n : Nat) (xs : List PV) (hxl : xs.length = n) (hs : n + s.length + 20 ≤ 140737488355328) :
    FnL Tryz.prog 66 [.vw 0 1 0 n none, .p (.str s)] [wrA xs] fun v own => ∃ (n' : Nat) (ys : List PV), ys = xs ++ bP (enct s) ∧ n' = ys.length ∧ n' ≤ n + 9 + s.length ∧ v = .vw 0 1 0 n' none ∧ own = [wrA ys] := by
  have hput := rput_spec xs n s.length hxl (by omega) (by omega)
  have hen := enc_len9 (show s.length < 9223372036854775808 by omega)
  refine fn_of_vc eOk fOk fo66 Tryz.func66 rfl rfl rfl fun B hB => ?_
  intro _ _ _ _ _ _ _ _ _ _ _ _ _ _ _ _ _ _ _ _ _ _ _ _ _ _ _ _ _ _ _ _ slen _ hL _ _ _ hcall _ _ ret hret
  have hsl : slen s = Int.ofNat s.length := by rw [hL.slen]; rfl
  cbv
  rw [hsl]
  refine hcall _ _ _ _ _ (CallEv.lend [0] hput rfl (.cons (.vw 0 0 1 0 n none rfl) (.cons (.p _) .nil)) ⟨⟨_, rfl, .arr _ _ _⟩, trivial⟩ ?_)
  rintro _ _ ⟨m', us', hm', hus', rfl, rfl⟩
  have hul : us'.length = m' := by rw [hus', List.length_append, bP_length]; omega
  cbv
  refine .inl ⟨(), rfl, hul.symm, bP_wf s, ?_, ?_, ?_⟩
  · show m' + (bP s).length ≤ maxLen
    rw [bP_length]; unfold maxLen; omega
  · show (m' + (bP s).length) * 1 ≤ _
    rw [bP_length]; omega
  intro ws n' hw hn'
  replace hw : ws = us' ++ bP s := hw
  replace hn' : n' = m' + (bP s).length := hn'
  rw [bP_length] at hn'
  cbv
  refine hret _ (RetEv.ret eOk rfl ⟨n', ws, ?_, ?_, by omega, rfl, rfl⟩)
  · rw [hw, hus']; unfold enct; rw [bP_append, List.append_assoc]
  · rw [hw, List.length_append, bP_length]; omega
end Go.Proofs.YtegkojnngdlfaaaGreat
end
section
namespace Go.Proofs.YtegkojnngdlfaaaGreat
open Go Go.Lx
open Go.Sx (vcIf)
end Go.Proofs.YtegkojnngdlfaaaGreat
end
section
namespace Go.Proofs.YtegkojnngdlfaaaGreat
open Go Go.Lx
open Go.Sx (vcIf)
theorem rdN_enc (n : Nat) (hn : n < 9223372036854775808) (r : List UInt8) : rdN (enc n ++ r) 0 = (n, r, 0) := by
  unfold rdN
  rw [if_neg (by simp), dec_enc0 n r hn]
  simp
theorem rdT_enc (s : List UInt8) (hs : s.length ≤ 65536) (r : List UInt8) : rdT (enct s ++ r) 0 = (s, r, 0) := by
  unfold rdT decT enct
  rw [if_neg (by simp), List.append_assoc, dec_enc0 s.length _ (by omega)]
  simp only [ne_eq, not_true_eq_false, if_false]
  rw [if_neg (by omega), if_neg (by simp)]
  simp only [List.drop_left, List.take_left]
  rw [← List.drop_drop, List.drop_left, List.drop_left]
end Go.Proofs.YtegkojnngdlfaaaGreat
end
section
namespace Go.Proofs.YtegkojnngdlfaaaGreat
open Go Go.Lx
open Go.Sx (vcIf)
structure Stt where
  gen : Int
  epoch : Int
  recv : Int
  ch : List Int
def Stt.v (s : Stt) : PV := .agg [.int .i64 s.gen, .int .i64 s.epoch, .int .i64 s.recv, .sl (iP s.ch)]
def Stt.okB (s : Stt) : Bool := decide (0 ≤ s.gen ∧ 0 ≤ s.epoch ∧ 0 ≤ s.recv ∧ s.ch.length ≤ 16 ∧ ∀ z ∈ s.ch, 0 ≤ z ∧ z ≤ 255)
def Stt.fit (s : Stt) : Prop := (∀ z ∈ [s.gen, s.epoch, s.recv], -9223372036854775808 ≤ z ∧ z ≤ 9223372036854775807) ∧ (∀ z ∈ s.ch, -9223372036854775808 ≤ z ∧ z ≤ 9223372036854775807) ∧ s.ch.length < 9223372036854775807
end Go.Proofs.YtegkojnngdlfaaaGreat
end
section
namespace Go.Proofs.YtegkojnngdlfaaaGreat
open Go Go.Lx
open Go.Sx (vcIf)
theorem Stt.ok_iff (s : Stt) : s.okB = true ↔ (0 ≤ s.gen ∧ 0 ≤ s.epoch ∧ 0 ≤ s.recv ∧ s.ch.length ≤ 16 ∧ ∀ z ∈ s.ch, 0 ≤ z ∧ z ≤ 255) := by unfold Stt.okB; rw [decide_eq_true_eq]
end Go.Proofs.YtegkojnngdlfaaaGreat
end
section
namespace Go.Proofs.YtegkojnngdlfaaaGreat
open Go Go.Lx
open Go.Sx (vcIf)
def spl (l : List UInt8) (c : Int) : List Int × Nat :=
  if c < 0 ∨ 4096 < c then ([], 1) else
  match rdNs c.toNat l 0 with
  | (ns, l', e) => if e ≠ 0 then ([], e) else if l' ≠ [] then ([], 2) else (ns, 0)
end Go.Proofs.YtegkojnngdlfaaaGreat
end
section
namespace Go.Proofs.YtegkojnngdlfaaaGreat
open Go Go.Lx
open Go.Sx (vcIf)
def Stt.zero : Stt := ⟨0, 0, 0, []⟩
theorem rdC_le {l l' : List UInt8} {e most n e' : Nat} (h : (n, l', e') = rdC l e most) : n ≤ most ∧ l'.length ≤ l.length := by
  unfold rdC at h
  split at h
  · cases h; exact ⟨Nat.zero_le _, rdN_len (l := l) (e := e) (n := (rdN l e).1) (e' := (rdN l e).2.2) rfl⟩
  · rename_i hc
    rw [← h] at hc
    exact ⟨by simpa using hc, rdN_len h⟩
theorem rdN_bad {l : List UInt8} {e : Nat} (h : e ≠ 0) : rdN l e = (0, l, e) := by unfold rdN; rw [if_pos h]
structure GI where
  i : Nat
  ns : List PV
  zs : List PV
  b : Bool
end Go.Proofs.YtegkojnngdlfaaaGreat
end
section
namespace Go.Proofs.YtegkojnngdlfaaaGreat
open Go Go.Lx
open Go.Sx (vcIf)
end Go.Proofs.YtegkojnngdlfaaaGreat
end
