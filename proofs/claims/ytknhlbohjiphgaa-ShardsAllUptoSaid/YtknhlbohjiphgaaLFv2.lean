/- The document's transactions: sound or not. Conditions: on sizes. -/
import Derived.Test.YtknhlbohjiphgaaLFv1
set_option maxRecDepth 100000
set_option maxHeartbeats 4000000
set_option linter.unusedSimpArgs false
set_option linter.unusedVariables false
namespace Go.Proofs.Ytknhlbohjiphgaa
open Go Go.Lx
open Go.Sx (vcIf)

theorem rTxn_spec' (s : Tx) (hs1 : s.sp.length < 9223372036854775807) (hs2 : s.ch.length < 9223372036854775807) (xs zs : List PV) (hxs : xs = pP s.sp) (hzs : zs = cP s.ch) :
    FnL Try.prog 36 [.p (.agg [.int .i64 s.r, .sl xs, .sl zs])] [] fun v own => ∃ b, b = s.okB ∧ v = .p (.bool b) ∧ own = [] := by
  refine FnL.flat (R := fun v own => ∃ b, b = s.okB ∧ v = .p (.bool b)) ?_ (by rintro _ _ ⟨b, h, rfl⟩; exact ⟨_, _, rfl, .refl _, b, h, rfl, rfl⟩)
  have hR2 := s.ok_iff
  obtain ⟨R, hR⟩ : ∃ R, R = s.okB := ⟨_, rfl⟩
  rw [← hR] at hR2 ⊢
  clear hR
  obtain ⟨r, sp, ch⟩ := s
  simp only at hs1 hs2 hxs hzs hR2 ⊢
  have hxl : xs.length = sp.length := by rw [hxs, pP_length]
  have hzl : zs.length = ch.length := by rw [hzs, cP_length]
  have hc := rall_spec ch hs2 zs hzs
  obtain ⟨N, hN⟩ : ∃ N, N = ch.length := ⟨_, rfl⟩
  obtain ⟨M, hM⟩ : ∃ M, M = sp.length := ⟨_, rfl⟩
  rw [← hN] at hzl hR2
  rw [← hM] at hxl hR2 hs1
  refine fn_of_vc eOk fOk fo36 Try.func36 rfl rfl rfl fun B hB => ?_
  intro add sub mul quo rem band bor bxor bclr shl shr ieq ilt ile seq slt beq bnot orb bcond iwrap iof ssz hA cat sq sl imin imax smin smax len slen u8 hL op hop call hcall code hcode ret hret
  have hlx : len xs = Int.ofNat M := by rw [hL.len, hxl]; rfl
  have hlz : len zs = Int.ofNat N := by rw [hL.len, hzl]; rfl
  cbv
  by_cases h1 : 0 ≤ r
  rotate_left
  · have : R = false := by rw [Bool.eq_false_iff]; exact fun c => h1 (hR2.1 c).1
    refine vcIf.yes (by first | (simp [hA.not, hA.eq, hA.lt, hA.le, hA.cond, hA.beq, hA.orb, hL.len, hL.slen, hL.sq, h1]; done) | (simp only [h1]; simp [hA.not, hA.eq, hA.lt, hA.le, hA.cond, hA.beq, hA.orb, hL.len, hL.slen, hL.sq, h1]; done) | (simp [hA.not, hA.eq, hA.lt, hA.le, hA.cond, hA.beq, hA.orb, hL.len, hL.slen, hL.sq, h1]; omega) | (simp only [h1]; simp [hA.not, hA.eq, hA.lt, hA.le, hA.cond, hA.beq, hA.orb, hL.len, hL.slen, hL.sq, h1]; omega)) ?_
    cbv
    repeat (first | (refine vcIf.yes ?_ ?_; (focus (simp [hA.not, hA.eq, hA.lt, hA.le, hA.cond, hA.beq, hA.orb, hL.len, hL.slen, hL.sq]; done)); cbv) | (refine vcIf.no ?_ ?_; (focus (simp [hA.not, hA.eq, hA.lt, hA.le, hA.cond, hA.beq, hA.orb, hL.len, hL.slen, hL.sq]; done)); cbv) | fail)
    exact hret _ (RetEv.ret eOk rfl ⟨false, this.symm, rfl⟩)
  refine vcIf.no (by first | (simp [hA.not, hA.eq, hA.lt, hA.le, hA.cond, hA.beq, hA.orb, hL.len, hL.slen, hL.sq, h1]; done) | (simp only [h1]; simp [hA.not, hA.eq, hA.lt, hA.le, hA.cond, hA.beq, hA.orb, hL.len, hL.slen, hL.sq, h1]; done) | (simp [hA.not, hA.eq, hA.lt, hA.le, hA.cond, hA.beq, hA.orb, hL.len, hL.slen, hL.sq, h1]; omega) | (simp only [h1]; simp [hA.not, hA.eq, hA.lt, hA.le, hA.cond, hA.beq, hA.orb, hL.len, hL.slen, hL.sq, h1]; omega)) ?_
  cbv
  by_cases h2 : M ≤ 24
  rotate_left
  · have : R = false := by rw [Bool.eq_false_iff]; exact fun c => h2 (hR2.1 c).2.1
    refine vcIf.yes (by first | (simp [hA.not, hA.eq, hA.lt, hA.le, hA.cond, hA.beq, hA.orb, hL.len, hL.slen, hL.sq, hlx, h2]; done) | (simp only [hlx, h2]; simp [hA.not, hA.eq, hA.lt, hA.le, hA.cond, hA.beq, hA.orb, hL.len, hL.slen, hL.sq, hlx, h2]; done) | (simp [hA.not, hA.eq, hA.lt, hA.le, hA.cond, hA.beq, hA.orb, hL.len, hL.slen, hL.sq, hlx, h2]; omega) | (simp only [hlx, h2]; simp [hA.not, hA.eq, hA.lt, hA.le, hA.cond, hA.beq, hA.orb, hL.len, hL.slen, hL.sq, hlx, h2]; omega)) ?_
    cbv
    repeat (first | (refine vcIf.yes ?_ ?_; (focus (simp [hA.not, hA.eq, hA.lt, hA.le, hA.cond, hA.beq, hA.orb, hL.len, hL.slen, hL.sq]; done)); cbv) | (refine vcIf.no ?_ ?_; (focus (simp [hA.not, hA.eq, hA.lt, hA.le, hA.cond, hA.beq, hA.orb, hL.len, hL.slen, hL.sq]; done)); cbv) | fail)
    exact hret _ (RetEv.ret eOk rfl ⟨false, this.symm, rfl⟩)
  refine vcIf.no (by first | (simp [hA.not, hA.eq, hA.lt, hA.le, hA.cond, hA.beq, hA.orb, hL.len, hL.slen, hL.sq, hlx, h2]; done) | (simp only [hlx, h2]; simp [hA.not, hA.eq, hA.lt, hA.le, hA.cond, hA.beq, hA.orb, hL.len, hL.slen, hL.sq, hlx, h2]; done) | (simp [hA.not, hA.eq, hA.lt, hA.le, hA.cond, hA.beq, hA.orb, hL.len, hL.slen, hL.sq, hlx, h2]; omega) | (simp only [hlx, h2]; simp [hA.not, hA.eq, hA.lt, hA.le, hA.cond, hA.beq, hA.orb, hL.len, hL.slen, hL.sq, hlx, h2]; omega)) ?_
  cbv
  by_cases h3 : N ≤ 24
  rotate_left
  · have : R = false := by rw [Bool.eq_false_iff]; exact fun c => h3 (hR2.1 c).2.2.1
    refine vcIf.yes (by first | (simp [hA.not, hA.eq, hA.lt, hA.le, hA.cond, hA.beq, hA.orb, hL.len, hL.slen, hL.sq, hlz, h3]; done) | (simp only [hlz, h3]; simp [hA.not, hA.eq, hA.lt, hA.le, hA.cond, hA.beq, hA.orb, hL.len, hL.slen, hL.sq, hlz, h3]; done) | (simp [hA.not, hA.eq, hA.lt, hA.le, hA.cond, hA.beq, hA.orb, hL.len, hL.slen, hL.sq, hlz, h3]; omega) | (simp only [hlz, h3]; simp [hA.not, hA.eq, hA.lt, hA.le, hA.cond, hA.beq, hA.orb, hL.len, hL.slen, hL.sq, hlz, h3]; omega)) ?_
    cbv
    repeat (first | (refine vcIf.yes ?_ ?_; (focus (simp [hA.not, hA.eq, hA.lt, hA.le, hA.cond, hA.beq, hA.orb, hL.len, hL.slen, hL.sq]; done)); cbv) | (refine vcIf.no ?_ ?_; (focus (simp [hA.not, hA.eq, hA.lt, hA.le, hA.cond, hA.beq, hA.orb, hL.len, hL.slen, hL.sq]; done)); cbv) | fail)
    exact hret _ (RetEv.ret eOk rfl ⟨false, this.symm, rfl⟩)
  refine vcIf.no (by first | (simp [hA.not, hA.eq, hA.lt, hA.le, hA.cond, hA.beq, hA.orb, hL.len, hL.slen, hL.sq, hlz, h3]; done) | (simp only [hlz, h3]; simp [hA.not, hA.eq, hA.lt, hA.le, hA.cond, hA.beq, hA.orb, hL.len, hL.slen, hL.sq, hlz, h3]; done) | (simp [hA.not, hA.eq, hA.lt, hA.le, hA.cond, hA.beq, hA.orb, hL.len, hL.slen, hL.sq, hlz, h3]; omega) | (simp only [hlz, h3]; simp [hA.not, hA.eq, hA.lt, hA.le, hA.cond, hA.beq, hA.orb, hL.len, hL.slen, hL.sq, hlz, h3]; omega)) ?_
  cbv
  refine hcall _ _ _ _ _ (CallEv.same hc rfl ?_)
  rintro _ _ ⟨e, he, rfl, rfl⟩
  cbv
  by_cases h4 : e = 0
  rotate_left
  · have : R = false := by rw [Bool.eq_false_iff]; exact fun c => h4 (he.trans (hR2.1 c).2.2.2.1)
    refine vcIf.yes (by first | (simp [hA.not, hA.eq, hA.lt, hA.le, hA.cond, hA.beq, hA.orb, hL.len, hL.slen, hL.sq, h4]; done) | (simp only [h4]; simp [hA.not, hA.eq, hA.lt, hA.le, hA.cond, hA.beq, hA.orb, hL.len, hL.slen, hL.sq, h4]; done) | (simp [hA.not, hA.eq, hA.lt, hA.le, hA.cond, hA.beq, hA.orb, hL.len, hL.slen, hL.sq, h4]; omega) | (simp only [h4]; simp [hA.not, hA.eq, hA.lt, hA.le, hA.cond, hA.beq, hA.orb, hL.len, hL.slen, hL.sq, h4]; omega)) ?_
    cbv
    repeat (first | (refine vcIf.yes ?_ ?_; (focus (simp [hA.not, hA.eq, hA.lt, hA.le, hA.cond, hA.beq, hA.orb, hL.len, hL.slen, hL.sq]; done)); cbv) | (refine vcIf.no ?_ ?_; (focus (simp [hA.not, hA.eq, hA.lt, hA.le, hA.cond, hA.beq, hA.orb, hL.len, hL.slen, hL.sq]; done)); cbv) | fail)
    exact hret _ (RetEv.ret eOk rfl ⟨false, this.symm, rfl⟩)
  refine vcIf.no (by first | (simp [hA.not, hA.eq, hA.lt, hA.le, hA.cond, hA.beq, hA.orb, hL.len, hL.slen, hL.sq, h4]; done) | (simp only [h4]; simp [hA.not, hA.eq, hA.lt, hA.le, hA.cond, hA.beq, hA.orb, hL.len, hL.slen, hL.sq, h4]; done) | (simp [hA.not, hA.eq, hA.lt, hA.le, hA.cond, hA.beq, hA.orb, hL.len, hL.slen, hL.sq, h4]; omega) | (simp only [h4]; simp [hA.not, hA.eq, hA.lt, hA.le, hA.cond, hA.beq, hA.orb, hL.len, hL.slen, hL.sq, h4]; omega)) ?_
  cbv
  refine hcode _ _ _ (CodeEv.loop eOk fOk (ι := Nat) (fun s => [(1, .own 0 0), (3, .p (.int .i64 (Int.ofNat s)))])
    (fun s => [.st 52 [.p (.int .i64 r), .p (.sl xs), .p (.sl zs)]]) (fun s => s ≤ M ∧ (sp.take s).any Spn.bad = false) (fun s => M - s) 0 ?_ ?_)
  · exact ⟨(by repeat (first | exact trivial | refine And.intro rfl ?_)), rfl, Nat.zero_le _, rfl⟩
  rintro i ⟨k1, k2⟩ rd hrd
  intro add1 sub1 mul1 quo1 rem1 band1 bor1 bxor1 bclr1 shl1 shr1 ieq1 ilt1 ile1 seq1 slt1 beq1 bnot1 orb1 bcond1 iwrap1 iof1 ssz1 hA1 cat1 sq1 sl1 imin1 imax1 smin1 smax1 len1 slen1 u81 hL1 op1 hop1 call1 hcall1 code1 hcode1
  have hlx1 : len1 xs = Int.ofNat M := by rw [hL1.len, hxl]; rfl
  have hadd1 : i < M → add1 .i64 (Int.ofNat i) 1 = Int.ofNat (i + 1) := fun _ => by rw [hA1.add, IntWalk.i64_in _ (by simp only [Int.ofNat_eq_natCast]; omega)]; rfl
  cbv
  by_cases hi : i < M
  · obtain ⟨c, hc⟩ := get_of_lt (show i < sp.length by omega)
    have hzz : xs[i]? = some (.agg [.str c.lo, .str c.hi]) := by rw [hxs]; exact pP_get hc
    have htk : sp.take (i + 1) = sp.take i ++ [c] := by rw [List.take_add_one, hc]; rfl
    have hcb : c.bad = true → false = R := fun h => by
      cases R with
      | false => rfl
      | true => have := List.any_eq_false.1 (hR2.1 rfl).2.2.2.2 c (List.mem_of_getElem? hc); exact absurd h this
    have hcg : c.bad = false → (sp.take (i + 1)).any Spn.bad = false := fun h => by rw [htk, List.any_append, k2]; simp [h]
    have hbad : c.bad = true ↔ (17 < c.lo.length ∨ 17 < c.hi.length ∨ Op.bytesLess c.hi c.lo = true) := by unfold Spn.bad; rw [decide_eq_true_eq]
    obtain ⟨C, hC⟩ : ∃ C, C = c.bad := ⟨_, rfl⟩
    rw [← hC] at hcb hcg hbad
    clear hC htk hc
    obtain ⟨lo, hi'⟩ := c
    simp only at hzz hbad
    obtain ⟨kn, hkn⟩ : ∃ n, n = lo.length := ⟨_, rfl⟩
    obtain ⟨vn, hvn⟩ : ∃ n, n = hi'.length := ⟨_, rfl⟩
    rw [← hkn, ← hvn] at hbad
    refine vcIf.yes (by first | (simp [hA1.not, hA1.eq, hA1.lt, hA1.le, hA1.cond, hA1.beq, hA1.orb, hL1.len, hL1.slen, hL1.sq, hi, hlx1]; done) | (simp only [hi, hlx1]; simp [hA1.not, hA1.eq, hA1.lt, hA1.le, hA1.cond, hA1.beq, hA1.orb, hL1.len, hL1.slen, hL1.sq, hi, hlx1]; done) | (simp [hA1.not, hA1.eq, hA1.lt, hA1.le, hA1.cond, hA1.beq, hA1.orb, hL1.len, hL1.slen, hL1.sq, hi, hlx1]; omega) | (simp only [hi, hlx1]; simp [hA1.not, hA1.eq, hA1.lt, hA1.le, hA1.cond, hA1.beq, hA1.orb, hL1.len, hL1.slen, hL1.sq, hi, hlx1]; omega)) ?_
    cbv
    refine hcode1 _ _ _ (CodeEv.drawT eOk fOk (by kernel_rfl) noX (.rd 0 (.rd 1 (.so 2 (.so 3 (.so 4 (.so 5 (.so 6 (.so 7 (.so 8 (.rd 9 (.rd 10 (.so 11 (.so 12 (.so 13 (.so 14 (.so 15 (.so 16 (.so 17 (.so 18 (.rd 19 (.rd 20 (.rd 21 (.rd 22 (.rd 23 (.rd 24 (.rd 25 (.rd 26 (.so 27 (.so 28 (.so 29 (.so 30 (.so 31 (.so 32 (.done)))))))))))))))))))))))))))))))))) (by kernel_rfl) (by kernel_rfl) ?_)
    intro add2 sub2 mul2 quo2 rem2 band2 bor2 bxor2 bclr2 shl2 shr2 ieq2 ilt2 ile2 seq2 slt2 beq2 bnot2 orb2 bcond2 iwrap2 iof2 ssz2 hA2 cat2 sq2 sl2 imin2 imax2 smin2 smax2 len2 slen2 u82 hL2 op2 hop2 call2 hcall2 code2 hcode2 q2 hq2
    have hk2 : slen2 lo = Int.ofNat kn := by rw [hL2.slen, hkn]; rfl
    have hv2 : slen2 hi' = Int.ofNat vn := by rw [hL2.slen, hvn]; rfl
    cbv
    refine ⟨i, _, rfl, hzz, rfl, ?_⟩
    cbv
    by_cases c1 : 17 < kn
    · refine vcIf.yes (by first | (simp [hA2.not, hA2.eq, hA2.lt, hA2.le, hA2.cond, hA2.beq, hA2.orb, hL2.len, hL2.slen, hL2.sq, hk2, c1]; done) | (simp only [hk2, c1]; simp [hA2.not, hA2.eq, hA2.lt, hA2.le, hA2.cond, hA2.beq, hA2.orb, hL2.len, hL2.slen, hL2.sq, hk2, c1]; done) | (simp [hA2.not, hA2.eq, hA2.lt, hA2.le, hA2.cond, hA2.beq, hA2.orb, hL2.len, hL2.slen, hL2.sq, hk2, c1]; omega) | (simp only [hk2, c1]; simp [hA2.not, hA2.eq, hA2.lt, hA2.le, hA2.cond, hA2.beq, hA2.orb, hL2.len, hL2.slen, hL2.sq, hk2, c1]; omega)) ?_
      cbv
      repeat (first | (refine vcIf.yes ?_ ?_; (focus (simp [hA2.not, hA2.eq, hA2.lt, hA2.le, hA2.cond, hA2.beq, hA2.orb, hL2.len, hL2.slen, hL2.sq]; done)); cbv) | (refine vcIf.no ?_ ?_; (focus (simp [hA2.not, hA2.eq, hA2.lt, hA2.le, hA2.cond, hA2.beq, hA2.orb, hL2.len, hL2.slen, hL2.sq]; done)); cbv) | fail)
      refine hq2 _ ?_
      cbv
      repeat (first | (refine vcIf.yes ?_ ?_; (focus (simp [hA1.not, hA1.eq, hA1.lt, hA1.le, hA1.cond, hA1.beq, hA1.orb, hL1.len, hL1.slen, hL1.sq]; done)); cbv) | (refine vcIf.no ?_ ?_; (focus (simp [hA1.not, hA1.eq, hA1.lt, hA1.le, hA1.cond, hA1.beq, hA1.orb, hL1.len, hL1.slen, hL1.sq]; done)); cbv) | fail)
      exact hret _ (RetEv.ret eOk rfl ⟨false, hcb (hbad.2 (.inl c1)), rfl⟩)
    refine vcIf.no (by first | (simp [hA2.not, hA2.eq, hA2.lt, hA2.le, hA2.cond, hA2.beq, hA2.orb, hL2.len, hL2.slen, hL2.sq, hk2, c1]; done) | (simp only [hk2, c1]; simp [hA2.not, hA2.eq, hA2.lt, hA2.le, hA2.cond, hA2.beq, hA2.orb, hL2.len, hL2.slen, hL2.sq, hk2, c1]; done) | (simp [hA2.not, hA2.eq, hA2.lt, hA2.le, hA2.cond, hA2.beq, hA2.orb, hL2.len, hL2.slen, hL2.sq, hk2, c1]; omega) | (simp only [hk2, c1]; simp [hA2.not, hA2.eq, hA2.lt, hA2.le, hA2.cond, hA2.beq, hA2.orb, hL2.len, hL2.slen, hL2.sq, hk2, c1]; omega)) ?_
    cbv
    refine ⟨i, _, rfl, hzz, rfl, ?_⟩
    cbv
    by_cases c2 : 17 < vn
    · refine vcIf.yes (by first | (simp [hA2.not, hA2.eq, hA2.lt, hA2.le, hA2.cond, hA2.beq, hA2.orb, hL2.len, hL2.slen, hL2.sq, hv2, c2]; done) | (simp only [hv2, c2]; simp [hA2.not, hA2.eq, hA2.lt, hA2.le, hA2.cond, hA2.beq, hA2.orb, hL2.len, hL2.slen, hL2.sq, hv2, c2]; done) | (simp [hA2.not, hA2.eq, hA2.lt, hA2.le, hA2.cond, hA2.beq, hA2.orb, hL2.len, hL2.slen, hL2.sq, hv2, c2]; omega) | (simp only [hv2, c2]; simp [hA2.not, hA2.eq, hA2.lt, hA2.le, hA2.cond, hA2.beq, hA2.orb, hL2.len, hL2.slen, hL2.sq, hv2, c2]; omega)) ?_
      cbv
      repeat (first | (refine vcIf.yes ?_ ?_; (focus (simp [hA2.not, hA2.eq, hA2.lt, hA2.le, hA2.cond, hA2.beq, hA2.orb, hL2.len, hL2.slen, hL2.sq]; done)); cbv) | (refine vcIf.no ?_ ?_; (focus (simp [hA2.not, hA2.eq, hA2.lt, hA2.le, hA2.cond, hA2.beq, hA2.orb, hL2.len, hL2.slen, hL2.sq]; done)); cbv) | fail)
      refine hq2 _ ?_
      cbv
      repeat (first | (refine vcIf.yes ?_ ?_; (focus (simp [hA1.not, hA1.eq, hA1.lt, hA1.le, hA1.cond, hA1.beq, hA1.orb, hL1.len, hL1.slen, hL1.sq]; done)); cbv) | (refine vcIf.no ?_ ?_; (focus (simp [hA1.not, hA1.eq, hA1.lt, hA1.le, hA1.cond, hA1.beq, hA1.orb, hL1.len, hL1.slen, hL1.sq]; done)); cbv) | fail)
      exact hret _ (RetEv.ret eOk rfl ⟨false, hcb (hbad.2 (.inr (.inl c2))), rfl⟩)
    refine vcIf.no (by first | (simp [hA2.not, hA2.eq, hA2.lt, hA2.le, hA2.cond, hA2.beq, hA2.orb, hL2.len, hL2.slen, hL2.sq, hv2, c2]; done) | (simp only [hv2, c2]; simp [hA2.not, hA2.eq, hA2.lt, hA2.le, hA2.cond, hA2.beq, hA2.orb, hL2.len, hL2.slen, hL2.sq, hv2, c2]; done) | (simp [hA2.not, hA2.eq, hA2.lt, hA2.le, hA2.cond, hA2.beq, hA2.orb, hL2.len, hL2.slen, hL2.sq, hv2, c2]; omega) | (simp only [hv2, c2]; simp [hA2.not, hA2.eq, hA2.lt, hA2.le, hA2.cond, hA2.beq, hA2.orb, hL2.len, hL2.slen, hL2.sq, hv2, c2]; omega)) ?_
    cbv
    refine ⟨i, _, rfl, hzz, rfl, ?_⟩
    cbv
    refine ⟨i, _, rfl, hzz, rfl, ?_⟩
    cbv
    refine hq2 _ ?_
    cbv
    have hev : bcond2 false true (bnot2 (orb2 (sl2 lo hi') (sq2 lo hi'))) = Op.bytesLess hi' lo := by
      rw [hA2.cond, hA2.not, hA2.orb, hL2.sl, hL2.sq]
      exact bl_gt lo hi'
    by_cases c3 : Op.bytesLess hi' lo = true
    · refine vcIf.yes (hev.trans c3) ?_
      cbv
      exact hret _ (RetEv.ret eOk rfl ⟨false, hcb (hbad.2 (.inr (.inr c3))), rfl⟩)
    refine vcIf.no (hev.trans (by simpa using c3)) ?_
    cbv
    refine hrd _ ⟨i + 1, [], ?_, ⟨hi, ?_⟩, rfl, ⟨rfl, ?_, trivial⟩, rfl, rfl, rfl, ?_⟩
    · show M - (i + 1) < M - i
      omega
    · refine hcg (Bool.eq_false_iff.2 fun h => ?_)
      rcases hbad.1 h with h | h | h
      · exact c1 h
      · exact c2 h
      · exact c3 h
    · show some (V.p (.int .i64 _)) = _
      rw [hadd1 hi]
    · rw [hB]; exact Nat.zero_le _
  · refine vcIf.no (by first | (simp [hA1.not, hA1.eq, hA1.lt, hA1.le, hA1.cond, hA1.beq, hA1.orb, hL1.len, hL1.slen, hL1.sq, hi, hlx1]; done) | (simp only [hi, hlx1]; simp [hA1.not, hA1.eq, hA1.lt, hA1.le, hA1.cond, hA1.beq, hA1.orb, hL1.len, hL1.slen, hL1.sq, hi, hlx1]; done) | (simp [hA1.not, hA1.eq, hA1.lt, hA1.le, hA1.cond, hA1.beq, hA1.orb, hL1.len, hL1.slen, hL1.sq, hi, hlx1]; omega) | (simp only [hi, hlx1]; simp [hA1.not, hA1.eq, hA1.lt, hA1.le, hA1.cond, hA1.beq, hA1.orb, hL1.len, hL1.slen, hL1.sq, hi, hlx1]; omega)) ?_
    cbv
    rw [List.take_of_length_le (by omega)] at k2
    exact hret _ (RetEv.ret eOk rfl ⟨true, (hR2.2 ⟨h1, h2, h3, he.symm.trans h4, k2⟩).symm, rfl⟩)
theorem rTxn_spec (s : Tx) (hs : s.fit) (xs zs : List PV) (hxs : xs = pP s.sp) (hzs : zs = cP s.ch) :
    FnL Try.prog 36 [.p (.agg [.int .i64 s.r, .sl xs, .sl zs])] [] fun v own => ∃ b, b = s.okB ∧ v = .p (.bool b) ∧ own = [] := rTxn_spec' s hs.2.2.1 hs.2.2.2 xs zs hxs hzs
end Go.Proofs.Ytknhlbohjiphgaa
