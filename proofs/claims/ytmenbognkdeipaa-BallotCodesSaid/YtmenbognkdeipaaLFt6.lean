/- The document's changes read. Conditions: on sizes. -/
import Derived.Test.YtmenbognkdeipaaLFt5
set_option maxRecDepth 100000
set_option maxHeartbeats 4000000
set_option linter.unusedSimpArgs false
set_option linter.unusedVariables false
namespace Go.Proofs.Ytmenbognkdeipaa
open Go Go.Lx
open Go.Sx (vcIf)

structure CJ where
  i : Nat
  ys : List PV
  b : Bool
  zs : List PV
theorem rgetChgs_spec (l : List UInt8) (hl : l.length < 9223372036854775807) (e : Nat) (ys : List PV) (hys : ys = bP l) (bad : Bool) (hbad : bad = decide (e ≠ 0)) (most : Nat) (hm : most ≤ 100000) :
    FnL Try.prog 73 [.own 0 0, .p (.int .i64 (most : Int))] [rrSt ys bad] fun z own => ∃ (n i : Nat) (l0 : List UInt8) (e0 : Nat) (cs : List Chg) (l' : List UInt8) (e' : Nat) (us zs : List PV) (b : Bool), (n, l0, e0) = rdC l e most ∧ i ≤ n ∧ (i = n ∨ e' ≠ 0) ∧ (cs, l', e') = rdGsT i l0 e0 ∧ us = bP l' ∧ zs = cP cs ∧ b = decide (e' ≠ 0) ∧ z = .p (.sl zs) ∧ own = [rrSt us b] := by
  refine FnL.less (R := fun z own => ∃ (n i : Nat) (l0 : List UInt8) (e0 : Nat) (cs : List Chg) (l' : List UInt8) (e' : Nat) (us zs : List PV) (b : Bool), (n, l0, e0) = rdC l e most ∧ i ≤ n ∧ (i = n ∨ e' ≠ 0) ∧ (cs, l', e') = rdGsT i l0 e0 ∧ us = bP l' ∧ zs = cP cs ∧ b = decide (e' ≠ 0) ∧ z = .p (.sl zs) ∧ ∃ r, own = rrSt us b :: r) ?_ ?_
  rotate_left
  · rintro _ _ ⟨n, i, l0, e0, cs, l', e', us, zs, b, h1, h2, h3, h4, h5, h6, h7, rfl, r, rfl⟩
    exact ⟨_, [rrSt us b], r, rfl, .refl _, rfl, rfl, Nat.le_refl _, n, i, l0, e0, cs, l', e', us, zs, b, h1, h2, h3, h4, h5, h6, h7, rfl, rfl⟩
  have hN0 := rrNum_spec l e ys hys bad hbad
  refine fn_of_vc eOk fOk fo73 Try.func73 rfl rfl rfl fun B hB => ?_
  intro add sub mul quo rem band bor bxor bclr shl shr ieq ilt ile seq slt beq bnot orb bcond iwrap iof ssz hA cat sq sl imin imax smin smax len slen u8 hL op hop call hcall code hcode ret hret
  cbv
  refine hcall _ _ _ _ _ (CallEv.lend [0] hN0 rfl (.cons (.own 0 0 0 rfl) .nil) (rrL rfl) ?_)
  rintro _ _ ⟨n, l0, e0, z0, b0, h0, g0, d0, rfl, rfl⟩
  cbv
  by_cases hnm : most < n
  · have hc : (0, l0, 2) = rdC l e most := by unfold rdC; rw [← h0]; exact (if_pos hnm).symm
    refine vcIf.yes (by first | (simp [hA.not, hA.eq, hA.lt, hA.le, hA.cond, hA.beq, hA.orb, hL.len, hL.slen, hL.sq, hnm]; done) | (simp only [hnm]; simp [hA.not, hA.eq, hA.lt, hA.le, hA.cond, hA.beq, hA.orb, hL.len, hL.slen, hL.sq, hnm]; done) | (simp [hA.not, hA.eq, hA.lt, hA.le, hA.cond, hA.beq, hA.orb, hL.len, hL.slen, hL.sq, hnm]; omega) | (simp only [hnm]; simp [hA.not, hA.eq, hA.lt, hA.le, hA.cond, hA.beq, hA.orb, hL.len, hL.slen, hL.sq, hnm]; omega)) ?_
    cbv
    refine ⟨false, ?_⟩
    cbv
    refine hcode _ _ _ (CodeEv.loop eOk fOk (ι := Unit) (fun s => [(0, .own 0 0), (1, .p (.int .i64 (Int.ofNat most))), (5, .p (.int .i64 (Int.ofNat n))), (6, .p (.sl [])), (7, .p (.int .i64 0))])
      (fun s => [rrSt z0 true]) (fun s => True) (fun s => 0) () ?_ ?_)
    · exact ⟨(by repeat (first | exact trivial | refine And.intro rfl ?_)), rfl, trivial⟩
    rintro _ _ rd hrd
    intro add1 sub1 mul1 quo1 rem1 band1 bor1 bxor1 bclr1 shl1 shr1 ieq1 ilt1 ile1 seq1 slt1 beq1 bnot1 orb1 bcond1 iwrap1 iof1 ssz1 hA1 cat1 sq1 sl1 imin1 imax1 smin1 smax1 len1 slen1 u81 hL1 op1 hop1 call1 hcall1 code1 hcode1
    have hn0 : 0 < n := by omega
    cbv
    refine vcIf.yes (by first | (simp [hA1.not, hA1.eq, hA1.lt, hA1.le, hA1.cond, hA1.beq, hA1.orb, hL1.len, hL1.slen, hL1.sq, hn0]; done) | (simp only [hn0]; simp [hA1.not, hA1.eq, hA1.lt, hA1.le, hA1.cond, hA1.beq, hA1.orb, hL1.len, hL1.slen, hL1.sq, hn0]; done) | (simp [hA1.not, hA1.eq, hA1.lt, hA1.le, hA1.cond, hA1.beq, hA1.orb, hL1.len, hL1.slen, hL1.sq, hn0]; omega) | (simp only [hn0]; simp [hA1.not, hA1.eq, hA1.lt, hA1.le, hA1.cond, hA1.beq, hA1.orb, hL1.len, hL1.slen, hL1.sq, hn0]; omega)) ?_
    cbv
    repeat (first | (refine vcIf.yes ?_ ?_; (focus (simp [hA1.not, hA1.eq, hA1.lt, hA1.le, hA1.cond, hA1.beq, hA1.orb, hL1.len, hL1.slen, hL1.sq]; done)); cbv) | (refine vcIf.no ?_ ?_; (focus (simp [hA1.not, hA1.eq, hA1.lt, hA1.le, hA1.cond, hA1.beq, hA1.orb, hL1.len, hL1.slen, hL1.sq]; done)); cbv) | fail)
    exact hret _ (RetEv.ret eOk rfl ⟨0, 0, l0, 2, [], l0, 2, z0, [], true, hc, Nat.le_refl _, .inl rfl, rfl, g0, rfl, rfl, rfl, [], rfl⟩)
  · have hc : (n, l0, e0) = rdC l e most := by unfold rdC; rw [← h0]; exact (if_neg hnm).symm
    have hln := rdN_len h0
    refine vcIf.no (by first | (simp [hA.not, hA.eq, hA.lt, hA.le, hA.cond, hA.beq, hA.orb, hL.len, hL.slen, hL.sq, hnm]; done) | (simp only [hnm]; simp [hA.not, hA.eq, hA.lt, hA.le, hA.cond, hA.beq, hA.orb, hL.len, hL.slen, hL.sq, hnm]; done) | (simp [hA.not, hA.eq, hA.lt, hA.le, hA.cond, hA.beq, hA.orb, hL.len, hL.slen, hL.sq, hnm]; omega) | (simp only [hnm]; simp [hA.not, hA.eq, hA.lt, hA.le, hA.cond, hA.beq, hA.orb, hL.len, hL.slen, hL.sq, hnm]; omega)) ?_
    cbv
    refine ⟨true, ?_⟩
    cbv
    refine hcode _ _ _ (CodeEv.loop eOk fOk (ι := CJ) (fun s => [(0, .own 0 0), (1, .p (.int .i64 (Int.ofNat most))), (5, .p (.int .i64 (Int.ofNat n))), (6, .vw 1 3 0 s.i none), (7, .p (.int .i64 (Int.ofNat s.i)))])
      (fun s => [rrSt s.ys s.b, .arr 126 3 s.zs])
      (fun s => s.i ≤ n ∧ s.ys = bP (rdGsT s.i l0 e0).2.1 ∧ s.b = decide ((rdGsT s.i l0 e0).2.2 ≠ 0) ∧ s.zs = cP (rdGsT s.i l0 e0).1) (fun s => n - s.i) ⟨0, z0, b0, []⟩ ?_ ?_)
    · exact ⟨(by repeat (first | exact trivial | refine And.intro rfl ?_)), rfl, Nat.zero_le _, g0, d0, rfl⟩
    rintro ⟨i, ys, b, zs⟩ ⟨k1, k2, k3, k4⟩ rd hrd
    simp only at k1 k2 k3 k4
    obtain ⟨hil, hll⟩ := rdGsT_len i l0 e0
    have hstep := show rdGsT (i + 1) l0 e0 = _ from by rw [rdGsT]
    obtain ⟨⟨cs, li, ei⟩, hT⟩ : ∃ x, x = rdGsT i l0 e0 := ⟨_, rfl⟩
    rw [← hT] at k2 k3 k4 hil hll hstep
    simp only at k2 k3 k4 hil hll hstep
    have hzl : zs.length = i := by rw [k4, cP_length, hil]
    have hN := rrNum_spec li ei ys k2 b k3
    intro add1 sub1 mul1 quo1 rem1 band1 bor1 bxor1 bclr1 shl1 shr1 ieq1 ilt1 ile1 seq1 slt1 beq1 bnot1 orb1 bcond1 iwrap1 iof1 ssz1 hA1 cat1 sq1 sl1 imin1 imax1 smin1 smax1 len1 slen1 u81 hL1 op1 hop1 call1 hcall1 code1 hcode1
    have hadd1 : i < n → add1 .i64 (Int.ofNat i) 1 = Int.ofNat (i + 1) := fun h => by rw [hA1.add, IntWalk.i64_in _ (by simp only [Int.ofNat_eq_natCast]; omega)]; rfl
    cbv
    by_cases hi : i < n
    · refine vcIf.yes (by first | (simp [hA1.not, hA1.eq, hA1.lt, hA1.le, hA1.cond, hA1.beq, hA1.orb, hL1.len, hL1.slen, hL1.sq, hi]; done) | (simp only [hi]; simp [hA1.not, hA1.eq, hA1.lt, hA1.le, hA1.cond, hA1.beq, hA1.orb, hL1.len, hL1.slen, hL1.sq, hi]; done) | (simp [hA1.not, hA1.eq, hA1.lt, hA1.le, hA1.cond, hA1.beq, hA1.orb, hL1.len, hL1.slen, hL1.sq, hi]; omega) | (simp only [hi]; simp [hA1.not, hA1.eq, hA1.lt, hA1.le, hA1.cond, hA1.beq, hA1.orb, hL1.len, hL1.slen, hL1.sq, hi]; omega)) ?_
      cbv
      cases b with
      | false =>
        cbv
        repeat (first | (refine vcIf.yes ?_ ?_; (focus (simp [hA1.not, hA1.eq, hA1.lt, hA1.le, hA1.cond, hA1.beq, hA1.orb, hL1.len, hL1.slen, hL1.sq]; done)); cbv) | (refine vcIf.no ?_ ?_; (focus (simp [hA1.not, hA1.eq, hA1.lt, hA1.le, hA1.cond, hA1.beq, hA1.orb, hL1.len, hL1.slen, hL1.sq]; done)); cbv) | fail)
        refine hcall1 _ _ _ _ _ (CallEv.lend [0] hN rfl (.cons (.own 0 0 0 rfl) .nil) (rrL rfl) ?_)
        rintro _ _ ⟨n1, l1, e1, y1, b1, q1, g1, d1, rfl, rfl⟩
        have w1 := rdN_len q1
        have hT1 := rrText_spec l1 (by omega) e1 y1 g1 b1 d1
        cbv
        refine hcall1 _ _ _ _ _ (CallEv.lend [0] hT1 rfl (.cons (.own 0 0 0 rfl) .nil) (rrL rfl) ?_)
        rintro _ _ ⟨s2, l2, e2, y2, b2, q2, g2, d2, rfl, rfl⟩
        have w2 := rdT_len q2
        have hT2 := rrText_spec l2 (by omega) e2 y2 g2 b2 d2
        cbv
        refine hcall1 _ _ _ _ _ (CallEv.lend [0] hT2 rfl (.cons (.own 0 0 0 rfl) .nil) (rrL rfl) ?_)
        rintro _ _ ⟨s3, l3, e3, y3, b3, q3, g3, d3, rfl, rfl⟩
        have hGx := rdG_of q1 q2 q3
        rw [hGx] at hstep
        simp only at hstep
        cbv
        refine ⟨false, ?_⟩
        cbv
        refine .inl ⟨(), rfl, hzl.symm, Wf.one (Chg.wf ⟨(n1 : Int), s2, s3⟩), ?_, ?_, ?_⟩
        · show i + 1 ≤ maxLen
          unfold maxLen; omega
        · show (i + 1) * 40 ≤ _
          omega
        intro us n' hu hn'
        replace hu : us = zs ++ [Chg.v ⟨(n1 : Int), s2, s3⟩] := hu
        obtain rfl : n' = i + 1 := hn'
        cbv
        refine hrd _ ⟨⟨i + 1, y3, b3, us⟩, _, ?_, ⟨hi, ?_, ?_, ?_⟩, rfl, ⟨rfl, rfl, rfl, rfl, ?_, trivial⟩, rfl, rfl, rfl, ?_⟩
        · simp only; omega
        · simp only; rw [hstep]; exact g3
        · simp only; rw [hstep]; exact d3
        · simp only; rw [hstep, hu, k4]; simp [cP]
        · show some (V.p (.int .i64 _)) = _
          rw [hadd1 hi]
        · rw [hB]; exact Nat.le_succ _
      | true =>
        have he := of_decide_eq_true k3.symm
        cbv
        repeat (first | (refine vcIf.yes ?_ ?_; (focus (simp [hA1.not, hA1.eq, hA1.lt, hA1.le, hA1.cond, hA1.beq, hA1.orb, hL1.len, hL1.slen, hL1.sq]; done)); cbv) | (refine vcIf.no ?_ ?_; (focus (simp [hA1.not, hA1.eq, hA1.lt, hA1.le, hA1.cond, hA1.beq, hA1.orb, hL1.len, hL1.slen, hL1.sq]; done)); cbv) | fail)
        refine hret _ (RetEv.retF eOk rfl 1 rfl (by rw [hB]; exact Nat.le_refl _) ⟨n, i, l0, e0, cs, li, ei, ys, zs, true, hc, k1, .inr he, hT, k2, k4, k3, ?_, _, rfl⟩)
        show V.p (.sl ((zs.drop 0).take i)) = _
        rw [frz_full hzl]
    · refine vcIf.no (by first | (simp [hA1.not, hA1.eq, hA1.lt, hA1.le, hA1.cond, hA1.beq, hA1.orb, hL1.len, hL1.slen, hL1.sq, hi]; done) | (simp only [hi]; simp [hA1.not, hA1.eq, hA1.lt, hA1.le, hA1.cond, hA1.beq, hA1.orb, hL1.len, hL1.slen, hL1.sq, hi]; done) | (simp [hA1.not, hA1.eq, hA1.lt, hA1.le, hA1.cond, hA1.beq, hA1.orb, hL1.len, hL1.slen, hL1.sq, hi]; omega) | (simp only [hi]; simp [hA1.not, hA1.eq, hA1.lt, hA1.le, hA1.cond, hA1.beq, hA1.orb, hL1.len, hL1.slen, hL1.sq, hi]; omega)) ?_
      cbv
      repeat (first | (refine vcIf.yes ?_ ?_; (focus (simp [hA1.not, hA1.eq, hA1.lt, hA1.le, hA1.cond, hA1.beq, hA1.orb, hL1.len, hL1.slen, hL1.sq]; done)); cbv) | (refine vcIf.no ?_ ?_; (focus (simp [hA1.not, hA1.eq, hA1.lt, hA1.le, hA1.cond, hA1.beq, hA1.orb, hL1.len, hL1.slen, hL1.sq]; done)); cbv) | fail)
      refine hret _ (RetEv.retF eOk rfl 1 rfl (by rw [hB]; exact Nat.le_refl _) ⟨n, i, l0, e0, cs, li, ei, ys, zs, b, hc, k1, .inl (by omega), hT, k2, k4, k3, ?_, _, rfl⟩)
      show V.p (.sl ((zs.drop 0).take i)) = _
      rw [frz_full hzl]
end Go.Proofs.Ytmenbognkdeipaa
