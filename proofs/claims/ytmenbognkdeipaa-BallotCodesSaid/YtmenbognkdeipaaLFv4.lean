/- The document's transactions laid. Conditions: on sizes. -/
import Derived.Test.YtmenbognkdeipaaLFv3
set_option maxRecDepth 100000
set_option maxHeartbeats 4000000
set_option linter.unusedSimpArgs false
set_option linter.unusedVariables false
namespace Go.Proofs.Ytmenbognkdeipaa
open Go Go.Lx
open Go.Sx (vcIf)

theorem rPutTxn_spec (s : Tx) (hs : s.fit) (xs zs : List PV) (hxs : xs = pP s.sp) (hzs : zs = cP s.ch) :
    FnL Try.prog 33 [.p (.agg [.int .i64 s.r, .sl xs, .sl zs])] [] (bytesR (tEnc s)) := by
  refine bytesR.of ?_
  have hst := rTxn_spec s hs xs zs hxs hzs
  have hok := s.ok_iff
  obtain ⟨R, hR⟩ : ∃ R, R = tEnc s := ⟨_, rfl⟩
  rw [← hR]
  unfold tEnc at hR
  obtain ⟨r, sp, ch⟩ := s
  unfold tBytes at hR
  obtain ⟨hs0, hs1, hs2, hs3⟩ := hs
  simp only at hst hok hR hxs hzs hs0 hs1 hs2 hs3 ⊢
  have hxl : xs.length = sp.length := by rw [hxs, pP_length]
  have hzl : zs.length = ch.length := by rw [hzs, cP_length]
  obtain ⟨M, hM⟩ : ∃ M, M = sp.length := ⟨_, rfl⟩
  rw [← hM] at hxl hok
  refine fn_of_vc eOk fOk fo33 Try.func33 rfl rfl rfl fun B hB => ?_
  intro add sub mul quo rem band bor bxor bclr shl shr ieq ilt ile seq slt beq bnot orb bcond iwrap iof ssz hA cat sq sl imin imax smin smax len slen u8 hL op hop call hcall code hcode ret hret
  have hlx : len xs = Int.ofNat M := by rw [hL.len, hxl]; rfl
  cbv
  refine hcall _ _ _ _ _ (CallEv.same hst rfl ?_)
  rintro _ _ ⟨b, hb, rfl, rfl⟩
  rw [← hb] at hok hR
  cbv
  cases b with
  | false =>
    rw [if_neg (by decide)] at hR
    repeat (first | (refine vcIf.yes ?_ ?_; (focus (simp [hA.not, hA.eq, hA.lt, hA.le, hA.cond, hA.beq, hA.orb, hL.len, hL.slen, hL.sq]; done)); cbv) | (refine vcIf.no ?_ ?_; (focus (simp [hA.not, hA.eq, hA.lt, hA.le, hA.cond, hA.beq, hA.orb, hL.len, hL.slen, hL.sq]; done)); cbv) | fail)
    exact hret _ (RetEv.ret eOk rfl ⟨[], [], 2, hR.symm, rfl, .inr ⟨rfl, rfl⟩⟩)
  | true =>
    rw [if_pos rfl] at hR
    obtain ⟨k1, k2, k3, k4, k5⟩ := hok.1 rfl
    have hn1 := rnumsNil_spec [r, Int.ofNat M] (fun z hz => by
      simp only [List.mem_cons, List.not_mem_nil, or_false] at hz
      rcases hz with rfl | rfl
      · exact ⟨k1, hs0.2⟩
      · simp only [Int.ofNat_eq_natCast]; omega) _ rfl (by simp)
    rw [iP2] at hn1
    have hn2 := fun (n1 : Nat) (ys1 : List PV) (w1 : ys1.length = n1) (w2 : n1 ≤ 18 + 60 * M) => rchgsRow_spec ch k4 hs1 zs hzs n1 ys1 w1 (by omega)
    cbv
    repeat (first | (refine vcIf.yes ?_ ?_; (focus (simp [hA.not, hA.eq, hA.lt, hA.le, hA.cond, hA.beq, hA.orb, hL.len, hL.slen, hL.sq]; done)); cbv) | (refine vcIf.no ?_ ?_; (focus (simp [hA.not, hA.eq, hA.lt, hA.le, hA.cond, hA.beq, hA.orb, hL.len, hL.slen, hL.sq]; done)); cbv) | fail)
    rw [hlx]
    refine ⟨false, ?_⟩
    cbv
    refine hcall _ _ _ _ _ (CallEv.same hn1 rfl ?_)
    rintro _ _ ⟨n1, ys1, w1, w2, w3, rfl, rfl⟩
    replace w3 : n1 ≤ 18 := w3
    cbv
    refine hcode _ _ _ (CodeEv.loop eOk fOk (ι := Nat × Nat × List PV) (fun s => [(1, .own 0 0), (4, .vw 1 1 0 s.2.1 none), (5, .p (.int .i64 (Int.ofNat s.1)))])
      (fun s => [.st 63 [.p (.int .i64 r), .p (.sl xs), .p (.sl zs)], wrA s.2.2]) (fun s => s.1 ≤ M ∧ s.2.2.length = s.2.1 ∧ s.2.1 ≤ 18 + 60 * s.1 ∧ s.2.2 = bP (encs [r, (sp.length : Int)] ++ (sp.take s.1).flatMap encS)) (fun s => M - s.1) (0, n1, ys1) ?_ ?_)
    · exact ⟨(by repeat (first | exact trivial | refine And.intro rfl ?_)), rfl, Nat.zero_le _, w2.symm, w3, by rw [w1, ← hM]; simp⟩
    rintro ⟨i, m, us⟩ ⟨g1, g2, g3, g4⟩ rd hrd
    simp only at g1 g2 g3 g4
    intro add1 sub1 mul1 quo1 rem1 band1 bor1 bxor1 bclr1 shl1 shr1 ieq1 ilt1 ile1 seq1 slt1 beq1 bnot1 orb1 bcond1 iwrap1 iof1 ssz1 hA1 cat1 sq1 sl1 imin1 imax1 smin1 smax1 len1 slen1 u81 hL1 op1 hop1 call1 hcall1 code1 hcode1
    have hlx1 : len1 xs = Int.ofNat M := by rw [hL1.len, hxl]; rfl
    have hadd1 : i < M → add1 .i64 (Int.ofNat i) 1 = Int.ofNat (i + 1) := fun _ => by rw [hA1.add, IntWalk.i64_in _ (by simp only [Int.ofNat_eq_natCast]; omega)]; rfl
    cbv
    by_cases hi : i < M
    · obtain ⟨c, hc⟩ := get_of_lt (show i < sp.length by omega)
      have hzz : xs[i]? = some (.agg [.str c.lo, .str c.hi]) := by rw [hxs]; exact pP_get hc
      have htk : sp.take (i + 1) = sp.take i ++ [c] := by rw [List.take_add_one, hc]; rfl
      have hco := spn_ok k5 (List.mem_of_getElem? hc)
      have hce : bP (encs [r, (sp.length : Int)] ++ (sp.take (i + 1)).flatMap encS) = us ++ bP (enct c.lo ++ enct c.hi) := by
        rw [htk, g4, List.flatMap_append, ← List.append_assoc, bP_append (encs [r, (sp.length : Int)] ++ List.flatMap encS (List.take i sp))]; simp [encS]
      have ht1 := rputText_spec c.lo m us g2 (by omega)
      have ht2 : ∀ (m1 : Nat) (us1 : List PV), m1 ≤ m + 26 → us1.length = m1 → _ := fun m1 us1 w1 w2 => rputText_spec c.hi m1 us1 w2 (by omega)
      obtain ⟨lo, hi'⟩ := c
      simp only at hzz hce ht1 ht2 hco
      refine vcIf.yes (by first | (simp [hA1.not, hA1.eq, hA1.lt, hA1.le, hA1.cond, hA1.beq, hA1.orb, hL1.len, hL1.slen, hL1.sq, hi, hlx1]; done) | (simp only [hi, hlx1]; simp [hA1.not, hA1.eq, hA1.lt, hA1.le, hA1.cond, hA1.beq, hA1.orb, hL1.len, hL1.slen, hL1.sq, hi, hlx1]; done) | (simp [hA1.not, hA1.eq, hA1.lt, hA1.le, hA1.cond, hA1.beq, hA1.orb, hL1.len, hL1.slen, hL1.sq, hi, hlx1]; omega) | (simp only [hi, hlx1]; simp [hA1.not, hA1.eq, hA1.lt, hA1.le, hA1.cond, hA1.beq, hA1.orb, hL1.len, hL1.slen, hL1.sq, hi, hlx1]; omega)) ?_
      cbv
      refine hcode1 _ _ _ (CodeEv.drawT eOk fOk (by kernel_rfl) (Xof 3 [1]) (.rd 0 (.rd 1 (.rd 2 (.rd 3 (.rd 4 (.rd 5 (.rd 6 (.rd 8 (.rd 9 (.rd 10 (.rd 11 (.rd 12 (.rd 13 (.acts (.cons 7 (.acts (.cons 14 (.so 15 (.done)) (.nil))) (.nil)))))))))))))))) (by kernel_rfl) (by kernel_rfl) ?_)
      intro add2 sub2 mul2 quo2 rem2 band2 bor2 bxor2 bclr2 shl2 shr2 ieq2 ilt2 ile2 seq2 slt2 beq2 bnot2 orb2 bcond2 iwrap2 iof2 ssz2 hA2 cat2 sq2 sl2 imin2 imax2 smin2 smax2 len2 slen2 u82 hL2 op2 hop2 call2 hcall2 code2 hcode2 q2 hq2
      cbv
      refine ⟨i, _, rfl, hzz, rfl, ?_⟩
      cbv
      refine ⟨i, _, rfl, hzz, rfl, ?_⟩
      cbv
      refine hcall2 _ _ _ _ _ (CallEv.lend [1] ht1 rfl (.cons (.vw 0 1 1 0 m none rfl) (.cons (.p _) .nil)) ⟨⟨_, rfl, .arr _ _ _⟩, trivial⟩ ?_)
      rintro _ _ ⟨m1, us1, hus1, hm1, hb1, rfl, rfl⟩
      have ht2' := ht2 m1 us1 (by omega) hm1.symm
      cbv
      refine hcall2 _ _ _ _ _ (CallEv.lend [1] ht2' rfl (.cons (.vw 0 1 1 0 m1 none rfl) (.cons (.p _) .nil)) ⟨⟨_, rfl, .arr _ _ _⟩, trivial⟩ ?_)
      rintro _ _ ⟨m2, us2, hus2, hm2, hb2, rfl, rfl⟩
      cbv
      refine hq2 _ ?_
      cbv
      refine hrd _ ⟨(i + 1, m2, us2), [], ?_, ⟨hi, hm2.symm, ?_, ?_⟩, rfl, ⟨rfl, rfl, ?_, trivial⟩, rfl, rfl, rfl, ?_⟩
      · simp only; omega
      · simp only; omega
      · simp only; rw [hce, hus2, hus1]; simp [bP_append]
      · show some (V.p (.int .i64 _)) = _
        rw [hadd1 hi]
      · rw [hB]; exact Nat.zero_le _
    · refine vcIf.no (by first | (simp [hA1.not, hA1.eq, hA1.lt, hA1.le, hA1.cond, hA1.beq, hA1.orb, hL1.len, hL1.slen, hL1.sq, hi, hlx1]; done) | (simp only [hi, hlx1]; simp [hA1.not, hA1.eq, hA1.lt, hA1.le, hA1.cond, hA1.beq, hA1.orb, hL1.len, hL1.slen, hL1.sq, hi, hlx1]; done) | (simp [hA1.not, hA1.eq, hA1.lt, hA1.le, hA1.cond, hA1.beq, hA1.orb, hL1.len, hL1.slen, hL1.sq, hi, hlx1]; omega) | (simp only [hi, hlx1]; simp [hA1.not, hA1.eq, hA1.lt, hA1.le, hA1.cond, hA1.beq, hA1.orb, hL1.len, hL1.slen, hL1.sq, hi, hlx1]; omega)) ?_
      cbv
      rw [List.take_of_length_le (by omega)] at g4
      obtain rfl : i = M := by omega
      have hnn := hn2 m us g2 g3
      refine hcall _ _ _ _ _ (CallEv.lend [1] hnn rfl (.cons (.vw 0 1 1 0 m none rfl) (.cons (.p _) .nil)) ⟨⟨_, rfl, .arr _ _ _⟩, trivial⟩ ?_)
      rintro _ _ ⟨n2, ys2, u1, u2, u3, rfl, rfl⟩
      have hys : ys2 = bP (encs [r, (sp.length : Int)] ++ sp.flatMap encS ++ encCs ch) := by rw [u1, g4, ← bP_append]
      cbv
      refine hret _ (RetEv.retF eOk rfl 1 rfl (by rw [hB]; exact Nat.zero_le _) ⟨ys2, _, 0, hR.symm, hys, .inl ?_⟩)
      show V.p (.tup [.sl ((ys2.drop 0).take n2), .int .i64 0]) = _
      rw [frz_full u2.symm]; rfl
end Go.Proofs.Ytmenbognkdeipaa
