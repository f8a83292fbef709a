/- What ShardsCarve answers. Conditions: on sizes. -/
import Derived.Test.YtknhlbohjiphgaaLCv2
import Derived.Test.YtknhlbohjiphgaaLSamT
set_option maxRecDepth 100000
set_option maxHeartbeats 8000000
set_option linter.unusedSimpArgs false
set_option linter.unusedVariables false
namespace Go.Proofs.Ytknhlbohjiphgaa
open Go Go.Lx
open Go.Sx (vcIf)

theorem shardsCarve (bs : BL) (hn : bs.length < 281474976710656) (hb : ∀ b ∈ bs, b.length < 281474976710656) (t : Tx) (ht : t.fit) (hch : t.ch.length * 40 ≤ 140737488355328) :
    FnL Try.prog 8 [.p (.sl (sP bs)), .p t.v] [] fun z own => z = .p (.bool true) := by
  obtain ⟨zs, hzs⟩ : ∃ x, x = sP bs := ⟨_, rfl⟩
  obtain ⟨xs, hxs⟩ : ∃ x, x = pP t.sp := ⟨_, rfl⟩
  obtain ⟨cs, hcs⟩ : ∃ x, x = cP t.ch := ⟨_, rfl⟩
  have h1 := carve_spec bs hn hb zs hzs t ht hch xs cs hxs hcs
  have h2 := rcarve_spec bs hn hb zs hzs t ht hch xs cs hxs hcs
  unfold Tx.v
  rw [← hzs, ← hxs, ← hcs]
  obtain ⟨r, hr⟩ : ∃ x, x = t.r := ⟨_, rfl⟩
  rw [← hr] at h1 h2 ⊢
  have hlen : (cvR bs t).length < 9223372036854775807 := by
    by_cases h : cvE bs t = 0
    · rw [cvR, if_pos h, cvL_length]; omega
    · rw [cvR, if_neg h]; decide
  have hsame : ∀ (i : Nat) (c : Tx), (cvR bs t)[i]? = some c → FnL Try.prog 25 [.p (.agg [.int .i64 c.r, .sl (pP c.sp), .sl (cP c.ch)]), .p (.agg [.int .i64 c.r, .sl (pP c.sp), .sl (cP c.ch)])] [] fun v own => v = .p (.bool true) := fun i c hc => by
    by_cases h : cvE bs t = 0
    · rw [cvR, if_pos h] at hc
      simp only [cvL, List.getElem?_map, Option.map_eq_some_iff] at hc
      obtain ⟨j, _, rfl⟩ := hc
      have g1 := rdL_len (pc bs j) t.sp
      have g2 := cutL_len (pc bs j) t.ch
      have g3 := ht.2.2
      exact sameTxn_spec (cvT bs t j) (by show (rdL (pc bs j) t.sp).length < _; omega) (by show (cutL (pc bs j) t.ch).length < _; omega) _ ⟨_, _, rfl, rfl, rfl⟩
    · rw [cvR, if_neg h] at hc; simp at hc
  obtain ⟨ls, hls⟩ : ∃ x, x = cvR bs t := ⟨_, rfl⟩
  obtain ⟨e, he⟩ : ∃ x, x = cvE bs t := ⟨_, rfl⟩
  rw [← hls, ← he] at h1 h2
  rw [← hls] at hsame hlen
  obtain ⟨rs, hrs⟩ : ∃ x, x = tP ls := ⟨_, rfl⟩
  obtain ⟨N, hN⟩ : ∃ n, n = ls.length := ⟨_, rfl⟩
  have hrl : rs.length = N := by rw [hrs, tP_length, hN]
  rw [← hrs] at h1 h2
  refine fn_of_vc eOk fOk fo8 Try.func8 rfl rfl rfl fun B hB => ?_
  intro add sub mul quo rem band bor bxor bclr shl shr ieq ilt ile seq slt beq bnot orb bcond iwrap iof ssz hA cat sq sl imin imax smin smax len slen u8 hL op hop call hcall code hcode ret hret
  cbv
  refine hcall _ _ _ _ _ (CallEv.same h1 rfl ?_)
  rintro _ _ ⟨rfl, rfl⟩
  cbv
  refine hcall _ _ _ _ _ (CallEv.same h2 rfl ?_)
  rintro _ _ ⟨rfl, rfl⟩
  cbv
  refine hcall _ _ _ _ _ (CallEv.same awake12_spec rfl ?_)
  rintro _ _ ⟨rfl, rfl⟩
  cbv
  repeat (first | (refine vcIf.yes ?_ ?_; (focus (simp [hA.not, hA.eq, hA.lt, hA.le, hA.cond, hA.beq, hA.orb, hL.len, hL.slen, hL.sq]; done)); cbv) | (refine vcIf.no ?_ ?_; (focus (simp [hA.not, hA.eq, hA.lt, hA.le, hA.cond, hA.beq, hA.orb, hL.len, hL.slen, hL.sq]; done)); cbv) | fail)
  refine hcode _ _ _ (CodeEv.loop eOk fOk (ι := Nat) (fun q => [(5, .p (.sl rs)), (7, .p (.sl rs)), (9, .p (.int .i64 (Int.ofNat q)))])
    (fun q => [.st 52 [.p (.int .i64 r), .p (.sl xs), .p (.sl cs)]]) (fun q => q ≤ N) (fun q => N - q) 0 ?_ ?_)
  · exact ⟨(by repeat (first | exact trivial | refine And.intro rfl ?_)), rfl, Nat.zero_le _⟩
  rintro i k1 rd hrd
  by_cases hi : i < N
  · refine Exists.elim (get_of_lt (show i < ls.length by omega)) fun c hc => ?_
    have hri : rs[i]? = some (.agg [.int .i64 c.r, .sl (pP c.sp), .sl (cP c.ch)]) := by rw [hrs]; exact tP_get hc
    have hsm := hsame i c hc
    refine Exists.elim (show ∃ x, x = pP c.sp from ⟨_, rfl⟩) fun ps hps => ?_
    refine Exists.elim (show ∃ x, x = cP c.ch from ⟨_, rfl⟩) fun qs hqs => ?_
    refine Exists.elim (show ∃ x, x = c.r from ⟨_, rfl⟩) fun cr hcr => ?_
    rw [← hps, ← hqs, ← hcr] at hri hsm
    clear hps hqs hcr
    intro add1 sub1 mul1 quo1 rem1 band1 bor1 bxor1 bclr1 shl1 shr1 ieq1 ilt1 ile1 seq1 slt1 beq1 bnot1 orb1 bcond1 iwrap1 iof1 ssz1 hA1 cat1 sq1 sl1 imin1 imax1 smin1 smax1 len1 slen1 u81 hL1 op1 hop1 call1 hcall1 code1 hcode1
    have e0 : len1 rs = Int.ofNat N := by rw [hL1.len, hrl]; rfl
    have hadd1 : add1 .i64 (Int.ofNat i) 1 = Int.ofNat (i + 1) := by rw [hA1.add, IntWalk.i64_in _ (by simp only [Int.ofNat_eq_natCast]; omega)]; rfl
    cbv
    refine vcIf.yes (by first | (simp [hA1.not, hA1.eq, hA1.lt, hA1.le, hA1.cond, hA1.beq, hA1.orb, hL1.len, hL1.slen, hL1.sq, e0, hi]; done) | (simp only [e0, hi]; simp [hA1.not, hA1.eq, hA1.lt, hA1.le, hA1.cond, hA1.beq, hA1.orb, hL1.len, hL1.slen, hL1.sq, e0, hi]; done) | (simp [hA1.not, hA1.eq, hA1.lt, hA1.le, hA1.cond, hA1.beq, hA1.orb, hL1.len, hL1.slen, hL1.sq, e0, hi]; omega) | (simp only [e0, hi]; simp [hA1.not, hA1.eq, hA1.lt, hA1.le, hA1.cond, hA1.beq, hA1.orb, hL1.len, hL1.slen, hL1.sq, e0, hi]; omega)) ?_
    cbv
    refine hcode1 _ _ _ (CodeEv.drawA eOk fOk (by kernel_rfl) noX (by kernel_rfl) (by kernel_rfl) (by kernel_rfl) ?_)
    intro add2 sub2 mul2 quo2 rem2 band2 bor2 bxor2 bclr2 shl2 shr2 ieq2 ilt2 ile2 seq2 slt2 beq2 bnot2 orb2 bcond2 iwrap2 iof2 ssz2 hA2 cat2 sq2 sl2 imin2 imax2 smin2 smax2 len2 slen2 u82 hL2 op2 hop2 call2 hcall2 code2 hcode2 q2 hq2
    cbv
    refine ⟨i, _, rfl, hri, rfl, ?_⟩
    cbv
    refine ⟨i, _, rfl, hri, rfl, ?_⟩
    cbv
    refine hcall2 _ _ _ _ _ (CallEv.same hsm rfl ?_)
    rintro _ _ rfl
    cbv
    refine hq2 _ ?_
    cbv
    refine vcIf.no (by first | (simp [hA2.not, hA2.eq, hA2.lt, hA2.le, hA2.cond, hA2.beq, hA2.orb, hL2.len, hL2.slen, hL2.sq]; done) | (simp [hA2.not, hA2.eq, hA2.lt, hA2.le, hA2.cond, hA2.beq, hA2.orb, hL2.len, hL2.slen, hL2.sq]; omega)) ?_
    cbv
    refine hrd _ ⟨i + 1, _, ?_, by omega, rfl, ⟨rfl, rfl, ?_, trivial⟩, rfl, rfl, rfl, ?_⟩
    · show N - (i + 1) < N - i
      omega
    · show some (V.p (.int .i64 _)) = _
      rw [hadd1]
    · rw [hB]; exact Nat.zero_le _
  · intro add1 sub1 mul1 quo1 rem1 band1 bor1 bxor1 bclr1 shl1 shr1 ieq1 ilt1 ile1 seq1 slt1 beq1 bnot1 orb1 bcond1 iwrap1 iof1 ssz1 hA1 cat1 sq1 sl1 imin1 imax1 smin1 smax1 len1 slen1 u81 hL1 op1 hop1 call1 hcall1 code1 hcode1
    have e0 : len1 rs = Int.ofNat N := by rw [hL1.len, hrl]; rfl
    cbv
    refine vcIf.no (by first | (simp [hA1.not, hA1.eq, hA1.lt, hA1.le, hA1.cond, hA1.beq, hA1.orb, hL1.len, hL1.slen, hL1.sq, e0, hi]; done) | (simp only [e0, hi]; simp [hA1.not, hA1.eq, hA1.lt, hA1.le, hA1.cond, hA1.beq, hA1.orb, hL1.len, hL1.slen, hL1.sq, e0, hi]; done) | (simp [hA1.not, hA1.eq, hA1.lt, hA1.le, hA1.cond, hA1.beq, hA1.orb, hL1.len, hL1.slen, hL1.sq, e0, hi]; omega) | (simp only [e0, hi]; simp [hA1.not, hA1.eq, hA1.lt, hA1.le, hA1.cond, hA1.beq, hA1.orb, hL1.len, hL1.slen, hL1.sq, e0, hi]; omega)) ?_
    cbv
    exact hret _ (RetEv.ret eOk rfl rfl)
end Go.Proofs.Ytknhlbohjiphgaa
