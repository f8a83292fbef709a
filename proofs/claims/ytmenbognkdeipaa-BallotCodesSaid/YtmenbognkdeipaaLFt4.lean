/- Batches laid. Conditions: on sizes. -/
import Derived.Test.YtmenbognkdeipaaLFt3
set_option maxRecDepth 100000
set_option maxHeartbeats 4000000
set_option linter.unusedSimpArgs false
set_option linter.unusedVariables false
namespace Go.Proofs.Ytmenbognkdeipaa
open Go Go.Lx
open Go.Sx (vcIf)

def bBytes (s : Bat) : List UInt8 := encs [s.a, s.b, s.c] ++ encCs s.ch
def bEnc (s : Bat) : List UInt8 × Nat := if s.okB = true then (bBytes s, 0) else ([], 2)
theorem iP3 (a b c : Int) : iP [a, b, c] = [PV.int .i64 a, PV.int .i64 b, PV.int .i64 c] := rfl
theorem big1 {n N : Nat} (h : n ≤ 0 + 27) (h2 : N ≤ 4096) : n + 131200 * (N + 1) ≤ 140737488355328 := by
  exact Nat.le_trans (Nat.add_le_add h (Nat.mul_le_mul_left _ (Nat.succ_le_succ h2))) (by decide)
theorem frPutBatch_spec (s : Bat) (hs : s.fit) (zs : List PV) (hzs : zs = cP s.ch) :
    FnL Try.prog 27 [.p (.agg [.int .i64 s.a, .int .i64 s.b, .int .i64 s.c, .sl zs])] [] (bytesR (bEnc s)) := by
  refine bytesR.of ?_
  have hst := frBatch_spec s hs.2.2 zs hzs
  have hok := s.ok_iff
  obtain ⟨R, hR⟩ : ∃ R, R = bEnc s := ⟨_, rfl⟩
  rw [← hR]
  unfold bEnc at hR
  obtain ⟨g, e, r, ch⟩ := s
  unfold bBytes at hR
  obtain ⟨hs1, hs2, hs3⟩ := hs
  simp only at hst hok hR hzs hs1 hs2 hs3 ⊢
  have hzl : zs.length = ch.length := by rw [hzs, cP_length]
  refine fn_of_vc eOk fOk fo27 Try.func27 rfl rfl rfl fun B hB => ?_
  intro add sub mul quo rem band bor bxor bclr shl shr ieq ilt ile seq slt beq bnot orb bcond iwrap iof ssz hA cat sq sl imin imax smin smax len slen u8 hL op hop call hcall code hcode ret hret
  cbv
  refine hcall _ _ _ _ _ (CallEv.same hst rfl ?_)
  rintro _ _ ⟨b, hb, rfl, rfl⟩
  rw [← hb] at hok hR
  cbv
  cases b with
  | false =>
    rw [if_neg (by decide)] at hR
    repeat (first | (refine vcIf.yes ?_ ?_; (focus (simp [hA.not, hA.eq, hA.lt, hA.le, hA.cond, hA.beq, hA.orb, hL.len, hL.slen, hL.sq]; done)); cbv) | (refine vcIf.no ?_ ?_; (focus (simp [hA.not, hA.eq, hA.lt, hA.le, hA.cond, hA.beq, hA.orb, hL.len, hL.slen, hL.sq]; done)); cbv) | fail)
    exact hret _ (RetEv.ret eOk rfl ⟨[], [], 2, hR.symm, rfl, .inr ⟨rfl, rfl⟩⟩)
  | true =>
    rw [if_pos rfl] at hR
    obtain ⟨k1, k2, k3, k4, k5⟩ := hok.1 rfl
    have hn1 := wr0_of (wrNums_spec [g, e, r] _ rfl (fun z hz => by
      simp only [List.mem_cons, List.not_mem_nil, or_false] at hz
      rcases hz with rfl | rfl | rfl
      · exact (hs1 _ (by simp)).2
      · exact (hs1 _ (by simp)).2
      · exact (hs1 _ (by simp)).2) 0 0 [] rfl (by simp))
    rw [iP3] at hn1
    have hok1 : ∀ z ∈ [g, e, r], (0 : Int) ≤ z := fun z hz => by
      simp only [List.mem_cons, List.not_mem_nil, or_false] at hz
      rcases hz with rfl | rfl | rfl
      · exact k1
      · exact k2
      · exact k3
    have hn2 := fun (n1 : Nat) (e1 : Int) (ys1 : List PV) (w1 : ys1.length = n1) (w2 : n1 ≤ 0 + 9 * [g, e, r].length) => chgs_spec ch k5 zs hzs n1 e1 ys1 w1 (big1 w2 k4)
    cbv
    repeat (first | (refine vcIf.yes ?_ ?_; (focus (simp [hA.not, hA.eq, hA.lt, hA.le, hA.cond, hA.beq, hA.orb, hL.len, hL.slen, hL.sq]; done)); cbv) | (refine vcIf.no ?_ ?_; (focus (simp [hA.not, hA.eq, hA.lt, hA.le, hA.cond, hA.beq, hA.orb, hL.len, hL.slen, hL.sq]; done)); cbv) | fail)
    refine hcode _ _ _ (CodeEv.drawA eOk fOk (by kernel_rfl) (Xof 1 []) (by kernel_rfl) (by kernel_rfl) (by kernel_rfl) ?_)
    intro add2 sub2 mul2 quo2 rem2 band2 bor2 bxor2 bclr2 shl2 shr2 ieq2 ilt2 ile2 seq2 slt2 beq2 bnot2 orb2 bcond2 iwrap2 iof2 ssz2 hA2 cat2 sq2 sl2 imin2 imax2 smin2 smax2 len2 slen2 u82 hL2 op2 hop2 call2 hcall2 code2 hcode2 q2 hq2
    cbv
    refine ⟨false, ?_⟩
    cbv
    refine hcall2 _ _ _ _ _ (CallEv.lend [1] hn1 rfl (.cons (.own 0 1 0 rfl) (.cons (.p _) .nil)) (wrL0 rfl) ?_)
    rintro _ _ ⟨n1, e1, ys1, ⟨w1, w2, w3, w4⟩, rfl, rfl⟩
    have hnn := hn2 n1 e1 ys1 w1 w2
    obtain ⟨rfl, w5⟩ := w3 hok1
    cbv
    refine hcall2 _ _ _ _ _ (CallEv.lend [1, 2] hnn rfl (.cons (.own 0 1 0 rfl) (.cons (.p _) .nil)) (wrL rfl rfl rfl rfl) ?_)
    rintro _ _ ⟨n2, ys2, u5, u1, u4, rfl⟩
    have hby := wrBytes_spec n2 0 ys2
    have hys : ys2 = bP (encs [g, e, r] ++ encCs ch) := by rw [u5, w5, List.nil_append, ← bP_append]
    cbv
    refine hq2 _ ?_
    cbv
    refine hcall _ _ _ _ _ (CallEv.lend [1, 2] hby rfl (.cons (.own 0 1 0 rfl) .nil) (wrL rfl rfl rfl rfl) ?_)
    rintro _ _ ⟨⟨_, rfl⟩ | ⟨he, _⟩, rfl⟩
    rotate_left
    · exact absurd rfl he
    cbv
    refine hret _ (RetEv.retF eOk rfl 2 rfl (by rw [hB]; exact Nat.zero_le _) ⟨ys2, _, 0, hR.symm, hys, .inl ?_⟩)
    show V.p (.tup [.sl ((ys2.drop 0).take n2), .int .i64 0]) = _
    rw [frz_full u1]; rfl
theorem rPutBatch_spec (s : Bat) (hs : s.fit) (zs : List PV) (hzs : zs = cP s.ch) :
    FnL Try.prog 28 [.p (.agg [.int .i64 s.a, .int .i64 s.b, .int .i64 s.c, .sl zs])] [] (bytesR (bEnc s)) := by
  refine bytesR.of ?_
  have hst := rBatch_spec s hs.2.2 zs hzs
  have hok := s.ok_iff
  obtain ⟨R, hR⟩ : ∃ R, R = bEnc s := ⟨_, rfl⟩
  rw [← hR]
  unfold bEnc at hR
  obtain ⟨g, e, r, ch⟩ := s
  unfold bBytes at hR
  obtain ⟨hs1, hs2, hs3⟩ := hs
  simp only at hst hok hR hzs hs1 hs2 hs3 ⊢
  have hzl : zs.length = ch.length := by rw [hzs, cP_length]
  refine fn_of_vc eOk fOk fo28 Try.func28 rfl rfl rfl fun B hB => ?_
  intro add sub mul quo rem band bor bxor bclr shl shr ieq ilt ile seq slt beq bnot orb bcond iwrap iof ssz hA cat sq sl imin imax smin smax len slen u8 hL op hop call hcall code hcode ret hret
  cbv
  refine hcall _ _ _ _ _ (CallEv.same hst rfl ?_)
  rintro _ _ ⟨b, hb, rfl, rfl⟩
  rw [← hb] at hok hR
  cbv
  cases b with
  | false =>
    rw [if_neg (by decide)] at hR
    repeat (first | (refine vcIf.yes ?_ ?_; (focus (simp [hA.not, hA.eq, hA.lt, hA.le, hA.cond, hA.beq, hA.orb, hL.len, hL.slen, hL.sq]; done)); cbv) | (refine vcIf.no ?_ ?_; (focus (simp [hA.not, hA.eq, hA.lt, hA.le, hA.cond, hA.beq, hA.orb, hL.len, hL.slen, hL.sq]; done)); cbv) | fail)
    exact hret _ (RetEv.ret eOk rfl ⟨[], [], 2, hR.symm, rfl, .inr ⟨rfl, rfl⟩⟩)
  | true =>
    rw [if_pos rfl] at hR
    obtain ⟨k1, k2, k3, k4, k5⟩ := hok.1 rfl
    have hn1 := rnumsNil_spec [g, e, r] (fun z hz => by
      simp only [List.mem_cons, List.not_mem_nil, or_false] at hz
      rcases hz with rfl | rfl | rfl
      · exact ⟨k1, (hs1 _ (by simp)).2⟩
      · exact ⟨k2, (hs1 _ (by simp)).2⟩
      · exact ⟨k3, (hs1 _ (by simp)).2⟩) _ rfl (by simp)
    rw [iP3] at hn1
    have hn2 := fun (n1 : Nat) (ys1 : List PV) (w2 : n1 = ys1.length) (w3 : n1 ≤ 27) => rchgsRow_spec ch k5 hs2 zs hzs n1 ys1 w2.symm (by omega)
    cbv
    repeat (first | (refine vcIf.yes ?_ ?_; (focus (simp [hA.not, hA.eq, hA.lt, hA.le, hA.cond, hA.beq, hA.orb, hL.len, hL.slen, hL.sq]; done)); cbv) | (refine vcIf.no ?_ ?_; (focus (simp [hA.not, hA.eq, hA.lt, hA.le, hA.cond, hA.beq, hA.orb, hL.len, hL.slen, hL.sq]; done)); cbv) | fail)
    refine hcode _ _ _ (CodeEv.drawA eOk fOk (by kernel_rfl) (Xof 1 []) (by kernel_rfl) (by kernel_rfl) (by kernel_rfl) ?_)
    intro add2 sub2 mul2 quo2 rem2 band2 bor2 bxor2 bclr2 shl2 shr2 ieq2 ilt2 ile2 seq2 slt2 beq2 bnot2 orb2 bcond2 iwrap2 iof2 ssz2 hA2 cat2 sq2 sl2 imin2 imax2 smin2 smax2 len2 slen2 u82 hL2 op2 hop2 call2 hcall2 code2 hcode2 q2 hq2
    cbv
    refine ⟨false, ?_⟩
    cbv
    refine hcall2 _ _ _ _ _ (CallEv.same hn1 rfl ?_)
    rintro _ _ ⟨n1, ys1, w1, w2, w3, rfl, rfl⟩
    have hnn := hn2 n1 ys1 w2 w3
    cbv
    refine hcall2 _ _ _ _ _ (CallEv.lend [1] hnn rfl (.cons (.vw 0 1 1 0 n1 none rfl) (.cons (.p _) .nil)) ⟨⟨_, rfl, .arr _ _ _⟩, trivial⟩ ?_)
    rintro _ _ ⟨n2, ys2, u1, u2, u3, rfl, rfl⟩
    have hys : ys2 = bP (encs [g, e, r] ++ encCs ch) := by rw [u1, w1, ← bP_append]
    cbv
    refine hq2 _ ?_
    cbv
    refine hret _ (RetEv.retF eOk rfl 1 rfl (by rw [hB]; exact Nat.zero_le _) ⟨ys2, _, 0, hR.symm, hys, .inl ?_⟩)
    show V.p (.tup [.sl ((ys2.drop 0).take n2), .int .i64 0]) = _
    rw [frz_full u2.symm]; rfl
end Go.Proofs.Ytmenbognkdeipaa
