/- Vows laid. Conditions: on sizes. -/
import Derived.Test.YtnigonhkfpnodaaLBv1
set_option maxRecDepth 100000
set_option maxHeartbeats 4000000
set_option linter.unusedSimpArgs false
set_option linter.unusedVariables false
namespace Go.Proofs.Ytnigonhkfpnodaa
open Go Go.Lx
open Go.Sx (vcIf)

def vBytes (w : Vw4) : List UInt8 := encs [w.pn, w.pd, w.an, w.ad] ++ sBytes w.s
def vEnc (w : Vw4) : List UInt8 × Nat := if w.okB = true then (vBytes w, 0) else ([], 2)
theorem sBytes_len (s : Stt) (hs : s.fit) (h : s.okB = true) : (sBytes s).length ≤ 200 := by
  obtain ⟨k1, k2, k3, k4, k5⟩ := s.ok_iff.1 h
  have h1 := encs_len [s.gen, s.epoch, s.recv, (s.ch.length : Int)] (fun z hz => by
    simp only [List.mem_cons, List.not_mem_nil, or_false] at hz
    rcases hz with rfl | rfl | rfl | rfl
    · exact (hs.1 _ (by simp)).2
    · exact (hs.1 _ (by simp)).2
    · exact (hs.1 _ (by simp)).2
    · omega)
  have h2 := encs_len s.ch (fun z hz => (hs.2.1 z hz).2)
  unfold sBytes
  simp only [List.length_append, List.length_cons, List.length_nil] at h1 ⊢
  omega
theorem blEncode_spec (w : Vw4) (hs : w.fit) (zs : List PV) (hzs : zs = iP w.s.ch) :
    FnL Try.prog 65 [.p (.agg [.int .i64 w.pn, .int .i64 w.pd, .int .i64 w.an, .int .i64 w.ad, .int .i64 w.s.gen, .int .i64 w.s.epoch, .int .i64 w.s.recv, .sl zs])] [] (bytesR (vEnc w)) := by
  refine bytesR.of ?_
  have hst := blSound_spec w hs.2.2.2 zs hzs
  have hok := w.ok_iff
  have hpu := frPutState_spec w.s hs.2 zs hzs
  obtain ⟨R, hR⟩ : ∃ R, R = vEnc w := ⟨_, rfl⟩
  rw [← hR]
  unfold vEnc vBytes at hR
  obtain ⟨pn, pd, an, ad, s⟩ := w
  obtain ⟨hs1, hs2⟩ := hs
  simp only at hst hok hR hzs hs1 hs2 hpu ⊢
  obtain ⟨sg, hsg⟩ : ∃ x, x = s.gen := ⟨_, rfl⟩
  obtain ⟨se, hse⟩ : ∃ x, x = s.epoch := ⟨_, rfl⟩
  obtain ⟨sr, hsr⟩ : ∃ x, x = s.recv := ⟨_, rfl⟩
  rw [← hsg, ← hse, ← hsr] at hst hpu ⊢
  refine fn_of_vc eOk fOk fo65 Try.func65 rfl rfl rfl fun B hB => ?_
  intro add sub mul quo rem band bor bxor bclr shl shr ieq ilt ile seq slt beq bnot orb bcond iwrap iof ssz hA cat sq sl imin imax smin smax len slen u8 hL op hop call hcall code hcode ret hret
  cbv
  refine hcall _ _ _ _ _ (CallEv.same hst rfl ?_)
  rintro _ _ ⟨b, hb, rfl, rfl⟩
  rw [← hb] at hok hR
  cbv
  cases b with
  | false =>
    rw [if_neg (by decide)] at hR
    repeat (first | (refine vcIf.yes ?_ ?_; (focus (simp [hA.not, hA.eq, hA.lt, hA.le, hA.cond, hA.beq, hA.orb, hL.len, hL.slen, hL.sq]; done)); cbv) | (refine vcIf.no ?_ ?_; (focus (simp [hA.not, hA.eq, hA.lt, hA.le, hA.cond, hA.beq, hA.orb, hL.len, hL.slen, hL.sq]; done)); cbv) | fail)
    exact hret _ (RetEv.ret eOk rfl ⟨[], [], 2, hR.symm, rfl, .inr ⟨rfl, rfl⟩⟩)
  | true =>
    rw [if_pos rfl] at hR
    obtain ⟨k1, k2, k3, k4, k5, k6⟩ := hok.1 rfl
    have hn1 := wr0_of (wrNums_spec [pn, pd, an, ad] _ rfl (fun z hz => (hs1 z hz).2) 0 0 [] rfl (by simp))
    rw [iP4] at hn1
    have hok1 : ∀ z ∈ [pn, pd, an, ad], (0 : Int) ≤ z := fun z hz => by
      simp only [List.mem_cons, List.not_mem_nil, or_false] at hz
      rcases hz with rfl | rfl | rfl | rfl <;> assumption
    have hsl := sBytes_len s hs2 k5
    have hse2 : sEnc s = (sBytes s, 0) := by unfold sEnc; rw [if_pos k5]
    rw [hse2] at hpu
    cbv
    repeat (first | (refine vcIf.yes ?_ ?_; (focus (simp [hA.not, hA.eq, hA.lt, hA.le, hA.cond, hA.beq, hA.orb, hL.len, hL.slen, hL.sq]; done)); cbv) | (refine vcIf.no ?_ ?_; (focus (simp [hA.not, hA.eq, hA.lt, hA.le, hA.cond, hA.beq, hA.orb, hL.len, hL.slen, hL.sq]; done)); cbv) | fail)
    refine ⟨false, ?_⟩
    cbv
    refine hcall _ _ _ _ _ (CallEv.lend [1] hn1 rfl (.cons (.own 0 1 0 rfl) (.cons (.p _) .nil)) (wrL0 rfl) ?_)
    rintro _ _ ⟨n1, e1, ys1, ⟨w1, w2, w3, w4⟩, rfl, rfl⟩
    obtain ⟨rfl, w5⟩ := w3 hok1
    replace w2 : n1 ≤ 36 := w2
    have hby := wrBytes_spec n1 0 ys1
    cbv
    refine hcall _ _ _ _ _ (CallEv.lend [1, 2] hby rfl (.cons (.own 0 1 0 rfl) .nil) (wrL rfl rfl rfl rfl) ?_)
    rintro _ _ ⟨⟨_, rfl⟩ | ⟨he, _⟩, rfl⟩
    rotate_left
    · exact absurd rfl he
    cbv
    refine hcall _ _ _ _ _ (CallEv.same hpu rfl ?_)
    rintro _ _ ⟨ws, l, e2, h2, hws, rfl, rfl⟩
    obtain ⟨rfl, rfl⟩ := Prod.mk.inj h2
    have hwl : ws.length ≤ 200 := by rw [hws, bP_length]; exact hsl
    cbv
    refine .inl ⟨(), rfl, w1.symm, by rw [hws]; exact bP_wf _, ?_, ?_, ?_⟩
    · show n1 + ws.length ≤ maxLen
      unfold maxLen; omega
    · show (n1 + ws.length) * 1 ≤ _
      omega
    intro us n2 hu hn2
    replace hu : us = ys1 ++ ws := hu
    replace hn2 : n2 = n1 + ws.length := hn2
    have hul : us.length = n2 := by rw [hu, List.length_append, hn2, w1.symm]
    have hub : us = bP (encs [pn, pd, an, ad] ++ sBytes s) := by rw [hu, w5, hws, List.nil_append, ← bP_append]
    cbv
    refine hret _ (RetEv.retF eOk rfl 2 rfl (by rw [hB]; exact Nat.zero_le _) ⟨us, _, 0, hR.symm, hub, .inl ?_⟩)
    show V.p (.tup [.sl ((us.drop 0).take n2), .int .i64 0]) = _
    rw [frz_full hul]; rfl
end Go.Proofs.Ytnigonhkfpnodaa
