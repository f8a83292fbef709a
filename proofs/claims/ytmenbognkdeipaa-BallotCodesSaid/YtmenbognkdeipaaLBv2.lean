/- Vows laid. Conditions: on sizes. -/
import Derived.Test.YtmenbognkdeipaaLBv1
set_option maxRecDepth 100000
set_option maxHeartbeats 4000000
set_option linter.unusedSimpArgs false
set_option linter.unusedVariables false
namespace Go.Proofs.Ytmenbognkdeipaa
open Go Go.Lx
open Go.Sx (vcIf)

theorem rnumsO_spec (l : List Int) (hl : ∀ z ∈ l, 0 ≤ z ∧ z ≤ 9223372036854775807) (hll : l.length ≤ 4096) (xs : List PV) (hxs : xs = iP l) : FnL Try.prog 57 [.p (.sl xs)] [] fun v own => ∃ (zs : List PV) (n : Nat), zs = bP (encs l) ∧ n = zs.length ∧ n ≤ 9 * l.length ∧ v = .tup [.vw 0 1 0 n none, .p (.int .i64 0)] ∧ own = [wrA zs] := by
  have hxl : xs.length = l.length := by rw [hxs, iP_length]
  obtain ⟨n, hn⟩ : ∃ n, n = l.length := ⟨_, rfl⟩
  have hlm : ∀ z ∈ l, z ≤ 9223372036854775807 := fun z hz => (hl z hz).2
  refine fn_of_vc eOk fOk fo57 Try.func57 rfl rfl rfl fun B hB => ?_
  intro add sub mul quo rem band bor bxor bclr shl shr ieq ilt ile seq slt beq bnot orb bcond iwrap iof ssz hA cat sq sl imin imax smin smax len slen u8 hL op hop call hcall code hcode ret hret
  have hlen : len xs = Int.ofNat n := by rw [hL.len, hxl, hn]; rfl
  cbv
  refine vcIf.no (by rw [hA.lt, hlen]; exact dlt' (show ¬ 4096 < n by omega)) ?_
  cbv
  refine ⟨true, ?_⟩
  cbv
  refine hcode _ _ _ (CodeEv.loop eOk fOk (ι := Nat × Nat × List PV) (fun i => [(0, .p (.sl xs)), (4, .vw 0 1 0 i.2.1 none), (5, .p (.int .i64 (Int.ofNat i.1)))])
    (fun i => [wrA i.2.2]) (fun i => i.1 ≤ n ∧ i.2.2 = bP (encs (l.take i.1)) ∧ i.2.2.length = i.2.1) (fun i => n - i.1) (0, 0, []) ?_ ?_)
  · exact ⟨⟨rfl, rfl, rfl, trivial⟩, rfl, Nat.zero_le _, by simp [bP, encs], rfl⟩
  rintro ⟨i, m, ys⟩ ⟨h1, h3, h4⟩ rd hrd
  simp only at h1 h3 h4
  have hmb : m ≤ 9 * i := by
    have := encs_len (l.take i) (fun y hy => hlm y (List.mem_of_mem_take hy))
    rw [← h4, h3, bP_length]; simp at this ⊢; omega
  intro add1 sub1 mul1 quo1 rem1 band1 bor1 bxor1 bclr1 shl1 shr1 ieq1 ilt1 ile1 seq1 slt1 beq1 bnot1 orb1 bcond1 iwrap1 iof1 ssz1 hA1 cat1 sq1 sl1 imin1 imax1 smin1 smax1 len1 slen1 u81 hL1 op1 hop1 call1 hcall1 code1 hcode1
  have hlen1 : len1 xs = Int.ofNat n := by rw [hL1.len, hxl, hn]; rfl
  cbv
  by_cases hi : i < n
  · refine vcIf.yes (by rw [hA1.lt, hlen1]; exact dlt hi) ?_
    obtain ⟨z, hz⟩ := get_of_lt (show i < l.length by omega)
    have hzm := hl z (List.mem_of_getElem? hz)
    have hzs : xs[i]? = some (.int .i64 z) := by rw [hxs]; exact iP_get hz
    have htk : l.take (i + 1) = l.take i ++ [z] := by rw [List.take_add_one, hz]; rfl
    obtain ⟨y, rfl⟩ : ∃ y : Nat, z = (y : Int) := ⟨z.toNat, by omega⟩
    have hy : y < 9223372036854775808 := by omega
    have hen : encs (l.take (i + 1)) = encs (l.take i) ++ enc y := by rw [htk]; unfold encs; rw [List.flatMap_append]; simp
    cbv
    refine ⟨i, _, rfl, hzs, rfl, ?_⟩
    cbv
    refine vcIf.no (by rw [hA1.lt]; exact decide_eq_false (Int.not_lt.2 (Int.natCast_nonneg y))) ?_
    cbv
    refine ⟨i, _, rfl, hzs, rfl, ?_⟩
    cbv
    refine hcall1 _ _ _ _ _ (CallEv.lend [0] (rput_spec ys m y h4 hy (by omega)) rfl (.cons (.vw 0 0 1 0 m none rfl) (.cons (.p _) .nil)) ⟨⟨_, rfl, .arr _ _ _⟩, trivial⟩ ?_)
    rintro _ _ ⟨m', ys', hm', hys', rfl, rfl⟩
    cbv
    refine hrd _ ⟨(i + 1, m', ys'), [], ?_, ⟨hi, ?_, ?_⟩, rfl, ⟨rfl, rfl, ?_, trivial⟩, rfl, rfl, rfl, ?_⟩
    · simp only; omega
    · simp only; rw [hys', h3, hen, bP_append]
    · simp only; rw [hys', List.length_append, bP_length, hm', h4]
    · show some (V.p (.int .i64 (add1 .i64 (Int.ofNat i) 1))) = some (V.p (.int .i64 (Int.ofNat (i + 1))))
      rw [hA1.add, IntWalk.i64_in _ (by simp only [Int.ofNat_eq_natCast]; omega)]; rfl
    · rw [hB]; exact Nat.zero_le _
  · refine vcIf.no (by rw [hA1.lt, hlen1]; exact dlt' hi) ?_
    rw [List.take_of_length_le (by omega)] at h3
    cbv
    exact hret _ (RetEv.ret eOk rfl ⟨ys, m, h3, h4.symm, by omega, rfl, rfl⟩)

def vBytes (w : Vw4) : List UInt8 := encs [w.pn, w.pd, w.an, w.ad] ++ sBytes w.s
def vEnc (w : Vw4) : List UInt8 × Nat := if w.okB = true then (vBytes w, 0) else ([], 2)
theorem sBytes_len (s : Stt) (hs : s.fit) (h : s.okB = true) : (sBytes s).length ≤ 200 := by
  obtain ⟨k1, k2, k3, k4, k5⟩ := s.ok_iff.1 h
  have h1 := encs_len [s.gen, s.epoch, s.recv, (s.ch.length : Int)] (fun z hz => by
    simp only [List.mem_cons, List.not_mem_nil, or_false] at hz
    rcases hz with rfl | rfl | rfl | rfl
    · exact (hs.1 _ (by simp)).2
    · exact (hs.1 _ (by simp)).2
    · exact (hs.1 _ (by simp)).2
    · omega)
  have h2 := encs_len s.ch (fun z hz => (hs.2.1 z hz).2)
  unfold sBytes
  simp only [List.length_append, List.length_cons, List.length_nil] at h1 ⊢
  omega
theorem blEncode_spec (w : Vw4) (hs : w.fit) (zs : List PV) (hzs : zs = iP w.s.ch) :
    FnL Try.prog 16 [.p (.agg [.int .i64 w.pn, .int .i64 w.pd, .int .i64 w.an, .int .i64 w.ad, .int .i64 w.s.gen, .int .i64 w.s.epoch, .int .i64 w.s.recv, .sl zs])] [] (bytesR (vEnc w)) := by
  refine bytesR.of ?_
  have hst := blSound_spec w hs.2.2.2 zs hzs
  have hok := w.ok_iff
  have hpu := frPutState_spec w.s hs.2 zs hzs
  obtain ⟨R, hR⟩ : ∃ R, R = vEnc w := ⟨_, rfl⟩
  rw [← hR]
  unfold vEnc vBytes at hR
  obtain ⟨pn, pd, an, ad, s⟩ := w
  obtain ⟨hs1, hs2⟩ := hs
  simp only at hst hok hR hzs hs1 hs2 hpu ⊢
  obtain ⟨sg, hsg⟩ : ∃ x, x = s.gen := ⟨_, rfl⟩
  obtain ⟨se, hse⟩ : ∃ x, x = s.epoch := ⟨_, rfl⟩
  obtain ⟨sr, hsr⟩ : ∃ x, x = s.recv := ⟨_, rfl⟩
  rw [← hsg, ← hse, ← hsr] at hst hpu ⊢
  refine fn_of_vc eOk fOk fo16 Try.func16 rfl rfl rfl fun B hB => ?_
  intro add sub mul quo rem band bor bxor bclr shl shr ieq ilt ile seq slt beq bnot orb bcond iwrap iof ssz hA cat sq sl imin imax smin smax len slen u8 hL op hop call hcall code hcode ret hret
  cbv
  refine hcall _ _ _ _ _ (CallEv.same hst rfl ?_)
  rintro _ _ ⟨b, hb, rfl, rfl⟩
  rw [← hb] at hok hR
  cbv
  cases b with
  | false =>
    rw [if_neg (by decide)] at hR
    repeat (first | (refine vcIf.yes ?_ ?_; (focus (simp [hA.not, hA.eq, hA.lt, hA.le, hA.cond, hA.beq, hA.orb, hL.len, hL.slen, hL.sq]; done)); cbv) | (refine vcIf.no ?_ ?_; (focus (simp [hA.not, hA.eq, hA.lt, hA.le, hA.cond, hA.beq, hA.orb, hL.len, hL.slen, hL.sq]; done)); cbv) | fail)
    exact hret _ (RetEv.ret eOk rfl ⟨[], [], 2, hR.symm, rfl, .inr ⟨rfl, rfl⟩⟩)
  | true =>
    rw [if_pos rfl] at hR
    obtain ⟨k1, k2, k3, k4, k5, k6⟩ := hok.1 rfl
    have hn1 := wr0_of (wrNums_spec [pn, pd, an, ad] _ rfl (fun z hz => (hs1 z hz).2) 0 0 [] rfl (by simp))
    rw [iP4] at hn1
    have hok1 : ∀ z ∈ [pn, pd, an, ad], (0 : Int) ≤ z := fun z hz => by
      simp only [List.mem_cons, List.not_mem_nil, or_false] at hz
      rcases hz with rfl | rfl | rfl | rfl <;> assumption
    have hsl := sBytes_len s hs2 k5
    have hse2 : sEnc s = (sBytes s, 0) := by unfold sEnc; rw [if_pos k5]
    rw [hse2] at hpu
    cbv
    repeat (first | (refine vcIf.yes ?_ ?_; (focus (simp [hA.not, hA.eq, hA.lt, hA.le, hA.cond, hA.beq, hA.orb, hL.len, hL.slen, hL.sq]; done)); cbv) | (refine vcIf.no ?_ ?_; (focus (simp [hA.not, hA.eq, hA.lt, hA.le, hA.cond, hA.beq, hA.orb, hL.len, hL.slen, hL.sq]; done)); cbv) | fail)
    refine ⟨false, ?_⟩
    cbv
    refine hcall _ _ _ _ _ (CallEv.lend [1] hn1 rfl (.cons (.own 0 1 0 rfl) (.cons (.p _) .nil)) (wrL0 rfl) ?_)
    rintro _ _ ⟨n1, e1, ys1, ⟨w1, w2, w3, w4⟩, rfl, rfl⟩
    obtain ⟨rfl, w5⟩ := w3 hok1
    replace w2 : n1 ≤ 36 := w2
    have hby := wrBytes_spec n1 0 ys1
    cbv
    refine hcall _ _ _ _ _ (CallEv.lend [1, 2] hby rfl (.cons (.own 0 1 0 rfl) .nil) (wrL rfl rfl rfl rfl) ?_)
    rintro _ _ ⟨⟨_, rfl⟩ | ⟨he, _⟩, rfl⟩
    rotate_left
    · exact absurd rfl he
    cbv
    refine hcall _ _ _ _ _ (CallEv.same hpu rfl ?_)
    rintro _ _ ⟨ws, l, e2, h2, hws, rfl, rfl⟩
    obtain ⟨rfl, rfl⟩ := Prod.mk.inj h2
    have hwl : ws.length ≤ 200 := by rw [hws, bP_length]; exact hsl
    cbv
    refine .inl ⟨(), rfl, w1.symm, by rw [hws]; exact bP_wf _, ?_, ?_, ?_⟩
    · show n1 + ws.length ≤ maxLen
      unfold maxLen; omega
    · show (n1 + ws.length) * 1 ≤ _
      omega
    intro us n2 hu hn2
    replace hu : us = ys1 ++ ws := hu
    replace hn2 : n2 = n1 + ws.length := hn2
    have hul : us.length = n2 := by rw [hu, List.length_append, hn2, w1.symm]
    have hub : us = bP (encs [pn, pd, an, ad] ++ sBytes s) := by rw [hu, w5, hws, List.nil_append, ← bP_append]
    cbv
    refine hret _ (RetEv.retF eOk rfl 2 rfl (by rw [hB]; exact Nat.zero_le _) ⟨us, _, 0, hR.symm, hub, .inl ?_⟩)
    show V.p (.tup [.sl ((us.drop 0).take n2), .int .i64 0]) = _
    rw [frz_full hul]; rfl
theorem rvEncode_spec (w : Vw4) (hs : w.fit) (zs : List PV) (hzs : zs = iP w.s.ch) :
    FnL Try.prog 17 [.p (.agg [.int .i64 w.pn, .int .i64 w.pd, .int .i64 w.an, .int .i64 w.ad, .int .i64 w.s.gen, .int .i64 w.s.epoch, .int .i64 w.s.recv, .sl zs])] [] (bytesR (vEnc w)) := by
  refine bytesR.of ?_
  have hst := rSound_spec w hs.2.2.2 zs hzs
  have hok := w.ok_iff
  have hpu := rPutState_spec w.s hs.2 zs hzs
  obtain ⟨R, hR⟩ : ∃ R, R = vEnc w := ⟨_, rfl⟩
  rw [← hR]
  unfold vEnc vBytes at hR
  obtain ⟨pn, pd, an, ad, s⟩ := w
  obtain ⟨hs1, hs2⟩ := hs
  simp only at hst hok hR hzs hs1 hs2 hpu ⊢
  obtain ⟨sg, hsg⟩ : ∃ x, x = s.gen := ⟨_, rfl⟩
  obtain ⟨se, hse⟩ : ∃ x, x = s.epoch := ⟨_, rfl⟩
  obtain ⟨sr, hsr⟩ : ∃ x, x = s.recv := ⟨_, rfl⟩
  rw [← hsg, ← hse, ← hsr] at hst hpu ⊢
  refine fn_of_vc eOk fOk fo17 Try.func17 rfl rfl rfl fun B hB => ?_
  intro add sub mul quo rem band bor bxor bclr shl shr ieq ilt ile seq slt beq bnot orb bcond iwrap iof ssz hA cat sq sl imin imax smin smax len slen u8 hL op hop call hcall code hcode ret hret
  cbv
  refine hcall _ _ _ _ _ (CallEv.same hst rfl ?_)
  rintro _ _ ⟨b, hb, rfl, rfl⟩
  rw [← hb] at hok hR
  cbv
  cases b with
  | false =>
    rw [if_neg (by decide)] at hR
    repeat (first | (refine vcIf.yes ?_ ?_; (focus (simp [hA.not, hA.eq, hA.lt, hA.le, hA.cond, hA.beq, hA.orb, hL.len, hL.slen, hL.sq]; done)); cbv) | (refine vcIf.no ?_ ?_; (focus (simp [hA.not, hA.eq, hA.lt, hA.le, hA.cond, hA.beq, hA.orb, hL.len, hL.slen, hL.sq]; done)); cbv) | fail)
    exact hret _ (RetEv.ret eOk rfl ⟨[], [], 2, hR.symm, rfl, .inr ⟨rfl, rfl⟩⟩)
  | true =>
    rw [if_pos rfl] at hR
    obtain ⟨k1, k2, k3, k4, k5, k6⟩ := hok.1 rfl
    have hok1 : ∀ z ∈ [pn, pd, an, ad], (0 : Int) ≤ z ∧ z ≤ 9223372036854775807 := fun z hz => by
      refine ⟨?_, (hs1 z hz).2⟩
      simp only [List.mem_cons, List.not_mem_nil, or_false] at hz
      rcases hz with rfl | rfl | rfl | rfl <;> assumption
    have hn1 := rnumsO_spec [pn, pd, an, ad] hok1 (by simp) _ (iP4 _ _ _ _).symm
    have hsl := sBytes_len s hs2 k5
    have hse2 : sEnc s = (sBytes s, 0) := by unfold sEnc; rw [if_pos k5]
    rw [hse2] at hpu
    cbv
    repeat (first | (refine vcIf.yes ?_ ?_; (focus (simp [hA.not, hA.eq, hA.lt, hA.le, hA.cond, hA.beq, hA.orb, hL.len, hL.slen, hL.sq]; done)); cbv) | (refine vcIf.no ?_ ?_; (focus (simp [hA.not, hA.eq, hA.lt, hA.le, hA.cond, hA.beq, hA.orb, hL.len, hL.slen, hL.sq]; done)); cbv) | fail)
    refine ⟨false, ?_⟩
    cbv
    refine hcall _ _ _ _ _ (CallEv.same hn1 rfl ?_)
    rintro _ _ ⟨ys1, n1, w5, w1, w2, rfl, rfl⟩
    replace w2 : n1 ≤ 36 := w2
    replace w5 : ys1 = [] ++ bP (encs [pn, pd, an, ad]) := w5
    cbv
    refine hcall _ _ _ _ _ (CallEv.same hpu rfl ?_)
    rintro _ _ ⟨ws, l, e2, h2, hws, rfl, rfl⟩
    obtain ⟨rfl, rfl⟩ := Prod.mk.inj h2
    have hwl : ws.length ≤ 200 := by rw [hws, bP_length]; exact hsl
    cbv
    refine .inl ⟨(), rfl, w1, by rw [hws]; exact bP_wf _, ?_, ?_, ?_⟩
    · show n1 + ws.length ≤ maxLen
      unfold maxLen; omega
    · show (n1 + ws.length) * 1 ≤ _
      omega
    intro us n2 hu hn2
    replace hu : us = ys1 ++ ws := hu
    replace hn2 : n2 = n1 + ws.length := hn2
    have hul : us.length = n2 := by rw [hu, List.length_append, hn2, w1]
    have hub : us = bP (encs [pn, pd, an, ad] ++ sBytes s) := by rw [hu, w5, hws, List.nil_append, ← bP_append]
    cbv
    refine hret _ (RetEv.retF eOk rfl 1 rfl (by rw [hB]; exact Nat.zero_le _) ⟨us, _, 0, hR.symm, hub, .inl ?_⟩)
    show V.p (.tup [.sl ((us.drop 0).take n2), .int .i64 0]) = _
    rw [frz_full hul]; rfl
end Go.Proofs.Ytmenbognkdeipaa
