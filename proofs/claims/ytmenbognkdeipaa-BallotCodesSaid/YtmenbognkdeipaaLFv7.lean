/- The walk of the law FrameTxns. Conditions: on sizes. -/
import Derived.Test.YtmenbognkdeipaaLFv6
import Derived.Test.YtmenbognkdeipaaLFt9
set_option maxRecDepth 100000
set_option maxHeartbeats 4000000
set_option linter.unusedSimpArgs false
set_option linter.unusedVariables false
namespace Go.Proofs.Ytmenbognkdeipaa
open Go Go.Lx
open Go.Sx (vcIf)

theorem spnEq (ky ky' vl vl' : List UInt8) : eqF Try.prog [PV.str ky, PV.str vl] [PV.str ky', PV.str vl'] (Try.prog.fieldsOf 110).toList = some (decide (ky = ky') && (decide (vl = vl') && true)) := by kernel_rfl
theorem sameTxn_spec (s : Tx) (hs1 : s.sp.length < 9223372036854775807) (hs2 : s.ch.length < 9223372036854775807) (x : PV) (hx : TxIs s x) : FnL Try.prog 36 [.p x, .p x] [] fun v own => v = .p (.bool true) := by
  obtain ⟨xs, zs, hxs, hzs, rfl⟩ := hx
  have hsm := sameChgs_spec s.ch hs2 zs hzs
  obtain ⟨r, sp, ch⟩ := s
  simp only at hs1 hs2 hxs hzs hsm ⊢
  have hxl : xs.length = sp.length := by rw [hxs, pP_length]
  obtain ⟨M, hM⟩ : ∃ M, M = sp.length := ⟨_, rfl⟩
  rw [← hM] at hxl hs1
  refine fn_of_vc eOk fOk fo36 Try.func36 rfl rfl rfl fun B hB => ?_
  intro add sub mul quo rem band bor bxor bclr shl shr ieq ilt ile seq slt beq bnot orb bcond iwrap iof ssz hA cat sq sl imin imax smin smax len slen u8 hL op hop call hcall code hcode ret hret
  have hlx : len xs = Int.ofNat M := by rw [hL.len, hxl]; rfl
  cbv
  rw [hlx]
  refine vcIf.no (by simp [hA.eq, hA.not]) ?_
  cbv
  refine vcIf.no (by simp [hA.cond, hA.eq, hA.not]) ?_
  cbv
  refine hcode _ _ _ (CodeEv.loop eOk fOk (ι := Nat) (fun s => [(2, .own 0 0), (3, .own 1 0), (5, .p (.int .i64 (Int.ofNat s)))])
    (fun s => [.st 63 [.p (.int .i64 r), .p (.sl xs), .p (.sl zs)], .st 63 [.p (.int .i64 r), .p (.sl xs), .p (.sl zs)]]) (fun s => s ≤ M) (fun s => M - s) 0 ?_ ?_)
  · exact ⟨(by repeat (first | exact trivial | refine And.intro rfl ?_)), rfl, Nat.zero_le _⟩
  rintro i h1 rd hrd
  intro add1 sub1 mul1 quo1 rem1 band1 bor1 bxor1 bclr1 shl1 shr1 ieq1 ilt1 ile1 seq1 slt1 beq1 bnot1 orb1 bcond1 iwrap1 iof1 ssz1 hA1 cat1 sq1 sl1 imin1 imax1 smin1 smax1 len1 slen1 u81 hL1 op1 hop1 call1 hcall1 code1 hcode1
  have hlx1 : len1 xs = Int.ofNat M := by rw [hL1.len, hxl]; rfl
  have hadd1 : i < M → add1 .i64 (Int.ofNat i) 1 = Int.ofNat (i + 1) := fun _ => by rw [hA1.add, IntWalk.i64_in _ (by simp only [Int.ofNat_eq_natCast]; omega)]; rfl
  cbv
  by_cases hi : i < M
  · obtain ⟨c, hc⟩ := get_of_lt (show i < sp.length by omega)
    have hzz : xs[i]? = some (.agg [.str c.lo, .str c.hi]) := by rw [hxs]; exact pP_get hc
    obtain ⟨lo, hi'⟩ := c
    simp only at hzz
    refine vcIf.yes (by first | (simp [hA1.not, hA1.eq, hA1.lt, hA1.le, hA1.cond, hA1.beq, hA1.orb, hL1.len, hL1.slen, hL1.sq, hi, hlx1]; done) | (simp only [hi, hlx1]; simp [hA1.not, hA1.eq, hA1.lt, hA1.le, hA1.cond, hA1.beq, hA1.orb, hL1.len, hL1.slen, hL1.sq, hi, hlx1]; done) | (simp [hA1.not, hA1.eq, hA1.lt, hA1.le, hA1.cond, hA1.beq, hA1.orb, hL1.len, hL1.slen, hL1.sq, hi, hlx1]; omega) | (simp only [hi, hlx1]; simp [hA1.not, hA1.eq, hA1.lt, hA1.le, hA1.cond, hA1.beq, hA1.orb, hL1.len, hL1.slen, hL1.sq, hi, hlx1]; omega)) ?_
    cbv
    refine hcode1 _ _ _ (CodeEv.drawT eOk fOk (by kernel_rfl) noX (.rd 0 (.rd 1 (.rd 2 (.rd 3 (.rd 4 (.rd 5 (.rd 6 (.so 7 (.so 8 (.so 9 (.acts (.cons 10 (.done) (.nil))))))))))))) (by kernel_rfl) (by kernel_rfl) ?_)
    intro add2 sub2 mul2 quo2 rem2 band2 bor2 bxor2 bclr2 shl2 shr2 ieq2 ilt2 ile2 seq2 slt2 beq2 bnot2 orb2 bcond2 iwrap2 iof2 ssz2 hA2 cat2 sq2 sl2 imin2 imax2 smin2 smax2 len2 slen2 u82 hL2 op2 hop2 call2 hcall2 code2 hcode2 q2 hq2
    cbv
    refine ⟨i, _, rfl, hzz, rfl, ?_⟩
    cbv
    refine ⟨i, _, rfl, hzz, rfl, ?_⟩
    cbv
    refine hop2 _ _ _ _ (OpEv.aggNe (b := true) rfl rfl rfl (by kernel_rfl) (by kernel_rfl) (by kernel_rfl) ((spnEq lo lo hi' hi').trans (by simp)) ?_)
    cbv
    refine hq2 _ ?_
    cbv
    repeat (first | (refine vcIf.yes ?_ ?_; (focus (simp [hA1.not, hA1.eq, hA1.lt, hA1.le, hA1.cond, hA1.beq, hA1.orb, hL1.len, hL1.slen, hL1.sq]; done)); cbv) | (refine vcIf.no ?_ ?_; (focus (simp [hA1.not, hA1.eq, hA1.lt, hA1.le, hA1.cond, hA1.beq, hA1.orb, hL1.len, hL1.slen, hL1.sq]; done)); cbv) | fail)
    refine hrd _ ⟨i + 1, [], ?_, hi, rfl, ⟨rfl, rfl, ?_, trivial⟩, rfl, rfl, rfl, ?_⟩
    · show M - (i + 1) < M - i
      omega
    · show some (V.p (.int .i64 _)) = _
      rw [hadd1 hi]
    · rw [hB]; exact Nat.zero_le _
  · refine vcIf.no (by first | (simp [hA1.not, hA1.eq, hA1.lt, hA1.le, hA1.cond, hA1.beq, hA1.orb, hL1.len, hL1.slen, hL1.sq, hi, hlx1]; done) | (simp only [hi, hlx1]; simp [hA1.not, hA1.eq, hA1.lt, hA1.le, hA1.cond, hA1.beq, hA1.orb, hL1.len, hL1.slen, hL1.sq, hi, hlx1]; done) | (simp [hA1.not, hA1.eq, hA1.lt, hA1.le, hA1.cond, hA1.beq, hA1.orb, hL1.len, hL1.slen, hL1.sq, hi, hlx1]; omega) | (simp only [hi, hlx1]; simp [hA1.not, hA1.eq, hA1.lt, hA1.le, hA1.cond, hA1.beq, hA1.orb, hL1.len, hL1.slen, hL1.sq, hi, hlx1]; omega)) ?_
    cbv
    refine hcall _ _ _ _ _ (CallEv.same hsm rfl ?_)
    rintro _ _ ⟨rfl, rfl⟩
    cbv
    exact hret _ (RetEv.ret eOk rfl rfl)
theorem gTx_ok {l : List UInt8} {s : Tx} {e : Nat} (h : (s, e) = gTx l) : s.sp.length ≤ 24 ∧ s.ch.length ≤ 24 := by
  unfold gTx at h
  obtain ⟨⟨n1, l1, e1⟩, h1⟩ : ∃ r, r = rdN l 0 := ⟨_, rfl⟩
  rw [← h1] at h; simp only at h
  obtain ⟨⟨n2, l2, e2⟩, h2⟩ : ∃ r, r = rdC l1 e1 24 := ⟨_, rfl⟩
  rw [← h2] at h; simp only at h
  obtain ⟨⟨ss, l3, e3⟩, h3⟩ : ∃ r, r = rdSsT n2 l2 e2 := ⟨_, rfl⟩
  rw [← h3] at h; simp only at h
  obtain ⟨⟨n4, l4, e4⟩, h4⟩ : ∃ r, r = rdC l3 e3 24 := ⟨_, rfl⟩
  rw [← h4] at h; simp only at h
  obtain ⟨⟨ns, l5, e5⟩, h5⟩ : ∃ r, r = rdGsT n4 l4 e4 := ⟨_, rfl⟩
  rw [← h5] at h; simp only at h
  split at h
  · rename_i hc
    have hok := (Tx.ok_iff _).1 hc.2.2
    rw [(Prod.mk.inj h).1]
    exact ⟨hok.2.1, hok.2.2.1⟩
  · rw [(Prod.mk.inj h).1]; exact ⟨Nat.zero_le _, Nat.zero_le _⟩

theorem frameTxns (s : Tx) (hs : s.fit) (b : List UInt8) (hb : b.length < 9223372036854775807) : FnL Try.prog 8 [.p s.v, .p (.sl (bP b))] [] fun z own => z = .p (.bool true) := by
  obtain ⟨xs, hxs⟩ : ∃ xs, xs = pP s.sp := ⟨_, rfl⟩
  obtain ⟨zs, hzs⟩ : ∃ zs, zs = cP s.ch := ⟨_, rfl⟩
  obtain ⟨ys, hys⟩ : ∃ ys, ys = bP b := ⟨_, rfl⟩
  have henc := frPutTxn_spec s hs xs zs hxs hzs
  have hrenc := rPutTxn_spec s hs xs zs hxs hzs
  have hdec := frGetTxn_spec b hb ys hys
  have hrdec := rGetTxn_spec b hb ys hys
  unfold Tx.v
  rw [← hxs, ← hzs, ← hys]
  obtain ⟨R, hR⟩ : ∃ R, R = tEnc s := ⟨_, rfl⟩
  rw [← hR] at henc hrenc
  have hgok : ∀ (s : Tx) (e : Nat), (s, e) = gTx b → s.sp.length ≤ 24 ∧ s.ch.length ≤ 24 := fun s e h => gTx_ok h
  obtain ⟨D, hD⟩ : ∃ D, D = gTx b := ⟨_, rfl⟩
  rw [← hD] at hdec hrdec hgok
  obtain ⟨r, sp, ch⟩ := s
  simp only at henc hrenc hxs hzs ⊢
  refine fn_of_vc eOk fOk fo8 Try.func8 rfl rfl rfl fun B hB => ?_
  intro add sub mul quo rem band bor bxor bclr shl shr ieq ilt ile seq slt beq bnot orb bcond iwrap iof ssz hA cat sq sl imin imax smin smax len slen u8 hL op hop call hcall code hcode ret hret
  cbv
  refine hcall _ _ _ _ _ (CallEv.same henc rfl ?_)
  rintro _ _ ⟨ws, l, e1, h1, hz, rfl, rfl⟩
  cbv
  refine hcall _ _ _ _ _ (CallEv.same hrenc rfl ?_)
  rintro _ _ ⟨ws', l', e1', h1', hz', rfl, rfl⟩
  obtain ⟨rfl, rfl⟩ : l' = l ∧ e1' = e1 := by have := h1'.trans h1.symm; simpa using this
  cbv
  refine hcall _ _ _ _ _ (CallEv.same hdec rfl ?_)
  rintro _ _ ⟨m1, e2, x1, h2, hx1, rfl, rfl⟩
  have hx1' := hx1
  obtain ⟨us, cs, hus, hcs, rfl⟩ := hx1
  cbv
  refine hcall _ _ _ _ _ (CallEv.same hrdec rfl ?_)
  rintro _ _ ⟨m2, e3, x2, h2', ⟨us2, cs2, hus2, hcs2, rfl⟩, rfl, rfl⟩
  obtain ⟨rfl, rfl⟩ : m2 = m1 ∧ e3 = e2 := by have := h2'.trans h2.symm; simpa using this
  obtain rfl : cs2 = cs := hcs2.trans hcs.symm
  obtain rfl : us2 = us := hus2.trans hus.symm
  have hsame := sameTxn_spec m2 (Nat.lt_of_le_of_lt (hgok _ _ h2).1 (by decide)) (Nat.lt_of_le_of_lt (hgok _ _ h2).2 (by decide)) _ hx1'
  cbv
  refine hcall _ _ _ _ _ (CallEv.same awake5_spec rfl ?_)
  rintro _ _ ⟨rfl, rfl⟩
  cbv
  repeat (first | (refine vcIf.yes ?_ ?_; (focus (simp [hA.not, hA.eq, hA.lt, hA.le, hA.cond, hA.beq, hA.orb, hL.len, hL.slen, hL.sq]; done)); cbv) | (refine vcIf.no ?_ ?_; (focus (simp [hA.not, hA.eq, hA.lt, hA.le, hA.cond, hA.beq, hA.orb, hL.len, hL.slen, hL.sq]; done)); cbv) | fail)
  refine ⟨_, hz, ?_⟩
  cbv
  refine ⟨_, hz', ?_⟩
  cbv
  repeat (first | (refine vcIf.yes ?_ ?_; (focus (simp [hA.not, hA.eq, hA.lt, hA.le, hA.cond, hA.beq, hA.orb, hL.len, hL.slen, hL.sq]; done)); cbv) | (refine vcIf.no ?_ ?_; (focus (simp [hA.not, hA.eq, hA.lt, hA.le, hA.cond, hA.beq, hA.orb, hL.len, hL.slen, hL.sq]; done)); cbv) | fail)
  refine hcall _ _ _ _ _ (CallEv.same hsame rfl ?_)
  rintro _ _ rfl
  cbv
  exact hret _ (RetEv.ret eOk rfl (by simp [hA.not, hA.eq, hA.lt, hA.le, hA.cond, hA.beq, hA.orb, hL.len, hL.slen, hL.sq, oneOf]))
theorem has_Spn {K : Nat} {z : PV} (h : Sh.Has K (.st [.str, .str]) z) : ∃ s : Spn, z = s.v ∧ True := by
  obtain ⟨cs, rfl, h0⟩ := has_st h
  obtain ⟨y1, c1, k1, e1, h2⟩ := has_cons h0
  obtain ⟨y2, c2, k2, e2, h3⟩ := has_cons h2
  obtain rfl := has_nil h3
  subst e2 e1
  obtain ⟨a1, rfl, p1⟩ := has_str k1
  obtain ⟨a2, rfl, p2⟩ := has_str k2
  exact ⟨⟨a1, a2⟩, rfl, trivial⟩
theorem has_Tx {K : Nat} (hK : K < 140737488355328) {z : PV} (h : Sh.Has K (.st [.int .i64, .sl 32 (.st [.str, .str]), .sl 40 (.st [.int .i64, .str, .str])]) z) : ∃ s : Tx, z = s.v ∧ s.fit := by
  obtain ⟨cs, rfl, h0⟩ := has_st h
  obtain ⟨y0, c0, k0, e0, h1⟩ := has_cons h0
  obtain ⟨y1, c1, k1, e1, h2⟩ := has_cons h1
  obtain ⟨y2, c2, k2, e2, h3⟩ := has_cons h2
  obtain rfl := has_nil h3
  subst e2 e1 e0
  obtain ⟨a0, rfl, p0, q0⟩ := has_int k0
  obtain ⟨l1, rfl, hl1, hm1⟩ := has_sl k1 fun z hz => has_Spn hz
  obtain ⟨l, rfl, hl, hm⟩ := has_sl k2 fun z hz => has_Chg hK hz
  exact ⟨⟨a0, l1, l⟩, rfl, ⟨p0, q0⟩, hm, by simp only; omega, by simp only; omega⟩
end Go.Proofs.Ytmenbognkdeipaa
