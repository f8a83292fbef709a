/- Pairs behind a change; the document's. Conditions: on sizes. -/
import Derived.Test.YtdeolllpbflemaaLAp2
set_option maxRecDepth 100000
set_option maxHeartbeats 16000000
set_option linter.unusedSimpArgs false
set_option linter.unusedVariables false
namespace Go.Proofs.Ytdeolllpbflemaa
open Go Go.Lx
open Go.Sx (vcIf)

/-- A round: what is added, and whether the new pair is laid. -/
def oneSt (c : Chg) (s : List Pr × Bool) (p : Pr) : List Pr × Bool :=
  let s1 := if s.2 = false ∧ Op.bytesLess p.key c.key = false then (s.1 ++ [⟨c.key, c.val⟩], true) else s
  (if hs (spn c) p.key = true then s1.1 else s1.1 ++ [p], s1.2)
def oneF (c : Chg) (ps : List Pr) : List Pr × Bool := ps.foldl (oneSt c) ([], decide (c.kind ≠ 1))
def one (ps : List Pr) (c : Chg) : List Pr := if (oneF c ps).2 = true then (oneF c ps).1 else (oneF c ps).1 ++ [⟨c.key, c.val⟩]
theorem oneF_next (c : Chg) {ps : List Pr} {i : Nat} {p : Pr} (h : ps[i]? = some p) : oneF c (ps.take (i + 1)) = oneSt c (oneF c (ps.take i)) p := by
  unfold oneF
  rw [List.take_add_one, h, List.foldl_append]; rfl
theorem oneSt_len (c : Chg) (s : List Pr × Bool) (p : Pr) : (oneSt c s p).1.length ≤ s.1.length + 2 := by
  unfold oneSt
  simp only
  split <;> split <;> simp

theorem oneSt_no (c : Chg) (ul : List Pr) (put : Bool) (p : Pr) (h : put = true ∨ Op.bytesLess p.key c.key = true) : oneSt c (ul, put) p = (if hs (spn c) p.key = true then ul else ul ++ [p], put) := by
  unfold oneSt
  have : ¬ ((ul, put).2 = false ∧ Op.bytesLess p.key c.key = false) := by
    rintro ⟨a, b⟩; simp only at a; rcases h with h | h
    · rw [h] at a; cases a
    · rw [h] at b; cases b
  simp only at this
  simp only [if_neg this]
theorem oneSt_in (c : Chg) (ul : List Pr) (put : Bool) (p : Pr) (h1 : put = false) (h2 : Op.bytesLess p.key c.key = false) : oneSt c (ul, put) p = (if hs (spn c) p.key = true then ul ++ [⟨c.key, c.val⟩] else (ul ++ [⟨c.key, c.val⟩]) ++ [p], true) := by
  unfold oneSt
  simp only [if_pos (And.intro h1 h2)]

theorem rOne_spec (ps : List Pr) (hn : ps.length * 32 + 32 ≤ 140737488355328) (c : Chg) (hc : c.fit) (zs : List PV) (hzs : zs = prP ps) :
    FnL Try.prog 47 [.p (.sl zs), .p (.agg [.int .i64 c.kind, .str c.key, .str c.val])] [] fun v own => v = .p (.sl (prP (one ps c))) ∧ own = [] := by
  obtain ⟨R, hR⟩ : ∃ R, R = prP (one ps c) := ⟨_, rfl⟩
  rw [← hR]
  refine FnL.flat (R := fun v own => v = .p (.sl R)) ?_ (by rintro _ _ rfl; exact ⟨_, _, rfl, .refl _, rfl, rfl⟩)
  obtain ⟨N, hN⟩ : ∃ n, n = ps.length := ⟨_, rfl⟩
  have hzl : zs.length = N := by rw [hzs, prP_length, hN]
  have hN2 : N * 32 + 32 ≤ 140737488355328 := by omega
  have hsp := rSpan_spec c.kind c.key c.val hc.1
  obtain ⟨kd, ky, vl⟩ := c
  simp only at hsp
  simp only
  obtain ⟨pn, hpn⟩ : ∃ b, b = decide (kd ≠ 1) := ⟨_, rfl⟩
  refine fn_of_vc eOk fOk fo47 Try.func47 rfl rfl rfl fun B hB => ?_
  intro add sub mul quo rem band bor bxor bclr shl shr ieq ilt ile seq slt beq bnot orb bcond iwrap iof ssz hA cat sq sl imin imax smin smax len slen u8 hL op hop call hcall code hcode ret hret
  have hpn1 : bnot (ieq kd 1) = pn := by rw [hA.not, hA.eq, hpn]; by_cases h : kd = 1 <;> simp [h]
  cbv
  refine ⟨true, ?_⟩
  cbv
  rw [hpn1]
  refine hcode _ _ _ (CodeEv.loop eOk fOk (ι := Nat × Nat × List PV × Bool) (fun q => [(0, .p (.sl zs)), (3, .own 0 0), (5, .vw 1 2 0 q.2.1 none), (6, .p (.bool q.2.2.2)), (7, .p (.int .i64 (Int.ofNat q.1)))])
    (fun q => [.st 66 [.p (.int .i64 kd), .p (.str ky), .p (.str vl)], .arr 45 2 q.2.2.1]) (fun q => q.1 ≤ N ∧ q.2.1 ≤ q.1 + (if q.2.2.2 = true then 1 else 0) ∧ q.2.2.1.length = q.2.1 ∧ (∃ us : List Pr, q.2.2.1 = prP us ∧ oneF ⟨kd, ky, vl⟩ (ps.take q.1) = (us, q.2.2.2))) (fun q => N - q.1) (0, 0, [], pn) ?_ ?_)
  · exact ⟨(by repeat (first | exact trivial | refine And.intro rfl ?_)), rfl, Nat.zero_le _, Nat.zero_le _, rfl, [], rfl, by rw [hpn]; rfl⟩
  rintro ⟨i, k, us, put⟩ ⟨k1, k2, k3, k4⟩ rd hrd
  simp only at k1 k2 k3 k4
  obtain ⟨ul, hul, hof⟩ := k4
  by_cases hi : i < N
  · refine Exists.elim (get_of_lt (show i < ps.length by omega)) fun p hp => ?_
    have hnx := oneF_next ⟨kd, ky, vl⟩ hp
    rw [hof] at hnx
    obtain ⟨pk, pv⟩ := p
    have hzi : zs[i]? = some (.agg [.str pk, .str pv]) := by rw [hzs]; exact prP_get hp
    refine Exists.elim (show ∃ x, x = spn ⟨kd, ky, vl⟩ from ⟨_, rfl⟩) fun sp hspe => ?_
    rw [← hspe] at hsp
    have hhas := rhas_spec sp.lo sp.hi pk
    refine Exists.elim (show ∃ b, b = hs sp pk from ⟨_, rfl⟩) fun b hb => ?_
    rw [show (!(bl pk sp.lo) && bl pk sp.hi) = b from hb.symm] at hhas
    have hx1 : put = true ∨ Op.bytesLess pk ky = true → oneF ⟨kd, ky, vl⟩ (ps.take (i + 1)) = (if b = true then ul else ul ++ [⟨pk, pv⟩], put) := fun h => by
      rw [hnx, oneSt_no _ _ _ _ h, ← hspe, ← hb]
    have hx2 : put = false → Op.bytesLess pk ky = false → oneF ⟨kd, ky, vl⟩ (ps.take (i + 1)) = (if b = true then ul ++ [⟨ky, vl⟩] else (ul ++ [⟨ky, vl⟩]) ++ [⟨pk, pv⟩], true) := fun h h' => by
      rw [hnx, oneSt_in _ _ _ _ h h', ← hspe, ← hb]
    clear hnx
    clear hspe hb
    obtain ⟨sl, sh⟩ := sp
    simp only at hsp hhas
    intro add1 sub1 mul1 quo1 rem1 band1 bor1 bxor1 bclr1 shl1 shr1 ieq1 ilt1 ile1 seq1 slt1 beq1 bnot1 orb1 bcond1 iwrap1 iof1 ssz1 hA1 cat1 sq1 sl1 imin1 imax1 smin1 smax1 len1 slen1 u81 hL1 op1 hop1 call1 hcall1 code1 hcode1
    have e0 : len1 zs = Int.ofNat N := by rw [hL1.len, hzl]; rfl
    have hadd1 : add1 .i64 (Int.ofNat i) 1 = Int.ofNat (i + 1) := by rw [hA1.add, IntWalk.i64_in _ (by simp only [Int.ofNat_eq_natCast]; omega)]; rfl
    cbv
    refine vcIf.yes (by first | (simp [hA1.not, hA1.eq, hA1.lt, hA1.le, hA1.cond, hA1.beq, hA1.orb, hL1.len, hL1.slen, hL1.sq, e0, hi]; done) | (simp only [e0, hi]; simp [hA1.not, hA1.eq, hA1.lt, hA1.le, hA1.cond, hA1.beq, hA1.orb, hL1.len, hL1.slen, hL1.sq, e0, hi]; done) | (simp [hA1.not, hA1.eq, hA1.lt, hA1.le, hA1.cond, hA1.beq, hA1.orb, hL1.len, hL1.slen, hL1.sq, e0, hi]; omega) | (simp only [e0, hi]; simp [hA1.not, hA1.eq, hA1.lt, hA1.le, hA1.cond, hA1.beq, hA1.orb, hL1.len, hL1.slen, hL1.sq, e0, hi]; omega)) ?_
    cbv
    refine hcode1 _ _ _ (CodeEv.drawT eOk fOk (by kernel_rfl) noX (.so 0 (.so 1 (.so 2 (.rd 3 (.rd 4 (.rd 5 (.rd 6 (.rd 7 (.so 8 (.so 9 (.so 10 (.so 11 (.done))))))))))))) (by kernel_rfl) (by kernel_rfl) ?_)
    intro add2 sub2 mul2 quo2 rem2 band2 bor2 bxor2 bclr2 shl2 shr2 ieq2 ilt2 ile2 seq2 slt2 beq2 bnot2 orb2 bcond2 iwrap2 iof2 ssz2 hA2 cat2 sq2 sl2 imin2 imax2 smin2 smax2 len2 slen2 u82 hL2 op2 hop2 call2 hcall2 code2 hcode2 q2 hq2
    cbv
    by_cases hpt : put = true
    · refine vcIf.no (by rw [hA2.not, hpt]; rfl) ?_
      cbv
      refine hq2 _ ?_
      cbv
      have hnx := hx1 (.inl hpt)
      rw [if_pos hpt] at k2
      refine hcode1 _ _ _ (CodeEv.drawA eOk fOk (by kernel_rfl) noX (by kernel_rfl) (by kernel_rfl) (by kernel_rfl) ?_)
      intro add2 sub2 mul2 quo2 rem2 band2 bor2 bxor2 bclr2 shl2 shr2 ieq2 ilt2 ile2 seq2 slt2 beq2 bnot2 orb2 bcond2 iwrap2 iof2 ssz2 hA2 cat2 sq2 sl2 imin2 imax2 smin2 smax2 len2 slen2 u82 hL2 op2 hop2 call2 hcall2 code2 hcode2 q2 hq2
      cbv
      refine ⟨i, _, rfl, hzi, rfl, ?_⟩
      cbv
      refine hcall2 _ _ _ _ _ (CallEv.same hsp rfl ?_)
      rintro _ _ ⟨_, rfl, rfl, rfl⟩
      cbv
      refine hcall2 _ _ _ _ _ (CallEv.same hhas rfl ?_)
      rintro _ _ ⟨rfl, rfl⟩
      cbv
      refine hq2 _ ?_
      cbv
      by_cases hbb : b = true
      · rw [if_pos hbb] at hnx
        refine vcIf.no (by rw [hA2.not, hbb]; rfl) ?_
        cbv
        refine hrd _ ⟨(i + 1, k, us, put), _, ?_, ⟨by simp only; omega, ?_, ?_, ?_⟩, rfl, ⟨rfl, rfl, rfl, rfl, ?_, trivial⟩, rfl, rfl, rfl, ?_⟩
        · simp only; omega
        · simp only [hpt]; first | omega | (simp; omega)
        · exact k3
        · exact ⟨_, hul, hnx⟩
        · show some (V.p (.int .i64 _)) = _
          rw [hadd1]
        · rw [hB]; exact Nat.zero_le _
      · rw [if_neg hbb] at hnx
        have hbb := Bool.eq_false_iff.2 hbb
        refine vcIf.yes (by rw [hA2.not, hbb]; rfl) ?_
        cbv
        refine ⟨i, _, rfl, hzi, rfl, ?_⟩
        cbv
        refine ⟨false, ?_⟩
        cbv
        refine .inl ⟨(), rfl, k3.symm, Wf.one (Pr.wf ⟨pk, pv⟩), ?_, ?_, ?_⟩
        · show k + 1 ≤ maxLen
          unfold maxLen; omega
        · show (k + 1) * 32 ≤ _
          omega
        intro ws n3 hw hn3
        replace hw : ws = us ++ [Pr.v ⟨pk, pv⟩] := hw
        replace hn3 : n3 = k + 1 := hn3
        cbv
        refine hrd _ ⟨(i + 1, n3, ws, put), _, ?_, ⟨by simp only; omega, ?_, ?_, ?_⟩, rfl, ⟨rfl, rfl, rfl, rfl, ?_, trivial⟩, rfl, rfl, rfl, ?_⟩
        · simp only; omega
        · simp only [hpt]; first | omega | (simp; omega)
        · simp only; rw [hw, hn3, List.length_append, k3]; rfl
        · exact ⟨_, by simp only; rw [hw, hul]; simp [prP], hnx⟩
        · show some (V.p (.int .i64 _)) = _
          rw [hadd1]
        · rw [hB]; exact Nat.zero_le _
    · rw [if_neg hpt] at k2
      have hpt := Bool.eq_false_iff.2 hpt
      refine vcIf.yes (by rw [hA2.not, hpt]; rfl) ?_
      cbv
      refine ⟨i, _, rfl, hzi, rfl, ?_⟩
      cbv
      refine hq2 _ ?_
      cbv
      by_cases hlt : Op.bytesLess pk ky = true
      · have hnx := hx1 (.inr hlt)
        refine vcIf.no (by rw [hA2.cond, hA2.not, hL2.sl, hlt]; rfl) ?_
        cbv
        refine hcode1 _ _ _ (CodeEv.drawA eOk fOk (by kernel_rfl) noX (by kernel_rfl) (by kernel_rfl) (by kernel_rfl) ?_)
        intro add2 sub2 mul2 quo2 rem2 band2 bor2 bxor2 bclr2 shl2 shr2 ieq2 ilt2 ile2 seq2 slt2 beq2 bnot2 orb2 bcond2 iwrap2 iof2 ssz2 hA2 cat2 sq2 sl2 imin2 imax2 smin2 smax2 len2 slen2 u82 hL2 op2 hop2 call2 hcall2 code2 hcode2 q2 hq2
        cbv
        refine ⟨i, _, rfl, hzi, rfl, ?_⟩
        cbv
        refine hcall2 _ _ _ _ _ (CallEv.same hsp rfl ?_)
        rintro _ _ ⟨_, rfl, rfl, rfl⟩
        cbv
        refine hcall2 _ _ _ _ _ (CallEv.same hhas rfl ?_)
        rintro _ _ ⟨rfl, rfl⟩
        cbv
        refine hq2 _ ?_
        cbv
        by_cases hbb : b = true
        · rw [if_pos hbb] at hnx
          refine vcIf.no (by rw [hA2.not, hbb]; rfl) ?_
          cbv
          refine hrd _ ⟨(i + 1, k, us, put), _, ?_, ⟨by simp only; omega, ?_, ?_, ?_⟩, rfl, ⟨rfl, rfl, rfl, rfl, ?_, trivial⟩, rfl, rfl, rfl, ?_⟩
          · simp only; omega
          · simp only [hpt]; first | omega | (simp; omega)
          · exact k3
          · exact ⟨_, hul, hnx⟩
          · show some (V.p (.int .i64 _)) = _
            rw [hadd1]
          · rw [hB]; exact Nat.zero_le _
        · rw [if_neg hbb] at hnx
          have hbb := Bool.eq_false_iff.2 hbb
          refine vcIf.yes (by rw [hA2.not, hbb]; rfl) ?_
          cbv
          refine ⟨i, _, rfl, hzi, rfl, ?_⟩
          cbv
          refine ⟨false, ?_⟩
          cbv
          refine .inl ⟨(), rfl, k3.symm, Wf.one (Pr.wf ⟨pk, pv⟩), ?_, ?_, ?_⟩
          · show k + 1 ≤ maxLen
            unfold maxLen; omega
          · show (k + 1) * 32 ≤ _
            omega
          intro ws n3 hw hn3
          replace hw : ws = us ++ [Pr.v ⟨pk, pv⟩] := hw
          replace hn3 : n3 = k + 1 := hn3
          cbv
          refine hrd _ ⟨(i + 1, n3, ws, put), _, ?_, ⟨by simp only; omega, ?_, ?_, ?_⟩, rfl, ⟨rfl, rfl, rfl, rfl, ?_, trivial⟩, rfl, rfl, rfl, ?_⟩
          · simp only; omega
          · simp only [hpt]; first | omega | (simp; omega)
          · simp only; rw [hw, hn3, List.length_append, k3]; rfl
          · exact ⟨_, by simp only; rw [hw, hul]; simp [prP], hnx⟩
          · show some (V.p (.int .i64 _)) = _
            rw [hadd1]
          · rw [hB]; exact Nat.zero_le _
      · have hlt := Bool.eq_false_iff.2 hlt
        have hnx := hx2 hpt hlt
        refine vcIf.yes (by rw [hA2.cond, hA2.not, hL2.sl, hlt]; rfl) ?_
        cbv
        refine ⟨false, ?_⟩
        cbv
        refine .inl ⟨(), rfl, k3.symm, Wf.one (Pr.wf ⟨ky, vl⟩), ?_, ?_, ?_⟩
        · show k + 1 ≤ maxLen
          unfold maxLen; omega
        · show (k + 1) * 32 ≤ _
          omega
        intro us' n' hu hn'
        replace hu : us' = us ++ [Pr.v ⟨ky, vl⟩] := hu
        replace hn' : n' = k + 1 := hn'
        have hul' : us' = prP (ul ++ [⟨ky, vl⟩]) := by rw [hu, hul]; simp [prP]
        have k3' : us'.length = n' := by rw [hu, hn', List.length_append, k3]; rfl
        cbv
        refine hcode1 _ _ _ (CodeEv.drawA eOk fOk (by kernel_rfl) noX (by kernel_rfl) (by kernel_rfl) (by kernel_rfl) ?_)
        intro add2 sub2 mul2 quo2 rem2 band2 bor2 bxor2 bclr2 shl2 shr2 ieq2 ilt2 ile2 seq2 slt2 beq2 bnot2 orb2 bcond2 iwrap2 iof2 ssz2 hA2 cat2 sq2 sl2 imin2 imax2 smin2 smax2 len2 slen2 u82 hL2 op2 hop2 call2 hcall2 code2 hcode2 q2 hq2
        cbv
        refine ⟨i, _, rfl, hzi, rfl, ?_⟩
        cbv
        refine hcall2 _ _ _ _ _ (CallEv.same hsp rfl ?_)
        rintro _ _ ⟨_, rfl, rfl, rfl⟩
        cbv
        refine hcall2 _ _ _ _ _ (CallEv.same hhas rfl ?_)
        rintro _ _ ⟨rfl, rfl⟩
        cbv
        refine hq2 _ ?_
        cbv
        by_cases hbb : b = true
        · rw [if_pos hbb] at hnx
          refine vcIf.no (by rw [hA2.not, hbb]; rfl) ?_
          cbv
          refine hrd _ ⟨(i + 1, n', us', true), _, ?_, ⟨by simp only; omega, ?_, ?_, ?_⟩, rfl, ⟨rfl, rfl, rfl, rfl, ?_, trivial⟩, rfl, rfl, rfl, ?_⟩
          · simp only; omega
          · simp only [hpt]; first | omega | (simp; omega)
          · exact k3'
          · exact ⟨_, hul', hnx⟩
          · show some (V.p (.int .i64 _)) = _
            rw [hadd1]
          · rw [hB]; exact Nat.zero_le _
        · rw [if_neg hbb] at hnx
          have hbb := Bool.eq_false_iff.2 hbb
          refine vcIf.yes (by rw [hA2.not, hbb]; rfl) ?_
          cbv
          refine ⟨i, _, rfl, hzi, rfl, ?_⟩
          cbv
          refine ⟨false, ?_⟩
          cbv
          refine .inl ⟨(), rfl, k3'.symm, Wf.one (Pr.wf ⟨pk, pv⟩), ?_, ?_, ?_⟩
          · show n' + 1 ≤ maxLen
            unfold maxLen; omega
          · show (n' + 1) * 32 ≤ _
            omega
          intro ws n3 hw hn3
          replace hw : ws = us' ++ [Pr.v ⟨pk, pv⟩] := hw
          replace hn3 : n3 = n' + 1 := hn3
          cbv
          refine hrd _ ⟨(i + 1, n3, ws, true), _, ?_, ⟨by simp only; omega, ?_, ?_, ?_⟩, rfl, ⟨rfl, rfl, rfl, rfl, ?_, trivial⟩, rfl, rfl, rfl, ?_⟩
          · simp only; omega
          · simp only [hpt]; first | omega | (simp; omega)
          · simp only; rw [hw, hn3, List.length_append, k3']; rfl
          · exact ⟨_, by simp only; rw [hw, hul']; simp [prP], hnx⟩
          · show some (V.p (.int .i64 _)) = _
            rw [hadd1]
          · rw [hB]; exact Nat.zero_le _
  · have hin : i = N := by omega
    rw [List.take_of_length_le (by omega)] at hof
    by_cases hpt : put = true
    · have hRR : R = us := by rw [hR, one, hof, if_pos hpt, hul]
      intro add1 sub1 mul1 quo1 rem1 band1 bor1 bxor1 bclr1 shl1 shr1 ieq1 ilt1 ile1 seq1 slt1 beq1 bnot1 orb1 bcond1 iwrap1 iof1 ssz1 hA1 cat1 sq1 sl1 imin1 imax1 smin1 smax1 len1 slen1 u81 hL1 op1 hop1 call1 hcall1 code1 hcode1
      have e0 : len1 zs = Int.ofNat N := by rw [hL1.len, hzl]; rfl
      cbv
      refine vcIf.no (by first | (simp [hA1.not, hA1.eq, hA1.lt, hA1.le, hA1.cond, hA1.beq, hA1.orb, hL1.len, hL1.slen, hL1.sq, e0, hi]; done) | (simp only [e0, hi]; simp [hA1.not, hA1.eq, hA1.lt, hA1.le, hA1.cond, hA1.beq, hA1.orb, hL1.len, hL1.slen, hL1.sq, e0, hi]; done) | (simp [hA1.not, hA1.eq, hA1.lt, hA1.le, hA1.cond, hA1.beq, hA1.orb, hL1.len, hL1.slen, hL1.sq, e0, hi]; omega) | (simp only [e0, hi]; simp [hA1.not, hA1.eq, hA1.lt, hA1.le, hA1.cond, hA1.beq, hA1.orb, hL1.len, hL1.slen, hL1.sq, e0, hi]; omega)) ?_
      cbv
      refine vcIf.no (by rw [hpt, hA.not]; rfl) ?_
      cbv
      refine hret _ (RetEv.retF eOk rfl 1 rfl (by rw [hB]; exact Nat.zero_le _) ?_)
      rw [hRR]
      show V.p (.sl ((us.drop 0).take k)) = _
      rw [frz_full k3]
    · rw [if_neg hpt] at k2
      have hRR : R = us ++ [Pr.v ⟨ky, vl⟩] := by rw [hR, one, hof, if_neg hpt, hul]; simp [prP]
      have hpt := Bool.eq_false_iff.2 hpt
      intro add1 sub1 mul1 quo1 rem1 band1 bor1 bxor1 bclr1 shl1 shr1 ieq1 ilt1 ile1 seq1 slt1 beq1 bnot1 orb1 bcond1 iwrap1 iof1 ssz1 hA1 cat1 sq1 sl1 imin1 imax1 smin1 smax1 len1 slen1 u81 hL1 op1 hop1 call1 hcall1 code1 hcode1
      have e0 : len1 zs = Int.ofNat N := by rw [hL1.len, hzl]; rfl
      cbv
      refine vcIf.no (by first | (simp [hA1.not, hA1.eq, hA1.lt, hA1.le, hA1.cond, hA1.beq, hA1.orb, hL1.len, hL1.slen, hL1.sq, e0, hi]; done) | (simp only [e0, hi]; simp [hA1.not, hA1.eq, hA1.lt, hA1.le, hA1.cond, hA1.beq, hA1.orb, hL1.len, hL1.slen, hL1.sq, e0, hi]; done) | (simp [hA1.not, hA1.eq, hA1.lt, hA1.le, hA1.cond, hA1.beq, hA1.orb, hL1.len, hL1.slen, hL1.sq, e0, hi]; omega) | (simp only [e0, hi]; simp [hA1.not, hA1.eq, hA1.lt, hA1.le, hA1.cond, hA1.beq, hA1.orb, hL1.len, hL1.slen, hL1.sq, e0, hi]; omega)) ?_
      cbv
      refine vcIf.yes (by rw [hpt, hA.not]; rfl) ?_
      cbv
      refine ⟨false, ?_⟩
      cbv
      refine .inl ⟨(), rfl, k3.symm, Wf.one (Pr.wf ⟨ky, vl⟩), ?_, ?_, ?_⟩
      · show k + 1 ≤ maxLen
        unfold maxLen; omega
      · show (k + 1) * 32 ≤ _
        omega
      intro us' n' hu hn'
      replace hu : us' = us ++ [Pr.v ⟨ky, vl⟩] := hu
      replace hn' : n' = k + 1 := hn'
      have hul' : us'.length = n' := by rw [hu, hn', List.length_append, k3]; rfl
      cbv
      refine hret _ (RetEv.retF eOk rfl 1 rfl (by rw [hB]; exact Nat.zero_le _) ?_)
      rw [hRR, ← hu]
      show V.p (.sl ((us'.drop 0).take n')) = _
      rw [frz_full hul']
end Go.Proofs.Ytdeolllpbflemaa
