/- What the document's Pick answers: the same. Conditions: on sizes. -/
import Derived.Test.YtocmeaamaecgeaaLPk1
set_option maxRecDepth 100000
set_option maxHeartbeats 4000000
set_option linter.unusedSimpArgs false
set_option linter.unusedVariables false
namespace Go.Proofs.Ytocmeaamaecgeaa
open Go Go.Lx
open Go.Sx (vcIf)

theorem rPick_spec (ts : List Tx) (vs : List Int) (hf : ∀ t ∈ ts, t.fit) (hn : ts.length ≤ 1000000) (hv : vs.length * 8 ≤ 140737488355328) (zs ys : List PV) (hzs : zs = tP ts) (hys : ys = iP vs) :
    FnL Try.prog 17 [.p (.sl zs), .p (.sl ys)] [] fun v own => v = .p (.tup [.sl (cP (pickR ts vs)), .int .i64 (pickE ts vs)]) ∧ own = [] := by
  obtain ⟨R1, hR1⟩ : ∃ x, x = PV.sl (cP (pickR ts vs)) := ⟨_, rfl⟩
  obtain ⟨R2, hR2⟩ : ∃ x, x = pickE ts vs := ⟨_, rfl⟩
  rw [← hR1, ← hR2]
  refine FnL.flat (R := fun v own => ∃ x, v = .p (.tup [x, .int .i64 R2]) ∧ PW x R1) ?_ (by
    rintro _ _ ⟨x, rfl, h⟩; exact ⟨_, .tup [R1, .int .i64 R2], rfl, .tup ⟨h, .refl _, trivial⟩, rfl, rfl⟩)
  obtain ⟨n, hnn⟩ : ∃ n, n = ts.length := ⟨_, rfl⟩
  obtain ⟨m, hmm⟩ : ∃ n, n = vs.length := ⟨_, rfl⟩
  have hzl : zs.length = n := by rw [hzs, tP_length, hnn]
  have hyl : ys.length = m := by rw [hys, iP_length, hmm]
  have herr : R2 ≠ 0 → R1 = .sl [] := fun h => by rw [hR1, pickR, if_neg (by rw [← hR2]; exact h)]; rfl
  by_cases hnm : n = m
  · have hE : R2 = pkE ts vs := by rw [hR2, pickE, if_pos (by omega)]
    refine fn_of_vc eOk fOk fo17 Try.func17 rfl rfl rfl fun B hB => ?_
    intro add sub mul quo rem band bor bxor bclr shl shr ieq ilt ile seq slt beq bnot orb bcond iwrap iof ssz hA cat sq sl imin imax smin smax len slen u8 hL op hop call hcall code hcode ret hret
    have e1 : len zs = Int.ofNat n := by rw [hL.len, hzl]; rfl
    have e2 : len ys = Int.ofNat n := by rw [hL.len, hyl, hnm]; rfl
    cbv
    rw [e1, e2]
    refine vcIf.no (by first | (simp [hA.not, hA.eq, hA.lt, hA.le, hA.cond, hA.beq, hA.orb, hL.len, hL.slen, hL.sq]; done) | (simp [hA.not, hA.eq, hA.lt, hA.le, hA.cond, hA.beq, hA.orb, hL.len, hL.slen, hL.sq]; omega)) ?_
    cbv
    refine ⟨true, ?_⟩
    cbv
    refine hcode _ _ _ (CodeEv.loop eOk fOk (ι := Nat × List PV × Nat) (fun s => [(0, .p (.sl zs)), (1, .p (.sl ys)), (6, .vw 0 3 0 s.2.2 none), (7, .p (.int .i64 (Int.ofNat s.1)))])
      (fun s => [.arr 57 3 s.2.1]) (fun s => s.1 ≤ n ∧ pkE (ts.take s.1) (vs.take s.1) = 0 ∧ s.2.1 = cP (pkL (ts.take s.1) (vs.take s.1)) ∧ s.2.1.length = s.2.2) (fun s => n - s.1) (0, [], 0) ?_ ?_)
    · exact ⟨(by repeat (first | exact trivial | refine And.intro rfl ?_)), rfl, Nat.zero_le _, rfl, rfl, rfl⟩
    rintro ⟨i, us, k⟩ ⟨k1, k2, k3, k4⟩ rd hrd
    simp only at k1 k2 k3 k4
    by_cases hi : i < n
    · refine Exists.elim (get_of_lt (show i < ts.length by omega)) fun t ht => ?_
      refine Exists.elim (get_of_lt (show i < vs.length by omega)) fun v hvi => ?_
      have hzi : zs[i]? = some (.agg [.int .i64 t.r, .sl (pP t.sp), .sl (cP t.ch)]) := by rw [hzs]; exact tP_get ht
      have hyi : ys[i]? = some (.int .i64 v) := by rw [hys]; exact iP_get hvi
      have htf := hf t (List.mem_of_getElem? ht)
      have hst := pkE_step i ts vs t v ht hvi k2
      have hsl := pkL_step i ts vs t v ht hvi
      have hfr := rTxn_spec t htf _ _ rfl rfl
      have hklen := pkL_len _ _ k2
      rw [List.length_take] at hklen
      have hkk : k ≤ 24 * n := by
        have : k = (pkL (ts.take i) (vs.take i)).length := by rw [← k4, k3, cP_length]
        omega
      have hchl : t.okB = true → (cP t.ch).length ≤ 24 := fun h => by rw [cP_length]; exact (t.ok_iff.1 h).2.2.1
      refine Exists.elim (show ∃ b, b = okV v from ⟨_, rfl⟩) fun ok hok => ?_
      refine Exists.elim (show ∃ b, b = t.okB from ⟨_, rfl⟩) fun tk htk => ?_
      refine Exists.elim (show ∃ b, b = pP t.sp from ⟨_, rfl⟩) fun xs hxs => ?_
      refine Exists.elim (show ∃ b, b = cP t.ch from ⟨_, rfl⟩) fun ws hws => ?_
      refine Exists.elim (show ∃ b, b = t.r from ⟨_, rfl⟩) fun r hr => ?_
      have hww : Wf 3 ws := by rw [hws]; exact cP_wf t.ch
      rw [← hok] at hst
      rw [← htk, ← hxs, ← hws, ← hr] at hfr
      rw [← htk] at hst hchl
      rw [← hws] at hchl
      rw [← hxs, ← hws, ← hr] at hzi
      have hfr := hfr
      have hok1 : ok = true → ¬ v < 1 ∧ ¬ 3 < v := fun h => by have := of_decide_eq_true (hok.symm.trans h); omega
      have hok2 : ¬ v < 1 → ¬ 3 < v → ok = true := fun h h' => by rw [hok]; exact decide_eq_true (by omega)
      clear hok
      intro add1 sub1 mul1 quo1 rem1 band1 bor1 bxor1 bclr1 shl1 shr1 ieq1 ilt1 ile1 seq1 slt1 beq1 bnot1 orb1 bcond1 iwrap1 iof1 ssz1 hA1 cat1 sq1 sl1 imin1 imax1 smin1 smax1 len1 slen1 u81 hL1 op1 hop1 call1 hcall1 code1 hcode1
      have hadd1 : add1 .i64 (Int.ofNat i) 1 = Int.ofNat (i + 1) := by rw [hA1.add, IntWalk.i64_in _ (by simp only [Int.ofNat_eq_natCast]; omega)]; rfl
      have e3 : len1 zs = Int.ofNat n := by rw [hL1.len, hzl]; rfl
      cbv
      refine vcIf.yes (by first | (simp [hA1.not, hA1.eq, hA1.lt, hA1.le, hA1.cond, hA1.beq, hA1.orb, hL1.len, hL1.slen, hL1.sq, e3, hi]; done) | (simp only [e3, hi]; simp [hA1.not, hA1.eq, hA1.lt, hA1.le, hA1.cond, hA1.beq, hA1.orb, hL1.len, hL1.slen, hL1.sq, e3, hi]; done) | (simp [hA1.not, hA1.eq, hA1.lt, hA1.le, hA1.cond, hA1.beq, hA1.orb, hL1.len, hL1.slen, hL1.sq, e3, hi]; omega) | (simp only [e3, hi]; simp [hA1.not, hA1.eq, hA1.lt, hA1.le, hA1.cond, hA1.beq, hA1.orb, hL1.len, hL1.slen, hL1.sq, e3, hi]; omega)) ?_
      cbv
      refine ⟨i, _, rfl, hyi, rfl, ?_⟩
      cbv
      by_cases hv1 : v < 1
      · have hE2 : R2 = 2 := hE.trans (hst.2 fun c => (hok1 c.1).1 hv1)
        refine vcIf.yes (by first | (simp [hA1.not, hA1.eq, hA1.lt, hA1.le, hA1.cond, hA1.beq, hA1.orb, hL1.len, hL1.slen, hL1.sq, hv1]; done) | (simp only [hv1]; simp [hA1.not, hA1.eq, hA1.lt, hA1.le, hA1.cond, hA1.beq, hA1.orb, hL1.len, hL1.slen, hL1.sq, hv1]; done) | (simp [hA1.not, hA1.eq, hA1.lt, hA1.le, hA1.cond, hA1.beq, hA1.orb, hL1.len, hL1.slen, hL1.sq, hv1]; omega) | (simp only [hv1]; simp [hA1.not, hA1.eq, hA1.lt, hA1.le, hA1.cond, hA1.beq, hA1.orb, hL1.len, hL1.slen, hL1.sq, hv1]; omega)) ?_
        cbv
        exact hret _ (RetEv.ret eOk rfl ⟨.nils, by rw [hE2]; rfl, by rw [herr (by rw [hE2]; decide)]; exact .nils⟩)
      refine vcIf.no (by first | (simp [hA1.not, hA1.eq, hA1.lt, hA1.le, hA1.cond, hA1.beq, hA1.orb, hL1.len, hL1.slen, hL1.sq, hv1]; done) | (simp only [hv1]; simp [hA1.not, hA1.eq, hA1.lt, hA1.le, hA1.cond, hA1.beq, hA1.orb, hL1.len, hL1.slen, hL1.sq, hv1]; done) | (simp [hA1.not, hA1.eq, hA1.lt, hA1.le, hA1.cond, hA1.beq, hA1.orb, hL1.len, hL1.slen, hL1.sq, hv1]; omega) | (simp only [hv1]; simp [hA1.not, hA1.eq, hA1.lt, hA1.le, hA1.cond, hA1.beq, hA1.orb, hL1.len, hL1.slen, hL1.sq, hv1]; omega)) ?_
      cbv
      refine ⟨i, _, rfl, hyi, rfl, ?_⟩
      cbv
      by_cases hv3 : 3 < v
      · have hE2 : R2 = 2 := hE.trans (hst.2 fun c => (hok1 c.1).2 hv3)
        refine vcIf.yes (by first | (simp [hA1.not, hA1.eq, hA1.lt, hA1.le, hA1.cond, hA1.beq, hA1.orb, hL1.len, hL1.slen, hL1.sq, hv3]; done) | (simp only [hv3]; simp [hA1.not, hA1.eq, hA1.lt, hA1.le, hA1.cond, hA1.beq, hA1.orb, hL1.len, hL1.slen, hL1.sq, hv3]; done) | (simp [hA1.not, hA1.eq, hA1.lt, hA1.le, hA1.cond, hA1.beq, hA1.orb, hL1.len, hL1.slen, hL1.sq, hv3]; omega) | (simp only [hv3]; simp [hA1.not, hA1.eq, hA1.lt, hA1.le, hA1.cond, hA1.beq, hA1.orb, hL1.len, hL1.slen, hL1.sq, hv3]; omega)) ?_
        cbv
        exact hret _ (RetEv.ret eOk rfl ⟨.nils, by rw [hE2]; rfl, by rw [herr (by rw [hE2]; decide)]; exact .nils⟩)
      have hoo := hok2 hv1 hv3
      refine vcIf.no (by first | (simp [hA1.not, hA1.eq, hA1.lt, hA1.le, hA1.cond, hA1.beq, hA1.orb, hL1.len, hL1.slen, hL1.sq, hv3]; done) | (simp only [hv3]; simp [hA1.not, hA1.eq, hA1.lt, hA1.le, hA1.cond, hA1.beq, hA1.orb, hL1.len, hL1.slen, hL1.sq, hv3]; done) | (simp [hA1.not, hA1.eq, hA1.lt, hA1.le, hA1.cond, hA1.beq, hA1.orb, hL1.len, hL1.slen, hL1.sq, hv3]; omega) | (simp only [hv3]; simp [hA1.not, hA1.eq, hA1.lt, hA1.le, hA1.cond, hA1.beq, hA1.orb, hL1.len, hL1.slen, hL1.sq, hv3]; omega)) ?_
      cbv
      refine ⟨i, _, rfl, hzi, rfl, ?_⟩
      cbv
      refine hcall1 _ _ _ _ _ (CallEv.same hfr rfl ?_)
      rintro _ _ ⟨b, hb, rfl, rfl⟩
      cbv
      by_cases htt : b = true
      · have htk1 : tk = true := hb.symm.trans htt
        refine vcIf.no (by first | (simp [hA1.not, hA1.eq, hA1.lt, hA1.le, hA1.cond, hA1.beq, hA1.orb, hL1.len, hL1.slen, hL1.sq, htt]; done) | (simp only [htt]; simp [hA1.not, hA1.eq, hA1.lt, hA1.le, hA1.cond, hA1.beq, hA1.orb, hL1.len, hL1.slen, hL1.sq, htt]; done) | (simp [hA1.not, hA1.eq, hA1.lt, hA1.le, hA1.cond, hA1.beq, hA1.orb, hL1.len, hL1.slen, hL1.sq, htt]; omega) | (simp only [htt]; simp [hA1.not, hA1.eq, hA1.lt, hA1.le, hA1.cond, hA1.beq, hA1.orb, hL1.len, hL1.slen, hL1.sq, htt]; omega)) ?_
        cbv
        refine ⟨i, _, rfl, hyi, rfl, ?_⟩
        cbv
        have hE1 := hst.1 ⟨hoo, htk1⟩
        by_cases hv1 : v = 1
        · have hchl := hchl htk1
          rw [if_pos hv1] at hsl
          refine vcIf.yes (by first | (simp [hA1.not, hA1.eq, hA1.lt, hA1.le, hA1.cond, hA1.beq, hA1.orb, hL1.len, hL1.slen, hL1.sq, hv1]; done) | (simp only [hv1]; simp [hA1.not, hA1.eq, hA1.lt, hA1.le, hA1.cond, hA1.beq, hA1.orb, hL1.len, hL1.slen, hL1.sq, hv1]; done) | (simp [hA1.not, hA1.eq, hA1.lt, hA1.le, hA1.cond, hA1.beq, hA1.orb, hL1.len, hL1.slen, hL1.sq, hv1]; omega) | (simp only [hv1]; simp [hA1.not, hA1.eq, hA1.lt, hA1.le, hA1.cond, hA1.beq, hA1.orb, hL1.len, hL1.slen, hL1.sq, hv1]; omega)) ?_
          cbv
          refine ⟨i, _, rfl, hzi, rfl, ?_⟩
          cbv
          refine .inl ⟨(), rfl, k4.symm, hww, ?_, ?_, ?_⟩
          · show k + ws.length ≤ maxLen
            unfold maxLen; omega
          · show (k + ws.length) * 40 ≤ _
            omega
          intro vs' n' hu hn'
          replace hu : vs' = us ++ ws := hu
          replace hn' : n' = k + ws.length := hn'
          cbv
          refine hrd _ ⟨(i + 1, vs', n'), _, ?_, ⟨by simp only; omega, hE1, ?_, ?_⟩, rfl, ⟨rfl, rfl, rfl, ?_, trivial⟩, rfl, rfl, rfl, ?_⟩
          · simp only; omega
          · simp only; rw [hsl, hu, k3, hws]; simp [cP]
          · simp only; rw [hu, hn', List.length_append, k4]
          · show some (V.p (.int .i64 _)) = _
            rw [hadd1]
          · rw [hB]; exact Nat.zero_le _
        · rw [if_neg hv1, List.append_nil] at hsl
          refine vcIf.no (by first | (simp [hA1.not, hA1.eq, hA1.lt, hA1.le, hA1.cond, hA1.beq, hA1.orb, hL1.len, hL1.slen, hL1.sq, hv1]; done) | (simp only [hv1]; simp [hA1.not, hA1.eq, hA1.lt, hA1.le, hA1.cond, hA1.beq, hA1.orb, hL1.len, hL1.slen, hL1.sq, hv1]; done) | (simp [hA1.not, hA1.eq, hA1.lt, hA1.le, hA1.cond, hA1.beq, hA1.orb, hL1.len, hL1.slen, hL1.sq, hv1]; omega) | (simp only [hv1]; simp [hA1.not, hA1.eq, hA1.lt, hA1.le, hA1.cond, hA1.beq, hA1.orb, hL1.len, hL1.slen, hL1.sq, hv1]; omega)) ?_
          cbv
          refine hrd _ ⟨(i + 1, us, k), _, ?_, ⟨by simp only; omega, hE1, ?_, k4⟩, rfl, ⟨rfl, rfl, rfl, ?_, trivial⟩, rfl, rfl, rfl, ?_⟩
          · simp only; omega
          · simp only; rw [hsl, k3]
          · show some (V.p (.int .i64 _)) = _
            rw [hadd1]
          · rw [hB]; exact Nat.zero_le _
      · have hE2 : R2 = 2 := hE.trans (hst.2 fun c => htt (hb.trans c.2))
        refine vcIf.yes (by first | (simp [hA1.not, hA1.eq, hA1.lt, hA1.le, hA1.cond, hA1.beq, hA1.orb, hL1.len, hL1.slen, hL1.sq, htt]; done) | (simp only [htt]; simp [hA1.not, hA1.eq, hA1.lt, hA1.le, hA1.cond, hA1.beq, hA1.orb, hL1.len, hL1.slen, hL1.sq, htt]; done) | (simp [hA1.not, hA1.eq, hA1.lt, hA1.le, hA1.cond, hA1.beq, hA1.orb, hL1.len, hL1.slen, hL1.sq, htt]; omega) | (simp only [htt]; simp [hA1.not, hA1.eq, hA1.lt, hA1.le, hA1.cond, hA1.beq, hA1.orb, hL1.len, hL1.slen, hL1.sq, htt]; omega)) ?_
        cbv
        exact hret _ (RetEv.ret eOk rfl ⟨.nils, by rw [hE2]; rfl, by rw [herr (by rw [hE2]; decide)]; exact .nils⟩)
    · have hin : i = n := by omega
      rw [List.take_of_length_le (by omega), List.take_of_length_le (by omega)] at k2 k3
      have hE0 : R2 = 0 := hE.trans k2
      have hR : R1 = .sl us := by rw [hR1, pickR, if_pos (by rw [← hR2]; exact hE0), k3]
      intro add1 sub1 mul1 quo1 rem1 band1 bor1 bxor1 bclr1 shl1 shr1 ieq1 ilt1 ile1 seq1 slt1 beq1 bnot1 orb1 bcond1 iwrap1 iof1 ssz1 hA1 cat1 sq1 sl1 imin1 imax1 smin1 smax1 len1 slen1 u81 hL1 op1 hop1 call1 hcall1 code1 hcode1
      have e3 : len1 zs = Int.ofNat n := by rw [hL1.len, hzl]; rfl
      cbv
      refine vcIf.no (by first | (simp [hA1.not, hA1.eq, hA1.lt, hA1.le, hA1.cond, hA1.beq, hA1.orb, hL1.len, hL1.slen, hL1.sq, e3, hi]; done) | (simp only [e3, hi]; simp [hA1.not, hA1.eq, hA1.lt, hA1.le, hA1.cond, hA1.beq, hA1.orb, hL1.len, hL1.slen, hL1.sq, e3, hi]; done) | (simp [hA1.not, hA1.eq, hA1.lt, hA1.le, hA1.cond, hA1.beq, hA1.orb, hL1.len, hL1.slen, hL1.sq, e3, hi]; omega) | (simp only [e3, hi]; simp [hA1.not, hA1.eq, hA1.lt, hA1.le, hA1.cond, hA1.beq, hA1.orb, hL1.len, hL1.slen, hL1.sq, e3, hi]; omega)) ?_
      cbv
      refine hret _ (RetEv.retF eOk rfl 0 rfl (by rw [hB]; exact Nat.zero_le _) ⟨.sl us, ?_, by rw [hR]; exact .refl _⟩)
      rw [hE0]
      show V.p (.tup [.sl ((us.drop 0).take k), .int .i64 0]) = _
      rw [frz_full k4]
  · have hE : R2 = 1 := by rw [hR2, pickE, if_neg (by omega)]
    refine fn_of_vc eOk fOk fo17 Try.func17 rfl rfl rfl fun B hB => ?_
    intro add sub mul quo rem band bor bxor bclr shl shr ieq ilt ile seq slt beq bnot orb bcond iwrap iof ssz hA cat sq sl imin imax smin smax len slen u8 hL op hop call hcall code hcode ret hret
    have e1 : len zs = Int.ofNat n := by rw [hL.len, hzl]; rfl
    have e2 : len ys = Int.ofNat m := by rw [hL.len, hyl]; rfl
    have hnm' : ¬ ((n : Int) = (m : Int)) := by omega
    cbv
    refine vcIf.yes (by rw [e1, e2, hA.not, hA.eq]; simp only [Int.ofNat_eq_natCast]; simp [hnm']) ?_
    cbv
    exact hret _ (RetEv.ret eOk rfl ⟨.nils, by rw [hE]; rfl, by rw [herr (by rw [hE]; decide)]; exact .nils⟩)
end Go.Proofs.Ytocmeaamaecgeaa
