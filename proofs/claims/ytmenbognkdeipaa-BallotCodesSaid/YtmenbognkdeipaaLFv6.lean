/- The document's transactions read. Conditions: on sizes. -/
import Derived.Test.YtmenbognkdeipaaLFv5
set_option maxRecDepth 100000
set_option maxHeartbeats 4000000
set_option linter.unusedSimpArgs false
set_option linter.unusedVariables false
namespace Go.Proofs.Ytmenbognkdeipaa
open Go Go.Lx
open Go.Sx (vcIf)

structure TI6 where
  i : Nat
  ys : List PV
  b : Bool
  zs : List PV
theorem rGetTxn_spec (l : List UInt8) (hl : l.length < 9223372036854775807) (xs : List PV) (hxs : xs = bP l) : FnL Try.prog 35 [.p (.sl xs)] [] (txR (gTx l)) := by
  refine txR.of ?_
  refine fn_of_vc eOk fOk fo35 Try.func35 rfl rfl rfl fun B hB => ?_
  intro add sub mul quo rem band bor bxor bclr shl shr ieq ilt ile seq slt beq bnot orb bcond iwrap iof ssz hA cat sq sl imin imax smin smax len slen u8 hL op hop call hcall code hcode ret hret
  cbv
  have hN1 := rrNum_spec l 0 xs hxs false rfl
  refine hcall _ _ _ _ _ (CallEv.lend [1] hN1 rfl (.cons (.own 0 1 0 rfl) .nil) (rrL rfl) ?_)
  rintro _ _ ⟨n1, l1, e1, z1, b1, h1, g1, d1, rfl, rfl⟩
  have t1 := rdN_len h1
  cbv
  have hN2 := rrNum_spec l1 e1 z1 g1 b1 d1
  refine hcall _ _ _ _ _ (CallEv.lend [1] hN2 rfl (.cons (.own 0 1 0 rfl) .nil) (rrL rfl) ?_)
  rintro _ _ ⟨n2, l2, e2, z2, b2, h2, g2, d2, rfl, rfl⟩
  have t2 := rdN_len h2
  cbv
  have hc0 : n2 ≤ 24 → (n2, l2, e2) = rdC l1 e1 24 := fun h => by unfold rdC; rw [← h2]; exact (if_neg (show ¬ 24 < n2 by omega)).symm
  have hc1 : 24 < n2 → gTx l = (Tx.zero, 2) := fun h => by
    have hc : (0, l2, 2) = rdC l1 e1 24 := by unfold rdC; rw [← h2]; exact (if_pos h).symm
    exact gTx_bad (l3 := []) (e3 := 0) (ss := []) h1 hc (Nat.le_refl _) (show (2 : Nat) ≠ 0 by decide)
  refine hcode _ _ _ (CodeEv.conv (Conv.hollowC 2 1 110 2 (by decide) rfl rfl) (CodeEv.loopX eOk fOk (ι := TI6) (κ := TI6) (fun s => [(2, .own 0 0), (4, .own 1 0), (5, .own 2 0), (6, .p (.int .i64 (Int.ofNat n2))), (7, .p (.int .i64 (Int.ofNat s.i)))])
    (fun s => [.st 63 [.p (.int .i64 0), .p .nils, .p .nils], rrSt s.ys s.b, .st 63 [.p (.int .i64 (Int.ofNat n1)), .vw 3 2 0 s.i none, .p .nils], .arr 110 2 s.zs])
    (fun s => (s.i = 0 ∨ s.i ≤ n2 ∧ n2 ≤ 24) ∧ s.ys = bP (rdSsT s.i l2 e2).2.1 ∧ s.b = decide ((rdSsT s.i l2 e2).2.2 ≠ 0) ∧ s.zs = pP (rdSsT s.i l2 e2).1) (fun s => n2 - s.i) ⟨0, z2, b2, []⟩ 0
    (fun s => [(2, .own 0 0), (4, .own 1 0), (5, .own 2 0), (6, .p (.int .i64 (Int.ofNat n2)))])
    (fun s => [.st 63 [.p (.int .i64 0), .p .nils, .p .nils], rrSt s.ys s.b, .st 63 [.p (.int .i64 (Int.ofNat n1)), .vw 3 2 0 s.i none, .p .nils], .arr 110 2 s.zs])
    (fun s => (24 < n2 ∨ s.i ≤ n2 ∧ n2 ≤ 24 ∧ (s.i = n2 ∨ s.b = true)) ∧ s.ys = bP (rdSsT s.i l2 e2).2.1 ∧ s.b = decide ((rdSsT s.i l2 e2).2.2 ≠ 0) ∧ s.zs = pP (rdSsT s.i l2 e2).1) ?_ ?_ ?_))
  · exact ⟨(by repeat (first | exact trivial | refine And.intro rfl ?_)), rfl, .inl rfl, g2, d2, rfl⟩
  rotate_left
  · rintro ⟨i, ys, b, zs⟩ ⟨k1, k2, k3, k4⟩
    simp only at k1 k2 k3 k4
    by_cases h24 : 24 < n2
    · have hgs := hc1 h24
      cbv
      refine vcIf.yes (by first | (simp [hA.not, hA.eq, hA.lt, hA.le, hA.cond, hA.beq, hA.orb, hL.len, hL.slen, hL.sq, h24]; done) | (simp only [h24]; simp [hA.not, hA.eq, hA.lt, hA.le, hA.cond, hA.beq, hA.orb, hL.len, hL.slen, hL.sq, h24]; done) | (simp [hA.not, hA.eq, hA.lt, hA.le, hA.cond, hA.beq, hA.orb, hL.len, hL.slen, hL.sq, h24]; omega) | (simp only [h24]; simp [hA.not, hA.eq, hA.lt, hA.le, hA.cond, hA.beq, hA.orb, hL.len, hL.slen, hL.sq, h24]; omega)) ?_
      cbv
      repeat (first | (refine vcIf.yes ?_ ?_; (focus (simp [hA.not, hA.eq, hA.lt, hA.le, hA.cond, hA.beq, hA.orb, hL.len, hL.slen, hL.sq]; done)); cbv) | (refine vcIf.no ?_ ?_; (focus (simp [hA.not, hA.eq, hA.lt, hA.le, hA.cond, hA.beq, hA.orb, hL.len, hL.slen, hL.sq]; done)); cbv) | fail)
      exact hret _ (RetEv.ret eOk rfl (.inl ⟨hgs, rfl⟩))
    have k1 := k1.resolve_left h24
    obtain ⟨ki, kn, kb⟩ := k1
    have hc := hc0 kn
    obtain ⟨hil, hll⟩ := rdSsT_len i l2 e2
    obtain ⟨⟨ss, l3, e3⟩, h3⟩ : ∃ x, x = rdSsT i l2 e2 := ⟨_, rfl⟩
    rw [← h3] at k2 k3 k4 hil hll
    simp only at k2 k3 k4 hil hll
    have hnl : zs.length = i := by rw [k4, pP_length, hil]
    have hC2 := rgetChgs_spec l3 (by omega) e3 ys k2 b k3 24 (by decide)
    have hie : i = n2 ∨ e3 ≠ 0 := by
      rcases kb with h | h
      · exact .inl h
      · exact .inr (of_decide_eq_true (k3.symm.trans h))
    cbv
    refine vcIf.no (by first | (simp [hA.not, hA.eq, hA.lt, hA.le, hA.cond, hA.beq, hA.orb, hL.len, hL.slen, hL.sq, h24]; done) | (simp only [h24]; simp [hA.not, hA.eq, hA.lt, hA.le, hA.cond, hA.beq, hA.orb, hL.len, hL.slen, hL.sq, h24]; done) | (simp [hA.not, hA.eq, hA.lt, hA.le, hA.cond, hA.beq, hA.orb, hL.len, hL.slen, hL.sq, h24]; omega) | (simp only [h24]; simp [hA.not, hA.eq, hA.lt, hA.le, hA.cond, hA.beq, hA.orb, hL.len, hL.slen, hL.sq, h24]; omega)) ?_
    cbv
    refine hcall _ _ _ _ _ (CallEv.lend [1] hC2 rfl (.cons (.own 0 1 0 rfl) (.cons (.p _) .nil)) (rrL rfl) ?_)
    rintro _ _ ⟨n4, j, l4, e4, cs, l5, e5, z5, us, b5, h4, hj, hje, h5, g5, gz, d5, rfl, rfl⟩
    have hn4 := (rdC_le h4).1
    have hcl : cs.length = j := by have := (rdGsT_len j l4 e4).1; rw [← h5] at this; exact this
    obtain ⟨s, hsd⟩ : ∃ s : Tx, s = ⟨n1, ss, cs⟩ := ⟨_, rfl⟩
    have hgs := gTx_of h1 hc ki hie h3 h4 hj hje h5
    rw [← hsd] at hgs
    have hst : ∀ vs, vs = zs → FnL Try.prog 76 [.p (.agg [.int .i64 n1, .sl vs, .sl us])] [] fun v own => ∃ b, b = s.okB ∧ v = .p (.bool b) ∧ own = [] := fun vs hv => by
      have := rTxn_spec' s (by rw [hsd]; simp only; omega) (by rw [hsd]; simp only; omega) vs us (by rw [hv, hsd]; exact k4) (by rw [hsd]; exact gz)
      rw [hsd] at this ⊢
      exact this
    have hzl : z5.length = l5.length := by rw [g5, bP_length]
    cbv
    cases b5 with
    | true =>
      have he := of_decide_eq_true d5.symm
      rw [if_neg (fun c => he c.1)] at hgs
      cbv
      repeat (first | (refine vcIf.yes ?_ ?_; (focus (simp [hA.not, hA.eq, hA.lt, hA.le, hA.cond, hA.beq, hA.orb, hL.len, hL.slen, hL.sq]; done)); cbv) | (refine vcIf.no ?_ ?_; (focus (simp [hA.not, hA.eq, hA.lt, hA.le, hA.cond, hA.beq, hA.orb, hL.len, hL.slen, hL.sq]; done)); cbv) | fail)
      exact hret _ (RetEv.ret eOk rfl (.inl ⟨hgs, rfl⟩))
    | false =>
      have he0 : e5 = 0 := by have := of_decide_eq_false d5.symm; simpa using this
      cbv
      repeat (first | (refine vcIf.yes ?_ ?_; (focus (simp [hA.not, hA.eq, hA.lt, hA.le, hA.cond, hA.beq, hA.orb, hL.len, hL.slen, hL.sq]; done)); cbv) | (refine vcIf.no ?_ ?_; (focus (simp [hA.not, hA.eq, hA.lt, hA.le, hA.cond, hA.beq, hA.orb, hL.len, hL.slen, hL.sq]; done)); cbv) | fail)
      by_cases hlf : l5 = []
      rotate_left
      · rw [if_neg (fun c => hlf c.2.1)] at hgs
        have : 0 < l5.length := List.length_pos_iff.2 hlf
        refine vcIf.yes (by simp [hA.cond, hA.lt, hL.len, hzl]; omega) ?_
        cbv
        repeat (first | (refine vcIf.yes ?_ ?_; (focus (simp [hA.not, hA.eq, hA.lt, hA.le, hA.cond, hA.beq, hA.orb, hL.len, hL.slen, hL.sq]; done)); cbv) | (refine vcIf.no ?_ ?_; (focus (simp [hA.not, hA.eq, hA.lt, hA.le, hA.cond, hA.beq, hA.orb, hL.len, hL.slen, hL.sq]; done)); cbv) | fail)
        exact hret _ (RetEv.ret eOk rfl (.inl ⟨hgs, rfl⟩))
      refine vcIf.no (by simp [hA.cond, hA.lt, hL.len, hzl, hlf]) ?_
      cbv
      refine hcall _ _ _ _ _ (CallEv.freezeG 3 rfl (by rw [hB]; exact Nat.zero_le _) fun g hg => CallEv.same (hst (g 0 i) (by rw [hg, frz_full hnl])) rfl ?_)
      rintro _ _ ⟨ok, hok, rfl, rfl⟩
      have hgn : g 0 i = zs := by rw [hg, frz_full hnl]
      rw [← hok] at hgs
      cbv
      cases ok with
      | false =>
        rw [if_neg (fun c => by cases c.2.2)] at hgs
        repeat (first | (refine vcIf.yes ?_ ?_; (focus (simp [hA.not, hA.eq, hA.lt, hA.le, hA.cond, hA.beq, hA.orb, hL.len, hL.slen, hL.sq]; done)); cbv) | (refine vcIf.no ?_ ?_; (focus (simp [hA.not, hA.eq, hA.lt, hA.le, hA.cond, hA.beq, hA.orb, hL.len, hL.slen, hL.sq]; done)); cbv) | fail)
        exact hret _ (RetEv.ret eOk rfl (.inl ⟨hgs, rfl⟩))
      | true =>
        rw [if_pos ⟨he0, hlf, rfl⟩] at hgs
        repeat (first | (refine vcIf.yes ?_ ?_; (focus (simp [hA.not, hA.eq, hA.lt, hA.le, hA.cond, hA.beq, hA.orb, hL.len, hL.slen, hL.sq]; done)); cbv) | (refine vcIf.no ?_ ?_; (focus (simp [hA.not, hA.eq, hA.lt, hA.le, hA.cond, hA.beq, hA.orb, hL.len, hL.slen, hL.sq]; done)); cbv) | fail)
        exact hret _ (RetEv.ret eOk rfl (.inr ⟨s, g 0 i, us, hgs, by rw [hgn, hsd]; exact k4, by rw [hsd]; exact gz, by subst hsd; rfl⟩))
  rintro ⟨i, ys, b, zs⟩ ⟨k1, k2, k3, k4⟩ rd hrd out hout
  simp only at k1 k2 k3 k4
  obtain ⟨hil, hll⟩ := rdSsT_len i l2 e2
  have hstep := show rdSsT (i + 1) l2 e2 = _ from by rw [rdSsT]
  obtain ⟨⟨ss, li, ei⟩, hT⟩ : ∃ x, x = rdSsT i l2 e2 := ⟨_, rfl⟩
  rw [← hT] at k2 k3 k4 hil hll hstep
  simp only at k2 k3 k4 hil hll hstep
  have hzl : zs.length = i := by rw [k4, pP_length, hil]
  have hT1 := rrText_spec li (by omega) ei ys k2 b k3
  intro add1 sub1 mul1 quo1 rem1 band1 bor1 bxor1 bclr1 shl1 shr1 ieq1 ilt1 ile1 seq1 slt1 beq1 bnot1 orb1 bcond1 iwrap1 iof1 ssz1 hA1 cat1 sq1 sl1 imin1 imax1 smin1 smax1 len1 slen1 u81 hL1 op1 hop1 call1 hcall1 code1 hcode1
  have hadd1 : i ≤ 24 → add1 .i64 (Int.ofNat i) 1 = Int.ofNat (i + 1) := fun _ => by rw [hA1.add, IntWalk.i64_in _ (by simp only [Int.ofNat_eq_natCast]; omega)]; rfl
  cbv
  by_cases hi : i < n2
  · refine vcIf.yes (by first | (simp [hA1.not, hA1.eq, hA1.lt, hA1.le, hA1.cond, hA1.beq, hA1.orb, hL1.len, hL1.slen, hL1.sq, hi]; done) | (simp only [hi]; simp [hA1.not, hA1.eq, hA1.lt, hA1.le, hA1.cond, hA1.beq, hA1.orb, hL1.len, hL1.slen, hL1.sq, hi]; done) | (simp [hA1.not, hA1.eq, hA1.lt, hA1.le, hA1.cond, hA1.beq, hA1.orb, hL1.len, hL1.slen, hL1.sq, hi]; omega) | (simp only [hi]; simp [hA1.not, hA1.eq, hA1.lt, hA1.le, hA1.cond, hA1.beq, hA1.orb, hL1.len, hL1.slen, hL1.sq, hi]; omega)) ?_
    cbv
    by_cases h24 : n2 ≤ 24
    · refine vcIf.yes (by rw [hA1.cond, hA1.le]; exact dle h24) ?_
      cbv
      cases b with
      | false =>
        cbv
        repeat (first | (refine vcIf.yes ?_ ?_; (focus (simp [hA1.not, hA1.eq, hA1.lt, hA1.le, hA1.cond, hA1.beq, hA1.orb, hL1.len, hL1.slen, hL1.sq]; done)); cbv) | (refine vcIf.no ?_ ?_; (focus (simp [hA1.not, hA1.eq, hA1.lt, hA1.le, hA1.cond, hA1.beq, hA1.orb, hL1.len, hL1.slen, hL1.sq]; done)); cbv) | fail)
        refine hcall1 _ _ _ _ _ (CallEv.lend [1] hT1 rfl (.cons (.own 0 1 0 rfl) .nil) (rrL rfl) ?_)
        rintro _ _ ⟨s2, l4, e4, y4, b4, q2, g4, d4, rfl, rfl⟩
        have w2 := rdT_len q2
        have hT2 := rrText_spec l4 (by omega) e4 y4 g4 b4 d4
        cbv
        refine hcall1 _ _ _ _ _ (CallEv.lend [1] hT2 rfl (.cons (.own 0 1 0 rfl) .nil) (rrL rfl) ?_)
        rintro _ _ ⟨s3, l5, e5, y5, b5, q3, g5, d5, rfl, rfl⟩
        have hGx := rdS_of q2 q3
        rw [hGx] at hstep
        simp only at hstep
        cbv
        refine ⟨false, ?_⟩
        cbv
        refine .inl ⟨(), rfl, hzl.symm, Wf.one (Spn.wf ⟨s2, s3⟩), ?_, ?_, ?_⟩
        · show i + 1 ≤ maxLen
          unfold maxLen; omega
        · show (i + 1) * 32 ≤ _
          omega
        intro us n' hu hn'
        replace hu : us = zs ++ [Spn.v ⟨s2, s3⟩] := hu
        obtain rfl : n' = i + 1 := hn'
        cbv
        refine hrd _ ⟨⟨i + 1, y5, b5, us⟩, _, ?_, ⟨.inr ⟨hi, h24⟩, ?_, ?_, ?_⟩, rfl, ⟨rfl, rfl, rfl, rfl, ?_, trivial⟩, rfl, rfl, rfl, ?_⟩
        · simp only; omega
        · simp only; rw [hstep]; exact g5
        · simp only; rw [hstep]; exact d5
        · simp only; rw [hstep, hu, k4]; simp [pP]
        · show some (V.p (.int .i64 _)) = _
          rw [hadd1 (by omega)]
        · rw [hB]; exact Nat.zero_le _
      | true =>
        cbv
        repeat (first | (refine vcIf.yes ?_ ?_; (focus (simp [hA1.not, hA1.eq, hA1.lt, hA1.le, hA1.cond, hA1.beq, hA1.orb, hL1.len, hL1.slen, hL1.sq]; done)); cbv) | (refine vcIf.no ?_ ?_; (focus (simp [hA1.not, hA1.eq, hA1.lt, hA1.le, hA1.cond, hA1.beq, hA1.orb, hL1.len, hL1.slen, hL1.sq]; done)); cbv) | fail)
        refine hout _ ⟨⟨i, ys, true, zs⟩, [], ⟨.inr ⟨by simp only; omega, h24, .inr rfl⟩, by rw [← hT]; exact k2, by rw [← hT]; exact k3, by rw [← hT]; exact k4⟩, rfl, (by repeat (first | exact trivial | refine And.intro rfl ?_)), rfl, rfl, rfl, ?_⟩
        rw [hB]; exact Nat.zero_le _
    · refine vcIf.no (by rw [hA1.cond, hA1.le]; exact dle' h24) ?_
      cbv
      repeat (first | (refine vcIf.yes ?_ ?_; (focus (simp [hA1.not, hA1.eq, hA1.lt, hA1.le, hA1.cond, hA1.beq, hA1.orb, hL1.len, hL1.slen, hL1.sq]; done)); cbv) | (refine vcIf.no ?_ ?_; (focus (simp [hA1.not, hA1.eq, hA1.lt, hA1.le, hA1.cond, hA1.beq, hA1.orb, hL1.len, hL1.slen, hL1.sq]; done)); cbv) | fail)
      refine hout _ ⟨⟨i, ys, b, zs⟩, [], ⟨.inl (by omega), by rw [← hT]; exact k2, by rw [← hT]; exact k3, by rw [← hT]; exact k4⟩, rfl, (by repeat (first | exact trivial | refine And.intro rfl ?_)), rfl, rfl, rfl, ?_⟩
      rw [hB]; exact Nat.zero_le _
  · refine vcIf.no (by first | (simp [hA1.not, hA1.eq, hA1.lt, hA1.le, hA1.cond, hA1.beq, hA1.orb, hL1.len, hL1.slen, hL1.sq, hi]; done) | (simp only [hi]; simp [hA1.not, hA1.eq, hA1.lt, hA1.le, hA1.cond, hA1.beq, hA1.orb, hL1.len, hL1.slen, hL1.sq, hi]; done) | (simp [hA1.not, hA1.eq, hA1.lt, hA1.le, hA1.cond, hA1.beq, hA1.orb, hL1.len, hL1.slen, hL1.sq, hi]; omega) | (simp only [hi]; simp [hA1.not, hA1.eq, hA1.lt, hA1.le, hA1.cond, hA1.beq, hA1.orb, hL1.len, hL1.slen, hL1.sq, hi]; omega)) ?_
    cbv
    repeat (first | (refine vcIf.yes ?_ ?_; (focus (simp [hA1.not, hA1.eq, hA1.lt, hA1.le, hA1.cond, hA1.beq, hA1.orb, hL1.len, hL1.slen, hL1.sq]; done)); cbv) | (refine vcIf.no ?_ ?_; (focus (simp [hA1.not, hA1.eq, hA1.lt, hA1.le, hA1.cond, hA1.beq, hA1.orb, hL1.len, hL1.slen, hL1.sq]; done)); cbv) | fail)
    refine hout _ ⟨⟨i, ys, b, zs⟩, [], ⟨by simp only; omega, by rw [← hT]; exact k2, by rw [← hT]; exact k3, by rw [← hT]; exact k4⟩, rfl, (by repeat (first | exact trivial | refine And.intro rfl ?_)), rfl, rfl, rfl, ?_⟩
    rw [hB]; exact Nat.zero_le _
end Go.Proofs.Ytmenbognkdeipaa
