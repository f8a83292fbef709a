/- Transactions read. Conditions: on sizes. -/
import Derived.Test.YtmenbognkdeipaaLFv4
set_option maxRecDepth 100000
set_option maxHeartbeats 4000000
set_option linter.unusedSimpArgs false
set_option linter.unusedVariables false
namespace Go.Proofs.Ytmenbognkdeipaa
open Go Go.Lx
open Go.Sx (vcIf)

def rdS (l : List UInt8) (e : Nat) : Spn × List UInt8 × Nat := (⟨(rdT l e).1, (rdT (rdT l e).2.1 (rdT l e).2.2).1⟩, (rdT (rdT l e).2.1 (rdT l e).2.2).2)
def rdSsT : Nat → List UInt8 → Nat → List Spn × List UInt8 × Nat
  | 0, l, e => ([], l, e)
  | k + 1, l, e => ((rdSsT k l e).1 ++ [(rdS (rdSsT k l e).2.1 (rdSsT k l e).2.2).1], (rdS (rdSsT k l e).2.1 (rdSsT k l e).2.2).2)
theorem rdS_bad {l : List UInt8} {e : Nat} (h : e ≠ 0) : (rdS l e).2 = (l, e) := by
  unfold rdS
  simp only [rdT_bad h]
theorem rdS_of {l l2 l3 k v : List UInt8} {e e2 e3 : Nat} (h2 : (k, l2, e2) = rdT l e) (h3 : (v, l3, e3) = rdT l2 e2) : rdS l e = (⟨k, v⟩, l3, e3) := by
  unfold rdS; rw [← h2]; simp only; rw [← h3]
theorem rdS_len (l : List UInt8) (e : Nat) : (rdS l e).2.1.length ≤ l.length := by
  obtain ⟨⟨k, l2, e2⟩, h2⟩ : ∃ r, r = rdT l e := ⟨_, rfl⟩
  obtain ⟨⟨v, l3, e3⟩, h3⟩ : ∃ r, r = rdT l2 e2 := ⟨_, rfl⟩
  rw [rdS_of h2 h3]
  have := (rdT_len h2).2; have := (rdT_len h3).2
  simp only; omega
theorem rdSsT_len : ∀ (k : Nat) (l : List UInt8) (e : Nat), (rdSsT k l e).1.length = k ∧ (rdSsT k l e).2.1.length ≤ l.length
  | 0, l, e => ⟨rfl, Nat.le_refl _⟩
  | k + 1, l, e => by
    have h := rdSsT_len k l e
    have h2 := rdS_len (rdSsT k l e).2.1 (rdSsT k l e).2.2
    rw [rdSsT]
    exact ⟨by simp [h.1], Nat.le_trans h2 h.2⟩
theorem rdSsT_bad {l : List UInt8} {e : Nat} : ∀ (k i : Nat), i ≤ k → (rdSsT i l e).2.2 ≠ 0 → (rdSsT k l e).2.2 ≠ 0
  | 0, i, h, hb => by obtain rfl : i = 0 := by omega
                      exact hb
  | k + 1, i, h, hb => by
    rcases Nat.lt_or_ge k i with c | c
    · obtain rfl : i = k + 1 := by omega
      exact hb
    · have := rdSsT_bad k i c hb
      rw [rdSsT, rdS_bad this]
      exact this
theorem rdC_bad {l : List UInt8} {e most : Nat} (h : e ≠ 0) : (rdC l e most).2.2 ≠ 0 := by
  unfold rdC; rw [rdN_bad h]; split
  · exact (by decide : (2 : Nat) ≠ 0)
  · exact h
def Tx.zero : Tx := ⟨0, [], []⟩
def TxIs (s : Tx) (x : PV) : Prop := ∃ xs zs, xs = pP s.sp ∧ zs = cP s.ch ∧ x = .agg [.int .i64 s.r, .sl xs, .sl zs]
/-- The transaction that bytes are, and the error. -/
def gTx (l : List UInt8) : Tx × Nat :=
  match rdN l 0 with
  | (r, l, e) => match rdC l e 24 with
    | (m, l, e) => match rdSsT m l e with
      | (ss, l, e) => match rdC l e 24 with
        | (n, l, e) => match rdGsT n l e with
          | (cs, l, e) => if e = 0 ∧ l = [] ∧ Tx.okB ⟨r, ss, cs⟩ = true then (⟨r, ss, cs⟩, 0) else (Tx.zero, 2)
theorem gTx_bad {l l1 l2 l3 : List UInt8} {e1 e2 e3 n1 n2 i : Nat} {ss : List Spn} (h1 : (n1, l1, e1) = rdN l 0) (h2 : (n2, l2, e2) = rdC l1 e1 24) (hi : i ≤ n2) (he : (rdSsT i l2 e2).2.2 ≠ 0) : gTx l = (Tx.zero, 2) := by
  unfold gTx; rw [← h1]; simp only; rw [← h2]; simp only
  have := rdGsT_bad (rdC (rdSsT n2 l2 e2).2.1 (rdSsT n2 l2 e2).2.2 24).1 0 (Nat.zero_le _) (rdC_bad (most := 24) (l := (rdSsT n2 l2 e2).2.1) (rdSsT_bad n2 i hi he))
  rw [if_neg (fun c => this c.1)]
theorem gTx_of {l l1 l2 l3 l4 l5 : List UInt8} {e1 e2 e3 e4 e5 n1 n2 n4 i j : Nat} {ss : List Spn} {cs : List Chg} (h1 : (n1, l1, e1) = rdN l 0) (h2 : (n2, l2, e2) = rdC l1 e1 24) (hi : i ≤ n2) (hie : i = n2 ∨ e3 ≠ 0) (h3 : (ss, l3, e3) = rdSsT i l2 e2) (h4 : (n4, l4, e4) = rdC l3 e3 24) (hj : j ≤ n4) (hje : j = n4 ∨ e5 ≠ 0) (h5 : (cs, l5, e5) = rdGsT j l4 e4) :
    gTx l = if e5 = 0 ∧ l5 = [] ∧ Tx.okB ⟨n1, ss, cs⟩ = true then (⟨n1, ss, cs⟩, 0) else (Tx.zero, 2) := by
  by_cases he : e3 = 0
  · obtain rfl : i = n2 := by omega
    unfold gTx; rw [← h1]; simp only; rw [← h2]; simp only; rw [← h3]; simp only; rw [← h4]; simp only
    rcases hje with rfl | he
    · rw [← h5]
    · have := rdGsT_bad n4 j hj (by rw [← h5]; exact he)
      rw [if_neg (fun c => this c.1), if_neg (fun c => he c.1)]
  · rw [gTx_bad (ss := ss) (l3 := l3) (e3 := e3) h1 h2 hi (by rw [← h3]; exact he)]
    have h4b := rdC_bad (l := l3) (most := 24) he
    rw [← h4] at h4b
    have h5b := rdGsT_bad j 0 (Nat.zero_le _) (l := l4) (e := e4) h4b
    rw [← h5] at h5b
    rw [if_neg (fun c => h5b c.1)]
def tx0 : V := .p (.tup [.agg [.int .i64 0, .nils, .nils], .int .i64 2])
/-- A transaction, and an error: as a result. -/
def txR (r : Tx × Nat) (v : V) (own : List Res) : Prop := ∃ (s : Tx) (e : Nat) (x : PV), (s, e) = r ∧ TxIs s x ∧ v = .p (.tup [x, .int .i64 (Int.ofNat e)]) ∧ own = []
theorem txR.of {f : FuncId} {args : List V} {r : Tx × Nat} (h : FnL Try.prog f args [] fun v own => r = (Tx.zero, 2) ∧ v = tx0 ∨ ∃ (s : Tx) (xs zs : List PV), r = (s, 0) ∧ xs = pP s.sp ∧ zs = cP s.ch ∧ v = .p (.tup [.agg [.int .i64 s.r, .sl xs, .sl zs], .int .i64 0])) :
    FnL Try.prog f args [] (txR r) := by
  refine h.flat ?_
  rintro _ _ (⟨rfl, rfl⟩ | ⟨s, xs, zs, rfl, hx, hz, rfl⟩)
  · exact ⟨_, .tup [.agg [.int .i64 0, .sl [], .sl []], .int .i64 2], rfl, PW.tup ⟨PW.agg ⟨.refl _, PW.nils, PW.nils, trivial⟩, .refl _, trivial⟩, Tx.zero, 2, _, rfl, ⟨[], [], rfl, rfl, rfl⟩, rfl, rfl⟩
  · exact ⟨_, _, rfl, .refl _, s, 0, _, rfl, ⟨xs, zs, hx, hz, rfl⟩, rfl, rfl⟩

structure TI5 where
  i : Nat
  r : Nat
  ys : List PV
  e : Nat
  zs : List PV
theorem frGetTxn_spec (l : List UInt8) (hl : l.length < 9223372036854775807) (xs : List PV) (hxs : xs = bP l) : FnL Try.prog 34 [.p (.sl xs)] [] (txR (gTx l)) := by
  refine txR.of ?_
  have hnr := newReader_spec xs
  refine fn_of_vc eOk fOk fo34 Try.func34 rfl rfl rfl fun B hB => ?_
  intro add sub mul quo rem band bor bxor bclr shl shr ieq ilt ile seq slt beq bnot orb bcond iwrap iof ssz hA cat sq sl imin imax smin smax len slen u8 hL op hop call hcall code hcode ret hret
  cbv
  refine hcall _ _ _ _ _ (CallEv.same hnr rfl ?_)
  rintro _ _ ⟨rfl, rfl⟩
  cbv
  have hN1 := rdNumV l 0 xs hxs
  refine hcall _ _ _ _ _ (CallEv.lend [1] hN1 rfl (.cons (.own 0 1 0 rfl) .nil) (rdL rfl) ?_)
  rintro _ _ ⟨n1, l1, e1, z1, h1, g1, rfl, rfl⟩
  have t1 := rdN_len h1
  cbv
  have hC := rdCount_spec l1 e1 z1 g1 24
  refine hcall _ _ _ _ _ (CallEv.lend [1] hC rfl (.cons (.own 0 1 0 rfl) (.cons (.p _) .nil)) (rdL rfl) ?_)
  rintro _ _ ⟨n2, l2, e2, z2, h2, g2, rfl, rfl⟩
  have hn2 := rdC_le h2
  cbv
  refine hcode _ _ _ (CodeEv.conv (Conv.hollowC 2 1 110 2 (by decide) rfl rfl) (CodeEv.loopX eOk fOk (ι := TI5) (κ := TI5) (fun s => [(2, .own 0 0), (4, .own 1 0), (5, .own 2 0), (6, .p (.int .i64 (Int.ofNat s.r)))])
    (fun s => [.st 63 [.p (.int .i64 0), .p .nils, .p .nils], rdSt s.ys s.e, .st 63 [.p (.int .i64 (Int.ofNat n1)), .vw 3 2 0 s.i none, .p .nils], .arr 110 2 s.zs])
    (fun s => s.r + s.i = n2 ∧ s.ys = bP (rdSsT s.i l2 e2).2.1 ∧ s.e = (rdSsT s.i l2 e2).2.2 ∧ s.zs = pP (rdSsT s.i l2 e2).1) (fun s => s.r) ⟨0, n2, z2, e2, []⟩ 0
    (fun s => [(2, .own 0 0), (4, .own 1 0), (5, .own 2 0)])
    (fun s => [.st 63 [.p (.int .i64 0), .p .nils, .p .nils], rdSt s.ys s.e, .st 63 [.p (.int .i64 (Int.ofNat n1)), .vw 3 2 0 s.i none, .p .nils], .arr 110 2 s.zs])
    (fun s => s.i ≤ n2 ∧ (s.i = n2 ∨ s.e ≠ 0) ∧ s.ys = bP (rdSsT s.i l2 e2).2.1 ∧ s.e = (rdSsT s.i l2 e2).2.2 ∧ s.zs = pP (rdSsT s.i l2 e2).1) ?_ ?_ ?_))
  · exact ⟨(by repeat (first | exact trivial | refine And.intro rfl ?_)), rfl, rfl, g2, rfl, rfl⟩
  rotate_left
  · rintro ⟨i, r, ys, e3, zs⟩ ⟨k0, k1, k2, k3, k4⟩
    simp only at k0 k1 k2 k3 k4
    obtain ⟨hil, hll⟩ := rdSsT_len i l2 e2
    obtain ⟨⟨ss, l3, ei⟩, h3⟩ : ∃ x, x = rdSsT i l2 e2 := ⟨_, rfl⟩
    rw [← h3] at k2 k3 k4 hil hll
    simp only at k2 k3 k4 hil hll
    subst k3
    have hnl : zs.length = i := by rw [k4, pP_length, hil]
    have hC2 := getChgs_spec l3 (by omega) e3 ys k2 24 (by decide)
    cbv
    refine hcall _ _ _ _ _ (CallEv.lend [1] hC2 rfl (.cons (.own 0 1 0 rfl) (.cons (.p _) .nil)) (rdL rfl) ?_)
    rintro _ _ ⟨n4, j, l4, e4, cs, l5, e5, z5, us, h4, hj, hje, h5, g5, gz, rfl, rfl⟩
    have hn4 := (rdC_le h4).1
    have hcl : cs.length = j := by have := (rdGsT_len j l4 e4).1; rw [← h5] at this; exact this
    obtain ⟨s, hsd⟩ : ∃ s : Tx, s = ⟨n1, ss, cs⟩ := ⟨_, rfl⟩
    have hgs := gTx_of h1 h2 k0 k1 h3 h4 hj hje h5
    rw [← hsd] at hgs
    have hn1 := rdN_lt h1
    have hst : ∀ vs, vs = zs → FnL Try.prog 75 [.p (.agg [.int .i64 n1, .sl vs, .sl us])] [] fun v own => ∃ b, b = s.okB ∧ v = .p (.bool b) ∧ own = [] := fun vs hv => by
      have := frTxn_spec' s (by rw [hsd]; simp only; omega) (by rw [hsd]; simp only; omega) vs us (by rw [hv, hsd]; exact k4) (by rw [hsd]; exact gz)
      rw [hsd] at this ⊢
      exact this
    have hdn := rdDone_spec z5 e5
    cbv
    refine hcall _ _ _ _ _ (CallEv.lend [1] hdn rfl (.cons (.own 0 1 0 rfl) .nil) (rdL rfl) ?_)
    rintro _ _ ⟨rfl, rfl⟩
    have hz5 : z5 = [] ↔ l5 = [] := by rw [g5]; cases l5 <;> simp [bP]
    obtain ⟨d, hd⟩ : ∃ d, d = decide (e5 = 0 ∧ z5 = []) := ⟨_, rfl⟩
    rw [← hd]
    cbv
    cases d with
    | false =>
      have hd := of_decide_eq_false hd.symm
      rw [if_neg (fun c => hd ⟨c.1, hz5.2 c.2.1⟩)] at hgs
      cbv
      repeat (first | (refine vcIf.yes ?_ ?_; (focus (simp [hA.not, hA.eq, hA.lt, hA.le, hA.cond, hA.beq, hA.orb, hL.len, hL.slen, hL.sq]; done)); cbv) | (refine vcIf.no ?_ ?_; (focus (simp [hA.not, hA.eq, hA.lt, hA.le, hA.cond, hA.beq, hA.orb, hL.len, hL.slen, hL.sq]; done)); cbv) | fail)
      exact hret _ (RetEv.ret eOk rfl (.inl ⟨hgs, rfl⟩))
    | true =>
      obtain ⟨d1, d2⟩ := of_decide_eq_true hd.symm
      have d2 := hz5.1 d2
      cbv
      repeat (first | (refine vcIf.yes ?_ ?_; (focus (simp [hA.not, hA.eq, hA.lt, hA.le, hA.cond, hA.beq, hA.orb, hL.len, hL.slen, hL.sq]; done)); cbv) | (refine vcIf.no ?_ ?_; (focus (simp [hA.not, hA.eq, hA.lt, hA.le, hA.cond, hA.beq, hA.orb, hL.len, hL.slen, hL.sq]; done)); cbv) | fail)
      refine hcall _ _ _ _ _ (CallEv.freezeG 3 rfl (by rw [hB]; exact Nat.zero_le _) fun g hg => CallEv.same (hst (g 0 i) (by rw [hg, frz_full hnl])) rfl ?_)
      rintro _ _ ⟨b, hb, rfl, rfl⟩
      have hgn : g 0 i = zs := by rw [hg, frz_full hnl]
      rw [← hb] at hgs
      cbv
      cases b with
      | false =>
        rw [if_neg (fun c => by cases c.2.2)] at hgs
        repeat (first | (refine vcIf.yes ?_ ?_; (focus (simp [hA.not, hA.eq, hA.lt, hA.le, hA.cond, hA.beq, hA.orb, hL.len, hL.slen, hL.sq]; done)); cbv) | (refine vcIf.no ?_ ?_; (focus (simp [hA.not, hA.eq, hA.lt, hA.le, hA.cond, hA.beq, hA.orb, hL.len, hL.slen, hL.sq]; done)); cbv) | fail)
        exact hret _ (RetEv.ret eOk rfl (.inl ⟨hgs, rfl⟩))
      | true =>
        rw [if_pos ⟨d1, d2, rfl⟩] at hgs
        repeat (first | (refine vcIf.yes ?_ ?_; (focus (simp [hA.not, hA.eq, hA.lt, hA.le, hA.cond, hA.beq, hA.orb, hL.len, hL.slen, hL.sq]; done)); cbv) | (refine vcIf.no ?_ ?_; (focus (simp [hA.not, hA.eq, hA.lt, hA.le, hA.cond, hA.beq, hA.orb, hL.len, hL.slen, hL.sq]; done)); cbv) | fail)
        exact hret _ (RetEv.ret eOk rfl (.inr ⟨s, g 0 i, us, hgs, by rw [hgn, hsd]; exact k4, by rw [hsd]; exact gz, by subst hsd; rfl⟩))
  rintro ⟨i, r, ys, e3, zs⟩ ⟨k1, k2, k3, k4⟩ rd hrd out hout
  simp only at k1 k2 k3 k4
  obtain ⟨hil, hll⟩ := rdSsT_len i l2 e2
  have hstep := show rdSsT (i + 1) l2 e2 = _ from by rw [rdSsT]
  obtain ⟨⟨ss, li, ei⟩, hT⟩ : ∃ x, x = rdSsT i l2 e2 := ⟨_, rfl⟩
  rw [← hT] at k2 k3 k4 hil hll hstep
  simp only at k2 k3 k4 hil hll hstep
  subst k3
  have hzl : zs.length = i := by rw [k4, pP_length, hil]
  have hE := rdError_spec ys e3
  have hT1 := rdText_spec li (by omega) e3 ys k2
  intro add1 sub1 mul1 quo1 rem1 band1 bor1 bxor1 bclr1 shl1 shr1 ieq1 ilt1 ile1 seq1 slt1 beq1 bnot1 orb1 bcond1 iwrap1 iof1 ssz1 hA1 cat1 sq1 sl1 imin1 imax1 smin1 smax1 len1 slen1 u81 hL1 op1 hop1 call1 hcall1 code1 hcode1
  have hsub : 0 < r → sub1 .i64 (Int.ofNat r) 1 = Int.ofNat (r - 1) := fun h => by rw [hA1.sub, IntWalk.i64_in _ (by simp only [Int.ofNat_eq_natCast]; omega)]; simp only [Int.ofNat_eq_natCast]; omega
  cbv
  by_cases hr : 0 < r
  · refine vcIf.yes (by first | (simp [hA1.not, hA1.eq, hA1.lt, hA1.le, hA1.cond, hA1.beq, hA1.orb, hL1.len, hL1.slen, hL1.sq, hr]; done) | (simp only [hr]; simp [hA1.not, hA1.eq, hA1.lt, hA1.le, hA1.cond, hA1.beq, hA1.orb, hL1.len, hL1.slen, hL1.sq, hr]; done) | (simp [hA1.not, hA1.eq, hA1.lt, hA1.le, hA1.cond, hA1.beq, hA1.orb, hL1.len, hL1.slen, hL1.sq, hr]; omega) | (simp only [hr]; simp [hA1.not, hA1.eq, hA1.lt, hA1.le, hA1.cond, hA1.beq, hA1.orb, hL1.len, hL1.slen, hL1.sq, hr]; omega)) ?_
    cbv
    refine hcall1 _ _ _ _ _ (CallEv.lend [1] hE rfl (.cons (.own 0 1 0 rfl) .nil) (rdL rfl) ?_)
    rintro _ _ ⟨rfl, rfl⟩
    cbv
    by_cases he : e3 = 0
    · refine vcIf.yes (by first | (simp [hA1.not, hA1.eq, hA1.lt, hA1.le, hA1.cond, hA1.beq, hA1.orb, hL1.len, hL1.slen, hL1.sq, he]; done) | (simp only [he]; simp [hA1.not, hA1.eq, hA1.lt, hA1.le, hA1.cond, hA1.beq, hA1.orb, hL1.len, hL1.slen, hL1.sq, he]; done) | (simp [hA1.not, hA1.eq, hA1.lt, hA1.le, hA1.cond, hA1.beq, hA1.orb, hL1.len, hL1.slen, hL1.sq, he]; omega) | (simp only [he]; simp [hA1.not, hA1.eq, hA1.lt, hA1.le, hA1.cond, hA1.beq, hA1.orb, hL1.len, hL1.slen, hL1.sq, he]; omega)) ?_
      cbv
      refine hcode1 _ _ _ (CodeEv.drawT eOk fOk (by kernel_rfl) allX (.rd 0 (.rd 2 (.rd 4 (.acts (.cons 1 (.acts (.cons 3 (.acts (.cons 5 (.so 6 (.acts (.cons 7 (.acts (.cons 8 (.so 9 (.acts (.cons 10 (.done) (.nil)))) (.nil))) (.nil)))) (.nil))) (.nil))) (.cons 3 (.acts (.cons 1 (.acts (.cons 5 (.so 6 (.acts (.cons 7 (.acts (.cons 8 (.so 9 (.acts (.cons 10 (.done) (.nil)))) (.nil))) (.nil)))) (.nil))) (.cons 5 (.rd 6 (.acts (.cons 1 (.acts (.cons 7 (.acts (.cons 8 (.so 9 (.acts (.cons 10 (.done) (.nil)))) (.nil))) (.nil))) (.cons 7 (.so 1 (.acts (.cons 8 (.so 9 (.acts (.cons 10 (.done) (.nil)))) (.nil)))) (.nil))))) (.nil)))) (.nil))))))) (by kernel_rfl) (by kernel_rfl) ?_)
      intro add2 sub2 mul2 quo2 rem2 band2 bor2 bxor2 bclr2 shl2 shr2 ieq2 ilt2 ile2 seq2 slt2 beq2 bnot2 orb2 bcond2 iwrap2 iof2 ssz2 hA2 cat2 sq2 sl2 imin2 imax2 smin2 smax2 len2 slen2 u82 hL2 op2 hop2 call2 hcall2 code2 hcode2 q2 hq2
      cbv
      refine ⟨?_, ?_⟩
      · refine hcall2 _ _ _ _ _ (CallEv.lend [1] hT1 rfl (.cons (.own 0 1 0 rfl) .nil) (rdL rfl) ?_)
        rintro _ _ ⟨s2, l4, e4, y4, q2, g4, rfl, rfl⟩
        have b2 := rdT_len q2
        have hT2 := rdText_spec l4 (by omega) e4 y4 g4
        cbv
        refine hcall2 _ _ _ _ _ (CallEv.lend [1] hT2 rfl (.cons (.own 0 1 0 rfl) .nil) (rdL rfl) ?_)
        rintro _ _ ⟨s3, l5, e5, y5, q3, g5, rfl, rfl⟩
        have hGx := rdS_of q2 q3
        rw [hGx] at hstep
        simp only at hstep
        cbv
        refine ⟨false, ?_⟩
        cbv
        refine .inl ⟨(), rfl, hzl.symm, Wf.one (Spn.wf ⟨s2, s3⟩), ?_, ?_, ?_⟩
        · show i + 1 ≤ maxLen
          unfold maxLen; omega
        · show (i + 1) * 32 ≤ _
          omega
        intro us n' hu hn'
        replace hu : us = zs ++ [Spn.v ⟨s2, s3⟩] := hu
        obtain rfl : n' = i + 1 := hn'
        cbv
        refine hq2 _ ?_
        cbv
        refine hrd _ ⟨⟨i + 1, r - 1, y5, e5, us⟩, [], ?_, ⟨?_, ?_, ?_, ?_⟩, rfl, ⟨rfl, rfl, rfl, ?_, trivial⟩, rfl, rfl, rfl, ?_⟩
        · show r - 1 < r
          omega
        · simp only; omega
        · simp only; rw [hstep]; exact g5
        · simp only; rw [hstep]
        · simp only; rw [hstep, hu, k4]; simp [pP]
        · show some (V.p (.int .i64 _)) = _
          rw [hsub hr]
        · rw [hB]; exact Nat.zero_le _
      · refine hcall2 _ _ _ _ _ (CallEv.lend [1] hT1 rfl (.cons (.own 0 1 0 rfl) .nil) (rdL rfl) ?_)
        rintro _ _ ⟨s2, l4, e4, y4, q2, g4, rfl, rfl⟩
        have b2 := rdT_len q2
        have hT2 := rdText_spec l4 (by omega) e4 y4 g4
        cbv
        refine ⟨?_, ?_⟩
        · refine hcall2 _ _ _ _ _ (CallEv.lend [1] hT2 rfl (.cons (.own 0 1 0 rfl) .nil) (rdL rfl) ?_)
          rintro _ _ ⟨s3, l5, e5, y5, q3, g5, rfl, rfl⟩
          have hGx := rdS_of q2 q3
          rw [hGx] at hstep
          simp only at hstep
          cbv
          refine ⟨false, ?_⟩
          cbv
          refine .inl ⟨(), rfl, hzl.symm, Wf.one (Spn.wf ⟨s2, s3⟩), ?_, ?_, ?_⟩
          · show i + 1 ≤ maxLen
            unfold maxLen; omega
          · show (i + 1) * 32 ≤ _
            omega
          intro us n' hu hn'
          replace hu : us = zs ++ [Spn.v ⟨s2, s3⟩] := hu
          obtain rfl : n' = i + 1 := hn'
          cbv
          refine hq2 _ ?_
          cbv
          refine hrd _ ⟨⟨i + 1, r - 1, y5, e5, us⟩, [], ?_, ⟨?_, ?_, ?_, ?_⟩, rfl, ⟨rfl, rfl, rfl, ?_, trivial⟩, rfl, rfl, rfl, ?_⟩
          · show r - 1 < r
            omega
          · simp only; omega
          · simp only; rw [hstep]; exact g5
          · simp only; rw [hstep]
          · simp only; rw [hstep, hu, k4]; simp [pP]
          · show some (V.p (.int .i64 _)) = _
            rw [hsub hr]
          · rw [hB]; exact Nat.zero_le _
        · refine hcall2 _ _ _ _ _ (CallEv.lend [1] hT2 rfl (.cons (.own 0 1 0 rfl) .nil) (rdL rfl) ?_)
          rintro _ _ ⟨s3, l5, e5, y5, q3, g5, rfl, rfl⟩
          have hGx := rdS_of q2 q3
          rw [hGx] at hstep
          simp only at hstep
          cbv
          refine ⟨?_, ?_⟩
          · refine ⟨false, ?_⟩
            cbv
            refine .inl ⟨(), rfl, hzl.symm, Wf.one (Spn.wf ⟨s2, s3⟩), ?_, ?_, ?_⟩
            · show i + 1 ≤ maxLen
              unfold maxLen; omega
            · show (i + 1) * 32 ≤ _
              omega
            intro us n' hu hn'
            replace hu : us = zs ++ [Spn.v ⟨s2, s3⟩] := hu
            obtain rfl : n' = i + 1 := hn'
            cbv
            refine hq2 _ ?_
            cbv
            refine hrd _ ⟨⟨i + 1, r - 1, y5, e5, us⟩, [], ?_, ⟨?_, ?_, ?_, ?_⟩, rfl, ⟨rfl, rfl, rfl, ?_, trivial⟩, rfl, rfl, rfl, ?_⟩
            · show r - 1 < r
              omega
            · simp only; omega
            · simp only; rw [hstep]; exact g5
            · simp only; rw [hstep]
            · simp only; rw [hstep, hu, k4]; simp [pP]
            · show some (V.p (.int .i64 _)) = _
              rw [hsub hr]
            · rw [hB]; exact Nat.zero_le _
          · refine ⟨false, ?_⟩
            cbv
            refine .inl ⟨(), rfl, hzl.symm, Wf.one (Spn.wf ⟨s2, s3⟩), ?_, ?_, ?_⟩
            · show i + 1 ≤ maxLen
              unfold maxLen; omega
            · show (i + 1) * 32 ≤ _
              omega
            intro us n' hu hn'
            replace hu : us = zs ++ [Spn.v ⟨s2, s3⟩] := hu
            obtain rfl : n' = i + 1 := hn'
            cbv
            refine hq2 _ ?_
            cbv
            refine hrd _ ⟨⟨i + 1, r - 1, y5, e5, us⟩, [], ?_, ⟨?_, ?_, ?_, ?_⟩, rfl, ⟨rfl, rfl, rfl, ?_, trivial⟩, rfl, rfl, rfl, ?_⟩
            · show r - 1 < r
              omega
            · simp only; omega
            · simp only; rw [hstep]; exact g5
            · simp only; rw [hstep]
            · simp only; rw [hstep, hu, k4]; simp [pP]
            · show some (V.p (.int .i64 _)) = _
              rw [hsub hr]
            · rw [hB]; exact Nat.zero_le _
    · refine vcIf.no (by first | (simp [hA1.not, hA1.eq, hA1.lt, hA1.le, hA1.cond, hA1.beq, hA1.orb, hL1.len, hL1.slen, hL1.sq, he]; done) | (simp only [he]; simp [hA1.not, hA1.eq, hA1.lt, hA1.le, hA1.cond, hA1.beq, hA1.orb, hL1.len, hL1.slen, hL1.sq, he]; done) | (simp [hA1.not, hA1.eq, hA1.lt, hA1.le, hA1.cond, hA1.beq, hA1.orb, hL1.len, hL1.slen, hL1.sq, he]; omega) | (simp only [he]; simp [hA1.not, hA1.eq, hA1.lt, hA1.le, hA1.cond, hA1.beq, hA1.orb, hL1.len, hL1.slen, hL1.sq, he]; omega)) ?_
      cbv
      refine hout _ ⟨⟨i, r, ys, e3, zs⟩, [], ⟨by simp only; omega, .inr he, by rw [← hT]; exact k2, by rw [← hT], by rw [← hT]; exact k4⟩, rfl, (by repeat (first | exact trivial | refine And.intro rfl ?_)), rfl, rfl, rfl, ?_⟩
      rw [hB]; exact Nat.zero_le _
  · refine vcIf.no (by first | (simp [hA1.not, hA1.eq, hA1.lt, hA1.le, hA1.cond, hA1.beq, hA1.orb, hL1.len, hL1.slen, hL1.sq, hr]; done) | (simp only [hr]; simp [hA1.not, hA1.eq, hA1.lt, hA1.le, hA1.cond, hA1.beq, hA1.orb, hL1.len, hL1.slen, hL1.sq, hr]; done) | (simp [hA1.not, hA1.eq, hA1.lt, hA1.le, hA1.cond, hA1.beq, hA1.orb, hL1.len, hL1.slen, hL1.sq, hr]; omega) | (simp only [hr]; simp [hA1.not, hA1.eq, hA1.lt, hA1.le, hA1.cond, hA1.beq, hA1.orb, hL1.len, hL1.slen, hL1.sq, hr]; omega)) ?_
    cbv
    repeat (first | (refine vcIf.yes ?_ ?_; (focus (simp [hA1.not, hA1.eq, hA1.lt, hA1.le, hA1.cond, hA1.beq, hA1.orb, hL1.len, hL1.slen, hL1.sq]; done)); cbv) | (refine vcIf.no ?_ ?_; (focus (simp [hA1.not, hA1.eq, hA1.lt, hA1.le, hA1.cond, hA1.beq, hA1.orb, hL1.len, hL1.slen, hL1.sq]; done)); cbv) | fail)
    refine hout _ ⟨⟨i, r, ys, e3, zs⟩, [], ⟨by simp only; omega, .inl (by simp only; omega), by rw [← hT]; exact k2, by rw [← hT], by rw [← hT]; exact k4⟩, rfl, (by repeat (first | exact trivial | refine And.intro rfl ?_)), rfl, rfl, rfl, ?_⟩
    rw [hB]; exact Nat.zero_le _
end Go.Proofs.Ytmenbognkdeipaa
