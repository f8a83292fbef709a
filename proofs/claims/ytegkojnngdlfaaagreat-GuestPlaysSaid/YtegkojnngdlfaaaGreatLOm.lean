/- LFv3, LFv4, LFv5, LFv6, LFv7, LFk1, LVd1, LVd2, LVd3 together. Conditions: on sizes. -/
import Derived.Test.YtegkojnngdlfaaaGreatLSqm
import Derived.Test.YtegkojnngdlfaaaGreatLNm
set_option maxRecDepth 100000
set_option maxHeartbeats 40000000
set_option linter.unusedSimpArgs false
set_option linter.unusedVariables false
section
namespace Go.Proofs.YtegkojnngdlfaaaGreat
open Go Go.Lx
open Go.Sx (vcIf)
def encS (c : Spn) : List UInt8 := enct c.lo ++ enct c.hi
def tBytes (s : Tx) : List UInt8 := encs [s.r, (s.sp.length : Int)] ++ s.sp.flatMap encS ++ encCs s.ch
def tEnc (s : Tx) : List UInt8 × Nat := if s.okB = true then (tBytes s, 0) else ([], 2)
theorem iP2 (a b : Int) : iP [a, b] = [PV.int .i64 a, PV.int .i64 b] := rfl
theorem big2 {n M N : Nat} (h : n ≤ 18 + 131092 * M) (hm : M ≤ 24) (h2 : N ≤ 24) : n + 131200 * (N + 1) ≤ 140737488355328 :=
  Nat.le_trans (Nat.add_le_add (Nat.le_trans h (Nat.add_le_add_left (Nat.mul_le_mul_left _ hm) _)) (Nat.mul_le_mul_left _ (Nat.succ_le_succ h2))) (by decide)
theorem big3 {n i : Nat} (h : n ≤ 18 + 131092 * i) (hm : i ≤ 24) : n ≤ 9000000 :=
  Nat.le_trans h (Nat.le_trans (Nat.add_le_add_left (Nat.mul_le_mul_left _ hm) _) (by decide))
theorem big4 {n m i : Nat} (h : n ≤ m + 131092) (hm : m ≤ 18 + 131092 * i) : n ≤ 18 + 131092 * (i + 1) := by
  rw [Nat.mul_succ, ← Nat.add_assoc]; exact Nat.le_trans h (Nat.add_le_add_right hm _)
theorem spn_ok {l : List Spn} (h : l.any Spn.bad = false) {c : Spn} (hc : c ∈ l) : c.lo.length ≤ 17 ∧ c.hi.length ≤ 17 := by
  have := List.any_eq_false.1 h c hc
  unfold Spn.bad at this
  rw [decide_eq_true_eq] at this
  omega
end Go.Proofs.YtegkojnngdlfaaaGreat
end
section
namespace Go.Proofs.YtegkojnngdlfaaaGreat
open Go Go.Lx
open Go.Sx (vcIf)
end Go.Proofs.YtegkojnngdlfaaaGreat
end
section
namespace Go.Proofs.YtegkojnngdlfaaaGreat
open Go Go.Lx
open Go.Sx (vcIf)
def rdS (l : List UInt8) (e : Nat) : Spn × List UInt8 × Nat := (⟨(rdT l e).1, (rdT (rdT l e).2.1 (rdT l e).2.2).1⟩, (rdT (rdT l e).2.1 (rdT l e).2.2).2)
def rdSsT : Nat → List UInt8 → Nat → List Spn × List UInt8 × Nat
  | 0, l, e => ([], l, e)
  | k + 1, l, e => ((rdSsT k l e).1 ++ [(rdS (rdSsT k l e).2.1 (rdSsT k l e).2.2).1], (rdS (rdSsT k l e).2.1 (rdSsT k l e).2.2).2)
theorem rdS_bad {l : List UInt8} {e : Nat} (h : e ≠ 0) : (rdS l e).2 = (l, e) := by
  unfold rdS
  simp only [rdT_bad h]
theorem rdS_of {l l2 l3 k v : List UInt8} {e e2 e3 : Nat} (h2 : (k, l2, e2) = rdT l e) (h3 : (v, l3, e3) = rdT l2 e2) : rdS l e = (⟨k, v⟩, l3, e3) := by
  unfold rdS; rw [← h2]; simp only; rw [← h3]
theorem rdS_len (l : List UInt8) (e : Nat) : (rdS l e).2.1.length ≤ l.length := by
  obtain ⟨⟨k, l2, e2⟩, h2⟩ : ∃ r, r = rdT l e := ⟨_, rfl⟩
  obtain ⟨⟨v, l3, e3⟩, h3⟩ : ∃ r, r = rdT l2 e2 := ⟨_, rfl⟩
  rw [rdS_of h2 h3]
  have := (rdT_len h2).2; have := (rdT_len h3).2
  simp only; omega
theorem rdSsT_len : ∀ (k : Nat) (l : List UInt8) (e : Nat), (rdSsT k l e).1.length = k ∧ (rdSsT k l e).2.1.length ≤ l.length
  | 0, l, e => ⟨rfl, Nat.le_refl _⟩
  | k + 1, l, e => by
    have h := rdSsT_len k l e
    have h2 := rdS_len (rdSsT k l e).2.1 (rdSsT k l e).2.2
    rw [rdSsT]
    exact ⟨by simp [h.1], Nat.le_trans h2 h.2⟩
theorem rdSsT_bad {l : List UInt8} {e : Nat} : ∀ (k i : Nat), i ≤ k → (rdSsT i l e).2.2 ≠ 0 → (rdSsT k l e).2.2 ≠ 0
  | 0, i, h, hb => by obtain rfl : i = 0 := by omega
                      exact hb
  | k + 1, i, h, hb => by
    rcases Nat.lt_or_ge k i with c | c
    · obtain rfl : i = k + 1 := by omega
      exact hb
    · have := rdSsT_bad k i c hb
      rw [rdSsT, rdS_bad this]
      exact this
theorem rdC_bad {l : List UInt8} {e most : Nat} (h : e ≠ 0) : (rdC l e most).2.2 ≠ 0 := by
  unfold rdC; rw [rdN_bad h]; split
  · exact (by decide : (2 : Nat) ≠ 0)
  · exact h
def Tx.zero : Tx := ⟨0, [], []⟩
def TxIs (s : Tx) (x : PV) : Prop := ∃ xs zs, xs = pP s.sp ∧ zs = cP s.ch ∧ x = .agg [.int .i64 s.r, .sl xs, .sl zs]
def gTx (l : List UInt8) : Tx × Nat :=
  match rdN l 0 with
  | (r, l, e) => match rdC l e 24 with
    | (m, l, e) => match rdSsT m l e with
      | (ss, l, e) => match rdC l e 24 with
        | (n, l, e) => match rdGsT n l e with
          | (cs, l, e) => if e = 0 ∧ l = [] ∧ Tx.okB ⟨r, ss, cs⟩ = true then (⟨r, ss, cs⟩, 0) else (Tx.zero, 2)
theorem gTx_bad {l l1 l2 l3 : List UInt8} {e1 e2 e3 n1 n2 i : Nat} {ss : List Spn} (h1 : (n1, l1, e1) = rdN l 0) (h2 : (n2, l2, e2) = rdC l1 e1 24) (hi : i ≤ n2) (he : (rdSsT i l2 e2).2.2 ≠ 0) : gTx l = (Tx.zero, 2) := by
  unfold gTx; rw [← h1]; simp only; rw [← h2]; simp only
  have := rdGsT_bad (rdC (rdSsT n2 l2 e2).2.1 (rdSsT n2 l2 e2).2.2 24).1 0 (Nat.zero_le _) (rdC_bad (most := 24) (l := (rdSsT n2 l2 e2).2.1) (rdSsT_bad n2 i hi he))
  rw [if_neg (fun c => this c.1)]
theorem gTx_of {l l1 l2 l3 l4 l5 : List UInt8} {e1 e2 e3 e4 e5 n1 n2 n4 i j : Nat} {ss : List Spn} {cs : List Chg} (h1 : (n1, l1, e1) = rdN l 0) (h2 : (n2, l2, e2) = rdC l1 e1 24) (hi : i ≤ n2) (hie : i = n2 ∨ e3 ≠ 0) (h3 : (ss, l3, e3) = rdSsT i l2 e2) (h4 : (n4, l4, e4) = rdC l3 e3 24) (hj : j ≤ n4) (hje : j = n4 ∨ e5 ≠ 0) (h5 : (cs, l5, e5) = rdGsT j l4 e4) :
    gTx l = if e5 = 0 ∧ l5 = [] ∧ Tx.okB ⟨n1, ss, cs⟩ = true then (⟨n1, ss, cs⟩, 0) else (Tx.zero, 2) := by
  by_cases he : e3 = 0
  · obtain rfl : i = n2 := by omega
    unfold gTx; rw [← h1]; simp only; rw [← h2]; simp only; rw [← h3]; simp only; rw [← h4]; simp only
    rcases hje with rfl | he
    · rw [← h5]
    · have := rdGsT_bad n4 j hj (by rw [← h5]; exact he)
      rw [if_neg (fun c => this c.1), if_neg (fun c => he c.1)]
  · rw [gTx_bad (ss := ss) (l3 := l3) (e3 := e3) h1 h2 hi (by rw [← h3]; exact he)]
    have h4b := rdC_bad (l := l3) (most := 24) he
    rw [← h4] at h4b
    have h5b := rdGsT_bad j 0 (Nat.zero_le _) (l := l4) (e := e4) h4b
    rw [← h5] at h5b
    rw [if_neg (fun c => h5b c.1)]
def tx0 : V := .p (.tup [.agg [.int .i64 0, .nils, .nils], .int .i64 2])
def txR (r : Tx × Nat) (v : V) (own : List Res) : Prop := ∃ (s : Tx) (e : Nat) (x : PV), (s, e) = r ∧ TxIs s x ∧ v = .p (.tup [x, .int .i64 (Int.ofNat e)]) ∧ own = []
theorem txR.of {f : FuncId} {args : List V} {r : Tx × Nat} (h : FnL Tryz.prog f args [] fun v own => r = (Tx.zero, 2) ∧ v = tx0 ∨ ∃ (s : Tx) (xs zs : List PV), r = (s, 0) ∧ xs = pP s.sp ∧ zs = cP s.ch ∧ v = .p (.tup [.agg [.int .i64 s.r, .sl xs, .sl zs], .int .i64 0])) :
    FnL Tryz.prog f args [] (txR r) := by
  refine h.flat ?_
  rintro _ _ (⟨rfl, rfl⟩ | ⟨s, xs, zs, rfl, hx, hz, rfl⟩)
  · exact ⟨_, .tup [.agg [.int .i64 0, .sl [], .sl []], .int .i64 2], rfl, PW.tup ⟨PW.agg ⟨.refl _, PW.nils, PW.nils, trivial⟩, .refl _, trivial⟩, Tx.zero, 2, _, rfl, ⟨[], [], rfl, rfl, rfl⟩, rfl, rfl⟩
  · exact ⟨_, _, rfl, .refl _, s, 0, _, rfl, ⟨xs, zs, hx, hz, rfl⟩, rfl, rfl⟩
structure TI5 where
  i : Nat
  r : Nat
  ys : List PV
  e : Nat
  zs : List PV
end Go.Proofs.YtegkojnngdlfaaaGreat
end
section
namespace Go.Proofs.YtegkojnngdlfaaaGreat
open Go Go.Lx
open Go.Sx (vcIf)
structure TI6 where
  i : Nat
  ys : List PV
  b : Bool
  zs : List PV
theorem rGetTxn_spec (l : List UInt8) (hl : l.length < 9223372036854775807) (xs : List PV) (hxs : xs = bP l) : FnL Tryz.prog 61 [.p (.sl xs)] [] (txR (gTx l)) := by
  refine txR.of ?_
  refine fn_of_vc eOk fOk fo61 Tryz.func61 rfl rfl rfl fun B hB => ?_
  intro add _ _ _ _ _ _ _ _ _ _ _ _ _ _ _ _ _ _ _ _ _ _ hA _ _ sl _ _ _ _ len _ _ hL _ _ _ hcall _ hcode ret hret
  cbv
  have hN1 := rrNum_spec l 0 xs hxs false rfl
  refine hcall _ _ _ _ _ (CallEv.lend [1] hN1 rfl (.cons (.own 0 1 0 rfl) .nil) (rrL rfl) ?_)
  rintro _ _ ⟨n1, l1, e1, z1, b1, h1, g1, d1, rfl, rfl⟩
  have t1 := rdN_len h1
  cbv
  have hN2 := rrNum_spec l1 e1 z1 g1 b1 d1
  refine hcall _ _ _ _ _ (CallEv.lend [1] hN2 rfl (.cons (.own 0 1 0 rfl) .nil) (rrL rfl) ?_)
  rintro _ _ ⟨n2, l2, e2, z2, b2, h2, g2, d2, rfl, rfl⟩
  have t2 := rdN_len h2
  cbv
  have hc0 : n2 ≤ 24 → (n2, l2, e2) = rdC l1 e1 24 := fun h => by unfold rdC; rw [← h2]; exact (if_neg (show ¬ 24 < n2 by omega)).symm
  have hc1 : 24 < n2 → gTx l = (Tx.zero, 2) := fun h => by
    have hc : (0, l2, 2) = rdC l1 e1 24 := by unfold rdC; rw [← h2]; exact (if_pos h).symm
    exact gTx_bad (l3 := []) (e3 := 0) (ss := []) h1 hc (Nat.le_refl _) (show (2 : Nat) ≠ 0 by decide)
  refine hcode _ _ _ (CodeEv.conv (Conv.hollowC 2 1 38 2 (by decide) rfl rfl) (CodeEv.loopX eOk fOk (ι := TI6) (κ := TI6) (fun s => [(2, .own 0 0), (4, .own 1 0), (5, .own 2 0), (6, .p (.int .i64 (Int.ofNat n2))), (7, .p (.int .i64 (Int.ofNat s.i)))])
    (fun s => [.st 74 [.p (.int .i64 0), .p .nils, .p .nils], rrSt s.ys s.b, .st 74 [.p (.int .i64 (Int.ofNat n1)), .vw 3 2 0 s.i none, .p .nils], .arr 38 2 s.zs])
    (fun s => (s.i = 0 ∨ s.i ≤ n2 ∧ n2 ≤ 24) ∧ s.ys = bP (rdSsT s.i l2 e2).2.1 ∧ s.b = decide ((rdSsT s.i l2 e2).2.2 ≠ 0) ∧ s.zs = pP (rdSsT s.i l2 e2).1) (fun s => n2 - s.i) ⟨0, z2, b2, []⟩ 0
    (fun s => [(2, .own 0 0), (4, .own 1 0), (5, .own 2 0), (6, .p (.int .i64 (Int.ofNat n2)))])
    (fun s => [.st 74 [.p (.int .i64 0), .p .nils, .p .nils], rrSt s.ys s.b, .st 74 [.p (.int .i64 (Int.ofNat n1)), .vw 3 2 0 s.i none, .p .nils], .arr 38 2 s.zs])
    (fun s => (24 < n2 ∨ s.i ≤ n2 ∧ n2 ≤ 24 ∧ (s.i = n2 ∨ s.b = true)) ∧ s.ys = bP (rdSsT s.i l2 e2).2.1 ∧ s.b = decide ((rdSsT s.i l2 e2).2.2 ≠ 0) ∧ s.zs = pP (rdSsT s.i l2 e2).1) ?_ ?_ ?_))
  · exact ⟨(by repeat (first | exact trivial | refine And.intro rfl ?_)), rfl, .inl rfl, g2, d2, rfl⟩
  rotate_left
  · rintro ⟨i, ys, b, zs⟩ ⟨k1, k2, k3, k4⟩
    simp only at k1 k2 k3 k4
    by_cases h24 : 24 < n2
    · have hgs := hc1 h24
      cbv
      refine vcIf.yes (by first | (simp [smW hA hL, h24]; done) | (simp only [h24]; simp [smW hA hL, h24]; done) | (simp [smW hA hL, h24]; omega) | (simp only [h24]; simp [smW hA hL, h24]; omega)) ?_
      cbv
      repeat (first | (refine vcIf.yes ?_ ?_; (focus (simp [smW hA hL]; done)); cbv) | (refine vcIf.no ?_ ?_; (focus (simp [smW hA hL]; done)); cbv))
      exact hret _ (RetEv.ret eOk rfl (.inl ⟨hgs, rfl⟩))
    have k1 := k1.resolve_left h24
    obtain ⟨ki, kn, kb⟩ := k1
    have hc := hc0 kn
    obtain ⟨hil, hll⟩ := rdSsT_len i l2 e2
    obtain ⟨⟨ss, l3, e3⟩, h3⟩ : ∃ x, x = rdSsT i l2 e2 := ⟨_, rfl⟩
    rw [← h3] at k2 k3 k4 hil hll
    simp only at k2 k3 k4 hil hll
    have hnl : zs.length = i := by rw [k4, pP_length, hil]
    have hC2 := rgetChgs_spec l3 (by omega) e3 ys k2 b k3 24 (by decide)
    have hie : i = n2 ∨ e3 ≠ 0 := by
      rcases kb with h | h
      · exact .inl h
      · exact .inr (of_decide_eq_true (k3.symm.trans h))
    cbv
    refine vcIf.no (by first | (simp [smW hA hL, h24]; done) | (simp only [h24]; simp [smW hA hL, h24]; done) | (simp [smW hA hL, h24]; omega) | (simp only [h24]; simp [smW hA hL, h24]; omega)) ?_
    cbv
    refine hcall _ _ _ _ _ (CallEv.lend [1] hC2 rfl (.cons (.own 0 1 0 rfl) (.cons (.p _) .nil)) (rrL rfl) ?_)
    rintro _ _ ⟨n4, j, l4, e4, cs, l5, e5, z5, us, b5, h4, hj, hje, h5, g5, gz, d5, rfl, rfl⟩
    have hn4 := (rdC_le h4).1
    have hcl : cs.length = j := by have := (rdGsT_len j l4 e4).1; rw [← h5] at this; exact this
    obtain ⟨s, hsd⟩ : ∃ s : Tx, s = ⟨n1, ss, cs⟩ := ⟨_, rfl⟩
    have hgs := gTx_of h1 hc ki hie h3 h4 hj hje h5
    rw [← hsd] at hgs
    have hst : ∀ vs, vs = zs → FnL Tryz.prog 75 [.p (.agg [.int .i64 n1, .sl vs, .sl us])] [] fun v own => ∃ b, b = s.okB ∧ v = .p (.bool b) ∧ own = [] := fun vs hv => by
      have := rTxn_spec' s (by rw [hsd]; simp only; omega) (by rw [hsd]; simp only; omega) vs us (by rw [hv, hsd]; exact k4) (by rw [hsd]; exact gz)
      rw [hsd] at this ⊢
      exact this
    have hzl : z5.length = l5.length := by rw [g5, bP_length]
    cbv
    cases b5 with
    | true =>
      have he := of_decide_eq_true d5.symm
      rw [if_neg (fun c => he c.1)] at hgs
      cbv
      repeat (first | (refine vcIf.yes ?_ ?_; (focus (simp [smW hA hL]; done)); cbv) | (refine vcIf.no ?_ ?_; (focus (simp [smW hA hL]; done)); cbv))
      exact hret _ (RetEv.ret eOk rfl (.inl ⟨hgs, rfl⟩))
    | false =>
      have he0 : e5 = 0 := by have := of_decide_eq_false d5.symm; simpa using this
      cbv
      repeat (first | (refine vcIf.yes ?_ ?_; (focus (simp [smW hA hL]; done)); cbv) | (refine vcIf.no ?_ ?_; (focus (simp [smW hA hL]; done)); cbv))
      by_cases hlf : l5 = []
      rotate_left
      · rw [if_neg (fun c => hlf c.2.1)] at hgs
        have : 0 < l5.length := List.length_pos_iff.2 hlf
        refine vcIf.yes (by simp [hA.cond, hA.lt, hL.len, hzl]; omega) ?_
        cbv
        repeat (first | (refine vcIf.yes ?_ ?_; (focus (simp [smW hA hL]; done)); cbv) | (refine vcIf.no ?_ ?_; (focus (simp [smW hA hL]; done)); cbv))
        exact hret _ (RetEv.ret eOk rfl (.inl ⟨hgs, rfl⟩))
      refine vcIf.no (by simp [hA.cond, hA.lt, hL.len, hzl, hlf]) ?_
      cbv
      refine hcall _ _ _ _ _ (CallEv.freezeG 3 rfl (by rw [hB]; exact Nat.zero_le _) fun g hg => CallEv.same (hst (g 0 i) (by rw [hg, frz_full hnl])) rfl ?_)
      rintro _ _ ⟨ok, hok, rfl, rfl⟩
      have hgn : g 0 i = zs := by rw [hg, frz_full hnl]
      rw [← hok] at hgs
      cbv
      cases ok with
      | false =>
        rw [if_neg (fun c => by cases c.2.2)] at hgs
        repeat (first | (refine vcIf.yes ?_ ?_; (focus (simp [smW hA hL]; done)); cbv) | (refine vcIf.no ?_ ?_; (focus (simp [smW hA hL]; done)); cbv))
        exact hret _ (RetEv.ret eOk rfl (.inl ⟨hgs, rfl⟩))
      | true =>
        rw [if_pos ⟨he0, hlf, rfl⟩] at hgs
        repeat (first | (refine vcIf.yes ?_ ?_; (focus (simp [smW hA hL]; done)); cbv) | (refine vcIf.no ?_ ?_; (focus (simp [smW hA hL]; done)); cbv))
        exact hret _ (RetEv.ret eOk rfl (.inr ⟨s, g 0 i, us, hgs, by rw [hgn, hsd]; exact k4, by rw [hsd]; exact gz, by subst hsd; rfl⟩))
  rintro ⟨i, ys, b, zs⟩ ⟨k1, k2, k3, k4⟩ rd hrd out hout
  simp only at k1 k2 k3 k4
  obtain ⟨hil, hll⟩ := rdSsT_len i l2 e2
  have hstep := show rdSsT (i + 1) l2 e2 = _ from by rw [rdSsT]
  obtain ⟨⟨ss, li, ei⟩, hT⟩ : ∃ x, x = rdSsT i l2 e2 := ⟨_, rfl⟩
  rw [← hT] at k2 k3 k4 hil hll hstep
  simp only at k2 k3 k4 hil hll hstep
  have hzl : zs.length = i := by rw [k4, pP_length, hil]
  have hT1 := rrText_spec li (by omega) ei ys k2 b k3
  intro add1 _ _ _ _ _ _ _ _ _ _ _ _ _ _ _ _ _ _ _ _ _ _ hA1 _ _ _ _ _ _ _ _ _ _ hL1 _ _ _ hcall1 _ _
  have hadd1 : i ≤ 24 → add1 .i64 (Int.ofNat i) 1 = Int.ofNat (i + 1) := fun _ => by rw [hA1.add, IntWalk.i64_in _ (by simp only [Int.ofNat_eq_natCast]; omega)]; rfl
  cbv
  by_cases hi : i < n2
  · refine vcIf.yes (by first | (simp [smW hA1 hL1, hi]; done) | (simp only [hi]; simp [smW hA1 hL1, hi]; done) | (simp [smW hA1 hL1, hi]; omega) | (simp only [hi]; simp [smW hA1 hL1, hi]; omega)) ?_
    cbv
    by_cases h24 : n2 ≤ 24
    · refine vcIf.yes (by rw [hA1.cond, hA1.le]; exact dle h24) ?_
      cbv
      cases b with
      | false =>
        cbv
        repeat (first | (refine vcIf.yes ?_ ?_; (focus (simp [smW hA1 hL1]; done)); cbv) | (refine vcIf.no ?_ ?_; (focus (simp [smW hA1 hL1]; done)); cbv))
        refine hcall1 _ _ _ _ _ (CallEv.lend [1] hT1 rfl (.cons (.own 0 1 0 rfl) .nil) (rrL rfl) ?_)
        rintro _ _ ⟨s2, l4, e4, y4, b4, q2, g4, d4, rfl, rfl⟩
        have w2 := rdT_len q2
        have hT2 := rrText_spec l4 (by omega) e4 y4 g4 b4 d4
        cbv
        refine hcall1 _ _ _ _ _ (CallEv.lend [1] hT2 rfl (.cons (.own 0 1 0 rfl) .nil) (rrL rfl) ?_)
        rintro _ _ ⟨s3, l5, e5, y5, b5, q3, g5, d5, rfl, rfl⟩
        have hGx := rdS_of q2 q3
        rw [hGx] at hstep
        simp only at hstep
        cbv
        refine ⟨false, ?_⟩
        cbv
        refine .inl ⟨(), rfl, hzl.symm, Wf.one (Spn.wf ⟨s2, s3⟩), ?_, ?_, ?_⟩
        · show i + 1 ≤ maxLen
          unfold maxLen; omega
        · show (i + 1) * 32 ≤ _
          omega
        intro us n' hu hn'
        replace hu : us = zs ++ [Spn.v ⟨s2, s3⟩] := hu
        obtain rfl : n' = i + 1 := hn'
        cbv
        refine hrd _ ⟨⟨i + 1, y5, b5, us⟩, _, ?_, ⟨.inr ⟨hi, h24⟩, ?_, ?_, ?_⟩, rfl, ⟨rfl, rfl, rfl, rfl, ?_, trivial⟩, rfl, rfl, rfl, ?_⟩
        · simp only; omega
        · simp only; rw [hstep]; exact g5
        · simp only; rw [hstep]; exact d5
        · simp only; rw [hstep, hu, k4]; simp [pP]
        · show some (V.p (.int .i64 _)) = _
          rw [hadd1 (by omega)]
        · rw [hB]; exact Nat.zero_le _
      | true =>
        cbv
        repeat (first | (refine vcIf.yes ?_ ?_; (focus (simp [smW hA1 hL1]; done)); cbv) | (refine vcIf.no ?_ ?_; (focus (simp [smW hA1 hL1]; done)); cbv))
        refine hout _ ⟨⟨i, ys, true, zs⟩, [], ⟨.inr ⟨by simp only; omega, h24, .inr rfl⟩, by rw [← hT]; exact k2, by rw [← hT]; exact k3, by rw [← hT]; exact k4⟩, rfl, (by repeat (first | exact trivial | refine And.intro rfl ?_)), rfl, rfl, rfl, ?_⟩
        rw [hB]; exact Nat.zero_le _
    · refine vcIf.no (by rw [hA1.cond, hA1.le]; exact dle' h24) ?_
      cbv
      repeat (first | (refine vcIf.yes ?_ ?_; (focus (simp [smW hA1 hL1]; done)); cbv) | (refine vcIf.no ?_ ?_; (focus (simp [smW hA1 hL1]; done)); cbv))
      refine hout _ ⟨⟨i, ys, b, zs⟩, [], ⟨.inl (by omega), by rw [← hT]; exact k2, by rw [← hT]; exact k3, by rw [← hT]; exact k4⟩, rfl, (by repeat (first | exact trivial | refine And.intro rfl ?_)), rfl, rfl, rfl, ?_⟩
      rw [hB]; exact Nat.zero_le _
  · refine vcIf.no (by first | (simp [smW hA1 hL1, hi]; done) | (simp only [hi]; simp [smW hA1 hL1, hi]; done) | (simp [smW hA1 hL1, hi]; omega) | (simp only [hi]; simp [smW hA1 hL1, hi]; omega)) ?_
    cbv
    repeat (first | (refine vcIf.yes ?_ ?_; (focus (simp [smW hA1 hL1]; done)); cbv) | (refine vcIf.no ?_ ?_; (focus (simp [smW hA1 hL1]; done)); cbv))
    refine hout _ ⟨⟨i, ys, b, zs⟩, [], ⟨by simp only; omega, by rw [← hT]; exact k2, by rw [← hT]; exact k3, by rw [← hT]; exact k4⟩, rfl, (by repeat (first | exact trivial | refine And.intro rfl ?_)), rfl, rfl, rfl, ?_⟩
    rw [hB]; exact Nat.zero_le _
end Go.Proofs.YtegkojnngdlfaaaGreat
end
section
namespace Go.Proofs.YtegkojnngdlfaaaGreat
open Go Go.Lx
open Go.Sx (vcIf)
theorem spnEq (ky ky' vl vl' : List UInt8) : eqF Tryz.prog [PV.str ky, PV.str vl] [PV.str ky', PV.str vl'] (Tryz.prog.fieldsOf 38).toList = some (decide (ky = ky') && (decide (vl = vl') && true)) := by kernel_rfl
theorem sameTxn_spec (s : Tx) (hs1 : s.sp.length < 9223372036854775807) (hs2 : s.ch.length < 9223372036854775807) (x : PV) (hx : TxIs s x) : FnL Tryz.prog 76 [.p x, .p x] [] fun v own => v = .p (.bool true) := by
  obtain ⟨xs, zs, hxs, hzs, rfl⟩ := hx
  have hsm := sameChgs_spec s.ch hs2 zs hzs
  obtain ⟨r, sp, ch⟩ := s
  simp only at hs1 hs2 hxs hzs hsm ⊢
  have hxl : xs.length = sp.length := by rw [hxs, pP_length]
  obtain ⟨M, hM⟩ : ∃ M, M = sp.length := ⟨_, rfl⟩
  rw [← hM] at hxl hs1
  refine fn_of_vc eOk fOk fo76 Tryz.func76 rfl rfl rfl fun B hB => ?_
  intro add _ _ _ _ _ _ _ _ _ _ _ _ _ _ _ _ _ _ _ _ _ _ hA _ _ sl _ _ _ _ len _ _ hL _ _ _ hcall _ hcode ret hret
  have hlx : len xs = Int.ofNat M := by rw [hL.len, hxl]; rfl
  cbv
  rw [hlx]
  refine vcIf.no (by simp [hA.eq, hA.not]) ?_
  cbv
  refine vcIf.no (by simp [hA.cond, hA.eq, hA.not]) ?_
  cbv
  refine hcode _ _ _ (CodeEv.loop eOk fOk (ι := Nat) (fun s => [(2, .own 0 0), (3, .own 1 0), (5, .p (.int .i64 (Int.ofNat s)))])
    (fun s => [.st 74 [.p (.int .i64 r), .p (.sl xs), .p (.sl zs)], .st 74 [.p (.int .i64 r), .p (.sl xs), .p (.sl zs)]]) (fun s => s ≤ M) (fun s => M - s) 0 ?_ ?_)
  · exact ⟨(by repeat (first | exact trivial | refine And.intro rfl ?_)), rfl, Nat.zero_le _⟩
  rintro i h1 rd hrd
  intro add1 _ _ _ _ _ _ _ _ _ _ _ _ _ _ _ _ _ _ _ _ _ _ hA1 _ _ _ _ _ _ _ len1 _ _ hL1 _ _ _ _ _ hcode1
  have hlx1 : len1 xs = Int.ofNat M := by rw [hL1.len, hxl]; rfl
  have hadd1 : i < M → add1 .i64 (Int.ofNat i) 1 = Int.ofNat (i + 1) := fun _ => by rw [hA1.add, IntWalk.i64_in _ (by simp only [Int.ofNat_eq_natCast]; omega)]; rfl
  cbv
  by_cases hi : i < M
  · obtain ⟨c, hc⟩ := get_of_lt (show i < sp.length by omega)
    have hzz : xs[i]? = some (.agg [.str c.lo, .str c.hi]) := by rw [hxs]; exact pP_get hc
    obtain ⟨lo, hi'⟩ := c
    simp only at hzz
    refine vcIf.yes (by first | (simp [smW hA1 hL1, hi, hlx1]; done) | (simp only [hi, hlx1]; simp [smW hA1 hL1, hi, hlx1]; done) | (simp [smW hA1 hL1, hi, hlx1]; omega) | (simp only [hi, hlx1]; simp [smW hA1 hL1, hi, hlx1]; omega)) ?_
    cbv
    refine hcode1 _ _ _ (CodeEv.drawT eOk fOk (by kernel_rfl) noX (.rd 0 (.rd 1 (.rd 2 (.rd 3 (.rd 4 (.rd 5 (.rd 6 (.so 7 (.so 8 (.so 9 (.acts (.cons 10 (.done) (.nil))))))))))))) (by kernel_rfl) (by kernel_rfl) ?_)
    intro _ _ _ _ _ _ _ _ _ _ _ _ _ _ _ _ _ _ _ _ _ _ _ _ _ _ _ _ _ _ _ _ _ _ _ _ hop2 _ _ _ _ _ hq2
    cbv
    refine ⟨i, _, rfl, hzz, rfl, ?_⟩
    cbv
    refine ⟨i, _, rfl, hzz, rfl, ?_⟩
    cbv
    refine hop2 _ _ _ _ (OpEv.aggNe (b := true) rfl rfl rfl (by kernel_rfl) (by kernel_rfl) (by kernel_rfl) ((spnEq lo lo hi' hi').trans (by simp)) ?_)
    cbv
    refine hq2 _ ?_
    cbv
    repeat (first | (refine vcIf.yes ?_ ?_; (focus (simp [smW hA1 hL1]; done)); cbv) | (refine vcIf.no ?_ ?_; (focus (simp [smW hA1 hL1]; done)); cbv))
    refine hrd _ ⟨i + 1, [], ?_, hi, rfl, ⟨rfl, rfl, ?_, trivial⟩, rfl, rfl, rfl, ?_⟩
    · show M - (i + 1) < M - i
      omega
    · show some (V.p (.int .i64 _)) = _
      rw [hadd1 hi]
    · rw [hB]; exact Nat.zero_le _
  · refine vcIf.no (by first | (simp [smW hA1 hL1, hi, hlx1]; done) | (simp only [hi, hlx1]; simp [smW hA1 hL1, hi, hlx1]; done) | (simp [smW hA1 hL1, hi, hlx1]; omega) | (simp only [hi, hlx1]; simp [smW hA1 hL1, hi, hlx1]; omega)) ?_
    cbv
    refine hcall _ _ _ _ _ (CallEv.same hsm rfl ?_)
    rintro _ _ ⟨rfl, rfl⟩
    cbv
    exact hret _ (RetEv.ret eOk rfl rfl)
end Go.Proofs.YtegkojnngdlfaaaGreat
end
section
namespace Go.Proofs.YtegkojnngdlfaaaGreat
open Go Go.Lx
theorem rdI_enc (z : Int) (h0 : 0 ≤ z) (h1 : z ≤ 9223372036854775807) (r : List UInt8) : rdN (enc z.toNat ++ r) 0 = (z.toNat, r, 0) ∧ (z.toNat : Int) = z := ⟨rdN_enc _ (by omega) r, by omega⟩
theorem rdC_enc (n most : Nat) (h : n ≤ most) (hn : n < 9223372036854775808) (r : List UInt8) : rdC (enc n ++ r) 0 most = (n, r, 0) := by
  unfold rdC; rw [rdN_enc n hn]; exact if_neg (show ¬ most < n by omega)
theorem rdG_enc (c : Chg) (h : chk c = 0) (r : List UInt8) : rdG (encC c ++ r) 0 = (c, r, 0) := by
  obtain ⟨h1, h2, h3, h4⟩ := chk_ok h
  obtain ⟨k, ky, vl⟩ := c
  simp only at h1 h2 h3 h4
  obtain ⟨g1, g2⟩ := rdI_enc k h1 (by omega) (enct ky ++ (enct vl ++ r))
  have e : encC ⟨k, ky, vl⟩ ++ r = enc k.toNat ++ (enct ky ++ (enct vl ++ r)) := by simp [encC]
  have := rdG_of (l := encC ⟨k, ky, vl⟩ ++ r) (e := 0) (by rw [e]; exact g1.symm) (rdT_enc ky (by omega) (enct vl ++ r)).symm (rdT_enc vl (by omega) r).symm
  rw [this, g2]
theorem rdGsT_enc {l : List Chg} (h : chks l = 0) (r : List UInt8) : ∀ i, i ≤ l.length → rdGsT i (l.flatMap encC ++ r) 0 = (l.take i, (l.drop i).flatMap encC ++ r, 0)
  | 0, _ => by simp [rdGsT]
  | i + 1, hi => by
    rw [rdGsT, rdGsT_enc h r i (by omega)]
    simp only
    obtain ⟨c, hc⟩ := get_of_lt (show i < l.length by omega)
    have hd : l.drop i = c :: l.drop (i + 1) := by
      obtain ⟨hl, rfl⟩ := List.getElem?_eq_some_iff.1 hc
      exact List.drop_eq_getElem_cons hl
    have ht : l.take (i + 1) = l.take i ++ [c] := by rw [List.take_add_one, hc]; rfl
    rw [hd, List.flatMap_cons, List.append_assoc, rdG_enc c (chks_mem h c (List.mem_of_getElem? hc)), ht]
theorem rdCs_enc {l : List Chg} (h : chks l = 0) (most : Nat) (hm : l.length ≤ most) (hm2 : most ≤ 100000) (r : List UInt8) : rdC (encCs l ++ r) 0 most = (l.length, l.flatMap encC ++ r, 0) ∧ rdGsT l.length (l.flatMap encC ++ r) 0 = (l, r, 0) := by
  refine ⟨?_, ?_⟩
  · have e : encCs l ++ r = enc l.length ++ (l.flatMap encC ++ r) := by simp [encCs]
    rw [e]; exact rdC_enc _ _ hm (by omega) _
  · rw [rdGsT_enc h r l.length (Nat.le_refl _)]; simp
theorem rdS_enc (c : Spn) (h1 : c.lo.length ≤ 17) (h2 : c.hi.length ≤ 17) (r : List UInt8) : rdS (encS c ++ r) 0 = (c, r, 0) := by
  obtain ⟨ky, vl⟩ := c
  simp only at h1 h2
  have e : encS ⟨ky, vl⟩ ++ r = enct ky ++ (enct vl ++ r) := by simp [encS]
  exact rdS_of (l := encS ⟨ky, vl⟩ ++ r) (e := 0) (by rw [e]; exact (rdT_enc ky (by omega) (enct vl ++ r)).symm) (rdT_enc vl (by omega) r).symm
theorem rdSsT_enc {l : List Spn} (h : l.any Spn.bad = false) (r : List UInt8) : ∀ i, i ≤ l.length → rdSsT i (l.flatMap encS ++ r) 0 = (l.take i, (l.drop i).flatMap encS ++ r, 0)
  | 0, _ => by simp [rdSsT]
  | i + 1, hi => by
    rw [rdSsT, rdSsT_enc h r i (by omega)]
    simp only
    obtain ⟨c, hc⟩ := get_of_lt (show i < l.length by omega)
    have hd : l.drop i = c :: l.drop (i + 1) := by
      obtain ⟨hl, rfl⟩ := List.getElem?_eq_some_iff.1 hc
      exact List.drop_eq_getElem_cons hl
    have ht : l.take (i + 1) = l.take i ++ [c] := by rw [List.take_add_one, hc]; rfl
    obtain ⟨b1, b2⟩ := spn_ok h (List.mem_of_getElem? hc)
    rw [hd, List.flatMap_cons, List.append_assoc, rdS_enc c b1 b2, ht]
theorem gTx_enc (s : Tx) (hs : s.fit) (l : List UInt8) (h : (l, 0) = tEnc s) : gTx l = (s, 0) := by
  unfold tEnc at h
  split at h
  rotate_left
  · simp at h
  rename_i hok
  obtain rfl : l = tBytes s := by simpa using h
  obtain ⟨k1, k2, k3, k4, k5⟩ := s.ok_iff.1 hok
  obtain ⟨a, sp, ch⟩ := s
  simp only at k1 k2 k3 k4 k5
  obtain ⟨hs0, hs1, hs2, hs3⟩ := hs
  simp only at hs0
  obtain ⟨c1, c2⟩ := rdCs_enc k4 24 k3 (by omega) []
  rw [List.append_nil] at c1 c2
  rw [List.append_nil] at c1
  have s1 := rdC_enc sp.length 24 k2 (by omega) (sp.flatMap encS ++ encCs ch)
  have s2 := rdSsT_enc k5 (encCs ch) sp.length (Nat.le_refl _)
  rw [List.take_length, List.drop_length] at s2
  obtain ⟨g1, f1⟩ := rdI_enc a k1 hs0.2 (enc sp.length ++ (sp.flatMap encS ++ encCs ch))
  have e : tBytes ⟨a, sp, ch⟩ = enc a.toNat ++ (enc sp.length ++ (sp.flatMap encS ++ encCs ch)) := by simp [tBytes, encs]
  have := gTx_of (l := tBytes ⟨a, sp, ch⟩) (by rw [e]; exact g1.symm) s1.symm (Nat.le_refl _) (.inl rfl) s2.symm (by rw [List.flatMap_nil, List.nil_append]; exact c1.symm) (Nat.le_refl _) (.inl rfl) c2.symm
  rw [f1] at this
  rw [this, if_pos ⟨rfl, rfl, hok⟩]
theorem chgs_len {l : List Chg} (h : chks l = 0) (hn : l.length ≤ 4096) : (encCs l).length ≤ 9 + 200 * l.length + 9 := by
  have hc : ∀ (r : List Chg), (∀ c ∈ r, c ∈ l) → (r.flatMap encC).length ≤ 200 * r.length := by
    intro r
    induction r with
    | nil => intro _; simp
    | cons c r ih =>
      intro hm
      have h0 := ih fun x hx => hm x (by simp [hx])
      obtain ⟨h1, h2, h3, h4⟩ := chk_ok (chks_mem h c (hm c (by simp)))
      have b1 := enc_len9 (x := c.kind.toNat) (by omega)
      have b2 := enc_len9 (x := c.key.length) (by omega)
      have b3 := enc_len9 (x := c.val.length) (by omega)
      have e1 : (enct c.key).length = (enc c.key.length).length + c.key.length := by simp [enct]
      have e2 : (enct c.val).length = (enc c.val.length).length + c.val.length := by simp [enct]
      rw [List.flatMap_cons, List.length_append, List.length_cons]
      simp only [encC, List.length_append]
      omega
  have h1 := hc l fun c hc => hc
  have := enc_len9 (show l.length < 9223372036854775808 by omega)
  unfold encCs; rw [List.length_append]; omega
end Go.Proofs.YtegkojnngdlfaaaGreat
end
section
namespace Go.Proofs.YtegkojnngdlfaaaGreat
open Go Go.Lx
open Go.Sx (vcIf)
def wC : List Chg → Nat
  | [] => 0
  | c :: l => (c.key.length + c.val.length + 8) + wC l
def wS : List Spn → Nat
  | [] => 0
  | c :: l => (c.lo.length + c.hi.length + 8) + wS l
theorem wC_app : ∀ a b, wC (a ++ b) = wC a + wC b
  | [], b => by simp [wC]
  | c :: a, b => by simp only [List.cons_append, wC]; rw [wC_app a b]; omega
theorem wS_app : ∀ a b, wS (a ++ b) = wS a + wS b
  | [], b => by simp [wS]
  | c :: a, b => by simp only [List.cons_append, wS]; rw [wS_app a b]; omega
def Spn.long (c : Spn) : Bool := decide (17 < c.lo.length ∨ 17 < c.hi.length)
def Spn.rev (c : Spn) : Bool := Op.bytesLess c.hi c.lo
def Tx.chk (t : Tx) : Nat := if t.r < 0 then 1 else if 24 < t.sp.length ∨ 24 < t.ch.length ∨ t.sp.any Spn.long = true ∨ 512 < wC t.ch + wS t.sp then 6 else if t.sp.any Spn.rev = true then 5 else chks t.ch
theorem weight_spec (l : List Chg) (hf : ∀ c ∈ l, c.fit) (hl : l.length ≤ 24) (zs : List PV) (hzs : zs = cP l) :
    FnL Tryz.prog 53 [.p (.sl zs)] [] fun v own => ∃ n : Nat, n = wC l ∧ v = .p (.int .i64 (Int.ofNat n)) ∧ own = [] := by
  refine FnL.flat (R := fun v own => ∃ n : Nat, n = wC l ∧ v = .p (.int .i64 (Int.ofNat n))) ?_ (by rintro _ _ ⟨b, h, rfl⟩; exact ⟨_, _, rfl, .refl _, b, h, rfl, rfl⟩)
  have hzl : zs.length = l.length := by rw [hzs, cP_length]
  obtain ⟨N, hN⟩ : ∃ N, N = l.length := ⟨_, rfl⟩
  rw [← hN] at hzl hl
  refine fn_of_vc eOk fOk fo53 Tryz.func53 rfl rfl rfl fun B hB => ?_
  intro add sub _ _ _ _ _ _ _ _ _ _ _ _ _ _ _ _ _ _ _ _ _ _ _ _ sl _ _ _ _ len slen _ hL _ _ _ _ _ hcode ret hret
  have hlen : len zs = Int.ofNat N := by rw [hL.len, hzl]; rfl
  cbv
  rw [hlen]
  refine hcode _ _ _ (CodeEv.loop eOk fOk (ι := Nat × Nat) (fun s => [(3, .p (.int .i64 (Int.ofNat s.2))), (7, .p (.sl zs)), (8, .p (.int .i64 (Int.ofNat N))), (9, .p (.int .i64 (Int.ofNat s.1)))])
    (fun s => []) (fun s => s.1 ≤ N ∧ s.2 = wC (l.take s.1) ∧ s.2 ≤ 281474976710720 * s.1) (fun s => N - s.1) (0, 0) ?_ ?_)
  · exact ⟨(by repeat (first | exact trivial | refine And.intro rfl ?_)), rfl, Nat.zero_le _, rfl, Nat.le_refl _⟩
  rintro ⟨i, a⟩ ⟨k1, k2, k3⟩ rd hrd
  simp only at k1 k2 k3
  intro add1 sub1 _ _ _ _ _ _ _ _ _ _ _ _ _ _ _ _ _ _ _ _ _ hA1 _ _ _ _ _ _ _ _ slen1 _ hL1 _ _ _ _ _ _
  have hadd1 : i < N → add1 .i64 (Int.ofNat i) 1 = Int.ofNat (i + 1) := fun _ => by rw [hA1.add, IntWalk.i64_in _ (by simp only [Int.ofNat_eq_natCast]; omega)]; rfl
  cbv
  by_cases hi : i < N
  · obtain ⟨c, hc⟩ := get_of_lt (show i < l.length by omega)
    have hzz : zs[i]? = some (.agg [.int .i64 c.kind, .str c.key, .str c.val]) := by rw [hzs]; exact cP_get hc
    have htk : wC (l.take (i + 1)) = a + (c.key.length + c.val.length + 8) := by rw [List.take_add_one, hc, wC_app, ← k2]; rfl
    have hcf := hf c (List.mem_of_getElem? hc)
    obtain ⟨kn, hkn⟩ : ∃ n, n = c.key.length := ⟨_, rfl⟩
    obtain ⟨vn, hvn⟩ : ∃ n, n = c.val.length := ⟨_, rfl⟩
    have hkb : kn < 140737488355328 := by rw [hkn]; exact hcf.1
    have hvb : vn < 140737488355328 := by rw [hvn]; exact hcf.2.1
    have hk : slen1 c.key = Int.ofNat kn := by rw [hL1.slen, hkn]; rfl
    have hv : slen1 c.val = Int.ofNat vn := by rw [hL1.slen, hvn]; rfl
    rw [← hkn, ← hvn] at htk
    obtain ⟨m, hm⟩ : ∃ m, m = kn + vn + 8 := ⟨_, rfl⟩
    have e1 : add1 .i64 (Int.ofNat kn) (Int.ofNat vn) = Int.ofNat (kn + vn) := by rw [hA1.add, IntWalk.i64_in _ (by simp only [Int.ofNat_eq_natCast]; omega)]; rfl
    have e2 : add1 .i64 (Int.ofNat (kn + vn)) 8 = Int.ofNat m := by rw [hA1.add, IntWalk.i64_in _ (by simp only [Int.ofNat_eq_natCast]; omega), hm]; rfl
    have e3 : sub1 .i64 9223372036854775807 (Int.ofNat m) = 9223372036854775807 - Int.ofNat m := by rw [hA1.sub, IntWalk.i64_in _ (by simp only [Int.ofNat_eq_natCast]; omega)]
    have e4 : add1 .i64 (Int.ofNat a) (Int.ofNat m) = Int.ofNat (a + m) := by rw [hA1.add, IntWalk.i64_in _ (by simp only [Int.ofNat_eq_natCast]; omega)]; rfl
    have e5 : ¬ (9223372036854775807 - Int.ofNat m < Int.ofNat a) := by simp only [Int.ofNat_eq_natCast]; omega
    obtain ⟨k, ky, vl⟩ := c
    simp only at hzz hk hv
    refine vcIf.yes (by first | (simp [smW hA1 hL1, hi]; done) | (simp only [hi]; simp [smW hA1 hL1, hi]; done) | (simp [smW hA1 hL1, hi]; omega) | (simp only [hi]; simp [smW hA1 hL1, hi]; omega)) ?_
    cbv
    refine ⟨i, _, rfl, hzz, rfl, ?_⟩
    cbv
    rw [hk, hv, e1, e2, e3]
    refine vcIf.no (by rw [hA1.lt]; exact decide_eq_false e5) ?_
    cbv
    rw [e4]
    refine hrd _ ⟨(i + 1, a + m), _, ?_, ⟨hi, ?_, ?_⟩, rfl, ⟨rfl, rfl, rfl, ?_, trivial⟩, rfl, rfl, rfl, ?_⟩
    · simp only; omega
    · simp only; rw [htk, hm]
    · simp only; omega
    · show some (V.p (.int .i64 _)) = _
      rw [hadd1 hi]
    · rw [hB]; exact Nat.zero_le _
  · refine vcIf.no (by first | (simp [smW hA1 hL1, hi]; done) | (simp only [hi]; simp [smW hA1 hL1, hi]; done) | (simp [smW hA1 hL1, hi]; omega) | (simp only [hi]; simp [smW hA1 hL1, hi]; omega)) ?_
    cbv
    rw [List.take_of_length_le (by omega)] at k2
    exact hret _ (RetEv.ret eOk rfl ⟨a, k2, rfl⟩)
theorem vRev_spec (c : Spn) : FnL Tryz.prog 55 [.p (.agg [.str c.lo, .str c.hi])] [] fun v own => ∃ b, b = c.rev ∧ v = .p (.bool b) ∧ own = [] := by
  refine FnL.flat (R := fun v own => ∃ b, b = c.rev ∧ v = .p (.bool b)) ?_ (by rintro _ _ ⟨b, h, rfl⟩; exact ⟨_, _, rfl, .refl _, b, h, rfl, rfl⟩)
  obtain ⟨lo, hi⟩ := c
  refine fn_of_vc eOk fOk fo55 Tryz.func55 rfl rfl rfl fun B hB => ?_
  intro _ _ _ _ _ _ _ _ _ _ _ _ _ _ _ _ _ bnot orb _ _ _ _ hA _ sq sl _ _ _ _ _ _ _ hL _ _ _ _ _ _ ret hret
  cbv
  refine hret _ (RetEv.ret eOk rfl ⟨_, rfl, ?_⟩)
  show V.p (.bool (bnot (orb (sl lo hi) (sq lo hi)))) = _
  rw [hA.not, hA.orb, hL.sl, hL.sq]
  exact congrArg (fun x => V.p (.bool x)) (bl_gt lo hi)
end Go.Proofs.YtegkojnngdlfaaaGreat
end
section
namespace Go.Proofs.YtegkojnngdlfaaaGreat
open Go Go.Lx
open Go.Sx (vcIf)
theorem vCheck_spec (t : Tx) (ht : t.fit) (xs zs : List PV) (hxs : xs = pP t.sp) (hzs : zs = cP t.ch) :
    FnL Tryz.prog 27 [.p (.agg [.int .i64 t.r, .sl xs, .sl zs])] [] fun v own => ∃ e : Nat, e = t.chk ∧ v = .p (.int .i64 (Int.ofNat e)) ∧ own = [] := by
  refine FnL.flat (R := fun v own => ∃ e : Nat, e = t.chk ∧ v = .p (.int .i64 (Int.ofNat e))) ?_ (by rintro _ _ ⟨b, h, rfl⟩; exact ⟨_, _, rfl, .refl _, b, h, rfl, rfl⟩)
  obtain ⟨r, sp, ch⟩ := t
  obtain ⟨_, hf, hs1, hs2⟩ := ht
  simp only at hf hs1 hs2 hxs hzs ⊢
  obtain ⟨R, hR⟩ : ∃ R, R = Tx.chk ⟨r, sp, ch⟩ := ⟨_, rfl⟩
  rw [← hR]
  unfold Tx.chk at hR
  simp only at hR
  have hxl : xs.length = sp.length := by rw [hxs, pP_length]
  have hzl : zs.length = ch.length := by rw [hzs, cP_length]
  have hwt := fun h => weight_spec ch hf h zs hzs
  have hrv := hasSpns_spec sp hs1 xs hxs _ _ vRev_spec
  have hal := all_spec ch hs2 zs hzs
  obtain ⟨N, hN⟩ : ∃ N, N = ch.length := ⟨_, rfl⟩
  obtain ⟨M, hM⟩ : ∃ M, M = sp.length := ⟨_, rfl⟩
  obtain ⟨W, hW⟩ : ∃ W, W = wC ch := ⟨_, rfl⟩
  rw [← hN] at hzl hR hwt
  rw [← hM] at hxl hR
  rw [← hW] at hR hwt
  have hmax : ∀ {imax : Int → Int → Int}, (∀ a b, imax a b = if b > a then b else a) → ∀ kn vn : Nat, (17 < imax (Int.ofNat kn) (Int.ofNat vn) ↔ (17 < kn ∨ 17 < vn)) := fun h kn vn => by
    rw [h]; simp only [Int.ofNat_eq_natCast]; split <;> omega
  refine fn_of_vc eOk fOk fo27 Tryz.func27 rfl rfl rfl fun B hB => ?_
  intro add _ _ _ _ _ _ _ _ _ _ _ _ _ _ _ _ _ _ _ _ _ _ hA _ _ sl _ imax _ _ len slen _ hL _ _ _ hcall _ hcode ret hret
  have hlx : len xs = Int.ofNat M := by rw [hL.len, hxl]; rfl
  have hlz : len zs = Int.ofNat N := by rw [hL.len, hzl]; rfl
  cbv
  by_cases c1 : r < 0
  · rw [if_pos c1] at hR
    refine vcIf.yes (by first | (simp [smW hA hL, c1]; done) | (simp only [c1]; simp [smW hA hL, c1]; done) | (simp [smW hA hL, c1]; omega) | (simp only [c1]; simp [smW hA hL, c1]; omega)) ?_
    cbv
    exact hret _ (RetEv.ret eOk rfl ⟨1, hR.symm, rfl⟩)
  rw [if_neg c1] at hR
  refine vcIf.no (by first | (simp [smW hA hL, c1]; done) | (simp only [c1]; simp [smW hA hL, c1]; done) | (simp [smW hA hL, c1]; omega) | (simp only [c1]; simp [smW hA hL, c1]; omega)) ?_
  cbv
  by_cases c2 : 24 < M
  · rw [if_pos (.inl c2)] at hR
    refine vcIf.yes (by first | (simp [smW hA hL, hlx, c2]; done) | (simp only [hlx, c2]; simp [smW hA hL, hlx, c2]; done) | (simp [smW hA hL, hlx, c2]; omega) | (simp only [hlx, c2]; simp [smW hA hL, hlx, c2]; omega)) ?_
    cbv
    repeat (first | (refine vcIf.yes ?_ ?_; (focus (simp [smW hA hL]; done)); cbv) | (refine vcIf.no ?_ ?_; (focus (simp [smW hA hL]; done)); cbv))
    refine vcIf.yes (by first | (simp [smW hA hL, hlx, c2]; done) | (simp only [hlx, c2]; simp [smW hA hL, hlx, c2]; done) | (simp [smW hA hL, hlx, c2]; omega) | (simp only [hlx, c2]; simp [smW hA hL, hlx, c2]; omega)) ?_
    cbv
    exact hret _ (RetEv.ret eOk rfl ⟨6, hR.symm, rfl⟩)
  refine vcIf.no (by first | (simp [smW hA hL, hlx, c2]; done) | (simp only [hlx, c2]; simp [smW hA hL, hlx, c2]; done) | (simp [smW hA hL, hlx, c2]; omega) | (simp only [hlx, c2]; simp [smW hA hL, hlx, c2]; omega)) ?_
  cbv
  by_cases c3 : 24 < N
  · rw [if_pos (.inr (.inl c3))] at hR
    refine vcIf.yes (by first | (simp [smW hA hL, hlz, c3]; done) | (simp only [hlz, c3]; simp [smW hA hL, hlz, c3]; done) | (simp [smW hA hL, hlz, c3]; omega) | (simp only [hlz, c3]; simp [smW hA hL, hlz, c3]; omega)) ?_
    cbv
    exact hret _ (RetEv.ret eOk rfl ⟨6, hR.symm, rfl⟩)
  refine vcIf.no (by first | (simp [smW hA hL, hlz, c3]; done) | (simp only [hlz, c3]; simp [smW hA hL, hlz, c3]; done) | (simp [smW hA hL, hlz, c3]; omega) | (simp only [hlz, c3]; simp [smW hA hL, hlz, c3]; omega)) ?_
  cbv
  refine hcall _ _ _ _ _ (CallEv.same (hwt (by omega)) rfl ?_)
  rintro _ _ ⟨w, rfl, rfl, rfl⟩
  cbv
  by_cases c4 : 512 < w
  · rw [if_pos (.inr (.inr (.inr (by omega))))] at hR
    refine vcIf.yes (by first | (simp [smW hA hL, c4]; done) | (simp only [c4]; simp [smW hA hL, c4]; done) | (simp [smW hA hL, c4]; omega) | (simp only [c4]; simp [smW hA hL, c4]; omega)) ?_
    cbv
    exact hret _ (RetEv.ret eOk rfl ⟨6, hR.symm, rfl⟩)
  refine vcIf.no (by first | (simp [smW hA hL, c4]; done) | (simp only [c4]; simp [smW hA hL, c4]; done) | (simp [smW hA hL, c4]; omega) | (simp only [c4]; simp [smW hA hL, c4]; omega)) ?_
  cbv
  rw [hlx]
  refine hcode _ _ _ (CodeEv.loop eOk fOk (ι := Nat × Nat) (fun s => [(1, .own 0 0), (3, .p (.int .i64 (Int.ofNat s.2))), (25, .p (.sl xs)), (26, .p (.int .i64 (Int.ofNat M))), (27, .p (.int .i64 (Int.ofNat s.1)))])
    (fun s => [.st 74 [.p (.int .i64 r), .p (.sl xs), .p (.sl zs)]]) (fun s => s.1 ≤ M ∧ s.2 = w + wS (sp.take s.1) ∧ s.2 ≤ 512 + 42 * s.1 ∧ (sp.take s.1).any Spn.long = false) (fun s => M - s.1) (0, w) ?_ ?_)
  · exact ⟨(by repeat (first | exact trivial | refine And.intro rfl ?_)), rfl, Nat.zero_le _, rfl, by simp only; omega, rfl⟩
  rintro ⟨i, a⟩ ⟨k1, k2, k3, k4⟩ rd hrd
  simp only at k1 k2 k3 k4
  intro add1 _ _ _ _ _ _ _ _ _ _ _ _ _ _ _ _ _ _ _ _ _ _ hA1 _ _ _ _ imax1 _ _ _ slen1 _ hL1 _ _ _ _ _ _
  have hadd1 : i < M → add1 .i64 (Int.ofNat i) 1 = Int.ofNat (i + 1) := fun _ => by rw [hA1.add, IntWalk.i64_in _ (by simp only [Int.ofNat_eq_natCast]; omega)]; rfl
  cbv
  by_cases hi : i < M
  · obtain ⟨c, hc⟩ := get_of_lt (show i < sp.length by omega)
    have hcm := List.mem_of_getElem? hc
    have hzz : xs[i]? = some (.agg [.str c.lo, .str c.hi]) := by rw [hxs]; exact pP_get hc
    have hlong : c.long = true ↔ (17 < c.lo.length ∨ 17 < c.hi.length) := by unfold Spn.long; rw [decide_eq_true_eq]
    have htw : wS (sp.take (i + 1)) = wS (sp.take i) + (c.lo.length + c.hi.length + 8) := by rw [List.take_add_one, hc, wS_app]; rfl
    have htl : c.long = false → (sp.take (i + 1)).any Spn.long = false := fun h => by rw [List.take_add_one, hc]; simp only [Option.toList_some, List.any_append, k4]; simp [h]
    have hall : c.long = true → sp.any Spn.long = true := fun h => List.any_eq_true.2 ⟨c, hcm, h⟩
    obtain ⟨C, hC⟩ : ∃ C, C = c.long := ⟨_, rfl⟩
    rw [← hC] at hlong htl hall
    clear hC hc
    obtain ⟨lo, hi'⟩ := c
    simp only at hzz hlong htw
    obtain ⟨kn, hkn⟩ : ∃ n, n = lo.length := ⟨_, rfl⟩
    obtain ⟨vn, hvn⟩ : ∃ n, n = hi'.length := ⟨_, rfl⟩
    have hk : slen1 lo = Int.ofNat kn := by rw [hL1.slen, hkn]; rfl
    have hv : slen1 hi' = Int.ofNat vn := by rw [hL1.slen, hvn]; rfl
    rw [← hkn, ← hvn] at hlong htw
    have hm := hmax hL1.imax kn vn
    refine vcIf.yes (by first | (simp [smW hA1 hL1, hi]; done) | (simp only [hi]; simp [smW hA1 hL1, hi]; done) | (simp [smW hA1 hL1, hi]; omega) | (simp only [hi]; simp [smW hA1 hL1, hi]; omega)) ?_
    cbv
    refine ⟨i, _, rfl, hzz, rfl, ?_⟩
    cbv
    rw [hk, hv]
    obtain ⟨mx, hmx⟩ : ∃ m, m = imax1 (Int.ofNat kn) (Int.ofNat vn) := ⟨_, rfl⟩
    rw [← hmx] at hm ⊢
    by_cases c5 : 17 < mx
    · have hl := hall (hlong.2 (hm.1 c5))
      rw [if_pos (.inr (.inr (.inl hl)))] at hR
      refine vcIf.yes (by rw [hA1.lt]; exact decide_eq_true c5) ?_
      cbv
      exact hret _ (RetEv.ret eOk rfl ⟨6, hR.symm, rfl⟩)
    have hnl : ¬ (17 < kn ∨ 17 < vn) := fun h => c5 (hm.2 h)
    have e1 : add1 .i64 (Int.ofNat kn) (Int.ofNat vn) = Int.ofNat (kn + vn) := by rw [hA1.add, IntWalk.i64_in _ (by simp only [Int.ofNat_eq_natCast]; omega)]; rfl
    obtain ⟨m, hmd⟩ : ∃ m, m = kn + vn + 8 := ⟨_, rfl⟩
    have e2 : add1 .i64 (Int.ofNat (kn + vn)) 8 = Int.ofNat m := by rw [hA1.add, IntWalk.i64_in _ (by simp only [Int.ofNat_eq_natCast]; omega), hmd]; rfl
    have e4 : add1 .i64 (Int.ofNat a) (Int.ofNat m) = Int.ofNat (a + m) := by rw [hA1.add, IntWalk.i64_in _ (by simp only [Int.ofNat_eq_natCast]; omega)]; rfl
    refine vcIf.no (by rw [hA1.lt]; exact decide_eq_false c5) ?_
    cbv
    rw [hk, hv, e1, e2, e4]
    refine hrd _ ⟨(i + 1, a + m), _, ?_, ⟨hi, ?_, ?_, ?_⟩, rfl, ⟨rfl, rfl, rfl, rfl, ?_, trivial⟩, rfl, rfl, rfl, ?_⟩
    · simp only; omega
    · simp only; rw [htw, k2, hmd]; omega
    · simp only; omega
    · exact htl (Bool.eq_false_iff.2 fun h => hnl (hlong.1 h))
    · show some (V.p (.int .i64 _)) = _
      rw [hadd1 hi]
    · rw [hB]; exact Nat.zero_le _
  · refine vcIf.no (by first | (simp [smW hA1 hL1, hi]; done) | (simp only [hi]; simp [smW hA1 hL1, hi]; done) | (simp [smW hA1 hL1, hi]; omega) | (simp only [hi]; simp [smW hA1 hL1, hi]; omega)) ?_
    cbv
    rw [List.take_of_length_le (by omega)] at k2 k4
    by_cases c6 : 512 < a
    · rw [if_pos (.inr (.inr (.inr (by omega))))] at hR
      refine vcIf.yes (by first | (simp [smW hA hL, c6]; done) | (simp only [c6]; simp [smW hA hL, c6]; done) | (simp [smW hA hL, c6]; omega) | (simp only [c6]; simp [smW hA hL, c6]; omega)) ?_
      cbv
      exact hret _ (RetEv.ret eOk rfl ⟨6, hR.symm, rfl⟩)
    rw [if_neg (by rw [k4]; simp; omega)] at hR
    refine vcIf.no (by first | (simp [smW hA hL, c6]; done) | (simp only [c6]; simp [smW hA hL, c6]; done) | (simp [smW hA hL, c6]; omega) | (simp only [c6]; simp [smW hA hL, c6]; omega)) ?_
    cbv
    refine hcall _ _ _ _ _ (CallEv.same hrv rfl ?_)
    rintro _ _ ⟨b, hb, rfl, rfl⟩
    rw [← hb] at hR
    cbv
    cases b with
    | true =>
      rw [if_pos rfl] at hR
      cbv
      exact hret _ (RetEv.ret eOk rfl ⟨5, hR.symm, rfl⟩)
    | false =>
      rw [if_neg (by decide)] at hR
      cbv
      refine hcall _ _ _ _ _ (CallEv.same hal rfl ?_)
      rintro _ _ ⟨e, he, rfl, rfl⟩
      cbv
      exact hret _ (RetEv.ret eOk rfl ⟨e, he.trans hR.symm, rfl⟩)
end Go.Proofs.YtegkojnngdlfaaaGreat
end
section
namespace Go.Proofs.YtegkojnngdlfaaaGreat
open Go Go.Lx
open Go.Sx (vcIf)
theorem wC_mem : ∀ {l : List Chg} {c : Chg}, c ∈ l → c.key.length + c.val.length + 8 ≤ wC l
  | d :: l, c, h => by
    rcases List.mem_cons.1 h with rfl | h
    · simp only [wC]; omega
    · have := wC_mem h; simp only [wC]; omega
theorem rvCheck_spec (t : Tx) (ht : t.fit) (xs zs : List PV) (hxs : xs = pP t.sp) (hzs : zs = cP t.ch) :
    FnL Tryz.prog 74 [.p (.agg [.int .i64 t.r, .sl xs, .sl zs])] [] fun v own => ∃ e : Nat, e = t.chk ∧ v = .p (.int .i64 (Int.ofNat e)) ∧ own = [] := by
  refine FnL.flat (R := fun v own => ∃ e : Nat, e = t.chk ∧ v = .p (.int .i64 (Int.ofNat e))) ?_ (by rintro _ _ ⟨b, h, rfl⟩; exact ⟨_, _, rfl, .refl _, b, h, rfl, rfl⟩)
  obtain ⟨r, sp, ch⟩ := t
  obtain ⟨_, hf, hs1, hs2⟩ := ht
  simp only at hf hs1 hs2 hxs hzs ⊢
  obtain ⟨R, hR⟩ : ∃ R, R = Tx.chk ⟨r, sp, ch⟩ := ⟨_, rfl⟩
  rw [← hR]
  unfold Tx.chk at hR
  simp only at hR
  have hxl : xs.length = sp.length := by rw [hxs, pP_length]
  have hzl : zs.length = ch.length := by rw [hzs, cP_length]
  have hal := rall_spec ch hs2 zs hzs
  have hmem := fun c h => wC_mem (l := ch) (c := c) h
  obtain ⟨N, hN⟩ : ∃ N, N = ch.length := ⟨_, rfl⟩
  obtain ⟨M, hM⟩ : ∃ M, M = sp.length := ⟨_, rfl⟩
  obtain ⟨W, hW⟩ : ∃ W, W = wC ch := ⟨_, rfl⟩
  rw [← hN] at hzl hR
  rw [← hM] at hxl hR
  rw [← hW] at hR hmem
  refine fn_of_vc eOk fOk fo74 Tryz.func74 rfl rfl rfl fun B hB => ?_
  intro add _ _ _ _ _ _ _ _ _ _ _ _ _ _ _ _ _ orb _ _ _ _ hA _ sq sl _ _ _ _ len slen _ hL _ _ _ hcall _ hcode ret hret
  have hlx : len xs = Int.ofNat M := by rw [hL.len, hxl]; rfl
  have hlz : len zs = Int.ofNat N := by rw [hL.len, hzl]; rfl
  cbv
  by_cases c1 : r < 0
  · rw [if_pos c1] at hR
    refine vcIf.yes (by first | (simp [smW hA hL, c1]; done) | (simp only [c1]; simp [smW hA hL, c1]; done) | (simp [smW hA hL, c1]; omega) | (simp only [c1]; simp [smW hA hL, c1]; omega)) ?_
    cbv
    exact hret _ (RetEv.ret eOk rfl ⟨1, hR.symm, rfl⟩)
  rw [if_neg c1] at hR
  refine vcIf.no (by first | (simp [smW hA hL, c1]; done) | (simp only [c1]; simp [smW hA hL, c1]; done) | (simp [smW hA hL, c1]; omega) | (simp only [c1]; simp [smW hA hL, c1]; omega)) ?_
  cbv
  by_cases c2 : 24 < M
  · rw [if_pos (.inl c2)] at hR
    refine vcIf.yes (by first | (simp [smW hA hL, hlx, c2]; done) | (simp only [hlx, c2]; simp [smW hA hL, hlx, c2]; done) | (simp [smW hA hL, hlx, c2]; omega) | (simp only [hlx, c2]; simp [smW hA hL, hlx, c2]; omega)) ?_
    cbv
    repeat (first | (refine vcIf.yes ?_ ?_; (focus (simp [smW hA hL]; done)); cbv) | (refine vcIf.no ?_ ?_; (focus (simp [smW hA hL]; done)); cbv))
    exact hret _ (RetEv.ret eOk rfl ⟨6, hR.symm, rfl⟩)
  refine vcIf.no (by first | (simp [smW hA hL, hlx, c2]; done) | (simp only [hlx, c2]; simp [smW hA hL, hlx, c2]; done) | (simp [smW hA hL, hlx, c2]; omega) | (simp only [hlx, c2]; simp [smW hA hL, hlx, c2]; omega)) ?_
  cbv
  by_cases c3 : 24 < N
  · rw [if_pos (.inr (.inl c3))] at hR
    refine vcIf.yes (by first | (simp [smW hA hL, hlz, c3]; done) | (simp only [hlz, c3]; simp [smW hA hL, hlz, c3]; done) | (simp [smW hA hL, hlz, c3]; omega) | (simp only [hlz, c3]; simp [smW hA hL, hlz, c3]; omega)) ?_
    cbv
    exact hret _ (RetEv.ret eOk rfl ⟨6, hR.symm, rfl⟩)
  refine vcIf.no (by first | (simp [smW hA hL, hlz, c3]; done) | (simp only [hlz, c3]; simp [smW hA hL, hlz, c3]; done) | (simp [smW hA hL, hlz, c3]; omega) | (simp only [hlz, c3]; simp [smW hA hL, hlz, c3]; omega)) ?_
  cbv
  refine hcode _ _ _ (CodeEv.loop eOk fOk (ι := Nat × Nat) (fun s => [(1, .own 0 0), (3, .p (.int .i64 (Int.ofNat s.2))), (4, .p (.int .i64 (Int.ofNat s.1)))])
    (fun s => [.st 74 [.p (.int .i64 r), .p (.sl xs), .p (.sl zs)]]) (fun s => s.1 ≤ N ∧ s.2 = wC (ch.take s.1) ∧ s.2 ≤ 1032 * s.1) (fun s => N - s.1) (0, 0) ?_ ?_)
  · exact ⟨(by repeat (first | exact trivial | refine And.intro rfl ?_)), rfl, Nat.zero_le _, rfl, Nat.le_refl _⟩
  rintro ⟨i, a⟩ ⟨k1, k2, k3⟩ rd hrd
  simp only at k1 k2 k3
  intro add1 _ _ _ _ _ _ _ _ _ _ _ _ _ _ _ _ _ _ _ _ _ _ hA1 _ _ _ _ _ _ _ len1 slen1 _ hL1 _ _ _ _ _ hcode1
  have hlz1 : len1 zs = Int.ofNat N := by rw [hL1.len, hzl]; rfl
  have hadd1 : i < N → add1 .i64 (Int.ofNat i) 1 = Int.ofNat (i + 1) := fun _ => by rw [hA1.add, IntWalk.i64_in _ (by simp only [Int.ofNat_eq_natCast]; omega)]; rfl
  cbv
  by_cases hi : i < N
  · obtain ⟨c, hc⟩ := get_of_lt (show i < ch.length by omega)
    have hzz : zs[i]? = some (.agg [.int .i64 c.kind, .str c.key, .str c.val]) := by rw [hzs]; exact cP_get hc
    have htk : wC (ch.take (i + 1)) = a + (c.key.length + c.val.length + 8) := by rw [List.take_add_one, hc, wC_app, ← k2]; rfl
    have hcm := hmem c (List.mem_of_getElem? hc)
    obtain ⟨kn, hkn⟩ : ∃ n, n = c.key.length := ⟨_, rfl⟩
    obtain ⟨vn, hvn⟩ : ∃ n, n = c.val.length := ⟨_, rfl⟩
    rw [← hkn, ← hvn] at htk hcm
    have hk : slen1 c.key = Int.ofNat kn := by rw [hL1.slen, hkn]; rfl
    have hv : slen1 c.val = Int.ofNat vn := by rw [hL1.slen, hvn]; rfl
    obtain ⟨m, hm⟩ : ∃ m, m = kn + vn + 8 := ⟨_, rfl⟩
    have hkp : c.key.length = kn := hkn.symm
    have hvp : c.val.length = vn := hvn.symm
    clear hkn hvn hc
    obtain ⟨k, ky, vl⟩ := c
    simp only at hzz hk hv hkp hvp
    refine vcIf.yes (by first | (simp [smW hA1 hL1, hi, hlz1]; done) | (simp only [hi, hlz1]; simp [smW hA1 hL1, hi, hlz1]; done) | (simp [smW hA1 hL1, hi, hlz1]; omega) | (simp only [hi, hlz1]; simp [smW hA1 hL1, hi, hlz1]; omega)) ?_
    cbv
    refine ⟨i, _, rfl, hzz, rfl, ?_⟩
    cbv
    rw [hk]
    by_cases c4 : 512 < kn
    · rw [if_pos (.inr (.inr (.inr (by omega))))] at hR
      refine vcIf.yes (by first | (simp [smW hA1 hL1, c4]; done) | (simp only [c4]; simp [smW hA1 hL1, c4]; done) | (simp [smW hA1 hL1, c4]; omega) | (simp only [c4]; simp [smW hA1 hL1, c4]; omega)) ?_
      cbv
      repeat (first | (refine vcIf.yes ?_ ?_; (focus (simp [smW hA1 hL1]; done)); cbv) | (refine vcIf.no ?_ ?_; (focus (simp [smW hA1 hL1]; done)); cbv))
      exact hret _ (RetEv.ret eOk rfl ⟨6, hR.symm, rfl⟩)
    refine vcIf.no (by first | (simp [smW hA1 hL1, c4]; done) | (simp only [c4]; simp [smW hA1 hL1, c4]; done) | (simp [smW hA1 hL1, c4]; omega) | (simp only [c4]; simp [smW hA1 hL1, c4]; omega)) ?_
    cbv
    refine ⟨i, _, rfl, hzz, rfl, ?_⟩
    cbv
    rw [hv]
    by_cases c5 : 512 < vn
    · rw [if_pos (.inr (.inr (.inr (by omega))))] at hR
      refine vcIf.yes (by first | (simp [smW hA1 hL1, c5]; done) | (simp only [c5]; simp [smW hA1 hL1, c5]; done) | (simp [smW hA1 hL1, c5]; omega) | (simp only [c5]; simp [smW hA1 hL1, c5]; omega)) ?_
      cbv
      repeat (first | (refine vcIf.yes ?_ ?_; (focus (simp [smW hA1 hL1]; done)); cbv) | (refine vcIf.no ?_ ?_; (focus (simp [smW hA1 hL1]; done)); cbv))
      exact hret _ (RetEv.ret eOk rfl ⟨6, hR.symm, rfl⟩)
    refine vcIf.no (by first | (simp [smW hA1 hL1, c5]; done) | (simp only [c5]; simp [smW hA1 hL1, c5]; done) | (simp [smW hA1 hL1, c5]; omega) | (simp only [c5]; simp [smW hA1 hL1, c5]; omega)) ?_
    cbv
    refine hcode1 _ _ _ (CodeEv.drawT eOk fOk (by kernel_rfl) noX (.rd 0 (.rd 1 (.rd 2 (.rd 3 (.rd 4 (.rd 5 (.rd 6 (.rd 7 (.rd 8 (.rd 9 (.so 10 (.so 11 (.so 12 (.so 13 (.so 14 (.so 15 (.so 16 (.so 17 (.so 18 (.done)))))))))))))))))))) (by kernel_rfl) (by kernel_rfl) ?_)
    intro add2 _ _ _ _ _ _ _ _ _ _ _ _ _ _ _ _ bnot2 orb2 _ _ _ _ hA2 _ sq2 sl2 _ _ _ _ _ slen2 _ hL2 _ _ _ _ _ _ _ hq2
    have hk2 : slen2 ky = Int.ofNat kn := by rw [hL2.slen, ← hkp]; rfl
    have hv2 : slen2 vl = Int.ofNat vn := by rw [hL2.slen, ← hvp]; rfl
    obtain ⟨kv, hkv⟩ : ∃ x, x = kn + vn := ⟨_, rfl⟩
    obtain ⟨am, ham⟩ : ∃ x, x = a + m := ⟨_, rfl⟩
    have e1 : add2 .i64 (Int.ofNat kn) (Int.ofNat vn) = Int.ofNat kv := by rw [hA2.add, IntWalk.i64_in _ (by simp only [Int.ofNat_eq_natCast]; omega), hkv]; rfl
    have e2 : add2 .i64 (Int.ofNat kv) 8 = Int.ofNat m := by rw [hA2.add, IntWalk.i64_in _ (by simp only [Int.ofNat_eq_natCast]; omega), hm, hkv]; rfl
    have e4 : add2 .i64 (Int.ofNat a) (Int.ofNat m) = Int.ofNat am := by rw [hA2.add, IntWalk.i64_in _ (by simp only [Int.ofNat_eq_natCast]; omega), ham]; rfl
    cbv
    refine ⟨i, _, rfl, hzz, rfl, ?_⟩
    cbv
    refine ⟨i, _, rfl, hzz, rfl, ?_⟩
    cbv
    rw [hk2, hv2, e1, e2, e4]
    refine hq2 _ ?_
    cbv
    refine hrd _ ⟨(i + 1, am), [], ?_, ⟨hi, ?_, ?_⟩, rfl, ⟨rfl, rfl, ?_, trivial⟩, rfl, rfl, rfl, ?_⟩
    · simp only; omega
    · simp only; rw [htk, ham, hm]
    · simp only; omega
    · show some (V.p (.int .i64 _)) = _
      rw [hadd1 hi]
    · rw [hB]; exact Nat.zero_le _
  · refine vcIf.no (by first | (simp [smW hA1 hL1, hi, hlz1]; done) | (simp only [hi, hlz1]; simp [smW hA1 hL1, hi, hlz1]; done) | (simp [smW hA1 hL1, hi, hlz1]; omega) | (simp only [hi, hlz1]; simp [smW hA1 hL1, hi, hlz1]; omega)) ?_
    cbv
    rw [List.take_of_length_le (by omega)] at k2
    obtain rfl : i = N := by omega
    refine hcode _ _ _ (CodeEv.loop eOk fOk (ι := Nat × Nat) (fun s => [(1, .own 0 0), (3, .p (.int .i64 (Int.ofNat s.2))), (5, .p (.int .i64 (Int.ofNat s.1)))])
      (fun s => [.st 74 [.p (.int .i64 r), .p (.sl xs), .p (.sl zs)]]) (fun s => s.1 ≤ M ∧ s.2 = a + wS (sp.take s.1) ∧ s.2 ≤ a + 42 * s.1 ∧ (sp.take s.1).any Spn.long = false) (fun s => M - s.1) (0, a) ?_ ?_)
    · exact ⟨(by repeat (first | exact trivial | refine And.intro rfl ?_)), rfl, Nat.zero_le _, rfl, Nat.le_refl _, rfl⟩
    rintro ⟨j, b⟩ ⟨j1, j2, j3, j4⟩ rd hrd
    simp only at j1 j2 j3 j4
    intro add1 _ _ _ _ _ _ _ _ _ _ _ _ _ _ _ _ _ _ _ _ _ _ hA1 _ _ _ _ _ _ _ len1 slen1 _ hL1 _ _ _ _ _ hcode1
    have hlx1 : len1 xs = Int.ofNat M := by rw [hL1.len, hxl]; rfl
    have hadd1 : j < M → add1 .i64 (Int.ofNat j) 1 = Int.ofNat (j + 1) := fun _ => by rw [hA1.add, IntWalk.i64_in _ (by simp only [Int.ofNat_eq_natCast]; omega)]; rfl
    cbv
    by_cases hj : j < M
    · obtain ⟨c, hc⟩ := get_of_lt (show j < sp.length by omega)
      have hcm := List.mem_of_getElem? hc
      have hzz : xs[j]? = some (.agg [.str c.lo, .str c.hi]) := by rw [hxs]; exact pP_get hc
      have hlong : c.long = true ↔ (17 < c.lo.length ∨ 17 < c.hi.length) := by unfold Spn.long; rw [decide_eq_true_eq]
      have htw : wS (sp.take (j + 1)) = wS (sp.take j) + (c.lo.length + c.hi.length + 8) := by rw [List.take_add_one, hc, wS_app]; rfl
      have htl : c.long = false → (sp.take (j + 1)).any Spn.long = false := fun h => by rw [List.take_add_one, hc]; simp only [Option.toList_some, List.any_append, j4]; simp [h]
      have hall : c.long = true → sp.any Spn.long = true := fun h => List.any_eq_true.2 ⟨c, hcm, h⟩
      obtain ⟨C, hC⟩ : ∃ C, C = c.long := ⟨_, rfl⟩
      rw [← hC] at hlong htl hall
      clear hC hc
      obtain ⟨lo, hi'⟩ := c
      simp only at hzz hlong htw
      obtain ⟨kn, hkn⟩ : ∃ n, n = lo.length := ⟨_, rfl⟩
      obtain ⟨vn, hvn⟩ : ∃ n, n = hi'.length := ⟨_, rfl⟩
      have hk : slen1 lo = Int.ofNat kn := by rw [hL1.slen, hkn]; rfl
      have hv : slen1 hi' = Int.ofNat vn := by rw [hL1.slen, hvn]; rfl
      rw [← hkn, ← hvn] at hlong htw
      obtain ⟨m, hmd⟩ : ∃ m, m = kn + vn + 8 := ⟨_, rfl⟩
      refine vcIf.yes (by first | (simp [smW hA1 hL1, hj, hlx1]; done) | (simp only [hj, hlx1]; simp [smW hA1 hL1, hj, hlx1]; done) | (simp [smW hA1 hL1, hj, hlx1]; omega) | (simp only [hj, hlx1]; simp [smW hA1 hL1, hj, hlx1]; omega)) ?_
      cbv
      refine ⟨j, _, rfl, hzz, rfl, ?_⟩
      cbv
      rw [hk]
      by_cases c4 : 17 < kn
      · have hl := hall (hlong.2 (.inl c4))
        rw [if_pos (.inr (.inr (.inl hl)))] at hR
        refine vcIf.yes (by first | (simp [smW hA1 hL1, c4]; done) | (simp only [c4]; simp [smW hA1 hL1, c4]; done) | (simp [smW hA1 hL1, c4]; omega) | (simp only [c4]; simp [smW hA1 hL1, c4]; omega)) ?_
        cbv
        repeat (first | (refine vcIf.yes ?_ ?_; (focus (simp [smW hA1 hL1]; done)); cbv) | (refine vcIf.no ?_ ?_; (focus (simp [smW hA1 hL1]; done)); cbv))
        exact hret _ (RetEv.ret eOk rfl ⟨6, hR.symm, rfl⟩)
      refine vcIf.no (by first | (simp [smW hA1 hL1, c4]; done) | (simp only [c4]; simp [smW hA1 hL1, c4]; done) | (simp [smW hA1 hL1, c4]; omega) | (simp only [c4]; simp [smW hA1 hL1, c4]; omega)) ?_
      cbv
      refine ⟨j, _, rfl, hzz, rfl, ?_⟩
      cbv
      rw [hv]
      by_cases c5 : 17 < vn
      · have hl := hall (hlong.2 (.inr c5))
        rw [if_pos (.inr (.inr (.inl hl)))] at hR
        refine vcIf.yes (by first | (simp [smW hA1 hL1, c5]; done) | (simp only [c5]; simp [smW hA1 hL1, c5]; done) | (simp [smW hA1 hL1, c5]; omega) | (simp only [c5]; simp [smW hA1 hL1, c5]; omega)) ?_
        cbv
        repeat (first | (refine vcIf.yes ?_ ?_; (focus (simp [smW hA1 hL1]; done)); cbv) | (refine vcIf.no ?_ ?_; (focus (simp [smW hA1 hL1]; done)); cbv))
        exact hret _ (RetEv.ret eOk rfl ⟨6, hR.symm, rfl⟩)
      refine vcIf.no (by first | (simp [smW hA1 hL1, c5]; done) | (simp only [c5]; simp [smW hA1 hL1, c5]; done) | (simp [smW hA1 hL1, c5]; omega) | (simp only [c5]; simp [smW hA1 hL1, c5]; omega)) ?_
      cbv
      refine hcode1 _ _ _ (CodeEv.drawT eOk fOk (by kernel_rfl) noX (.rd 0 (.rd 1 (.rd 2 (.rd 3 (.rd 4 (.rd 5 (.rd 6 (.rd 7 (.rd 8 (.rd 9 (.so 10 (.so 11 (.so 12 (.so 13 (.so 14 (.so 15 (.so 16 (.so 17 (.so 18 (.done)))))))))))))))))))) (by kernel_rfl) (by kernel_rfl) ?_)
      intro add2 _ _ _ _ _ _ _ _ _ _ _ _ _ _ _ _ bnot2 orb2 _ _ _ _ hA2 _ sq2 sl2 _ _ _ _ _ slen2 _ hL2 _ _ _ _ _ _ _ hq2
      have hk2 : slen2 lo = Int.ofNat kn := by rw [hL2.slen, hkn]; rfl
      have hv2 : slen2 hi' = Int.ofNat vn := by rw [hL2.slen, hvn]; rfl
      obtain ⟨kv, hkv⟩ : ∃ x, x = kn + vn := ⟨_, rfl⟩
      obtain ⟨am, ham⟩ : ∃ x, x = b + m := ⟨_, rfl⟩
      have e1 : add2 .i64 (Int.ofNat kn) (Int.ofNat vn) = Int.ofNat kv := by rw [hA2.add, IntWalk.i64_in _ (by simp only [Int.ofNat_eq_natCast]; omega), hkv]; rfl
      have e2 : add2 .i64 (Int.ofNat kv) 8 = Int.ofNat m := by rw [hA2.add, IntWalk.i64_in _ (by simp only [Int.ofNat_eq_natCast]; omega), hmd, hkv]; rfl
      have e4 : add2 .i64 (Int.ofNat b) (Int.ofNat m) = Int.ofNat am := by rw [hA2.add, IntWalk.i64_in _ (by simp only [Int.ofNat_eq_natCast]; omega), ham]; rfl
      cbv
      refine ⟨j, _, rfl, hzz, rfl, ?_⟩
      cbv
      refine ⟨j, _, rfl, hzz, rfl, ?_⟩
      cbv
      rw [hk2, hv2, e1, e2, e4]
      refine hq2 _ ?_
      cbv
      refine hrd _ ⟨(j + 1, am), [], ?_, ⟨hj, ?_, ?_, ?_⟩, rfl, ⟨rfl, rfl, ?_, trivial⟩, rfl, rfl, rfl, ?_⟩
      · simp only; omega
      · simp only; rw [htw, ham, j2, hmd]; omega
      · simp only; omega
      · refine htl (Bool.eq_false_iff.2 fun h => ?_)
        rcases hlong.1 h with h | h
        · exact c4 h
        · exact c5 h
      · show some (V.p (.int .i64 _)) = _
        rw [hadd1 hj]
      · rw [hB]; exact Nat.zero_le _
    · refine vcIf.no (by first | (simp [smW hA1 hL1, hj, hlx1]; done) | (simp only [hj, hlx1]; simp [smW hA1 hL1, hj, hlx1]; done) | (simp [smW hA1 hL1, hj, hlx1]; omega) | (simp only [hj, hlx1]; simp [smW hA1 hL1, hj, hlx1]; omega)) ?_
      cbv
      rw [List.take_of_length_le (by omega)] at j2 j4
      by_cases c6 : 512 < b
      · rw [if_pos (.inr (.inr (.inr (by omega))))] at hR
        refine vcIf.yes (by first | (simp [smW hA hL, c6]; done) | (simp only [c6]; simp [smW hA hL, c6]; done) | (simp [smW hA hL, c6]; omega) | (simp only [c6]; simp [smW hA hL, c6]; omega)) ?_
        cbv
        exact hret _ (RetEv.ret eOk rfl ⟨6, hR.symm, rfl⟩)
      rw [if_neg (by rw [j4]; simp; omega)] at hR
      refine vcIf.no (by first | (simp [smW hA hL, c6]; done) | (simp only [c6]; simp [smW hA hL, c6]; done) | (simp [smW hA hL, c6]; omega) | (simp only [c6]; simp [smW hA hL, c6]; omega)) ?_
      cbv
      obtain rfl : j = M := by omega
      refine hcode _ _ _ (CodeEv.loop eOk fOk (ι := Nat) (fun s => [(1, .own 0 0), (6, .p (.int .i64 (Int.ofNat s)))])
        (fun s => [.st 74 [.p (.int .i64 r), .p (.sl xs), .p (.sl zs)]]) (fun s => s ≤ j ∧ (sp.take s).any Spn.rev = false) (fun s => j - s) 0 ?_ ?_)
      · exact ⟨(by repeat (first | exact trivial | refine And.intro rfl ?_)), rfl, Nat.zero_le _, rfl⟩
      rintro k ⟨y1, y2⟩ rd hrd
      intro add1 _ _ _ _ _ _ _ _ _ _ _ _ _ _ _ _ _ _ _ _ _ _ hA1 _ _ _ _ _ _ _ len1 slen1 _ hL1 _ _ _ _ _ hcode1
      have hlx1 : len1 xs = Int.ofNat j := by rw [hL1.len, hxl]; rfl
      have hadd1 : k < j → add1 .i64 (Int.ofNat k) 1 = Int.ofNat (k + 1) := fun _ => by rw [hA1.add, IntWalk.i64_in _ (by simp only [Int.ofNat_eq_natCast]; omega)]; rfl
      cbv
      by_cases hk : k < j
      · obtain ⟨c, hc⟩ := get_of_lt (show k < sp.length by omega)
        have hzz : xs[k]? = some (.agg [.str c.lo, .str c.hi]) := by rw [hxs]; exact pP_get hc
        have hall : Op.bytesLess c.hi c.lo = true → sp.any Spn.rev = true := fun h => List.any_eq_true.2 ⟨c, List.mem_of_getElem? hc, h⟩
        have htl : Op.bytesLess c.hi c.lo = false → (sp.take (k + 1)).any Spn.rev = false := fun h => by rw [List.take_add_one, hc]; simp only [Option.toList_some, List.any_append, y2]; simp [Spn.rev, h]
        clear hc
        obtain ⟨lo, hi'⟩ := c
        simp only at hzz hall htl
        refine vcIf.yes (by first | (simp [smW hA1 hL1, hk, hlx1]; done) | (simp only [hk, hlx1]; simp [smW hA1 hL1, hk, hlx1]; done) | (simp [smW hA1 hL1, hk, hlx1]; omega) | (simp only [hk, hlx1]; simp [smW hA1 hL1, hk, hlx1]; omega)) ?_
        cbv
        refine hcode1 _ _ _ (CodeEv.drawT eOk fOk (by kernel_rfl) noX (.rd 0 (.rd 1 (.rd 2 (.rd 3 (.rd 4 (.rd 5 (.rd 6 (.rd 7 (.so 8 (.so 9 (.so 10 (.so 11 (.so 12 (.done)))))))))))))) (by kernel_rfl) (by kernel_rfl) ?_)
        intro add2 _ _ _ _ _ _ _ _ _ _ _ _ _ _ _ _ bnot2 orb2 _ _ _ _ hA2 _ sq2 sl2 _ _ _ _ _ slen2 _ hL2 _ _ _ _ _ _ _ hq2
        have hev : bnot2 (orb2 (sl2 lo hi') (sq2 lo hi')) = Op.bytesLess hi' lo := by
          rw [hA2.not, hA2.orb, hL2.sl, hL2.sq]
          exact bl_gt lo hi'
        cbv
        refine ⟨k, _, rfl, hzz, rfl, ?_⟩
        cbv
        refine ⟨k, _, rfl, hzz, rfl, ?_⟩
        cbv
        refine hq2 _ ?_
        cbv
        by_cases c7 : Op.bytesLess hi' lo = true
        · rw [if_pos (hall c7)] at hR
          refine vcIf.yes (hev.trans c7) ?_
          cbv
          exact hret _ (RetEv.ret eOk rfl ⟨5, hR.symm, rfl⟩)
        have c7' := Bool.eq_false_iff.2 c7
        refine vcIf.no (hev.trans c7') ?_
        cbv
        refine hrd _ ⟨k + 1, [], ?_, ⟨hk, htl c7'⟩, rfl, ⟨rfl, ?_, trivial⟩, rfl, rfl, rfl, ?_⟩
        · show j - (k + 1) < j - k
          omega
        · show some (V.p (.int .i64 _)) = _
          rw [hadd1 hk]
        · rw [hB]; exact Nat.zero_le _
      · refine vcIf.no (by first | (simp [smW hA1 hL1, hk, hlx1]; done) | (simp only [hk, hlx1]; simp [smW hA1 hL1, hk, hlx1]; done) | (simp [smW hA1 hL1, hk, hlx1]; omega) | (simp only [hk, hlx1]; simp [smW hA1 hL1, hk, hlx1]; omega)) ?_
        cbv
        rw [List.take_of_length_le (by omega)] at y2
        rw [if_neg (by rw [y2]; decide)] at hR
        refine hcall _ _ _ _ _ (CallEv.same hal rfl ?_)
        rintro _ _ ⟨e, he, rfl, rfl⟩
        cbv
        exact hret _ (RetEv.ret eOk rfl ⟨e, he.trans hR.symm, rfl⟩)
end Go.Proofs.YtegkojnngdlfaaaGreat
end
