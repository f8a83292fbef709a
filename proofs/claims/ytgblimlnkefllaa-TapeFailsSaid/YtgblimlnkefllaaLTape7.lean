/- The walk of the law TapeFails. Conditions: on sizes. -/
import Derived.Test.YtgblimlnkefllaaLTape6
set_option maxRecDepth 100000
set_option maxHeartbeats 4000000
set_option linter.unusedSimpArgs false
set_option linter.unusedVariables false
namespace Go.Proofs.Ytgblimlnkefllaa
open Go Go.Lx
open Go.Sx (vcIf)

/-- The tape behind i calls. -/
def FT (k i : Nat) (t : Tp) : Prop := t.down = decide (k < i) ∧ t.after = ((k - i : Nat) : Int) ∧ t.room = 1000 ∧ t.all.length ≤ 1
theorem FT.wr {k i : Nat} {t : Tp} (h : FT k i t) (s : Nat) (hs : s ≤ 1000) : (wr t s).1 = (if i < k then 0 else 11) ∧ FT k (i + 1) (wr t s).2 := by
  obtain ⟨h1, h2, h3, h4⟩ := h
  unfold Go.Proofs.Ytgblimlnkefllaa.wr
  by_cases hd : k < i
  · rw [h1, decide_eq_true hd, if_pos rfl]
    refine ⟨by rw [if_neg (by omega)], ?_, ?_, h3, h4⟩
    · rw [h1, decide_eq_true hd]; exact (decide_eq_true (by omega)).symm
    · rw [h2]; congr 1; omega
  · rw [h1, decide_eq_false hd, if_neg (by decide), if_neg (by omega)]
    by_cases h0 : t.after = 0
    · rw [if_pos h0]
      refine ⟨by rw [if_neg (by omega)], ?_, ?_, h3, h4⟩
      · exact (decide_eq_true (by omega)).symm
      · simp only; rw [h0]; omega
    · rw [if_neg h0, if_pos (by omega)]
      refine ⟨by rw [if_pos (by omega)], ?_, ?_, h3, h4⟩
      · exact (decide_eq_false (by omega)).symm
      · simp only; omega
theorem FT.add {k i : Nat} {t : Tp} (h : FT k i t) : (tpAdd t []).1 = (if i < k then 0 else 11) ∧ FT k (i + 1) (tpAdd t []).2 := by
  obtain ⟨h1, h2⟩ := h.wr (t.all.length + ([] : List UInt8).length) (by have := h.2.2.2; simp; omega)
  unfold tpAdd
  by_cases hi : i < k
  · rw [if_pos hi] at h1
    rw [if_pos h1, if_pos hi]
    refine ⟨rfl, h2.1, h2.2.1, h2.2.2.1, ?_⟩
    have := h.2.2.2; simpa using this
  · rw [if_neg hi] at h1
    rw [if_neg (by rw [h1]; decide), if_neg hi]
    exact ⟨h1, h2⟩
theorem FT.sync {k i : Nat} {t : Tp} (h : FT k i t) : (tpSync t).1 = (if i < k then 0 else 11) ∧ FT k (i + 1) (tpSync t).2 := by
  obtain ⟨h1, h2⟩ := h.wr 0 (by decide)
  unfold tpSync
  by_cases hi : i < k
  · rw [if_pos hi] at h1
    rw [if_pos h1, if_pos hi]
    exact ⟨rfl, h2⟩
  · rw [if_neg hi] at h1
    rw [if_neg (by rw [h1]; decide), if_neg hi]
    exact ⟨h1, h2⟩
theorem FT.rep {k i : Nat} {t : Tp} (h : FT k i t) (x : UInt8) : (tpRep t [x]).1 = (if i < k then 0 else 11) ∧ FT k (i + 1) (tpRep t [x]).2 := by
  obtain ⟨h1, h2⟩ := h.wr ([x] : List UInt8).length (by simp)
  unfold tpRep
  by_cases hi : i < k
  · rw [if_pos hi] at h1
    rw [if_pos h1, if_pos hi]
    exact ⟨rfl, h2.1, h2.2.1, h2.2.2.1, by simp⟩
  · rw [if_neg hi] at h1
    rw [if_neg (by rw [h1]; decide), if_neg hi]
    exact ⟨h1, h2⟩
theorem crash_sync (t : Tp) (k : Int) (x : UInt8) : (tpSync (tpCrash t k x)).1 = 0 := by
  have h : (tpCrash t k x).down = false ∧ (tpCrash t k x).after = -1 := by unfold tpCrash; split <;> exact ⟨rfl, rfl⟩
  have h2 : (wr (tpCrash t k x) 0).1 = 0 := by
    unfold wr; rw [h.1, h.2, if_neg (by decide), if_neg (by omega), if_neg (by decide), if_neg (by decide)]
  unfold tpSync
  rw [if_pos h2]
structure FI where
  i : Nat
  t : Tp
  n : Nat
  su : Int
  ro : Int
  af : Int
  d : Bool
  xs : List PV

theorem tapeFails (k : Nat) (hk : k ≤ 255) (cs : List UInt8) (hcs : cs.length < 9223372036854775807) : FnL Try.prog 5 [.p (.int .u8 (k : Int)), .p (.sl (bP cs))] [] fun z own => z = .p (.bool true) := by
  obtain ⟨ys, hys⟩ : ∃ ys, ys = bP cs := ⟨_, rfl⟩
  have hyl : ys.length = cs.length := by rw [hys, bP_length]
  obtain ⟨N, hN⟩ : ∃ N, N = cs.length := ⟨_, rfl⟩
  have hnew := tapeNew_spec 1000 (by decide) (by decide)
  obtain ⟨ki, hki⟩ : ∃ ki : Int, ki = (k : Int) := ⟨_, rfl⟩
  have hfail := fail_spec (t := ⟨[], 0, 1000, -1, false⟩) (n := 0) (su := 0) (ro := 1000) (af := -1) (d := false) (xs := []) ⟨rfl, rfl, rfl, rfl, rfl, rfl, by decide, by decide, by decide, by decide, by decide⟩ ki (by omega)
  have hkb : 0 ≤ ki ∧ ki ≤ 255 := by omega
  have hdec : ∀ i : Nat, decide (Int.ofNat i < ki) = decide (i < k) := fun i => by rw [hki]; simp
  rw [← hys, ← hki]
  refine fn_of_vc eOk fOk fo5 Try.func5 rfl rfl rfl fun B hB => ?_
  intro add sub mul quo rem band bor bxor bclr shl shr ieq ilt ile seq slt beq bnot orb bcond iwrap iof ssz hA cat sq sl imin imax smin smax len slen u8 hL op hop call hcall code hcode ret hret
  have hw1 : iwrap .i64 ki = ki := by rw [hA.wrap, IntWalk.i64_in _ (by omega)]
  cbv
  refine hcall _ _ _ _ _ (CallEv.same hnew rfl ?_)
  rintro _ _ (⟨h, rfl, rfl⟩ | ⟨h, rfl, rfl⟩)
  · omega
  cbv
  refine hcall _ _ _ _ _ (CallEv.same awake6_spec rfl ?_)
  rintro _ _ ⟨rfl, rfl⟩
  cbv
  repeat (first | (refine vcIf.yes ?_ ?_; (focus (simp [hA.not, hA.eq, hA.lt, hA.le, hA.cond, hA.beq, hA.orb, hL.len, hL.slen, hL.sq]; done)); cbv) | (refine vcIf.no ?_ ?_; (focus (simp [hA.not, hA.eq, hA.lt, hA.le, hA.cond, hA.beq, hA.orb, hL.len, hL.slen, hL.sq]; done)); cbv) | fail)
  rw [hw1]
  refine hcall _ _ _ _ _ (CallEv.lend [0, 1] hfail rfl (.cons (.own 0 0 0 rfl) (.cons (.p _) .nil)) (tpL rfl rfl rfl rfl) ?_)
  rintro _ _ ⟨af, ht, rfl⟩
  have hft : FT k 0 (tpFail ⟨[], 0, 1000, -1, false⟩ ki) := ⟨rfl, by show (if ki > -1 then ki else -1) = _; rw [if_pos (by omega)]; omega, rfl, Nat.zero_le _⟩
  cbv
  refine hcode _ _ _ (CodeEv.loop eOk fOk (ι := FI) (fun s => [(0, .p (.int .u8 ki)), (1, .p (.sl ys)), (5, .own 0 0), (7, .p (.int .i64 (Int.ofNat s.i)))])
    (fun s => [tpS s.n s.su s.ro s.af s.d, tpA s.xs]) (fun s => IsTp s.t s.n s.su s.ro s.af s.d s.xs ∧ FT k s.i s.t ∧ s.i ≤ 300) (fun s => 300 - s.i) ⟨0, tpFail ⟨[], 0, 1000, -1, false⟩ ki, 0, 0, 1000, af, false, []⟩ ?_ ?_)
  · exact ⟨⟨rfl, rfl, rfl, rfl, trivial⟩, rfl, ht, hft, Nat.zero_le _⟩
  rintro ⟨i, t, n, su, ro, af, d, xs⟩ ⟨h1, h2, h3⟩ rd hrd
  simp only at h1 h2 h3
  have hadd := add_spec h1 [] (by decide)
  have hsync := sync_spec h1
  have hrep := replace_spec h1 [120] (by decide)
  rw [show bP [120] = [PV.int .u8 120] from rfl] at hrep
  rw [show bP [] = [] from rfl] at hadd
  intro add1 sub1 mul1 quo1 rem1 band1 bor1 bxor1 bclr1 shl1 shr1 ieq1 ilt1 ile1 seq1 slt1 beq1 bnot1 orb1 bcond1 iwrap1 iof1 ssz1 hA1 cat1 sq1 sl1 imin1 imax1 smin1 smax1 len1 slen1 u81 hL1 op1 hop1 call1 hcall1 code1 hcode1
  have hlen : len1 ys = Int.ofNat N := by rw [hL1.len, hyl, hN]; rfl
  have hw2 : iwrap1 .i64 ki = ki := by rw [hA1.wrap, IntWalk.i64_in _ (by omega)]
  have hcmp : ilt1 (Int.ofNat i) ki = decide (i < k) := by rw [hA1.lt]; exact hdec i
  have hadd1 : add1 .i64 (Int.ofNat i) 1 = Int.ofNat (i + 1) := by rw [hA1.add, IntWalk.i64_in _ (by simp only [Int.ofNat_eq_natCast]; omega)]; rfl
  have hout : ∀ (e : Int), e = (if i < k then 0 else 11) → (bcond1 (bnot1 (beq1 (ieq1 e 0) (decide (i < k)))) true (bcond1 (bnot1 (ieq1 e 0)) (bnot1 (ieq1 e 11)) false)) = false := fun e he => by
    rw [hA1.cond, hA1.cond, hA1.not, hA1.not, hA1.not, hA1.beq, hA1.eq, hA1.eq, he]
    by_cases hi : i < k <;> simp [hi]
  cbv
  by_cases h300 : i < N ∧ i < 300
  · obtain ⟨hi, hi3⟩ := h300
    obtain ⟨c, hc⟩ := get_of_lt (show i < cs.length by omega)
    obtain ⟨cv, hcv⟩ : ∃ z : Int, z = (c.toNat : Int) := ⟨_, rfl⟩
    have hcy : ys[i]? = some (.int .u8 cv) := by rw [hys, hcv]; exact bP_get hc
    clear hcv hc
    have htail : ∀ (t' : Tp) (n' : Nat) (su' ro' af' : Int) (d' : Bool) (xs' : List PV), IsTp t' n' su' ro' af' d' xs' → FT k (i + 1) t' → IsTp t' n' su' ro' af' d' xs' ∧ FT k (i + 1) t' ∧ i + 1 ≤ 300 := fun t' n' su' ro' af' d' xs' g1 g2 => ⟨g1, g2, hi3⟩
    refine vcIf.yes (by rw [hA1.lt, hlen]; exact dlt hi) ?_
    cbv
    refine vcIf.yes (by rw [hA1.cond, hA1.lt]; exact dlt hi3) ?_
    cbv
    refine ⟨i, _, rfl, hcy, rfl, ?_⟩
    cbv
    refine vcIf.split (fun _ => ?_) (fun _ => ?_)
    · cbv
      refine hcall1 _ _ _ _ _ (CallEv.lend [0, 1] hadd rfl (.cons (.own 0 0 0 rfl) (.cons .nils .nil)) (tpL rfl rfl rfl rfl) ?_)
      rintro _ _ ⟨e, n', su', ro', af', d', xs', he, ht', rfl, rfl⟩
      obtain ⟨he2, hf⟩ := h2.add
      rw [he2] at he
      have hI := htail _ _ _ _ _ _ _ ht' hf
      by_cases hik : i < k
      all_goals
        have hlt' := hdec i
        first | (rw [if_pos hik] at he; rw [decide_eq_true hik] at hlt'; replace hlt' : (i : Int) < ki := of_decide_eq_true hlt') | (rw [if_neg hik] at he; rw [decide_eq_false hik] at hlt'; replace hlt' : ¬ (i : Int) < ki := of_decide_eq_false hlt')
        obtain rfl := he
        cbv
        repeat (first | (refine vcIf.yes ?_ ?_; (focus (simp [hA1.not, hA1.eq, hA1.lt, hA1.le, hA1.cond, hA1.beq, hA1.orb, hL1.len, hL1.slen, hL1.sq, hw2, hlt']; done)); cbv) | (refine vcIf.no ?_ ?_; (focus (simp [hA1.not, hA1.eq, hA1.lt, hA1.le, hA1.cond, hA1.beq, hA1.orb, hL1.len, hL1.slen, hL1.sq, hw2, hlt']; done)); cbv) | fail)
        refine hrd _ ⟨⟨i + 1, _, n', su', ro', af', d', xs'⟩, [], ?_, hI, rfl, ⟨rfl, rfl, rfl, ?_, trivial⟩, rfl, rfl, rfl, ?_⟩
        · show 300 - (i + 1) < 300 - i
          omega
        · show some (V.p (.int .i64 (add1 .i64 (Int.ofNat i) 1))) = _
          rw [hadd1]
        · rw [hB]; exact Nat.zero_le _
    cbv
    refine vcIf.split (fun _ => ?_) (fun _ => ?_)
    · cbv
      refine hcall1 _ _ _ _ _ (CallEv.lend [0, 1] hsync rfl (.cons (.own 0 0 0 rfl) .nil) (tpL rfl rfl rfl rfl) ?_)
      rintro _ _ ⟨e, n', su', ro', af', d', xs', he, ht', rfl, rfl⟩
      obtain ⟨he2, hf⟩ := h2.sync
      rw [he2] at he
      have hI := htail _ _ _ _ _ _ _ ht' hf
      by_cases hik : i < k
      all_goals
        have hlt' := hdec i
        first | (rw [if_pos hik] at he; rw [decide_eq_true hik] at hlt'; replace hlt' : (i : Int) < ki := of_decide_eq_true hlt') | (rw [if_neg hik] at he; rw [decide_eq_false hik] at hlt'; replace hlt' : ¬ (i : Int) < ki := of_decide_eq_false hlt')
        obtain rfl := he
        cbv
        repeat (first | (refine vcIf.yes ?_ ?_; (focus (simp [hA1.not, hA1.eq, hA1.lt, hA1.le, hA1.cond, hA1.beq, hA1.orb, hL1.len, hL1.slen, hL1.sq, hw2, hlt']; done)); cbv) | (refine vcIf.no ?_ ?_; (focus (simp [hA1.not, hA1.eq, hA1.lt, hA1.le, hA1.cond, hA1.beq, hA1.orb, hL1.len, hL1.slen, hL1.sq, hw2, hlt']; done)); cbv) | fail)
        refine hrd _ ⟨⟨i + 1, _, n', su', ro', af', d', xs'⟩, [], ?_, hI, rfl, ⟨rfl, rfl, rfl, ?_, trivial⟩, rfl, rfl, rfl, ?_⟩
        · show 300 - (i + 1) < 300 - i
          omega
        · show some (V.p (.int .i64 (add1 .i64 (Int.ofNat i) 1))) = _
          rw [hadd1]
        · rw [hB]; exact Nat.zero_le _
    · cbv
      refine ⟨true, ?_⟩
      cbv
      refine hop1 _ _ _ _ (OpEv.convRow (j := 2) (n := 1) eOk rfl rfl rfl rfl rfl rfl rfl (by rw [hB]; exact Nat.zero_le _) rfl (by decide) rfl ?_)
      cbv
      refine hcall1 _ _ _ _ _ (CallEv.lend [0, 1] hrep rfl (.cons (.own 0 0 0 rfl) (.cons (.p _) .nil)) (tpL rfl rfl rfl rfl) ?_)
      rintro _ _ ⟨e, n', su', ro', af', d', xs', he, ht', rfl, rfl⟩
      obtain ⟨he2, hf⟩ := h2.rep 120
      rw [he2] at he
      have hI := htail _ _ _ _ _ _ _ ht' hf
      by_cases hik : i < k
      all_goals
        have hlt' := hdec i
        first | (rw [if_pos hik] at he; rw [decide_eq_true hik] at hlt'; replace hlt' : (i : Int) < ki := of_decide_eq_true hlt') | (rw [if_neg hik] at he; rw [decide_eq_false hik] at hlt'; replace hlt' : ¬ (i : Int) < ki := of_decide_eq_false hlt')
        obtain rfl := he
        cbv
        repeat (first | (refine vcIf.yes ?_ ?_; (focus (simp [hA1.not, hA1.eq, hA1.lt, hA1.le, hA1.cond, hA1.beq, hA1.orb, hL1.len, hL1.slen, hL1.sq, hw2, hlt']; done)); cbv) | (refine vcIf.no ?_ ?_; (focus (simp [hA1.not, hA1.eq, hA1.lt, hA1.le, hA1.cond, hA1.beq, hA1.orb, hL1.len, hL1.slen, hL1.sq, hw2, hlt']; done)); cbv) | fail)
        refine hrd _ ⟨⟨i + 1, _, n', su', ro', af', d', xs'⟩, [.dead], ?_, hI, rfl, ⟨rfl, rfl, rfl, ?_, trivial⟩, rfl, rfl, rfl, ?_⟩
        · show 300 - (i + 1) < 300 - i
          omega
        · show some (V.p (.int .i64 (add1 .i64 (Int.ofNat i) 1))) = _
          rw [hadd1]
        · rw [hB]; exact Nat.zero_le _
  · have hcr := crash_spec h1 0 (by decide) (by decide) 0
    rw [show ((0 : UInt8).toNat : Int) = 0 from rfl] at hcr
    by_cases hi : i < N
    · refine vcIf.yes (by rw [hA1.lt, hlen]; exact dlt hi) ?_
      cbv
      refine vcIf.no (by rw [hA1.cond, hA1.lt]; exact dlt' (fun c => h300 ⟨hi, c⟩)) ?_
      cbv
      refine hcall _ _ _ _ _ (CallEv.lend [0, 1] hcr rfl (.cons (.own 0 0 0 rfl) (.cons (.p _) (.cons (.p _) .nil))) (tpL rfl rfl rfl rfl) ?_)
      rintro _ _ ⟨n', su', ro', af', d', xs', ht', rfl⟩
      have hsy := sync_spec ht'
      cbv
      refine hcall _ _ _ _ _ (CallEv.lend [0, 1] hsy rfl (.cons (.own 0 0 0 rfl) .nil) (tpL rfl rfl rfl rfl) ?_)
      rintro _ _ ⟨e, n2, su2, ro2, af2, d2, xs2, he, ht2, rfl, rfl⟩
      rw [crash_sync] at he
      cbv
      refine hret _ (RetEv.ret eOk rfl ?_)
      show V.p (.bool (ieq e 0)) = _
      rw [hA.eq, he]; rfl
    · refine vcIf.no (by rw [hA1.lt, hlen]; exact dlt' hi) ?_
      cbv
      repeat (first | (refine vcIf.yes ?_ ?_; (focus (simp [hA1.not, hA1.eq, hA1.lt, hA1.le, hA1.cond, hA1.beq, hA1.orb, hL1.len, hL1.slen, hL1.sq]; done)); cbv) | (refine vcIf.no ?_ ?_; (focus (simp [hA1.not, hA1.eq, hA1.lt, hA1.le, hA1.cond, hA1.beq, hA1.orb, hL1.len, hL1.slen, hL1.sq]; done)); cbv) | fail)
      cbv
      refine hcall _ _ _ _ _ (CallEv.lend [0, 1] hcr rfl (.cons (.own 0 0 0 rfl) (.cons (.p _) (.cons (.p _) .nil))) (tpL rfl rfl rfl rfl) ?_)
      rintro _ _ ⟨n', su', ro', af', d', xs', ht', rfl⟩
      have hsy := sync_spec ht'
      cbv
      refine hcall _ _ _ _ _ (CallEv.lend [0, 1] hsy rfl (.cons (.own 0 0 0 rfl) .nil) (tpL rfl rfl rfl rfl) ?_)
      rintro _ _ ⟨e, n2, su2, ro2, af2, d2, xs2, he, ht2, rfl, rfl⟩
      rw [crash_sync] at he
      cbv
      refine hret _ (RetEv.ret eOk rfl ?_)
      show V.p (.bool (ieq e 0)) = _
      rw [hA.eq, he]; rfl
end Go.Proofs.Ytgblimlnkefllaa
