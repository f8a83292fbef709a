/- Changes and batches read. Conditions: on sizes. -/
import Derived.Test.YtmenbognkdeipaaLFt4
set_option maxRecDepth 100000
set_option maxHeartbeats 4000000
set_option linter.unusedSimpArgs false
set_option linter.unusedVariables false
namespace Go.Proofs.Ytmenbognkdeipaa
open Go Go.Lx
open Go.Sx (vcIf)

def rdG (l : List UInt8) (e : Nat) : Chg × List UInt8 × Nat :=
  (⟨((rdN l e).1 : Int), (rdT (rdN l e).2.1 (rdN l e).2.2).1, (rdT (rdT (rdN l e).2.1 (rdN l e).2.2).2.1 (rdT (rdN l e).2.1 (rdN l e).2.2).2.2).1⟩, (rdT (rdT (rdN l e).2.1 (rdN l e).2.2).2.1 (rdT (rdN l e).2.1 (rdN l e).2.2).2.2).2)
def rdGsT : Nat → List UInt8 → Nat → List Chg × List UInt8 × Nat
  | 0, l, e => ([], l, e)
  | k + 1, l, e => ((rdGsT k l e).1 ++ [(rdG (rdGsT k l e).2.1 (rdGsT k l e).2.2).1], (rdG (rdGsT k l e).2.1 (rdGsT k l e).2.2).2)
theorem rdT_bad {l : List UInt8} {e : Nat} (h : e ≠ 0) : rdT l e = ([], l, e) := by unfold rdT; rw [if_pos h]
theorem rdG_bad {l : List UInt8} {e : Nat} (h : e ≠ 0) : (rdG l e).2 = (l, e) := by
  unfold rdG
  simp only [rdN_bad h, rdT_bad h]
theorem rdG_of {l l1 l2 l3 k v : List UInt8} {e e1 e2 e3 n : Nat} (h1 : (n, l1, e1) = rdN l e) (h2 : (k, l2, e2) = rdT l1 e1) (h3 : (v, l3, e3) = rdT l2 e2) : rdG l e = (⟨(n : Int), k, v⟩, l3, e3) := by
  unfold rdG; rw [← h1]; simp only; rw [← h2]; simp only; rw [← h3]
theorem rdG_len (l : List UInt8) (e : Nat) : (rdG l e).2.1.length ≤ l.length := by
  obtain ⟨⟨n, l1, e1⟩, h1⟩ : ∃ r, r = rdN l e := ⟨_, rfl⟩
  obtain ⟨⟨k, l2, e2⟩, h2⟩ : ∃ r, r = rdT l1 e1 := ⟨_, rfl⟩
  obtain ⟨⟨v, l3, e3⟩, h3⟩ : ∃ r, r = rdT l2 e2 := ⟨_, rfl⟩
  rw [rdG_of h1 h2 h3]
  have := rdN_len h1; have := (rdT_len h2).2; have := (rdT_len h3).2
  simp only; omega
theorem rdGsT_len : ∀ (k : Nat) (l : List UInt8) (e : Nat), (rdGsT k l e).1.length = k ∧ (rdGsT k l e).2.1.length ≤ l.length
  | 0, l, e => ⟨rfl, Nat.le_refl _⟩
  | k + 1, l, e => by
    have h := rdGsT_len k l e
    have h2 := rdG_len (rdGsT k l e).2.1 (rdGsT k l e).2.2
    rw [rdGsT]
    exact ⟨by simp [h.1], Nat.le_trans h2 h.2⟩
theorem rdGsT_bad {l : List UInt8} {e : Nat} : ∀ (k i : Nat), i ≤ k → (rdGsT i l e).2.2 ≠ 0 → (rdGsT k l e).2.2 ≠ 0
  | 0, i, h, hb => by obtain rfl : i = 0 := by omega
                      exact hb
  | k + 1, i, h, hb => by
    rcases Nat.lt_or_ge k i with c | c
    · obtain rfl : i = k + 1 := by omega
      exact hb
    · have := rdGsT_bad k i c hb
      rw [rdGsT, rdG_bad this]
      exact this

structure CI where
  i : Nat
  r : Nat
  ys : List PV
  e : Nat
  zs : List PV
theorem getChgs_spec (l : List UInt8) (hl : l.length < 9223372036854775807) (e : Nat) (ys : List PV) (hys : ys = bP l) (most : Nat) (hm : most ≤ 100000) :
    FnL Try.prog 72 [.own 0 0, .p (.int .i64 (most : Int))] [rdSt ys e] fun z own => ∃ (n i : Nat) (l0 : List UInt8) (e0 : Nat) (cs : List Chg) (l' : List UInt8) (e' : Nat) (us zs : List PV), (n, l0, e0) = rdC l e most ∧ i ≤ n ∧ (i = n ∨ e' ≠ 0) ∧ (cs, l', e') = rdGsT i l0 e0 ∧ us = bP l' ∧ zs = cP cs ∧ z = .p (.sl zs) ∧ own = [rdSt us e'] := by
  refine FnL.less (R := fun z own => ∃ (n i : Nat) (l0 : List UInt8) (e0 : Nat) (cs : List Chg) (l' : List UInt8) (e' : Nat) (us zs : List PV), (n, l0, e0) = rdC l e most ∧ i ≤ n ∧ (i = n ∨ e' ≠ 0) ∧ (cs, l', e') = rdGsT i l0 e0 ∧ us = bP l' ∧ zs = cP cs ∧ z = .p (.sl zs) ∧ own = [rdSt us e', .dead]) ?_ ?_
  rotate_left
  · rintro _ _ ⟨n, i, l0, e0, cs, l', e', us, zs, h1, h2, h3, h4, h5, h6, rfl, rfl⟩
    exact ⟨_, [rdSt us e'], [.dead], rfl, .refl _, rfl, rfl, Nat.le_refl _, n, i, l0, e0, cs, l', e', us, zs, h1, h2, h3, h4, h5, h6, rfl, rfl⟩
  have hC := rdCount_spec l e ys hys most
  refine fn_of_vc eOk fOk fo72 Try.func72 rfl rfl rfl fun B hB => ?_
  intro add sub mul quo rem band bor bxor bclr shl shr ieq ilt ile seq slt beq bnot orb bcond iwrap iof ssz hA cat sq sl imin imax smin smax len slen u8 hL op hop call hcall code hcode ret hret
  cbv
  refine hcall _ _ _ _ _ (CallEv.lend [0] hC rfl (.cons (.own 0 0 0 rfl) (.cons (.p _) .nil)) (rdL rfl) ?_)
  rintro _ _ ⟨n, l0, e0, z0, h0, g0, rfl, rfl⟩
  have hn := rdC_le h0
  cbv
  refine hcode _ _ _ (CodeEv.conv (Conv.hollow 5 126 3 (by decide) rfl) (CodeEv.loop eOk fOk (ι := CI) (fun s => [(0, .own 0 0), (1, .p (.int .i64 (Int.ofNat most))), (5, .vw 1 3 0 s.i none), (6, .p (.int .i64 (Int.ofNat s.r)))])
    (fun s => [rdSt s.ys s.e, .arr 126 3 s.zs])
    (fun s => s.r + s.i = n ∧ s.ys = bP (rdGsT s.i l0 e0).2.1 ∧ s.e = (rdGsT s.i l0 e0).2.2 ∧ s.zs = cP (rdGsT s.i l0 e0).1) (fun s => s.r) ⟨0, n, z0, e0, []⟩ ?_ ?_))
  · exact ⟨(by repeat (first | exact trivial | refine And.intro rfl ?_)), rfl, rfl, g0, rfl, rfl⟩
  rintro ⟨i, r, ys, e1, zs⟩ ⟨k1, k2, k3, k4⟩ rd hrd
  simp only at k1 k2 k3 k4
  obtain ⟨hil, hll⟩ := rdGsT_len i l0 e0
  have hstep := show rdGsT (i + 1) l0 e0 = _ from by rw [rdGsT]
  obtain ⟨⟨cs, li, ei⟩, hT⟩ : ∃ x, x = rdGsT i l0 e0 := ⟨_, rfl⟩
  rw [← hT] at k2 k3 k4 hil hll hstep
  simp only at k2 k3 k4 hil hll hstep
  subst k3
  have hzl : zs.length = i := by rw [k4, cP_length, hil]
  have hE := rdError_spec ys e1
  have hN := rdNumV li e1 ys k2
  intro add1 sub1 mul1 quo1 rem1 band1 bor1 bxor1 bclr1 shl1 shr1 ieq1 ilt1 ile1 seq1 slt1 beq1 bnot1 orb1 bcond1 iwrap1 iof1 ssz1 hA1 cat1 sq1 sl1 imin1 imax1 smin1 smax1 len1 slen1 u81 hL1 op1 hop1 call1 hcall1 code1 hcode1
  have hsub : 0 < r → sub1 .i64 (Int.ofNat r) 1 = Int.ofNat (r - 1) := fun h => by rw [hA1.sub, IntWalk.i64_in _ (by simp only [Int.ofNat_eq_natCast]; omega)]; simp only [Int.ofNat_eq_natCast]; omega
  cbv
  by_cases hr : 0 < r
  · refine vcIf.yes (by first | (simp [hA1.not, hA1.eq, hA1.lt, hA1.le, hA1.cond, hA1.beq, hA1.orb, hL1.len, hL1.slen, hL1.sq, hr]; done) | (simp only [hr]; simp [hA1.not, hA1.eq, hA1.lt, hA1.le, hA1.cond, hA1.beq, hA1.orb, hL1.len, hL1.slen, hL1.sq, hr]; done) | (simp [hA1.not, hA1.eq, hA1.lt, hA1.le, hA1.cond, hA1.beq, hA1.orb, hL1.len, hL1.slen, hL1.sq, hr]; omega) | (simp only [hr]; simp [hA1.not, hA1.eq, hA1.lt, hA1.le, hA1.cond, hA1.beq, hA1.orb, hL1.len, hL1.slen, hL1.sq, hr]; omega)) ?_
    cbv
    refine hcall1 _ _ _ _ _ (CallEv.lend [0] hE rfl (.cons (.own 0 0 0 rfl) .nil) (rdL rfl) ?_)
    rintro _ _ ⟨rfl, rfl⟩
    cbv
    by_cases he : e1 = 0
    · refine vcIf.yes (by first | (simp [hA1.not, hA1.eq, hA1.lt, hA1.le, hA1.cond, hA1.beq, hA1.orb, hL1.len, hL1.slen, hL1.sq, he]; done) | (simp only [he]; simp [hA1.not, hA1.eq, hA1.lt, hA1.le, hA1.cond, hA1.beq, hA1.orb, hL1.len, hL1.slen, hL1.sq, he]; done) | (simp [hA1.not, hA1.eq, hA1.lt, hA1.le, hA1.cond, hA1.beq, hA1.orb, hL1.len, hL1.slen, hL1.sq, he]; omega) | (simp only [he]; simp [hA1.not, hA1.eq, hA1.lt, hA1.le, hA1.cond, hA1.beq, hA1.orb, hL1.len, hL1.slen, hL1.sq, he]; omega)) ?_
      cbv
      refine hcall1 _ _ _ _ _ (CallEv.lend [0] hN rfl (.cons (.own 0 0 0 rfl) .nil) (rdL rfl) ?_)
      rintro _ _ ⟨n1, l1, e1', y1, q1, g1, rfl, rfl⟩
      have b1 := rdN_len q1
      have hT1 := rdText_spec l1 (by omega) e1' y1 g1
      cbv
      refine hcall1 _ _ _ _ _ (CallEv.lend [0] hT1 rfl (.cons (.own 0 0 0 rfl) .nil) (rdL rfl) ?_)
      rintro _ _ ⟨s2, l2, e2, y2, q2, g2, rfl, rfl⟩
      have b2 := rdT_len q2
      have hT2 := rdText_spec l2 (by omega) e2 y2 g2
      cbv
      refine hcall1 _ _ _ _ _ (CallEv.lend [0] hT2 rfl (.cons (.own 0 0 0 rfl) .nil) (rdL rfl) ?_)
      rintro _ _ ⟨s3, l3, e3, y3, q3, g3, rfl, rfl⟩
      have hGx := rdG_of q1 q2 q3
      rw [hGx] at hstep
      simp only at hstep
      cbv
      refine ⟨false, ?_⟩
      cbv
      refine .inl ⟨(), rfl, hzl.symm, Wf.one (Chg.wf ⟨(n1 : Int), s2, s3⟩), ?_, ?_, ?_⟩
      · show i + 1 ≤ maxLen
        unfold maxLen; omega
      · show (i + 1) * 40 ≤ _
        omega
      intro us n' hu hn'
      replace hu : us = zs ++ [Chg.v ⟨(n1 : Int), s2, s3⟩] := hu
      obtain rfl : n' = i + 1 := hn'
      cbv
      refine hrd _ ⟨⟨i + 1, r - 1, y3, e3, us⟩, [], ?_, ⟨?_, ?_, ?_, ?_⟩, rfl, ⟨rfl, rfl, rfl, ?_, trivial⟩, rfl, rfl, rfl, ?_⟩
      · show r - 1 < r
        omega
      · simp only; omega
      · simp only; rw [hstep]; exact g3
      · simp only; rw [hstep]
      · simp only; rw [hstep, hu, k4]; simp [cP]
      · show some (V.p (.int .i64 _)) = _
        rw [hsub hr]
      · rw [hB]; exact Nat.le_succ _
    · refine vcIf.no (by first | (simp [hA1.not, hA1.eq, hA1.lt, hA1.le, hA1.cond, hA1.beq, hA1.orb, hL1.len, hL1.slen, hL1.sq, he]; done) | (simp only [he]; simp [hA1.not, hA1.eq, hA1.lt, hA1.le, hA1.cond, hA1.beq, hA1.orb, hL1.len, hL1.slen, hL1.sq, he]; done) | (simp [hA1.not, hA1.eq, hA1.lt, hA1.le, hA1.cond, hA1.beq, hA1.orb, hL1.len, hL1.slen, hL1.sq, he]; omega) | (simp only [he]; simp [hA1.not, hA1.eq, hA1.lt, hA1.le, hA1.cond, hA1.beq, hA1.orb, hL1.len, hL1.slen, hL1.sq, he]; omega)) ?_
      cbv
      refine hret _ (RetEv.retF eOk rfl 1 rfl (by rw [hB]; exact Nat.le_refl _) ⟨n, i, l0, e0, cs, li, e1, ys, zs, h0, by omega, .inr he, hT, k2, k4, ?_, rfl⟩)
      show V.p (.sl ((zs.drop 0).take i)) = _
      rw [frz_full hzl]
  · refine vcIf.no (by first | (simp [hA1.not, hA1.eq, hA1.lt, hA1.le, hA1.cond, hA1.beq, hA1.orb, hL1.len, hL1.slen, hL1.sq, hr]; done) | (simp only [hr]; simp [hA1.not, hA1.eq, hA1.lt, hA1.le, hA1.cond, hA1.beq, hA1.orb, hL1.len, hL1.slen, hL1.sq, hr]; done) | (simp [hA1.not, hA1.eq, hA1.lt, hA1.le, hA1.cond, hA1.beq, hA1.orb, hL1.len, hL1.slen, hL1.sq, hr]; omega) | (simp only [hr]; simp [hA1.not, hA1.eq, hA1.lt, hA1.le, hA1.cond, hA1.beq, hA1.orb, hL1.len, hL1.slen, hL1.sq, hr]; omega)) ?_
    cbv
    refine hret _ (RetEv.retF eOk rfl 1 rfl (by rw [hB]; exact Nat.le_refl _) ⟨n, i, l0, e0, cs, li, e1, ys, zs, h0, by omega, .inl (by omega), hT, k2, k4, ?_, rfl⟩)
    show V.p (.sl ((zs.drop 0).take i)) = _
    rw [frz_full hzl]
end Go.Proofs.Ytmenbognkdeipaa
