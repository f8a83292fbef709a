/- The document's Orders. Conditions: on sizes. -/
import Derived.Test.YtdoikpagilmplaaLPo1
set_option maxRecDepth 100000
set_option maxHeartbeats 16000000
set_option linter.unusedSimpArgs false
set_option linter.unusedVariables false
namespace Go.Proofs.Ytdoikpagilmplaa
open Go Go.Lx
open Go.Sx (vcIf)

theorem rorders_spec (ds : List Dd) (hdl : ds.length < 281474976710656) (ys : List PV) (hys : ys = ddP ds) :
    FnL Try.prog 19 [.p (.sl ys)] [] fun v own => ∃ n : Int, isFst (obad ds) ds.length n ∧ v = .p (.int .i64 n) ∧ own = [] := by
  refine FnL.flat (R := fun v own => ∃ n : Int, isFst (obad ds) ds.length n ∧ v = .p (.int .i64 n)) ?_ (by rintro _ _ ⟨n, h, rfl⟩; exact ⟨_, _, rfl, .refl _, n, h, rfl, rfl⟩)
  obtain ⟨N, hN⟩ : ∃ N, N = ds.length := ⟨_, rfl⟩
  have hyl : ys.length = N := by rw [hys, ddP_length, hN]
  rw [← hN] at hdl ⊢
  refine fn_of_vc eOk fOk fo19 Try.func19 rfl rfl rfl fun B hB => ?_
  intro add sub mul quo rem band bor bxor bclr shl shr ieq ilt ile seq slt beq bnot orb bcond iwrap iof ssz hA cat sq sl imin imax smin smax len slen u8 hL op hop call hcall code hcode ret hret
  cbv
  refine hcode _ _ _ (CodeEv.loop eOk fOk (ι := Nat) (fun s => [(0, .p (.sl ys)), (3, .p (.int .i64 (Int.ofNat s)))])
    (fun s => []) (fun s => s ≤ N ∧ ∀ j, j < s → ¬ obad ds j) (fun s => N - s) 0 ?_ ?_)
  · exact ⟨(by repeat (first | exact trivial | refine And.intro rfl ?_)), rfl, Nat.zero_le _, fun j h => absurd h (Nat.not_lt_zero j)⟩
  rintro i ⟨k1, k2⟩ rd hrd
  by_cases hi : i < N
  · refine Exists.elim (get_of_lt (show i < ds.length by omega)) fun d hd => ?_
    have hrb := obad_iff hd
    have hzi : ys[i]? = some (.agg [.int .i64 d.g, .int .i64 d.b, .int .i64 d.e, .int .i64 d.r, .int .i64 d.o, .int .i64 d.w, .sl (snP d.seen), .sl (cP d.ch)]) := by rw [hys]; exact ddP_get hd
    refine Exists.elim (show ∃ EL : Nat → Prop, EL = fun k => ∃ x, ds[k]? = some x ∧ eld d x from ⟨_, rfl⟩) fun EL hEL => ?_
    have hno : ¬ ord d → ¬ obad ds i := fun h c => h (hrb.1 c).1
    have hno2 : (∀ j, j < N → ¬ EL j) → ¬ obad ds i := fun h c => by
      obtain ⟨_, k, x, h1, h2⟩ := hrb.1 c
      have := h k (by rw [hN]; exact (List.getElem?_eq_some_iff.1 h1).1)
      rw [hEL] at this; exact this ⟨x, h1, h2⟩
    have hyes : ord d → ∀ k, k < N → EL k → obad ds i := fun h k _ h2 => by
      rw [hEL] at h2
      obtain ⟨x, h3, h4⟩ := h2
      exact hrb.2 ⟨h, k, x, h3, h4⟩
    have hkx : ∀ k, k < N → ∃ x : Dd, ys[k]? = some (.agg [.int .i64 x.g, .int .i64 x.b, .int .i64 x.e, .int .i64 x.r, .int .i64 x.o, .int .i64 x.w, .sl (snP x.seen), .sl (cP x.ch)]) ∧ (EL k ↔ (x.o = 1 ∧ 0 ≤ x.e ∧ x.e < d.b ∧ d.r < x.w)) := fun k hk => by
      obtain ⟨x, hx⟩ := get_of_lt (show k < ds.length by omega)
      refine ⟨x, by rw [hys]; exact ddP_get hx, ?_⟩
      rw [hEL]
      constructor
      · rintro ⟨y, h1, h2⟩
        rw [hx] at h1; cases h1; exact h2
      · exact fun h => ⟨x, hx, h⟩
    refine Exists.elim (show ∃ S, S = d.seen.length from ⟨_, rfl⟩) fun S hS => ?_
    refine Exists.elim (show ∃ ss, ss = snP d.seen from ⟨_, rfl⟩) fun ss hss => ?_
    refine Exists.elim (show ∃ cs, cs = cP d.ch from ⟨_, rfl⟩) fun cs hcs => ?_
    have hsl : ss.length = S := by rw [hss, snP_length, hS]
    have hord : ord d ↔ ¬ (S = 0 ∧ d.o ≠ 1) := by rw [hS]; exact Iff.rfl
    rw [← hss, ← hcs] at hzi
    rw [hord] at hno hyes
    clear hrb hd hss hcs hS hord hEL
    obtain ⟨dg, db, de, dr, do_, dw, dseen, dch⟩ := d
    simp only at hzi hno hyes hkx
    by_cases hS0 : S = 0 ∧ do_ ≠ 1
    · have hnx := not_next k2 (hno fun c => c hS0)
      have hS1 := hS0.1
      have hS2 := hS0.2
      intro add1 sub1 mul1 quo1 rem1 band1 bor1 bxor1 bclr1 shl1 shr1 ieq1 ilt1 ile1 seq1 slt1 beq1 bnot1 orb1 bcond1 iwrap1 iof1 ssz1 hA1 cat1 sq1 sl1 imin1 imax1 smin1 smax1 len1 slen1 u81 hL1 op1 hop1 call1 hcall1 code1 hcode1
      have hls : len1 ss = Int.ofNat S := by rw [hL1.len, hsl]; rfl
      have e0 : len1 ys = Int.ofNat N := by rw [hL1.len, hyl]; rfl
      have hadd1 : add1 .i64 (Int.ofNat i) 1 = Int.ofNat (i + 1) := by rw [hA1.add, IntWalk.i64_in _ (by simp only [Int.ofNat_eq_natCast]; omega)]; rfl
      cbv
      refine vcIf.yes (by first | (simp [hA1.not, hA1.eq, hA1.lt, hA1.le, hA1.cond, hA1.beq, hA1.orb, hL1.len, hL1.slen, hL1.sq, e0, hi]; done) | (simp only [e0, hi]; simp [hA1.not, hA1.eq, hA1.lt, hA1.le, hA1.cond, hA1.beq, hA1.orb, hL1.len, hL1.slen, hL1.sq, e0, hi]; done) | (simp [hA1.not, hA1.eq, hA1.lt, hA1.le, hA1.cond, hA1.beq, hA1.orb, hL1.len, hL1.slen, hL1.sq, e0, hi]; omega) | (simp only [e0, hi]; simp [hA1.not, hA1.eq, hA1.lt, hA1.le, hA1.cond, hA1.beq, hA1.orb, hL1.len, hL1.slen, hL1.sq, e0, hi]; omega)) ?_
      cbv
      refine ⟨i, _, rfl, hzi, rfl, ?_⟩
      cbv
      refine vcIf.yes (by first | (simp [hA1.not, hA1.eq, hA1.lt, hA1.le, hA1.cond, hA1.beq, hA1.orb, hL1.len, hL1.slen, hL1.sq, hls, hS1]; done) | (simp only [hls, hS1]; simp [hA1.not, hA1.eq, hA1.lt, hA1.le, hA1.cond, hA1.beq, hA1.orb, hL1.len, hL1.slen, hL1.sq, hls, hS1]; done) | (simp [hA1.not, hA1.eq, hA1.lt, hA1.le, hA1.cond, hA1.beq, hA1.orb, hL1.len, hL1.slen, hL1.sq, hls, hS1]; omega) | (simp only [hls, hS1]; simp [hA1.not, hA1.eq, hA1.lt, hA1.le, hA1.cond, hA1.beq, hA1.orb, hL1.len, hL1.slen, hL1.sq, hls, hS1]; omega)) ?_
      cbv
      refine ⟨i, _, rfl, hzi, rfl, ?_⟩
      cbv
      refine vcIf.yes (by first | (simp [hA1.not, hA1.eq, hA1.lt, hA1.le, hA1.cond, hA1.beq, hA1.orb, hL1.len, hL1.slen, hL1.sq, cond, hS2]; done) | (simp only [cond, hS2]; simp [hA1.not, hA1.eq, hA1.lt, hA1.le, hA1.cond, hA1.beq, hA1.orb, hL1.len, hL1.slen, hL1.sq, cond, hS2]; done) | (simp [hA1.not, hA1.eq, hA1.lt, hA1.le, hA1.cond, hA1.beq, hA1.orb, hL1.len, hL1.slen, hL1.sq, cond, hS2]; omega) | (simp only [cond, hS2]; simp [hA1.not, hA1.eq, hA1.lt, hA1.le, hA1.cond, hA1.beq, hA1.orb, hL1.len, hL1.slen, hL1.sq, cond, hS2]; omega)) ?_
      cbv
      refine hrd _ ⟨i + 1, _, ?_, ⟨hi, hnx⟩, rfl, ⟨rfl, ?_, trivial⟩, rfl, rfl, rfl, ?_⟩
      · show N - (i + 1) < N - i
        omega
      · show some (V.p (.int .i64 _)) = _
        rw [hadd1]
      · rw [hB]; exact Nat.zero_le _
    · intro add1 sub1 mul1 quo1 rem1 band1 bor1 bxor1 bclr1 shl1 shr1 ieq1 ilt1 ile1 seq1 slt1 beq1 bnot1 orb1 bcond1 iwrap1 iof1 ssz1 hA1 cat1 sq1 sl1 imin1 imax1 smin1 smax1 len1 slen1 u81 hL1 op1 hop1 call1 hcall1 code1 hcode1
      have hls : len1 ss = Int.ofNat S := by rw [hL1.len, hsl]; rfl
      have e0 : len1 ys = Int.ofNat N := by rw [hL1.len, hyl]; rfl
      have hadd1 : add1 .i64 (Int.ofNat i) 1 = Int.ofNat (i + 1) := by rw [hA1.add, IntWalk.i64_in _ (by simp only [Int.ofNat_eq_natCast]; omega)]; rfl
      cbv
      refine vcIf.yes (by first | (simp [hA1.not, hA1.eq, hA1.lt, hA1.le, hA1.cond, hA1.beq, hA1.orb, hL1.len, hL1.slen, hL1.sq, e0, hi]; done) | (simp only [e0, hi]; simp [hA1.not, hA1.eq, hA1.lt, hA1.le, hA1.cond, hA1.beq, hA1.orb, hL1.len, hL1.slen, hL1.sq, e0, hi]; done) | (simp [hA1.not, hA1.eq, hA1.lt, hA1.le, hA1.cond, hA1.beq, hA1.orb, hL1.len, hL1.slen, hL1.sq, e0, hi]; omega) | (simp only [e0, hi]; simp [hA1.not, hA1.eq, hA1.lt, hA1.le, hA1.cond, hA1.beq, hA1.orb, hL1.len, hL1.slen, hL1.sq, e0, hi]; omega)) ?_
      cbv
      refine ⟨i, _, rfl, hzi, rfl, ?_⟩
      cbv
      by_cases hS1 : S = 0
      · have hS2 : do_ = 1 := Classical.byContradiction fun c => hS0 ⟨hS1, c⟩
        refine vcIf.yes (by first | (simp [hA1.not, hA1.eq, hA1.lt, hA1.le, hA1.cond, hA1.beq, hA1.orb, hL1.len, hL1.slen, hL1.sq, hls, hS1]; done) | (simp only [hls, hS1]; simp [hA1.not, hA1.eq, hA1.lt, hA1.le, hA1.cond, hA1.beq, hA1.orb, hL1.len, hL1.slen, hL1.sq, hls, hS1]; done) | (simp [hA1.not, hA1.eq, hA1.lt, hA1.le, hA1.cond, hA1.beq, hA1.orb, hL1.len, hL1.slen, hL1.sq, hls, hS1]; omega) | (simp only [hls, hS1]; simp [hA1.not, hA1.eq, hA1.lt, hA1.le, hA1.cond, hA1.beq, hA1.orb, hL1.len, hL1.slen, hL1.sq, hls, hS1]; omega)) ?_
        cbv
        refine ⟨i, _, rfl, hzi, rfl, ?_⟩
        cbv
        refine vcIf.no (by first | (simp [hA1.not, hA1.eq, hA1.lt, hA1.le, hA1.cond, hA1.beq, hA1.orb, hL1.len, hL1.slen, hL1.sq, cond, hS2]; done) | (simp only [cond, hS2]; simp [hA1.not, hA1.eq, hA1.lt, hA1.le, hA1.cond, hA1.beq, hA1.orb, hL1.len, hL1.slen, hL1.sq, cond, hS2]; done) | (simp [hA1.not, hA1.eq, hA1.lt, hA1.le, hA1.cond, hA1.beq, hA1.orb, hL1.len, hL1.slen, hL1.sq, cond, hS2]; omega) | (simp only [cond, hS2]; simp [hA1.not, hA1.eq, hA1.lt, hA1.le, hA1.cond, hA1.beq, hA1.orb, hL1.len, hL1.slen, hL1.sq, cond, hS2]; omega)) ?_
        cbv
        refine hcode1 _ _ _ (CodeEv.loop eOk fOk (ι := Nat) (fun s => [(0, .p (.sl ys)), (3, .p (.int .i64 (Int.ofNat i))), (4, .p (.int .i64 (Int.ofNat s)))])
          (fun s => []) (fun s => s ≤ N ∧ ∀ j, j < s → ¬ EL j) (fun s => N - s) 0 ?_ ?_)
        · exact ⟨(by repeat (first | exact trivial | refine And.intro rfl ?_)), rfl, Nat.zero_le _, fun j h => absurd h (Nat.not_lt_zero j)⟩
        rintro k ⟨m1, m2⟩ rd2 hrd2
        by_cases hk : k < N
        · refine Exists.elim (hkx k hk) fun x hx => ?_
          have hzk := hx.1
          have hel := hx.2
          clear hx
          obtain ⟨xg, xb, xe, xr, xo, xw, xseen, xch⟩ := x
          simp only at hzk hel
          refine Exists.elim (show ∃ xs, xs = snP xseen from ⟨_, rfl⟩) fun xs hxs => ?_
          refine Exists.elim (show ∃ xc, xc = cP xch from ⟨_, rfl⟩) fun xc hxc => ?_
          rw [← hxs, ← hxc] at hzk
          have hn : ¬ (xo = 1 ∧ 0 ≤ xe ∧ xe < db ∧ dr < xw) → ∀ j, j < k + 1 → ¬ EL j := fun h => not_next m2 fun c => h (hel.1 c)
          have hy : (xo = 1 ∧ 0 ≤ xe ∧ xe < db ∧ dr < xw) → obad ds i := fun h => hyes hS0 k hk (hel.2 h)
          clear hel hxs hxc
          intro add2 sub2 mul2 quo2 rem2 band2 bor2 bxor2 bclr2 shl2 shr2 ieq2 ilt2 ile2 seq2 slt2 beq2 bnot2 orb2 bcond2 iwrap2 iof2 ssz2 hA2 cat2 sq2 sl2 imin2 imax2 smin2 smax2 len2 slen2 u82 hL2 op2 hop2 call2 hcall2 code2 hcode2
          have e2 : len2 ys = Int.ofNat N := by rw [hL2.len, hyl]; rfl
          have hadd2 : add2 .i64 (Int.ofNat k) 1 = Int.ofNat (k + 1) := by rw [hA2.add, IntWalk.i64_in _ (by simp only [Int.ofNat_eq_natCast]; omega)]; rfl
          cbv
          refine vcIf.yes (by first | (simp [hA2.not, hA2.eq, hA2.lt, hA2.le, hA2.cond, hA2.beq, hA2.orb, hL2.len, hL2.slen, hL2.sq, e2, hk]; done) | (simp only [e2, hk]; simp [hA2.not, hA2.eq, hA2.lt, hA2.le, hA2.cond, hA2.beq, hA2.orb, hL2.len, hL2.slen, hL2.sq, e2, hk]; done) | (simp [hA2.not, hA2.eq, hA2.lt, hA2.le, hA2.cond, hA2.beq, hA2.orb, hL2.len, hL2.slen, hL2.sq, e2, hk]; omega) | (simp only [e2, hk]; simp [hA2.not, hA2.eq, hA2.lt, hA2.le, hA2.cond, hA2.beq, hA2.orb, hL2.len, hL2.slen, hL2.sq, e2, hk]; omega)) ?_
          cbv
          refine ⟨k, _, rfl, hzk, rfl, ?_⟩
          cbv
          refine hcode2 _ _ _ (CodeEv.drawT eOk fOk (by kernel_rfl) noX (.so 0 (.so 1 (.so 2 (.so 3 (.so 4 (.so 5 (.so 6 (.so 7 (.so 8 (.rd 9 (.rd 10 (.rd 11 (.so 12 (.so 13 (.so 14 (.so 15 (.so 16 (.so 17 (.so 18 (.rd 19 (.rd 20 (.rd 21 (.rd 22 (.rd 23 (.so 24 (.so 25 (.so 26 (.so 27 (.done))))))))))))))))))))))))))))) (by kernel_rfl) (by kernel_rfl) ?_)
          intro add3 sub3 mul3 quo3 rem3 band3 bor3 bxor3 bclr3 shl3 shr3 ieq3 ilt3 ile3 seq3 slt3 beq3 bnot3 orb3 bcond3 iwrap3 iof3 ssz3 hA3 cat3 sq3 sl3 imin3 imax3 smin3 smax3 len3 slen3 u83 hL3 op3 hop3 call3 hcall3 code3 hcode3 q3 hq3
          cbv
          by_cases h1 : xo = 1
          · refine vcIf.yes (by first | (simp [hA3.not, hA3.eq, hA3.lt, hA3.le, hA3.cond, hA3.beq, hA3.orb, hL3.len, hL3.slen, hL3.sq, h1]; done) | (simp only [h1]; simp [hA3.not, hA3.eq, hA3.lt, hA3.le, hA3.cond, hA3.beq, hA3.orb, hL3.len, hL3.slen, hL3.sq, h1]; done) | (simp [hA3.not, hA3.eq, hA3.lt, hA3.le, hA3.cond, hA3.beq, hA3.orb, hL3.len, hL3.slen, hL3.sq, h1]; omega) | (simp only [h1]; simp [hA3.not, hA3.eq, hA3.lt, hA3.le, hA3.cond, hA3.beq, hA3.orb, hL3.len, hL3.slen, hL3.sq, h1]; omega)) ?_
            cbv
            by_cases h2 : 0 ≤ xe
            · refine vcIf.yes (by simp [hA3.cond, cond, hA3.le, h2]) ?_
              cbv
              refine ⟨i, _, rfl, hzi, rfl, ?_⟩
              cbv
              by_cases h3 : xe < db
              · refine vcIf.yes (by simp [hA3.cond, cond, hA3.lt, h3]) ?_
                cbv
                refine ⟨i, _, rfl, hzi, rfl, ?_⟩
                cbv
                refine hq3 _ ?_
                cbv
                by_cases h4 : dr < xw
                · have hfst := isFst.at hi (hy ⟨h1, h2, h3, h4⟩) k2
                  refine vcIf.yes (by simp [hA3.cond, cond, hA3.lt, h4]) ?_
                  cbv
                  exact hret _ (RetEv.ret eOk rfl ⟨_, hfst, rfl⟩)
                · have hnx := hn fun c => h4 c.2.2.2
                  refine vcIf.no (by simp [hA3.cond, cond, hA3.lt]; omega) ?_
                  cbv
                  refine hrd2 _ ⟨k + 1, _, ?_, ⟨hk, hnx⟩, rfl, ⟨rfl, rfl, ?_, trivial⟩, rfl, rfl, rfl, ?_⟩
                  · show N - (k + 1) < N - k
                    omega
                  · show some (V.p (.int .i64 _)) = _
                    rw [hadd2]
                  · rw [hB]; exact Nat.zero_le _
              · have hnx := hn fun c => h3 c.2.2.1
                refine vcIf.no (by simp [hA3.cond, cond, hA3.lt]; omega) ?_
                cbv
                refine hq3 _ ?_
                cbv
                refine hrd2 _ ⟨k + 1, _, ?_, ⟨hk, hnx⟩, rfl, ⟨rfl, rfl, ?_, trivial⟩, rfl, rfl, rfl, ?_⟩
                · show N - (k + 1) < N - k
                  omega
                · show some (V.p (.int .i64 _)) = _
                  rw [hadd2]
                · rw [hB]; exact Nat.zero_le _
            · have hnx := hn fun c => h2 c.2.1
              refine vcIf.no (by simp [hA3.cond, cond, hA3.le]; omega) ?_
              cbv
              refine hq3 _ ?_
              cbv
              refine hrd2 _ ⟨k + 1, _, ?_, ⟨hk, hnx⟩, rfl, ⟨rfl, rfl, ?_, trivial⟩, rfl, rfl, rfl, ?_⟩
              · show N - (k + 1) < N - k
                omega
              · show some (V.p (.int .i64 _)) = _
                rw [hadd2]
              · rw [hB]; exact Nat.zero_le _
          · have hnx := hn fun c => h1 c.1
            refine vcIf.no (by first | (simp [hA3.not, hA3.eq, hA3.lt, hA3.le, hA3.cond, hA3.beq, hA3.orb, hL3.len, hL3.slen, hL3.sq, h1]; done) | (simp only [h1]; simp [hA3.not, hA3.eq, hA3.lt, hA3.le, hA3.cond, hA3.beq, hA3.orb, hL3.len, hL3.slen, hL3.sq, h1]; done) | (simp [hA3.not, hA3.eq, hA3.lt, hA3.le, hA3.cond, hA3.beq, hA3.orb, hL3.len, hL3.slen, hL3.sq, h1]; omega) | (simp only [h1]; simp [hA3.not, hA3.eq, hA3.lt, hA3.le, hA3.cond, hA3.beq, hA3.orb, hL3.len, hL3.slen, hL3.sq, h1]; omega)) ?_
            cbv
            refine hq3 _ ?_
            cbv
            refine hrd2 _ ⟨k + 1, _, ?_, ⟨hk, hnx⟩, rfl, ⟨rfl, rfl, ?_, trivial⟩, rfl, rfl, rfl, ?_⟩
            · show N - (k + 1) < N - k
              omega
            · show some (V.p (.int .i64 _)) = _
              rw [hadd2]
            · rw [hB]; exact Nat.zero_le _
        · have hnx := not_next k2 (hno2 fun j hj => m2 j (by omega))
          intro add2 sub2 mul2 quo2 rem2 band2 bor2 bxor2 bclr2 shl2 shr2 ieq2 ilt2 ile2 seq2 slt2 beq2 bnot2 orb2 bcond2 iwrap2 iof2 ssz2 hA2 cat2 sq2 sl2 imin2 imax2 smin2 smax2 len2 slen2 u82 hL2 op2 hop2 call2 hcall2 code2 hcode2
          have e2 : len2 ys = Int.ofNat N := by rw [hL2.len, hyl]; rfl
          cbv
          refine vcIf.no (by first | (simp [hA2.not, hA2.eq, hA2.lt, hA2.le, hA2.cond, hA2.beq, hA2.orb, hL2.len, hL2.slen, hL2.sq, e2, hk]; done) | (simp only [e2, hk]; simp [hA2.not, hA2.eq, hA2.lt, hA2.le, hA2.cond, hA2.beq, hA2.orb, hL2.len, hL2.slen, hL2.sq, e2, hk]; done) | (simp [hA2.not, hA2.eq, hA2.lt, hA2.le, hA2.cond, hA2.beq, hA2.orb, hL2.len, hL2.slen, hL2.sq, e2, hk]; omega) | (simp only [e2, hk]; simp [hA2.not, hA2.eq, hA2.lt, hA2.le, hA2.cond, hA2.beq, hA2.orb, hL2.len, hL2.slen, hL2.sq, e2, hk]; omega)) ?_
          cbv
          refine hrd _ ⟨i + 1, _, ?_, ⟨hi, hnx⟩, rfl, ⟨rfl, ?_, trivial⟩, rfl, rfl, rfl, ?_⟩
          · show N - (i + 1) < N - i
            omega
          · show some (V.p (.int .i64 _)) = _
            rw [hadd1]
          · rw [hB]; exact Nat.zero_le _
      · refine vcIf.no (by first | (simp [hA1.not, hA1.eq, hA1.lt, hA1.le, hA1.cond, hA1.beq, hA1.orb, hL1.len, hL1.slen, hL1.sq, hls, hS1]; done) | (simp only [hls, hS1]; simp [hA1.not, hA1.eq, hA1.lt, hA1.le, hA1.cond, hA1.beq, hA1.orb, hL1.len, hL1.slen, hL1.sq, hls, hS1]; done) | (simp [hA1.not, hA1.eq, hA1.lt, hA1.le, hA1.cond, hA1.beq, hA1.orb, hL1.len, hL1.slen, hL1.sq, hls, hS1]; omega) | (simp only [hls, hS1]; simp [hA1.not, hA1.eq, hA1.lt, hA1.le, hA1.cond, hA1.beq, hA1.orb, hL1.len, hL1.slen, hL1.sq, hls, hS1]; omega)) ?_
        cbv
        refine hcode1 _ _ _ (CodeEv.loop eOk fOk (ι := Nat) (fun s => [(0, .p (.sl ys)), (3, .p (.int .i64 (Int.ofNat i))), (4, .p (.int .i64 (Int.ofNat s)))])
          (fun s => []) (fun s => s ≤ N ∧ ∀ j, j < s → ¬ EL j) (fun s => N - s) 0 ?_ ?_)
        · exact ⟨(by repeat (first | exact trivial | refine And.intro rfl ?_)), rfl, Nat.zero_le _, fun j h => absurd h (Nat.not_lt_zero j)⟩
        rintro k ⟨m1, m2⟩ rd2 hrd2
        by_cases hk : k < N
        · refine Exists.elim (hkx k hk) fun x hx => ?_
          have hzk := hx.1
          have hel := hx.2
          clear hx
          obtain ⟨xg, xb, xe, xr, xo, xw, xseen, xch⟩ := x
          simp only at hzk hel
          refine Exists.elim (show ∃ xs, xs = snP xseen from ⟨_, rfl⟩) fun xs hxs => ?_
          refine Exists.elim (show ∃ xc, xc = cP xch from ⟨_, rfl⟩) fun xc hxc => ?_
          rw [← hxs, ← hxc] at hzk
          have hn : ¬ (xo = 1 ∧ 0 ≤ xe ∧ xe < db ∧ dr < xw) → ∀ j, j < k + 1 → ¬ EL j := fun h => not_next m2 fun c => h (hel.1 c)
          have hy : (xo = 1 ∧ 0 ≤ xe ∧ xe < db ∧ dr < xw) → obad ds i := fun h => hyes hS0 k hk (hel.2 h)
          clear hel hxs hxc
          intro add2 sub2 mul2 quo2 rem2 band2 bor2 bxor2 bclr2 shl2 shr2 ieq2 ilt2 ile2 seq2 slt2 beq2 bnot2 orb2 bcond2 iwrap2 iof2 ssz2 hA2 cat2 sq2 sl2 imin2 imax2 smin2 smax2 len2 slen2 u82 hL2 op2 hop2 call2 hcall2 code2 hcode2
          have e2 : len2 ys = Int.ofNat N := by rw [hL2.len, hyl]; rfl
          have hadd2 : add2 .i64 (Int.ofNat k) 1 = Int.ofNat (k + 1) := by rw [hA2.add, IntWalk.i64_in _ (by simp only [Int.ofNat_eq_natCast]; omega)]; rfl
          cbv
          refine vcIf.yes (by first | (simp [hA2.not, hA2.eq, hA2.lt, hA2.le, hA2.cond, hA2.beq, hA2.orb, hL2.len, hL2.slen, hL2.sq, e2, hk]; done) | (simp only [e2, hk]; simp [hA2.not, hA2.eq, hA2.lt, hA2.le, hA2.cond, hA2.beq, hA2.orb, hL2.len, hL2.slen, hL2.sq, e2, hk]; done) | (simp [hA2.not, hA2.eq, hA2.lt, hA2.le, hA2.cond, hA2.beq, hA2.orb, hL2.len, hL2.slen, hL2.sq, e2, hk]; omega) | (simp only [e2, hk]; simp [hA2.not, hA2.eq, hA2.lt, hA2.le, hA2.cond, hA2.beq, hA2.orb, hL2.len, hL2.slen, hL2.sq, e2, hk]; omega)) ?_
          cbv
          refine ⟨k, _, rfl, hzk, rfl, ?_⟩
          cbv
          refine hcode2 _ _ _ (CodeEv.drawT eOk fOk (by kernel_rfl) noX (.so 0 (.so 1 (.so 2 (.so 3 (.so 4 (.so 5 (.so 6 (.so 7 (.so 8 (.rd 9 (.rd 10 (.rd 11 (.so 12 (.so 13 (.so 14 (.so 15 (.so 16 (.so 17 (.so 18 (.rd 19 (.rd 20 (.rd 21 (.rd 22 (.rd 23 (.so 24 (.so 25 (.so 26 (.so 27 (.done))))))))))))))))))))))))))))) (by kernel_rfl) (by kernel_rfl) ?_)
          intro add3 sub3 mul3 quo3 rem3 band3 bor3 bxor3 bclr3 shl3 shr3 ieq3 ilt3 ile3 seq3 slt3 beq3 bnot3 orb3 bcond3 iwrap3 iof3 ssz3 hA3 cat3 sq3 sl3 imin3 imax3 smin3 smax3 len3 slen3 u83 hL3 op3 hop3 call3 hcall3 code3 hcode3 q3 hq3
          cbv
          by_cases h1 : xo = 1
          · refine vcIf.yes (by first | (simp [hA3.not, hA3.eq, hA3.lt, hA3.le, hA3.cond, hA3.beq, hA3.orb, hL3.len, hL3.slen, hL3.sq, h1]; done) | (simp only [h1]; simp [hA3.not, hA3.eq, hA3.lt, hA3.le, hA3.cond, hA3.beq, hA3.orb, hL3.len, hL3.slen, hL3.sq, h1]; done) | (simp [hA3.not, hA3.eq, hA3.lt, hA3.le, hA3.cond, hA3.beq, hA3.orb, hL3.len, hL3.slen, hL3.sq, h1]; omega) | (simp only [h1]; simp [hA3.not, hA3.eq, hA3.lt, hA3.le, hA3.cond, hA3.beq, hA3.orb, hL3.len, hL3.slen, hL3.sq, h1]; omega)) ?_
            cbv
            by_cases h2 : 0 ≤ xe
            · refine vcIf.yes (by simp [hA3.cond, cond, hA3.le, h2]) ?_
              cbv
              refine ⟨i, _, rfl, hzi, rfl, ?_⟩
              cbv
              by_cases h3 : xe < db
              · refine vcIf.yes (by simp [hA3.cond, cond, hA3.lt, h3]) ?_
                cbv
                refine ⟨i, _, rfl, hzi, rfl, ?_⟩
                cbv
                refine hq3 _ ?_
                cbv
                by_cases h4 : dr < xw
                · have hfst := isFst.at hi (hy ⟨h1, h2, h3, h4⟩) k2
                  refine vcIf.yes (by simp [hA3.cond, cond, hA3.lt, h4]) ?_
                  cbv
                  exact hret _ (RetEv.ret eOk rfl ⟨_, hfst, rfl⟩)
                · have hnx := hn fun c => h4 c.2.2.2
                  refine vcIf.no (by simp [hA3.cond, cond, hA3.lt]; omega) ?_
                  cbv
                  refine hrd2 _ ⟨k + 1, _, ?_, ⟨hk, hnx⟩, rfl, ⟨rfl, rfl, ?_, trivial⟩, rfl, rfl, rfl, ?_⟩
                  · show N - (k + 1) < N - k
                    omega
                  · show some (V.p (.int .i64 _)) = _
                    rw [hadd2]
                  · rw [hB]; exact Nat.zero_le _
              · have hnx := hn fun c => h3 c.2.2.1
                refine vcIf.no (by simp [hA3.cond, cond, hA3.lt]; omega) ?_
                cbv
                refine hq3 _ ?_
                cbv
                refine hrd2 _ ⟨k + 1, _, ?_, ⟨hk, hnx⟩, rfl, ⟨rfl, rfl, ?_, trivial⟩, rfl, rfl, rfl, ?_⟩
                · show N - (k + 1) < N - k
                  omega
                · show some (V.p (.int .i64 _)) = _
                  rw [hadd2]
                · rw [hB]; exact Nat.zero_le _
            · have hnx := hn fun c => h2 c.2.1
              refine vcIf.no (by simp [hA3.cond, cond, hA3.le]; omega) ?_
              cbv
              refine hq3 _ ?_
              cbv
              refine hrd2 _ ⟨k + 1, _, ?_, ⟨hk, hnx⟩, rfl, ⟨rfl, rfl, ?_, trivial⟩, rfl, rfl, rfl, ?_⟩
              · show N - (k + 1) < N - k
                omega
              · show some (V.p (.int .i64 _)) = _
                rw [hadd2]
              · rw [hB]; exact Nat.zero_le _
          · have hnx := hn fun c => h1 c.1
            refine vcIf.no (by first | (simp [hA3.not, hA3.eq, hA3.lt, hA3.le, hA3.cond, hA3.beq, hA3.orb, hL3.len, hL3.slen, hL3.sq, h1]; done) | (simp only [h1]; simp [hA3.not, hA3.eq, hA3.lt, hA3.le, hA3.cond, hA3.beq, hA3.orb, hL3.len, hL3.slen, hL3.sq, h1]; done) | (simp [hA3.not, hA3.eq, hA3.lt, hA3.le, hA3.cond, hA3.beq, hA3.orb, hL3.len, hL3.slen, hL3.sq, h1]; omega) | (simp only [h1]; simp [hA3.not, hA3.eq, hA3.lt, hA3.le, hA3.cond, hA3.beq, hA3.orb, hL3.len, hL3.slen, hL3.sq, h1]; omega)) ?_
            cbv
            refine hq3 _ ?_
            cbv
            refine hrd2 _ ⟨k + 1, _, ?_, ⟨hk, hnx⟩, rfl, ⟨rfl, rfl, ?_, trivial⟩, rfl, rfl, rfl, ?_⟩
            · show N - (k + 1) < N - k
              omega
            · show some (V.p (.int .i64 _)) = _
              rw [hadd2]
            · rw [hB]; exact Nat.zero_le _
        · have hnx := not_next k2 (hno2 fun j hj => m2 j (by omega))
          intro add2 sub2 mul2 quo2 rem2 band2 bor2 bxor2 bclr2 shl2 shr2 ieq2 ilt2 ile2 seq2 slt2 beq2 bnot2 orb2 bcond2 iwrap2 iof2 ssz2 hA2 cat2 sq2 sl2 imin2 imax2 smin2 smax2 len2 slen2 u82 hL2 op2 hop2 call2 hcall2 code2 hcode2
          have e2 : len2 ys = Int.ofNat N := by rw [hL2.len, hyl]; rfl
          cbv
          refine vcIf.no (by first | (simp [hA2.not, hA2.eq, hA2.lt, hA2.le, hA2.cond, hA2.beq, hA2.orb, hL2.len, hL2.slen, hL2.sq, e2, hk]; done) | (simp only [e2, hk]; simp [hA2.not, hA2.eq, hA2.lt, hA2.le, hA2.cond, hA2.beq, hA2.orb, hL2.len, hL2.slen, hL2.sq, e2, hk]; done) | (simp [hA2.not, hA2.eq, hA2.lt, hA2.le, hA2.cond, hA2.beq, hA2.orb, hL2.len, hL2.slen, hL2.sq, e2, hk]; omega) | (simp only [e2, hk]; simp [hA2.not, hA2.eq, hA2.lt, hA2.le, hA2.cond, hA2.beq, hA2.orb, hL2.len, hL2.slen, hL2.sq, e2, hk]; omega)) ?_
          cbv
          refine hrd _ ⟨i + 1, _, ?_, ⟨hi, hnx⟩, rfl, ⟨rfl, ?_, trivial⟩, rfl, rfl, rfl, ?_⟩
          · show N - (i + 1) < N - i
            omega
          · show some (V.p (.int .i64 _)) = _
            rw [hadd1]
          · rw [hB]; exact Nat.zero_le _
  · have hfst : isFst (obad ds) N (-1) := isFst.none fun j hj => k2 j (by omega)
    intro add1 sub1 mul1 quo1 rem1 band1 bor1 bxor1 bclr1 shl1 shr1 ieq1 ilt1 ile1 seq1 slt1 beq1 bnot1 orb1 bcond1 iwrap1 iof1 ssz1 hA1 cat1 sq1 sl1 imin1 imax1 smin1 smax1 len1 slen1 u81 hL1 op1 hop1 call1 hcall1 code1 hcode1
    have e0 : len1 ys = Int.ofNat N := by rw [hL1.len, hyl]; rfl
    cbv
    refine vcIf.no (by first | (simp [hA1.not, hA1.eq, hA1.lt, hA1.le, hA1.cond, hA1.beq, hA1.orb, hL1.len, hL1.slen, hL1.sq, e0, hi]; done) | (simp only [e0, hi]; simp [hA1.not, hA1.eq, hA1.lt, hA1.le, hA1.cond, hA1.beq, hA1.orb, hL1.len, hL1.slen, hL1.sq, e0, hi]; done) | (simp [hA1.not, hA1.eq, hA1.lt, hA1.le, hA1.cond, hA1.beq, hA1.orb, hL1.len, hL1.slen, hL1.sq, e0, hi]; omega) | (simp only [e0, hi]; simp [hA1.not, hA1.eq, hA1.lt, hA1.le, hA1.cond, hA1.beq, hA1.orb, hL1.len, hL1.slen, hL1.sq, e0, hi]; omega)) ?_
    cbv
    exact hret _ (RetEv.ret eOk rfl ⟨-1, hfst, rfl⟩)
end Go.Proofs.Ytdoikpagilmplaa
