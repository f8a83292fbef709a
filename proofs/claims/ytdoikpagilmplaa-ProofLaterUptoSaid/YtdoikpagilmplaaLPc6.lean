/- The document's Clear. Conditions: on sizes. -/
import Derived.Test.YtdoikpagilmplaaLPc5
set_option maxRecDepth 100000
set_option maxHeartbeats 16000000
set_option linter.unusedSimpArgs false
set_option linter.unusedVariables false
namespace Go.Proofs.Ytdoikpagilmplaa
open Go Go.Lx
open Go.Sx (vcIf)

theorem rclear_spec (l : List Bt) (hl : l.length < 281474976710656) (hf : ∀ b ∈ l, b.fit) (hcl : ∀ b ∈ l, b.ch.length < 281474976710656) (ds : List Dd) (hdl : ds.length < 281474976710656) (hdf : ∀ d ∈ ds, d.fit) (zs ys : List PV) (hzs : zs = btP l) (hys : ys = ddP ds) :
    FnL Try.prog 23 [.p (.sl zs), .p (.sl ys)] [] fun v own => ∃ n : Int, isFst (cbad l ds) ds.length n ∧ v = .p (.int .i64 n) ∧ own = [] := by
  refine FnL.flat (R := fun v own => ∃ n : Int, isFst (cbad l ds) ds.length n ∧ v = .p (.int .i64 n)) ?_ (by rintro _ _ ⟨n, h, rfl⟩; exact ⟨_, _, rfl, .refl _, n, h, rfl, rfl⟩)
  obtain ⟨L, hL0⟩ : ∃ L, L = l.length := ⟨_, rfl⟩
  have hzl : zs.length = L := by rw [hzs, btP_length, hL0]
  obtain ⟨N, hN⟩ : ∃ N, N = ds.length := ⟨_, rfl⟩
  have hyl : ys.length = N := by rw [hys, ddP_length, hN]
  rw [← hN] at hdl ⊢
  rw [← hL0] at hl
  refine fn_of_vc eOk fOk fo23 Try.func23 rfl rfl rfl fun B hB => ?_
  intro add sub mul quo rem band bor bxor bclr shl shr ieq ilt ile seq slt beq bnot orb bcond iwrap iof ssz hA cat sq sl imin imax smin smax len slen u8 hL op hop call hcall code hcode ret hret
  cbv
  refine hcode _ _ _ (CodeEv.loop eOk fOk (ι := Nat) (fun s => [(0, .p (.sl zs)), (1, .p (.sl ys)), (5, .p (.int .i64 (Int.ofNat s)))])
    (fun s => []) (fun s => s ≤ N ∧ ∀ j, j < s → ¬ cbad l ds j) (fun s => N - s) 0 ?_ ?_)
  · exact ⟨(by repeat (first | exact trivial | refine And.intro rfl ?_)), rfl, Nat.zero_le _, fun j h => absurd h (Nat.not_lt_zero j)⟩
  rintro i ⟨k1, k2⟩ rd hrd
  by_cases hi : i < N
  · refine Exists.elim (get_of_lt (show i < ds.length by omega)) fun d hd => ?_
    have hdm := List.mem_of_getElem? hd
    have hsl0 := (hdf d hdm).1
    have hrb := cbad_iff (l := l) hd
    have hzi : ys[i]? = some (.agg [.int .i64 d.g, .int .i64 d.b, .int .i64 d.e, .int .i64 d.r, .int .i64 d.o, .int .i64 d.w, .sl (snP d.seen), .sl (cP d.ch)]) := by rw [hys]; exact ddP_get hd
    refine Exists.elim (bool_of (d.o = 1 ∧ 0 < d.ch.length)) fun Dn hDn => ?_
    have hdn := rdone_spec d.g d.b d.e d.r d.o d.w (snP d.seen) (cP d.ch) d.ch.length (cP_length _) Dn hDn
    have hskip : Dn ≠ true → ¬ cbad l ds i := fun h c => h (hDn.2 (hrb.1 c).1)
    refine Exists.elim (show ∃ CB : Nat → Prop, CB = cBt l d from ⟨_, rfl⟩) fun CB hCB => ?_
    have hend : (∀ k, k < L → ¬ CB k) → ¬ cbad l ds i := fun h c => by
      obtain ⟨_, k, hk⟩ := hrb.1 c
      have hk' := hk
      obtain ⟨b, hb, _⟩ := hk'
      exact h k (by rw [hL0]; exact (List.getElem?_eq_some_iff.1 hb).1) (by rw [hCB]; exact hk)
    have hyes : Dn = true → ∀ k, CB k → cbad l ds i := fun h k hk => hrb.2 ⟨hDn.1 h, k, by rw [hCB] at hk; exact hk⟩
    refine Exists.elim (show ∃ S, S = d.seen.length from ⟨_, rfl⟩) fun S hS => ?_
    refine Exists.elim (show ∃ ss, ss = snP d.seen from ⟨_, rfl⟩) fun ss hss => ?_
    refine Exists.elim (show ∃ cs, cs = cP d.ch from ⟨_, rfl⟩) fun cs hcs => ?_
    have hsl : ss.length = S := by rw [hss, snP_length, hS]
    have hkx : ∀ k, k < L → ∃ b : Bt, b ∈ l ∧ zs[k]? = some (.agg [.int .i64 b.prev, .int .i64 b.ver, .int .i64 b.known, .sl (cP b.ch)]) ∧ (CB k ↔ (d.r < b.ver ∧ b.ver < d.w ∧ ∃ n, n < S ∧ cSn d b n)) := fun k hk => by
      obtain ⟨b, hb⟩ := get_of_lt (show k < l.length by omega)
      refine ⟨b, List.mem_of_getElem? hb, by rw [hzs]; exact btP_get hb, ?_⟩
      rw [hCB, cBt_iff hb]
      constructor
      · rintro ⟨h1, h2, n, h3⟩
        have h3' := h3
        obtain ⟨s, h4, _⟩ := h3'
        exact ⟨h1, h2, n, by rw [hS]; exact (List.getElem?_eq_some_iff.1 h4).1, h3⟩
      · rintro ⟨h1, h2, n, _, h3⟩
        exact ⟨h1, h2, n, h3⟩
    have hnx0 : ∀ n, n < S → ∃ s : Sn, ss[n]? = some (.agg [.str s.lo, .str s.hi, .int .i64 s.aft, .sl (prP s.ps)]) ∧ ∀ b : Bt, cSn d b n ↔ touch s.lo s.hi b.ch := fun n hn => by
      obtain ⟨s, hs⟩ := get_of_lt (show n < d.seen.length by omega)
      refine ⟨s, by rw [hss]; exact snP_get hs, fun b => ⟨fun ⟨s', h1, h2⟩ => by rw [hs] at h1; cases h1; exact h2, fun h => ⟨s, hs, h⟩⟩⟩
    refine Exists.elim (show ∃ CS : Bt → Nat → Prop, CS = cSn d from ⟨_, rfl⟩) fun CS hCS => ?_
    rw [← hCS] at hkx hnx0
    rw [← hss, ← hcs] at hzi hdn
    rw [← hS] at hsl0
    clear hrb hDn hdm hd hCB hss hcs hS hCS
    obtain ⟨dg, db, de, dr, do_, dw, dseen, dch⟩ := d
    simp only at hzi hdn hkx
    intro add1 sub1 mul1 quo1 rem1 band1 bor1 bxor1 bclr1 shl1 shr1 ieq1 ilt1 ile1 seq1 slt1 beq1 bnot1 orb1 bcond1 iwrap1 iof1 ssz1 hA1 cat1 sq1 sl1 imin1 imax1 smin1 smax1 len1 slen1 u81 hL1 op1 hop1 call1 hcall1 code1 hcode1
    have hadd1 : add1 .i64 (Int.ofNat i) 1 = Int.ofNat (i + 1) := by rw [hA1.add, IntWalk.i64_in _ (by simp only [Int.ofNat_eq_natCast]; omega)]; rfl
    have e0 : len1 ys = Int.ofNat N := by rw [hL1.len, hyl]; rfl
    cbv
    refine vcIf.yes (by first | (simp [hA1.not, hA1.eq, hA1.lt, hA1.le, hA1.cond, hA1.beq, hA1.orb, hL1.len, hL1.slen, hL1.sq, e0, hi]; done) | (simp only [e0, hi]; simp [hA1.not, hA1.eq, hA1.lt, hA1.le, hA1.cond, hA1.beq, hA1.orb, hL1.len, hL1.slen, hL1.sq, e0, hi]; done) | (simp [hA1.not, hA1.eq, hA1.lt, hA1.le, hA1.cond, hA1.beq, hA1.orb, hL1.len, hL1.slen, hL1.sq, e0, hi]; omega) | (simp only [e0, hi]; simp [hA1.not, hA1.eq, hA1.lt, hA1.le, hA1.cond, hA1.beq, hA1.orb, hL1.len, hL1.slen, hL1.sq, e0, hi]; omega)) ?_
    cbv
    refine hcode1 _ _ _ (CodeEv.loop eOk fOk (ι := Nat) (fun s => [(0, .p (.sl zs)), (1, .p (.sl ys)), (5, .p (.int .i64 (Int.ofNat i))), (6, .p (.int .i64 (Int.ofNat s)))])
      (fun s => []) (fun s => s ≤ L ∧ ∀ j, j < s → ¬ CB j) (fun s => L - s) 0 ?_ ?_)
    · exact ⟨(by repeat (first | exact trivial | refine And.intro rfl ?_)), rfl, Nat.zero_le _, fun j h => absurd h (Nat.not_lt_zero j)⟩
    rintro k ⟨m1, m2⟩ rd2 hrd2
    by_cases hk : k < L
    · by_cases hD : Dn = true
      · have hyes := hyes hD
        refine Exists.elim (hkx k hk) fun b hb => ?_
        have hzk := hb.2.1
        have hcb := hb.2.2
        have hbl := hcl b hb.1
        have hbf := (hf b hb.1).1
        have hn1 : ¬ (dr < b.ver ∧ b.ver < dw) → ∀ j, j < k + 1 → ¬ CB j := fun h => not_next m2 fun c => h ⟨(hcb.1 c).1, (hcb.1 c).2.1⟩
        have hn2 : (∀ n, n < S → ¬ CS b n) → ∀ j, j < k + 1 → ¬ CB j := fun h => not_next m2 fun c => by
          obtain ⟨_, _, n, h1, h2⟩ := hcb.1 c
          exact h n h1 h2
        have hy : dr < b.ver → b.ver < dw → ∀ n, n < S → CS b n → cbad l ds i := fun h1 h2 n h3 h4 => hyes k (hcb.2 ⟨h1, h2, n, h3, h4⟩)
        refine Exists.elim (show ∃ C, C = b.ch.length from ⟨_, rfl⟩) fun C hC => ?_
        refine Exists.elim (show ∃ bs, bs = cP b.ch from ⟨_, rfl⟩) fun bs hbs => ?_
        have hbsl : bs.length = C := by rw [hbs, cP_length, hC]
        have hjx : ∀ j, j < C → ∃ c : Chg, b.ch[j]? = some c ∧ c.fit ∧ bs[j]? = some (.agg [.int .i64 c.kind, .str c.key, .str c.val]) := fun j hj => by
          obtain ⟨c, hc⟩ := get_of_lt (show j < b.ch.length by omega)
          exact ⟨c, hc, hbf c (List.mem_of_getElem? hc), by rw [hbs]; exact cP_get hc⟩
        have hnn : ∀ n, n < S → ∃ s : Sn, ss[n]? = some (.agg [.str s.lo, .str s.hi, .int .i64 s.aft, .sl (prP s.ps)]) ∧ (CS b n ↔ ∃ (j : Nat) (c : Chg), b.ch[j]? = some c ∧ tch s.lo s.hi c = true) := fun n hn => by
          obtain ⟨s, h1, h2⟩ := hnx0 n hn
          exact ⟨s, h1, h2 b⟩
        rw [← hbs] at hzk
        rw [← hC] at hbl
        clear hb hcb hbf hbs
        refine Exists.elim (show ∃ CSb : Nat → Prop, CSb = CS b from ⟨_, rfl⟩) fun CSb hCSb => ?_
        rw [← hCSb] at hn2 hy hnn
        clear hCSb
        obtain ⟨bp, bv, bk, bc⟩ := b
        simp only at hzk hn1 hy hC hjx hnn
        intro add2 sub2 mul2 quo2 rem2 band2 bor2 bxor2 bclr2 shl2 shr2 ieq2 ilt2 ile2 seq2 slt2 beq2 bnot2 orb2 bcond2 iwrap2 iof2 ssz2 hA2 cat2 sq2 sl2 imin2 imax2 smin2 smax2 len2 slen2 u82 hL2 op2 hop2 call2 hcall2 code2 hcode2
        have hadd2 : add2 .i64 (Int.ofNat k) 1 = Int.ofNat (k + 1) := by rw [hA2.add, IntWalk.i64_in _ (by simp only [Int.ofNat_eq_natCast]; omega)]; rfl
        have e2 : len2 zs = Int.ofNat L := by rw [hL2.len, hzl]; rfl
        cbv
        refine vcIf.yes (by first | (simp [hA2.not, hA2.eq, hA2.lt, hA2.le, hA2.cond, hA2.beq, hA2.orb, hL2.len, hL2.slen, hL2.sq, e2, hk]; done) | (simp only [e2, hk]; simp [hA2.not, hA2.eq, hA2.lt, hA2.le, hA2.cond, hA2.beq, hA2.orb, hL2.len, hL2.slen, hL2.sq, e2, hk]; done) | (simp [hA2.not, hA2.eq, hA2.lt, hA2.le, hA2.cond, hA2.beq, hA2.orb, hL2.len, hL2.slen, hL2.sq, e2, hk]; omega) | (simp only [e2, hk]; simp [hA2.not, hA2.eq, hA2.lt, hA2.le, hA2.cond, hA2.beq, hA2.orb, hL2.len, hL2.slen, hL2.sq, e2, hk]; omega)) ?_
        cbv
        refine ⟨i, _, rfl, hzi, rfl, ?_⟩
        cbv
        refine hcall2 _ _ _ _ _ (CallEv.same hdn rfl ?_)
        rintro _ _ ⟨rfl, rfl⟩
        cbv
        refine vcIf.yes (by rw [hA2.cond, hD]; rfl) ?_
        cbv
        refine hcode2 _ _ _ (CodeEv.drawT eOk fOk (by kernel_rfl) noX (.rd 0 (.rd 1 (.rd 2 (.rd 3 (.rd 4 (.rd 5 (.so 6 (.so 7 (.so 8 (.so 9 (.so 10 (.so 11 (.rd 12 (.rd 13 (.rd 14 (.rd 15 (.rd 16 (.rd 17 (.so 18 (.so 19 (.so 20 (.so 21 (.so 22 (.so 23 (.done))))))))))))))))))))))))) (by kernel_rfl) (by kernel_rfl) ?_)
        intro add3 sub3 mul3 quo3 rem3 band3 bor3 bxor3 bclr3 shl3 shr3 ieq3 ilt3 ile3 seq3 slt3 beq3 bnot3 orb3 bcond3 iwrap3 iof3 ssz3 hA3 cat3 sq3 sl3 imin3 imax3 smin3 smax3 len3 slen3 u83 hL3 op3 hop3 call3 hcall3 code3 hcode3 q3 hq3
        cbv
        refine ⟨k, _, rfl, hzk, rfl, ?_⟩
        cbv
        refine ⟨i, _, rfl, hzi, rfl, ?_⟩
        cbv
        by_cases h1 : bv ≤ dr
        · have hnx := hn1 fun c => by have := c.1; omega
          refine vcIf.yes (by first | (simp [hA3.not, hA3.eq, hA3.lt, hA3.le, hA3.cond, hA3.beq, hA3.orb, hL3.len, hL3.slen, hL3.sq, h1]; done) | (simp only [h1]; simp [hA3.not, hA3.eq, hA3.lt, hA3.le, hA3.cond, hA3.beq, hA3.orb, hL3.len, hL3.slen, hL3.sq, h1]; done) | (simp [hA3.not, hA3.eq, hA3.lt, hA3.le, hA3.cond, hA3.beq, hA3.orb, hL3.len, hL3.slen, hL3.sq, h1]; omega) | (simp only [h1]; simp [hA3.not, hA3.eq, hA3.lt, hA3.le, hA3.cond, hA3.beq, hA3.orb, hL3.len, hL3.slen, hL3.sq, h1]; omega)) ?_
          cbv
          refine hq3 _ ?_
          cbv
          refine hrd2 _ ⟨k + 1, _, ?_, ⟨hk, hnx⟩, rfl, ⟨rfl, rfl, rfl, ?_, trivial⟩, rfl, rfl, rfl, ?_⟩
          · show L - (k + 1) < L - k
            omega
          · show some (V.p (.int .i64 _)) = _
            rw [hadd2]
          · rw [hB]; exact Nat.zero_le _
        refine vcIf.no (by first | (simp [hA3.not, hA3.eq, hA3.lt, hA3.le, hA3.cond, hA3.beq, hA3.orb, hL3.len, hL3.slen, hL3.sq, h1]; done) | (simp only [h1]; simp [hA3.not, hA3.eq, hA3.lt, hA3.le, hA3.cond, hA3.beq, hA3.orb, hL3.len, hL3.slen, hL3.sq, h1]; done) | (simp [hA3.not, hA3.eq, hA3.lt, hA3.le, hA3.cond, hA3.beq, hA3.orb, hL3.len, hL3.slen, hL3.sq, h1]; omega) | (simp only [h1]; simp [hA3.not, hA3.eq, hA3.lt, hA3.le, hA3.cond, hA3.beq, hA3.orb, hL3.len, hL3.slen, hL3.sq, h1]; omega)) ?_
        cbv
        refine ⟨k, _, rfl, hzk, rfl, ?_⟩
        cbv
        refine ⟨i, _, rfl, hzi, rfl, ?_⟩
        cbv
        refine hq3 _ ?_
        cbv
        by_cases h2 : dw ≤ bv
        · have hnx := hn1 fun c => by have := c.2; omega
          refine vcIf.yes (by simp [hA3.cond, cond, hA3.le, h2]) ?_
          cbv
          refine hrd2 _ ⟨k + 1, _, ?_, ⟨hk, hnx⟩, rfl, ⟨rfl, rfl, rfl, ?_, trivial⟩, rfl, rfl, rfl, ?_⟩
          · show L - (k + 1) < L - k
            omega
          · show some (V.p (.int .i64 _)) = _
            rw [hadd2]
          · rw [hB]; exact Nat.zero_le _
        have hy := hy (by omega) (by omega)
        refine vcIf.no (by simp [hA3.cond, cond, hA3.le]; omega) ?_
        cbv
        refine hcode2 _ _ _ (CodeEv.loop eOk fOk (ι := Nat) (fun s => [(0, .p (.sl zs)), (1, .p (.sl ys)), (5, .p (.int .i64 (Int.ofNat i))), (6, .p (.int .i64 (Int.ofNat k))), (7, .p (.int .i64 (Int.ofNat s)))])
          (fun s => []) (fun s => s ≤ S ∧ ∀ j, j < s → ¬ CSb j) (fun s => S - s) 0 ?_ ?_)
        · exact ⟨(by repeat (first | exact trivial | refine And.intro rfl ?_)), rfl, Nat.zero_le _, fun j h => absurd h (Nat.not_lt_zero j)⟩
        rintro n ⟨p1, p2⟩ rd4 hrd4
        by_cases hn : n < S
        · refine Exists.elim (hnn n hn) fun s hs => ?_
          have hzn := hs.1
          have hcs2 := hs.2
          clear hs
          obtain ⟨lo, hi_, aft, sps⟩ := s
          simp only at hzn hcs2
          refine Exists.elim (show ∃ qs, qs = prP sps from ⟨_, rfl⟩) fun qs hqs => ?_
          rw [← hqs] at hzn
          clear hqs
          have hfnd : ∀ (j : Nat) (c : Chg), bc[j]? = some c → tch lo hi_ c = true → cbad l ds i := fun j c h1 h2 => hy n hn (hcs2.2 ⟨j, c, h1, h2⟩)
          have hnone : (∀ j, j < C → ∀ c, bc[j]? = some c → tch lo hi_ c = false) → ∀ j, j < n + 1 → ¬ CSb j := fun h => not_next p2 fun c => by
            obtain ⟨j, c, h1, h2⟩ := hcs2.1 c
            rw [h j (by rw [hC]; exact (List.getElem?_eq_some_iff.1 h1).1) c h1] at h2; cases h2
          intro add4 sub4 mul4 quo4 rem4 band4 bor4 bxor4 bclr4 shl4 shr4 ieq4 ilt4 ile4 seq4 slt4 beq4 bnot4 orb4 bcond4 iwrap4 iof4 ssz4 hA4 cat4 sq4 sl4 imin4 imax4 smin4 smax4 len4 slen4 u84 hL4 op4 hop4 call4 hcall4 code4 hcode4
          have hadd4 : add4 .i64 (Int.ofNat n) 1 = Int.ofNat (n + 1) := by rw [hA4.add, IntWalk.i64_in _ (by simp only [Int.ofNat_eq_natCast]; omega)]; rfl
          have e4 : len4 ss = Int.ofNat S := by rw [hL4.len, hsl]; rfl
          cbv
          refine ⟨i, _, rfl, hzi, rfl, ?_⟩
          cbv
          refine vcIf.yes (by first | (simp [hA4.not, hA4.eq, hA4.lt, hA4.le, hA4.cond, hA4.beq, hA4.orb, hL4.len, hL4.slen, hL4.sq, e4, hn]; done) | (simp only [e4, hn]; simp [hA4.not, hA4.eq, hA4.lt, hA4.le, hA4.cond, hA4.beq, hA4.orb, hL4.len, hL4.slen, hL4.sq, e4, hn]; done) | (simp [hA4.not, hA4.eq, hA4.lt, hA4.le, hA4.cond, hA4.beq, hA4.orb, hL4.len, hL4.slen, hL4.sq, e4, hn]; omega) | (simp only [e4, hn]; simp [hA4.not, hA4.eq, hA4.lt, hA4.le, hA4.cond, hA4.beq, hA4.orb, hL4.len, hL4.slen, hL4.sq, e4, hn]; omega)) ?_
          cbv
          refine hcode4 _ _ _ (CodeEv.loop eOk fOk (ι := Nat) (fun s => [(0, .p (.sl zs)), (1, .p (.sl ys)), (5, .p (.int .i64 (Int.ofNat i))), (6, .p (.int .i64 (Int.ofNat k))), (7, .p (.int .i64 (Int.ofNat n))), (8, .p (.int .i64 (Int.ofNat s)))])
            (fun s => []) (fun s => s ≤ C ∧ ∀ j, j < s → ∀ c, bc[j]? = some c → tch lo hi_ c = false) (fun s => C - s) 0 ?_ ?_)
          · exact ⟨(by repeat (first | exact trivial | refine And.intro rfl ?_)), rfl, Nat.zero_le _, fun j h => absurd h (Nat.not_lt_zero j)⟩
          rintro j ⟨r1, r2⟩ rd5 hrd5
          by_cases hj : j < C
          · refine Exists.elim (hjx j hj) fun c hc => ?_
            have hzj := hc.2.2
            have hsp := rSpan_spec c.kind c.key c.val hc.2.1.1
            have hfnd := hfnd j c hc.1
            have hnx5 : tch lo hi_ c = false → ∀ q, q < j + 1 → ∀ x, bc[q]? = some x → tch lo hi_ x = false := fun h q hq x hx => by
              rcases Nat.lt_succ_iff_lt_or_eq.1 hq with e | e
              · exact r2 q e x hx
              · subst e; rw [hc.1] at hx; cases hx; exact h
            clear hc
            obtain ⟨ck, cy, cv⟩ := c
            simp only at hzj hsp
            refine Exists.elim (show ∃ sp, sp = spn ⟨ck, cy, cv⟩ from ⟨_, rfl⟩) fun sp hsp1 => ?_
            refine Exists.elim (show ∃ m, m = mt ⟨lo, hi_⟩ sp from ⟨_, rfl⟩) fun m hm1 => ?_
            have hmt := rmeet_spec lo hi_ sp.lo sp.hi
            have htc : tch lo hi_ ⟨ck, cy, cv⟩ = Op.bytesLess m.lo m.hi := by unfold tch; rw [← hsp1, ← hm1]
            rw [htc] at hfnd hnx5
            rw [← hsp1] at hsp
            rw [show (⟨sp.lo, sp.hi⟩ : Spn) = sp from rfl, ← hm1] at hmt
            clear hsp1 hm1 htc
            obtain ⟨pl, ph⟩ := sp
            obtain ⟨ml, mh⟩ := m
            simp only at hsp hmt hfnd hnx5
            intro add5 sub5 mul5 quo5 rem5 band5 bor5 bxor5 bclr5 shl5 shr5 ieq5 ilt5 ile5 seq5 slt5 beq5 bnot5 orb5 bcond5 iwrap5 iof5 ssz5 hA5 cat5 sq5 sl5 imin5 imax5 smin5 smax5 len5 slen5 u85 hL5 op5 hop5 call5 hcall5 code5 hcode5
            have hadd5 : add5 .i64 (Int.ofNat j) 1 = Int.ofNat (j + 1) := by rw [hA5.add, IntWalk.i64_in _ (by simp only [Int.ofNat_eq_natCast]; omega)]; rfl
            have e5 : len5 bs = Int.ofNat C := by rw [hL5.len, hbsl]; rfl
            cbv
            refine ⟨k, _, rfl, hzk, rfl, ?_⟩
            cbv
            refine vcIf.yes (by first | (simp [hA5.not, hA5.eq, hA5.lt, hA5.le, hA5.cond, hA5.beq, hA5.orb, hL5.len, hL5.slen, hL5.sq, e5, hj]; done) | (simp only [e5, hj]; simp [hA5.not, hA5.eq, hA5.lt, hA5.le, hA5.cond, hA5.beq, hA5.orb, hL5.len, hL5.slen, hL5.sq, e5, hj]; done) | (simp [hA5.not, hA5.eq, hA5.lt, hA5.le, hA5.cond, hA5.beq, hA5.orb, hL5.len, hL5.slen, hL5.sq, e5, hj]; omega) | (simp only [e5, hj]; simp [hA5.not, hA5.eq, hA5.lt, hA5.le, hA5.cond, hA5.beq, hA5.orb, hL5.len, hL5.slen, hL5.sq, e5, hj]; omega)) ?_
            cbv
            refine hcode5 _ _ _ (CodeEv.drawT eOk fOk (by kernel_rfl) (Xof 0 []) (.rd 0 (.rd 1 (.rd 2 (.rd 3 (.rd 4 (.rd 5 (.rd 6 (.rd 7 (.rd 8 (.rd 9 (.rd 10 (.rd 11 (.rd 12 (.rd 13 (.rd 14 (.rd 15 (.rd 16 (.acts (.cons 17 (.acts (.cons 18 (.acts (.cons 19 (.acts (.cons 20 (.done) (.nil))) (.nil))) (.cons 19 (.acts (.cons 18 (.acts (.cons 20 (.done) (.nil))) (.nil))) (.nil)))) (.cons 19 (.acts (.cons 17 (.acts (.cons 18 (.acts (.cons 20 (.done) (.nil))) (.nil))) (.nil))) (.nil))))))))))))))))))))) (by kernel_rfl) (by kernel_rfl) ?_)
            intro add6 sub6 mul6 quo6 rem6 band6 bor6 bxor6 bclr6 shl6 shr6 ieq6 ilt6 ile6 seq6 slt6 beq6 bnot6 orb6 bcond6 iwrap6 iof6 ssz6 hA6 cat6 sq6 sl6 imin6 imax6 smin6 smax6 len6 slen6 u86 hL6 op6 hop6 call6 hcall6 code6 hcode6 q6 hq6
            cbv
            refine ⟨i, _, rfl, hzi, rfl, ?_⟩
            cbv
            refine ⟨n, _, rfl, hzn, rfl, ?_⟩
            cbv
            refine ⟨k, _, rfl, hzk, rfl, ?_⟩
            cbv
            refine ⟨j, _, rfl, hzj, rfl, ?_⟩
            cbv
            refine ⟨?_, ?_⟩
            · refine hcall6 _ _ _ _ _ (CallEv.same hsp rfl ?_)
              rintro _ _ ⟨_, rfl, rfl, rfl⟩
              cbv
              refine ⟨?_, ?_⟩
              · refine hcall6 _ _ _ _ _ (CallEv.same hmt rfl ?_)
                rintro _ _ ⟨_, rfl, rfl, rfl⟩
                cbv
                refine hq6 _ ?_
                cbv
                by_cases hb : Op.bytesLess ml mh = true
                · have hfst := isFst.at hi (hfnd hb) k2
                  refine vcIf.yes (by rw [hL5.sl]; exact hb) ?_
                  cbv
                  exact hret _ (RetEv.ret eOk rfl ⟨_, hfst, rfl⟩)
                · have hnx := hnx5 (Bool.eq_false_iff.2 hb)
                  refine vcIf.no (by rw [hL5.sl]; exact Bool.eq_false_iff.2 hb) ?_
                  cbv
                  refine hrd5 _ ⟨j + 1, _, ?_, ⟨hj, hnx⟩, rfl, ⟨rfl, rfl, rfl, rfl, rfl, ?_, trivial⟩, rfl, rfl, rfl, ?_⟩
                  · show C - (j + 1) < C - j
                    omega
                  · show some (V.p (.int .i64 _)) = _
                    rw [hadd5]
                  · rw [hB]; exact Nat.zero_le _
              · refine hcall6 _ _ _ _ _ (CallEv.same hmt rfl ?_)
                rintro _ _ ⟨_, rfl, rfl, rfl⟩
                cbv
                refine hq6 _ ?_
                cbv
                by_cases hb : Op.bytesLess ml mh = true
                · have hfst := isFst.at hi (hfnd hb) k2
                  refine vcIf.yes (by rw [hL5.sl]; exact hb) ?_
                  cbv
                  exact hret _ (RetEv.ret eOk rfl ⟨_, hfst, rfl⟩)
                · have hnx := hnx5 (Bool.eq_false_iff.2 hb)
                  refine vcIf.no (by rw [hL5.sl]; exact Bool.eq_false_iff.2 hb) ?_
                  cbv
                  refine hrd5 _ ⟨j + 1, _, ?_, ⟨hj, hnx⟩, rfl, ⟨rfl, rfl, rfl, rfl, rfl, ?_, trivial⟩, rfl, rfl, rfl, ?_⟩
                  · show C - (j + 1) < C - j
                    omega
                  · show some (V.p (.int .i64 _)) = _
                    rw [hadd5]
                  · rw [hB]; exact Nat.zero_le _
            · refine hcall6 _ _ _ _ _ (CallEv.same hsp rfl ?_)
              rintro _ _ ⟨_, rfl, rfl, rfl⟩
              cbv
              refine hcall6 _ _ _ _ _ (CallEv.same hmt rfl ?_)
              rintro _ _ ⟨_, rfl, rfl, rfl⟩
              cbv
              refine hq6 _ ?_
              cbv
              by_cases hb : Op.bytesLess ml mh = true
              · have hfst := isFst.at hi (hfnd hb) k2
                refine vcIf.yes (by rw [hL5.sl]; exact hb) ?_
                cbv
                exact hret _ (RetEv.ret eOk rfl ⟨_, hfst, rfl⟩)
              · have hnx := hnx5 (Bool.eq_false_iff.2 hb)
                refine vcIf.no (by rw [hL5.sl]; exact Bool.eq_false_iff.2 hb) ?_
                cbv
                refine hrd5 _ ⟨j + 1, _, ?_, ⟨hj, hnx⟩, rfl, ⟨rfl, rfl, rfl, rfl, rfl, ?_, trivial⟩, rfl, rfl, rfl, ?_⟩
                · show C - (j + 1) < C - j
                  omega
                · show some (V.p (.int .i64 _)) = _
                  rw [hadd5]
                · rw [hB]; exact Nat.zero_le _
          · have hnx := hnone fun q hq => r2 q (by omega)
            intro add5 sub5 mul5 quo5 rem5 band5 bor5 bxor5 bclr5 shl5 shr5 ieq5 ilt5 ile5 seq5 slt5 beq5 bnot5 orb5 bcond5 iwrap5 iof5 ssz5 hA5 cat5 sq5 sl5 imin5 imax5 smin5 smax5 len5 slen5 u85 hL5 op5 hop5 call5 hcall5 code5 hcode5
            have e5 : len5 bs = Int.ofNat C := by rw [hL5.len, hbsl]; rfl
            cbv
            refine ⟨k, _, rfl, hzk, rfl, ?_⟩
            cbv
            refine vcIf.no (by first | (simp [hA5.not, hA5.eq, hA5.lt, hA5.le, hA5.cond, hA5.beq, hA5.orb, hL5.len, hL5.slen, hL5.sq, e5, hj]; done) | (simp only [e5, hj]; simp [hA5.not, hA5.eq, hA5.lt, hA5.le, hA5.cond, hA5.beq, hA5.orb, hL5.len, hL5.slen, hL5.sq, e5, hj]; done) | (simp [hA5.not, hA5.eq, hA5.lt, hA5.le, hA5.cond, hA5.beq, hA5.orb, hL5.len, hL5.slen, hL5.sq, e5, hj]; omega) | (simp only [e5, hj]; simp [hA5.not, hA5.eq, hA5.lt, hA5.le, hA5.cond, hA5.beq, hA5.orb, hL5.len, hL5.slen, hL5.sq, e5, hj]; omega)) ?_
            cbv
            refine hrd4 _ ⟨n + 1, _, ?_, ⟨hn, hnx⟩, rfl, ⟨rfl, rfl, rfl, rfl, ?_, trivial⟩, rfl, rfl, rfl, ?_⟩
            · show S - (n + 1) < S - n
              omega
            · show some (V.p (.int .i64 _)) = _
              rw [hadd4]
            · rw [hB]; exact Nat.zero_le _
        · have hnx := hn2 fun q hq => p2 q (by omega)
          intro add4 sub4 mul4 quo4 rem4 band4 bor4 bxor4 bclr4 shl4 shr4 ieq4 ilt4 ile4 seq4 slt4 beq4 bnot4 orb4 bcond4 iwrap4 iof4 ssz4 hA4 cat4 sq4 sl4 imin4 imax4 smin4 smax4 len4 slen4 u84 hL4 op4 hop4 call4 hcall4 code4 hcode4
          have e4 : len4 ss = Int.ofNat S := by rw [hL4.len, hsl]; rfl
          cbv
          refine ⟨i, _, rfl, hzi, rfl, ?_⟩
          cbv
          refine vcIf.no (by first | (simp [hA4.not, hA4.eq, hA4.lt, hA4.le, hA4.cond, hA4.beq, hA4.orb, hL4.len, hL4.slen, hL4.sq, e4, hn]; done) | (simp only [e4, hn]; simp [hA4.not, hA4.eq, hA4.lt, hA4.le, hA4.cond, hA4.beq, hA4.orb, hL4.len, hL4.slen, hL4.sq, e4, hn]; done) | (simp [hA4.not, hA4.eq, hA4.lt, hA4.le, hA4.cond, hA4.beq, hA4.orb, hL4.len, hL4.slen, hL4.sq, e4, hn]; omega) | (simp only [e4, hn]; simp [hA4.not, hA4.eq, hA4.lt, hA4.le, hA4.cond, hA4.beq, hA4.orb, hL4.len, hL4.slen, hL4.sq, e4, hn]; omega)) ?_
          cbv
          refine hrd2 _ ⟨k + 1, _, ?_, ⟨hk, hnx⟩, rfl, ⟨rfl, rfl, rfl, ?_, trivial⟩, rfl, rfl, rfl, ?_⟩
          · show L - (k + 1) < L - k
            omega
          · show some (V.p (.int .i64 _)) = _
            rw [hadd2]
          · rw [hB]; exact Nat.zero_le _
      · have hnx := not_next k2 (hskip hD)
        intro add2 sub2 mul2 quo2 rem2 band2 bor2 bxor2 bclr2 shl2 shr2 ieq2 ilt2 ile2 seq2 slt2 beq2 bnot2 orb2 bcond2 iwrap2 iof2 ssz2 hA2 cat2 sq2 sl2 imin2 imax2 smin2 smax2 len2 slen2 u82 hL2 op2 hop2 call2 hcall2 code2 hcode2
        have e2 : len2 zs = Int.ofNat L := by rw [hL2.len, hzl]; rfl
        cbv
        refine vcIf.yes (by first | (simp [hA2.not, hA2.eq, hA2.lt, hA2.le, hA2.cond, hA2.beq, hA2.orb, hL2.len, hL2.slen, hL2.sq, e2, hk]; done) | (simp only [e2, hk]; simp [hA2.not, hA2.eq, hA2.lt, hA2.le, hA2.cond, hA2.beq, hA2.orb, hL2.len, hL2.slen, hL2.sq, e2, hk]; done) | (simp [hA2.not, hA2.eq, hA2.lt, hA2.le, hA2.cond, hA2.beq, hA2.orb, hL2.len, hL2.slen, hL2.sq, e2, hk]; omega) | (simp only [e2, hk]; simp [hA2.not, hA2.eq, hA2.lt, hA2.le, hA2.cond, hA2.beq, hA2.orb, hL2.len, hL2.slen, hL2.sq, e2, hk]; omega)) ?_
        cbv
        refine ⟨i, _, rfl, hzi, rfl, ?_⟩
        cbv
        refine hcall2 _ _ _ _ _ (CallEv.same hdn rfl ?_)
        rintro _ _ ⟨rfl, rfl⟩
        cbv
        refine vcIf.no (by rw [hA2.cond, Bool.eq_false_iff.2 hD]; rfl) ?_
        cbv
        refine hrd _ ⟨i + 1, _, ?_, ⟨hi, hnx⟩, rfl, ⟨rfl, rfl, ?_, trivial⟩, rfl, rfl, rfl, ?_⟩
        · show N - (i + 1) < N - i
          omega
        · show some (V.p (.int .i64 _)) = _
          rw [hadd1]
        · rw [hB]; exact Nat.zero_le _
    · have hnx := not_next k2 (hend fun j hj => m2 j (by omega))
      intro add2 sub2 mul2 quo2 rem2 band2 bor2 bxor2 bclr2 shl2 shr2 ieq2 ilt2 ile2 seq2 slt2 beq2 bnot2 orb2 bcond2 iwrap2 iof2 ssz2 hA2 cat2 sq2 sl2 imin2 imax2 smin2 smax2 len2 slen2 u82 hL2 op2 hop2 call2 hcall2 code2 hcode2
      have e2 : len2 zs = Int.ofNat L := by rw [hL2.len, hzl]; rfl
      cbv
      refine vcIf.no (by first | (simp [hA2.not, hA2.eq, hA2.lt, hA2.le, hA2.cond, hA2.beq, hA2.orb, hL2.len, hL2.slen, hL2.sq, e2, hk]; done) | (simp only [e2, hk]; simp [hA2.not, hA2.eq, hA2.lt, hA2.le, hA2.cond, hA2.beq, hA2.orb, hL2.len, hL2.slen, hL2.sq, e2, hk]; done) | (simp [hA2.not, hA2.eq, hA2.lt, hA2.le, hA2.cond, hA2.beq, hA2.orb, hL2.len, hL2.slen, hL2.sq, e2, hk]; omega) | (simp only [e2, hk]; simp [hA2.not, hA2.eq, hA2.lt, hA2.le, hA2.cond, hA2.beq, hA2.orb, hL2.len, hL2.slen, hL2.sq, e2, hk]; omega)) ?_
      cbv
      refine hrd _ ⟨i + 1, _, ?_, ⟨hi, hnx⟩, rfl, ⟨rfl, rfl, ?_, trivial⟩, rfl, rfl, rfl, ?_⟩
      · show N - (i + 1) < N - i
        omega
      · show some (V.p (.int .i64 _)) = _
        rw [hadd1]
      · rw [hB]; exact Nat.zero_le _
  · have hfst : isFst (cbad l ds) N (-1) := isFst.none fun j hj => k2 j (by omega)
    intro add1 sub1 mul1 quo1 rem1 band1 bor1 bxor1 bclr1 shl1 shr1 ieq1 ilt1 ile1 seq1 slt1 beq1 bnot1 orb1 bcond1 iwrap1 iof1 ssz1 hA1 cat1 sq1 sl1 imin1 imax1 smin1 smax1 len1 slen1 u81 hL1 op1 hop1 call1 hcall1 code1 hcode1
    have e0 : len1 ys = Int.ofNat N := by rw [hL1.len, hyl]; rfl
    cbv
    refine vcIf.no (by first | (simp [hA1.not, hA1.eq, hA1.lt, hA1.le, hA1.cond, hA1.beq, hA1.orb, hL1.len, hL1.slen, hL1.sq, e0, hi]; done) | (simp only [e0, hi]; simp [hA1.not, hA1.eq, hA1.lt, hA1.le, hA1.cond, hA1.beq, hA1.orb, hL1.len, hL1.slen, hL1.sq, e0, hi]; done) | (simp [hA1.not, hA1.eq, hA1.lt, hA1.le, hA1.cond, hA1.beq, hA1.orb, hL1.len, hL1.slen, hL1.sq, e0, hi]; omega) | (simp only [e0, hi]; simp [hA1.not, hA1.eq, hA1.lt, hA1.le, hA1.cond, hA1.beq, hA1.orb, hL1.len, hL1.slen, hL1.sq, e0, hi]; omega)) ?_
    cbv
    exact hret _ (RetEv.ret eOk rfl ⟨-1, hfst, rfl⟩)
end Go.Proofs.Ytdoikpagilmplaa
