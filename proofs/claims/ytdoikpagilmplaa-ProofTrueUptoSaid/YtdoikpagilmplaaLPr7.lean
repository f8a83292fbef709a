/- The first deed that read something else. The document's. Conditions: on sizes. -/
import Derived.Test.YtdoikpagilmplaaLPr6
set_option maxRecDepth 100000
set_option maxHeartbeats 16000000
set_option linter.unusedSimpArgs false
set_option linter.unusedVariables false
namespace Go.Proofs.Ytdoikpagilmplaa
open Go Go.Lx
open Go.Sx (vcIf)

theorem rreads_spec (l : List Bt) (hs : lsnd l) (M D : Nat) (hM : ∀ b ∈ l, b.ch.length ≤ M) (hl : l.length < 281474976710656) (hf : ∀ b ∈ l, b.fit) (ds : List Dd) (hD : ∀ d ∈ ds, d.ch.length ≤ D) (hsz : (l.length * M + D + 1) * 32 ≤ 140737488355328) (hdl : ds.length < 281474976710656) (hdf : ∀ d ∈ ds, d.fit) (zs ys : List PV) (hzs : zs = btP l) (hys : ys = ddP ds) :
    FnL Try.prog 17 [.p (.sl zs), .p (.sl ys)] [] fun v own => ∃ n : Int, isFst (rbad l ds) ds.length n ∧ v = .p (.int .i64 n) ∧ own = [] := by
  refine FnL.flat (R := fun v own => ∃ n : Int, isFst (rbad l ds) ds.length n ∧ v = .p (.int .i64 n)) ?_ (by rintro _ _ ⟨n, h, rfl⟩; exact ⟨_, _, rfl, .refl _, n, h, rfl, rfl⟩)
  have hat := fun v => rAt_spec l hs v M hM (bnd3 hsz) hl hf zs hzs
  have hrt := fun (d : Dd) (hd : d ∈ ds) (s : Sn) (hsd : s ∈ d.seen) (ws : List PV) (hws : ws = prP (atP l d.r)) (cs : List PV) (hcs : cs = cP d.ch) => rRight_spec (atP l d.r) (atP_srt l d.r) s ((hdf d hd).2.1 s hsd) d.ch (hdf d hd).2.2.2 (bnd2 (atP_len hM d.r) (hD d hd) hsz) ws cs hws hcs
  obtain ⟨N, hN⟩ : ∃ N, N = ds.length := ⟨_, rfl⟩
  have hyl : ys.length = N := by rw [hys, ddP_length, hN]
  rw [← hN] at hdl ⊢
  clear hsz hD hM
  refine fn_of_vc eOk fOk fo17 Try.func17 rfl rfl rfl fun B hB => ?_
  intro add sub mul quo rem band bor bxor bclr shl shr ieq ilt ile seq slt beq bnot orb bcond iwrap iof ssz hA cat sq sl imin imax smin smax len slen u8 hL op hop call hcall code hcode ret hret
  cbv
  refine hcode _ _ _ (CodeEv.loop eOk fOk (ι := Nat) (fun s => [(0, .p (.sl zs)), (1, .p (.sl ys)), (5, .p (.int .i64 (Int.ofNat s)))])
    (fun s => []) (fun s => s ≤ N ∧ ∀ j, j < s → ¬ rbad l ds j) (fun s => N - s) 0 ?_ ?_)
  · exact ⟨(by repeat (first | exact trivial | refine And.intro rfl ?_)), rfl, Nat.zero_le _, fun j h => absurd h (Nat.not_lt_zero j)⟩
  rintro i ⟨k1, k2⟩ rd hrd
  by_cases hi : i < N
  · refine Exists.elim (get_of_lt (show i < ds.length by omega)) fun d hd => ?_
    have hdm := List.mem_of_getElem? hd
    have hrb := rbad_iff (l := l) hd
    have hat := hat d.r
    have hrt := hrt d hdm
    have hsl0 := (hdf d hdm).1
    have hzi : ys[i]? = some (.agg [.int .i64 d.g, .int .i64 d.b, .int .i64 d.e, .int .i64 d.r, .int .i64 d.o, .int .i64 d.w, .sl (snP d.seen), .sl (cP d.ch)]) := by rw [hys]; exact ddP_get hd
    refine Exists.elim (show ∃ S, S = d.seen.length from ⟨_, rfl⟩) fun S hS => ?_
    refine Exists.elim (show ∃ ss, ss = snP d.seen from ⟨_, rfl⟩) fun ss hss => ?_
    refine Exists.elim (show ∃ cs, cs = cP d.ch from ⟨_, rfl⟩) fun cs hcs => ?_
    have hsl : ss.length = S := by rw [hss, snP_length, hS]
    have hgs : ∀ k, k < S → ∃ s, d.seen[k]? = some s ∧ s ∈ d.seen ∧ ss[k]? = some (.agg [.str s.lo, .str s.hi, .int .i64 s.aft, .sl (prP s.ps)]) := fun k hk => by
      obtain ⟨s, h⟩ := get_of_lt (show k < d.seen.length by omega)
      exact ⟨s, h, List.mem_of_getElem? h, by rw [hss]; exact snP_get h⟩
    rw [← hss, ← hcs] at hzi
    rw [← hS] at hsl0
    refine Exists.elim (show ∃ ps, ps = prP (atP l d.r) from ⟨_, rfl⟩) fun ps hps => ?_
    rw [← hps] at hat
    have hrt := fun s hsd => hrt s hsd ps hps cs hcs
    refine Exists.elim (show ∃ G : Nat → Prop, G = fun k => ∀ s, d.seen[k]? = some s → rgt (atP l d.r) s d.ch from ⟨_, rfl⟩) fun G hG => ?_
    have hall : (∀ k, k < S → G k) → ¬ rbad l ds i := fun h c => hrb.1 c fun k s hk => by
      have := h k (by rw [hS]; exact (List.getElem?_eq_some_iff.1 hk).1)
      rw [hG] at this; exact this s hk
    have hnone : ∀ (k : Nat) (s : Sn), d.seen[k]? = some s → ¬ rgt (atP l d.r) s d.ch → rbad l ds i := fun k s h1 h2 => hrb.2 fun c => h2 (c k s h1)
    have hGk : ∀ (k : Nat) (s : Sn), d.seen[k]? = some s → rgt (atP l d.r) s d.ch → G k := fun k s h1 h2 => by rw [hG]; intro s' h'; rw [h1] at h'; cases h'; exact h2
    clear hG hrb hss hcs hS hd hdm hps
    obtain ⟨dg, db, de, dr, do_, dw, dseen, dch⟩ := d
    simp only at hzi hat hrt hgs hnone hGk
    intro add1 sub1 mul1 quo1 rem1 band1 bor1 bxor1 bclr1 shl1 shr1 ieq1 ilt1 ile1 seq1 slt1 beq1 bnot1 orb1 bcond1 iwrap1 iof1 ssz1 hA1 cat1 sq1 sl1 imin1 imax1 smin1 smax1 len1 slen1 u81 hL1 op1 hop1 call1 hcall1 code1 hcode1
    have hly : len1 ys = Int.ofNat N := by rw [hL1.len, hyl]; rfl
    have hadd1 : add1 .i64 (Int.ofNat i) 1 = Int.ofNat (i + 1) := by rw [hA1.add, IntWalk.i64_in _ (by simp only [Int.ofNat_eq_natCast]; omega)]; rfl
    cbv
    refine vcIf.yes (by first | (simp [hA1.not, hA1.eq, hA1.lt, hA1.le, hA1.cond, hA1.beq, hA1.orb, hL1.len, hL1.slen, hL1.sq, hly, hi]; done) | (simp only [hly, hi]; simp [hA1.not, hA1.eq, hA1.lt, hA1.le, hA1.cond, hA1.beq, hA1.orb, hL1.len, hL1.slen, hL1.sq, hly, hi]; done) | (simp [hA1.not, hA1.eq, hA1.lt, hA1.le, hA1.cond, hA1.beq, hA1.orb, hL1.len, hL1.slen, hL1.sq, hly, hi]; omega) | (simp only [hly, hi]; simp [hA1.not, hA1.eq, hA1.lt, hA1.le, hA1.cond, hA1.beq, hA1.orb, hL1.len, hL1.slen, hL1.sq, hly, hi]; omega)) ?_
    cbv
    refine hcode1 _ _ _ (CodeEv.loop eOk fOk (ι := Nat) (fun s => [(0, .p (.sl zs)), (1, .p (.sl ys)), (5, .p (.int .i64 (Int.ofNat i))), (6, .p (.int .i64 (Int.ofNat s)))])
      (fun s => []) (fun s => s ≤ S ∧ ∀ j, j < s → G j) (fun s => S - s) 0 ?_ ?_)
    · exact ⟨(by repeat (first | exact trivial | refine And.intro rfl ?_)), rfl, Nat.zero_le _, fun j h => absurd h (Nat.not_lt_zero j)⟩
    rintro k ⟨j1, j2⟩ rd2 hrd2
    by_cases hk : k < S
    · refine Exists.elim (hgs k hk) fun s hsk => ?_
      have hzk := hsk.2.2
      have hrt := hrt s hsk.2.1
      have hno := hnone k s hsk.1
      have hyes := hGk k s hsk.1
      refine Exists.elim (show ∃ Q : Prop, Q = rgt (atP l dr) s dch from ⟨_, rfl⟩) fun Q hQ => ?_
      rw [← hQ] at hrt hno hyes
      have hnx : G k → ∀ j, j < k + 1 → G j := fun h j hj => by
        rcases Nat.lt_succ_iff_lt_or_eq.1 hj with c | c
        · exact j2 j c
        · rw [c]; exact h
      clear hsk hQ
      obtain ⟨lo, hi_, aft, sps⟩ := s
      simp only at hzk hrt
      refine Exists.elim (show ∃ qs, qs = prP sps from ⟨_, rfl⟩) fun qs hqs => ?_
      rw [← hqs] at hzk hrt
      intro add2 sub2 mul2 quo2 rem2 band2 bor2 bxor2 bclr2 shl2 shr2 ieq2 ilt2 ile2 seq2 slt2 beq2 bnot2 orb2 bcond2 iwrap2 iof2 ssz2 hA2 cat2 sq2 sl2 imin2 imax2 smin2 smax2 len2 slen2 u82 hL2 op2 hop2 call2 hcall2 code2 hcode2
      have hls : len2 ss = Int.ofNat S := by rw [hL2.len, hsl]; rfl
      have hadd2 : add2 .i64 (Int.ofNat k) 1 = Int.ofNat (k + 1) := by rw [hA2.add, IntWalk.i64_in _ (by simp only [Int.ofNat_eq_natCast]; omega)]; rfl
      cbv
      refine ⟨i, _, rfl, hzi, rfl, ?_⟩
      cbv
      refine vcIf.yes (by first | (simp [hA2.not, hA2.eq, hA2.lt, hA2.le, hA2.cond, hA2.beq, hA2.orb, hL2.len, hL2.slen, hL2.sq, hls, hk]; done) | (simp only [hls, hk]; simp [hA2.not, hA2.eq, hA2.lt, hA2.le, hA2.cond, hA2.beq, hA2.orb, hL2.len, hL2.slen, hL2.sq, hls, hk]; done) | (simp [hA2.not, hA2.eq, hA2.lt, hA2.le, hA2.cond, hA2.beq, hA2.orb, hL2.len, hL2.slen, hL2.sq, hls, hk]; omega) | (simp only [hls, hk]; simp [hA2.not, hA2.eq, hA2.lt, hA2.le, hA2.cond, hA2.beq, hA2.orb, hL2.len, hL2.slen, hL2.sq, hls, hk]; omega)) ?_
      cbv
      refine hcode2 _ _ _ (CodeEv.drawT eOk fOk (by kernel_rfl) noX (.rd 0 (.rd 1 (.rd 2 (.rd 3 (.rd 4 (.rd 5 (.rd 7 (.rd 8 (.rd 9 (.rd 10 (.rd 11 (.rd 12 (.rd 13 (.rd 14 (.rd 15 (.rd 16 (.rd 17 (.rd 18 (.rd 19 (.acts (.cons 6 (.acts (.cons 20 (.so 21 (.done)) (.nil))) (.nil)))))))))))))))))))))) (by kernel_rfl) (by kernel_rfl) ?_)
      intro add3 sub3 mul3 quo3 rem3 band3 bor3 bxor3 bclr3 shl3 shr3 ieq3 ilt3 ile3 seq3 slt3 beq3 bnot3 orb3 bcond3 iwrap3 iof3 ssz3 hA3 cat3 sq3 sl3 imin3 imax3 smin3 smax3 len3 slen3 u83 hL3 op3 hop3 call3 hcall3 code3 hcode3 q3 hq3
      cbv
      refine ⟨i, _, rfl, hzi, rfl, ?_⟩
      cbv
      refine ⟨i, _, rfl, hzi, rfl, ?_⟩
      cbv
      refine ⟨k, _, rfl, hzk, rfl, ?_⟩
      cbv
      refine ⟨i, _, rfl, hzi, rfl, ?_⟩
      cbv
      refine hcall3 _ _ _ _ _ (CallEv.same hat rfl ?_)
      rintro _ _ ⟨rfl, rfl⟩
      cbv
      refine hcall3 _ _ _ _ _ (CallEv.same hrt rfl ?_)
      rintro _ _ ⟨R, hR, rfl, rfl⟩
      cbv
      refine hq3 _ ?_
      cbv
      by_cases hRt : R = true
      · have hnx2 := hnx (hyes (hR.1 hRt))
        refine vcIf.no (by rw [hA3.not, hRt]; rfl) ?_
        cbv
        refine hrd2 _ ⟨k + 1, _, ?_, ⟨hk, hnx2⟩, rfl, ⟨rfl, rfl, rfl, ?_, trivial⟩, rfl, rfl, rfl, ?_⟩
        · show S - (k + 1) < S - k
          omega
        · show some (V.p (.int .i64 _)) = _
          rw [hadd2]
        · rw [hB]; exact Nat.zero_le _
      · have hfst := isFst.at hi (hno fun c => hRt (hR.2 c)) k2
        refine vcIf.yes (by rw [hA3.not, Bool.eq_false_iff.2 hRt]; rfl) ?_
        cbv
        exact hret _ (RetEv.ret eOk rfl ⟨_, hfst, rfl⟩)
    · have hno := hall fun j hj => j2 j (by omega)
      have hnx := not_next k2 hno
      intro add2 sub2 mul2 quo2 rem2 band2 bor2 bxor2 bclr2 shl2 shr2 ieq2 ilt2 ile2 seq2 slt2 beq2 bnot2 orb2 bcond2 iwrap2 iof2 ssz2 hA2 cat2 sq2 sl2 imin2 imax2 smin2 smax2 len2 slen2 u82 hL2 op2 hop2 call2 hcall2 code2 hcode2
      have hls : len2 ss = Int.ofNat S := by rw [hL2.len, hsl]; rfl
      cbv
      refine ⟨i, _, rfl, hzi, rfl, ?_⟩
      cbv
      refine vcIf.no (by first | (simp [hA2.not, hA2.eq, hA2.lt, hA2.le, hA2.cond, hA2.beq, hA2.orb, hL2.len, hL2.slen, hL2.sq, hls, hk]; done) | (simp only [hls, hk]; simp [hA2.not, hA2.eq, hA2.lt, hA2.le, hA2.cond, hA2.beq, hA2.orb, hL2.len, hL2.slen, hL2.sq, hls, hk]; done) | (simp [hA2.not, hA2.eq, hA2.lt, hA2.le, hA2.cond, hA2.beq, hA2.orb, hL2.len, hL2.slen, hL2.sq, hls, hk]; omega) | (simp only [hls, hk]; simp [hA2.not, hA2.eq, hA2.lt, hA2.le, hA2.cond, hA2.beq, hA2.orb, hL2.len, hL2.slen, hL2.sq, hls, hk]; omega)) ?_
      cbv
      refine hrd _ ⟨i + 1, _, ?_, ⟨hi, hnx⟩, rfl, ⟨rfl, rfl, ?_, trivial⟩, rfl, rfl, rfl, ?_⟩
      · show N - (i + 1) < N - i
        omega
      · show some (V.p (.int .i64 _)) = _
        rw [hadd1]
      · rw [hB]; exact Nat.zero_le _
  · have hfst : isFst (rbad l ds) N (-1) := isFst.none fun j hj => k2 j (by omega)
    intro add1 sub1 mul1 quo1 rem1 band1 bor1 bxor1 bclr1 shl1 shr1 ieq1 ilt1 ile1 seq1 slt1 beq1 bnot1 orb1 bcond1 iwrap1 iof1 ssz1 hA1 cat1 sq1 sl1 imin1 imax1 smin1 smax1 len1 slen1 u81 hL1 op1 hop1 call1 hcall1 code1 hcode1
    have hly : len1 ys = Int.ofNat N := by rw [hL1.len, hyl]; rfl
    cbv
    refine vcIf.no (by first | (simp [hA1.not, hA1.eq, hA1.lt, hA1.le, hA1.cond, hA1.beq, hA1.orb, hL1.len, hL1.slen, hL1.sq, hly, hi]; done) | (simp only [hly, hi]; simp [hA1.not, hA1.eq, hA1.lt, hA1.le, hA1.cond, hA1.beq, hA1.orb, hL1.len, hL1.slen, hL1.sq, hly, hi]; done) | (simp [hA1.not, hA1.eq, hA1.lt, hA1.le, hA1.cond, hA1.beq, hA1.orb, hL1.len, hL1.slen, hL1.sq, hly, hi]; omega) | (simp only [hly, hi]; simp [hA1.not, hA1.eq, hA1.lt, hA1.le, hA1.cond, hA1.beq, hA1.orb, hL1.len, hL1.slen, hL1.sq, hly, hi]; omega)) ?_
    cbv
    exact hret _ (RetEv.ret eOk rfl ⟨-1, hfst, rfl⟩)
end Go.Proofs.Ytdoikpagilmplaa
