/- The walk of ShardsReads. Conditions: on sizes. -/
import Derived.Test.YtknhlbohjiphgaaLCv4
set_option maxRecDepth 100000
set_option maxHeartbeats 16000000
set_option linter.unusedSimpArgs false
set_option linter.unusedVariables false
namespace Go.Proofs.Ytknhlbohjiphgaa
open Go Go.Lx
open Go.Sx (vcIf)

theorem any_next {α : Type} (f : α → Bool) {l : List α} {i : Nat} {c : α} (h : l[i]? = some c) : (l.take (i + 1)).any f = ((l.take i).any f || f c) := by
  rw [List.take_add_one, h, List.any_append]; simp
theorem found_next (ow : Bool) (w n f : Nat) (ib : Bool) (s2 : ib = (ow && decide (n = w))) (p2 : f = if ow = true ∧ w < n then 1 else 0) : (if ow = true ∧ w < n + 1 then 1 else 0) = if ib = true then f + 1 else f := by
  subst s2 p2
  cases ow with
  | false => simp
  | true =>
    rcases Nat.lt_trichotomy n w with h | h | h
    · simp [show ¬ w < n + 1 by omega, show ¬ w < n by omega, show ¬ n = w by omega]
    · simp [show w < n + 1 by omega, show ¬ w < n by omega, h]
    · simp [show w < n + 1 by omega, show w < n by omega, show ¬ n = w by omega]
theorem rhasB_spec (lo hi key : List UInt8) : FnL Try.prog 16 [.p (.agg [.str lo, .str hi]), .p (.str key)] [] fun v own => ∃ b, b = hs ⟨lo, hi⟩ key ∧ v = .p (.bool b) ∧ own = [] :=
  (rhas_spec lo hi key).mono fun v own ⟨h1, h2⟩ => ⟨_, rfl, h1, h2⟩

theorem shardsReads (bs : BL) (hn : bs.length < 281474976710656) (hb : ∀ b ∈ bs, b.length < 281474976710656) (t : Tx) (ht : t.fit) (hch : t.ch.length * 40 ≤ 140737488355328) (key : List UInt8) (hkey : key.length < 281474976710656) :
    FnL Try.prog 9 [.p (.sl (sP bs)), .p t.v, .p (.str key)] [] fun z own => z = .p (.bool true) := by
  obtain ⟨zs, hzs⟩ : ∃ x, x = sP bs := ⟨_, rfl⟩
  obtain ⟨xs, hxs⟩ : ∃ x, x = pP t.sp := ⟨_, rfl⟩
  obtain ⟨cs, hcs⟩ : ∃ x, x = cP t.ch := ⟨_, rfl⟩
  have h1 := carve_spec bs hn hb zs hzs t ht hch xs cs hxs hcs
  unfold Tx.v
  rw [← hzs, ← hxs, ← hcs]
  obtain ⟨r, hr⟩ : ∃ x, x = t.r := ⟨_, rfl⟩
  rw [← hr] at h1 ⊢
  obtain ⟨N, hN⟩ : ∃ n, n = bs.length := ⟨_, rfl⟩
  have hzl : zs.length = N := by rw [hzs, sP_length, hN]
  obtain ⟨KL, hKL⟩ : ∃ n, n = key.length := ⟨_, rfl⟩
  obtain ⟨e, he⟩ : ∃ x, x = cvE bs t := ⟨_, rfl⟩
  obtain ⟨rs, hrs⟩ : ∃ x, x = tP (cvR bs t) := ⟨_, rfl⟩
  rw [← hrs, ← he] at h1
  obtain ⟨m, hm⟩ : ∃ x, x = t.sp.length := ⟨_, rfl⟩
  obtain ⟨mc, hmc⟩ : ∃ x, x = t.ch.length := ⟨_, rfl⟩
  have hxl : xs.length = m := by rw [hxs, pP_length, hm]
  have hcl : cs.length = mc := by rw [hcs, cP_length, hmc]
  have hm2 : m < 9223372036854775807 := by rw [hm]; exact ht.2.2.1
  have hmc2 : mc < 9223372036854775807 := by rw [hmc]; exact ht.2.2.2
  obtain ⟨w, hw⟩ : ∃ w, w = wh bs key := ⟨_, rfl⟩
  have hsnd : e = 0 → sndB bs = true := fun h => by
    rw [he] at h; unfold cvE at h; split at h
    · rename_i c; exact c.1
    · cases h
  have hres : e = 0 → cvR bs t = cvL bs t (N + 1) := fun h => by rw [cvR, if_pos (by rw [← he]; exact h), hN]
  have hw1 : w ≤ N := by rw [hw, hN]; exact wh_le bs key
  have hlaw : e = 0 → KL ≤ 16 → ∀ i, i ≤ N → hs (pc bs i) key = decide (i = w) := fun h hk i hi => by
    have := one_law (hsnd h) key (by omega) i (by omega)
    rw [hw]; exact this
  have hN8 : e = 0 → N < 8 := fun h => by rw [hN]; exact (of_decide_eq_true (hsnd h)).1
  refine fn_of_vc eOk fOk fo9 Try.func9 rfl rfl rfl fun B hB => ?_
  intro add sub mul quo rem band bor bxor bclr shl shr ieq ilt ile seq slt beq bnot orb bcond iwrap iof ssz hA cat sq sl imin imax smin smax len slen u8 hL op hop call hcall code hcode ret hret
  have hkl : slen key = Int.ofNat KL := by rw [hL.slen, hKL]; rfl
  cbv
  refine hcall _ _ _ _ _ (CallEv.same h1 rfl ?_)
  rintro _ _ ⟨rfl, rfl⟩
  cbv
  refine hcall _ _ _ _ _ (CallEv.same awake12_spec rfl ?_)
  rintro _ _ ⟨rfl, rfl⟩
  cbv
  repeat (first | (refine vcIf.yes ?_ ?_; (focus (simp [hA.not, hA.eq, hA.lt, hA.le, hA.cond, hA.beq, hA.orb, hL.len, hL.slen, hL.sq]; done)); cbv) | (refine vcIf.no ?_ ?_; (focus (simp [hA.not, hA.eq, hA.lt, hA.le, hA.cond, hA.beq, hA.orb, hL.len, hL.slen, hL.sq]; done)); cbv) | fail)
  by_cases he0 : e = 0
  · have hsnd := hsnd he0
    have hres := hres he0
    have hN8 := hN8 he0
    have hrl : rs.length = N + 1 := by rw [hrs, tP_length, hres, cvL_length]
    refine vcIf.no (by first | (simp [hA.not, hA.eq, hA.lt, hA.le, hA.cond, hA.beq, hA.orb, hL.len, hL.slen, hL.sq, he0]; done) | (simp only [he0]; simp [hA.not, hA.eq, hA.lt, hA.le, hA.cond, hA.beq, hA.orb, hL.len, hL.slen, hL.sq, he0]; done) | (simp [hA.not, hA.eq, hA.lt, hA.le, hA.cond, hA.beq, hA.orb, hL.len, hL.slen, hL.sq, he0]; omega) | (simp only [he0]; simp [hA.not, hA.eq, hA.lt, hA.le, hA.cond, hA.beq, hA.orb, hL.len, hL.slen, hL.sq, he0]; omega)) ?_
    cbv
    by_cases hK16 : 16 < KL
    · refine vcIf.yes (by first | (simp [hA.not, hA.eq, hA.lt, hA.le, hA.cond, hA.beq, hA.orb, hL.len, hL.slen, hL.sq, hkl, hK16]; done) | (simp only [hkl, hK16]; simp [hA.not, hA.eq, hA.lt, hA.le, hA.cond, hA.beq, hA.orb, hL.len, hL.slen, hL.sq, hkl, hK16]; done) | (simp [hA.not, hA.eq, hA.lt, hA.le, hA.cond, hA.beq, hA.orb, hL.len, hL.slen, hL.sq, hkl, hK16]; omega) | (simp only [hkl, hK16]; simp [hA.not, hA.eq, hA.lt, hA.le, hA.cond, hA.beq, hA.orb, hL.len, hL.slen, hL.sq, hkl, hK16]; omega)) ?_
      cbv
      refine hcall _ _ _ _ _ (CallEv.same awake12_spec rfl ?_)
      rintro _ _ ⟨rfl, rfl⟩
      cbv
      exact hret _ (RetEv.ret eOk rfl rfl)
    have hlaw := hlaw he0 (by omega)
    refine vcIf.no (by first | (simp [hA.not, hA.eq, hA.lt, hA.le, hA.cond, hA.beq, hA.orb, hL.len, hL.slen, hL.sq, hkl, hK16]; done) | (simp only [hkl, hK16]; simp [hA.not, hA.eq, hA.lt, hA.le, hA.cond, hA.beq, hA.orb, hL.len, hL.slen, hL.sq, hkl, hK16]; done) | (simp [hA.not, hA.eq, hA.lt, hA.le, hA.cond, hA.beq, hA.orb, hL.len, hL.slen, hL.sq, hkl, hK16]; omega) | (simp only [hkl, hK16]; simp [hA.not, hA.eq, hA.lt, hA.le, hA.cond, hA.beq, hA.orb, hL.len, hL.slen, hL.sq, hkl, hK16]; omega)) ?_
    cbv
    refine hcode _ _ _ (CodeEv.loop eOk fOk (ι := Nat × Bool) (fun q => [(0, .p (.sl zs)), (2, .p (.str key)), (4, .own 0 0), (7, .p (.sl rs)), (9, .p (.bool q.2)), (10, .p (.int .i64 0)), (11, .p (.int .i64 (Int.ofNat q.1)))])
      (fun q => [.st 52 [.p (.int .i64 r), .p (.sl xs), .p (.sl cs)]]) (fun q => q.1 ≤ m ∧ q.2 = (t.sp.take q.1).any (fun s => hs s key)) (fun q => m - q.1) (0, false) ?_ ?_)
    · exact ⟨(by repeat (first | exact trivial | refine And.intro rfl ?_)), rfl, Nat.zero_le _, rfl⟩
    rintro ⟨i, ow⟩ ⟨k1, k2⟩ rd hrd
    simp only at k1 k2
    by_cases hi : i < m
    · refine Exists.elim (get_of_lt (show i < t.sp.length by omega)) fun c hc => ?_
      have hnx := any_next (fun s => hs s key) hc
      obtain ⟨ca, cb⟩ := c
      have hxi : xs[i]? = some (.agg [.str ca, .str cb]) := by rw [hxs]; exact pP_get hc
      have hhas := rhasB_spec ca cb key
      refine Exists.elim (show ∃ b, b = hs ⟨ca, cb⟩ key from ⟨_, rfl⟩) fun b hbe => ?_
      rw [← hbe] at hhas
      rw [← hbe, ← k2] at hnx
      clear hbe
      intro add1 sub1 mul1 quo1 rem1 band1 bor1 bxor1 bclr1 shl1 shr1 ieq1 ilt1 ile1 seq1 slt1 beq1 bnot1 orb1 bcond1 iwrap1 iof1 ssz1 hA1 cat1 sq1 sl1 imin1 imax1 smin1 smax1 len1 slen1 u81 hL1 op1 hop1 call1 hcall1 code1 hcode1
      have e1 : len1 xs = Int.ofNat m := by rw [hL1.len, hxl]; rfl
      have hadd1 : add1 .i64 (Int.ofNat i) 1 = Int.ofNat (i + 1) := by rw [hA1.add, IntWalk.i64_in _ (by simp only [Int.ofNat_eq_natCast]; omega)]; rfl
      cbv
      refine vcIf.yes (by first | (simp [hA1.not, hA1.eq, hA1.lt, hA1.le, hA1.cond, hA1.beq, hA1.orb, hL1.len, hL1.slen, hL1.sq, e1, hi]; done) | (simp only [e1, hi]; simp [hA1.not, hA1.eq, hA1.lt, hA1.le, hA1.cond, hA1.beq, hA1.orb, hL1.len, hL1.slen, hL1.sq, e1, hi]; done) | (simp [hA1.not, hA1.eq, hA1.lt, hA1.le, hA1.cond, hA1.beq, hA1.orb, hL1.len, hL1.slen, hL1.sq, e1, hi]; omega) | (simp only [e1, hi]; simp [hA1.not, hA1.eq, hA1.lt, hA1.le, hA1.cond, hA1.beq, hA1.orb, hL1.len, hL1.slen, hL1.sq, e1, hi]; omega)) ?_
      cbv
      by_cases ho : ow = true
      · rw [ho, Bool.true_or] at hnx
        refine vcIf.yes ho ?_
        cbv
        refine hrd _ ⟨(i + 1, true), _, ?_, ⟨by simp only; omega, hnx.symm⟩, rfl, ⟨rfl, rfl, rfl, rfl, ?_, rfl, ?_, trivial⟩, rfl, rfl, rfl, ?_⟩
        · simp only; omega
        · rfl
        · show some (V.p (.int .i64 _)) = _
          rw [hadd1]
        · rw [hB]; exact Nat.zero_le _
      · have ho := Bool.eq_false_iff.2 ho
        rw [ho, Bool.false_or] at hnx
        refine vcIf.no ho ?_
        cbv
        refine ⟨i, _, rfl, hxi, rfl, ?_⟩
        cbv
        refine hcall1 _ _ _ _ _ (CallEv.same hhas rfl ?_)
        rintro _ _ ⟨b', hb', rfl, rfl⟩
        cbv
        refine hrd _ ⟨(i + 1, b'), _, ?_, ⟨by simp only; omega, by simp only; rw [hnx, hb']⟩, rfl, ⟨rfl, rfl, rfl, rfl, ?_, rfl, ?_, trivial⟩, rfl, rfl, rfl, ?_⟩
        · simp only; omega
        · show some (V.p (.bool _)) = _
          simp [hA1.cond, cond]
        · show some (V.p (.int .i64 _)) = _
          rw [hadd1]
        · rw [hB]; exact Nat.zero_le _
    · rw [List.take_of_length_le (by omega)] at k2
      intro add1 sub1 mul1 quo1 rem1 band1 bor1 bxor1 bclr1 shl1 shr1 ieq1 ilt1 ile1 seq1 slt1 beq1 bnot1 orb1 bcond1 iwrap1 iof1 ssz1 hA1 cat1 sq1 sl1 imin1 imax1 smin1 smax1 len1 slen1 u81 hL1 op1 hop1 call1 hcall1 code1 hcode1
      have e1 : len1 xs = Int.ofNat m := by rw [hL1.len, hxl]; rfl
      cbv
      refine vcIf.no (by first | (simp [hA1.not, hA1.eq, hA1.lt, hA1.le, hA1.cond, hA1.beq, hA1.orb, hL1.len, hL1.slen, hL1.sq, e1, hi]; done) | (simp only [e1, hi]; simp [hA1.not, hA1.eq, hA1.lt, hA1.le, hA1.cond, hA1.beq, hA1.orb, hL1.len, hL1.slen, hL1.sq, e1, hi]; done) | (simp [hA1.not, hA1.eq, hA1.lt, hA1.le, hA1.cond, hA1.beq, hA1.orb, hL1.len, hL1.slen, hL1.sq, e1, hi]; omega) | (simp only [e1, hi]; simp [hA1.not, hA1.eq, hA1.lt, hA1.le, hA1.cond, hA1.beq, hA1.orb, hL1.len, hL1.slen, hL1.sq, e1, hi]; omega)) ?_
      cbv
      refine hcode _ _ _ (CodeEv.loop eOk fOk (ι := Nat × Nat) (fun q => [(0, .p (.sl zs)), (2, .p (.str key)), (4, .own 0 0), (7, .p (.sl rs)), (9, .p (.bool ow)), (10, .p (.int .i64 (Int.ofNat q.2))), (12, .p (.int .i64 (Int.ofNat q.1)))])
        (fun q => [.st 52 [.p (.int .i64 r), .p (.sl xs), .p (.sl cs)]]) (fun q => q.1 ≤ N + 1 ∧ q.2 = (if ow = true ∧ w < q.1 then 1 else 0)) (fun q => N + 1 - q.1) (0, 0) ?_ ?_)
      · exact ⟨(by repeat (first | exact trivial | refine And.intro rfl ?_)), rfl, Nat.zero_le _, by simp only; rw [if_neg (by omega)]⟩
      rintro ⟨n, f⟩ ⟨p1, p2⟩ rd2 hrd2
      simp only at p1 p2
      have hf1 : f ≤ 1 := by rw [p2]; split <;> omega
      by_cases hnN : n < N + 1
      · have hrn : rs[n]? = some (.agg [.int .i64 r, .sl (pP (rdL (pc bs n) t.sp)), .sl (cP (cutL (pc bs n) t.ch))]) := by
          rw [hrs, hres, hr]
          exact tP_get (show (cvL bs t (N + 1))[n]? = some (cvT bs t n) by simp [cvL, hnN])
        have hany := rdL_any (pc bs n) key t.sp
        rw [← k2, hlaw n (by omega)] at hany
        have g1 := rdL_len (pc bs n) t.sp
        have g2 := cutL_len (pc bs n) t.ch
        have hget := fun (j : Nat) (c : Spn) (h : (rdL (pc bs n) t.sp)[j]? = some c) => any_next (fun m => hs m key) h
        have hpget := fun (j : Nat) (c : Spn) (h : (rdL (pc bs n) t.sp)[j]? = some c) => pP_get h
        refine Exists.elim (show ∃ l, l = rdL (pc bs n) t.sp from ⟨_, rfl⟩) fun L hLL => ?_
        rw [← hLL] at hrn hany g1 hget hpget
        refine Exists.elim (show ∃ l, l = pP L from ⟨_, rfl⟩) fun ls hls => ?_
        refine Exists.elim (show ∃ l, l = cP (cutL (pc bs n) t.ch) from ⟨_, rfl⟩) fun us hus => ?_
        rw [← hls, ← hus] at hrn
        rw [← hls] at hpget
        refine Exists.elim (show ∃ l, l = L.length from ⟨_, rfl⟩) fun q hq => ?_
        refine Exists.elim (show ∃ l, l = us.length from ⟨_, rfl⟩) fun q2 hq2 => ?_
        have hlsl : ls.length = q := by rw [hls, pP_length, hq]
        have hq2m : q2 ≤ mc := by rw [hq2, hus, cP_length, hmc]; exact g2
        have hqm : q ≤ m := by rw [hq, hm]; exact g1
        clear g1 g2 hLL hus
        intro add2 sub2 mul2 quo2 rem2 band2 bor2 bxor2 bclr2 shl2 shr2 ieq2 ilt2 ile2 seq2 slt2 beq2 bnot2 orb2 bcond2 iwrap2 iof2 ssz2 hA2 cat2 sq2 sl2 imin2 imax2 smin2 smax2 len2 slen2 u82 hL2 op2 hop2 call2 hcall2 code2 hcode2
        have e2 : len2 rs = Int.ofNat (N + 1) := by rw [hL2.len, hrl]; rfl
        have hadd2 : add2 .i64 (Int.ofNat n) 1 = Int.ofNat (n + 1) := by rw [hA2.add, IntWalk.i64_in _ (by simp only [Int.ofNat_eq_natCast]; omega)]; rfl
        have haddf : add2 .i64 (Int.ofNat f) 1 = Int.ofNat (f + 1) := by rw [hA2.add, IntWalk.i64_in _ (by simp only [Int.ofNat_eq_natCast]; omega)]; rfl
        cbv
        refine vcIf.yes (by first | (simp [hA2.not, hA2.eq, hA2.lt, hA2.le, hA2.cond, hA2.beq, hA2.orb, hL2.len, hL2.slen, hL2.sq, e2, hnN]; done) | (simp only [e2, hnN]; simp [hA2.not, hA2.eq, hA2.lt, hA2.le, hA2.cond, hA2.beq, hA2.orb, hL2.len, hL2.slen, hL2.sq, e2, hnN]; done) | (simp [hA2.not, hA2.eq, hA2.lt, hA2.le, hA2.cond, hA2.beq, hA2.orb, hL2.len, hL2.slen, hL2.sq, e2, hnN]; omega) | (simp only [e2, hnN]; simp [hA2.not, hA2.eq, hA2.lt, hA2.le, hA2.cond, hA2.beq, hA2.orb, hL2.len, hL2.slen, hL2.sq, e2, hnN]; omega)) ?_
        cbv
        refine hcode2 _ _ _ (CodeEv.loop eOk fOk (ι := Nat × Bool) (fun z => [(0, .p (.sl zs)), (2, .p (.str key)), (4, .own 0 0), (7, .p (.sl rs)), (9, .p (.bool ow)), (10, .p (.int .i64 (Int.ofNat f))), (12, .p (.int .i64 (Int.ofNat n))), (13, .p (.bool z.2)), (14, .p (.int .i64 (Int.ofNat z.1)))])
          (fun z => [.st 52 [.p (.int .i64 r), .p (.sl xs), .p (.sl cs)]]) (fun z => z.1 ≤ q ∧ z.2 = (L.take z.1).any (fun m => hs m key)) (fun z => q - z.1) (0, false) ?_ ?_)
        · exact ⟨(by repeat (first | exact trivial | refine And.intro rfl ?_)), rfl, Nat.zero_le _, rfl⟩
        rintro ⟨j, ib⟩ ⟨s1, s2⟩ rd3 hrd3
        simp only at s1 s2
        by_cases hj : j < q
        · refine Exists.elim (get_of_lt (show j < L.length by omega)) fun c hc => ?_
          have hnx := hget j c hc
          have hlj := hpget j c hc
          obtain ⟨ca, cb⟩ := c
          have hhas := rhasB_spec ca cb key
          refine Exists.elim (show ∃ b, b = hs ⟨ca, cb⟩ key from ⟨_, rfl⟩) fun b hbe => ?_
          rw [← hbe] at hhas
          simp only at hlj
          rw [← hbe, ← s2] at hnx
          clear hbe
          intro add3 sub3 mul3 quo3 rem3 band3 bor3 bxor3 bclr3 shl3 shr3 ieq3 ilt3 ile3 seq3 slt3 beq3 bnot3 orb3 bcond3 iwrap3 iof3 ssz3 hA3 cat3 sq3 sl3 imin3 imax3 smin3 smax3 len3 slen3 u83 hL3 op3 hop3 call3 hcall3 code3 hcode3
          have e3 : len3 ls = Int.ofNat q := by rw [hL3.len, hlsl]; rfl
          have hadd3 : add3 .i64 (Int.ofNat j) 1 = Int.ofNat (j + 1) := by rw [hA3.add, IntWalk.i64_in _ (by simp only [Int.ofNat_eq_natCast]; omega)]; rfl
          cbv
          refine ⟨n, _, rfl, hrn, rfl, ?_⟩
          cbv
          refine vcIf.yes (by first | (simp [hA3.not, hA3.eq, hA3.lt, hA3.le, hA3.cond, hA3.beq, hA3.orb, hL3.len, hL3.slen, hL3.sq, e3, hj]; done) | (simp only [e3, hj]; simp [hA3.not, hA3.eq, hA3.lt, hA3.le, hA3.cond, hA3.beq, hA3.orb, hL3.len, hL3.slen, hL3.sq, e3, hj]; done) | (simp [hA3.not, hA3.eq, hA3.lt, hA3.le, hA3.cond, hA3.beq, hA3.orb, hL3.len, hL3.slen, hL3.sq, e3, hj]; omega) | (simp only [e3, hj]; simp [hA3.not, hA3.eq, hA3.lt, hA3.le, hA3.cond, hA3.beq, hA3.orb, hL3.len, hL3.slen, hL3.sq, e3, hj]; omega)) ?_
          cbv
          by_cases ho : ib = true
          · rw [ho, Bool.true_or] at hnx
            refine vcIf.yes ho ?_
            cbv
            refine hrd3 _ ⟨(j + 1, true), _, ?_, ⟨by simp only; omega, hnx.symm⟩, rfl, ⟨rfl, rfl, rfl, rfl, rfl, rfl, rfl, ?_, ?_, trivial⟩, rfl, rfl, rfl, ?_⟩
            · simp only; omega
            · show some (V.p (.bool _)) = _
              simp [hA3.cond, cond]
            · show some (V.p (.int .i64 _)) = _
              rw [hadd3]
            · rw [hB]; exact Nat.zero_le _
          · have ho := Bool.eq_false_iff.2 ho
            rw [ho, Bool.false_or] at hnx
            refine vcIf.no ho ?_
            cbv
            refine ⟨n, _, rfl, hrn, rfl, ?_⟩
            cbv
            refine ⟨j, _, rfl, hlj, rfl, ?_⟩
            cbv
            refine hcall3 _ _ _ _ _ (CallEv.same hhas rfl ?_)
            rintro _ _ ⟨b', hb', rfl, rfl⟩
            cbv
            refine hrd3 _ ⟨(j + 1, b'), _, ?_, ⟨by simp only; omega, by simp only; rw [hnx, hb']⟩, rfl, ⟨rfl, rfl, rfl, rfl, rfl, rfl, rfl, ?_, ?_, trivial⟩, rfl, rfl, rfl, ?_⟩
            · simp only; omega
            · show some (V.p (.bool _)) = _
              simp [hA3.cond, cond]
            · show some (V.p (.int .i64 _)) = _
              rw [hadd3]
            · rw [hB]; exact Nat.zero_le _
        · rw [List.take_of_length_le (by omega), hany] at s2
          intro add3 sub3 mul3 quo3 rem3 band3 bor3 bxor3 bclr3 shl3 shr3 ieq3 ilt3 ile3 seq3 slt3 beq3 bnot3 orb3 bcond3 iwrap3 iof3 ssz3 hA3 cat3 sq3 sl3 imin3 imax3 smin3 smax3 len3 slen3 u83 hL3 op3 hop3 call3 hcall3 code3 hcode3
          have e3 : len3 ls = Int.ofNat q := by rw [hL3.len, hlsl]; rfl
          cbv
          refine ⟨n, _, rfl, hrn, rfl, ?_⟩
          cbv
          refine vcIf.no (by first | (simp [hA3.not, hA3.eq, hA3.lt, hA3.le, hA3.cond, hA3.beq, hA3.orb, hL3.len, hL3.slen, hL3.sq, e3, hj]; done) | (simp only [e3, hj]; simp [hA3.not, hA3.eq, hA3.lt, hA3.le, hA3.cond, hA3.beq, hA3.orb, hL3.len, hL3.slen, hL3.sq, e3, hj]; done) | (simp [hA3.not, hA3.eq, hA3.lt, hA3.le, hA3.cond, hA3.beq, hA3.orb, hL3.len, hL3.slen, hL3.sq, e3, hj]; omega) | (simp only [e3, hj]; simp [hA3.not, hA3.eq, hA3.lt, hA3.le, hA3.cond, hA3.beq, hA3.orb, hL3.len, hL3.slen, hL3.sq, e3, hj]; omega)) ?_
          cbv
          have hfn := found_next ow w n f ib s2 p2
          by_cases hib : ib = true
          · rw [if_pos hib] at hfn
            refine vcIf.yes hib ?_
            cbv
            refine hcode2 _ _ _ (CodeEv.drawT eOk fOk (by kernel_rfl) noX (.rd 0 (.rd 1 (.rd 2 (.rd 3 (.rd 4 (.so 5 (.so 6 (.so 7 (.so 8 (.rd 9 (.rd 10 (.rd 11 (.rd 12 (.rd 13 (.rd 14 (.so 15 (.so 16 (.so 17 (.so 18 (.so 19 (.so 20 (.rd 21 (.rd 22 (.rd 23 (.rd 24 (.rd 25 (.rd 26 (.so 27 (.so 28 (.so 29 (.so 30 (.so 31 (.done))))))))))))))))))))))))))))))))) (by kernel_rfl) (by kernel_rfl) ?_)
            intro add4 sub4 mul4 quo4 rem4 band4 bor4 bxor4 bclr4 shl4 shr4 ieq4 ilt4 ile4 seq4 slt4 beq4 bnot4 orb4 bcond4 iwrap4 iof4 ssz4 hA4 cat4 sq4 sl4 imin4 imax4 smin4 smax4 len4 slen4 u84 hL4 op4 hop4 call4 hcall4 code4 hcode4 q4 hq4
            have e8 : len4 ls = Int.ofNat q := by rw [hL4.len, hlsl]; rfl
            have e9 : len4 xs = Int.ofNat m := by rw [hL4.len, hxl]; rfl
            have e10 : len4 us = Int.ofNat q2 := by rw [hL4.len, hq2]; rfl
            have e11 : len4 cs = Int.ofNat mc := by rw [hL4.len, hcl]; rfl
            have g1 : ilt4 (len4 xs) (len4 ls) = false := by rw [e8, e9, hA4.lt]; exact decide_eq_false (by simp only [Int.ofNat_eq_natCast]; omega)
            have g2 : ilt4 (len4 cs) (len4 us) = false := by rw [e10, e11, hA4.lt]; exact decide_eq_false (by simp only [Int.ofNat_eq_natCast]; omega)
            cbv
            refine ⟨n, _, rfl, hrn, rfl, ?_⟩
            cbv
            refine vcIf.no (by first | (simp [hA4.not, hA4.eq, hA4.lt, hA4.le, hA4.cond, hA4.beq, hA4.orb, hL4.len, hL4.slen, hL4.sq]; done) | (simp [hA4.not, hA4.eq, hA4.lt, hA4.le, hA4.cond, hA4.beq, hA4.orb, hL4.len, hL4.slen, hL4.sq]; omega)) ?_
            cbv
            refine ⟨n, _, rfl, hrn, rfl, ?_⟩
            cbv
            refine vcIf.no (by first | (simp [hA4.not, hA4.eq, hA4.lt, hA4.le, hA4.cond, hA4.beq, hA4.orb, hL4.len, hL4.slen, hL4.sq, g1]; done) | (simp only [g1]; simp [hA4.not, hA4.eq, hA4.lt, hA4.le, hA4.cond, hA4.beq, hA4.orb, hL4.len, hL4.slen, hL4.sq, g1]; done) | (simp [hA4.not, hA4.eq, hA4.lt, hA4.le, hA4.cond, hA4.beq, hA4.orb, hL4.len, hL4.slen, hL4.sq, g1]; omega) | (simp only [g1]; simp [hA4.not, hA4.eq, hA4.lt, hA4.le, hA4.cond, hA4.beq, hA4.orb, hL4.len, hL4.slen, hL4.sq, g1]; omega)) ?_
            cbv
            refine ⟨n, _, rfl, hrn, rfl, ?_⟩
            cbv
            refine hq4 _ ?_
            cbv
            refine vcIf.no (by first | (simp [hA4.not, hA4.eq, hA4.lt, hA4.le, hA4.cond, hA4.beq, hA4.orb, hL4.len, hL4.slen, hL4.sq, g2]; done) | (simp only [g2]; simp [hA4.not, hA4.eq, hA4.lt, hA4.le, hA4.cond, hA4.beq, hA4.orb, hL4.len, hL4.slen, hL4.sq, g2]; done) | (simp [hA4.not, hA4.eq, hA4.lt, hA4.le, hA4.cond, hA4.beq, hA4.orb, hL4.len, hL4.slen, hL4.sq, g2]; omega) | (simp only [g2]; simp [hA4.not, hA4.eq, hA4.lt, hA4.le, hA4.cond, hA4.beq, hA4.orb, hL4.len, hL4.slen, hL4.sq, g2]; omega)) ?_
            cbv
            refine hrd2 _ ⟨(n + 1, f + 1), _, ?_, ⟨by simp only; omega, hfn.symm⟩, rfl, ⟨rfl, rfl, rfl, rfl, rfl, ?_, ?_, trivial⟩, rfl, rfl, rfl, ?_⟩
            · simp only; omega
            · show some (V.p (.int .i64 _)) = _
              rw [haddf]
            · show some (V.p (.int .i64 _)) = _
              rw [hadd2]
            · rw [hB]; exact Nat.zero_le _
          · rw [if_neg hib] at hfn
            refine vcIf.no (Bool.eq_false_iff.2 hib) ?_
            cbv
            refine hcode2 _ _ _ (CodeEv.drawT eOk fOk (by kernel_rfl) noX (.rd 0 (.rd 1 (.rd 2 (.rd 3 (.rd 4 (.so 5 (.so 6 (.so 7 (.so 8 (.rd 9 (.rd 10 (.rd 11 (.rd 12 (.rd 13 (.rd 14 (.so 15 (.so 16 (.so 17 (.so 18 (.so 19 (.so 20 (.rd 21 (.rd 22 (.rd 23 (.rd 24 (.rd 25 (.rd 26 (.so 27 (.so 28 (.so 29 (.so 30 (.so 31 (.done))))))))))))))))))))))))))))))))) (by kernel_rfl) (by kernel_rfl) ?_)
            intro add4 sub4 mul4 quo4 rem4 band4 bor4 bxor4 bclr4 shl4 shr4 ieq4 ilt4 ile4 seq4 slt4 beq4 bnot4 orb4 bcond4 iwrap4 iof4 ssz4 hA4 cat4 sq4 sl4 imin4 imax4 smin4 smax4 len4 slen4 u84 hL4 op4 hop4 call4 hcall4 code4 hcode4 q4 hq4
            have e8 : len4 ls = Int.ofNat q := by rw [hL4.len, hlsl]; rfl
            have e9 : len4 xs = Int.ofNat m := by rw [hL4.len, hxl]; rfl
            have e10 : len4 us = Int.ofNat q2 := by rw [hL4.len, hq2]; rfl
            have e11 : len4 cs = Int.ofNat mc := by rw [hL4.len, hcl]; rfl
            have g1 : ilt4 (len4 xs) (len4 ls) = false := by rw [e8, e9, hA4.lt]; exact decide_eq_false (by simp only [Int.ofNat_eq_natCast]; omega)
            have g2 : ilt4 (len4 cs) (len4 us) = false := by rw [e10, e11, hA4.lt]; exact decide_eq_false (by simp only [Int.ofNat_eq_natCast]; omega)
            cbv
            refine ⟨n, _, rfl, hrn, rfl, ?_⟩
            cbv
            refine vcIf.no (by first | (simp [hA4.not, hA4.eq, hA4.lt, hA4.le, hA4.cond, hA4.beq, hA4.orb, hL4.len, hL4.slen, hL4.sq]; done) | (simp [hA4.not, hA4.eq, hA4.lt, hA4.le, hA4.cond, hA4.beq, hA4.orb, hL4.len, hL4.slen, hL4.sq]; omega)) ?_
            cbv
            refine ⟨n, _, rfl, hrn, rfl, ?_⟩
            cbv
            refine vcIf.no (by first | (simp [hA4.not, hA4.eq, hA4.lt, hA4.le, hA4.cond, hA4.beq, hA4.orb, hL4.len, hL4.slen, hL4.sq, g1]; done) | (simp only [g1]; simp [hA4.not, hA4.eq, hA4.lt, hA4.le, hA4.cond, hA4.beq, hA4.orb, hL4.len, hL4.slen, hL4.sq, g1]; done) | (simp [hA4.not, hA4.eq, hA4.lt, hA4.le, hA4.cond, hA4.beq, hA4.orb, hL4.len, hL4.slen, hL4.sq, g1]; omega) | (simp only [g1]; simp [hA4.not, hA4.eq, hA4.lt, hA4.le, hA4.cond, hA4.beq, hA4.orb, hL4.len, hL4.slen, hL4.sq, g1]; omega)) ?_
            cbv
            refine ⟨n, _, rfl, hrn, rfl, ?_⟩
            cbv
            refine hq4 _ ?_
            cbv
            refine vcIf.no (by first | (simp [hA4.not, hA4.eq, hA4.lt, hA4.le, hA4.cond, hA4.beq, hA4.orb, hL4.len, hL4.slen, hL4.sq, g2]; done) | (simp only [g2]; simp [hA4.not, hA4.eq, hA4.lt, hA4.le, hA4.cond, hA4.beq, hA4.orb, hL4.len, hL4.slen, hL4.sq, g2]; done) | (simp [hA4.not, hA4.eq, hA4.lt, hA4.le, hA4.cond, hA4.beq, hA4.orb, hL4.len, hL4.slen, hL4.sq, g2]; omega) | (simp only [g2]; simp [hA4.not, hA4.eq, hA4.lt, hA4.le, hA4.cond, hA4.beq, hA4.orb, hL4.len, hL4.slen, hL4.sq, g2]; omega)) ?_
            cbv
            refine hrd2 _ ⟨(n + 1, f), _, ?_, ⟨by simp only; omega, hfn.symm⟩, rfl, ⟨rfl, rfl, rfl, rfl, rfl, rfl, ?_, trivial⟩, rfl, rfl, rfl, ?_⟩
            · simp only; omega
            · show some (V.p (.int .i64 _)) = _
              rw [hadd2]
            · rw [hB]; exact Nat.zero_le _
      · have hnM : n = N + 1 := by omega
        have hff : f = if ow = true then 1 else 0 := by
          rw [p2, hnM]
          by_cases ho : ow = true
          · rw [if_pos ⟨ho, by omega⟩, if_pos ho]
          · rw [if_neg (fun c => ho c.1), if_neg ho]
        have e5 : len rs = Int.ofNat (N + 1) := by rw [hL.len, hrl]; rfl
        have e6 : add .i64 (len zs) 1 = Int.ofNat (N + 1) := by rw [hL.len, hzl, hA.add, IntWalk.i64_in _ (by omega)]; rfl
        have hf1 : f < 2 := by omega
        intro add2 sub2 mul2 quo2 rem2 band2 bor2 bxor2 bclr2 shl2 shr2 ieq2 ilt2 ile2 seq2 slt2 beq2 bnot2 orb2 bcond2 iwrap2 iof2 ssz2 hA2 cat2 sq2 sl2 imin2 imax2 smin2 smax2 len2 slen2 u82 hL2 op2 hop2 call2 hcall2 code2 hcode2
        have e2 : len2 rs = Int.ofNat (N + 1) := by rw [hL2.len, hrl]; rfl
        cbv
        refine vcIf.no (by first | (simp [hA2.not, hA2.eq, hA2.lt, hA2.le, hA2.cond, hA2.beq, hA2.orb, hL2.len, hL2.slen, hL2.sq, e2, hnN]; done) | (simp only [e2, hnN]; simp [hA2.not, hA2.eq, hA2.lt, hA2.le, hA2.cond, hA2.beq, hA2.orb, hL2.len, hL2.slen, hL2.sq, e2, hnN]; done) | (simp [hA2.not, hA2.eq, hA2.lt, hA2.le, hA2.cond, hA2.beq, hA2.orb, hL2.len, hL2.slen, hL2.sq, e2, hnN]; omega) | (simp only [e2, hnN]; simp [hA2.not, hA2.eq, hA2.lt, hA2.le, hA2.cond, hA2.beq, hA2.orb, hL2.len, hL2.slen, hL2.sq, e2, hnN]; omega)) ?_
        cbv
        refine vcIf.yes (by rw [e5, e6, hA.eq]; simp) ?_
        cbv
        refine vcIf.yes (by first | (simp [hA.not, hA.eq, hA.lt, hA.le, hA.cond, hA.beq, hA.orb, hL.len, hL.slen, hL.sq, hf1]; done) | (simp only [hf1]; simp [hA.not, hA.eq, hA.lt, hA.le, hA.cond, hA.beq, hA.orb, hL.len, hL.slen, hL.sq, hf1]; done) | (simp [hA.not, hA.eq, hA.lt, hA.le, hA.cond, hA.beq, hA.orb, hL.len, hL.slen, hL.sq, hf1]; omega) | (simp only [hf1]; simp [hA.not, hA.eq, hA.lt, hA.le, hA.cond, hA.beq, hA.orb, hL.len, hL.slen, hL.sq, hf1]; omega)) ?_
        cbv
        refine hret _ (RetEv.ret eOk rfl ?_)
        rw [hff]
        cases ow <;> simp [oneOf, hA.cond, hA.eq, hA.beq, cond]
  · refine vcIf.yes (by first | (simp [hA.not, hA.eq, hA.lt, hA.le, hA.cond, hA.beq, hA.orb, hL.len, hL.slen, hL.sq, he0]; done) | (simp only [he0]; simp [hA.not, hA.eq, hA.lt, hA.le, hA.cond, hA.beq, hA.orb, hL.len, hL.slen, hL.sq, he0]; done) | (simp [hA.not, hA.eq, hA.lt, hA.le, hA.cond, hA.beq, hA.orb, hL.len, hL.slen, hL.sq, he0]; omega) | (simp only [he0]; simp [hA.not, hA.eq, hA.lt, hA.le, hA.cond, hA.beq, hA.orb, hL.len, hL.slen, hL.sq, he0]; omega)) ?_
    cbv
    refine hcall _ _ _ _ _ (CallEv.same awake12_spec rfl ?_)
    rintro _ _ ⟨rfl, rfl⟩
    cbv
    exact hret _ (RetEv.ret eOk rfl rfl)
end Go.Proofs.Ytknhlbohjiphgaa
