/- What ShardsSpread answers. Conditions: on sizes. -/
import Derived.Test.YtknhlbohjiphgaaLSr1
set_option maxRecDepth 100000
set_option maxHeartbeats 8000000
set_option linter.unusedSimpArgs false
set_option linter.unusedVariables false
namespace Go.Proofs.Ytknhlbohjiphgaa
open Go Go.Lx
open Go.Sx (vcIf)

theorem rspread_spec (bs : BL) (hn : bs.length < 281474976710656) (hb : ∀ b ∈ bs, b.length < 281474976710656) (zs : List PV) (hzs : zs = sP bs) (l : List Chg) (hf : ∀ c ∈ l, c.fit) (hl : l.length * 40 ≤ 140737488355328) (ys : List PV) (hys : ys = cP l) :
    FnL Try.prog 18 [.p (.sl zs), .p (.sl ys)] [] fun v own => v = .p (.tup [.sl (ccP (spR bs l)), .int .i64 (Int.ofNat (spE bs l))]) ∧ own = [] := by
  obtain ⟨R, hR⟩ : ∃ R, R = ccP (spR bs l) := ⟨_, rfl⟩
  obtain ⟨e, he⟩ : ∃ e, e = spE bs l := ⟨_, rfl⟩
  have hR0 : e ≠ 0 → R = [] := fun h => by rw [hR, spR, if_neg (by rw [← he]; exact h)]; rfl
  have hR1 : e = 0 → R = ccP (spL bs l (bs.length + 1)) := fun h => by rw [hR, spR, if_pos (by rw [← he]; exact h)]
  rw [← hR, ← he]
  refine FnL.flat (R := fun v own => ∃ x, v = .p (.tup [x, .int .i64 (Int.ofNat e)]) ∧ PW x (.sl R)) ?_ (by
    rintro _ _ ⟨x, rfl, h⟩; exact ⟨_, .tup [.sl R, .int .i64 (Int.ofNat e)], rfl, .tup ⟨h, .refl _, trivial⟩, rfl, rfl⟩)
  have hsd := rsound_spec bs hn hb zs hzs
  have h9 : sndB bs = true → bs.length < 8 := fun h => (of_decide_eq_true h).1
  obtain ⟨N, hN⟩ : ∃ n, n = bs.length := ⟨_, rfl⟩
  have hzl : zs.length = N := by rw [hzs, sP_length, hN]
  obtain ⟨S, hS⟩ : ∃ S, S = sndB bs := ⟨_, rfl⟩
  have he2 : S = false → e = 2 := fun h => by rw [he, spE, ← hS, h]; rfl
  have heC : S = true → e = chks l := fun h => by rw [he, spE, ← hS, if_pos h]
  have hall := rall_spec l (by omega) ys hys
  have hpc := fun i (h : i ≤ bs.length) => rpiece_spec bs hn i h zs hzs
  have hcu := fun i => rCut_spec (pc bs i) l hf hl ys hys
  rw [← hS] at hsd h9
  rw [← hN] at hpc hR1 h9
  refine fn_of_vc eOk fOk fo18 Try.func18 rfl rfl rfl fun B hB => ?_
  intro add sub mul quo rem band bor bxor bclr shl shr ieq ilt ile seq slt beq bnot orb bcond iwrap iof ssz hA cat sq sl imin imax smin smax len slen u8 hL op hop call hcall code hcode ret hret
  cbv
  refine hcall _ _ _ _ _ (CallEv.same hsd rfl ?_)
  rintro _ _ ⟨rfl, rfl⟩
  cbv
  by_cases hSS : S = true
  · have heC := heC hSS
    have h9 := h9 hSS
    rw [← heC] at hall
    refine vcIf.no (by first | (simp [hA.not, hA.eq, hA.lt, hA.le, hA.cond, hA.beq, hA.orb, hL.len, hL.slen, hL.sq, hSS]; done) | (simp only [hSS]; simp [hA.not, hA.eq, hA.lt, hA.le, hA.cond, hA.beq, hA.orb, hL.len, hL.slen, hL.sq, hSS]; done) | (simp [hA.not, hA.eq, hA.lt, hA.le, hA.cond, hA.beq, hA.orb, hL.len, hL.slen, hL.sq, hSS]; omega) | (simp only [hSS]; simp [hA.not, hA.eq, hA.lt, hA.le, hA.cond, hA.beq, hA.orb, hL.len, hL.slen, hL.sq, hSS]; omega)) ?_
    cbv
    refine hcall _ _ _ _ _ (CallEv.same hall rfl ?_)
    rintro _ _ ⟨c0, hc0, rfl, rfl⟩
    cbv
    by_cases he0 : c0 = 0
    · have hee : e = 0 := by omega
      have hR1 := hR1 hee
      obtain ⟨M, hM⟩ : ∃ M, M = N + 1 := ⟨_, rfl⟩
      rw [← hM] at hR1
      refine vcIf.no (by first | (simp [hA.not, hA.eq, hA.lt, hA.le, hA.cond, hA.beq, hA.orb, hL.len, hL.slen, hL.sq, he0]; done) | (simp only [he0]; simp [hA.not, hA.eq, hA.lt, hA.le, hA.cond, hA.beq, hA.orb, hL.len, hL.slen, hL.sq, he0]; done) | (simp [hA.not, hA.eq, hA.lt, hA.le, hA.cond, hA.beq, hA.orb, hL.len, hL.slen, hL.sq, he0]; omega) | (simp only [he0]; simp [hA.not, hA.eq, hA.lt, hA.le, hA.cond, hA.beq, hA.orb, hL.len, hL.slen, hL.sq, he0]; omega)) ?_
      cbv
      refine ⟨true, ?_⟩
      cbv
      refine hcode _ _ _ (CodeEv.loop eOk fOk (ι := Nat × List PV) (fun q => [(0, .p (.sl zs)), (1, .p (.sl ys)), (7, .vw 0 1 0 q.1 none), (8, .p (.int .i64 (Int.ofNat q.1)))])
        (fun q => [.arr 37 1 q.2]) (fun q => q.1 ≤ M ∧ q.2 = ccP (spL bs l q.1)) (fun q => M - q.1) (0, []) ?_ ?_)
      · exact ⟨(by repeat (first | exact trivial | refine And.intro rfl ?_)), rfl, Nat.zero_le _, rfl⟩
      rintro ⟨i, us⟩ ⟨k1, k2⟩ rd hrd
      simp only at k1 k2
      have hul : us.length = i := by rw [k2, ccP, List.length_map, spL_length]
      by_cases hi : i ≤ N
      · have hpc := hpc i (by omega)
        have hcu := hcu i
        rw [show (pc bs i).lo = pcLo bs i from rfl, show (pc bs i).hi = pcHi bs i from rfl] at hcu
        refine Exists.elim (show ∃ x, x = pcLo bs i from ⟨_, rfl⟩) fun lo hlo => ?_
        refine Exists.elim (show ∃ x, x = pcHi bs i from ⟨_, rfl⟩) fun hii hhi => ?_
        refine Exists.elim (show ∃ x, x = cP (cutL (pc bs i) l) from ⟨_, rfl⟩) fun cs hcs => ?_
        rw [← hlo, ← hhi] at hpc hcu
        rw [← hcs] at hcu
        clear hlo hhi
        intro add1 sub1 mul1 quo1 rem1 band1 bor1 bxor1 bclr1 shl1 shr1 ieq1 ilt1 ile1 seq1 slt1 beq1 bnot1 orb1 bcond1 iwrap1 iof1 ssz1 hA1 cat1 sq1 sl1 imin1 imax1 smin1 smax1 len1 slen1 u81 hL1 op1 hop1 call1 hcall1 code1 hcode1
        have e0 : len1 zs = Int.ofNat N := by rw [hL1.len, hzl]; rfl
        have hadd1 : add1 .i64 (Int.ofNat i) 1 = Int.ofNat (i + 1) := by rw [hA1.add, IntWalk.i64_in _ (by simp only [Int.ofNat_eq_natCast]; omega)]; rfl
        cbv
        refine vcIf.yes (by first | (simp [hA1.not, hA1.eq, hA1.lt, hA1.le, hA1.cond, hA1.beq, hA1.orb, hL1.len, hL1.slen, hL1.sq, e0, hi]; done) | (simp only [e0, hi]; simp [hA1.not, hA1.eq, hA1.lt, hA1.le, hA1.cond, hA1.beq, hA1.orb, hL1.len, hL1.slen, hL1.sq, e0, hi]; done) | (simp [hA1.not, hA1.eq, hA1.lt, hA1.le, hA1.cond, hA1.beq, hA1.orb, hL1.len, hL1.slen, hL1.sq, e0, hi]; omega) | (simp only [e0, hi]; simp [hA1.not, hA1.eq, hA1.lt, hA1.le, hA1.cond, hA1.beq, hA1.orb, hL1.len, hL1.slen, hL1.sq, e0, hi]; omega)) ?_
        cbv
        refine hcall1 _ _ _ _ _ (CallEv.same hpc rfl ?_)
        rintro _ _ ⟨rfl, rfl⟩
        cbv
        refine hcall1 _ _ _ _ _ (CallEv.same hcu rfl ?_)
        rintro _ _ ⟨rfl, rfl⟩
        cbv
        refine ⟨false, ?_⟩
        cbv
        refine .inl ⟨(), rfl, hul.symm, Wf.one (PV.wf1 rfl), ?_, ?_, ?_⟩
        · show i + 1 ≤ maxLen
          unfold maxLen; omega
        · show (i + 1) * 24 ≤ _
          omega
        intro us' n' hu hn'
        replace hu : us' = us ++ [.sl cs] := hu
        replace hn' : n' = i + 1 := hn'
        cbv
        refine hrd _ ⟨(n', us'), _, ?_, ⟨by simp only; omega, ?_⟩, rfl, ⟨rfl, rfl, rfl, ?_, trivial⟩, rfl, rfl, rfl, ?_⟩
        · simp only; omega
        · simp only; rw [hn', hu, k2, spL_next, hcs]; simp [ccP]
        · show some (V.p (.int .i64 _)) = _
          rw [hadd1, hn']
        · rw [hB]; exact Nat.zero_le _
      · have hiM : i = M := by omega
        rw [hiM] at k2 hul
        intro add1 sub1 mul1 quo1 rem1 band1 bor1 bxor1 bclr1 shl1 shr1 ieq1 ilt1 ile1 seq1 slt1 beq1 bnot1 orb1 bcond1 iwrap1 iof1 ssz1 hA1 cat1 sq1 sl1 imin1 imax1 smin1 smax1 len1 slen1 u81 hL1 op1 hop1 call1 hcall1 code1 hcode1
        have e0 : len1 zs = Int.ofNat N := by rw [hL1.len, hzl]; rfl
        cbv
        refine vcIf.no (by first | (simp [hA1.not, hA1.eq, hA1.lt, hA1.le, hA1.cond, hA1.beq, hA1.orb, hL1.len, hL1.slen, hL1.sq, e0, hi]; done) | (simp only [e0, hi]; simp [hA1.not, hA1.eq, hA1.lt, hA1.le, hA1.cond, hA1.beq, hA1.orb, hL1.len, hL1.slen, hL1.sq, e0, hi]; done) | (simp [hA1.not, hA1.eq, hA1.lt, hA1.le, hA1.cond, hA1.beq, hA1.orb, hL1.len, hL1.slen, hL1.sq, e0, hi]; omega) | (simp only [e0, hi]; simp [hA1.not, hA1.eq, hA1.lt, hA1.le, hA1.cond, hA1.beq, hA1.orb, hL1.len, hL1.slen, hL1.sq, e0, hi]; omega)) ?_
        cbv
        refine hret _ (RetEv.retF eOk rfl 0 rfl (by rw [hB]; exact Nat.zero_le _) ⟨.sl us, ?_, by rw [hR1, k2]; exact .refl _⟩)
        rw [hee]
        show V.p (.tup [.sl ((us.drop 0).take i), .int .i64 0]) = _
        rw [hiM, frz_full hul]
        rfl
    · refine vcIf.yes (by first | (simp [hA.not, hA.eq, hA.lt, hA.le, hA.cond, hA.beq, hA.orb, hL.len, hL.slen, hL.sq, he0]; done) | (simp only [he0]; simp [hA.not, hA.eq, hA.lt, hA.le, hA.cond, hA.beq, hA.orb, hL.len, hL.slen, hL.sq, he0]; done) | (simp [hA.not, hA.eq, hA.lt, hA.le, hA.cond, hA.beq, hA.orb, hL.len, hL.slen, hL.sq, he0]; omega) | (simp only [he0]; simp [hA.not, hA.eq, hA.lt, hA.le, hA.cond, hA.beq, hA.orb, hL.len, hL.slen, hL.sq, he0]; omega)) ?_
      cbv
      exact hret _ (RetEv.ret eOk rfl ⟨.nils, by rw [← hc0]; rfl, by rw [hR0 (by omega)]; exact .nils⟩)
  · have hfe := he2 (Bool.eq_false_iff.2 hSS)
    have hSS := Bool.eq_false_iff.2 hSS
    refine vcIf.yes (by first | (simp [hA.not, hA.eq, hA.lt, hA.le, hA.cond, hA.beq, hA.orb, hL.len, hL.slen, hL.sq, hSS]; done) | (simp only [hSS]; simp [hA.not, hA.eq, hA.lt, hA.le, hA.cond, hA.beq, hA.orb, hL.len, hL.slen, hL.sq, hSS]; done) | (simp [hA.not, hA.eq, hA.lt, hA.le, hA.cond, hA.beq, hA.orb, hL.len, hL.slen, hL.sq, hSS]; omega) | (simp only [hSS]; simp [hA.not, hA.eq, hA.lt, hA.le, hA.cond, hA.beq, hA.orb, hL.len, hL.slen, hL.sq, hSS]; omega)) ?_
    cbv
    exact hret _ (RetEv.ret eOk rfl ⟨.nils, by rw [hfe]; rfl, by rw [hR0 (by rw [hfe]; decide)]; exact .nils⟩)

theorem shardsSpread (bs : BL) (hn : bs.length < 281474976710656) (hb : ∀ b ∈ bs, b.length < 281474976710656) (l : List Chg) (hf : ∀ c ∈ l, c.fit) (hl : l.length * 40 ≤ 140737488355328) :
    FnL Try.prog 6 [.p (.sl (sP bs)), .p (.sl (cP l))] [] fun z own => z = .p (.bool true) := by
  obtain ⟨zs, hzs⟩ : ∃ x, x = sP bs := ⟨_, rfl⟩
  obtain ⟨ys, hys⟩ : ∃ x, x = cP l := ⟨_, rfl⟩
  rw [← hzs, ← hys]
  have h1 := spread_spec bs hn hb zs hzs l hf hl ys hys
  have h2 := rspread_spec bs hn hb zs hzs l hf hl ys hys
  have hlen : (spR bs l).length < 281474976710656 := by
    by_cases h : spE bs l = 0
    · rw [spR, if_pos h, spL_length]
      by_cases hs : sndB bs = true
      · have := (of_decide_eq_true hs).1; omega
      · rw [spE, if_neg hs] at h; cases h
    · rw [spR, if_neg h]; decide
  have hsame : ∀ (i : Nat) (c : List Chg), (spR bs l)[i]? = some c → FnL Try.prog 19 [.p (.sl (cP c)), .p (.sl (cP c))] [] fun v own => v = .p (.bool true) ∧ own = [] := fun i c hc => by
    refine sameChgs_spec c ?_ _ rfl
    by_cases h : spE bs l = 0
    · rw [spR, if_pos h] at hc
      simp only [spL, List.getElem?_map, Option.map_eq_some_iff] at hc
      obtain ⟨j, _, rfl⟩ := hc
      have := cutL_len (pc bs j) l
      omega
    · rw [spR, if_neg h] at hc; simp at hc
  obtain ⟨ls, hls⟩ : ∃ x, x = spR bs l := ⟨_, rfl⟩
  obtain ⟨e, he⟩ : ∃ x, x = spE bs l := ⟨_, rfl⟩
  rw [← hls, ← he] at h1 h2
  rw [← hls] at hsame hlen
  obtain ⟨rs, hrs⟩ : ∃ x, x = ccP ls := ⟨_, rfl⟩
  obtain ⟨N, hN⟩ : ∃ n, n = ls.length := ⟨_, rfl⟩
  have hrl : rs.length = N := by rw [hrs, ccP, List.length_map, hN]
  rw [← hrs] at h1 h2
  refine fn_of_vc eOk fOk fo6 Try.func6 rfl rfl rfl fun B hB => ?_
  intro add sub mul quo rem band bor bxor bclr shl shr ieq ilt ile seq slt beq bnot orb bcond iwrap iof ssz hA cat sq sl imin imax smin smax len slen u8 hL op hop call hcall code hcode ret hret
  cbv
  refine hcall _ _ _ _ _ (CallEv.same h1 rfl ?_)
  rintro _ _ ⟨rfl, rfl⟩
  cbv
  refine hcall _ _ _ _ _ (CallEv.same h2 rfl ?_)
  rintro _ _ ⟨rfl, rfl⟩
  cbv
  refine hcall _ _ _ _ _ (CallEv.same awake12_spec rfl ?_)
  rintro _ _ ⟨rfl, rfl⟩
  cbv
  repeat (first | (refine vcIf.yes ?_ ?_; (focus (simp [hA.not, hA.eq, hA.lt, hA.le, hA.cond, hA.beq, hA.orb, hL.len, hL.slen, hL.sq]; done)); cbv) | (refine vcIf.no ?_ ?_; (focus (simp [hA.not, hA.eq, hA.lt, hA.le, hA.cond, hA.beq, hA.orb, hL.len, hL.slen, hL.sq]; done)); cbv) | fail)
  refine hcode _ _ _ (CodeEv.loop eOk fOk (ι := Nat) (fun q => [(5, .p (.sl rs)), (7, .p (.sl rs)), (9, .p (.int .i64 (Int.ofNat q)))])
    (fun q => []) (fun q => q ≤ N) (fun q => N - q) 0 ?_ ?_)
  · exact ⟨(by repeat (first | exact trivial | refine And.intro rfl ?_)), rfl, Nat.zero_le _⟩
  rintro i k1 rd hrd
  by_cases hi : i < N
  · refine Exists.elim (get_of_lt (show i < ls.length by omega)) fun c hc => ?_
    have hri : rs[i]? = some (.sl (cP c)) := by rw [hrs]; exact ccP_get hc
    have hsm := hsame i c hc
    refine Exists.elim (show ∃ x, x = cP c from ⟨_, rfl⟩) fun cs hcs => ?_
    rw [← hcs] at hri hsm
    clear hcs
    intro add1 sub1 mul1 quo1 rem1 band1 bor1 bxor1 bclr1 shl1 shr1 ieq1 ilt1 ile1 seq1 slt1 beq1 bnot1 orb1 bcond1 iwrap1 iof1 ssz1 hA1 cat1 sq1 sl1 imin1 imax1 smin1 smax1 len1 slen1 u81 hL1 op1 hop1 call1 hcall1 code1 hcode1
    have e0 : len1 rs = Int.ofNat N := by rw [hL1.len, hrl]; rfl
    have hadd1 : add1 .i64 (Int.ofNat i) 1 = Int.ofNat (i + 1) := by rw [hA1.add, IntWalk.i64_in _ (by simp only [Int.ofNat_eq_natCast]; omega)]; rfl
    cbv
    refine vcIf.yes (by first | (simp [hA1.not, hA1.eq, hA1.lt, hA1.le, hA1.cond, hA1.beq, hA1.orb, hL1.len, hL1.slen, hL1.sq, e0, hi]; done) | (simp only [e0, hi]; simp [hA1.not, hA1.eq, hA1.lt, hA1.le, hA1.cond, hA1.beq, hA1.orb, hL1.len, hL1.slen, hL1.sq, e0, hi]; done) | (simp [hA1.not, hA1.eq, hA1.lt, hA1.le, hA1.cond, hA1.beq, hA1.orb, hL1.len, hL1.slen, hL1.sq, e0, hi]; omega) | (simp only [e0, hi]; simp [hA1.not, hA1.eq, hA1.lt, hA1.le, hA1.cond, hA1.beq, hA1.orb, hL1.len, hL1.slen, hL1.sq, e0, hi]; omega)) ?_
    cbv
    refine hcode1 _ _ _ (CodeEv.drawA eOk fOk (by kernel_rfl) noX (by kernel_rfl) (by kernel_rfl) (by kernel_rfl) ?_)
    intro add2 sub2 mul2 quo2 rem2 band2 bor2 bxor2 bclr2 shl2 shr2 ieq2 ilt2 ile2 seq2 slt2 beq2 bnot2 orb2 bcond2 iwrap2 iof2 ssz2 hA2 cat2 sq2 sl2 imin2 imax2 smin2 smax2 len2 slen2 u82 hL2 op2 hop2 call2 hcall2 code2 hcode2 q2 hq2
    cbv
    refine ⟨i, _, rfl, hri, rfl, ?_⟩
    cbv
    refine ⟨i, _, rfl, hri, rfl, ?_⟩
    cbv
    refine hcall2 _ _ _ _ _ (CallEv.same hsm rfl ?_)
    rintro _ _ ⟨rfl, rfl⟩
    cbv
    refine hq2 _ ?_
    cbv
    refine vcIf.no (by first | (simp [hA2.not, hA2.eq, hA2.lt, hA2.le, hA2.cond, hA2.beq, hA2.orb, hL2.len, hL2.slen, hL2.sq]; done) | (simp [hA2.not, hA2.eq, hA2.lt, hA2.le, hA2.cond, hA2.beq, hA2.orb, hL2.len, hL2.slen, hL2.sq]; omega)) ?_
    cbv
    refine hrd _ ⟨i + 1, _, ?_, by omega, rfl, ⟨rfl, rfl, ?_, trivial⟩, rfl, rfl, rfl, ?_⟩
    · show N - (i + 1) < N - i
      omega
    · show some (V.p (.int .i64 _)) = _
      rw [hadd1]
    · rw [hB]; exact Nat.zero_le _
  · intro add1 sub1 mul1 quo1 rem1 band1 bor1 bxor1 bclr1 shl1 shr1 ieq1 ilt1 ile1 seq1 slt1 beq1 bnot1 orb1 bcond1 iwrap1 iof1 ssz1 hA1 cat1 sq1 sl1 imin1 imax1 smin1 smax1 len1 slen1 u81 hL1 op1 hop1 call1 hcall1 code1 hcode1
    have e0 : len1 rs = Int.ofNat N := by rw [hL1.len, hrl]; rfl
    cbv
    refine vcIf.no (by first | (simp [hA1.not, hA1.eq, hA1.lt, hA1.le, hA1.cond, hA1.beq, hA1.orb, hL1.len, hL1.slen, hL1.sq, e0, hi]; done) | (simp only [e0, hi]; simp [hA1.not, hA1.eq, hA1.lt, hA1.le, hA1.cond, hA1.beq, hA1.orb, hL1.len, hL1.slen, hL1.sq, e0, hi]; done) | (simp [hA1.not, hA1.eq, hA1.lt, hA1.le, hA1.cond, hA1.beq, hA1.orb, hL1.len, hL1.slen, hL1.sq, e0, hi]; omega) | (simp only [e0, hi]; simp [hA1.not, hA1.eq, hA1.lt, hA1.le, hA1.cond, hA1.beq, hA1.orb, hL1.len, hL1.slen, hL1.sq, e0, hi]; omega)) ?_
    cbv
    exact hret _ (RetEv.ret eOk rfl rfl)
end Go.Proofs.Ytknhlbohjiphgaa
