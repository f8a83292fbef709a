/- What the document's Both answers: the same. Conditions: on sizes. -/
import Derived.Test.YtocmeaamaecgeaaLVr3
set_option maxRecDepth 100000
set_option maxHeartbeats 40000000
set_option linter.unusedSimpArgs false
set_option linter.unusedVariables false
namespace Go.Proofs.Ytocmeaamaecgeaa
open Go Go.Lx
open Go.Sx (vcIf)

def colsL (ls : List (List Int)) (k : Nat) : List Int := (List.range k).map (colM ls)
theorem colsL_length (ls : List (List Int)) (k : Nat) : (colsL ls k).length = k := by simp [colsL]
theorem colsL_next (ls : List (List Int)) (k : Nat) : colsL ls (k + 1) = colsL ls k ++ [colM ls k] := by simp [colsL, List.range_succ]
theorem colM_next {ls : List (List Int)} {i k : Nat} {l : List Int} {v : Int} (hl : ls[i]? = some l) (hv : l[k]? = some v) : colM (ls.take (i + 1)) k = max (colM (ls.take i) k) v := by
  rw [List.take_add_one, hl, colM, List.foldl_append]
  simp [colM, List.getD_eq_getElem?_getD, hv]

theorem rBoth_spec (ls : List (List Int)) (hk : ls.length < 281474976710656) (hn : ∀ l ∈ ls, l.length * 8 ≤ 140737488355328) (zs : List PV) (hzs : zs = llP ls) :
    FnL Try.prog 10 [.p (.sl zs)] [] fun v own => v = .p (.tup [.sl (iP (bothR ls)), .int .i64 (bothE ls)]) ∧ own = [] := by
  obtain ⟨R1, hR1⟩ : ∃ x, x = PV.sl (iP (bothR ls)) := ⟨_, rfl⟩
  obtain ⟨R2, hR2⟩ : ∃ x, x = bothE ls := ⟨_, rfl⟩
  rw [← hR1, ← hR2]
  refine FnL.flat (R := fun v own => ∃ x, v = .p (.tup [x, .int .i64 R2]) ∧ PW x R1) ?_ (by
    rintro _ _ ⟨x, rfl, h⟩; exact ⟨_, .tup [R1, .int .i64 R2], rfl, .tup ⟨h, .refl _, trivial⟩, rfl, rfl⟩)
  obtain ⟨N, hN⟩ : ∃ n, n = ls.length := ⟨_, rfl⟩
  have hzl : zs.length = N := by rw [hzs, llP_length, hN]
  have herr : R2 ≠ 0 → R1 = .sl [] := fun h => by rw [hR1, bothR, if_neg (by rw [← hR2]; exact h)]; rfl
  by_cases h0 : N = 0
  · have hl0 : ls = [] := List.length_eq_zero_iff.1 (by omega)
    have hE : R2 = 1 := by rw [hR2, bothE, if_pos (.inl hl0)]
    rw [hE, herr (by rw [hE]; decide)]
    refine fn_of_vc eOk fOk fo10 Try.func10 rfl rfl rfl fun B hB => ?_
    intro add sub mul quo rem band bor bxor bclr shl shr ieq ilt ile seq slt beq bnot orb bcond iwrap iof ssz hA cat sq sl imin imax smin smax len slen u8 hL op hop call hcall code hcode ret hret
    have hlen : len zs = Int.ofNat N := by rw [hL.len, hzl]; rfl
    cbv
    rw [hlen, show ieq (Int.ofNat N) 0 = true by rw [hA.eq, h0]; rfl]
    cbv
    exact hret _ (RetEv.ret eOk rfl ⟨.nils, rfl, .nils⟩)
  obtain ⟨l0, hl0⟩ := get_of_lt (show 0 < ls.length by omega)
  have hwid : wid ls = l0.length := by rw [wid, List.headD_eq_head?_getD, List.head?_eq_getElem?, hl0]; rfl
  obtain ⟨n, hnn⟩ : ∃ n, n = l0.length := ⟨_, rfl⟩
  have hne : ls ≠ [] := fun c => by rw [c] at hl0; cases hl0
  have hn0 := hn l0 (List.mem_of_getElem? hl0)
  have hzz0 : zs[0]? = some (.sl (iP l0)) := by rw [hzs]; exact llP_get hl0
  obtain ⟨y0, hy0⟩ : ∃ ys, ys = iP l0 := ⟨_, rfl⟩
  have hy0l : y0.length = n := by rw [hy0, iP_length, hnn]
  rw [← hy0] at hzz0
  clear hy0
  refine fn_of_vc eOk fOk fo10 Try.func10 rfl rfl rfl fun B hB => ?_
  intro add sub mul quo rem band bor bxor bclr shl shr ieq ilt ile seq slt beq bnot orb bcond iwrap iof ssz hA cat sq sl imin imax smin smax len slen u8 hL op hop call hcall code hcode ret hret
  have hlen : len zs = Int.ofNat N := by rw [hL.len, hzl]; rfl
  cbv
  rw [hlen, show ieq (Int.ofNat N) 0 = false by rw [hA.eq]; simp only [Int.ofNat_eq_natCast]; simp; omega]
  cbv
  refine hcode _ _ _ (CodeEv.loop eOk fOk (ι := Nat) (fun s => [(0, .p (.sl zs)), (4, .p (.int .i64 (Int.ofNat s)))])
    (fun s => []) (fun s => s ≤ N ∧ ∀ (q : Nat) (l : List Int), q < s → ls[q]? = some l → l.length = n) (fun s => N - s) 0 ?_ ?_)
  · exact ⟨(by repeat (first | exact trivial | refine And.intro rfl ?_)), rfl, Nat.zero_le _, fun q l h => absurd h (Nat.not_lt_zero q)⟩
  rintro i ⟨k1, k2⟩ rd hrd
  by_cases hi : i < N
  · obtain ⟨l, hl⟩ := get_of_lt (show i < ls.length by omega)
    have hzi : zs[i]? = some (.sl (iP l)) := by rw [hzs]; exact llP_get hl
    obtain ⟨ys, hys⟩ : ∃ ys, ys = iP l := ⟨_, rfl⟩
    obtain ⟨m, hm⟩ : ∃ m, m = l.length := ⟨_, rfl⟩
    have hyl : ys.length = m := by rw [hys, iP_length, hm]
    rw [← hys] at hzi
    clear hys
    have hmnn : m ≠ n → R2 = 1 := fun hmn => by rw [hR2, bothE, if_pos]; right; exact ⟨l, List.mem_of_getElem? hl, by rw [hwid, ← hnn, ← hm]; exact hmn⟩
    intro add1 sub1 mul1 quo1 rem1 band1 bor1 bxor1 bclr1 shl1 shr1 ieq1 ilt1 ile1 seq1 slt1 beq1 bnot1 orb1 bcond1 iwrap1 iof1 ssz1 hA1 cat1 sq1 sl1 imin1 imax1 smin1 smax1 len1 slen1 u81 hL1 op1 hop1 call1 hcall1 code1 hcode1
    have hlen1 : len1 zs = Int.ofNat N := by rw [hL1.len, hzl]; rfl
    have hadd1 : i < N → add1 .i64 (Int.ofNat i) 1 = Int.ofNat (i + 1) := fun _ => by rw [hA1.add, IntWalk.i64_in _ (by simp only [Int.ofNat_eq_natCast]; omega)]; rfl
    cbv
    rw [hlen1]
    refine vcIf.yes (by first | (simp [hA1.not, hA1.eq, hA1.lt, hA1.le, hA1.cond, hA1.beq, hA1.orb, hL1.len, hL1.slen, hL1.sq, hi]; done) | (simp only [hi]; simp [hA1.not, hA1.eq, hA1.lt, hA1.le, hA1.cond, hA1.beq, hA1.orb, hL1.len, hL1.slen, hL1.sq, hi]; done) | (simp [hA1.not, hA1.eq, hA1.lt, hA1.le, hA1.cond, hA1.beq, hA1.orb, hL1.len, hL1.slen, hL1.sq, hi]; omega) | (simp only [hi]; simp [hA1.not, hA1.eq, hA1.lt, hA1.le, hA1.cond, hA1.beq, hA1.orb, hL1.len, hL1.slen, hL1.sq, hi]; omega)) ?_
    cbv
    refine hcode1 _ _ _ (CodeEv.drawA eOk fOk (by kernel_rfl) noX (by kernel_rfl) (by kernel_rfl) (by kernel_rfl) ?_)
    intro add2 sub2 mul2 quo2 rem2 band2 bor2 bxor2 bclr2 shl2 shr2 ieq2 ilt2 ile2 seq2 slt2 beq2 bnot2 orb2 bcond2 iwrap2 iof2 ssz2 hA2 cat2 sq2 sl2 imin2 imax2 smin2 smax2 len2 slen2 u82 hL2 op2 hop2 call2 hcall2 code2 hcode2 q2 hq2
    have e1 : len2 ys = Int.ofNat m := by rw [hL2.len, hyl]; rfl
    have e2 : len2 y0 = Int.ofNat n := by rw [hL2.len, hy0l]; rfl
    cbv
    refine ⟨i, _, rfl, hzi, rfl, ?_⟩
    cbv
    refine ⟨0, _, rfl, hzz0, rfl, ?_⟩
    cbv
    refine hq2 _ ?_
    cbv
    by_cases hmn : m = n
    · refine vcIf.no (by rw [e1, e2, hA2.not, hA2.eq, hmn]; simp) ?_
      cbv
      refine hrd _ ⟨i + 1, _, ?_, ⟨hi, ?_⟩, rfl, ⟨rfl, ?_, trivial⟩, rfl, rfl, rfl, ?_⟩
      · show N - (i + 1) < N - i
        omega
      · intro q l' hq hl'
        rcases Nat.lt_succ_iff_lt_or_eq.1 hq with c | c
        · exact k2 q l' c hl'
        · rw [c, hl] at hl'; cases hl'; rw [← hm]; exact hmn
      · show some (V.p (.int .i64 _)) = _
        rw [hadd1 hi]
      · rw [hB]; exact Nat.zero_le _
    · have hmn' : ¬ ((m : Int) = (n : Int)) := by omega
      have hE := hmnn hmn
      refine vcIf.yes (by rw [e1, e2, hA2.not, hA2.eq]; simp only [Int.ofNat_eq_natCast]; simp [hmn']) ?_
      cbv
      exact hret _ (RetEv.ret eOk rfl ⟨.nils, by rw [hE]; rfl, by rw [herr (by rw [hE]; decide)]; exact .nils⟩)
  · obtain rfl : i = N := by omega
    have hlens : ∀ (q : Nat) (l : List Int), ls[q]? = some l → l.length = n := fun q l h => k2 q l (by have := lt_of_some h; omega) h
    have hno1 : ¬ (ls = [] ∨ ∃ l ∈ ls, l.length ≠ wid ls) := by
      rintro (c | ⟨l, h1, h2⟩)
      · exact hne c
      · obtain ⟨q, hq, he⟩ := List.getElem_of_mem h1
        exact h2 (by rw [hwid, ← hnn]; exact hlens q l (by rw [List.getElem?_eq_getElem hq, he]))
    have hbad : ∀ (q : Nat) (l : List Int) (k : Nat) (z : Int), ls[q]? = some l → l[k]? = some z → okV z = false → R2 = 2 := fun q l k z h1 h2 h3 => by
      rw [hR2, bothE, if_neg hno1, if_neg fun c => by have := c l (List.mem_of_getElem? h1) z (List.mem_of_getElem? h2); rw [h3] at this; cases this]
    have hgood : (∀ (q : Nat) (l : List Int) (k : Nat) (z : Int), k < n → ls[q]? = some l → l[k]? = some z → okV z = true) → R2 = 0 ∧ R1 = .sl (iP (colsL ls n)) := fun h => by
      have hE : bothE ls = 0 := by
        rw [bothE, if_neg hno1, if_pos]
        intro l h1 z h2
        obtain ⟨q, hq, he⟩ := List.getElem_of_mem h1
        obtain ⟨k, hk, he2⟩ := List.getElem_of_mem h2
        have hl : ls[q]? = some l := by rw [List.getElem?_eq_getElem hq, he]
        exact h q l k z (by rw [← hlens q l hl]; exact hk) hl (by rw [List.getElem?_eq_getElem hk, he2])
      exact ⟨hR2.trans hE, by rw [hR1, bothR, if_pos hE, bothL, hwid, ← hnn, colsL]⟩
    clear k2
    intro add1 sub1 mul1 quo1 rem1 band1 bor1 bxor1 bclr1 shl1 shr1 ieq1 ilt1 ile1 seq1 slt1 beq1 bnot1 orb1 bcond1 iwrap1 iof1 ssz1 hA1 cat1 sq1 sl1 imin1 imax1 smin1 smax1 len1 slen1 u81 hL1 op1 hop1 call1 hcall1 code1 hcode1
    have hlen1 : len1 zs = Int.ofNat i := by rw [hL1.len, hzl]; rfl
    cbv
    rw [hlen1]
    refine vcIf.no (by first | (simp [hA1.not, hA1.eq, hA1.lt, hA1.le, hA1.cond, hA1.beq, hA1.orb, hL1.len, hL1.slen, hL1.sq, hi]; done) | (simp only [hi]; simp [hA1.not, hA1.eq, hA1.lt, hA1.le, hA1.cond, hA1.beq, hA1.orb, hL1.len, hL1.slen, hL1.sq, hi]; done) | (simp [hA1.not, hA1.eq, hA1.lt, hA1.le, hA1.cond, hA1.beq, hA1.orb, hL1.len, hL1.slen, hL1.sq, hi]; omega) | (simp only [hi]; simp [hA1.not, hA1.eq, hA1.lt, hA1.le, hA1.cond, hA1.beq, hA1.orb, hL1.len, hL1.slen, hL1.sq, hi]; omega)) ?_
    cbv
    refine ⟨true, ?_⟩
    cbv
    refine hcode _ _ _ (CodeEv.loop eOk fOk (ι := Nat × List PV) (fun s => [(0, .p (.sl zs)), (5, .vw 0 1 0 s.1 none), (6, .p (.int .i64 (Int.ofNat s.1)))])
      (fun s => [.arr 3 1 s.2]) (fun s => s.1 ≤ n ∧ s.2 = iP (colsL ls s.1) ∧ ∀ (q : Nat) (l : List Int) (k : Nat) (z : Int), k < s.1 → ls[q]? = some l → l[k]? = some z → okV z = true) (fun s => n - s.1) (0, []) ?_ ?_)
    · exact ⟨(by repeat (first | exact trivial | refine And.intro rfl ?_)), rfl, Nat.zero_le _, rfl, fun q l k z h => absurd h (Nat.not_lt_zero k)⟩
    rintro ⟨k, rs⟩ ⟨m1, m2, m3⟩ rd2 hrd2
    simp only at m1 m2 m3
    have hrl : rs.length = k := by rw [m2, iP_length, colsL_length]
    by_cases hkn : k < n
    · intro add2 sub2 mul2 quo2 rem2 band2 bor2 bxor2 bclr2 shl2 shr2 ieq2 ilt2 ile2 seq2 slt2 beq2 bnot2 orb2 bcond2 iwrap2 iof2 ssz2 hA2 cat2 sq2 sl2 imin2 imax2 smin2 smax2 len2 slen2 u82 hL2 op2 hop2 call2 hcall2 code2 hcode2
      have e2 : len2 y0 = Int.ofNat n := by rw [hL2.len, hy0l]; rfl
      have hadd2 : add2 .i64 (Int.ofNat k) 1 = Int.ofNat (k + 1) := by rw [hA2.add, IntWalk.i64_in _ (by simp only [Int.ofNat_eq_natCast]; omega)]; rfl
      cbv
      refine ⟨0, _, rfl, hzz0, rfl, ?_⟩
      cbv
      rw [e2]
      refine vcIf.yes (by first | (simp [hA2.not, hA2.eq, hA2.lt, hA2.le, hA2.cond, hA2.beq, hA2.orb, hL2.len, hL2.slen, hL2.sq, hkn]; done) | (simp only [hkn]; simp [hA2.not, hA2.eq, hA2.lt, hA2.le, hA2.cond, hA2.beq, hA2.orb, hL2.len, hL2.slen, hL2.sq, hkn]; done) | (simp [hA2.not, hA2.eq, hA2.lt, hA2.le, hA2.cond, hA2.beq, hA2.orb, hL2.len, hL2.slen, hL2.sq, hkn]; omega) | (simp only [hkn]; simp [hA2.not, hA2.eq, hA2.lt, hA2.le, hA2.cond, hA2.beq, hA2.orb, hL2.len, hL2.slen, hL2.sq, hkn]; omega)) ?_
      cbv
      refine hcode2 _ _ _ (CodeEv.loop eOk fOk (ι := Nat × Int) (fun s => [(0, .p (.sl zs)), (5, .vw 0 1 0 k none), (6, .p (.int .i64 (Int.ofNat k))), (7, .p (.int .i64 s.2)), (8, .p (.int .i64 (Int.ofNat s.1)))])
        (fun s => [.arr 3 1 rs]) (fun s => s.1 ≤ i ∧ s.2 = colM (ls.take s.1) k ∧ ∀ (q : Nat) (l : List Int) (z : Int), q < s.1 → ls[q]? = some l → l[k]? = some z → okV z = true) (fun s => i - s.1) (0, 1) ?_ ?_)
      · exact ⟨(by repeat (first | exact trivial | refine And.intro rfl ?_)), rfl, Nat.zero_le _, rfl, fun q l z h => absurd h (Nat.not_lt_zero q)⟩
      rintro ⟨j, x⟩ ⟨p1, p2, p3⟩ rd3 hrd3
      simp only at p1 p2 p3
      by_cases hj : j < i
      · refine Exists.elim (get_of_lt (show j < ls.length by omega)) fun l hl => ?_
        have hll := hlens j l hl
        refine Exists.elim (get_of_lt (show k < l.length by omega)) fun v hv => ?_
        have hzj : zs[j]? = some (.sl (iP l)) := by rw [hzs]; exact llP_get hl
        refine Exists.elim (show ∃ ys, ys = iP l from ⟨_, rfl⟩) fun ys hys => ?_
        rw [← hys] at hzj
        have hyk : ys[k]? = some (.int .i64 v) := by rw [hys]; exact iP_get hv
        have hnx := colM_next hl hv
        rw [← p2] at hnx
        intro add3 sub3 mul3 quo3 rem3 band3 bor3 bxor3 bclr3 shl3 shr3 ieq3 ilt3 ile3 seq3 slt3 beq3 bnot3 orb3 bcond3 iwrap3 iof3 ssz3 hA3 cat3 sq3 sl3 imin3 imax3 smin3 smax3 len3 slen3 u83 hL3 op3 hop3 call3 hcall3 code3 hcode3
        have hlen3 : len3 zs = Int.ofNat i := by rw [hL3.len, hzl]; rfl
        have hadd3 : add3 .i64 (Int.ofNat j) 1 = Int.ofNat (j + 1) := by rw [hA3.add, IntWalk.i64_in _ (by simp only [Int.ofNat_eq_natCast]; omega)]; rfl
        cbv
        refine vcIf.yes (by first | (simp [hA3.not, hA3.eq, hA3.lt, hA3.le, hA3.cond, hA3.beq, hA3.orb, hL3.len, hL3.slen, hL3.sq, hlen3, hj]; done) | (simp only [hlen3, hj]; simp [hA3.not, hA3.eq, hA3.lt, hA3.le, hA3.cond, hA3.beq, hA3.orb, hL3.len, hL3.slen, hL3.sq, hlen3, hj]; done) | (simp [hA3.not, hA3.eq, hA3.lt, hA3.le, hA3.cond, hA3.beq, hA3.orb, hL3.len, hL3.slen, hL3.sq, hlen3, hj]; omega) | (simp only [hlen3, hj]; simp [hA3.not, hA3.eq, hA3.lt, hA3.le, hA3.cond, hA3.beq, hA3.orb, hL3.len, hL3.slen, hL3.sq, hlen3, hj]; omega)) ?_
        cbv
        refine ⟨j, _, rfl, hzj, rfl, ?_⟩
        cbv
        refine ⟨k, _, rfl, hyk, rfl, ?_⟩
        cbv
        by_cases hv1 : v < 1
        · have hE := hbad j l k v hl hv (by simp [okV]; omega)
          refine vcIf.yes (by first | (simp [hA3.not, hA3.eq, hA3.lt, hA3.le, hA3.cond, hA3.beq, hA3.orb, hL3.len, hL3.slen, hL3.sq, hv1]; done) | (simp only [hv1]; simp [hA3.not, hA3.eq, hA3.lt, hA3.le, hA3.cond, hA3.beq, hA3.orb, hL3.len, hL3.slen, hL3.sq, hv1]; done) | (simp [hA3.not, hA3.eq, hA3.lt, hA3.le, hA3.cond, hA3.beq, hA3.orb, hL3.len, hL3.slen, hL3.sq, hv1]; omega) | (simp only [hv1]; simp [hA3.not, hA3.eq, hA3.lt, hA3.le, hA3.cond, hA3.beq, hA3.orb, hL3.len, hL3.slen, hL3.sq, hv1]; omega)) ?_
          cbv
          exact hret _ (RetEv.ret eOk rfl ⟨.nils, by rw [hE]; rfl, by rw [herr (by rw [hE]; decide)]; exact .nils⟩)
        refine vcIf.no (by first | (simp [hA3.not, hA3.eq, hA3.lt, hA3.le, hA3.cond, hA3.beq, hA3.orb, hL3.len, hL3.slen, hL3.sq, hv1]; done) | (simp only [hv1]; simp [hA3.not, hA3.eq, hA3.lt, hA3.le, hA3.cond, hA3.beq, hA3.orb, hL3.len, hL3.slen, hL3.sq, hv1]; done) | (simp [hA3.not, hA3.eq, hA3.lt, hA3.le, hA3.cond, hA3.beq, hA3.orb, hL3.len, hL3.slen, hL3.sq, hv1]; omega) | (simp only [hv1]; simp [hA3.not, hA3.eq, hA3.lt, hA3.le, hA3.cond, hA3.beq, hA3.orb, hL3.len, hL3.slen, hL3.sq, hv1]; omega)) ?_
        cbv
        refine ⟨j, _, rfl, hzj, rfl, ?_⟩
        cbv
        refine ⟨k, _, rfl, hyk, rfl, ?_⟩
        cbv
        by_cases hv3 : 3 < v
        · have hE := hbad j l k v hl hv (by simp [okV]; omega)
          refine vcIf.yes (by first | (simp [hA3.not, hA3.eq, hA3.lt, hA3.le, hA3.cond, hA3.beq, hA3.orb, hL3.len, hL3.slen, hL3.sq, hv3]; done) | (simp only [hv3]; simp [hA3.not, hA3.eq, hA3.lt, hA3.le, hA3.cond, hA3.beq, hA3.orb, hL3.len, hL3.slen, hL3.sq, hv3]; done) | (simp [hA3.not, hA3.eq, hA3.lt, hA3.le, hA3.cond, hA3.beq, hA3.orb, hL3.len, hL3.slen, hL3.sq, hv3]; omega) | (simp only [hv3]; simp [hA3.not, hA3.eq, hA3.lt, hA3.le, hA3.cond, hA3.beq, hA3.orb, hL3.len, hL3.slen, hL3.sq, hv3]; omega)) ?_
          cbv
          exact hret _ (RetEv.ret eOk rfl ⟨.nils, by rw [hE]; rfl, by rw [herr (by rw [hE]; decide)]; exact .nils⟩)
        have hok : okV v = true := by simp [okV]; omega
        refine vcIf.no (by first | (simp [hA3.not, hA3.eq, hA3.lt, hA3.le, hA3.cond, hA3.beq, hA3.orb, hL3.len, hL3.slen, hL3.sq, hv3]; done) | (simp only [hv3]; simp [hA3.not, hA3.eq, hA3.lt, hA3.le, hA3.cond, hA3.beq, hA3.orb, hL3.len, hL3.slen, hL3.sq, hv3]; done) | (simp [hA3.not, hA3.eq, hA3.lt, hA3.le, hA3.cond, hA3.beq, hA3.orb, hL3.len, hL3.slen, hL3.sq, hv3]; omega) | (simp only [hv3]; simp [hA3.not, hA3.eq, hA3.lt, hA3.le, hA3.cond, hA3.beq, hA3.orb, hL3.len, hL3.slen, hL3.sq, hv3]; omega)) ?_
        cbv
        refine ⟨j, _, rfl, hzj, rfl, ?_⟩
        cbv
        refine ⟨k, _, rfl, hyk, rfl, ?_⟩
        cbv
        by_cases hvx : x < v
        · refine vcIf.yes (by first | (simp [hA3.not, hA3.eq, hA3.lt, hA3.le, hA3.cond, hA3.beq, hA3.orb, hL3.len, hL3.slen, hL3.sq, hvx]; done) | (simp only [hvx]; simp [hA3.not, hA3.eq, hA3.lt, hA3.le, hA3.cond, hA3.beq, hA3.orb, hL3.len, hL3.slen, hL3.sq, hvx]; done) | (simp [hA3.not, hA3.eq, hA3.lt, hA3.le, hA3.cond, hA3.beq, hA3.orb, hL3.len, hL3.slen, hL3.sq, hvx]; omega) | (simp only [hvx]; simp [hA3.not, hA3.eq, hA3.lt, hA3.le, hA3.cond, hA3.beq, hA3.orb, hL3.len, hL3.slen, hL3.sq, hvx]; omega)) ?_
          cbv
          refine ⟨j, _, rfl, hzj, rfl, ?_⟩
          cbv
          refine ⟨k, _, rfl, hyk, rfl, ?_⟩
          cbv
          refine hrd3 _ ⟨(j + 1, v), _, ?_, ⟨hj, ?_, ?_⟩, rfl, ⟨rfl, rfl, rfl, rfl, ?_, trivial⟩, rfl, rfl, rfl, ?_⟩
          · simp only; omega
          · simp only; rw [hnx]; omega
          · intro q l' z hq hl' hz
            rcases Nat.lt_succ_iff_lt_or_eq.1 hq with c | c
            · exact p3 q l' z c hl' hz
            · rw [c, hl] at hl'; cases hl'; rw [hv] at hz; cases hz; exact hok
          · show some (V.p (.int .i64 _)) = _
            rw [hadd3]
          · rw [hB]; exact Nat.zero_le _
        · refine vcIf.no (by first | (simp [hA3.not, hA3.eq, hA3.lt, hA3.le, hA3.cond, hA3.beq, hA3.orb, hL3.len, hL3.slen, hL3.sq, hvx]; done) | (simp only [hvx]; simp [hA3.not, hA3.eq, hA3.lt, hA3.le, hA3.cond, hA3.beq, hA3.orb, hL3.len, hL3.slen, hL3.sq, hvx]; done) | (simp [hA3.not, hA3.eq, hA3.lt, hA3.le, hA3.cond, hA3.beq, hA3.orb, hL3.len, hL3.slen, hL3.sq, hvx]; omega) | (simp only [hvx]; simp [hA3.not, hA3.eq, hA3.lt, hA3.le, hA3.cond, hA3.beq, hA3.orb, hL3.len, hL3.slen, hL3.sq, hvx]; omega)) ?_
          cbv
          refine hrd3 _ ⟨(j + 1, x), _, ?_, ⟨hj, ?_, ?_⟩, rfl, ⟨rfl, rfl, rfl, rfl, ?_, trivial⟩, rfl, rfl, rfl, ?_⟩
          · simp only; omega
          · simp only; rw [hnx]; omega
          · intro q l' z hq hl' hz
            rcases Nat.lt_succ_iff_lt_or_eq.1 hq with c | c
            · exact p3 q l' z c hl' hz
            · rw [c, hl] at hl'; cases hl'; rw [hv] at hz; cases hz; exact hok
          · show some (V.p (.int .i64 _)) = _
            rw [hadd3]
          · rw [hB]; exact Nat.zero_le _
      · have hji : j = i := by omega
        intro add3 sub3 mul3 quo3 rem3 band3 bor3 bxor3 bclr3 shl3 shr3 ieq3 ilt3 ile3 seq3 slt3 beq3 bnot3 orb3 bcond3 iwrap3 iof3 ssz3 hA3 cat3 sq3 sl3 imin3 imax3 smin3 smax3 len3 slen3 u83 hL3 op3 hop3 call3 hcall3 code3 hcode3
        have hlen3 : len3 zs = Int.ofNat j := by rw [hL3.len, hzl, hji]; rfl
        cbv
        refine vcIf.no (by first | (simp [hA3.not, hA3.eq, hA3.lt, hA3.le, hA3.cond, hA3.beq, hA3.orb, hL3.len, hL3.slen, hL3.sq, hlen3]; done) | (simp only [hlen3]; simp [hA3.not, hA3.eq, hA3.lt, hA3.le, hA3.cond, hA3.beq, hA3.orb, hL3.len, hL3.slen, hL3.sq, hlen3]; done) | (simp [hA3.not, hA3.eq, hA3.lt, hA3.le, hA3.cond, hA3.beq, hA3.orb, hL3.len, hL3.slen, hL3.sq, hlen3]; omega) | (simp only [hlen3]; simp [hA3.not, hA3.eq, hA3.lt, hA3.le, hA3.cond, hA3.beq, hA3.orb, hL3.len, hL3.slen, hL3.sq, hlen3]; omega)) ?_
        cbv
        have p2 : x = colM ls k := by rw [p2, List.take_of_length_le (by omega)]
        refine ⟨false, ?_⟩
        cbv
        refine .inl ⟨(), rfl, hrl.symm, Wf.one (PV.wf1 rfl), ?_, ?_, ?_⟩
        · show k + 1 ≤ maxLen
          unfold maxLen; omega
        · show (k + 1) * 8 ≤ _
          omega
        intro us n' hu hn'
        replace hu : us = rs ++ [.int .i64 x] := hu
        replace hn' : n' = k + 1 := hn'
        cbv
        refine hrd2 _ ⟨(n', us), _, ?_, ⟨by simp only; omega, ?_, ?_⟩, rfl, ⟨rfl, rfl, ?_, trivial⟩, rfl, rfl, rfl, ?_⟩
        · simp only; omega
        · simp only; rw [hn', hu, m2, colsL_next, iP_append, p2]; rfl
        · intro q l' k' z hq hl' hz
          rcases Nat.lt_succ_iff_lt_or_eq.1 (show k' < k + 1 by simp only at hq; omega) with c | c
          · exact m3 q l' k' z c hl' hz
          · rw [c] at hz; exact p3 q l' z (by have := lt_of_some hl'; omega) hl' hz
        · show some (V.p (.int .i64 _)) = _
          rw [hadd2, hn']
        · rw [hB]; exact Nat.zero_le _
    · obtain rfl : k = n := by omega
      intro add2 sub2 mul2 quo2 rem2 band2 bor2 bxor2 bclr2 shl2 shr2 ieq2 ilt2 ile2 seq2 slt2 beq2 bnot2 orb2 bcond2 iwrap2 iof2 ssz2 hA2 cat2 sq2 sl2 imin2 imax2 smin2 smax2 len2 slen2 u82 hL2 op2 hop2 call2 hcall2 code2 hcode2
      have e2 : len2 y0 = Int.ofNat k := by rw [hL2.len, hy0l]; rfl
      cbv
      refine ⟨0, _, rfl, hzz0, rfl, ?_⟩
      cbv
      rw [e2]
      refine vcIf.no (by first | (simp [hA2.not, hA2.eq, hA2.lt, hA2.le, hA2.cond, hA2.beq, hA2.orb, hL2.len, hL2.slen, hL2.sq, hkn]; done) | (simp only [hkn]; simp [hA2.not, hA2.eq, hA2.lt, hA2.le, hA2.cond, hA2.beq, hA2.orb, hL2.len, hL2.slen, hL2.sq, hkn]; done) | (simp [hA2.not, hA2.eq, hA2.lt, hA2.le, hA2.cond, hA2.beq, hA2.orb, hL2.len, hL2.slen, hL2.sq, hkn]; omega) | (simp only [hkn]; simp [hA2.not, hA2.eq, hA2.lt, hA2.le, hA2.cond, hA2.beq, hA2.orb, hL2.len, hL2.slen, hL2.sq, hkn]; omega)) ?_
      cbv
      obtain ⟨g1, g2⟩ := hgood fun q l k' z hk' hl hz => m3 q l k' z hk' hl hz
      refine hret _ (RetEv.retF eOk rfl 0 rfl (by rw [hB]; exact Nat.zero_le _) ⟨.sl rs, ?_, by rw [g2, m2]; exact .refl _⟩)
      rw [g1]
      show V.p (.tup [.sl ((rs.drop 0).take k), .int .i64 0]) = _
      rw [frz_full hrl]
end Go.Proofs.Ytocmeaamaecgeaa
