/- What a change names, and what changes do to the keys of a span. Conditions: on sizes. -/
import Derived.Test.YtknhlbohjiphgaaLSq1
set_option maxRecDepth 100000
set_option maxHeartbeats 8000000
set_option linter.unusedSimpArgs false
set_option linter.unusedVariables false
namespace Go.Proofs.Ytknhlbohjiphgaa
open Go Go.Lx
open Go.Sx (vcIf)

theorem chSpan_spec (k : Int) (ky vl : List UInt8) (hk : ky.length < 140737488355328) : FnL Try.prog 42 [.p (.agg [.int .i64 k, .str ky, .str vl])] [] fun v own => ∃ m, m = spn ⟨k, ky, vl⟩ ∧ v = .p (.agg [.str m.lo, .str m.hi]) ∧ own = [] := by
  obtain ⟨⟨lo, hi⟩, hm⟩ : ∃ m, m = spn ⟨k, ky, vl⟩ := ⟨_, rfl⟩
  rw [← hm]
  unfold spn at hm
  simp only at hm
  refine FnL.flat (R := fun v own => v = .p (.agg [.str lo, .str hi])) ?_ (by rintro _ _ rfl; exact ⟨_, _, rfl, .refl _, ⟨lo, hi⟩, rfl, rfl, rfl⟩)
  have hnx := next_spec ky (by omega)
  refine fn_of_vc eOk fOk fo42 Try.func42 rfl rfl rfl fun B hB => ?_
  by_cases h3 : k = 3
  · rw [if_pos h3] at hm
    obtain ⟨g1, g2⟩ := Spn.mk.inj hm
    intro add sub mul quo rem band bor bxor bclr shl shr ieq ilt ile seq slt beq bnot orb bcond iwrap iof ssz hA cat sq sl imin imax smin smax len slen u8 hL op hop call hcall code hcode ret hret
    cbv
    refine vcIf.yes (by first | (simp [hA.not, hA.eq, hA.lt, hA.le, hA.cond, hA.beq, hA.orb, hL.len, hL.slen, hL.sq, h3]; done) | (simp only [h3]; simp [hA.not, hA.eq, hA.lt, hA.le, hA.cond, hA.beq, hA.orb, hL.len, hL.slen, hL.sq, h3]; done) | (simp [hA.not, hA.eq, hA.lt, hA.le, hA.cond, hA.beq, hA.orb, hL.len, hL.slen, hL.sq, h3]; omega) | (simp only [h3]; simp [hA.not, hA.eq, hA.lt, hA.le, hA.cond, hA.beq, hA.orb, hL.len, hL.slen, hL.sq, h3]; omega)) ?_
    cbv
    exact hret _ (RetEv.ret eOk rfl (by rw [g1, g2]; rfl))
  · rw [if_neg h3] at hm
    obtain ⟨g1, g2⟩ := Spn.mk.inj hm
    intro add sub mul quo rem band bor bxor bclr shl shr ieq ilt ile seq slt beq bnot orb bcond iwrap iof ssz hA cat sq sl imin imax smin smax len slen u8 hL op hop call hcall code hcode ret hret
    cbv
    refine vcIf.no (by first | (simp [hA.not, hA.eq, hA.lt, hA.le, hA.cond, hA.beq, hA.orb, hL.len, hL.slen, hL.sq, h3]; done) | (simp only [h3]; simp [hA.not, hA.eq, hA.lt, hA.le, hA.cond, hA.beq, hA.orb, hL.len, hL.slen, hL.sq, h3]; done) | (simp [hA.not, hA.eq, hA.lt, hA.le, hA.cond, hA.beq, hA.orb, hL.len, hL.slen, hL.sq, h3]; omega) | (simp only [h3]; simp [hA.not, hA.eq, hA.lt, hA.le, hA.cond, hA.beq, hA.orb, hL.len, hL.slen, hL.sq, h3]; omega)) ?_
    cbv
    refine hcode _ _ _ (CodeEv.drawA eOk fOk (by kernel_rfl) (Xof 1 [1]) (by kernel_rfl) (by kernel_rfl) (by kernel_rfl) ?_)
    intro add1 sub1 mul1 quo1 rem1 band1 bor1 bxor1 bclr1 shl1 shr1 ieq1 ilt1 ile1 seq1 slt1 beq1 bnot1 orb1 bcond1 iwrap1 iof1 ssz1 hA1 cat1 sq1 sl1 imin1 imax1 smin1 smax1 len1 slen1 u81 hL1 op1 hop1 call1 hcall1 code1 hcode1 q1 hq1
    cbv
    refine hcall1 _ _ _ _ _ (CallEv.same hnx rfl ?_)
    rintro _ _ ⟨nk, hnk, rfl, rfl⟩
    cbv
    refine hq1 _ ?_
    cbv
    exact hret _ (RetEv.ret eOk rfl (by rw [g1, g2, hnk]; rfl))
theorem rSpan_spec (k : Int) (ky vl : List UInt8) (hk : ky.length < 140737488355328) : FnL Try.prog 45 [.p (.agg [.int .i64 k, .str ky, .str vl])] [] fun v own => ∃ m, m = spn ⟨k, ky, vl⟩ ∧ v = .p (.agg [.str m.lo, .str m.hi]) ∧ own = [] := by
  obtain ⟨⟨lo, hi⟩, hm⟩ : ∃ m, m = spn ⟨k, ky, vl⟩ := ⟨_, rfl⟩
  rw [← hm]
  unfold spn at hm
  simp only at hm
  obtain ⟨n, hn⟩ : ∃ n, n = ky.length := ⟨_, rfl⟩
  have hn1 : n + 1 ≤ 9223372036854775807 := by omega
  refine FnL.flat (R := fun v own => v = .p (.agg [.str lo, .str hi])) ?_ (by rintro _ _ rfl; exact ⟨_, _, rfl, .refl _, ⟨lo, hi⟩, rfl, rfl, rfl⟩)
  refine fn_of_vc eOk fOk fo45 Try.func45 rfl rfl rfl fun B hB => ?_
  by_cases h3 : k = 3
  · rw [if_pos h3] at hm
    obtain ⟨g1, g2⟩ := Spn.mk.inj hm
    intro add sub mul quo rem band bor bxor bclr shl shr ieq ilt ile seq slt beq bnot orb bcond iwrap iof ssz hA cat sq sl imin imax smin smax len slen u8 hL op hop call hcall code hcode ret hret
    cbv
    refine vcIf.yes (by first | (simp [hA.not, hA.eq, hA.lt, hA.le, hA.cond, hA.beq, hA.orb, hL.len, hL.slen, hL.sq, h3]; done) | (simp only [h3]; simp [hA.not, hA.eq, hA.lt, hA.le, hA.cond, hA.beq, hA.orb, hL.len, hL.slen, hL.sq, h3]; done) | (simp [hA.not, hA.eq, hA.lt, hA.le, hA.cond, hA.beq, hA.orb, hL.len, hL.slen, hL.sq, h3]; omega) | (simp only [h3]; simp [hA.not, hA.eq, hA.lt, hA.le, hA.cond, hA.beq, hA.orb, hL.len, hL.slen, hL.sq, h3]; omega)) ?_
    cbv
    exact hret _ (RetEv.ret eOk rfl (by rw [g1, g2]; rfl))
  · rw [if_neg h3] at hm
    obtain ⟨g1, g2⟩ := Spn.mk.inj hm
    intro add sub mul quo rem band bor bxor bclr shl shr ieq ilt ile seq slt beq bnot orb bcond iwrap iof ssz hA cat sq sl imin imax smin smax len slen u8 hL op hop call hcall code hcode ret hret
    have hcat : cat ky [0] = ky ++ [0] := hL.cat _ _
    cbv
    refine vcIf.no (by first | (simp [hA.not, hA.eq, hA.lt, hA.le, hA.cond, hA.beq, hA.orb, hL.len, hL.slen, hL.sq, h3]; done) | (simp only [h3]; simp [hA.not, hA.eq, hA.lt, hA.le, hA.cond, hA.beq, hA.orb, hL.len, hL.slen, hL.sq, h3]; done) | (simp [hA.not, hA.eq, hA.lt, hA.le, hA.cond, hA.beq, hA.orb, hL.len, hL.slen, hL.sq, h3]; omega) | (simp only [h3]; simp [hA.not, hA.eq, hA.lt, hA.le, hA.cond, hA.beq, hA.orb, hL.len, hL.slen, hL.sq, h3]; omega)) ?_
    cbv
    refine ⟨(), by rw [← hn]; exact hn1, ?_⟩
    cbv
    exact hret _ (RetEv.ret eOk rfl (by rw [g1, g2, ← hcat]; rfl))

def cut1 (s : Spn) (c : Chg) : List Chg :=
  if c.kind = 3 then (if Op.bytesLess (mt s (spn c)).lo (mt s (spn c)).hi then [⟨3, (mt s (spn c)).lo, (mt s (spn c)).hi⟩] else []) else if hs s c.key then [c] else []
def cutL (s : Spn) (l : List Chg) : List Chg := l.flatMap (cut1 s)
theorem cutL_next (s : Spn) {l : List Chg} {i : Nat} {c : Chg} (h : l[i]? = some c) : cutL s (l.take (i + 1)) = cutL s (l.take i) ++ cut1 s c := by
  rw [List.take_add_one, h, cutL, List.flatMap_append]; simp [cutL]
theorem cut1_len (s : Spn) (c : Chg) : (cut1 s c).length ≤ 1 := by
  unfold cut1; split
  · split <;> simp
  · split <;> simp
theorem cutL_len (s : Spn) : ∀ l, (cutL s l).length ≤ l.length
  | [] => Nat.le_refl _
  | c :: l => by
    have := cutL_len s l
    have h1 := cut1_len s c
    simp only [cutL, List.flatMap_cons, List.length_append, List.length_cons] at this ⊢
    omega

theorem rCut_spec (s : Spn) (l : List Chg) (hf : ∀ c ∈ l, c.fit) (hn : l.length * 40 ≤ 140737488355328) (zs : List PV) (hzs : zs = cP l) :
    FnL Try.prog 31 [.p (.agg [.str s.lo, .str s.hi]), .p (.sl zs)] [] fun v own => v = .p (.sl (cP (cutL s l))) ∧ own = [] := by
  obtain ⟨R, hR⟩ : ∃ R, R = cP (cutL s l) := ⟨_, rfl⟩
  rw [← hR]
  refine FnL.flat (R := fun v own => v = .p (.sl R)) ?_ (by rintro _ _ rfl; exact ⟨_, _, rfl, .refl _, rfl, rfl⟩)
  obtain ⟨N, hN⟩ : ∃ n, n = l.length := ⟨_, rfl⟩
  have hzl : zs.length = N := by rw [hzs, cP_length, hN]
  obtain ⟨sa, hsa⟩ : ∃ x, x = s.lo := ⟨_, rfl⟩
  obtain ⟨sb, hsb⟩ : ∃ x, x = s.hi := ⟨_, rfl⟩
  have hse : s = ⟨sa, sb⟩ := by rw [hsa, hsb]
  rw [← hsa, ← hsb]
  refine fn_of_vc eOk fOk fo31 Try.func31 rfl rfl rfl fun B hB => ?_
  intro add sub mul quo rem band bor bxor bclr shl shr ieq ilt ile seq slt beq bnot orb bcond iwrap iof ssz hA cat sq sl imin imax smin smax len slen u8 hL op hop call hcall code hcode ret hret
  cbv
  refine ⟨true, ?_⟩
  cbv
  refine hcode _ _ _ (CodeEv.loop eOk fOk (ι := Nat × Nat × List PV) (fun q => [(1, .p (.sl zs)), (2, .own 0 0), (5, .vw 1 3 0 q.2.1 none), (6, .p (.int .i64 (Int.ofNat q.1)))])
    (fun q => [.st 31 [.p (.str sa), .p (.str sb)], .arr 66 3 q.2.2]) (fun q => q.1 ≤ N ∧ q.2.1 ≤ q.1 ∧ q.2.2.length = q.2.1 ∧ q.2.2 = cP (cutL s (l.take q.1))) (fun q => N - q.1) (0, 0, []) ?_ ?_)
  · exact ⟨(by repeat (first | exact trivial | refine And.intro rfl ?_)), rfl, Nat.zero_le _, Nat.le_refl _, rfl, rfl⟩
  rintro ⟨i, k, us⟩ ⟨k1, k2, k3, k4⟩ rd hrd
  simp only at k1 k2 k3 k4
  by_cases hi : i < N
  · refine Exists.elim (get_of_lt (show i < l.length by omega)) fun c hc => ?_
    obtain ⟨kd, ky, vl⟩ := c
    have hzi : zs[i]? = some (.agg [.int .i64 kd, .str ky, .str vl]) := by rw [hzs]; exact cP_get hc
    have hcf := (hf _ (List.mem_of_getElem? hc)).1
    simp only at hcf
    have hsp := rSpan_spec kd ky vl hcf
    have hmt := rmeet_spec sa sb (spn ⟨kd, ky, vl⟩).lo (spn ⟨kd, ky, vl⟩).hi
    have hhas := rhas_spec sa sb ky
    have hnx := cutL_next s hc
    have hc1 : kd = 3 → cut1 s ⟨kd, ky, vl⟩ = if Op.bytesLess (mt ⟨sa, sb⟩ (spn ⟨kd, ky, vl⟩)).lo (mt ⟨sa, sb⟩ (spn ⟨kd, ky, vl⟩)).hi then [⟨3, (mt ⟨sa, sb⟩ (spn ⟨kd, ky, vl⟩)).lo, (mt ⟨sa, sb⟩ (spn ⟨kd, ky, vl⟩)).hi⟩] else [] := fun h => by rw [cut1, if_pos h, hse]
    have hc2 : kd ≠ 3 → cut1 s ⟨kd, ky, vl⟩ = if hs ⟨sa, sb⟩ ky then [⟨kd, ky, vl⟩] else [] := fun h => by rw [cut1, if_neg h, hse]
    refine Exists.elim (show ∃ b, b = hs ⟨sa, sb⟩ ky from ⟨_, rfl⟩) fun b hb => ?_
    rw [← hb] at hc2
    rw [show (!(bl ky sa) && bl ky sb) = b from hb.symm] at hhas
    refine Exists.elim (show ∃ x, x = spn ⟨kd, ky, vl⟩ from ⟨_, rfl⟩) fun p hp => ?_
    rw [← hp] at hsp hmt hc1
    clear hp
    obtain ⟨pl, ph⟩ := p
    refine Exists.elim (show ∃ x, x = mt ⟨sa, sb⟩ ⟨pl, ph⟩ from ⟨_, rfl⟩) fun m hm => ?_
    rw [← hm] at hmt hc1
    clear hm
    obtain ⟨ml, mh⟩ := m
    simp only at hsp hmt hc1
    intro add1 sub1 mul1 quo1 rem1 band1 bor1 bxor1 bclr1 shl1 shr1 ieq1 ilt1 ile1 seq1 slt1 beq1 bnot1 orb1 bcond1 iwrap1 iof1 ssz1 hA1 cat1 sq1 sl1 imin1 imax1 smin1 smax1 len1 slen1 u81 hL1 op1 hop1 call1 hcall1 code1 hcode1
    have e0 : len1 zs = Int.ofNat N := by rw [hL1.len, hzl]; rfl
    have hadd1 : add1 .i64 (Int.ofNat i) 1 = Int.ofNat (i + 1) := by rw [hA1.add, IntWalk.i64_in _ (by simp only [Int.ofNat_eq_natCast]; omega)]; rfl
    cbv
    refine vcIf.yes (by first | (simp [hA1.not, hA1.eq, hA1.lt, hA1.le, hA1.cond, hA1.beq, hA1.orb, hL1.len, hL1.slen, hL1.sq, e0, hi]; done) | (simp only [e0, hi]; simp [hA1.not, hA1.eq, hA1.lt, hA1.le, hA1.cond, hA1.beq, hA1.orb, hL1.len, hL1.slen, hL1.sq, e0, hi]; done) | (simp [hA1.not, hA1.eq, hA1.lt, hA1.le, hA1.cond, hA1.beq, hA1.orb, hL1.len, hL1.slen, hL1.sq, e0, hi]; omega) | (simp only [e0, hi]; simp [hA1.not, hA1.eq, hA1.lt, hA1.le, hA1.cond, hA1.beq, hA1.orb, hL1.len, hL1.slen, hL1.sq, e0, hi]; omega)) ?_
    cbv
    refine ⟨i, _, rfl, hzi, rfl, ?_⟩
    cbv
    refine hcode1 _ _ _ (CodeEv.drawT eOk fOk (by kernel_rfl) (Xof 3 []) (.rd 0 (.rd 1 (.acts (.cons 2 (.acts (.cons 3 (.acts (.cons 4 (.acts (.cons 5 (.done) (.nil))) (.nil))) (.cons 4 (.acts (.cons 3 (.acts (.cons 5 (.done) (.nil))) (.nil))) (.nil)))) (.cons 4 (.acts (.cons 2 (.acts (.cons 3 (.acts (.cons 5 (.done) (.nil))) (.nil))) (.nil))) (.nil)))))) (by kernel_rfl) (by kernel_rfl) ?_)
    intro add2 sub2 mul2 quo2 rem2 band2 bor2 bxor2 bclr2 shl2 shr2 ieq2 ilt2 ile2 seq2 slt2 beq2 bnot2 orb2 bcond2 iwrap2 iof2 ssz2 hA2 cat2 sq2 sl2 imin2 imax2 smin2 smax2 len2 slen2 u82 hL2 op2 hop2 call2 hcall2 code2 hcode2 q2 hq2
    cbv
    refine ⟨?_, ?_⟩
    · refine hcall2 _ _ _ _ _ (CallEv.same hsp rfl ?_)
      rintro _ _ ⟨_, rfl, rfl, rfl⟩
      cbv
      refine ⟨?_, ?_⟩
      · refine hcall2 _ _ _ _ _ (CallEv.same hmt rfl ?_)
        rintro _ _ ⟨_, rfl, rfl, rfl⟩
        cbv
        refine hq2 _ ?_
        cbv
        by_cases h3 : kd = 3
        · have hc1 := hc1 h3
          refine vcIf.yes (by first | (simp [hA1.not, hA1.eq, hA1.lt, hA1.le, hA1.cond, hA1.beq, hA1.orb, hL1.len, hL1.slen, hL1.sq, h3]; done) | (simp only [h3]; simp [hA1.not, hA1.eq, hA1.lt, hA1.le, hA1.cond, hA1.beq, hA1.orb, hL1.len, hL1.slen, hL1.sq, h3]; done) | (simp [hA1.not, hA1.eq, hA1.lt, hA1.le, hA1.cond, hA1.beq, hA1.orb, hL1.len, hL1.slen, hL1.sq, h3]; omega) | (simp only [h3]; simp [hA1.not, hA1.eq, hA1.lt, hA1.le, hA1.cond, hA1.beq, hA1.orb, hL1.len, hL1.slen, hL1.sq, h3]; omega)) ?_
          cbv
          by_cases hlt : Op.bytesLess ml mh = true
          · rw [if_pos hlt] at hc1
            refine vcIf.yes (by rw [hA1.cond, hL1.sl]; simp [hlt, cond]) ?_
            cbv
            refine ⟨false, ?_⟩
            cbv
            refine .inl ⟨(), rfl, k3.symm, Wf.one (Chg.wf ⟨3, ml, mh⟩), ?_, ?_, ?_⟩
            · show k + 1 ≤ maxLen
              unfold maxLen; omega
            · show (k + 1) * 40 ≤ _
              omega
            intro us' n' hu hn'
            replace hu : us' = us ++ [Chg.v ⟨3, ml, mh⟩] := hu
            replace hn' : n' = k + 1 := hn'
            cbv
            refine vcIf.no (by first | (simp [hA1.not, hA1.eq, hA1.lt, hA1.le, hA1.cond, hA1.beq, hA1.orb, hL1.len, hL1.slen, hL1.sq, h3]; done) | (simp only [h3]; simp [hA1.not, hA1.eq, hA1.lt, hA1.le, hA1.cond, hA1.beq, hA1.orb, hL1.len, hL1.slen, hL1.sq, h3]; done) | (simp [hA1.not, hA1.eq, hA1.lt, hA1.le, hA1.cond, hA1.beq, hA1.orb, hL1.len, hL1.slen, hL1.sq, h3]; omega) | (simp only [h3]; simp [hA1.not, hA1.eq, hA1.lt, hA1.le, hA1.cond, hA1.beq, hA1.orb, hL1.len, hL1.slen, hL1.sq, h3]; omega)) ?_
            cbv
            refine hrd _ ⟨(i + 1, n', us'), _, ?_, ⟨by simp only; omega, ?_, ?_, ?_⟩, rfl, ⟨rfl, rfl, rfl, ?_, trivial⟩, rfl, rfl, rfl, ?_⟩
            · simp only; omega
            · simp only; omega
            · simp only; rw [hu, hn', List.length_append, k3]; rfl
            · simp only; rw [hnx, hc1, hu, k4]; simp [cP]
            · show some (V.p (.int .i64 _)) = _
              rw [hadd1]
            · rw [hB]; exact Nat.zero_le _
          · rw [if_neg hlt, ] at hc1
            refine vcIf.no (by rw [hA1.cond, hL1.sl]; simp [hlt, cond]) ?_
            cbv
            refine vcIf.no (by first | (simp [hA1.not, hA1.eq, hA1.lt, hA1.le, hA1.cond, hA1.beq, hA1.orb, hL1.len, hL1.slen, hL1.sq, h3]; done) | (simp only [h3]; simp [hA1.not, hA1.eq, hA1.lt, hA1.le, hA1.cond, hA1.beq, hA1.orb, hL1.len, hL1.slen, hL1.sq, h3]; done) | (simp [hA1.not, hA1.eq, hA1.lt, hA1.le, hA1.cond, hA1.beq, hA1.orb, hL1.len, hL1.slen, hL1.sq, h3]; omega) | (simp only [h3]; simp [hA1.not, hA1.eq, hA1.lt, hA1.le, hA1.cond, hA1.beq, hA1.orb, hL1.len, hL1.slen, hL1.sq, h3]; omega)) ?_
            cbv
            refine hrd _ ⟨(i + 1, k, us), _, ?_, ⟨by simp only; omega, ?_, ?_, ?_⟩, rfl, ⟨rfl, rfl, rfl, ?_, trivial⟩, rfl, rfl, rfl, ?_⟩
            · simp only; omega
            · simp only; omega
            · exact k3
            · simp only; rw [hnx, hc1, k4]; simp
            · show some (V.p (.int .i64 _)) = _
              rw [hadd1]
            · rw [hB]; exact Nat.zero_le _
        · have hc2 := hc2 h3
          refine vcIf.no (by first | (simp [hA1.not, hA1.eq, hA1.lt, hA1.le, hA1.cond, hA1.beq, hA1.orb, hL1.len, hL1.slen, hL1.sq, h3]; done) | (simp only [h3]; simp [hA1.not, hA1.eq, hA1.lt, hA1.le, hA1.cond, hA1.beq, hA1.orb, hL1.len, hL1.slen, hL1.sq, h3]; done) | (simp [hA1.not, hA1.eq, hA1.lt, hA1.le, hA1.cond, hA1.beq, hA1.orb, hL1.len, hL1.slen, hL1.sq, h3]; omega) | (simp only [h3]; simp [hA1.not, hA1.eq, hA1.lt, hA1.le, hA1.cond, hA1.beq, hA1.orb, hL1.len, hL1.slen, hL1.sq, h3]; omega)) ?_
          cbv
          refine vcIf.yes (by first | (simp [hA1.not, hA1.eq, hA1.lt, hA1.le, hA1.cond, hA1.beq, hA1.orb, hL1.len, hL1.slen, hL1.sq, h3]; done) | (simp only [h3]; simp [hA1.not, hA1.eq, hA1.lt, hA1.le, hA1.cond, hA1.beq, hA1.orb, hL1.len, hL1.slen, hL1.sq, h3]; done) | (simp [hA1.not, hA1.eq, hA1.lt, hA1.le, hA1.cond, hA1.beq, hA1.orb, hL1.len, hL1.slen, hL1.sq, h3]; omega) | (simp only [h3]; simp [hA1.not, hA1.eq, hA1.lt, hA1.le, hA1.cond, hA1.beq, hA1.orb, hL1.len, hL1.slen, hL1.sq, h3]; omega)) ?_
          cbv
          refine hcall1 _ _ _ _ _ (CallEv.same hhas rfl ?_)
          rintro _ _ ⟨rfl, rfl⟩
          cbv
          by_cases hbb : b = true
          · rw [if_pos hbb] at hc2
            refine vcIf.yes (by first | (simp [hA1.not, hA1.eq, hA1.lt, hA1.le, hA1.cond, hA1.beq, hA1.orb, hL1.len, hL1.slen, hL1.sq, hbb]; done) | (simp only [hbb]; simp [hA1.not, hA1.eq, hA1.lt, hA1.le, hA1.cond, hA1.beq, hA1.orb, hL1.len, hL1.slen, hL1.sq, hbb]; done) | (simp [hA1.not, hA1.eq, hA1.lt, hA1.le, hA1.cond, hA1.beq, hA1.orb, hL1.len, hL1.slen, hL1.sq, hbb]; omega) | (simp only [hbb]; simp [hA1.not, hA1.eq, hA1.lt, hA1.le, hA1.cond, hA1.beq, hA1.orb, hL1.len, hL1.slen, hL1.sq, hbb]; omega)) ?_
            cbv
            refine ⟨false, ?_⟩
            cbv
            refine .inl ⟨(), rfl, k3.symm, Wf.one (Chg.wf ⟨kd, ky, vl⟩), ?_, ?_, ?_⟩
            · show k + 1 ≤ maxLen
              unfold maxLen; omega
            · show (k + 1) * 40 ≤ _
              omega
            intro us' n' hu hn'
            replace hu : us' = us ++ [Chg.v ⟨kd, ky, vl⟩] := hu
            replace hn' : n' = k + 1 := hn'
            cbv
            refine hrd _ ⟨(i + 1, n', us'), _, ?_, ⟨by simp only; omega, ?_, ?_, ?_⟩, rfl, ⟨rfl, rfl, rfl, ?_, trivial⟩, rfl, rfl, rfl, ?_⟩
            · simp only; omega
            · simp only; omega
            · simp only; rw [hu, hn', List.length_append, k3]; rfl
            · simp only; rw [hnx, hc2, hu, k4]; simp [cP]
            · show some (V.p (.int .i64 _)) = _
              rw [hadd1]
            · rw [hB]; exact Nat.zero_le _
          · rw [if_neg hbb] at hc2
            refine vcIf.no (by first | (simp [hA1.not, hA1.eq, hA1.lt, hA1.le, hA1.cond, hA1.beq, hA1.orb, hL1.len, hL1.slen, hL1.sq, hbb]; done) | (simp only [hbb]; simp [hA1.not, hA1.eq, hA1.lt, hA1.le, hA1.cond, hA1.beq, hA1.orb, hL1.len, hL1.slen, hL1.sq, hbb]; done) | (simp [hA1.not, hA1.eq, hA1.lt, hA1.le, hA1.cond, hA1.beq, hA1.orb, hL1.len, hL1.slen, hL1.sq, hbb]; omega) | (simp only [hbb]; simp [hA1.not, hA1.eq, hA1.lt, hA1.le, hA1.cond, hA1.beq, hA1.orb, hL1.len, hL1.slen, hL1.sq, hbb]; omega)) ?_
            cbv
            refine hrd _ ⟨(i + 1, k, us), _, ?_, ⟨by simp only; omega, ?_, ?_, ?_⟩, rfl, ⟨rfl, rfl, rfl, ?_, trivial⟩, rfl, rfl, rfl, ?_⟩
            · simp only; omega
            · simp only; omega
            · exact k3
            · simp only; rw [hnx, hc2, k4]; simp
            · show some (V.p (.int .i64 _)) = _
              rw [hadd1]
            · rw [hB]; exact Nat.zero_le _
      · refine hcall2 _ _ _ _ _ (CallEv.same hmt rfl ?_)
        rintro _ _ ⟨_, rfl, rfl, rfl⟩
        cbv
        refine hq2 _ ?_
        cbv
        by_cases h3 : kd = 3
        · have hc1 := hc1 h3
          refine vcIf.yes (by first | (simp [hA1.not, hA1.eq, hA1.lt, hA1.le, hA1.cond, hA1.beq, hA1.orb, hL1.len, hL1.slen, hL1.sq, h3]; done) | (simp only [h3]; simp [hA1.not, hA1.eq, hA1.lt, hA1.le, hA1.cond, hA1.beq, hA1.orb, hL1.len, hL1.slen, hL1.sq, h3]; done) | (simp [hA1.not, hA1.eq, hA1.lt, hA1.le, hA1.cond, hA1.beq, hA1.orb, hL1.len, hL1.slen, hL1.sq, h3]; omega) | (simp only [h3]; simp [hA1.not, hA1.eq, hA1.lt, hA1.le, hA1.cond, hA1.beq, hA1.orb, hL1.len, hL1.slen, hL1.sq, h3]; omega)) ?_
          cbv
          by_cases hlt : Op.bytesLess ml mh = true
          · rw [if_pos hlt] at hc1
            refine vcIf.yes (by rw [hA1.cond, hL1.sl]; simp [hlt, cond]) ?_
            cbv
            refine ⟨false, ?_⟩
            cbv
            refine .inl ⟨(), rfl, k3.symm, Wf.one (Chg.wf ⟨3, ml, mh⟩), ?_, ?_, ?_⟩
            · show k + 1 ≤ maxLen
              unfold maxLen; omega
            · show (k + 1) * 40 ≤ _
              omega
            intro us' n' hu hn'
            replace hu : us' = us ++ [Chg.v ⟨3, ml, mh⟩] := hu
            replace hn' : n' = k + 1 := hn'
            cbv
            refine vcIf.no (by first | (simp [hA1.not, hA1.eq, hA1.lt, hA1.le, hA1.cond, hA1.beq, hA1.orb, hL1.len, hL1.slen, hL1.sq, h3]; done) | (simp only [h3]; simp [hA1.not, hA1.eq, hA1.lt, hA1.le, hA1.cond, hA1.beq, hA1.orb, hL1.len, hL1.slen, hL1.sq, h3]; done) | (simp [hA1.not, hA1.eq, hA1.lt, hA1.le, hA1.cond, hA1.beq, hA1.orb, hL1.len, hL1.slen, hL1.sq, h3]; omega) | (simp only [h3]; simp [hA1.not, hA1.eq, hA1.lt, hA1.le, hA1.cond, hA1.beq, hA1.orb, hL1.len, hL1.slen, hL1.sq, h3]; omega)) ?_
            cbv
            refine hrd _ ⟨(i + 1, n', us'), _, ?_, ⟨by simp only; omega, ?_, ?_, ?_⟩, rfl, ⟨rfl, rfl, rfl, ?_, trivial⟩, rfl, rfl, rfl, ?_⟩
            · simp only; omega
            · simp only; omega
            · simp only; rw [hu, hn', List.length_append, k3]; rfl
            · simp only; rw [hnx, hc1, hu, k4]; simp [cP]
            · show some (V.p (.int .i64 _)) = _
              rw [hadd1]
            · rw [hB]; exact Nat.zero_le _
          · rw [if_neg hlt, ] at hc1
            refine vcIf.no (by rw [hA1.cond, hL1.sl]; simp [hlt, cond]) ?_
            cbv
            refine vcIf.no (by first | (simp [hA1.not, hA1.eq, hA1.lt, hA1.le, hA1.cond, hA1.beq, hA1.orb, hL1.len, hL1.slen, hL1.sq, h3]; done) | (simp only [h3]; simp [hA1.not, hA1.eq, hA1.lt, hA1.le, hA1.cond, hA1.beq, hA1.orb, hL1.len, hL1.slen, hL1.sq, h3]; done) | (simp [hA1.not, hA1.eq, hA1.lt, hA1.le, hA1.cond, hA1.beq, hA1.orb, hL1.len, hL1.slen, hL1.sq, h3]; omega) | (simp only [h3]; simp [hA1.not, hA1.eq, hA1.lt, hA1.le, hA1.cond, hA1.beq, hA1.orb, hL1.len, hL1.slen, hL1.sq, h3]; omega)) ?_
            cbv
            refine hrd _ ⟨(i + 1, k, us), _, ?_, ⟨by simp only; omega, ?_, ?_, ?_⟩, rfl, ⟨rfl, rfl, rfl, ?_, trivial⟩, rfl, rfl, rfl, ?_⟩
            · simp only; omega
            · simp only; omega
            · exact k3
            · simp only; rw [hnx, hc1, k4]; simp
            · show some (V.p (.int .i64 _)) = _
              rw [hadd1]
            · rw [hB]; exact Nat.zero_le _
        · have hc2 := hc2 h3
          refine vcIf.no (by first | (simp [hA1.not, hA1.eq, hA1.lt, hA1.le, hA1.cond, hA1.beq, hA1.orb, hL1.len, hL1.slen, hL1.sq, h3]; done) | (simp only [h3]; simp [hA1.not, hA1.eq, hA1.lt, hA1.le, hA1.cond, hA1.beq, hA1.orb, hL1.len, hL1.slen, hL1.sq, h3]; done) | (simp [hA1.not, hA1.eq, hA1.lt, hA1.le, hA1.cond, hA1.beq, hA1.orb, hL1.len, hL1.slen, hL1.sq, h3]; omega) | (simp only [h3]; simp [hA1.not, hA1.eq, hA1.lt, hA1.le, hA1.cond, hA1.beq, hA1.orb, hL1.len, hL1.slen, hL1.sq, h3]; omega)) ?_
          cbv
          refine vcIf.yes (by first | (simp [hA1.not, hA1.eq, hA1.lt, hA1.le, hA1.cond, hA1.beq, hA1.orb, hL1.len, hL1.slen, hL1.sq, h3]; done) | (simp only [h3]; simp [hA1.not, hA1.eq, hA1.lt, hA1.le, hA1.cond, hA1.beq, hA1.orb, hL1.len, hL1.slen, hL1.sq, h3]; done) | (simp [hA1.not, hA1.eq, hA1.lt, hA1.le, hA1.cond, hA1.beq, hA1.orb, hL1.len, hL1.slen, hL1.sq, h3]; omega) | (simp only [h3]; simp [hA1.not, hA1.eq, hA1.lt, hA1.le, hA1.cond, hA1.beq, hA1.orb, hL1.len, hL1.slen, hL1.sq, h3]; omega)) ?_
          cbv
          refine hcall1 _ _ _ _ _ (CallEv.same hhas rfl ?_)
          rintro _ _ ⟨rfl, rfl⟩
          cbv
          by_cases hbb : b = true
          · rw [if_pos hbb] at hc2
            refine vcIf.yes (by first | (simp [hA1.not, hA1.eq, hA1.lt, hA1.le, hA1.cond, hA1.beq, hA1.orb, hL1.len, hL1.slen, hL1.sq, hbb]; done) | (simp only [hbb]; simp [hA1.not, hA1.eq, hA1.lt, hA1.le, hA1.cond, hA1.beq, hA1.orb, hL1.len, hL1.slen, hL1.sq, hbb]; done) | (simp [hA1.not, hA1.eq, hA1.lt, hA1.le, hA1.cond, hA1.beq, hA1.orb, hL1.len, hL1.slen, hL1.sq, hbb]; omega) | (simp only [hbb]; simp [hA1.not, hA1.eq, hA1.lt, hA1.le, hA1.cond, hA1.beq, hA1.orb, hL1.len, hL1.slen, hL1.sq, hbb]; omega)) ?_
            cbv
            refine ⟨false, ?_⟩
            cbv
            refine .inl ⟨(), rfl, k3.symm, Wf.one (Chg.wf ⟨kd, ky, vl⟩), ?_, ?_, ?_⟩
            · show k + 1 ≤ maxLen
              unfold maxLen; omega
            · show (k + 1) * 40 ≤ _
              omega
            intro us' n' hu hn'
            replace hu : us' = us ++ [Chg.v ⟨kd, ky, vl⟩] := hu
            replace hn' : n' = k + 1 := hn'
            cbv
            refine hrd _ ⟨(i + 1, n', us'), _, ?_, ⟨by simp only; omega, ?_, ?_, ?_⟩, rfl, ⟨rfl, rfl, rfl, ?_, trivial⟩, rfl, rfl, rfl, ?_⟩
            · simp only; omega
            · simp only; omega
            · simp only; rw [hu, hn', List.length_append, k3]; rfl
            · simp only; rw [hnx, hc2, hu, k4]; simp [cP]
            · show some (V.p (.int .i64 _)) = _
              rw [hadd1]
            · rw [hB]; exact Nat.zero_le _
          · rw [if_neg hbb] at hc2
            refine vcIf.no (by first | (simp [hA1.not, hA1.eq, hA1.lt, hA1.le, hA1.cond, hA1.beq, hA1.orb, hL1.len, hL1.slen, hL1.sq, hbb]; done) | (simp only [hbb]; simp [hA1.not, hA1.eq, hA1.lt, hA1.le, hA1.cond, hA1.beq, hA1.orb, hL1.len, hL1.slen, hL1.sq, hbb]; done) | (simp [hA1.not, hA1.eq, hA1.lt, hA1.le, hA1.cond, hA1.beq, hA1.orb, hL1.len, hL1.slen, hL1.sq, hbb]; omega) | (simp only [hbb]; simp [hA1.not, hA1.eq, hA1.lt, hA1.le, hA1.cond, hA1.beq, hA1.orb, hL1.len, hL1.slen, hL1.sq, hbb]; omega)) ?_
            cbv
            refine hrd _ ⟨(i + 1, k, us), _, ?_, ⟨by simp only; omega, ?_, ?_, ?_⟩, rfl, ⟨rfl, rfl, rfl, ?_, trivial⟩, rfl, rfl, rfl, ?_⟩
            · simp only; omega
            · simp only; omega
            · exact k3
            · simp only; rw [hnx, hc2, k4]; simp
            · show some (V.p (.int .i64 _)) = _
              rw [hadd1]
            · rw [hB]; exact Nat.zero_le _
    · refine hcall2 _ _ _ _ _ (CallEv.same hsp rfl ?_)
      rintro _ _ ⟨_, rfl, rfl, rfl⟩
      cbv
      refine hcall2 _ _ _ _ _ (CallEv.same hmt rfl ?_)
      rintro _ _ ⟨_, rfl, rfl, rfl⟩
      cbv
      refine hq2 _ ?_
      cbv
      by_cases h3 : kd = 3
      · have hc1 := hc1 h3
        refine vcIf.yes (by first | (simp [hA1.not, hA1.eq, hA1.lt, hA1.le, hA1.cond, hA1.beq, hA1.orb, hL1.len, hL1.slen, hL1.sq, h3]; done) | (simp only [h3]; simp [hA1.not, hA1.eq, hA1.lt, hA1.le, hA1.cond, hA1.beq, hA1.orb, hL1.len, hL1.slen, hL1.sq, h3]; done) | (simp [hA1.not, hA1.eq, hA1.lt, hA1.le, hA1.cond, hA1.beq, hA1.orb, hL1.len, hL1.slen, hL1.sq, h3]; omega) | (simp only [h3]; simp [hA1.not, hA1.eq, hA1.lt, hA1.le, hA1.cond, hA1.beq, hA1.orb, hL1.len, hL1.slen, hL1.sq, h3]; omega)) ?_
        cbv
        by_cases hlt : Op.bytesLess ml mh = true
        · rw [if_pos hlt] at hc1
          refine vcIf.yes (by rw [hA1.cond, hL1.sl]; simp [hlt, cond]) ?_
          cbv
          refine ⟨false, ?_⟩
          cbv
          refine .inl ⟨(), rfl, k3.symm, Wf.one (Chg.wf ⟨3, ml, mh⟩), ?_, ?_, ?_⟩
          · show k + 1 ≤ maxLen
            unfold maxLen; omega
          · show (k + 1) * 40 ≤ _
            omega
          intro us' n' hu hn'
          replace hu : us' = us ++ [Chg.v ⟨3, ml, mh⟩] := hu
          replace hn' : n' = k + 1 := hn'
          cbv
          refine vcIf.no (by first | (simp [hA1.not, hA1.eq, hA1.lt, hA1.le, hA1.cond, hA1.beq, hA1.orb, hL1.len, hL1.slen, hL1.sq, h3]; done) | (simp only [h3]; simp [hA1.not, hA1.eq, hA1.lt, hA1.le, hA1.cond, hA1.beq, hA1.orb, hL1.len, hL1.slen, hL1.sq, h3]; done) | (simp [hA1.not, hA1.eq, hA1.lt, hA1.le, hA1.cond, hA1.beq, hA1.orb, hL1.len, hL1.slen, hL1.sq, h3]; omega) | (simp only [h3]; simp [hA1.not, hA1.eq, hA1.lt, hA1.le, hA1.cond, hA1.beq, hA1.orb, hL1.len, hL1.slen, hL1.sq, h3]; omega)) ?_
          cbv
          refine hrd _ ⟨(i + 1, n', us'), _, ?_, ⟨by simp only; omega, ?_, ?_, ?_⟩, rfl, ⟨rfl, rfl, rfl, ?_, trivial⟩, rfl, rfl, rfl, ?_⟩
          · simp only; omega
          · simp only; omega
          · simp only; rw [hu, hn', List.length_append, k3]; rfl
          · simp only; rw [hnx, hc1, hu, k4]; simp [cP]
          · show some (V.p (.int .i64 _)) = _
            rw [hadd1]
          · rw [hB]; exact Nat.zero_le _
        · rw [if_neg hlt, ] at hc1
          refine vcIf.no (by rw [hA1.cond, hL1.sl]; simp [hlt, cond]) ?_
          cbv
          refine vcIf.no (by first | (simp [hA1.not, hA1.eq, hA1.lt, hA1.le, hA1.cond, hA1.beq, hA1.orb, hL1.len, hL1.slen, hL1.sq, h3]; done) | (simp only [h3]; simp [hA1.not, hA1.eq, hA1.lt, hA1.le, hA1.cond, hA1.beq, hA1.orb, hL1.len, hL1.slen, hL1.sq, h3]; done) | (simp [hA1.not, hA1.eq, hA1.lt, hA1.le, hA1.cond, hA1.beq, hA1.orb, hL1.len, hL1.slen, hL1.sq, h3]; omega) | (simp only [h3]; simp [hA1.not, hA1.eq, hA1.lt, hA1.le, hA1.cond, hA1.beq, hA1.orb, hL1.len, hL1.slen, hL1.sq, h3]; omega)) ?_
          cbv
          refine hrd _ ⟨(i + 1, k, us), _, ?_, ⟨by simp only; omega, ?_, ?_, ?_⟩, rfl, ⟨rfl, rfl, rfl, ?_, trivial⟩, rfl, rfl, rfl, ?_⟩
          · simp only; omega
          · simp only; omega
          · exact k3
          · simp only; rw [hnx, hc1, k4]; simp
          · show some (V.p (.int .i64 _)) = _
            rw [hadd1]
          · rw [hB]; exact Nat.zero_le _
      · have hc2 := hc2 h3
        refine vcIf.no (by first | (simp [hA1.not, hA1.eq, hA1.lt, hA1.le, hA1.cond, hA1.beq, hA1.orb, hL1.len, hL1.slen, hL1.sq, h3]; done) | (simp only [h3]; simp [hA1.not, hA1.eq, hA1.lt, hA1.le, hA1.cond, hA1.beq, hA1.orb, hL1.len, hL1.slen, hL1.sq, h3]; done) | (simp [hA1.not, hA1.eq, hA1.lt, hA1.le, hA1.cond, hA1.beq, hA1.orb, hL1.len, hL1.slen, hL1.sq, h3]; omega) | (simp only [h3]; simp [hA1.not, hA1.eq, hA1.lt, hA1.le, hA1.cond, hA1.beq, hA1.orb, hL1.len, hL1.slen, hL1.sq, h3]; omega)) ?_
        cbv
        refine vcIf.yes (by first | (simp [hA1.not, hA1.eq, hA1.lt, hA1.le, hA1.cond, hA1.beq, hA1.orb, hL1.len, hL1.slen, hL1.sq, h3]; done) | (simp only [h3]; simp [hA1.not, hA1.eq, hA1.lt, hA1.le, hA1.cond, hA1.beq, hA1.orb, hL1.len, hL1.slen, hL1.sq, h3]; done) | (simp [hA1.not, hA1.eq, hA1.lt, hA1.le, hA1.cond, hA1.beq, hA1.orb, hL1.len, hL1.slen, hL1.sq, h3]; omega) | (simp only [h3]; simp [hA1.not, hA1.eq, hA1.lt, hA1.le, hA1.cond, hA1.beq, hA1.orb, hL1.len, hL1.slen, hL1.sq, h3]; omega)) ?_
        cbv
        refine hcall1 _ _ _ _ _ (CallEv.same hhas rfl ?_)
        rintro _ _ ⟨rfl, rfl⟩
        cbv
        by_cases hbb : b = true
        · rw [if_pos hbb] at hc2
          refine vcIf.yes (by first | (simp [hA1.not, hA1.eq, hA1.lt, hA1.le, hA1.cond, hA1.beq, hA1.orb, hL1.len, hL1.slen, hL1.sq, hbb]; done) | (simp only [hbb]; simp [hA1.not, hA1.eq, hA1.lt, hA1.le, hA1.cond, hA1.beq, hA1.orb, hL1.len, hL1.slen, hL1.sq, hbb]; done) | (simp [hA1.not, hA1.eq, hA1.lt, hA1.le, hA1.cond, hA1.beq, hA1.orb, hL1.len, hL1.slen, hL1.sq, hbb]; omega) | (simp only [hbb]; simp [hA1.not, hA1.eq, hA1.lt, hA1.le, hA1.cond, hA1.beq, hA1.orb, hL1.len, hL1.slen, hL1.sq, hbb]; omega)) ?_
          cbv
          refine ⟨false, ?_⟩
          cbv
          refine .inl ⟨(), rfl, k3.symm, Wf.one (Chg.wf ⟨kd, ky, vl⟩), ?_, ?_, ?_⟩
          · show k + 1 ≤ maxLen
            unfold maxLen; omega
          · show (k + 1) * 40 ≤ _
            omega
          intro us' n' hu hn'
          replace hu : us' = us ++ [Chg.v ⟨kd, ky, vl⟩] := hu
          replace hn' : n' = k + 1 := hn'
          cbv
          refine hrd _ ⟨(i + 1, n', us'), _, ?_, ⟨by simp only; omega, ?_, ?_, ?_⟩, rfl, ⟨rfl, rfl, rfl, ?_, trivial⟩, rfl, rfl, rfl, ?_⟩
          · simp only; omega
          · simp only; omega
          · simp only; rw [hu, hn', List.length_append, k3]; rfl
          · simp only; rw [hnx, hc2, hu, k4]; simp [cP]
          · show some (V.p (.int .i64 _)) = _
            rw [hadd1]
          · rw [hB]; exact Nat.zero_le _
        · rw [if_neg hbb] at hc2
          refine vcIf.no (by first | (simp [hA1.not, hA1.eq, hA1.lt, hA1.le, hA1.cond, hA1.beq, hA1.orb, hL1.len, hL1.slen, hL1.sq, hbb]; done) | (simp only [hbb]; simp [hA1.not, hA1.eq, hA1.lt, hA1.le, hA1.cond, hA1.beq, hA1.orb, hL1.len, hL1.slen, hL1.sq, hbb]; done) | (simp [hA1.not, hA1.eq, hA1.lt, hA1.le, hA1.cond, hA1.beq, hA1.orb, hL1.len, hL1.slen, hL1.sq, hbb]; omega) | (simp only [hbb]; simp [hA1.not, hA1.eq, hA1.lt, hA1.le, hA1.cond, hA1.beq, hA1.orb, hL1.len, hL1.slen, hL1.sq, hbb]; omega)) ?_
          cbv
          refine hrd _ ⟨(i + 1, k, us), _, ?_, ⟨by simp only; omega, ?_, ?_, ?_⟩, rfl, ⟨rfl, rfl, rfl, ?_, trivial⟩, rfl, rfl, rfl, ?_⟩
          · simp only; omega
          · simp only; omega
          · exact k3
          · simp only; rw [hnx, hc2, k4]; simp
          · show some (V.p (.int .i64 _)) = _
            rw [hadd1]
          · rw [hB]; exact Nat.zero_le _
  · have hin : i = N := by omega
    rw [List.take_of_length_le (by omega)] at k4
    have hR : R = us := hR.trans k4.symm
    intro add1 sub1 mul1 quo1 rem1 band1 bor1 bxor1 bclr1 shl1 shr1 ieq1 ilt1 ile1 seq1 slt1 beq1 bnot1 orb1 bcond1 iwrap1 iof1 ssz1 hA1 cat1 sq1 sl1 imin1 imax1 smin1 smax1 len1 slen1 u81 hL1 op1 hop1 call1 hcall1 code1 hcode1
    have e0 : len1 zs = Int.ofNat N := by rw [hL1.len, hzl]; rfl
    cbv
    refine vcIf.no (by first | (simp [hA1.not, hA1.eq, hA1.lt, hA1.le, hA1.cond, hA1.beq, hA1.orb, hL1.len, hL1.slen, hL1.sq, e0, hi]; done) | (simp only [e0, hi]; simp [hA1.not, hA1.eq, hA1.lt, hA1.le, hA1.cond, hA1.beq, hA1.orb, hL1.len, hL1.slen, hL1.sq, e0, hi]; done) | (simp [hA1.not, hA1.eq, hA1.lt, hA1.le, hA1.cond, hA1.beq, hA1.orb, hL1.len, hL1.slen, hL1.sq, e0, hi]; omega) | (simp only [e0, hi]; simp [hA1.not, hA1.eq, hA1.lt, hA1.le, hA1.cond, hA1.beq, hA1.orb, hL1.len, hL1.slen, hL1.sq, e0, hi]; omega)) ?_
    cbv
    refine hret _ (RetEv.retF eOk rfl 1 rfl (by rw [hB]; exact Nat.zero_le _) ?_)
    rw [hR]
    show V.p (.sl ((us.drop 0).take k)) = _
    rw [frz_full k3]
end Go.Proofs.Ytknhlbohjiphgaa
