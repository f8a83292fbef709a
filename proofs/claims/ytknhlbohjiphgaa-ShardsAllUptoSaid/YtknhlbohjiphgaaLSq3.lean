/- What change.Cut answers. Conditions: on sizes. -/
import Derived.Test.YtknhlbohjiphgaaLSq2
set_option maxRecDepth 100000
set_option maxHeartbeats 8000000
set_option linter.unusedSimpArgs false
set_option linter.unusedVariables false
namespace Go.Proofs.Ytknhlbohjiphgaa
open Go Go.Lx
open Go.Sx (vcIf)

/-- The error of a cut: the changes' first, or a span too long. -/
def cutE (s : Spn) (l : List Chg) : Nat := if chks l = 0 then (if 17 < s.lo.length ∨ 17 < s.hi.length then 6 else 0) else chks l
def cutR (s : Spn) (l : List Chg) : List Chg := if cutE s l = 0 then cutL s l else []

theorem chCut_spec (s : Spn) (hs1 : s.lo.length < 140737488355328) (hs2 : s.hi.length < 140737488355328) (l : List Chg) (hf : ∀ c ∈ l, c.fit) (hn : l.length * 40 ≤ 140737488355328) (zs : List PV) (hzs : zs = cP l) :
    FnL Try.prog 29 [.p (.agg [.str s.lo, .str s.hi]), .p (.sl zs)] [] fun v own => v = .p (.tup [.sl (cP (cutR s l)), .int .i64 (Int.ofNat (cutE s l))]) ∧ own = [] := by
  obtain ⟨R, hR⟩ : ∃ R, R = cP (cutR s l) := ⟨_, rfl⟩
  obtain ⟨e, he⟩ : ∃ e, e = cutE s l := ⟨_, rfl⟩
  rw [← hR, ← he]
  refine FnL.flat (R := fun v own => ∃ x, v = .p (.tup [x, .int .i64 (Int.ofNat e)]) ∧ PW x (.sl R)) ?_ (by
    rintro _ _ ⟨x, rfl, h⟩; exact ⟨_, .tup [.sl R, .int .i64 (Int.ofNat e)], rfl, .tup ⟨h, .refl _, trivial⟩, rfl, rfl⟩)
  obtain ⟨N, hN⟩ : ∃ n, n = l.length := ⟨_, rfl⟩
  have hzl : zs.length = N := by rw [hzs, cP_length, hN]
  have hall := all_spec l (by omega) zs hzs
  obtain ⟨C, hC⟩ : ∃ C, C = chks l := ⟨_, rfl⟩
  rw [← hC] at hall
  obtain ⟨sa, hsa⟩ : ∃ x, x = s.lo := ⟨_, rfl⟩
  obtain ⟨sb, hsb⟩ : ∃ x, x = s.hi := ⟨_, rfl⟩
  obtain ⟨na, hna⟩ : ∃ x, x = sa.length := ⟨_, rfl⟩
  obtain ⟨nb, hnb⟩ : ∃ x, x = sb.length := ⟨_, rfl⟩
  have hse : s = ⟨sa, sb⟩ := by rw [hsa, hsb]
  have he0 : C ≠ 0 → e = C := fun h => by rw [he, cutE, ← hC, if_neg h]
  have he1 : C = 0 → (17 < na ∨ 17 < nb) → e = 6 := fun h h' => by rw [he, cutE, ← hC, if_pos h, ← hsa, ← hsb, ← hna, ← hnb, if_pos h']
  have he2 : C = 0 → ¬ (17 < na ∨ 17 < nb) → e = 0 := fun h h' => by rw [he, cutE, ← hC, if_pos h, ← hsa, ← hsb, ← hna, ← hnb, if_neg h']
  have hR0 : e ≠ 0 → R = [] := fun h => by rw [hR, cutR, if_neg (by rw [← he]; exact h)]; rfl
  have hR1 : e = 0 → R = cP (cutL s l) := fun h => by rw [hR, cutR, if_pos (by rw [← he]; exact h)]
  have hnab : na < 140737488355328 ∧ nb < 140737488355328 := by rw [hna, hnb, hsa, hsb]; exact ⟨hs1, hs2⟩
  rw [← hsa, ← hsb]
  refine fn_of_vc eOk fOk fo29 Try.func29 rfl rfl rfl fun B hB => ?_
  intro add sub mul quo rem band bor bxor bclr shl shr ieq ilt ile seq slt beq bnot orb bcond iwrap iof ssz hA cat sq sl imin imax smin smax len slen u8 hL op hop call hcall code hcode ret hret
  have hlen : len zs = Int.ofNat N := by rw [hL.len, hzl]; rfl
  have hmx : imax (slen sa) (slen sb) = Int.ofNat (max na nb) := by
    rw [hL.imax, hL.slen, hL.slen, ← hna, ← hnb]; simp only [Int.ofNat_eq_natCast]; split <;> omega
  obtain ⟨mx, hmxe⟩ : ∃ m, m = max na nb := ⟨_, rfl⟩
  rw [← hmxe] at hmx
  have hmx2 : 17 < mx ↔ (17 < na ∨ 17 < nb) := by omega
  clear hmxe
  cbv
  refine hcall _ _ _ _ _ (CallEv.same hall rfl ?_)
  rintro _ _ ⟨c0, hc0, rfl, rfl⟩
  cbv
  by_cases hCC : c0 = 0
  · have hC0 : C = 0 := by omega
    refine vcIf.no (by first | (simp [hA.not, hA.eq, hA.lt, hA.le, hA.cond, hA.beq, hA.orb, hL.len, hL.slen, hL.sq, hCC]; done) | (simp only [hCC]; simp [hA.not, hA.eq, hA.lt, hA.le, hA.cond, hA.beq, hA.orb, hL.len, hL.slen, hL.sq, hCC]; done) | (simp [hA.not, hA.eq, hA.lt, hA.le, hA.cond, hA.beq, hA.orb, hL.len, hL.slen, hL.sq, hCC]; omega) | (simp only [hCC]; simp [hA.not, hA.eq, hA.lt, hA.le, hA.cond, hA.beq, hA.orb, hL.len, hL.slen, hL.sq, hCC]; omega)) ?_
    cbv
    by_cases h17 : 17 < mx
    · have hfe := he1 hC0 (hmx2.1 h17)
      refine vcIf.yes (by first | (simp [hA.not, hA.eq, hA.lt, hA.le, hA.cond, hA.beq, hA.orb, hL.len, hL.slen, hL.sq, hmx, h17]; done) | (simp only [hmx, h17]; simp [hA.not, hA.eq, hA.lt, hA.le, hA.cond, hA.beq, hA.orb, hL.len, hL.slen, hL.sq, hmx, h17]; done) | (simp [hA.not, hA.eq, hA.lt, hA.le, hA.cond, hA.beq, hA.orb, hL.len, hL.slen, hL.sq, hmx, h17]; omega) | (simp only [hmx, h17]; simp [hA.not, hA.eq, hA.lt, hA.le, hA.cond, hA.beq, hA.orb, hL.len, hL.slen, hL.sq, hmx, h17]; omega)) ?_
      cbv
      exact hret _ (RetEv.ret eOk rfl ⟨.nils, by rw [hfe]; rfl, by rw [hR0 (by rw [hfe]; decide)]; exact .nils⟩)
    have hfe := he2 hC0 (fun c => h17 (hmx2.2 c))
    have hR1 := hR1 hfe
    refine vcIf.no (by first | (simp [hA.not, hA.eq, hA.lt, hA.le, hA.cond, hA.beq, hA.orb, hL.len, hL.slen, hL.sq, hmx, h17]; done) | (simp only [hmx, h17]; simp [hA.not, hA.eq, hA.lt, hA.le, hA.cond, hA.beq, hA.orb, hL.len, hL.slen, hL.sq, hmx, h17]; done) | (simp [hA.not, hA.eq, hA.lt, hA.le, hA.cond, hA.beq, hA.orb, hL.len, hL.slen, hL.sq, hmx, h17]; omega) | (simp only [hmx, h17]; simp [hA.not, hA.eq, hA.lt, hA.le, hA.cond, hA.beq, hA.orb, hL.len, hL.slen, hL.sq, hmx, h17]; omega)) ?_
    cbv
    rw [hlen]
    refine hcode _ _ _ (CodeEv.conv (Conv.hollow 7 66 3 (by decide) rfl) (CodeEv.loop eOk fOk (ι := Nat × Nat × List PV) (fun q => [(2, .own 0 0), (7, .vw 1 3 0 q.2.1 none), (24, .p (.sl zs)), (25, .p (.int .i64 (Int.ofNat N))), (26, .p (.int .i64 (Int.ofNat q.1)))])
      (fun q => [.st 31 [.p (.str sa), .p (.str sb)], .arr 66 3 q.2.2]) (fun q => q.1 ≤ N ∧ q.2.1 ≤ q.1 ∧ q.2.2.length = q.2.1 ∧ q.2.2 = cP (cutL s (l.take q.1))) (fun q => N - q.1) (0, 0, []) ?_ ?_))
    · exact ⟨(by repeat (first | exact trivial | refine And.intro rfl ?_)), rfl, Nat.zero_le _, Nat.le_refl _, rfl, rfl⟩
    rintro ⟨i, k, us⟩ ⟨k1, k2, k3, k4⟩ rd hrd
    simp only at k1 k2 k3 k4
    by_cases hi : i < N
    · refine Exists.elim (get_of_lt (show i < l.length by omega)) fun c hc => ?_
      obtain ⟨kd, ky, vl⟩ := c
      have hzi : zs[i]? = some (.agg [.int .i64 kd, .str ky, .str vl]) := by rw [hzs]; exact cP_get hc
      have hcf := (hf _ (List.mem_of_getElem? hc)).1
      simp only at hcf
      have hsp := chSpan_spec kd ky vl hcf
      have hmt := meet_spec sa sb (spn ⟨kd, ky, vl⟩).lo (spn ⟨kd, ky, vl⟩).hi
      have hhas := has_spec sa sb ky
      have hnx := cutL_next s hc
      have hc1 : kd = 3 → cut1 s ⟨kd, ky, vl⟩ = if Op.bytesLess (mt ⟨sa, sb⟩ (spn ⟨kd, ky, vl⟩)).lo (mt ⟨sa, sb⟩ (spn ⟨kd, ky, vl⟩)).hi then [⟨3, (mt ⟨sa, sb⟩ (spn ⟨kd, ky, vl⟩)).lo, (mt ⟨sa, sb⟩ (spn ⟨kd, ky, vl⟩)).hi⟩] else [] := fun h => by rw [cut1, if_pos h, hse]
      have hc2 : kd ≠ 3 → cut1 s ⟨kd, ky, vl⟩ = if hs ⟨sa, sb⟩ ky then [⟨kd, ky, vl⟩] else [] := fun h => by rw [cut1, if_neg h, hse]
      refine Exists.elim (show ∃ b, b = hs ⟨sa, sb⟩ ky from ⟨_, rfl⟩) fun b hb => ?_
      rw [← hb] at hc2 hhas
      refine Exists.elim (show ∃ x, x = spn ⟨kd, ky, vl⟩ from ⟨_, rfl⟩) fun p hp => ?_
      rw [← hp] at hsp hmt hc1
      clear hp
      obtain ⟨pl, ph⟩ := p
      refine Exists.elim (show ∃ x, x = mt ⟨sa, sb⟩ ⟨pl, ph⟩ from ⟨_, rfl⟩) fun m hm => ?_
      rw [← hm] at hmt hc1
      clear hm
      obtain ⟨ml, mh⟩ := m
      simp only at hsp hmt hc1
      have hem := empty_spec ml mh
      intro add1 sub1 mul1 quo1 rem1 band1 bor1 bxor1 bclr1 shl1 shr1 ieq1 ilt1 ile1 seq1 slt1 beq1 bnot1 orb1 bcond1 iwrap1 iof1 ssz1 hA1 cat1 sq1 sl1 imin1 imax1 smin1 smax1 len1 slen1 u81 hL1 op1 hop1 call1 hcall1 code1 hcode1
      have hadd1 : add1 .i64 (Int.ofNat i) 1 = Int.ofNat (i + 1) := by rw [hA1.add, IntWalk.i64_in _ (by simp only [Int.ofNat_eq_natCast]; omega)]; rfl
      cbv
      refine vcIf.yes (by first | (simp [hA1.not, hA1.eq, hA1.lt, hA1.le, hA1.cond, hA1.beq, hA1.orb, hL1.len, hL1.slen, hL1.sq, hi]; done) | (simp only [hi]; simp [hA1.not, hA1.eq, hA1.lt, hA1.le, hA1.cond, hA1.beq, hA1.orb, hL1.len, hL1.slen, hL1.sq, hi]; done) | (simp [hA1.not, hA1.eq, hA1.lt, hA1.le, hA1.cond, hA1.beq, hA1.orb, hL1.len, hL1.slen, hL1.sq, hi]; omega) | (simp only [hi]; simp [hA1.not, hA1.eq, hA1.lt, hA1.le, hA1.cond, hA1.beq, hA1.orb, hL1.len, hL1.slen, hL1.sq, hi]; omega)) ?_
      cbv
      refine ⟨i, _, rfl, hzi, rfl, ?_⟩
      cbv
      by_cases h3 : kd = 3
      · have hc1 := hc1 h3
        refine vcIf.yes (by first | (simp [hA1.not, hA1.eq, hA1.lt, hA1.le, hA1.cond, hA1.beq, hA1.orb, hL1.len, hL1.slen, hL1.sq, h3]; done) | (simp only [h3]; simp [hA1.not, hA1.eq, hA1.lt, hA1.le, hA1.cond, hA1.beq, hA1.orb, hL1.len, hL1.slen, hL1.sq, h3]; done) | (simp [hA1.not, hA1.eq, hA1.lt, hA1.le, hA1.cond, hA1.beq, hA1.orb, hL1.len, hL1.slen, hL1.sq, h3]; omega) | (simp only [h3]; simp [hA1.not, hA1.eq, hA1.lt, hA1.le, hA1.cond, hA1.beq, hA1.orb, hL1.len, hL1.slen, hL1.sq, h3]; omega)) ?_
        cbv
        refine hcode1 _ _ _ (CodeEv.drawT eOk fOk (by kernel_rfl) (Xof 3 []) (.rd 0 (.rd 1 (.acts (.cons 2 (.acts (.cons 3 (.acts (.cons 4 (.acts (.cons 5 (.done) (.nil))) (.nil))) (.cons 4 (.acts (.cons 3 (.acts (.cons 5 (.done) (.nil))) (.nil))) (.nil)))) (.cons 4 (.acts (.cons 2 (.acts (.cons 3 (.acts (.cons 5 (.done) (.nil))) (.nil))) (.nil))) (.nil)))))) (by kernel_rfl) (by kernel_rfl) ?_)
        intro add2 sub2 mul2 quo2 rem2 band2 bor2 bxor2 bclr2 shl2 shr2 ieq2 ilt2 ile2 seq2 slt2 beq2 bnot2 orb2 bcond2 iwrap2 iof2 ssz2 hA2 cat2 sq2 sl2 imin2 imax2 smin2 smax2 len2 slen2 u82 hL2 op2 hop2 call2 hcall2 code2 hcode2 q2 hq2
        cbv
        refine ⟨?_, ?_⟩
        · refine hcall2 _ _ _ _ _ (CallEv.same hsp rfl ?_)
          rintro _ _ ⟨_, rfl, rfl, rfl⟩
          cbv
          refine ⟨?_, ?_⟩
          · refine hcall2 _ _ _ _ _ (CallEv.same hmt rfl ?_)
            rintro _ _ ⟨_, rfl, rfl, rfl⟩
            cbv
            refine hq2 _ ?_
            cbv
            refine hcall1 _ _ _ _ _ (CallEv.same hem rfl ?_)
            rintro _ _ ⟨b2, hb2, rfl, rfl⟩
            cbv
            by_cases hlt : b2 = true
            · rw [if_neg (by intro c; rw [hlt, c] at hb2; cases hb2)] at hc1
              refine vcIf.yes (by first | (simp [hA1.not, hA1.eq, hA1.lt, hA1.le, hA1.cond, hA1.beq, hA1.orb, hL1.len, hL1.slen, hL1.sq, hlt]; done) | (simp only [hlt]; simp [hA1.not, hA1.eq, hA1.lt, hA1.le, hA1.cond, hA1.beq, hA1.orb, hL1.len, hL1.slen, hL1.sq, hlt]; done) | (simp [hA1.not, hA1.eq, hA1.lt, hA1.le, hA1.cond, hA1.beq, hA1.orb, hL1.len, hL1.slen, hL1.sq, hlt]; omega) | (simp only [hlt]; simp [hA1.not, hA1.eq, hA1.lt, hA1.le, hA1.cond, hA1.beq, hA1.orb, hL1.len, hL1.slen, hL1.sq, hlt]; omega)) ?_
              cbv
              refine hrd _ ⟨(i + 1, k, us), _, ?_, ⟨by simp only; omega, ?_, ?_, ?_⟩, rfl, ⟨rfl, rfl, rfl, rfl, ?_, trivial⟩, rfl, rfl, rfl, ?_⟩
              · simp only; omega
              · simp only; omega
              · exact k3
              · simp only; rw [hnx, hc1, k4]; simp
              · show some (V.p (.int .i64 _)) = _
                rw [hadd1]
              · rw [hB]; exact Nat.zero_le _
            · have hlt := Bool.eq_false_iff.2 hlt
              rw [if_pos (by rw [hlt] at hb2; simpa using hb2.symm)] at hc1
              refine vcIf.no (by first | (simp [hA1.not, hA1.eq, hA1.lt, hA1.le, hA1.cond, hA1.beq, hA1.orb, hL1.len, hL1.slen, hL1.sq, hlt]; done) | (simp only [hlt]; simp [hA1.not, hA1.eq, hA1.lt, hA1.le, hA1.cond, hA1.beq, hA1.orb, hL1.len, hL1.slen, hL1.sq, hlt]; done) | (simp [hA1.not, hA1.eq, hA1.lt, hA1.le, hA1.cond, hA1.beq, hA1.orb, hL1.len, hL1.slen, hL1.sq, hlt]; omega) | (simp only [hlt]; simp [hA1.not, hA1.eq, hA1.lt, hA1.le, hA1.cond, hA1.beq, hA1.orb, hL1.len, hL1.slen, hL1.sq, hlt]; omega)) ?_
              cbv
              refine hcode1 _ _ _ (CodeEv.drawA eOk fOk (by kernel_rfl) (Xof 4 [2]) (by kernel_rfl) (by kernel_rfl) (by kernel_rfl) ?_)
              intro add3 sub3 mul3 quo3 rem3 band3 bor3 bxor3 bclr3 shl3 shr3 ieq3 ilt3 ile3 seq3 slt3 beq3 bnot3 orb3 bcond3 iwrap3 iof3 ssz3 hA3 cat3 sq3 sl3 imin3 imax3 smin3 smax3 len3 slen3 u83 hL3 op3 hop3 call3 hcall3 code3 hcode3 q3 hq3
              cbv
              refine hq3 _ ?_
              cbv
              refine vcIf.yes (by first | (simp [hA1.not, hA1.eq, hA1.lt, hA1.le, hA1.cond, hA1.beq, hA1.orb, hL1.len, hL1.slen, hL1.sq, h3]; done) | (simp only [h3]; simp [hA1.not, hA1.eq, hA1.lt, hA1.le, hA1.cond, hA1.beq, hA1.orb, hL1.len, hL1.slen, hL1.sq, h3]; done) | (simp [hA1.not, hA1.eq, hA1.lt, hA1.le, hA1.cond, hA1.beq, hA1.orb, hL1.len, hL1.slen, hL1.sq, h3]; omega) | (simp only [h3]; simp [hA1.not, hA1.eq, hA1.lt, hA1.le, hA1.cond, hA1.beq, hA1.orb, hL1.len, hL1.slen, hL1.sq, h3]; omega)) ?_
              cbv
              refine ⟨false, ?_⟩
              cbv
              refine .inl ⟨(), rfl, k3.symm, Wf.one (Chg.wf ⟨kd, ml, mh⟩), ?_, ?_, ?_⟩
              · show k + 1 ≤ maxLen
                unfold maxLen; omega
              · show (k + 1) * 40 ≤ _
                omega
              intro us' n' hu hn'
              replace hu : us' = us ++ [Chg.v ⟨kd, ml, mh⟩] := hu
              replace hn' : n' = k + 1 := hn'
              cbv
              refine hrd _ ⟨(i + 1, n', us'), _, ?_, ⟨by simp only; omega, ?_, ?_, ?_⟩, rfl, ⟨rfl, rfl, rfl, rfl, ?_, trivial⟩, rfl, rfl, rfl, ?_⟩
              · simp only; omega
              · simp only; omega
              · simp only; rw [hu, hn', List.length_append, k3]; rfl
              · simp only; rw [hnx, hc1, hu, k4, h3]; simp [cP]
              · show some (V.p (.int .i64 _)) = _
                rw [hadd1]
              · rw [hB]; exact Nat.zero_le _
          · refine hcall2 _ _ _ _ _ (CallEv.same hmt rfl ?_)
            rintro _ _ ⟨_, rfl, rfl, rfl⟩
            cbv
            refine hq2 _ ?_
            cbv
            refine hcall1 _ _ _ _ _ (CallEv.same hem rfl ?_)
            rintro _ _ ⟨b2, hb2, rfl, rfl⟩
            cbv
            by_cases hlt : b2 = true
            · rw [if_neg (by intro c; rw [hlt, c] at hb2; cases hb2)] at hc1
              refine vcIf.yes (by first | (simp [hA1.not, hA1.eq, hA1.lt, hA1.le, hA1.cond, hA1.beq, hA1.orb, hL1.len, hL1.slen, hL1.sq, hlt]; done) | (simp only [hlt]; simp [hA1.not, hA1.eq, hA1.lt, hA1.le, hA1.cond, hA1.beq, hA1.orb, hL1.len, hL1.slen, hL1.sq, hlt]; done) | (simp [hA1.not, hA1.eq, hA1.lt, hA1.le, hA1.cond, hA1.beq, hA1.orb, hL1.len, hL1.slen, hL1.sq, hlt]; omega) | (simp only [hlt]; simp [hA1.not, hA1.eq, hA1.lt, hA1.le, hA1.cond, hA1.beq, hA1.orb, hL1.len, hL1.slen, hL1.sq, hlt]; omega)) ?_
              cbv
              refine hrd _ ⟨(i + 1, k, us), _, ?_, ⟨by simp only; omega, ?_, ?_, ?_⟩, rfl, ⟨rfl, rfl, rfl, rfl, ?_, trivial⟩, rfl, rfl, rfl, ?_⟩
              · simp only; omega
              · simp only; omega
              · exact k3
              · simp only; rw [hnx, hc1, k4]; simp
              · show some (V.p (.int .i64 _)) = _
                rw [hadd1]
              · rw [hB]; exact Nat.zero_le _
            · have hlt := Bool.eq_false_iff.2 hlt
              rw [if_pos (by rw [hlt] at hb2; simpa using hb2.symm)] at hc1
              refine vcIf.no (by first | (simp [hA1.not, hA1.eq, hA1.lt, hA1.le, hA1.cond, hA1.beq, hA1.orb, hL1.len, hL1.slen, hL1.sq, hlt]; done) | (simp only [hlt]; simp [hA1.not, hA1.eq, hA1.lt, hA1.le, hA1.cond, hA1.beq, hA1.orb, hL1.len, hL1.slen, hL1.sq, hlt]; done) | (simp [hA1.not, hA1.eq, hA1.lt, hA1.le, hA1.cond, hA1.beq, hA1.orb, hL1.len, hL1.slen, hL1.sq, hlt]; omega) | (simp only [hlt]; simp [hA1.not, hA1.eq, hA1.lt, hA1.le, hA1.cond, hA1.beq, hA1.orb, hL1.len, hL1.slen, hL1.sq, hlt]; omega)) ?_
              cbv
              refine hcode1 _ _ _ (CodeEv.drawA eOk fOk (by kernel_rfl) (Xof 4 [2]) (by kernel_rfl) (by kernel_rfl) (by kernel_rfl) ?_)
              intro add3 sub3 mul3 quo3 rem3 band3 bor3 bxor3 bclr3 shl3 shr3 ieq3 ilt3 ile3 seq3 slt3 beq3 bnot3 orb3 bcond3 iwrap3 iof3 ssz3 hA3 cat3 sq3 sl3 imin3 imax3 smin3 smax3 len3 slen3 u83 hL3 op3 hop3 call3 hcall3 code3 hcode3 q3 hq3
              cbv
              refine hq3 _ ?_
              cbv
              refine vcIf.yes (by first | (simp [hA1.not, hA1.eq, hA1.lt, hA1.le, hA1.cond, hA1.beq, hA1.orb, hL1.len, hL1.slen, hL1.sq, h3]; done) | (simp only [h3]; simp [hA1.not, hA1.eq, hA1.lt, hA1.le, hA1.cond, hA1.beq, hA1.orb, hL1.len, hL1.slen, hL1.sq, h3]; done) | (simp [hA1.not, hA1.eq, hA1.lt, hA1.le, hA1.cond, hA1.beq, hA1.orb, hL1.len, hL1.slen, hL1.sq, h3]; omega) | (simp only [h3]; simp [hA1.not, hA1.eq, hA1.lt, hA1.le, hA1.cond, hA1.beq, hA1.orb, hL1.len, hL1.slen, hL1.sq, h3]; omega)) ?_
              cbv
              refine ⟨false, ?_⟩
              cbv
              refine .inl ⟨(), rfl, k3.symm, Wf.one (Chg.wf ⟨kd, ml, mh⟩), ?_, ?_, ?_⟩
              · show k + 1 ≤ maxLen
                unfold maxLen; omega
              · show (k + 1) * 40 ≤ _
                omega
              intro us' n' hu hn'
              replace hu : us' = us ++ [Chg.v ⟨kd, ml, mh⟩] := hu
              replace hn' : n' = k + 1 := hn'
              cbv
              refine hrd _ ⟨(i + 1, n', us'), _, ?_, ⟨by simp only; omega, ?_, ?_, ?_⟩, rfl, ⟨rfl, rfl, rfl, rfl, ?_, trivial⟩, rfl, rfl, rfl, ?_⟩
              · simp only; omega
              · simp only; omega
              · simp only; rw [hu, hn', List.length_append, k3]; rfl
              · simp only; rw [hnx, hc1, hu, k4, h3]; simp [cP]
              · show some (V.p (.int .i64 _)) = _
                rw [hadd1]
              · rw [hB]; exact Nat.zero_le _
        · refine hcall2 _ _ _ _ _ (CallEv.same hsp rfl ?_)
          rintro _ _ ⟨_, rfl, rfl, rfl⟩
          cbv
          refine hcall2 _ _ _ _ _ (CallEv.same hmt rfl ?_)
          rintro _ _ ⟨_, rfl, rfl, rfl⟩
          cbv
          refine hq2 _ ?_
          cbv
          refine hcall1 _ _ _ _ _ (CallEv.same hem rfl ?_)
          rintro _ _ ⟨b2, hb2, rfl, rfl⟩
          cbv
          by_cases hlt : b2 = true
          · rw [if_neg (by intro c; rw [hlt, c] at hb2; cases hb2)] at hc1
            refine vcIf.yes (by first | (simp [hA1.not, hA1.eq, hA1.lt, hA1.le, hA1.cond, hA1.beq, hA1.orb, hL1.len, hL1.slen, hL1.sq, hlt]; done) | (simp only [hlt]; simp [hA1.not, hA1.eq, hA1.lt, hA1.le, hA1.cond, hA1.beq, hA1.orb, hL1.len, hL1.slen, hL1.sq, hlt]; done) | (simp [hA1.not, hA1.eq, hA1.lt, hA1.le, hA1.cond, hA1.beq, hA1.orb, hL1.len, hL1.slen, hL1.sq, hlt]; omega) | (simp only [hlt]; simp [hA1.not, hA1.eq, hA1.lt, hA1.le, hA1.cond, hA1.beq, hA1.orb, hL1.len, hL1.slen, hL1.sq, hlt]; omega)) ?_
            cbv
            refine hrd _ ⟨(i + 1, k, us), _, ?_, ⟨by simp only; omega, ?_, ?_, ?_⟩, rfl, ⟨rfl, rfl, rfl, rfl, ?_, trivial⟩, rfl, rfl, rfl, ?_⟩
            · simp only; omega
            · simp only; omega
            · exact k3
            · simp only; rw [hnx, hc1, k4]; simp
            · show some (V.p (.int .i64 _)) = _
              rw [hadd1]
            · rw [hB]; exact Nat.zero_le _
          · have hlt := Bool.eq_false_iff.2 hlt
            rw [if_pos (by rw [hlt] at hb2; simpa using hb2.symm)] at hc1
            refine vcIf.no (by first | (simp [hA1.not, hA1.eq, hA1.lt, hA1.le, hA1.cond, hA1.beq, hA1.orb, hL1.len, hL1.slen, hL1.sq, hlt]; done) | (simp only [hlt]; simp [hA1.not, hA1.eq, hA1.lt, hA1.le, hA1.cond, hA1.beq, hA1.orb, hL1.len, hL1.slen, hL1.sq, hlt]; done) | (simp [hA1.not, hA1.eq, hA1.lt, hA1.le, hA1.cond, hA1.beq, hA1.orb, hL1.len, hL1.slen, hL1.sq, hlt]; omega) | (simp only [hlt]; simp [hA1.not, hA1.eq, hA1.lt, hA1.le, hA1.cond, hA1.beq, hA1.orb, hL1.len, hL1.slen, hL1.sq, hlt]; omega)) ?_
            cbv
            refine hcode1 _ _ _ (CodeEv.drawA eOk fOk (by kernel_rfl) (Xof 4 [2]) (by kernel_rfl) (by kernel_rfl) (by kernel_rfl) ?_)
            intro add3 sub3 mul3 quo3 rem3 band3 bor3 bxor3 bclr3 shl3 shr3 ieq3 ilt3 ile3 seq3 slt3 beq3 bnot3 orb3 bcond3 iwrap3 iof3 ssz3 hA3 cat3 sq3 sl3 imin3 imax3 smin3 smax3 len3 slen3 u83 hL3 op3 hop3 call3 hcall3 code3 hcode3 q3 hq3
            cbv
            refine hq3 _ ?_
            cbv
            refine vcIf.yes (by first | (simp [hA1.not, hA1.eq, hA1.lt, hA1.le, hA1.cond, hA1.beq, hA1.orb, hL1.len, hL1.slen, hL1.sq, h3]; done) | (simp only [h3]; simp [hA1.not, hA1.eq, hA1.lt, hA1.le, hA1.cond, hA1.beq, hA1.orb, hL1.len, hL1.slen, hL1.sq, h3]; done) | (simp [hA1.not, hA1.eq, hA1.lt, hA1.le, hA1.cond, hA1.beq, hA1.orb, hL1.len, hL1.slen, hL1.sq, h3]; omega) | (simp only [h3]; simp [hA1.not, hA1.eq, hA1.lt, hA1.le, hA1.cond, hA1.beq, hA1.orb, hL1.len, hL1.slen, hL1.sq, h3]; omega)) ?_
            cbv
            refine ⟨false, ?_⟩
            cbv
            refine .inl ⟨(), rfl, k3.symm, Wf.one (Chg.wf ⟨kd, ml, mh⟩), ?_, ?_, ?_⟩
            · show k + 1 ≤ maxLen
              unfold maxLen; omega
            · show (k + 1) * 40 ≤ _
              omega
            intro us' n' hu hn'
            replace hu : us' = us ++ [Chg.v ⟨kd, ml, mh⟩] := hu
            replace hn' : n' = k + 1 := hn'
            cbv
            refine hrd _ ⟨(i + 1, n', us'), _, ?_, ⟨by simp only; omega, ?_, ?_, ?_⟩, rfl, ⟨rfl, rfl, rfl, rfl, ?_, trivial⟩, rfl, rfl, rfl, ?_⟩
            · simp only; omega
            · simp only; omega
            · simp only; rw [hu, hn', List.length_append, k3]; rfl
            · simp only; rw [hnx, hc1, hu, k4, h3]; simp [cP]
            · show some (V.p (.int .i64 _)) = _
              rw [hadd1]
            · rw [hB]; exact Nat.zero_le _
      · have hc2 := hc2 h3
        refine vcIf.no (by first | (simp [hA1.not, hA1.eq, hA1.lt, hA1.le, hA1.cond, hA1.beq, hA1.orb, hL1.len, hL1.slen, hL1.sq, h3]; done) | (simp only [h3]; simp [hA1.not, hA1.eq, hA1.lt, hA1.le, hA1.cond, hA1.beq, hA1.orb, hL1.len, hL1.slen, hL1.sq, h3]; done) | (simp [hA1.not, hA1.eq, hA1.lt, hA1.le, hA1.cond, hA1.beq, hA1.orb, hL1.len, hL1.slen, hL1.sq, h3]; omega) | (simp only [h3]; simp [hA1.not, hA1.eq, hA1.lt, hA1.le, hA1.cond, hA1.beq, hA1.orb, hL1.len, hL1.slen, hL1.sq, h3]; omega)) ?_
        cbv
        refine vcIf.no (by first | (simp [hA1.not, hA1.eq, hA1.lt, hA1.le, hA1.cond, hA1.beq, hA1.orb, hL1.len, hL1.slen, hL1.sq, h3]; done) | (simp only [h3]; simp [hA1.not, hA1.eq, hA1.lt, hA1.le, hA1.cond, hA1.beq, hA1.orb, hL1.len, hL1.slen, hL1.sq, h3]; done) | (simp [hA1.not, hA1.eq, hA1.lt, hA1.le, hA1.cond, hA1.beq, hA1.orb, hL1.len, hL1.slen, hL1.sq, h3]; omega) | (simp only [h3]; simp [hA1.not, hA1.eq, hA1.lt, hA1.le, hA1.cond, hA1.beq, hA1.orb, hL1.len, hL1.slen, hL1.sq, h3]; omega)) ?_
        cbv
        refine hcall1 _ _ _ _ _ (CallEv.same hhas rfl ?_)
        rintro _ _ ⟨b2, hb2, rfl, rfl⟩
        cbv
        by_cases hbb : b2 = true
        · rw [if_pos (hb2.symm.trans hbb)] at hc2
          refine vcIf.yes (by first | (simp [hA1.not, hA1.eq, hA1.lt, hA1.le, hA1.cond, hA1.beq, hA1.orb, hL1.len, hL1.slen, hL1.sq, hbb]; done) | (simp only [hbb]; simp [hA1.not, hA1.eq, hA1.lt, hA1.le, hA1.cond, hA1.beq, hA1.orb, hL1.len, hL1.slen, hL1.sq, hbb]; done) | (simp [hA1.not, hA1.eq, hA1.lt, hA1.le, hA1.cond, hA1.beq, hA1.orb, hL1.len, hL1.slen, hL1.sq, hbb]; omega) | (simp only [hbb]; simp [hA1.not, hA1.eq, hA1.lt, hA1.le, hA1.cond, hA1.beq, hA1.orb, hL1.len, hL1.slen, hL1.sq, hbb]; omega)) ?_
          cbv
          refine ⟨false, ?_⟩
          cbv
          refine .inl ⟨(), rfl, k3.symm, Wf.one (Chg.wf ⟨kd, ky, vl⟩), ?_, ?_, ?_⟩
          · show k + 1 ≤ maxLen
            unfold maxLen; omega
          · show (k + 1) * 40 ≤ _
            omega
          intro us' n' hu hn'
          replace hu : us' = us ++ [Chg.v ⟨kd, ky, vl⟩] := hu
          replace hn' : n' = k + 1 := hn'
          cbv
          refine hrd _ ⟨(i + 1, n', us'), _, ?_, ⟨by simp only; omega, ?_, ?_, ?_⟩, rfl, ⟨rfl, rfl, rfl, rfl, ?_, trivial⟩, rfl, rfl, rfl, ?_⟩
          · simp only; omega
          · simp only; omega
          · simp only; rw [hu, hn', List.length_append, k3]; rfl
          · simp only; rw [hnx, hc2, hu, k4]; simp [cP]
          · show some (V.p (.int .i64 _)) = _
            rw [hadd1]
          · rw [hB]; exact Nat.zero_le _
        · rw [if_neg (by rw [← hb2]; exact hbb)] at hc2
          refine vcIf.no (by first | (simp [hA1.not, hA1.eq, hA1.lt, hA1.le, hA1.cond, hA1.beq, hA1.orb, hL1.len, hL1.slen, hL1.sq, hbb]; done) | (simp only [hbb]; simp [hA1.not, hA1.eq, hA1.lt, hA1.le, hA1.cond, hA1.beq, hA1.orb, hL1.len, hL1.slen, hL1.sq, hbb]; done) | (simp [hA1.not, hA1.eq, hA1.lt, hA1.le, hA1.cond, hA1.beq, hA1.orb, hL1.len, hL1.slen, hL1.sq, hbb]; omega) | (simp only [hbb]; simp [hA1.not, hA1.eq, hA1.lt, hA1.le, hA1.cond, hA1.beq, hA1.orb, hL1.len, hL1.slen, hL1.sq, hbb]; omega)) ?_
          cbv
          refine hrd _ ⟨(i + 1, k, us), _, ?_, ⟨by simp only; omega, ?_, ?_, ?_⟩, rfl, ⟨rfl, rfl, rfl, rfl, ?_, trivial⟩, rfl, rfl, rfl, ?_⟩
          · simp only; omega
          · simp only; omega
          · exact k3
          · simp only; rw [hnx, hc2, k4]; simp
          · show some (V.p (.int .i64 _)) = _
            rw [hadd1]
          · rw [hB]; exact Nat.zero_le _
    · have hin : i = N := by omega
      rw [List.take_of_length_le (by omega)] at k4
      have hR : R = us := hR1.trans k4.symm
      intro add1 sub1 mul1 quo1 rem1 band1 bor1 bxor1 bclr1 shl1 shr1 ieq1 ilt1 ile1 seq1 slt1 beq1 bnot1 orb1 bcond1 iwrap1 iof1 ssz1 hA1 cat1 sq1 sl1 imin1 imax1 smin1 smax1 len1 slen1 u81 hL1 op1 hop1 call1 hcall1 code1 hcode1
      cbv
      refine vcIf.no (by first | (simp [hA1.not, hA1.eq, hA1.lt, hA1.le, hA1.cond, hA1.beq, hA1.orb, hL1.len, hL1.slen, hL1.sq, hi]; done) | (simp only [hi]; simp [hA1.not, hA1.eq, hA1.lt, hA1.le, hA1.cond, hA1.beq, hA1.orb, hL1.len, hL1.slen, hL1.sq, hi]; done) | (simp [hA1.not, hA1.eq, hA1.lt, hA1.le, hA1.cond, hA1.beq, hA1.orb, hL1.len, hL1.slen, hL1.sq, hi]; omega) | (simp only [hi]; simp [hA1.not, hA1.eq, hA1.lt, hA1.le, hA1.cond, hA1.beq, hA1.orb, hL1.len, hL1.slen, hL1.sq, hi]; omega)) ?_
      cbv
      refine hret _ (RetEv.retF eOk rfl 1 rfl (by rw [hB]; exact Nat.zero_le _) ⟨.sl us, ?_, by rw [hR]; exact .refl _⟩)
      rw [hfe]
      show V.p (.tup [.sl ((us.drop 0).take k), .int .i64 0]) = _
      rw [frz_full k3]
      rfl
  · have hfe := he0 (by omega)
    have hCe : e = c0 := hfe.trans hc0.symm
    refine vcIf.yes (by first | (simp [hA.not, hA.eq, hA.lt, hA.le, hA.cond, hA.beq, hA.orb, hL.len, hL.slen, hL.sq, hCC]; done) | (simp only [hCC]; simp [hA.not, hA.eq, hA.lt, hA.le, hA.cond, hA.beq, hA.orb, hL.len, hL.slen, hL.sq, hCC]; done) | (simp [hA.not, hA.eq, hA.lt, hA.le, hA.cond, hA.beq, hA.orb, hL.len, hL.slen, hL.sq, hCC]; omega) | (simp only [hCC]; simp [hA.not, hA.eq, hA.lt, hA.le, hA.cond, hA.beq, hA.orb, hL.len, hL.slen, hL.sq, hCC]; omega)) ?_
    cbv
    exact hret _ (RetEv.ret eOk rfl ⟨.nils, by rw [hCe]; rfl, by rw [hR0 (by rw [hCe]; exact hCC)]; exact .nils⟩)
end Go.Proofs.Ytknhlbohjiphgaa
