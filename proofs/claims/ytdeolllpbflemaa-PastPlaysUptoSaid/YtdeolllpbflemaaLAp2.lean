/- Whether two lists of pairs are one; the document's. Conditions: on sizes. -/
import Derived.Test.YtdeolllpbflemaaLAp1
set_option maxRecDepth 100000
set_option maxHeartbeats 8000000
set_option linter.unusedSimpArgs false
set_option linter.unusedVariables false
namespace Go.Proofs.Ytdeolllpbflemaa
open Go Go.Lx
open Go.Sx (vcIf)

theorem prEq (a b c d : List UInt8) : eqF Try.prog [PV.str a, PV.str b] [PV.str c, PV.str d] (Try.prog.fieldsOf 45).toList = some (decide (a = c) && (decide (b = d) && true)) := by kernel_rfl
theorem prEqB (a b c d : List UInt8) {t : Bool} (h : t = true ↔ (a = c ∧ b = d)) : eqF Try.prog [PV.str a, PV.str b] [PV.str c, PV.str d] (Try.prog.fieldsOf 45).toList = some t := by
  rw [prEq]; congr 1; rw [Bool.eq_iff_iff, h]; simp
theorem rPairs_spec (a b : List Pr) (hn : a.length < 281474976710656) (hn2 : b.length < 281474976710656) (R : Bool) (hR : R = true ↔ a = b) (zs ys : List PV) (hzs : zs = prP a) (hys : ys = prP b) :
    FnL Try.prog 15 [.p (.sl zs), .p (.sl ys)] [] fun v own => v = .p (.bool R) ∧ own = [] := by
  refine FnL.flat (R := fun v own => v = .p (.bool R)) ?_ (by rintro _ _ rfl; exact ⟨_, _, rfl, .refl _, rfl, rfl⟩)
  obtain ⟨N, hN⟩ : ∃ n, n = a.length := ⟨_, rfl⟩
  obtain ⟨M, hM⟩ : ∃ n, n = b.length := ⟨_, rfl⟩
  have hzl : zs.length = N := by rw [hzs, prP_length, hN]
  have hyl : ys.length = M := by rw [hys, prP_length, hM]
  have hfalse : a ≠ b → R = false := fun h => Bool.eq_false_iff.2 fun c => h (hR.1 c)
  by_cases hNM : N = M
  · refine fn_of_vc eOk fOk fo15 Try.func15 rfl rfl rfl fun B hB => ?_
    intro add sub mul quo rem band bor bxor bclr shl shr ieq ilt ile seq slt beq bnot orb bcond iwrap iof ssz hA cat sq sl imin imax smin smax len slen u8 hL op hop call hcall code hcode ret hret
    have e1 : len zs = Int.ofNat N := by rw [hL.len, hzl]; rfl
    have e2 : len ys = Int.ofNat N := by rw [hL.len, hyl, hNM]; rfl
    cbv
    refine vcIf.no (by first | (simp [hA.not, hA.eq, hA.lt, hA.le, hA.cond, hA.beq, hA.orb, hL.len, hL.slen, hL.sq, e1, e2]; done) | (simp only [e1, e2]; simp [hA.not, hA.eq, hA.lt, hA.le, hA.cond, hA.beq, hA.orb, hL.len, hL.slen, hL.sq, e1, e2]; done) | (simp [hA.not, hA.eq, hA.lt, hA.le, hA.cond, hA.beq, hA.orb, hL.len, hL.slen, hL.sq, e1, e2]; omega) | (simp only [e1, e2]; simp [hA.not, hA.eq, hA.lt, hA.le, hA.cond, hA.beq, hA.orb, hL.len, hL.slen, hL.sq, e1, e2]; omega)) ?_
    cbv
    refine hcode _ _ _ (CodeEv.loop eOk fOk (ι := Nat) (fun q => [(0, .p (.sl zs)), (1, .p (.sl ys)), (5, .p (.int .i64 (Int.ofNat q)))])
      (fun q => []) (fun q => q ≤ N ∧ ∀ r, r < q → a[r]? = b[r]?) (fun q => N - q) 0 ?_ ?_)
    · exact ⟨(by repeat (first | exact trivial | refine And.intro rfl ?_)), rfl, Nat.zero_le _, fun r h => absurd h (Nat.not_lt_zero r)⟩
    rintro i ⟨k1, k2⟩ rd hrd
    by_cases hi : i < N
    · refine Exists.elim (get_of_lt (show i < a.length by omega)) fun p hp => ?_
      refine Exists.elim (get_of_lt (show i < b.length by omega)) fun q hq => ?_
      have hzi : zs[i]? = some (.agg [.str p.key, .str p.val]) := by rw [hzs]; exact prP_get hp
      have hyi : ys[i]? = some (.agg [.str q.key, .str q.val]) := by rw [hys]; exact prP_get hq
      obtain ⟨pk, pv⟩ := p
      obtain ⟨qk, qv⟩ := q
      simp only at hzi hyi
      have hpq : a[i]? = b[i]? ↔ (pk = qk ∧ pv = qv) := by rw [hp, hq]; simp
      refine Exists.elim (show ∃ t : Bool, t = true ↔ (pk = qk ∧ pv = qv) from ⟨decide (pk = qk ∧ pv = qv), decide_eq_true_iff⟩) fun t ht => ?_
      have hE := prEqB pk pv qk qv ht
      intro add1 sub1 mul1 quo1 rem1 band1 bor1 bxor1 bclr1 shl1 shr1 ieq1 ilt1 ile1 seq1 slt1 beq1 bnot1 orb1 bcond1 iwrap1 iof1 ssz1 hA1 cat1 sq1 sl1 imin1 imax1 smin1 smax1 len1 slen1 u81 hL1 op1 hop1 call1 hcall1 code1 hcode1
      have e3 : len1 zs = Int.ofNat N := by rw [hL1.len, hzl]; rfl
      have hadd1 : add1 .i64 (Int.ofNat i) 1 = Int.ofNat (i + 1) := by rw [hA1.add, IntWalk.i64_in _ (by simp only [Int.ofNat_eq_natCast]; omega)]; rfl
      cbv
      refine vcIf.yes (by first | (simp [hA1.not, hA1.eq, hA1.lt, hA1.le, hA1.cond, hA1.beq, hA1.orb, hL1.len, hL1.slen, hL1.sq, e3, hi]; done) | (simp only [e3, hi]; simp [hA1.not, hA1.eq, hA1.lt, hA1.le, hA1.cond, hA1.beq, hA1.orb, hL1.len, hL1.slen, hL1.sq, e3, hi]; done) | (simp [hA1.not, hA1.eq, hA1.lt, hA1.le, hA1.cond, hA1.beq, hA1.orb, hL1.len, hL1.slen, hL1.sq, e3, hi]; omega) | (simp only [e3, hi]; simp [hA1.not, hA1.eq, hA1.lt, hA1.le, hA1.cond, hA1.beq, hA1.orb, hL1.len, hL1.slen, hL1.sq, e3, hi]; omega)) ?_
      cbv
      refine hcode1 _ _ _ (CodeEv.drawT eOk fOk (by kernel_rfl) noX (.rd 0 (.rd 1 (.rd 2 (.rd 3 (.rd 4 (.rd 5 (.rd 6 (.so 7 (.acts (.cons 8 (.done) (.nil))))))))))) (by kernel_rfl) (by kernel_rfl) ?_)
      intro add2 sub2 mul2 quo2 rem2 band2 bor2 bxor2 bclr2 shl2 shr2 ieq2 ilt2 ile2 seq2 slt2 beq2 bnot2 orb2 bcond2 iwrap2 iof2 ssz2 hA2 cat2 sq2 sl2 imin2 imax2 smin2 smax2 len2 slen2 u82 hL2 op2 hop2 call2 hcall2 code2 hcode2 q2 hq2
      cbv
      refine ⟨i, _, rfl, hzi, rfl, ?_⟩
      cbv
      refine ⟨i, _, rfl, hyi, rfl, ?_⟩
      cbv
      refine hop2 _ _ _ _ (OpEv.aggNe (b := t) rfl rfl rfl (by kernel_rfl) (by kernel_rfl) (by kernel_rfl) hE ?_)
      cbv
      refine hq2 _ ?_
      cbv
      by_cases htt : t = true
      · have hgood := hpq.2 (ht.1 htt)
        refine vcIf.no (by rw [htt]) ?_
        cbv
        refine hrd _ ⟨i + 1, _, ?_, ⟨hi, ?_⟩, rfl, ⟨rfl, rfl, ?_, trivial⟩, rfl, rfl, rfl, ?_⟩
        · show N - (i + 1) < N - i
          omega
        · intro r hr
          rcases Nat.lt_succ_iff_lt_or_eq.1 hr with c | c
          · exact k2 r c
          · rw [c]; exact hgood
        · show some (V.p (.int .i64 _)) = _
          rw [hadd1]
        · rw [hB]; exact Nat.zero_le _
      · have hf := hfalse fun c => htt (ht.2 (hpq.1 (by rw [c])))
        refine vcIf.yes (by rw [Bool.eq_false_iff.2 htt]) ?_
        cbv
        exact hret _ (RetEv.ret eOk rfl (by rw [hf]; rfl))
    · have hRt : R = true := hR.2 (List.ext_getElem? fun r => by
        by_cases hr : r < N
        · exact k2 r (by omega)
        · rw [List.getElem?_eq_none (by omega), List.getElem?_eq_none (by omega)])
      intro add1 sub1 mul1 quo1 rem1 band1 bor1 bxor1 bclr1 shl1 shr1 ieq1 ilt1 ile1 seq1 slt1 beq1 bnot1 orb1 bcond1 iwrap1 iof1 ssz1 hA1 cat1 sq1 sl1 imin1 imax1 smin1 smax1 len1 slen1 u81 hL1 op1 hop1 call1 hcall1 code1 hcode1
      have e3 : len1 zs = Int.ofNat N := by rw [hL1.len, hzl]; rfl
      cbv
      refine vcIf.no (by first | (simp [hA1.not, hA1.eq, hA1.lt, hA1.le, hA1.cond, hA1.beq, hA1.orb, hL1.len, hL1.slen, hL1.sq, e3, hi]; done) | (simp only [e3, hi]; simp [hA1.not, hA1.eq, hA1.lt, hA1.le, hA1.cond, hA1.beq, hA1.orb, hL1.len, hL1.slen, hL1.sq, e3, hi]; done) | (simp [hA1.not, hA1.eq, hA1.lt, hA1.le, hA1.cond, hA1.beq, hA1.orb, hL1.len, hL1.slen, hL1.sq, e3, hi]; omega) | (simp only [e3, hi]; simp [hA1.not, hA1.eq, hA1.lt, hA1.le, hA1.cond, hA1.beq, hA1.orb, hL1.len, hL1.slen, hL1.sq, e3, hi]; omega)) ?_
      cbv
      exact hret _ (RetEv.ret eOk rfl (by rw [hRt]; rfl))
  · have hf := hfalse fun c => hNM (by rw [hN, hM, c])
    refine fn_of_vc eOk fOk fo15 Try.func15 rfl rfl rfl fun B hB => ?_
    intro add sub mul quo rem band bor bxor bclr shl shr ieq ilt ile seq slt beq bnot orb bcond iwrap iof ssz hA cat sq sl imin imax smin smax len slen u8 hL op hop call hcall code hcode ret hret
    have e1 : len zs = Int.ofNat N := by rw [hL.len, hzl]; rfl
    have e2 : len ys = Int.ofNat M := by rw [hL.len, hyl]; rfl
    have hne : ¬ ((N : Int) = (M : Int)) := by omega
    cbv
    refine vcIf.yes (by rw [e1, e2, hA.not, hA.eq]; simp only [Int.ofNat_eq_natCast]; simp [hne]) ?_
    cbv
    exact hret _ (RetEv.ret eOk rfl (by rw [hf]; rfl))
end Go.Proofs.Ytdeolllpbflemaa
