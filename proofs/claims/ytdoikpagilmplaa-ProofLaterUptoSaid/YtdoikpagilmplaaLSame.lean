/- Whether two lists of changes are one. Conditions: on sizes. -/
import Derived.Test.YtdoikpagilmplaaLCh1
set_option maxRecDepth 100000
set_option maxHeartbeats 4000000
set_option linter.unusedSimpArgs false
set_option linter.unusedVariables false
namespace Go.Proofs.Ytdoikpagilmplaa
open Go Go.Lx
open Go.Sx (vcIf)

theorem chgEq (k k' : Int) (ky ky' vl vl' : List UInt8) : eqF Try.prog [PV.int .i64 k, PV.str ky, PV.str vl] [PV.int .i64 k', PV.str ky', PV.str vl'] (Try.prog.fieldsOf 58).toList = some (decide (k = k') && (decide (ky = ky') && (decide (vl = vl') && true))) := by kernel_rfl
theorem sameChgs_spec (l : List Chg) (hl : l.length < 9223372036854775807) (zs : List PV) (hzs : zs = cP l) :
    FnL Try.prog 38 [.p (.sl zs), .p (.sl zs)] [] fun v own => v = .p (.bool true) ∧ own = [] := by
  have hzl : zs.length = l.length := by rw [hzs, cP_length]
  obtain ⟨N, hN⟩ : ∃ N, N = l.length := ⟨_, rfl⟩
  rw [← hN] at hzl hl
  refine fn_of_vc eOk fOk fo38 Try.func38 rfl rfl rfl fun B hB => ?_
  intro add sub mul quo rem band bor bxor bclr shl shr ieq ilt ile seq slt beq bnot orb bcond iwrap iof ssz hA cat sq sl imin imax smin smax len slen u8 hL op hop call hcall code hcode ret hret
  have hlen : len zs = Int.ofNat N := by rw [hL.len, hzl]; rfl
  cbv
  rw [hlen]
  refine vcIf.no (by simp [hA.eq, hA.not]) ?_
  cbv
  refine hcode _ _ _ (CodeEv.loop eOk fOk (ι := Nat) (fun s => [(0, .p (.sl zs)), (1, .p (.sl zs)), (5, .p (.int .i64 (Int.ofNat s)))])
    (fun s => []) (fun s => s ≤ N) (fun s => N - s) 0 ?_ ?_)
  · exact ⟨(by repeat (first | exact trivial | refine And.intro rfl ?_)), rfl, Nat.zero_le _⟩
  rintro i h1 rd hrd
  intro add1 sub1 mul1 quo1 rem1 band1 bor1 bxor1 bclr1 shl1 shr1 ieq1 ilt1 ile1 seq1 slt1 beq1 bnot1 orb1 bcond1 iwrap1 iof1 ssz1 hA1 cat1 sq1 sl1 imin1 imax1 smin1 smax1 len1 slen1 u81 hL1 op1 hop1 call1 hcall1 code1 hcode1
  have hadd1 : i < N → add1 .i64 (Int.ofNat i) 1 = Int.ofNat (i + 1) := fun _ => by rw [hA1.add, IntWalk.i64_in _ (by simp only [Int.ofNat_eq_natCast]; omega)]; rfl
  cbv
  by_cases hi : i < N
  · obtain ⟨c, hc⟩ := get_of_lt (show i < l.length by omega)
    have hzz : zs[i]? = some (.agg [.int .i64 c.kind, .str c.key, .str c.val]) := by rw [hzs]; exact cP_get hc
    obtain ⟨k, ky, vl⟩ := c
    simp only at hzz
    refine vcIf.yes (by first | (simp [hA1.not, hA1.eq, hA1.lt, hA1.le, hA1.cond, hA1.beq, hA1.orb, hL1.len, hL1.slen, hL1.sq, hi, hzl]; done) | (simp only [hi, hzl]; simp [hA1.not, hA1.eq, hA1.lt, hA1.le, hA1.cond, hA1.beq, hA1.orb, hL1.len, hL1.slen, hL1.sq, hi, hzl]; done) | (simp [hA1.not, hA1.eq, hA1.lt, hA1.le, hA1.cond, hA1.beq, hA1.orb, hL1.len, hL1.slen, hL1.sq, hi, hzl]; omega) | (simp only [hi, hzl]; simp [hA1.not, hA1.eq, hA1.lt, hA1.le, hA1.cond, hA1.beq, hA1.orb, hL1.len, hL1.slen, hL1.sq, hi, hzl]; omega)) ?_
    cbv
    refine hcode1 _ _ _ (CodeEv.drawT eOk fOk (by kernel_rfl) noX (.rd 0 (.rd 1 (.rd 2 (.rd 3 (.rd 4 (.so 5 (.so 6 (.so 7 (.acts (.cons 8 (.done) (.nil)))))))))))  (by kernel_rfl) (by kernel_rfl) ?_)
    intro add2 sub2 mul2 quo2 rem2 band2 bor2 bxor2 bclr2 shl2 shr2 ieq2 ilt2 ile2 seq2 slt2 beq2 bnot2 orb2 bcond2 iwrap2 iof2 ssz2 hA2 cat2 sq2 sl2 imin2 imax2 smin2 smax2 len2 slen2 u82 hL2 op2 hop2 call2 hcall2 code2 hcode2 q2 hq2
    cbv
    refine ⟨i, _, rfl, hzz, rfl, ?_⟩
    cbv
    refine ⟨i, _, rfl, hzz, rfl, ?_⟩
    cbv
    refine hop2 _ _ _ _ (OpEv.aggNe (b := true) rfl rfl rfl (by kernel_rfl) (by kernel_rfl) (by kernel_rfl) ((chgEq k k ky ky vl vl).trans (by simp)) ?_)
    cbv
    refine hq2 _ ?_
    cbv
    repeat (first | (refine vcIf.yes ?_ ?_; (focus (simp [hA1.not, hA1.eq, hA1.lt, hA1.le, hA1.cond, hA1.beq, hA1.orb, hL1.len, hL1.slen, hL1.sq]; done)); cbv) | (refine vcIf.no ?_ ?_; (focus (simp [hA1.not, hA1.eq, hA1.lt, hA1.le, hA1.cond, hA1.beq, hA1.orb, hL1.len, hL1.slen, hL1.sq]; done)); cbv) | fail)
    refine hrd _ ⟨i + 1, [], ?_, hi, rfl, ⟨rfl, rfl, ?_, trivial⟩, rfl, rfl, rfl, ?_⟩
    · show N - (i + 1) < N - i
      omega
    · show some (V.p (.int .i64 _)) = _
      rw [hadd1 hi]
    · rw [hB]; exact Nat.zero_le _
  · refine vcIf.no (by first | (simp [hA1.not, hA1.eq, hA1.lt, hA1.le, hA1.cond, hA1.beq, hA1.orb, hL1.len, hL1.slen, hL1.sq, hi, hzl]; done) | (simp only [hi, hzl]; simp [hA1.not, hA1.eq, hA1.lt, hA1.le, hA1.cond, hA1.beq, hA1.orb, hL1.len, hL1.slen, hL1.sq, hi, hzl]; done) | (simp [hA1.not, hA1.eq, hA1.lt, hA1.le, hA1.cond, hA1.beq, hA1.orb, hL1.len, hL1.slen, hL1.sq, hi, hzl]; omega) | (simp only [hi, hzl]; simp [hA1.not, hA1.eq, hA1.lt, hA1.le, hA1.cond, hA1.beq, hA1.orb, hL1.len, hL1.slen, hL1.sq, hi, hzl]; omega)) ?_
    cbv
    exact hret _ (RetEv.ret eOk rfl ⟨rfl, rfl⟩)
end Go.Proofs.Ytdoikpagilmplaa
