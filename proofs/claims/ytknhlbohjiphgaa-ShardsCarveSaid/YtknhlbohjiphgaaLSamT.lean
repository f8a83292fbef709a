/- Whether two transactions are one. Conditions: on sizes. -/
import Derived.Test.YtknhlbohjiphgaaLSame
import Derived.Test.YtknhlbohjiphgaaLFv1
set_option maxRecDepth 100000
set_option maxHeartbeats 4000000
set_option linter.unusedSimpArgs false
set_option linter.unusedVariables false
namespace Go.Proofs.Ytknhlbohjiphgaa
open Go Go.Lx
open Go.Sx (vcIf)

def TxIs (s : Tx) (x : PV) : Prop := ∃ xs zs, xs = pP s.sp ∧ zs = cP s.ch ∧ x = .agg [.int .i64 s.r, .sl xs, .sl zs]
theorem spnEq (ky ky' vl vl' : List UInt8) : eqF Try.prog [PV.str ky, PV.str vl] [PV.str ky', PV.str vl'] (Try.prog.fieldsOf 31).toList = some (decide (ky = ky') && (decide (vl = vl') && true)) := by kernel_rfl
theorem sameTxn_spec (s : Tx) (hs1 : s.sp.length < 9223372036854775807) (hs2 : s.ch.length < 9223372036854775807) (x : PV) (hx : TxIs s x) : FnL Try.prog 25 [.p x, .p x] [] fun v own => v = .p (.bool true) := by
  obtain ⟨xs, zs, hxs, hzs, rfl⟩ := hx
  have hsm := sameChgs_spec s.ch hs2 zs hzs
  obtain ⟨r, sp, ch⟩ := s
  simp only at hs1 hs2 hxs hzs hsm ⊢
  have hxl : xs.length = sp.length := by rw [hxs, pP_length]
  obtain ⟨M, hM⟩ : ∃ M, M = sp.length := ⟨_, rfl⟩
  rw [← hM] at hxl hs1
  refine fn_of_vc eOk fOk fo25 Try.func25 rfl rfl rfl fun B hB => ?_
  intro add sub mul quo rem band bor bxor bclr shl shr ieq ilt ile seq slt beq bnot orb bcond iwrap iof ssz hA cat sq sl imin imax smin smax len slen u8 hL op hop call hcall code hcode ret hret
  have hlx : len xs = Int.ofNat M := by rw [hL.len, hxl]; rfl
  cbv
  rw [hlx]
  refine vcIf.no (by simp [hA.eq, hA.not]) ?_
  cbv
  refine vcIf.no (by simp [hA.cond, hA.eq, hA.not]) ?_
  cbv
  refine hcode _ _ _ (CodeEv.loop eOk fOk (ι := Nat) (fun s => [(2, .own 0 0), (3, .own 1 0), (5, .p (.int .i64 (Int.ofNat s)))])
    (fun s => [.st 52 [.p (.int .i64 r), .p (.sl xs), .p (.sl zs)], .st 52 [.p (.int .i64 r), .p (.sl xs), .p (.sl zs)]]) (fun s => s ≤ M) (fun s => M - s) 0 ?_ ?_)
  · exact ⟨(by repeat (first | exact trivial | refine And.intro rfl ?_)), rfl, Nat.zero_le _⟩
  rintro i h1 rd hrd
  intro add1 sub1 mul1 quo1 rem1 band1 bor1 bxor1 bclr1 shl1 shr1 ieq1 ilt1 ile1 seq1 slt1 beq1 bnot1 orb1 bcond1 iwrap1 iof1 ssz1 hA1 cat1 sq1 sl1 imin1 imax1 smin1 smax1 len1 slen1 u81 hL1 op1 hop1 call1 hcall1 code1 hcode1
  have hlx1 : len1 xs = Int.ofNat M := by rw [hL1.len, hxl]; rfl
  have hadd1 : i < M → add1 .i64 (Int.ofNat i) 1 = Int.ofNat (i + 1) := fun _ => by rw [hA1.add, IntWalk.i64_in _ (by simp only [Int.ofNat_eq_natCast]; omega)]; rfl
  cbv
  by_cases hi : i < M
  · obtain ⟨c, hc⟩ := get_of_lt (show i < sp.length by omega)
    have hzz : xs[i]? = some (.agg [.str c.lo, .str c.hi]) := by rw [hxs]; exact pP_get hc
    obtain ⟨lo, hi'⟩ := c
    simp only at hzz
    refine vcIf.yes (by first | (simp [hA1.not, hA1.eq, hA1.lt, hA1.le, hA1.cond, hA1.beq, hA1.orb, hL1.len, hL1.slen, hL1.sq, hi, hlx1]; done) | (simp only [hi, hlx1]; simp [hA1.not, hA1.eq, hA1.lt, hA1.le, hA1.cond, hA1.beq, hA1.orb, hL1.len, hL1.slen, hL1.sq, hi, hlx1]; done) | (simp [hA1.not, hA1.eq, hA1.lt, hA1.le, hA1.cond, hA1.beq, hA1.orb, hL1.len, hL1.slen, hL1.sq, hi, hlx1]; omega) | (simp only [hi, hlx1]; simp [hA1.not, hA1.eq, hA1.lt, hA1.le, hA1.cond, hA1.beq, hA1.orb, hL1.len, hL1.slen, hL1.sq, hi, hlx1]; omega)) ?_
    cbv
    refine hcode1 _ _ _ (CodeEv.drawT eOk fOk (by kernel_rfl) noX (.rd 0 (.rd 1 (.rd 2 (.rd 3 (.rd 4 (.rd 5 (.rd 6 (.so 7 (.so 8 (.so 9 (.acts (.cons 10 (.done) (.nil))))))))))))) (by kernel_rfl) (by kernel_rfl) ?_)
    intro add2 sub2 mul2 quo2 rem2 band2 bor2 bxor2 bclr2 shl2 shr2 ieq2 ilt2 ile2 seq2 slt2 beq2 bnot2 orb2 bcond2 iwrap2 iof2 ssz2 hA2 cat2 sq2 sl2 imin2 imax2 smin2 smax2 len2 slen2 u82 hL2 op2 hop2 call2 hcall2 code2 hcode2 q2 hq2
    cbv
    refine ⟨i, _, rfl, hzz, rfl, ?_⟩
    cbv
    refine ⟨i, _, rfl, hzz, rfl, ?_⟩
    cbv
    refine hop2 _ _ _ _ (OpEv.aggNe (b := true) rfl rfl rfl (by kernel_rfl) (by kernel_rfl) (by kernel_rfl) ((spnEq lo lo hi' hi').trans (by simp)) ?_)
    cbv
    refine hq2 _ ?_
    cbv
    repeat (first | (refine vcIf.yes ?_ ?_; (focus (simp [hA1.not, hA1.eq, hA1.lt, hA1.le, hA1.cond, hA1.beq, hA1.orb, hL1.len, hL1.slen, hL1.sq]; done)); cbv) | (refine vcIf.no ?_ ?_; (focus (simp [hA1.not, hA1.eq, hA1.lt, hA1.le, hA1.cond, hA1.beq, hA1.orb, hL1.len, hL1.slen, hL1.sq]; done)); cbv) | fail)
    refine hrd _ ⟨i + 1, [], ?_, hi, rfl, ⟨rfl, rfl, ?_, trivial⟩, rfl, rfl, rfl, ?_⟩
    · show M - (i + 1) < M - i
      omega
    · show some (V.p (.int .i64 _)) = _
      rw [hadd1 hi]
    · rw [hB]; exact Nat.zero_le _
  · refine vcIf.no (by first | (simp [hA1.not, hA1.eq, hA1.lt, hA1.le, hA1.cond, hA1.beq, hA1.orb, hL1.len, hL1.slen, hL1.sq, hi, hlx1]; done) | (simp only [hi, hlx1]; simp [hA1.not, hA1.eq, hA1.lt, hA1.le, hA1.cond, hA1.beq, hA1.orb, hL1.len, hL1.slen, hL1.sq, hi, hlx1]; done) | (simp [hA1.not, hA1.eq, hA1.lt, hA1.le, hA1.cond, hA1.beq, hA1.orb, hL1.len, hL1.slen, hL1.sq, hi, hlx1]; omega) | (simp only [hi, hlx1]; simp [hA1.not, hA1.eq, hA1.lt, hA1.le, hA1.cond, hA1.beq, hA1.orb, hL1.len, hL1.slen, hL1.sq, hi, hlx1]; omega)) ?_
    cbv
    refine hcall _ _ _ _ _ (CallEv.same hsm rfl ?_)
    rintro _ _ ⟨rfl, rfl⟩
    cbv
    exact hret _ (RetEv.ret eOk rfl rfl)
end Go.Proofs.Ytknhlbohjiphgaa
