/- Where in a list something is found, and whether it is. Conditions: on sizes. -/
import Derived.Test.YtdeolllpbflemaaLPa1
set_option maxRecDepth 100000
set_option maxHeartbeats 4000000
set_option linter.unusedSimpArgs false
set_option linter.unusedVariables false
namespace Go.Proofs.Ytdeolllpbflemaa
open Go Go.Lx
open Go.Sx (vcIf)

theorem layIdx (zs : List PV) (N : Nat) (hN : zs.length = N) (hl : N < 9223372036854775807) (hz : ∀ (i : Nat) (z : PV), zs[i]? = some z → z.isAgg = true ∧ z.cells.length = 2) (f : FuncId) (b0 : PV) (p : Nat → Bool)
    (hf : ∀ (i : Nat) (z : PV), zs[i]? = some z → FnL Try.prog f [.p z, .imm 1 b0 0] [] fun v own => ∃ b, b = p i ∧ v = .p (.bool b) ∧ own = []) :
    FnL Try.prog 53 [.p (.sl zs), .fn f [.imm 1 b0 0]] [] fun v own => ∃ k : Int, ((k = -1 ∧ ∀ j, j < N → p j = false) ∨ ∃ i : Nat, i < N ∧ k = Int.ofNat i ∧ p i = true ∧ ∀ j, j < i → p j = false) ∧ v = .p (.int .i64 k) ∧ own = [] := by
  refine fn_of_vc eOk fOk fo53 Try.func53 rfl rfl rfl fun B hB => ?_
  intro add sub mul quo rem band bor bxor bclr shl shr ieq ilt ile seq slt beq bnot orb bcond iwrap iof ssz hA cat sq sl imin imax smin smax len slen u8 hL op hop call hcall code hcode ret hret
  have hlen : len zs = Int.ofNat N := by rw [hL.len, hN]; rfl
  cbv
  rw [hlen]
  refine hcode _ _ _ (CodeEv.loop eOk fOk (ι := Nat) (fun s => [(0, .p (.sl zs)), (1, .fn f [.imm 1 b0 0]), (7, .p (.int .i64 (Int.ofNat N))), (8, .p (.int .i64 (Int.ofNat s)))])
    (fun s => []) (fun s => s ≤ N ∧ ∀ j, j < s → p j = false) (fun s => N - s) 0 ?_ ?_)
  · exact ⟨⟨rfl, rfl, rfl, rfl, trivial⟩, rfl, Nat.zero_le _, fun j h => absurd h (Nat.not_lt_zero j)⟩
  rintro i ⟨h1, h2⟩ rd hrd
  intro add1 sub1 mul1 quo1 rem1 band1 bor1 bxor1 bclr1 shl1 shr1 ieq1 ilt1 ile1 seq1 slt1 beq1 bnot1 orb1 bcond1 iwrap1 iof1 ssz1 hA1 cat1 sq1 sl1 imin1 imax1 smin1 smax1 len1 slen1 u81 hL1 op1 hop1 call1 hcall1 code1 hcode1
  have hadd1 : i < N → add1 .i64 (Int.ofNat i) 1 = Int.ofNat (i + 1) := fun _ => by rw [hA1.add, IntWalk.i64_in _ (by simp only [Int.ofNat_eq_natCast]; omega)]; rfl
  cbv
  by_cases hi : i < N
  · obtain ⟨z, hzz⟩ := get_of_lt (show i < zs.length by omega)
    refine vcIf.yes (by first | (simp [hA1.not, hA1.eq, hA1.lt, hA1.le, hA1.cond, hA1.beq, hA1.orb, hL1.len, hL1.slen, hL1.sq, hi]; done) | (simp only [hi]; simp [hA1.not, hA1.eq, hA1.lt, hA1.le, hA1.cond, hA1.beq, hA1.orb, hL1.len, hL1.slen, hL1.sq, hi]; done) | (simp [hA1.not, hA1.eq, hA1.lt, hA1.le, hA1.cond, hA1.beq, hA1.orb, hL1.len, hL1.slen, hL1.sq, hi]; omega) | (simp only [hi]; simp [hA1.not, hA1.eq, hA1.lt, hA1.le, hA1.cond, hA1.beq, hA1.orb, hL1.len, hL1.slen, hL1.sq, hi]; omega)) ?_
    cbv
    refine ⟨i, _, rfl, hzz, (hz i z hzz).2, ?_⟩
    cbv
    have hz1 := (hz i z hzz).1
    unfold PV.isAgg at hz1
    rw [hz1]
    cbv
    refine hcall1 _ _ _ _ _ (CallEv.same (hf i z hzz) rfl ?_)
    rintro _ _ ⟨b, hb, rfl, rfl⟩
    cbv
    cases b with
    | true =>
      cbv
      exact hret _ (RetEv.ret eOk rfl ⟨_, .inr ⟨i, hi, rfl, hb.symm, h2⟩, rfl, rfl⟩)
    | false =>
      cbv
      refine hrd _ ⟨i + 1, [], ?_, ⟨hi, ?_⟩, rfl, ⟨rfl, rfl, rfl, ?_, trivial⟩, rfl, rfl, rfl, ?_⟩
      · show N - (i + 1) < N - i
        omega
      · intro j hj
        rcases Nat.lt_succ_iff_lt_or_eq.1 hj with c | c
        · exact h2 j c
        · rw [c]; exact hb.symm
      · show some (V.p (.int .i64 _)) = _
        rw [hadd1 hi]
      · rw [hB]; exact Nat.le_refl _
  · refine vcIf.no (by first | (simp [hA1.not, hA1.eq, hA1.lt, hA1.le, hA1.cond, hA1.beq, hA1.orb, hL1.len, hL1.slen, hL1.sq, hi]; done) | (simp only [hi]; simp [hA1.not, hA1.eq, hA1.lt, hA1.le, hA1.cond, hA1.beq, hA1.orb, hL1.len, hL1.slen, hL1.sq, hi]; done) | (simp [hA1.not, hA1.eq, hA1.lt, hA1.le, hA1.cond, hA1.beq, hA1.orb, hL1.len, hL1.slen, hL1.sq, hi]; omega) | (simp only [hi]; simp [hA1.not, hA1.eq, hA1.lt, hA1.le, hA1.cond, hA1.beq, hA1.orb, hL1.len, hL1.slen, hL1.sq, hi]; omega)) ?_
    cbv
    exact hret _ (RetEv.ret eOk rfl ⟨-1, .inl ⟨rfl, fun j hj => h2 j (by omega)⟩, rfl, rfl⟩)
end Go.Proofs.Ytdeolllpbflemaa
