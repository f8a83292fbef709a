/- What strings.Clone answers: the same text. Conditions: on its length. -/
import Derived.Test.YtocmeaamaecgeaaLY1
set_option maxRecDepth 100000
set_option maxHeartbeats 4000000
set_option linter.unusedSimpArgs false
set_option linter.unusedVariables false
namespace Go.Proofs.Ytocmeaamaecgeaa
open Go Go.Lx
open Go.Sx (vcIf)

theorem slClone_spec (s : List UInt8) (hs : s.length ≤ 281474976710656) : FnL Try.prog 41 [.p (.str s)] [] fun v own => v = .p (.str s) ∧ own = [] := by
  refine FnL.flat (R := fun v own => v = .p (.str s)) ?_ (by rintro _ _ rfl; exact ⟨_, _, rfl, .refl _, rfl, rfl⟩)
  obtain ⟨n, hn⟩ : ∃ n, n = s.length := ⟨_, rfl⟩
  refine fn_of_vc eOk fOk fo41 Try.func41 rfl rfl rfl fun B hB => ?_
  intro add sub mul quo rem band bor bxor bclr shl shr ieq ilt ile seq slt beq bnot orb bcond iwrap iof ssz hA cat sq sl imin imax smin smax len slen u8 hL op hop call hcall code hcode ret hret
  have hlen : slen s = Int.ofNat n := by rw [hL.slen, hn]; rfl
  cbv
  rw [hlen]
  by_cases h0 : n = 0
  · have hs0 : s = [] := List.length_eq_zero_iff.1 (by omega)
    refine vcIf.yes (by first | (simp [hA.not, hA.eq, hA.lt, hA.le, hA.cond, hA.beq, hA.orb, hL.len, hL.slen, hL.sq, h0]; done) | (simp only [h0]; simp [hA.not, hA.eq, hA.lt, hA.le, hA.cond, hA.beq, hA.orb, hL.len, hL.slen, hL.sq, h0]; done) | (simp [hA.not, hA.eq, hA.lt, hA.le, hA.cond, hA.beq, hA.orb, hL.len, hL.slen, hL.sq, h0]; omega) | (simp only [h0]; simp [hA.not, hA.eq, hA.lt, hA.le, hA.cond, hA.beq, hA.orb, hL.len, hL.slen, hL.sq, h0]; omega)) ?_
    cbv
    exact hret _ (RetEv.ret eOk rfl (by rw [hs0]; rfl))
  · refine vcIf.no (by first | (simp [hA.not, hA.eq, hA.lt, hA.le, hA.cond, hA.beq, hA.orb, hL.len, hL.slen, hL.sq, h0]; done) | (simp only [h0]; simp [hA.not, hA.eq, hA.lt, hA.le, hA.cond, hA.beq, hA.orb, hL.len, hL.slen, hL.sq, h0]; done) | (simp [hA.not, hA.eq, hA.lt, hA.le, hA.cond, hA.beq, hA.orb, hL.len, hL.slen, hL.sq, h0]; omega) | (simp only [h0]; simp [hA.not, hA.eq, hA.lt, hA.le, hA.cond, hA.beq, hA.orb, hL.len, hL.slen, hL.sq, h0]; omega)) ?_
    cbv
    rw [hlen]
    refine ⟨n, n, rfl, rfl, PV.wf1 rfl, Nat.le_refl _, by show 1 * n ≤ _; omega, by unfold maxLen; omega, fun z0 hz0 => ?_⟩
    have hz0l : z0.length = n := by rw [hz0]; simp
    cbv
    refine hop _ _ _ _ (OpEv.copyS eOk rfl rfl rfl rfl rfl rfl rfl rfl rfl fun m z1 hm hz1 => ?_)
    have hz1 : z1 = bP s := by
      have hm : m = n := by rw [hm, ← hn]; exact Nat.min_self n
      rw [hz1, List.take_zero, List.nil_append, List.take_of_length_le (by rw [bP_length]; omega), List.drop_eq_nil_of_le (by omega), List.append_nil]
    have hz1l : z1.length = n := by rw [hz1, bP_length, hn]
    cbv
    refine ⟨0, rfl, by omega, fun q hq => ?_⟩
    obtain rfl : 0 = q := by omega
    cbv
    rw [show iof n = Int.ofNat n from hA.ofNat n]
    refine hop _ _ _ _ (OpEv.unsafeStr rfl (by kernel_rfl) (by kernel_rfl) rfl rfl rfl hz1 (by rw [hB]; exact Nat.zero_le _) hn (by omega) rfl ?_)
    cbv
    exact hret _ (RetEv.ret eOk rfl rfl)
theorem sclone_spec (s : List UInt8) (hs : s.length ≤ 281474976710656) : FnL Try.prog 38 [.p (.str s)] [] fun v own => v = .p (.str s) ∧ own = [] := by
  refine FnL.flat (R := fun v own => v = .p (.str s)) ?_ (by rintro _ _ rfl; exact ⟨_, _, rfl, .refl _, rfl, rfl⟩)
  refine fn_of_vc eOk fOk fo38 Try.func38 rfl rfl rfl fun B hB => ?_
  intro add sub mul quo rem band bor bxor bclr shl shr ieq ilt ile seq slt beq bnot orb bcond iwrap iof ssz hA cat sq sl imin imax smin smax len slen u8 hL op hop call hcall code hcode ret hret
  cbv
  refine hcall _ _ _ _ _ (CallEv.same (slClone_spec s hs) rfl ?_)
  rintro _ _ ⟨rfl, rfl⟩
  cbv
  exact hret _ (RetEv.ret eOk rfl rfl)
end Go.Proofs.Ytocmeaamaecgeaa
