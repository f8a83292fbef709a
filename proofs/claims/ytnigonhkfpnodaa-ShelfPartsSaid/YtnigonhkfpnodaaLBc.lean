/- bytes.Clone. Conditions: on sizes. -/
import Derived.Test.YtnigonhkfpnodaaLEnv
set_option maxRecDepth 100000
set_option maxHeartbeats 4000000
set_option linter.unusedSimpArgs false
set_option linter.unusedVariables false
namespace Go.Proofs.Ytnigonhkfpnodaa
open Go Go.Lx
open Go.Sx (vcIf)

theorem bclone_spec (xs : List PV) (n : Nat) (hn : xs.length = n) (hw : Wf 1 xs) (hs : n ≤ 140737488355328) :
    FnL Try.prog 106 [.p (.sl xs)] [] fun z own => z = .vw 0 1 0 n none ∧ own = [.arr 5 1 xs] := by
  refine fn_of_vc eOk fOk fo106 Try.func106 rfl rfl rfl fun B hB => ?_
  intro add sub mul quo rem band bor bxor bclr shl shr ieq ilt ile seq slt beq bnot orb bcond iwrap iof ssz hA cat sq sl imin imax smin smax len slen u8 hL op hop call hcall code hcode ret hret
  cbv
  intro b hb
  cases b with
  | true =>
    have := hb rfl
    subst this
    obtain rfl : n = 0 := hn.symm
    cbv
    refine hret _ (RetEv.convC (Conv.hollow 2 5 1 (by decide) rfl) (RetEv.ret eOk rfl ⟨rfl, rfl⟩))
  | false =>
    cbv
    refine ⟨true, ?_⟩
    cbv
    refine .inl ⟨(), rfl, rfl, hw, ?_, ?_, ?_⟩
    · show 0 + xs.length ≤ maxLen
      unfold maxLen; omega
    · show (0 + xs.length) * 1 ≤ _
      omega
    intro zs n' hz hn'
    simp only [Sq.get] at hz hn'
    obtain rfl : zs = xs := by rw [hz]; rfl
    obtain rfl : n' = n := by rw [hn', ← hn]; simp
    cbv
    exact hret _ (RetEv.ret eOk rfl ⟨rfl, rfl⟩)

end Go.Proofs.Ytnigonhkfpnodaa
