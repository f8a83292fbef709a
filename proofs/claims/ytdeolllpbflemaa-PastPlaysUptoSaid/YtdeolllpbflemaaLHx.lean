/- The document's Has: is a key in a span? No conditions. -/
import Derived.Test.YtdeolllpbflemaaLSh3
set_option maxRecDepth 100000
set_option maxHeartbeats 8000000
set_option linter.unusedSimpArgs false
set_option linter.unusedVariables false
namespace Go.Proofs.Ytdeolllpbflemaa
open Go Go.Lx
open Go.Sx (vcIf)

theorem rhas_spec (lo hi key : List UInt8) : FnL Try.prog 20 [.p (.agg [.str lo, .str hi]), .p (.str key)] [] fun v own => v = .p (.bool (!(bl key lo) && bl key hi)) ∧ own = [] := by
  obtain ⟨R, hR⟩ : ∃ R, R = (!(bl key lo) && bl key hi) := ⟨_, rfl⟩
  rw [← hR]
  refine FnL.flat (R := fun v own => v = .p (.bool R)) ?_ (by rintro _ _ rfl; exact ⟨_, _, rfl, .refl _, rfl, rfl⟩)
  refine fn_of_vc eOk fOk fo20 Try.func20 rfl rfl rfl fun B hB => ?_
  intro add sub mul quo rem band bor bxor bclr shl shr ieq ilt ile seq slt beq bnot orb bcond iwrap iof ssz hA cat sq sl imin imax smin smax len slen u8 hL op hop call hcall code hcode ret hret
  cbv
  by_cases h : Op.bytesLess key lo = true
  · have hf : R = false := by rw [hR, h]; rfl
    refine vcIf.no (by rw [hA.not, hL.sl, h]; rfl) ?_
    cbv
    refine hret _ (RetEv.ret eOk rfl ?_)
    rw [hf]
    rfl
  · have h := Bool.eq_false_iff.2 h
    have hf : R = Op.bytesLess key hi := by rw [hR, h]; rfl
    refine vcIf.yes (by rw [hA.not, hL.sl, h]; rfl) ?_
    cbv
    refine hret _ (RetEv.ret eOk rfl ?_)
    rw [hf]
    show V.p (.bool (bcond true (sl key hi) false)) = _
    rw [hA.cond, hL.sl]; rfl
end Go.Proofs.Ytdeolllpbflemaa
