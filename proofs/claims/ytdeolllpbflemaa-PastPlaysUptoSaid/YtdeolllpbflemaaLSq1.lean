/- Spans: what is empty, what two share, what a change names. Conditions: on lengths. -/
import Derived.Test.YtdeolllpbflemaaLHx
import Derived.Test.YtdeolllpbflemaaLFv2
set_option maxRecDepth 100000
set_option maxHeartbeats 8000000
set_option linter.unusedSimpArgs false
set_option linter.unusedVariables false
namespace Go.Proofs.Ytdeolllpbflemaa
open Go Go.Lx
open Go.Sx (vcIf)

def smx (a b : List UInt8) : List UInt8 := if Op.bytesLess a b then b else a
def smn (a b : List UInt8) : List UInt8 := if Op.bytesLess b a then b else a
theorem smn_eq (a b : List UInt8) : (if Op.bytesLess a b || decide (a = b) then a else b) = smn a b := by
  have := bl_gt a b
  unfold smn
  rw [← show (!(Op.bytesLess a b || decide (a = b))) = Op.bytesLess b a from this]
  by_cases h : (Op.bytesLess a b || decide (a = b)) = true <;> simp [h]
theorem gt2 (a c : List UInt8) : (!(Op.bytesLess c a || decide (c = a))) = Op.bytesLess a c := bl_gt c a
def mt (s t : Spn) : Spn := if Op.bytesLess (smx s.lo t.lo) (smn s.hi t.hi) then ⟨smx s.lo t.lo, smn s.hi t.hi⟩ else ⟨[], []⟩
def spn (c : Chg) : Spn := if c.kind = 3 then ⟨c.key, c.val⟩ else ⟨c.key, c.key ++ [0]⟩
def hs (s : Spn) (k : List UInt8) : Bool := !(bl k s.lo) && bl k s.hi

theorem has_spec (lo hi key : List UInt8) : FnL Try.prog 36 [.p (.agg [.str lo, .str hi]), .p (.str key)] [] fun v own => ∃ b, b = hs ⟨lo, hi⟩ key ∧ v = .p (.bool b) ∧ own = [] := by
  obtain ⟨R, hR⟩ : ∃ R, R = hs ⟨lo, hi⟩ key := ⟨_, rfl⟩
  rw [← hR]
  unfold hs at hR
  simp only at hR
  refine FnL.flat (R := fun v own => ∃ b, b = R ∧ v = .p (.bool b)) ?_ (by rintro _ _ ⟨b, h, rfl⟩; exact ⟨_, _, rfl, .refl _, b, h, rfl, rfl⟩)
  refine fn_of_vc eOk fOk fo36 Try.func36 rfl rfl rfl fun B hB => ?_
  intro add sub mul quo rem band bor bxor bclr shl shr ieq ilt ile seq slt beq bnot orb bcond iwrap iof ssz hA cat sq sl imin imax smin smax len slen u8 hL op hop call hcall code hcode ret hret
  cbv
  by_cases h : Op.bytesLess key lo = true
  · have hf : R = false := by rw [hR, h]; rfl
    refine vcIf.no (by rw [hA.not, hL.sl, h]; rfl) ?_
    cbv
    exact hret _ (RetEv.ret eOk rfl ⟨false, hf.symm, rfl⟩)
  · have h := Bool.eq_false_iff.2 h
    have hf : R = Op.bytesLess key hi := by rw [hR, h]; rfl
    refine vcIf.yes (by rw [hA.not, hL.sl, h]; rfl) ?_
    cbv
    refine hret _ (RetEv.ret eOk rfl ⟨_, ?_, rfl⟩)
    show bcond true (sl key hi) false = _
    rw [hA.cond, hL.sl, hf]; rfl
theorem next_spec (key : List UInt8) (hk : key.length < 9223372036854775807) : FnL Try.prog 56 [.p (.str key)] [] fun v own => ∃ k, k = key ++ [0] ∧ v = .p (.str k) ∧ own = [] := by
  refine FnL.flat (R := fun v own => ∃ k, k = key ++ [0] ∧ v = .p (.str k)) ?_ (by rintro _ _ ⟨b, h, rfl⟩; exact ⟨_, _, rfl, .refl _, b, h, rfl, rfl⟩)
  obtain ⟨n, hn⟩ : ∃ n, n = key.length := ⟨_, rfl⟩
  have hn1 : n + 1 ≤ 9223372036854775807 := by omega
  refine fn_of_vc eOk fOk fo56 Try.func56 rfl rfl rfl fun B hB => ?_
  intro add sub mul quo rem band bor bxor bclr shl shr ieq ilt ile seq slt beq bnot orb bcond iwrap iof ssz hA cat sq sl imin imax smin smax len slen u8 hL op hop call hcall code hcode ret hret
  cbv
  refine ⟨(), by rw [← hn]; exact hn1, ?_⟩
  cbv
  refine hret _ (RetEv.ret eOk rfl ⟨_, ?_, rfl⟩)
  exact hL.cat _ _

end Go.Proofs.Ytdeolllpbflemaa
