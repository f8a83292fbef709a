/- The document's messages. Conditions: on sizes. -/
import Derived.Test.YtgblimlnkefllaaLFr2
import Derived.Test.YtgblimlnkefllaaLCas2
set_option maxRecDepth 100000
set_option maxHeartbeats 4000000
set_option linter.unusedSimpArgs false
set_option linter.unusedVariables false
namespace Go.Proofs.Ytgblimlnkefllaa
open Go Go.Lx
open Go.Sx (vcIf)

theorem rputText_spec (s : List UInt8) (n : Nat) (xs : List PV) (hxl : xs.length = n) (hs : n + s.length + 20 ≤ 140737488355328) :
    FnL Try.prog 44 [.vw 0 1 0 n none, .p (.str s)] [wrA xs] fun v own => ∃ (n' : Nat) (ys : List PV), ys = xs ++ bP (enct s) ∧ n' = ys.length ∧ n' ≤ n + 9 + s.length ∧ v = .vw 0 1 0 n' none ∧ own = [wrA ys] := by
  have hput := rput_spec xs n s.length hxl (by omega) (by omega)
  have hen := enc_len9 (show s.length < 9223372036854775808 by omega)
  refine fn_of_vc eOk fOk fo44 Try.func44 rfl rfl rfl fun B hB => ?_
  intro add sub mul quo rem band bor bxor bclr shl shr ieq ilt ile seq slt beq bnot orb bcond iwrap iof ssz hA cat sq sl imin imax smin smax len slen u8 hL op hop call hcall code hcode ret hret
  have hsl : slen s = Int.ofNat s.length := by rw [hL.slen]; rfl
  cbv
  rw [hsl]
  refine hcall _ _ _ _ _ (CallEv.lend [0] hput rfl (.cons (.vw 0 0 1 0 n none rfl) (.cons (.p _) .nil)) ⟨⟨_, rfl, .arr _ _ _⟩, trivial⟩ ?_)
  rintro _ _ ⟨m', us', hm', hus', rfl, rfl⟩
  have hul : us'.length = m' := by rw [hus', List.length_append, bP_length]; omega
  cbv
  refine .inl ⟨(), rfl, hul.symm, bP_wf s, ?_, ?_, ?_⟩
  · show m' + (bP s).length ≤ maxLen
    rw [bP_length]; unfold maxLen; omega
  · show (m' + (bP s).length) * 1 ≤ _
    rw [bP_length]; omega
  intro ws n' hw hn'
  replace hw : ws = us' ++ bP s := hw
  replace hn' : n' = m' + (bP s).length := hn'
  rw [bP_length] at hn'
  cbv
  refine hret _ (RetEv.ret eOk rfl ⟨n', ws, ?_, ?_, by omega, rfl, rfl⟩)
  · rw [hw, hus']; unfold enct; rw [bP_append, List.append_assoc]
  · rw [hw, List.length_append, bP_length]; omega

end Go.Proofs.Ytgblimlnkefllaa
