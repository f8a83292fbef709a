/- Messages read. Conditions: on sizes. -/
import Derived.Test.YtnigonhkfpnodaaLFr1
import Derived.Test.YtnigonhkfpnodaaLRd
set_option maxRecDepth 100000
set_option maxHeartbeats 4000000
set_option linter.unusedSimpArgs false
set_option linter.unusedVariables false
namespace Go.Proofs.Ytnigonhkfpnodaa
open Go Go.Lx
open Go.Sx (vcIf)

theorem rdN_lt {l l' : List UInt8} {e n e' : Nat} (h : (n, l', e') = rdN l e) : n < 9223372036854775808 := by
  unfold rdN at h
  split at h
  · cases h; decide
  · cases h; exact dec_lt l 0 0 (by omega) (by simp)
theorem rdN_len {l l' : List UInt8} {e n e' : Nat} (h : (n, l', e') = rdN l e) : l'.length ≤ l.length := by
  unfold rdN at h
  split at h
  · cases h; exact Nat.le_refl _
  · cases h; rw [List.length_drop]; omega
theorem rdT_len {l l' s : List UInt8} {e e' : Nat} (h : (s, l', e') = rdT l e) : s.length ≤ 65536 ∧ l'.length ≤ l.length := by
  unfold rdT at h
  split at h
  · cases h; exact ⟨Nat.zero_le _, Nat.le_refl _⟩
  · cases h
    refine ⟨?_, by rw [List.length_drop]; omega⟩
    unfold decT
    split
    split
    · exact Nat.zero_le _
    split
    · exact Nat.zero_le _
    split
    · exact Nat.zero_le _
    · rw [List.length_take]; omega
def rdMsg (l : List UInt8) : Msg × List UInt8 × Nat :=
  match rdN l 0 with
  | (k, l, e) => match rdN l e with
    | (f, l, e) => match rdN l e with
      | (t, l, e) => match rdN l e with
        | (p, l, e) => match rdN l e with
          | (a, l, e) => match rdN l e with
            | (b, l, e) => match rdN l e with
              | (c, l, e) => match rdT l e with
                | (s, l, e) => (⟨k, f, t, p, a, b, c, s⟩, l, e)
def Msg.zero : Msg := ⟨0, 0, 0, 0, 0, 0, 0, []⟩
/-- The message that bytes are, and the error. -/
def fDec (l : List UInt8) : Msg × Nat :=
  match copen l with
  | (bd, e) => if e ≠ 0 then (Msg.zero, 2) else
    match rdMsg bd with
    | (m, l8, e8) => if e8 = 0 ∧ l8 = [] ∧ (fEnc m).2 = 0 ∧ (fEnc m).1 = l then (m, 0) else (Msg.zero, 2)
def MsgIs (m : Msg) (x : PV) : Prop := ∃ bs, bs = bP m.body ∧ x = .agg [.int .i64 m.kind, .int .i64 m.from_, .int .i64 m.to_, .int .i64 m.epoch, .int .i64 m.a, .int .i64 m.b, .int .i64 m.c, .sl bs]

end Go.Proofs.Ytnigonhkfpnodaa
