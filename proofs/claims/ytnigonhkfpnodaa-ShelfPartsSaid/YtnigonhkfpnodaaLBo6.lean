/- The simplest facts of a book; BookNone, BookReads. Conditions: on sizes. -/
import Derived.Test.YtnigonhkfpnodaaLBo5
import Derived.Test.YtnigonhkfpnodaaLY11
set_option maxRecDepth 100000
set_option maxHeartbeats 8000000
set_option linter.unusedSimpArgs false
set_option linter.unusedVariables false
namespace Go.Proofs.Ytnigonhkfpnodaa
open Go Go.Lx
open Go.Sx (vcIf)

theorem isTp0 (room : Nat) (h : room ≤ 1048576) : IsTp ⟨[], 0, room, -1, false⟩ 0 0 (room : Int) (-1) false [] := ⟨rfl, rfl, rfl, rfl, rfl, rfl, by simp, by simp, h, by simp, by simp⟩
theorem bkOpen0 (room : Nat) : bkOpen ⟨[], 0, room, -1, false⟩ = (0, ⟨⟨[], 0, room, -1, false⟩, [], false⟩) := by
  unfold bkOpen; rw [if_neg (by simp), rdR_nil, if_neg (by simp)]
def awL : List (List UInt8) := [[97, 98], []]
theorem enc_small {n : Nat} (h : n < 128) : (enc n).length = 1 := by rw [enc_lo h]; rfl
theorem awLen : (rbytes awL).length = 12 := by
  have e : rbytes awL = enct (cseal [97, 98]) ++ enct (cseal []) := by simp [rbytes, encts, awL]
  rw [e, List.length_append]
  unfold enct
  rw [List.length_append, List.length_append, cseal_length, cseal_length]
  rw [enc_small (by decide), enc_small (by decide)]; rfl
theorem bkAdd_fresh (room : Nat) (l : List (List UInt8)) (hl : ∀ r ∈ l, r.length ≤ 65532) (hr : (rbytes l).length ≤ room) :
    bkAdd ⟨⟨[], 0, room, -1, false⟩, [], false⟩ l = (0, ⟨⟨rbytes l, (rbytes l).length, room, -1, false⟩, l, false⟩) := by
  have e1 : layE false l = 0 := by unfold layE; rw [if_neg (by decide), if_pos hl]
  unfold bkAdd
  simp only
  rw [e1, if_neg (by decide)]
  have w : ∀ s, s ≤ room → ∀ t : Tp, t.room = room → t.down = false → t.after = -1 → wr t s = (0, t) := fun s hs t h1 h2 h3 => by
    unfold wr; rw [h2, h3, h1, if_neg (by decide), if_neg (by omega), if_neg (by decide), if_neg (by decide)]
  have e2 : tpAdd ⟨[], 0, room, -1, false⟩ (rbytes l) = (0, ⟨rbytes l, 0, room, -1, false⟩) := by
    unfold tpAdd; simp only; rw [w _ (by simpa using hr) _ rfl rfl rfl]; simp
  have e3 : tpSync ⟨rbytes l, 0, room, -1, false⟩ = (0, ⟨rbytes l, (rbytes l).length, room, -1, false⟩) := by
    unfold tpSync; simp only; rw [w _ (Nat.zero_le _) _ rfl rfl rfl]; simp
  rw [e2, if_pos rfl, e3]
  simp [bkFin]
theorem awZ : PW (.sl [.sl [.int .u8 97, .int .u8 98], .nils]) (.sl (rcP awL)) :=
  PW.slO ⟨.refl _, PW.nils, trivial⟩ (by simp [PV.one]) (by simp [PV.one, rcP, awL])

theorem wrCalm (l : List UInt8) (su room s : Nat) (h : s ≤ room) : wr ⟨l, su, room, -1, false⟩ s = (0, ⟨l, su, room, -1, false⟩) := by
  unfold wr; simp only; rw [if_neg (by decide), if_neg (by omega), if_neg (by decide), if_neg (by decide)]
theorem tpAdd0 (l : List UInt8) (room : Nat) (h : l.length ≤ room) : tpAdd ⟨[], 0, room, -1, false⟩ l = (0, ⟨l, 0, room, -1, false⟩) := by
  unfold tpAdd; simp only; rw [wrCalm _ _ _ _ (by simpa using h)]; simp
theorem tpSync0 (l : List UInt8) (room : Nat) : tpSync ⟨l, 0, room, -1, false⟩ = (0, ⟨l, l.length, room, -1, false⟩) := by
  unfold tpSync; simp only; rw [wrCalm _ _ _ _ (Nat.zero_le _)]; simp
theorem bkOpen_calm (l : List UInt8) (room : Nat) (h : l.length ≤ room) : bkOpen ⟨l, l.length, room, -1, false⟩ = (0, ⟨⟨l.take (rdR l).2, (l.take (rdR l).2).length, room, -1, false⟩, (rdR l).1, false⟩) := by
  have hle := (rdR_le l.length l (Nat.le_refl _)).1
  unfold bkOpen
  simp only
  rw [if_neg (by decide)]
  split
  · unfold tpRep; simp only; rw [wrCalm _ _ _ _ (by rw [List.length_take]; omega)]; simp
  · rw [List.take_of_length_le (by omega)]
end Go.Proofs.Ytnigonhkfpnodaa
