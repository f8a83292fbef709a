/- The walk of roundhouselaw03.CodeOnce: true, whatever the bytes. A condition: the slice is no longer than a machine can hold. -/
import Derived.Test.YtdbagbklhchbkaaLaw3a
import Derived.Test.YtdbagbklhchbkaaCode4
set_option maxRecDepth 100000
set_option maxHeartbeats 4000000
set_option linter.unusedSimpArgs false
set_option linter.unusedVariables false
namespace Go.Proofs.Ytdbagbklhchbkaa
open Go Go.Sx

/-- What was read is what would be written. -/
theorem enc_dec : ∀ (l : List UInt8) (i acc : Nat), (dec i acc l).2.2 = 0 → ∃ m, (dec i acc l).1 = acc + m * 128 ^ i ∧ enc m = l.take ((dec i acc l).2.1 - i) ∧ (m = 0 → i = 0)
  | [], i, acc, h => by simp [dec] at h; split at h <;> simp at h
  | x :: r, i, acc, h => by
    have hxb : x.toNat < 256 := x.toNat_lt
    rw [dec_cons] at h ⊢
    split at h
    · simp at h
    · rename_i h9
      rw [if_neg h9]
      split at h
      · rename_i hx
        rw [if_pos hx]
        obtain ⟨m, h1, h2, h3⟩ := enc_dec r (i + 1) _ h
        have hu := dec_used r (i + 1) _ h
        refine ⟨(x.toNat - 128) + m * 128, ?_, ?_, fun h => ?_⟩
        · rw [h1, Nat.pow_succ, Nat.add_mul, Nat.add_assoc, Nat.mul_assoc m 128, Nat.mul_comm 128]
        · have hm : m ≠ 0 := fun hm => by have := h3 hm; omega
          rw [enc_hi (by omega), show (x.toNat - 128 + m * 128) / 128 = m by omega, h2, show (x.toNat - 128 + m * 128) % 128 + 128 = x.toNat by omega, UInt8.ofNat_toNat]
          obtain ⟨d, hd⟩ : ∃ d, (dec (i + 1) (acc + (x.toNat - 128) * 128 ^ i) r).2.1 - i = d + 1 := ⟨_, (Nat.succ_pred_eq_of_pos (by omega)).symm⟩
          rw [hd, List.take_succ_cons, show (dec (i + 1) (acc + (x.toNat - 128) * 128 ^ i) r).2.1 - (i + 1) = d by omega]
        · have hm : m ≠ 0 := fun hm => by have := h3 hm; omega
          omega
      · rename_i hx
        rw [if_neg hx]
        split at h
        · simp at h
        · rename_i h0
          rw [if_neg h0]
          refine ⟨x.toNat, rfl, ?_, fun h => by omega⟩
          rw [enc_lo (by omega), UInt8.ofNat_toNat, show (acc + x.toNat * 128 ^ i, i + 1, 0).2.1 - i = 1 by simp]
          rfl

theorem codeOnce {H : Hp} (hb : H.Bd) {a : Option Addr} {n c : Nat} {l : List UInt8} (S : Bs H a n c l) :
    FnV Try.prog 9 [.slice a n c] H (fun v _ => v = .bool true) := by
  have hlen := Bs.length S
  refine fn_of_vc eOk fOk Try.func9 rfl rfl rfl hb ?_
  intro add sub mul quo rem band bor bxor bclr shl shr ieq ilt ile seq slt beq bnot orb bcond iwrap iof ssz hA op hop code hcode ret hret
  cbv
  refine hop _ _ _ (EEv.callF fo27 rfl rfl (fun H1 hl1 hb1 => num_spec hb1 (S.mono hl1)) ?_).op
  rintro v H2 hl2 hb2 ⟨x, u, e, hd, rfl⟩
  cbv
  refine hop _ _ _ (EEv.callF fo29 rfl rfl (fun H1 hl1 hb1 => awake_spec hb1) ?_).op
  rintro v H3 hl3 hb3 rfl
  cbv
  refine vcIf.no (by rw [hA.not]; rfl) ?_
  cbv
  by_cases he : e = 0
  · refine vcIf.no (by simp [hA.cond, hA.not, hA.eq, he]) ?_
    cbv
    have hxl : x < 9223372036854775808 := by
      have := dec_lt l 0 0 (by omega) (by simp); rw [← hd] at this; exact this
    have hul := dec_used l 0 0 (by rw [← hd]; exact he)
    rw [← hd] at hul
    simp only at hul
    obtain ⟨m, hm1, hm2, _⟩ := enc_dec l 0 0 (by rw [← hd]; exact he)
    rw [← hd] at hm1 hm2
    simp only at hm1 hm2
    refine hop _ _ _ (EEv.callF fo26 rfl rfl (fun H1 hl1 hb1 => putNum_spec (l := []) hb1 SlV.none (by decide) (Int.ofNat x) (by simp only [Int.ofNat_eq_natCast]; omega)) ?_).op
    rintro v H4 hl4 hb4 hv
    obtain ⟨a4, n4, c4, l4, e4, rfl, S4, q4⟩ := putNumR_any hv
    rcases q4 with ⟨p4, _⟩ | ⟨p4, rfl, g4⟩
    · simp only [Int.ofNat_eq_natCast] at p4; omega
    cbv
    refine hcode _ _ _ (CodeEv.draw eOk fOk (by kernel_rfl) ((List.range 22).map fun i => (i, false)) (by kernel_rfl) (by kernel_rfl) (by kernel_rfl) ?_)
    intro add1 sub1 mul1 quo1 rem1 band1 bor1 bxor1 bclr1 shl1 shr1 ieq1 ilt1 ile1 seq1 slt1 beq1 bnot1 orb1 bcond1 iwrap1 iof1 ssz1 hA1 rd1 hrd1 act1 hact1 q1 hq1
    cbv
    have hlH4 : H.Le H4 := hl2.trans (hl3.trans hl4)
    refine vcIf.yes (by simp [hA1.eq]) ?_
    cbv
    refine vcIf.yes (by simp only [hA1.cond, hA1.le, hA1.ofNat, cond_true, decide_eq_true_eq, Int.ofNat_eq_natCast]; omega) ?_
    cbv
    refine hrd1 _ _ _ (PEv.str eOk rfl rfl rfl rfl rfl rfl rfl rfl S4.sl (Bs.length S4) ?_)
    cbv
    refine hrd1 _ _ _ (PEv.slice eOk rfl rfl rfl rfl rfl (S.mono hlH4) (l := 0) (h := u) rfl ⟨_, _, rfl, rfl⟩ (by omega) (by omega) ?_)
    intro a5 n5 c5 hn5 S5
    obtain ⟨l5, hl5, S5⟩ : ∃ l5, l5 = l.take u ∧ Bs H4 a5 n5 c5 l5 := ⟨_, rfl, by
      rw [List.drop_zero, Nat.sub_zero] at S5
      have e : byteV (l.take u) = (byteV l).take u := List.map_take ..
      unfold Bs; rw [e]; exact S5⟩
    have hxeq : enc x = l.take u := by
      rw [Nat.zero_add, Nat.pow_zero, Nat.mul_one] at hm1
      rw [hm1]; simpa using hm2
    cbv
    refine hrd1 _ _ _ (PEv.str eOk rfl rfl rfl rfl rfl rfl rfl rfl S5.sl (Bs.length S5) ?_)
    cbv
    have hseq : seq1 ⟨l4.toArray⟩ ⟨l5.toArray⟩ = true := by
      rw [hA1.seq, g4, hl5, beq_iff_eq]
      simp [ByteArray.toList_eq, hxeq]
    refine vcIf.yes (by rw [hA1.cond, cond_true, hseq]) ?_
    cbv
    refine hq1 _ ?_
    cbv
    exact hret _ (RetEv.fn eOk rfl fun H' _ => by
      show Value.bool (bcond1 true (ile1 0 (Int.ofNat x)) false) = Value.bool true
      rw [hA1.cond, hA1.le, cond_true]; exact congrArg Value.bool (decide_eq_true (Int.natCast_nonneg x)))
  · refine vcIf.yes (by simp [hA.cond, hA.not, hA.eq, he]) ?_
    cbv
    have hz := dec_err l 0 0 (by rw [← hd]; exact he)
    rw [← hd] at hz
    obtain ⟨rfl, rfl⟩ := hz
    refine hop _ _ _ (EEv.callF fo29 rfl rfl (fun H1 hl1 hb1 => awake_spec hb1) ?_).op
    rintro v H5 hl5 hb5 rfl
    cbv
    refine vcIf.yes (by simp [hA.cond, hA.eq]) ?_
    cbv
    exact hret _ (RetEv.fn eOk rfl fun H' _ => by
      show Value.bool (bcond true (ieq (Int.ofNat 0) 0) false) = _
      rw [hA.cond, hA.eq]; rfl)
end Go.Proofs.Ytdbagbklhchbkaa
