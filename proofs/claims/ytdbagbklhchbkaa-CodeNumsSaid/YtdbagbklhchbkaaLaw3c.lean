/- The walk of roundhouselaw03.CodeNums: true, whatever the bytes and the number. A condition: a machine can hold the bytes. -/
import Derived.Test.YtdbagbklhchbkaaLaw3b
import Derived.Test.YtdbagbklhchbkaaSx14
set_option maxRecDepth 100000
set_option maxHeartbeats 4000000
set_option linter.unusedSimpArgs false
set_option linter.unusedVariables false
namespace Go.Proofs.Ytdbagbklhchbkaa
open Go Go.Sx

theorem codeNums {H : Hp} (hb : H.Bd) {a : Option Addr} {n c : Nat} {l : List UInt8} (S : Bs H a n c l) (hn : n + 10 ≤ 140737488355328) (y : Int) (hy : y ≤ 9223372036854775807) :
    FnV Try.prog 8 [.slice a n c, .int .i64 y] H (fun v _ => v = .bool true) := by
  have hlen := Bs.length S
  refine fn_of_vc eOk fOk Try.func8 rfl rfl rfl hb ?_
  intro add sub mul quo rem band bor bxor bclr shl shr ieq ilt ile seq slt beq bnot orb bcond iwrap iof ssz hA op hop code hcode ret hret
  cbv
  refine hop _ _ _ (EEv.callF fo26 rfl rfl (fun H1 hl1 hb1 => putNum_spec hb1 (S.mono hl1) hn y hy) ?_).op
  rintro v H2 hl2 hb2 hv
  obtain ⟨a2, n2, c2, l2, e2, rfl, S2, q2⟩ := putNumR_any hv
  cbv
  have hlH2 : H.Le H2 := hl2
  refine hop _ _ _ (EEv.callF fo27 rfl rfl (fun H1 hl1 hb1 => num_spec hb1 (S.mono (hlH2.trans hl1))) ?_).op
  rintro v H3 hl3 hb3 ⟨x, u, e, hd, rfl⟩
  have hlH3 : H.Le H3 := hlH2.trans hl3
  cbv
  refine hop _ _ _ (EEv.callF fo28 rfl rfl (fun H1 hl1 hb1 => rnum_spec hb1 (S.mono (hlH3.trans hl1))) ?_).op
  rintro v H4 hl4 hb4 ⟨x', u', e', hd', rfl⟩
  rw [← hd] at hd'
  obtain ⟨rfl, rfl, rfl⟩ : x' = x ∧ u' = u ∧ e' = e := by simpa using hd'
  have hlH4 : H.Le H4 := hlH3.trans hl4
  cbv
  refine vcIf.no (by simp [hA.not, hA.eq]) ?_
  cbv
  refine vcIf.no (by simp [hA.cond, hA.not, hA.eq]) ?_
  cbv
  refine vcIf.no (by simp [hA.cond, hA.not, hA.eq]) ?_
  cbv
  by_cases h0 : y < 0
  · rcases q2 with ⟨p2, rfl, rfl⟩ | ⟨p2, _⟩
    · refine vcIf.yes (by rw [hA.lt]; exact decide_eq_true h0) ?_
      cbv
      refine hop _ _ _ (EEv.callF fo29 rfl rfl (fun H1 hl1 hb1 => awake_spec hb1) ?_).op
      rintro v H5 hl5 hb5 rfl
      cbv
      refine vcIf.yes (by simp [hA.cond, hA.eq]) ?_
      cbv
      exact hret _ (RetEv.fn eOk rfl fun H' _ => by
        show Value.bool (bcond true (ieq (iof 0) 0) false) = Value.bool true
        rw [hA.cond, hA.eq, hA.ofNat]; rfl)
    · omega
  · rcases q2 with ⟨p2, _⟩ | ⟨p2, rfl, g2⟩
    · omega
    obtain ⟨yn, hyn⟩ : ∃ yn : Nat, y = (yn : Int) := ⟨y.toNat, by omega⟩
    have hyb : yn < 9223372036854775808 := by omega
    rw [show y.toNat = yn by omega] at g2
    refine vcIf.no (by rw [hA.lt]; exact decide_eq_false h0) ?_
    cbv
    refine hcode _ _ _ (CodeEv.draw eOk fOk (by kernel_rfl) [(0, true), (1, false), (2, false), (3, false), (4, false), (5, false), (6, false), (7, false), (9, false), (11, false), (8, true), (10, true), (12, true), (13, true), (14, false), (15, false), (16, false)] (by kernel_rfl) (by kernel_rfl) (by kernel_rfl) ?_)
    intro add1 sub1 mul1 quo1 rem1 band1 bor1 bxor1 bclr1 shl1 shr1 ieq1 ilt1 ile1 seq1 slt1 beq1 bnot1 orb1 bcond1 iwrap1 iof1 ssz1 hA1 rd1 hrd1 act1 hact1 q1 hq1
    cbv
    refine hact1 _ _ _ (EEv.callF fo29 rfl rfl (fun H1 hl1 hb1 => awake_spec hb1) ?_)
    rintro v H5 hl5 hb5 rfl
    have hlH5 : H4.Le H5 := hl5
    cbv
    refine vcIf.yes (by simp [hA1.cond, hA1.eq]) ?_
    cbv
    refine hrd1 _ _ _ (PEv.str eOk rfl rfl rfl rfl rfl rfl rfl rfl (S2.mono (hl3.trans (hl4.trans hl5))).sl (Bs.length S2) ?_)
    cbv
    refine hact1 _ _ _ (EEv.litRow eOk rfl rfl rfl rfl rfl rfl (by decide) rfl rfl (by decide) rfl ?_)
    intro a6 H6 hl6
    cbv
    refine hact1 _ _ _ (EEv.appendV eOk (j := 0) (ys := byteV l) rfl rfl rfl rfl rfl rfl (by decide) rfl rfl rfl (S.mono (hlH4.trans (hl5.trans hl6))) byteV_size byteV_one ?_ ?_ ?_)
    · unfold maxLen; simp; omega
    · simp; omega
    intro a7 c7 n7 xs7 H7 hl7 hn7 hx7
    cbv
    refine hact1 _ _ _ (EEv.callFR fo30 rfl rfl 0 rfl (fun H3 hl3 hb3 => by rw [hyn]; exact rput_spec hb3 yn hyb (by simp at hn7; omega)) ?_)
    rintro v φ H8 hl8 hb8 ⟨a8, c8, n8, xs8, rfl, hn8, hx8, rfl⟩
    cbv
    refine hact1 _ _ _ (EEv.strR eOk (j := 0) (xs := xs8) (l := l2) rfl rfl rfl rfl rfl rfl rfl rfl rfl (by rw [hx8, hx7, g2, byteV_flat, byteV_append]; rfl) (by rw [hn8, hn7, g2, List.length_append]; simp; omega) ?_)
    cbv
    refine hq1 _ ?_
    cbv
    exact hret _ (RetEv.fn eOk rfl fun H' _ => by
      show Value.bool (bcond1 true (seq1 ⟨l2.toArray⟩ ⟨l2.toArray⟩) false) = Value.bool true
      rw [hA1.cond, hA1.seq, cond_true, beq_self_eq_true])
end Go.Proofs.Ytdbagbklhchbkaa
