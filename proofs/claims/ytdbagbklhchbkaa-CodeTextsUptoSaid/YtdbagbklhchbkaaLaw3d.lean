/- The walk of roundhouselaw03.CodeTexts: true, whatever the bytes and the text. A condition: on the size of the bytes. -/
import Derived.Test.YtdbagbklhchbkaaCode5
import Derived.Test.YtdbagbklhchbkaaLaw3a
set_option maxRecDepth 100000
set_option maxHeartbeats 4000000
set_option linter.unusedSimpArgs false
set_option linter.unusedVariables false
namespace Go.Proofs.Ytdbagbklhchbkaa
open Go Go.Sx

theorem putTextR_any {ts : List UInt8} {v : Value} {H : Hp} {l0 : List UInt8} (h : putTextR l0 ts v H) : ∃ a n c l e, v = .tuple #[.slice a n c, .int .i64 e] ∧ Bs H a n c l ∧ (65536 < ts.length ∧ e = 6 ∧ n = 0 ∨ ¬ 65536 < ts.length ∧ e = 0 ∧ l = l0 ++ (enc ts.length ++ ts)) := by
  unfold putTextR at h
  split at h
  · rename_i h0
    exact ⟨none, 0, 0, [], 6, h, SlV.none, .inl ⟨h0, rfl, rfl⟩⟩
  · rename_i h0
    obtain ⟨a, n, c, h1, h2⟩ := h
    exact ⟨a, n, c, _, 0, h1, h2, .inr ⟨h0, rfl, by rw [List.append_assoc]⟩⟩

theorem codeTexts {H : Hp} (hb : H.Bd) {a : Option Addr} {n c : Nat} {l : List UInt8} (S : Bs H a n c l) (hn : n + 65556 ≤ 140737488355328) (ts : List UInt8) :
    FnV Try.prog 11 [.slice a n c, .string ⟨ts.toArray⟩] H (fun v _ => v = .bool true) := by
  have hlen := Bs.length S
  refine fn_of_vc eOk fOk Try.func11 rfl rfl rfl hb ?_
  intro add sub mul quo rem band bor bxor bclr shl shr ieq ilt ile seq slt beq bnot orb bcond iwrap iof ssz hA op hop code hcode ret hret
  have hs : iof (ssz ⟨ts.toArray⟩) = (ts.length : Int) := by rw [hA.ofNat, hA.ssize]; rfl
  cbv
  refine hop _ _ _ (EEv.callF fo31 rfl rfl (fun H1 hl1 hb1 => putText_spec hb1 (S.mono hl1) hn ts) ?_).op
  rintro v H2 hl2 hb2 hv
  obtain ⟨a2, n2, c2, l2, e2, rfl, S2, q2⟩ := putTextR_any hv
  cbv
  have hlH2 : H.Le H2 := hl2
  refine hop _ _ _ (EEv.callF fo32 rfl rfl (fun H1 hl1 hb1 => text_spec hb1 (S.mono (hlH2.trans hl1)) hn) ?_).op
  rintro v H3 hl3 hb3 ⟨x, u, e, hd, rfl⟩
  have hlH3 : H.Le H3 := hlH2.trans hl3
  cbv
  refine hop _ _ _ (EEv.callF fo33 rfl rfl (fun H1 hl1 hb1 => rtext_spec hb1 (S.mono (hlH3.trans hl1)) hn) ?_).op
  rintro v H4 hl4 hb4 ⟨x', u', e', hd', rfl⟩
  rw [← hd] at hd'
  obtain ⟨rfl, rfl, rfl⟩ : x' = x ∧ u' = u ∧ e' = e := by simpa using hd'
  have hlH4 : H.Le H4 := hlH3.trans hl4
  cbv
  refine vcIf.no (by simp [hA.not, hA.seq]) ?_
  cbv
  refine vcIf.no (by simp [hA.cond, hA.not, hA.eq]) ?_
  cbv
  refine vcIf.no (by simp [hA.cond, hA.not, hA.eq]) ?_
  cbv
  by_cases h0 : 65536 < ts.length
  · rcases q2 with ⟨p2, rfl, rfl⟩ | ⟨p2, _⟩
    · refine vcIf.yes (by rw [hA.lt, hs]; exact decide_eq_true (show (65536 : Int) < (ts.length : Int) from by omega)) ?_
      cbv
      refine hop _ _ _ (EEv.callF fo29 rfl rfl (fun H1 hl1 hb1 => awake_spec hb1) ?_).op
      rintro v H5 hl5 hb5 rfl
      cbv
      refine vcIf.yes (by simp [hA.cond, hA.eq]) ?_
      cbv
      exact hret _ (RetEv.fn eOk rfl fun H' _ => by
        show Value.bool (bcond true (ieq (iof 0) 0) false) = Value.bool true
        rw [hA.cond, hA.eq, hA.ofNat]; rfl)
    · omega
  · rcases q2 with ⟨p2, _⟩ | ⟨p2, rfl, g2⟩
    · omega
    have hts : ts.length ≤ 65536 := by omega
    refine vcIf.no (by rw [hA.lt, hs]; exact decide_eq_false (show ¬ (65536 : Int) < (ts.length : Int) from by omega)) ?_
    cbv
    refine hcode _ _ _ (CodeEv.draw eOk fOk (by kernel_rfl) [(0, true), (1, false), (2, false), (3, false), (4, false), (5, false), (6, false), (7, false), (9, false), (11, false), (8, true), (10, true), (12, true), (13, true), (14, false), (15, false), (16, false)] (by kernel_rfl) (by kernel_rfl) (by kernel_rfl) ?_)
    intro add1 sub1 mul1 quo1 rem1 band1 bor1 bxor1 bclr1 shl1 shr1 ieq1 ilt1 ile1 seq1 slt1 beq1 bnot1 orb1 bcond1 iwrap1 iof1 ssz1 hA1 rd1 hrd1 act1 hact1 q1 hq1
    cbv
    refine hact1 _ _ _ (EEv.callF fo29 rfl rfl (fun H1 hl1 hb1 => awake_spec hb1) ?_)
    rintro v H5 hl5 hb5 rfl
    have hlH5 : H4.Le H5 := hl5
    cbv
    refine vcIf.yes (by simp [hA1.cond, hA1.eq]) ?_
    cbv
    refine hrd1 _ _ _ (PEv.str eOk rfl rfl rfl rfl rfl rfl rfl rfl (S2.mono (hl3.trans (hl4.trans hl5))).sl (Bs.length S2) ?_)
    cbv
    refine hact1 _ _ _ (EEv.litRow eOk rfl rfl rfl rfl rfl rfl (by decide) rfl rfl (by decide) rfl ?_)
    intro a6 H6 hl6
    cbv
    refine hact1 _ _ _ (EEv.appendV eOk (j := 0) (ys := byteV l) rfl rfl rfl rfl rfl rfl (by decide) rfl rfl rfl (S.mono (hlH4.trans (hl5.trans hl6))) byteV_size byteV_one ?_ ?_ ?_)
    · unfold maxLen; simp; omega
    · simp; omega
    intro a7 c7 n7 xs7 H7 hl7 hn7 hx7
    cbv
    refine hact1 _ _ _ (EEv.callFR fo34 rfl rfl 0 rfl (fun H3 hl3 hb3 => rputText_spec hb3 ts hts (by simp at hn7; omega)) ?_)
    rintro v φ H8 hl8 hb8 ⟨a8, c8, n8, xs8, rfl, hn8, hx8, rfl⟩
    cbv
    refine hact1 _ _ _ (EEv.strR eOk (j := 0) (xs := xs8) (l := l2) rfl rfl rfl rfl rfl rfl rfl rfl rfl (by simp only [hx8, hx7, g2, byteV_flat, byteV_append, List.nil_append, List.append_assoc]) (by rw [hn8, hn7, g2, List.length_append]; simp; omega) ?_)
    cbv
    refine hq1 _ ?_
    cbv
    exact hret _ (RetEv.fn eOk rfl fun H' _ => by
      show Value.bool (bcond1 true (seq1 ⟨l2.toArray⟩ ⟨l2.toArray⟩) false) = Value.bool true
      rw [hA1.cond, hA1.seq, cond_true, beq_self_eq_true])
end Go.Proofs.Ytdbagbklhchbkaa
