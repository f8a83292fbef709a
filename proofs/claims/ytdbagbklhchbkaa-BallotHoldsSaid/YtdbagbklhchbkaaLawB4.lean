/- The walk of roundhouselaw13.BallotHolds: true, whatever the vow, the ballots and the state. Conditions: on sizes. -/
import Derived.Test.YtdbagbklhchbkaaLawB1
import Derived.Test.YtdbagbklhchbkaaLawB2
set_option maxRecDepth 100000
set_option maxHeartbeats 4000000
set_option linter.unusedSimpArgs false
set_option linter.unusedVariables false
namespace Go.Proofs.Ytdbagbklhchbkaa
open Go Go.Sx

theorem beqc (a b : Int) : (a == b) = (b == a) := by rw [Bool.eq_iff_iff, beq_iff_eq, beq_iff_eq]; exact eq_comm

theorem ballotHolds {H : Hp} (hb : H.Bd) {v w : Vw} (S : v.Ok H) (x y z u : Int) (S' : w.Ok H) :
    FnV Try.prog 6 [v.val, ball x y, ball z u, stV w.g w.e w.t w.a w.n w.c] H (fun v _ => v = .bool true) := by
  obtain ⟨p, q, r, s, g, e, t, a, n, c, l⟩ := v
  obtain ⟨p', q', r', s', g', e', t', a', n', c', l'⟩ := w
  refine fn_of_vc eOk fOk Try.func6 rfl rfl rfl hb ?_
  intro add sub mul quo rem band bor bxor bclr shl shr ieq ilt ile seq slt beq bnot orb bcond iwrap iof ssz hA op hop code hcode ret hret
  cbv
  refine hop _ _ _ (EEv.callF fo17 rfl rfl (fun H1 hl1 hb1 => promise_spec hb1 (S.mono hl1) x y) ?_).op
  rintro v H2 hl2 hb2 ⟨⟨p2, q2, r2, s2, g2, e2, t2, a2, n2, c2, l2⟩, b2, rfl, S2, h2, hb2'⟩
  have hlH2 : H.Le H2 := hl2
  cbv
  refine hop _ _ _ (EEv.callF fo17 rfl rfl (fun H1 hl1 hb1 => promise_spec hb1 (S2.mono hl1) z u) ?_).op
  rintro v H3 hl3 hb3 ⟨⟨p3, q3, r3, s3, g3, e3, t3, a3, n3, c3, l3⟩, b3, rfl, S3, h3, hb3'⟩
  have hl23 : H2.Le H3 := hl3
  have hlH3 : H.Le H3 := hlH2.trans hl3
  cbv
  refine hop _ _ _ (EEv.callF fo19 rfl rfl (fun H1 hl1 hb1 => take_spec hb1 (S2.mono (hl23.trans hl1)) z u (S'.mono (hlH3.trans hl1))) ?_).op
  rintro v H4 hl4 hb4 ⟨⟨p4, q4, r4, s4, g4, e4, t4, a4, n4, c4, l4⟩, b4, rfl, S4, h4, hb4'⟩
  have hl34 : H3.Le H4 := hl4
  have hlH4 : H.Le H4 := hlH3.trans hl4
  cbv
  refine hop _ _ _ (EEv.callF fo15 rfl rfl (fun H1 hl1 hb1 => awake13_spec hb1) ?_).op
  rintro v H5 hl5 hb5 rfl
  have hl45 : H4.Le H5 := hl5
  cbv
  refine vcIf.no (by simp [hA.not]) ?_
  simp only at hb2' hb3' hb4'
  cases b2 with
  | false =>
    have heq : Vw.Eq ⟨p2, q2, r2, s2, g2, e2, t2, a2, n2, c2, l2⟩ ⟨p, q, r, s, g, e, t, a, n, c, l⟩ := by
      unfold Vw.promise at h2; simp only at h2; rw [if_neg (by rw [← hb2']; decide)] at h2; exact h2
    cbv
    refine vcIf.yes (by simp [hA.cond, hA.not]) ?_
    cbv
    refine hop _ _ _ (EEv.callF fo15 rfl rfl (fun H1 hl1 hb1 => awake13_spec hb1) ?_).op
    rintro v H6 hl6 hb6 rfl
    have hl56 : H5.Le H6 := hl6
    cbv
    refine hop _ _ _ (EEv.callF fo21 rfl rfl (fun H1 hl1 hb1 => same_spec hb1 (S2.mono (hl23.trans (hl34.trans (hl45.trans (hl56.trans hl1))))) (S.mono (hlH4.trans (hl45.trans (hl56.trans hl1)))) heq) ?_).op
    rintro v H7 hl7 hb7 rfl
    cbv
    exact hret _ (RetEv.fn eOk rfl fun H' _ => by show Value.bool _ = Value.bool true; simp [hA.cond])
  | true =>
    have heq : Vw.Eq ⟨p2, q2, r2, s2, g2, e2, t2, a2, n2, c2, l2⟩ ⟨x, y, r, s, g, e, t, a, n, c, l⟩ := by
      unfold Vw.promise at h2; simp only at h2; rw [if_pos (by rw [← hb2'])] at h2; exact h2
    obtain ⟨k1, k2, _, _, _, _, _, _⟩ := heq
    simp only at k1 k2
    subst k1 k2
    have htri := less_tri p2 q2 z u
    rw [← hb3'] at htri
    cbv
    refine vcIf.no (by simp [hA.cond, hA.not]) ?_
    cbv
    refine hop _ _ _ (EEv.callF fo14 rfl rfl (fun H1 hl1 hb1 => less_spec hb1 z u p2 q2) ?_).op
    rintro v H6 hl6 hb6 rfl
    have hl56 : H5.Le H6 := hl6
    obtain ⟨d, hd⟩ : ∃ d, d = lessB z u p2 q2 := ⟨_, rfl⟩
    rw [← hd] at htri hb4' ⊢
    unfold Vw.take at h4
    simp only at h4
    rw [← hd] at h4
    cases d with
    | true =>
      rw [if_pos rfl] at h4
      obtain rfl : b4 = false := by rw [hb4']; rfl
      obtain rfl : b3 = false := by have := htri.2; simpa using this
      cbv
      refine vcIf.yes (by simp [hA.not]) ?_
      cbv
      refine vcIf.yes (by simp [hA.cond, hA.not]) ?_
      cbv
      refine hop _ _ _ (EEv.callF fo21 rfl rfl (fun H1 hl1 hb1 => same_spec hb1 (S4.mono (hl45.trans (hl56.trans hl1))) (S2.mono (hl23.trans (hl34.trans (hl45.trans (hl56.trans hl1))))) h4) ?_).op
      rintro v H7 hl7 hb7 rfl
      cbv
      exact hret _ (RetEv.fn eOk rfl fun H' _ => by show Value.bool _ = Value.bool true; simp [hA.cond])
    | false =>
      rw [if_neg (by decide)] at h4
      obtain ⟨f1, f2, f3, f4, _, _, _, _⟩ := h4
      simp only at f1 f2 f3 f4
      subst f1 f2 f3 f4
      obtain rfl : b4 = true := by rw [hb4']; rfl
      have hne : ∀ {x y : Operand} (w : World), (do eqGuard .neq 23 x y (ball r4 s4) (ball p2 q2); binOp .neq 23 (ball r4 s4) (ball p2 q2) : Sem Value).run Try.prog w = .ok (.bool b3) w := by
        intro x y w
        rw [ball_neq]
        have := htri.1
        rw [Bool.or_false] at this
        rw [this, beqc r4 p2, beqc s4 q2]
      cbv
      refine hop _ _ _ (PEv.bin rfl rfl rfl hne ?_).op
      cbv
      refine vcIf.yes (by simp [hA.beq]) ?_
      cbv
      refine vcIf.yes (by simp [hA.cond]) ?_
      cbv
      refine hop _ _ _ (PEv.bin rfl rfl rfl ball_self ?_).op
      cbv
      refine vcIf.yes (by simp [hA.cond]) ?_
      cbv
      refine hop _ _ _ (PEv.bin rfl rfl rfl ball_self ?_).op
      cbv
      exact hret _ (RetEv.fn eOk rfl fun H' _ => by show Value.bool _ = Value.bool true; simp [hA.cond])
end Go.Proofs.Ytdbagbklhchbkaa
