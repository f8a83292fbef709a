/- The walks of roundhouselaw13.BallotVows and BallotBest: true, whatever the vows. Conditions: on sizes. -/
import Derived.Test.YtdbagbklhchbkaaBal7
set_option maxRecDepth 100000
set_option maxHeartbeats 4000000
set_option linter.unusedSimpArgs false
set_option linter.unusedVariables false
namespace Go.Proofs.Ytdbagbklhchbkaa
open Go Go.Sx

theorem Vw.Eq.symm {v u : Vw} (h : v.Eq u) : u.Eq v := ⟨h.p.symm, h.q.symm, h.r.symm, h.s.symm, h.g.symm, h.e.symm, h.t.symm, h.l.symm⟩
theorem Vw.Eq.trans {v u x : Vw} (h : v.Eq u) (k : u.Eq x) : v.Eq x := ⟨h.p.trans k.p, h.q.trans k.q, h.r.trans k.r, h.s.trans k.s, h.g.trans k.g, h.e.trans k.e, h.t.trans k.t, h.l.trans k.l⟩

theorem ballotBest {H : Hp} (hb : H.Bd) {a : Option Addr} {n c : Nat} {vs : List Vw} (S : VsOk H a n c vs) (hn : n < 9223372036854775807) :
    FnV Try.prog 5 [.slice a n c] H (fun v _ => v = .bool true) := by
  refine fn_of_vc eOk fOk Try.func5 rfl rfl rfl hb ?_
  intro add sub mul quo rem band bor bxor bclr shl shr ieq ilt ile seq slt beq bnot orb bcond iwrap iof ssz hA op hop code hcode ret hret
  cbv
  refine hop _ _ _ (EEv.callF fo15 rfl rfl (fun H1 hl1 hb1 => awake13_spec hb1) ?_).op
  rintro v H2 hl2 hb2 rfl
  have hlH2 : H.Le H2 := hl2
  cbv
  refine hop _ _ _ (EEv.callF fo23 rfl rfl (fun H1 hl1 hb1 => best_spec hb1 (S.mono (hlH2.trans hl1)) hn) ?_).op
  rintro v H3 hl3 hb3 ⟨⟨p, q, r, s, g, e, t, a3, n3, c3, l3⟩, rfl, S3, q3⟩
  have hlH3 : H.Le H3 := hlH2.trans hl3
  cbv
  refine hop _ _ _ (EEv.callF fo24 rfl rfl (fun H1 hl1 hb1 => rbest_spec hb1 (S.mono (hlH3.trans hl1)) hn) ?_).op
  rintro v H4 hl4 hb4 ⟨⟨p', q', r', s', g', e', t', a4, n4, c4, l4⟩, rfl, S4, q4⟩
  have hl34 : H3.Le H4 := hl4
  have hq := q3.trans q4.symm
  obtain ⟨_, _, _, _, h5, h6, h7, h8⟩ := hq
  simp only at h5 h6 h7 h8
  subst h5 h6 h7 h8
  cbv
  refine hop _ _ _ (EEv.callF fo22 rfl rfl (R := fun z _ => z = .bool true) ?_ ?_).op
  · exact fun H1 hl1 hb1 => sameState_spec hb1 (S3.ns.mono (hl34.trans hl1)) (S4.ns.mono hl1) S3.room
  rintro v H5 hl5 hb5 rfl
  cbv
  exact hret _ (RetEv.fn eOk rfl fun H' _ => by show Value.bool _ = Value.bool true; simp [hA.cond])

theorem ballotVows {H : Hp} (hb : H.Bd) {v w : Vw} (S : v.Ok H) (x y : Int) (S' : w.Ok H) :
    FnV Try.prog 4 [v.val, ball x y, stV w.g w.e w.t w.a w.n w.c] H (fun v _ => v = .bool true) := by
  obtain ⟨p, q, r, s, g, e, t, a, n, c, l⟩ := v
  obtain ⟨p', q', r', s', g', e', t', a', n', c', l'⟩ := w
  refine fn_of_vc eOk fOk Try.func4 rfl rfl rfl hb ?_
  intro add sub mul quo rem band bor bxor bclr shl shr ieq ilt ile seq slt beq bnot orb bcond iwrap iof ssz hA op hop code hcode ret hret
  cbv
  refine hop _ _ _ (EEv.callF fo17 rfl rfl (fun H1 hl1 hb1 => promise_spec hb1 (S.mono hl1) x y) ?_).op
  rintro v H2 hl2 hb2 ⟨⟨p2, q2, r2, s2, g2, e2, t2, a2, n2, c2, l2⟩, b2, rfl, S2, h2, hb2'⟩
  have hlH2 : H.Le H2 := hl2
  cbv
  refine hop _ _ _ (EEv.callF fo18 rfl rfl (fun H1 hl1 hb1 => rpromise_spec hb1 (S.mono (hlH2.trans hl1)) x y) ?_).op
  rintro v H3 hl3 hb3 ⟨⟨p3, q3, r3, s3, g3, e3, t3, a3, n3, c3, l3⟩, b3, rfl, S3, h3, hb3'⟩
  have hl23 : H2.Le H3 := hl3
  have hlH3 : H.Le H3 := hlH2.trans hl3
  cbv
  refine hop _ _ _ (EEv.callF fo19 rfl rfl (fun H1 hl1 hb1 => take_spec hb1 (S.mono (hlH3.trans hl1)) x y (S'.mono (hlH3.trans hl1))) ?_).op
  rintro v H4 hl4 hb4 ⟨⟨p4, q4, r4, s4, g4, e4, t4, a4, n4, c4, l4⟩, b4, rfl, S4, h4, hb4'⟩
  have hl34 : H3.Le H4 := hl4
  have hlH4 : H.Le H4 := hlH3.trans hl4
  cbv
  refine hop _ _ _ (EEv.callF fo20 rfl rfl (fun H1 hl1 hb1 => rtake_spec hb1 (S.mono (hlH4.trans hl1)) x y (S'.mono (hlH4.trans hl1))) ?_).op
  rintro v H5 hl5 hb5 ⟨⟨p5, q5, r5, s5, g5, e5, t5, a5, n5, c5, l5⟩, b5, rfl, S5, h5, hb5'⟩
  have hl45 : H4.Le H5 := hl5
  have k23 := h2.trans h3.symm
  have k45 := h4.trans h5.symm
  obtain rfl : b3 = b2 := by rw [hb2', hb3']
  obtain rfl : b5 = b4 := by rw [hb4', hb5']
  cbv
  refine hop _ _ _ (EEv.callF fo15 rfl rfl (fun H1 hl1 hb1 => awake13_spec hb1) ?_).op
  rintro v H6 hl6 hb6 rfl
  have hl56 : H5.Le H6 := hl6
  cbv
  refine vcIf.yes (by simp [hA.cond, hA.beq]) ?_
  cbv
  refine hop _ _ _ (EEv.callF fo21 rfl rfl (fun H1 hl1 hb1 => same_spec hb1 (S2.mono (hl23.trans (hl34.trans (hl45.trans (hl56.trans hl1))))) (S3.mono (hl34.trans (hl45.trans (hl56.trans hl1)))) k23) ?_).op
  rintro v H7 hl7 hb7 rfl
  have hl67 : H6.Le H7 := hl7
  cbv
  refine vcIf.yes (by simp [hA.cond]) ?_
  cbv
  refine vcIf.yes (by simp [hA.cond, hA.beq]) ?_
  cbv
  refine hop _ _ _ (EEv.callF fo21 rfl rfl (fun H1 hl1 hb1 => same_spec hb1 (S4.mono (hl45.trans (hl56.trans (hl67.trans hl1)))) (S5.mono (hl56.trans (hl67.trans hl1))) k45) ?_).op
  rintro v H8 hl8 hb8 rfl
  cbv
  exact hret _ (RetEv.fn eOk rfl fun H' _ => by show Value.bool _ = Value.bool true; simp [hA.cond])
end Go.Proofs.Ytdbagbklhchbkaa
