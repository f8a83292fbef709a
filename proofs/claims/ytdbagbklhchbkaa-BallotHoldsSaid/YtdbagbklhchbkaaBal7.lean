/- The document's SameState and Same at what is the same; the simplest facts of layer 13. Conditions: on sizes. -/
import Derived.Test.YtdbagbklhchbkaaBal6
set_option maxRecDepth 100000
set_option maxHeartbeats 4000000
set_option linter.unusedSimpArgs false
set_option linter.unusedVariables false
namespace Go.Proofs.Ytdbagbklhchbkaa
open Go Go.Sx

theorem ball_self {a b : Int} {x y : Operand} (w : World) : (do eqGuard .eql 23 x y (ball a b) (ball a b); binOp .eql 23 (ball a b) (ball a b) : Sem Value).run Try.prog w = .ok (.bool true) w := by
  rw [ball_eql]; simp

theorem lt_room {n : Nat} (h : n * 8 ≤ 140737488355328) : n < 9223372036854775807 := by omega

theorem sameState_spec {H : Hp} (hb : H.Bd) {g e t : Int} {a a' : Option Addr} {n c n' c' : Nat} {l : List Int} (S : Ns H a n c l) (S' : Ns H a' n' c' l) (hn : n * 8 ≤ 140737488355328) :
    FnV Try.prog 22 [stV g e t a n c, stV g e t a' n' c'] H fun z _ => z = .bool true := by
  refine fn_of_vc eOk fOk Try.func22 rfl rfl rfl hb ?_
  intro add sub mul quo rem band bor bxor bclr shl shr ieq ilt ile seq slt beq bnot orb bcond iwrap iof ssz hA op hop code hcode ret hret
  cbv
  refine vcIf.yes (by simp [hA.eq]) ?_
  cbv
  refine vcIf.yes (by simp [hA.cond, hA.eq]) ?_
  cbv
  refine vcIf.yes (by simp [hA.cond, hA.eq]) ?_
  cbv
  refine hop _ _ _ (EEv.callF fo39 rfl rfl (fun H1 hl1 hb1 => ints_spec hb1 (S.mono hl1) (S'.mono hl1) (lt_room hn)) ?_).op
  rintro v H3 hl3 hb3 rfl
  rw [beq_self_eq_true]
  cbv
  exact hret _ (RetEv.fn eOk rfl fun H' _ => by
    show Value.bool (bcond true true false) = Value.bool true
    rw [hA.cond]; rfl)

theorem same_spec {H : Hp} (hb : H.Bd) {v u : Vw} (S : v.Ok H) (S' : u.Ok H) (h : v.Eq u) :
    FnV Try.prog 21 [v.val, u.val] H fun z _ => z = .bool true := by
  obtain ⟨p, q, r, s, g, e, t, a, n, c, l⟩ := v
  obtain ⟨p', q', r', s', g', e', t', a', n', c', l'⟩ := u
  obtain ⟨h1, h2, h3, h4, h5, h6, h7, h8⟩ := h
  obtain ⟨S, hn⟩ := S
  obtain ⟨S', hn'⟩ := S'
  simp only at S hn S' hn' h1 h2 h3 h4 h5 h6 h7 h8
  subst h1 h2 h3 h4 h5 h6 h7 h8
  refine fn_of_vc eOk fOk Try.func21 rfl rfl rfl hb ?_
  intro add sub mul quo rem band bor bxor bclr shl shr ieq ilt ile seq slt beq bnot orb bcond iwrap iof ssz hA op hop code hcode ret hret
  cbv
  refine hop _ _ _ (PEv.bin rfl rfl rfl ball_self ?_).op
  cbv
  refine hop _ _ _ (PEv.bin rfl rfl rfl ball_self ?_).op
  cbv
  refine vcIf.yes (by simp [hA.cond]) ?_
  cbv
  refine hop _ _ _ (EEv.callF fo22 rfl rfl (R := fun z _ => z = .bool true) ?_ ?_).op
  · exact fun H1 hl1 hb1 => sameState_spec hb1 (S.mono hl1) (S'.mono hl1) hn
  rintro v H3 hl3 hb3 rfl
  cbv
  exact hret _ (RetEv.fn eOk rfl fun H' _ => by
    show Value.bool (bcond true true false) = Value.bool true
    rw [hA.cond]; rfl)

theorem awake13_spec {H : Hp} (hb : H.Bd) : FnV Try.prog 15 [] H fun z _ => z = .bool true := by
  refine fn_of_vc eOk fOk Try.func15 rfl rfl rfl hb ?_
  intro add sub mul quo rem band bor bxor bclr shl shr ieq ilt ile seq slt beq bnot orb bcond iwrap iof ssz hA op hop code hcode ret hret
  cbv
  refine hop _ _ _ (EEv.callF fo17 rfl rfl (fun H1 hl1 hb1 => promise_spec hb1 (Vw.none_ok H1) 1 0) ?_).op
  rintro v H2 hl2 hb2 ⟨⟨p, q, r, s, g, e, t, a, n, c, l⟩, b, rfl, S2, q2, hb2'⟩
  obtain ⟨h1, h2, h3, h4, h5, h6, h7, h8⟩ := q2
  have hv : Vw.none.promise 1 0 = ⟨1, 0, 0, 0, 0, 0, 0, none, 0, 0, []⟩ := by unfold Vw.promise; rw [if_pos (by decide)]; rfl
  rw [hv] at h1 h2 h3 h4 h5 h6 h7 h8
  simp only at h1 h2 h3 h4 h5 h6 h7 h8
  subst h1 h2 h3 h4 h5 h6 h7 h8
  obtain rfl : b = true := by rw [hb2']; decide
  cbv
  refine hop _ _ _ (EEv.callF fo19 rfl rfl (fun H3 hl3 hb3 => take_spec hb3 (S2.mono hl3) 1 0 (w := ⟨0, 0, 0, 0, 3, 0, 0, none, 0, 0, []⟩) ⟨SlV.none, by decide⟩) ?_).op
  rintro v H4 hl4 hb4 ⟨⟨p, q, r, s, g, e, t, a4, n4, c4, l⟩, b, rfl, S4, q4, hb4'⟩
  obtain ⟨h1, h2, h3, h4, h5, h6, h7, h8⟩ := q4
  have hv : Vw.take ⟨1, 0, 0, 0, 0, 0, 0, a, n, c, []⟩ 1 0 ⟨0, 0, 0, 0, 3, 0, 0, none, 0, 0, []⟩ = ⟨1, 0, 1, 0, 3, 0, 0, none, 0, 0, []⟩ := by unfold Vw.take; rw [if_neg (show ¬ lessB 1 0 1 0 = true by decide)]
  rw [hv] at h1 h2 h3 h4 h5 h6 h7 h8
  simp only at h1 h2 h3 h4 h5 h6 h7 h8
  subst h1 h2 h3 h4 h5 h6 h7 h8
  obtain rfl : b = true := by rw [hb4']; exact (show (!lessB 1 0 1 0) = true by decide)
  have hl24 : H2.Le H4 := hl4
  cbv
  refine vcIf.yes (by simp [hA.cond]) ?_
  cbv
  refine vcIf.yes (by simp [hA.cond, hA.eq]) ?_
  cbv
  refine hop _ _ _ (EEv.lit eOk rfl rfl rfl rfl rfl rfl (by decide) rfl rfl (by decide) ?_).op
  intro b5 H5 hl5 him
  cbv
  have hvs : VsOk H5 (some ⟨b5, 0, none⟩) 2 2 [⟨1, 0, 0, 0, 0, 0, 0, a, n, c, []⟩, ⟨1, 0, 1, 0, 3, 0, 0, a4, n4, c4, []⟩] := by
    refine ⟨⟨Sl.of_imm ?_ him, rfl, fun h => (by cases h), Nat.le_refl _⟩, ?_⟩
    · intro y hy
      simp only [List.map_cons, List.map_nil, List.mem_cons, List.not_mem_nil, or_false] at hy
      rcases hy with rfl | rfl <;> rfl
    · intro v hv
      simp only [List.mem_cons, List.not_mem_nil, or_false] at hv
      rcases hv with rfl | rfl
      · exact S2.mono (hl24.trans hl5)
      · exact S4.mono hl5
  refine hop _ _ _ (EEv.callF fo23 rfl rfl (fun H6 hl6 hb6 => best_spec hb6 (hvs.mono hl6) (by decide)) ?_).op
  rintro v H6 hl6 hb6 ⟨⟨p, q, r, s, g, e, t, a6, n6, c6, l⟩, rfl, S6, q6⟩
  obtain ⟨h1, h2, h3, h4, h5, h6, h7, h8⟩ := q6
  have hv : bestOf Vw.none [⟨1, 0, 0, 0, 0, 0, 0, a, n, c, []⟩, ⟨1, 0, 1, 0, 3, 0, 0, a4, n4, c4, []⟩] = ⟨1, 0, 1, 0, 3, 0, 0, a4, n4, c4, []⟩ := by
    simp [bestOf, Vw.none, lessB]
  rw [hv] at h1 h2 h3 h4 h5 h6 h7 h8
  simp only at h1 h2 h3 h4 h5 h6 h7 h8
  subst h5 h6 h7
  cbv
  exact hret _ (RetEv.fn eOk rfl fun H' _ => by
    show Value.bool (bcond true (ieq 3 3) false) = Value.bool true
    rw [hA.cond, hA.eq]; rfl)
end Go.Proofs.Ytdbagbklhchbkaa
