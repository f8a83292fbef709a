/- What package ballot's Promise, Take and Best do, and the document's. A condition: on sizes. -/
import Derived.Test.YtdbagbklhchbkaaBal2
import Derived.Test.YtdbagbklhchbkaaSx15
set_option maxRecDepth 100000
set_option maxHeartbeats 4000000
set_option linter.unusedSimpArgs false
set_option linter.unusedVariables false
namespace Go.Proofs.Ytdbagbklhchbkaa
open Go Go.Sx

structure Vw where
  p : Int
  q : Int
  r : Int
  s : Int
  g : Int
  e : Int
  t : Int
  a : Option Addr
  n : Nat
  c : Nat
  l : List Int
abbrev Vw.val (v : Vw) : Value := vow v.p v.q v.r v.s v.g v.e v.t v.a v.n v.c
/-- A vow of settled memory. -/
structure Vw.Ok (H : Hp) (v : Vw) : Prop where
  ns : Ns H v.a v.n v.c v.l
  room : v.n * 8 ≤ 140737488355328
theorem Vw.Ok.mono {H H' : Hp} {v : Vw} (h : v.Ok H) (hl : H.Le H') : v.Ok H' := ⟨h.ns.mono hl, h.room⟩
/-- The same vows, wherever their lists lie. -/
structure Vw.Eq (v u : Vw) : Prop where
  p : v.p = u.p
  q : v.q = u.q
  r : v.r = u.r
  s : v.s = u.s
  g : v.g = u.g
  e : v.e = u.e
  t : v.t = u.t
  l : v.l = u.l

def Vw.promise (v : Vw) (x y : Int) : Vw := if lessB v.p v.q x y then { v with p := x, q := y } else v
def Vw.take (v : Vw) (x y : Int) (w : Vw) : Vw := if lessB x y v.p v.q then v else { w with p := x, q := y, r := x, s := y }

theorem promise_spec {H : Hp} (hb : H.Bd) {v : Vw} (S : v.Ok H) (x y : Int) :
    FnV Try.prog 17 [v.val, ball x y] H fun z H' => ∃ u : Vw, ∃ b, z = .tuple #[u.val, .bool b] ∧ u.Ok H' ∧ u.Eq (v.promise x y) ∧ b = lessB v.p v.q x y := by
  obtain ⟨p, q, r, s, g, e, t, a, n, c, l⟩ := v
  obtain ⟨S, hn⟩ := S
  simp only at S hn
  refine fn_of_vc eOk fOk Try.func17 rfl rfl rfl hb ?_
  intro add sub mul quo rem band bor bxor bclr shl shr ieq ilt ile seq slt beq bnot orb bcond iwrap iof ssz hA op hop code hcode ret hret
  cbv
  refine hop _ _ _ (EEv.callF fo40 rfl rfl (fun H1 hl1 hb1 => vclone_spec hb1 (S.mono hl1) hn p q r s g e t) ?_).op
  rintro v H2 hl2 hb2 ⟨a2, c2, rfl, S2⟩
  cbv
  refine hop _ _ _ (EEv.callF fo14 rfl rfl (fun H1 hl1 hb1 => less_spec hb1 p q x y) ?_).op
  rintro v H3 hl3 hb3 rfl
  obtain ⟨b, hbe⟩ : ∃ b, b = lessB p q x y := ⟨_, rfl⟩
  rw [← hbe]
  cbv
  cases b with
  | true =>
    refine vcIf.no (by rw [hA.not]; rfl) ?_
    cbv
    exact hret _ (RetEv.fn eOk rfl fun H' hl' => ⟨⟨x, y, r, s, g, e, t, a2, n, c2, l⟩, _, rfl, ⟨S2.mono (hl3.trans hl'), hn⟩, by
      unfold Vw.promise; simp only; rw [← hbe]; exact ⟨rfl, rfl, rfl, rfl, rfl, rfl, rfl, rfl⟩, hbe⟩)
  | false =>
    refine vcIf.yes (by rw [hA.not]; rfl) ?_
    cbv
    exact hret _ (RetEv.fn eOk rfl fun H' hl' => ⟨⟨p, q, r, s, g, e, t, a2, n, c2, l⟩, _, rfl, ⟨S2.mono (hl3.trans hl'), hn⟩, by
      unfold Vw.promise; simp only; rw [← hbe]; exact ⟨rfl, rfl, rfl, rfl, rfl, rfl, rfl, rfl⟩, hbe⟩)

theorem rpromise_spec {H : Hp} (hb : H.Bd) {v : Vw} (S : v.Ok H) (x y : Int) :
    FnV Try.prog 18 [v.val, ball x y] H fun z H' => ∃ u : Vw, ∃ b, z = .tuple #[u.val, .bool b] ∧ u.Ok H' ∧ u.Eq (v.promise x y) ∧ b = lessB v.p v.q x y := by
  obtain ⟨p, q, r, s, g, e, t, a, n, c, l⟩ := v
  obtain ⟨S, hn⟩ := S
  simp only at S hn
  refine fn_of_vc eOk fOk Try.func18 rfl rfl rfl hb ?_
  intro add sub mul quo rem band bor bxor bclr shl shr ieq ilt ile seq slt beq bnot orb bcond iwrap iof ssz hA op hop code hcode ret hret
  cbv
  refine hop _ _ _ (EEv.callF fo16 rfl rfl (fun H1 hl1 hb1 => rless_spec hb1 p q x y) ?_).op
  rintro v H3 hl3 hb3 rfl
  obtain ⟨b, hbe⟩ : ∃ b, b = lessB p q x y := ⟨_, rfl⟩
  rw [← hbe]
  have hlH : H.Le H3 := hl3
  cases b with
  | true =>
    cbv
    exact hret _ (RetEv.fn eOk rfl fun H' hl' => ⟨⟨x, y, r, s, g, e, t, a, n, c, l⟩, _, rfl, ⟨S.mono (hlH.trans hl'), hn⟩, by
      unfold Vw.promise; simp only; rw [← hbe]; exact ⟨rfl, rfl, rfl, rfl, rfl, rfl, rfl, rfl⟩, hbe⟩)
  | false =>
    cbv
    exact hret _ (RetEv.fn eOk rfl fun H' hl' => ⟨⟨p, q, r, s, g, e, t, a, n, c, l⟩, _, rfl, ⟨S.mono (hlH.trans hl'), hn⟩, by
      unfold Vw.promise; simp only; rw [← hbe]; exact ⟨rfl, rfl, rfl, rfl, rfl, rfl, rfl, rfl⟩, hbe⟩)

abbrev stV (g e t : Int) (a : Option Addr) (n c : Nat) : Value := .agg #[.int .i64 g, .int .i64 e, .int .i64 t, .slice a n c]

theorem take_spec {H : Hp} (hb : H.Bd) {v : Vw} (S : v.Ok H) (x y : Int) {w : Vw} (S' : w.Ok H) :
    FnV Try.prog 19 [v.val, ball x y, stV w.g w.e w.t w.a w.n w.c] H fun z H' => ∃ u : Vw, ∃ b, z = .tuple #[u.val, .bool b] ∧ u.Ok H' ∧ u.Eq (v.take x y w) ∧ b = !lessB x y v.p v.q := by
  obtain ⟨p, q, r, s, g, e, t, a, n, c, l⟩ := v
  obtain ⟨p', q', r', s', g', e', t', a', n', c', l'⟩ := w
  obtain ⟨S, hn⟩ := S
  obtain ⟨S', hn'⟩ := S'
  simp only at S hn S' hn'
  refine fn_of_vc eOk fOk Try.func19 rfl rfl rfl hb ?_
  intro add sub mul quo rem band bor bxor bclr shl shr ieq ilt ile seq slt beq bnot orb bcond iwrap iof ssz hA op hop code hcode ret hret
  cbv
  refine hop _ _ _ (EEv.callF fo14 rfl rfl (fun H1 hl1 hb1 => less_spec hb1 x y p q) ?_).op
  rintro v H3 hl3 hb3 rfl
  obtain ⟨b, hbe⟩ : ∃ b, b = lessB x y p q := ⟨_, rfl⟩
  rw [← hbe]
  have hlH : H.Le H3 := hl3
  cases b with
  | true =>
    cbv
    refine hop _ _ _ (EEv.callF fo40 rfl rfl (fun H1 hl1 hb1 => vclone_spec hb1 (S.mono (hlH.trans hl1)) hn p q r s g e t) ?_).op
    rintro v H4 hl4 hb4 ⟨a2, c2, rfl, S2⟩
    cbv
    exact hret _ (RetEv.fn eOk rfl fun H' hl' => ⟨⟨p, q, r, s, g, e, t, a2, n, c2, l⟩, _, rfl, ⟨S2.mono hl', hn⟩, by
      unfold Vw.take; simp only; rw [← hbe]; exact ⟨rfl, rfl, rfl, rfl, rfl, rfl, rfl, rfl⟩, by rw [← hbe]; rfl⟩)
  | false =>
    cbv
    refine hop _ _ _ (EEv.callF fo40 rfl rfl (fun H1 hl1 hb1 => vclone_spec hb1 (S'.mono (hlH.trans hl1)) hn' x y x y g' e' t') ?_).op
    rintro v H4 hl4 hb4 ⟨a2, c2, rfl, S2⟩
    cbv
    exact hret _ (RetEv.fn eOk rfl fun H' hl' => ⟨⟨x, y, x, y, g', e', t', a2, n', c2, l'⟩, _, rfl, ⟨S2.mono hl', hn'⟩, by
      unfold Vw.take; simp only; rw [← hbe]; exact ⟨rfl, rfl, rfl, rfl, rfl, rfl, rfl, rfl⟩, by rw [← hbe]; rfl⟩)

theorem rtake_spec {H : Hp} (hb : H.Bd) {v : Vw} (S : v.Ok H) (x y : Int) {w : Vw} (S' : w.Ok H) :
    FnV Try.prog 20 [v.val, ball x y, stV w.g w.e w.t w.a w.n w.c] H fun z H' => ∃ u : Vw, ∃ b, z = .tuple #[u.val, .bool b] ∧ u.Ok H' ∧ u.Eq (v.take x y w) ∧ b = !lessB x y v.p v.q := by
  obtain ⟨p, q, r, s, g, e, t, a, n, c, l⟩ := v
  obtain ⟨p', q', r', s', g', e', t', a', n', c', l'⟩ := w
  obtain ⟨S, hn⟩ := S
  obtain ⟨S', hn'⟩ := S'
  simp only at S hn S' hn'
  refine fn_of_vc eOk fOk Try.func20 rfl rfl rfl hb ?_
  intro add sub mul quo rem band bor bxor bclr shl shr ieq ilt ile seq slt beq bnot orb bcond iwrap iof ssz hA op hop code hcode ret hret
  cbv
  refine hop _ _ _ (EEv.callF fo16 rfl rfl (fun H1 hl1 hb1 => rless_spec hb1 x y p q) ?_).op
  rintro v H3 hl3 hb3 rfl
  obtain ⟨b, hbe⟩ : ∃ b, b = lessB x y p q := ⟨_, rfl⟩
  rw [← hbe]
  have hlH : H.Le H3 := hl3
  cases b with
  | true =>
    cbv
    exact hret _ (RetEv.fn eOk rfl fun H' hl' => ⟨⟨p, q, r, s, g, e, t, a, n, c, l⟩, _, rfl, ⟨S.mono (hlH.trans hl'), hn⟩, by
      unfold Vw.take; simp only; rw [← hbe]; exact ⟨rfl, rfl, rfl, rfl, rfl, rfl, rfl, rfl⟩, by rw [← hbe]; rfl⟩)
  | false =>
    cbv
    exact hret _ (RetEv.fn eOk rfl fun H' hl' => ⟨⟨x, y, x, y, g', e', t', a', n', c', l'⟩, _, rfl, ⟨S'.mono (hlH.trans hl'), hn'⟩, by
      unfold Vw.take; simp only; rw [← hbe]; exact ⟨rfl, rfl, rfl, rfl, rfl, rfl, rfl, rfl⟩, by rw [← hbe]; rfl⟩)
end Go.Proofs.Ytdbagbklhchbkaa
