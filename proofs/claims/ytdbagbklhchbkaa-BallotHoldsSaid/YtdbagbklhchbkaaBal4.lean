/- What package ballot's Best does, and the document's; the simplest facts of layer 13. Conditions: on sizes. -/
import Derived.Test.YtdbagbklhchbkaaBal3
set_option maxRecDepth 100000
set_option maxHeartbeats 4000000
set_option linter.unusedSimpArgs false
set_option linter.unusedVariables false
namespace Go.Proofs.Ytdbagbklhchbkaa
open Go Go.Sx

/-- Vows of settled memory. -/
structure VsOk (H : Hp) (a : Option Addr) (n c : Nat) (vs : List Vw) : Prop where
  sl : SlV H 8 a n c (vs.map Vw.val)
  ok : ∀ v ∈ vs, v.Ok H
theorem VsOk.mono {H H' : Hp} {a : Option Addr} {n c : Nat} {vs : List Vw} (h : VsOk H a n c vs) (hl : H.Le H') : VsOk H' a n c vs := ⟨h.sl.mono hl, fun v hv => (h.ok v hv).mono hl⟩
def Vw.none : Vw := ⟨0, 0, 0, 0, 0, 0, 0, Option.none, 0, 0, []⟩
theorem Vw.none_ok (H : Hp) : Vw.none.Ok H := ⟨SlV.none, by decide⟩
def bestOf (b : Vw) : List Vw → Vw
  | [] => b
  | v :: r => bestOf (if lessB b.r b.s v.r v.s then v else b) r
theorem bestOf_cons (b v : Vw) (r : List Vw) : bestOf b (v :: r) = bestOf (if lessB b.r b.s v.r v.s then v else b) r := rfl
theorem bestOf_mem : ∀ (vs : List Vw) (b : Vw), bestOf b vs = b ∨ bestOf b vs ∈ vs
  | [], b => .inl rfl
  | v :: r, b => by
    unfold bestOf
    rcases bestOf_mem r (if lessB b.r b.s v.r v.s then v else b) with h | h
    · split at h
      · rw [if_pos (by assumption)]; right; rw [h]; simp
      · rw [if_neg (by assumption)]; left; exact h
    · right; exact List.mem_cons_of_mem _ h

theorem best_spec {H : Hp} (hb : H.Bd) {a : Option Addr} {n c : Nat} {vs : List Vw} (S : VsOk H a n c vs) (hn : n < 9223372036854775807) :
    FnV Try.prog 23 [.slice a n c] H fun z H' => ∃ u : Vw, z = stV u.g u.e u.t u.a u.n u.c ∧ u.Ok H' ∧ u.Eq (bestOf .none vs) := by
  have hlen : vs.length = n := by have := S.sl.len; rwa [List.length_map] at this
  refine fn_of_vc eOk fOk Try.func23 rfl rfl rfl hb ?_
  intro add sub mul quo rem band bor bxor bclr shl shr ieq ilt ile seq slt beq bnot orb bcond iwrap iof ssz hA op hop code hcode ret hret
  cbv
  refine hcode _ _ _ (CodeEv.loopD eOk fOk (ι := Nat × Vw) (fun i => [(9, .v (.int .i64 (Int.ofNat i.1))), (8, .v (.int .i64 (iof n))), (7, .v (.slice a n c)), (3, .own 1 0), (2, .own 0 0)])
    (fun i => [.st 29 [.v (.int .i64 0), .v (.int .i64 0), .v (.int .i64 0), .v (.slice none 0 0)], .st 31 [.v (.int .i64 i.2.p), .v (.int .i64 i.2.q), .v (.int .i64 i.2.r), .v (.int .i64 i.2.s), .v (.int .i64 i.2.g), .v (.int .i64 i.2.e), .v (.int .i64 i.2.t), .v (.slice i.2.a i.2.n i.2.c)]])
    (fun i H' => H.Le H' ∧ i.1 ≤ n ∧ i.2.Ok H' ∧ bestOf .none vs = bestOf i.2 (vs.drop i.1)) (fun i => n - i.1) (0, .none) ?_ ?_)
  · exact ⟨⟨rfl, rfl, rfl, rfl, rfl, trivial⟩, rfl, Hp.Le.refl _, Nat.zero_le _, Vw.none_ok _, rfl⟩
  rintro ⟨k, ⟨p, q, r, s, g, e, t, ba, bn, bc, bl⟩⟩ H1 ⟨hl1, h1, h2, h3⟩ rd hrd
  simp only at h1 h2 h3
  intro add1 sub1 mul1 quo1 rem1 band1 bor1 bxor1 bclr1 shl1 shr1 ieq1 ilt1 ile1 seq1 slt1 beq1 bnot1 orb1 bcond1 iwrap1 iof1 ssz1 hA1 op1 hop1 code1 hcode1
  cbv
  by_cases hk : k < n
  · refine vcIf.yes (by rw [hA1.lt, hA.ofNat]; exact decide_eq_true (Int.ofNat_lt.2 hk)) ?_
    have hkl : k < vs.length := by omega
    obtain ⟨v, hv⟩ : ∃ v, vs[k] = v := ⟨_, rfl⟩
    have hget : (vs.map Vw.val)[(Int.ofNat k).toNat]? = some v.val := by
      rw [← hv]; simp [hkl]
    have hdrop : vs.drop k = v :: vs.drop (k + 1) := by rw [← hv]; exact List.drop_eq_getElem_cons hkl
    have hvo : v.Ok H1 := (S.ok v (by rw [← hv]; exact List.getElem_mem hkl)).mono hl1
    rw [hdrop] at h3
    obtain ⟨p', q', r', s', g', e', t', ba', bn', bc', bl'⟩ := v
    cbv
    refine hop1 _ _ _ (PEv.index eOk rfl rfl rfl rfl rfl rfl (S.sl.mono hl1).sl S.sl.len (Int.natCast_nonneg k) hget fun b off => ?_).op
    cbv
    refine hop1 _ _ _ (EEv.callF fo14 rfl rfl (fun H1 hl1 hb1 => less_spec hb1 r s r' s') ?_).op
    rintro v H3 hl3 hb3 rfl
    have hl13 : H1.Le H3 := hl3
    have e1 : add1 .i64 (Int.ofNat k) 1 = Int.ofNat (k + 1) := by
      rw [hA1.add, IntWalk.i64_in _ (by simp only [Int.ofNat_eq_natCast]; omega)]; rfl
    rw [bestOf_cons] at h3
    simp only at h3
    obtain ⟨b, hbe⟩ : ∃ b, b = lessB r s r' s' := ⟨_, rfl⟩
    rw [← hbe] at h3 ⊢
    cases b with
    | true =>
      cbv
      refine hrd _ ⟨(k + 1, ⟨p', q', r', s', g', e', t', ba', bn', bc', bl'⟩), [_], ?_, rfl, ⟨?_, rfl, rfl, rfl, rfl, trivial⟩, rfl, rfl, rfl, Nat.zero_le _, hl1.trans hl13, ?_, hvo.mono hl13, by simpa using h3⟩
      · simp only; omega
      · show some (V.v (.int .i64 (add1 .i64 (Int.ofNat k) 1))) = _
        rw [e1]
      · simp only; omega
    | false =>
      cbv
      refine hrd _ ⟨(k + 1, ⟨p, q, r, s, g, e, t, ba, bn, bc, bl⟩), [_], ?_, rfl, ⟨?_, rfl, rfl, rfl, rfl, trivial⟩, rfl, rfl, rfl, Nat.zero_le _, hl1.trans hl13, ?_, h2.mono hl13, by simpa using h3⟩
      · simp only; omega
      · show some (V.v (.int .i64 (add1 .i64 (Int.ofNat k) 1))) = _
        rw [e1]
      · simp only; omega
  · refine vcIf.no (by rw [hA1.lt, hA.ofNat]; exact decide_eq_false (by simp only [Int.ofNat_eq_natCast]; omega)) ?_
    have hke : k = n := by omega
    rw [hke, ← hlen, List.drop_length] at h3
    cbv
    refine hop _ _ _ (EEv.callF fo40 rfl rfl (fun H1 hl1 hb1 => vclone_spec hb1 (h2.ns.mono hl1) h2.room p q r s g e t) ?_).op
    rintro v H4 hl4 hb4 ⟨a2, c2, rfl, S2⟩
    cbv
    exact hret _ (RetEv.fn eOk rfl fun H' hl' => ⟨⟨p, q, r, s, g, e, t, a2, bn, c2, bl⟩, rfl, ⟨S2.mono hl', h2.room⟩, by
      rw [h3]; exact ⟨rfl, rfl, rfl, rfl, rfl, rfl, rfl, rfl⟩⟩)
end Go.Proofs.Ytdbagbklhchbkaa
