/- What the document's Best does. Conditions: on sizes. -/
import Derived.Test.YtdbagbklhchbkaaBal4
set_option maxRecDepth 100000
set_option maxHeartbeats 4000000
set_option linter.unusedSimpArgs false
set_option linter.unusedVariables false
namespace Go.Proofs.Ytdbagbklhchbkaa
open Go Go.Sx

theorem rbest_spec {H : Hp} (hb : H.Bd) {a : Option Addr} {n c : Nat} {vs : List Vw} (S : VsOk H a n c vs) (hn : n < 9223372036854775807) :
    FnV Try.prog 24 [.slice a n c] H fun z H' => ∃ u : Vw, z = stV u.g u.e u.t u.a u.n u.c ∧ u.Ok H' ∧ u.Eq (bestOf .none vs) := by
  have hlen : vs.length = n := by have := S.sl.len; rwa [List.length_map] at this
  refine fn_of_vc eOk fOk Try.func24 rfl rfl rfl hb ?_
  intro add sub mul quo rem band bor bxor bclr shl shr ieq ilt ile seq slt beq bnot orb bcond iwrap iof ssz hA op hop code hcode ret hret
  cbv
  refine hcode _ _ _ (CodeEv.loopD eOk fOk (ι := Nat × Vw) (fun i => [(4, .v (.int .i64 (Int.ofNat i.1))), (0, .v (.slice a n c)), (3, .own 1 0), (2, .own 0 0)])
    (fun i => [.st 29 [.v (.int .i64 0), .v (.int .i64 0), .v (.int .i64 0), .v (.slice none 0 0)], .st 31 [.v (.int .i64 i.2.p), .v (.int .i64 i.2.q), .v (.int .i64 i.2.r), .v (.int .i64 i.2.s), .v (.int .i64 i.2.g), .v (.int .i64 i.2.e), .v (.int .i64 i.2.t), .v (.slice i.2.a i.2.n i.2.c)]])
    (fun i H' => H.Le H' ∧ i.1 ≤ n ∧ i.2.Ok H' ∧ bestOf .none vs = bestOf i.2 (vs.drop i.1)) (fun i => n - i.1) (0, .none) ?_ ?_)
  · exact ⟨⟨rfl, rfl, rfl, rfl, trivial⟩, rfl, Hp.Le.refl _, Nat.zero_le _, Vw.none_ok _, rfl⟩
  rintro ⟨k, ⟨p, q, r, s, g, e, t, ba, bn, bc, bl⟩⟩ H1 ⟨hl1, h1, h2, h3⟩ rd hrd
  simp only at h1 h2 h3
  intro add1 sub1 mul1 quo1 rem1 band1 bor1 bxor1 bclr1 shl1 shr1 ieq1 ilt1 ile1 seq1 slt1 beq1 bnot1 orb1 bcond1 iwrap1 iof1 ssz1 hA1 op1 hop1 code1 hcode1
  cbv
  by_cases hk : k < n
  · refine vcIf.yes (by rw [hA1.lt, hA1.ofNat]; exact decide_eq_true (Int.ofNat_lt.2 hk)) ?_
    have hkl : k < vs.length := by omega
    obtain ⟨v, hv⟩ : ∃ v, vs[k] = v := ⟨_, rfl⟩
    have hget : (vs.map Vw.val)[(Int.ofNat k).toNat]? = some v.val := by
      rw [← hv]; simp [hkl]
    have hdrop : vs.drop k = v :: vs.drop (k + 1) := by rw [← hv]; exact List.drop_eq_getElem_cons hkl
    have hvo : v.Ok H1 := (S.ok v (by rw [← hv]; exact List.getElem_mem hkl)).mono hl1
    rw [hdrop] at h3
    obtain ⟨p', q', r', s', g', e', t', ba', bn', bc', bl'⟩ := v
    cbv
    refine hcode1 _ _ _ (CodeEv.draw eOk fOk (by kernel_rfl) [(0, false), (1, false), (2, false), (3, false), (4, false), (5, false), (6, false), (7, true)] (by kernel_rfl) (by kernel_rfl) (by kernel_rfl) ?_)
    intro add2 sub2 mul2 quo2 rem2 band2 bor2 bxor2 bclr2 shl2 shr2 ieq2 ilt2 ile2 seq2 slt2 beq2 bnot2 orb2 bcond2 iwrap2 iof2 ssz2 hA2 rd2 hrd2 act2 hact2 q2 hq2
    cbv
    refine hrd2 _ _ _ (PEv.index eOk rfl rfl rfl rfl rfl rfl (S.sl.mono hl1).sl S.sl.len (Int.natCast_nonneg k) hget fun b off => ?_)
    cbv
    refine hact2 _ _ _ (EEv.callF fo16 rfl rfl (fun H1 hl1 hb1 => rless_spec hb1 r s r' s') ?_)
    rintro v H3 hl3 hb3 rfl
    have hl13 : H1.Le H3 := hl3
    have e1 : add1 .i64 (Int.ofNat k) 1 = Int.ofNat (k + 1) := by
      rw [hA1.add, IntWalk.i64_in _ (by simp only [Int.ofNat_eq_natCast]; omega)]; rfl
    rw [bestOf_cons] at h3
    simp only at h3
    obtain ⟨b, hbe⟩ : ∃ b, b = lessB r s r' s' := ⟨_, rfl⟩
    rw [← hbe] at h3 ⊢
    cases b with
    | true =>
      cbv
      refine hq2 _ ?_
      cbv
      refine hop1 _ _ _ (PEv.index eOk rfl rfl rfl rfl rfl rfl (S.sl.mono (hl1.trans hl13)).sl S.sl.len (Int.natCast_nonneg k) hget fun b off => ?_).op
      cbv
      refine hrd _ ⟨(k + 1, ⟨p', q', r', s', g', e', t', ba', bn', bc', bl'⟩), [], ?_, rfl, ⟨?_, rfl, rfl, rfl, trivial⟩, rfl, rfl, rfl, Nat.zero_le _, hl1.trans hl13, ?_, hvo.mono hl13, by simpa using h3⟩
      · simp only; omega
      · show some (V.v (.int .i64 (add1 .i64 (Int.ofNat k) 1))) = _
        rw [e1]
      · simp only; omega
    | false =>
      cbv
      refine hq2 _ ?_
      cbv
      refine hrd _ ⟨(k + 1, ⟨p, q, r, s, g, e, t, ba, bn, bc, bl⟩), [], ?_, rfl, ⟨?_, rfl, rfl, rfl, trivial⟩, rfl, rfl, rfl, Nat.zero_le _, hl1.trans hl13, ?_, h2.mono hl13, by simpa using h3⟩
      · simp only; omega
      · show some (V.v (.int .i64 (add1 .i64 (Int.ofNat k) 1))) = _
        rw [e1]
      · simp only; omega
  · refine vcIf.no (by rw [hA1.lt, hA1.ofNat]; exact decide_eq_false (by simp only [Int.ofNat_eq_natCast]; omega)) ?_
    have hke : k = n := by omega
    rw [hke, ← hlen, List.drop_length] at h3
    cbv
    exact hret _ (RetEv.fn eOk rfl fun H' hl' => ⟨⟨p, q, r, s, g, e, t, ba, bn, bc, bl⟩, rfl, h2.mono hl', by
      rw [h3]; exact ⟨rfl, rfl, rfl, rfl, rfl, rfl, rfl, rfl⟩⟩)
end Go.Proofs.Ytdbagbklhchbkaa
