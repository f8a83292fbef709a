/- The walk of roundhouselaw13.BallotLess: true, whatever the three ballots. No conditions. -/
import Derived.Test.YtdbagbklhchbkaaBal7
set_option maxRecDepth 100000
set_option maxHeartbeats 4000000
set_option linter.unusedSimpArgs false
set_option linter.unusedVariables false
namespace Go.Proofs.Ytdbagbklhchbkaa
open Go Go.Sx

theorem less_tri (a b c d : Int) : (lessB a b c d || lessB c d a b) = (!(a == c && b == d)) ∧ (lessB a b c d && lessB c d a b) = false := by
  unfold lessB
  rcases Int.lt_trichotomy a c with h | h | h
  · have h1 : ¬ c < a := by omega
    have h2 : ¬ a = c := by omega
    have h3 : ¬ c = a := by omega
    simp [h, h1, h2, h3]
  · subst h
    have h0 : ¬ a < a := by omega
    rcases Int.lt_trichotomy b d with k | k | k
    · have k1 : ¬ d < b := by omega
      have k2 : ¬ b = d := by omega
      simp [k, k1, k2]
    · subst k; simp
    · have k1 : ¬ b < d := by omega
      have k2 : ¬ b = d := by omega
      simp [k, k1, k2]
  · have h1 : ¬ a < c := by omega
    have h2 : ¬ a = c := by omega
    have h3 : ¬ c = a := by omega
    simp [h, h1, h2, h3]

theorem less_trans {a b c d e f : Int} (h : lessB a b c d = true) (k : lessB c d e f = true) : lessB a b e f = true := by
  simp [lessB] at h k ⊢; omega

theorem ballotLess {H : Hp} (hb : H.Bd) (a b c d e f : Int) :
    FnV Try.prog 3 [ball a b, ball c d, ball e f] H (fun v _ => v = .bool true) := by
  refine fn_of_vc eOk fOk Try.func3 rfl rfl rfl hb ?_
  intro add sub mul quo rem band bor bxor bclr shl shr ieq ilt ile seq slt beq bnot orb bcond iwrap iof ssz hA op hop code hcode ret hret
  cbv
  refine hcode _ _ _ (CodeEv.draw eOk fOk (by kernel_rfl) [(0, false), (1, false), (3, false), (4, false), (2, true), (5, true), (6, false), (7, false)] (by kernel_rfl) (by kernel_rfl) (by kernel_rfl) ?_)
  intro add1 sub1 mul1 quo1 rem1 band1 bor1 bxor1 bclr1 shl1 shr1 ieq1 ilt1 ile1 seq1 slt1 beq1 bnot1 orb1 bcond1 iwrap1 iof1 ssz1 hA1 rd1 hrd1 act1 hact1 q1 hq1
  cbv
  refine hact1 _ _ _ (EEv.callF fo14 rfl rfl (fun H1 hl1 hb1 => less_spec hb1 a b c d) ?_)
  rintro v H2 hl2 hb2 rfl
  obtain ⟨x, hx⟩ : ∃ x, x = lessB a b c d := ⟨_, rfl⟩
  rw [← hx]
  cbv
  refine hact1 _ _ _ (EEv.callF fo14 rfl rfl (fun H1 hl1 hb1 => less_spec hb1 c d a b) ?_)
  rintro v H3 hl3 hb3 rfl
  obtain ⟨y, hy⟩ : ∃ y, y = lessB c d a b := ⟨_, rfl⟩
  rw [← hy]
  cbv
  refine hq1 _ ?_
  cbv
  refine hop _ _ _ (EEv.callF fo15 rfl rfl (fun H1 hl1 hb1 => awake13_spec hb1) ?_).op
  rintro v H4 hl4 hb4 rfl
  cbv
  refine hop _ _ _ (EEv.callF fo16 rfl rfl (fun H1 hl1 hb1 => rless_spec hb1 a b c d) ?_).op
  rintro v H5 hl5 hb5 rfl
  rw [← hx]
  cbv
  obtain ⟨z, hz⟩ : ∃ z, z = (!(a == c && b == d)) := ⟨_, rfl⟩
  have hne : ∀ {x y : Operand} (w : World), (do eqGuard .neq 23 x y (ball a b) (ball c d); binOp .neq 23 (ball a b) (ball c d) : Sem Value).run Try.prog w = .ok (.bool z) w := by
    intro x y w; rw [hz]; exact ball_neq w
  have hxy : (x || y) = z ∧ (x && y) = false := by
    rw [hx, hy, hz]; exact less_tri a b c d
  refine vcIf.yes (by simp [hA.cond, hA.beq]) ?_
  cases x with
  | true =>
    obtain ⟨h1, h2⟩ := hxy
    obtain rfl : z = true := by simpa using h1.symm
    obtain rfl : y = false := by simpa using h2
    cbv
    refine hop _ _ _ (PEv.bin rfl rfl rfl hne ?_).op
    cbv
    refine vcIf.yes (by simp [hA.cond, hA.beq]) ?_
    cbv
    refine vcIf.yes (by simp [hA.cond, hA.not]) ?_
    cbv
    refine vcIf.no (by simp [hA.not]) ?_
    cbv
    refine hop _ _ _ (EEv.callF fo14 rfl rfl (fun H1 hl1 hb1 => less_spec hb1 c d e f) ?_).op
    rintro v H6 hl6 hb6 rfl
    obtain ⟨u, hu⟩ : ∃ u, u = lessB c d e f := ⟨_, rfl⟩
    rw [← hu]
    cases u with
    | false =>
      cbv
      refine vcIf.yes (by simp [hA.cond, hA.not]) ?_
      cbv
      exact hret _ (RetEv.fn eOk rfl fun H' _ => by show Value.bool _ = Value.bool true; simp [hA.cond])
    | true =>
      cbv
      refine vcIf.no (by simp [hA.cond, hA.not]) ?_
      cbv
      refine hop _ _ _ (EEv.callF fo14 rfl rfl (fun H1 hl1 hb1 => less_spec hb1 a b e f) ?_).op
      rintro v H7 hl7 hb7 rfl
      rw [less_trans hx.symm hu.symm]
      cbv
      exact hret _ (RetEv.fn eOk rfl fun H' _ => by show Value.bool _ = Value.bool true; simp [hA.cond])
  | false =>
    obtain ⟨h1, h2⟩ := hxy
    obtain rfl : y = z := by simpa using h1
    cbv
    refine hop _ _ _ (PEv.bin rfl rfl rfl hne ?_).op
    cbv
    refine vcIf.yes (by simp [hA.cond, hA.beq]) ?_
    cbv
    refine vcIf.yes (by simp [hA.cond, hA.not]) ?_
    cbv
    refine vcIf.yes (by simp [hA.not]) ?_
    cbv
    exact hret _ (RetEv.fn eOk rfl fun H' _ => by show Value.bool _ = Value.bool true; simp [hA.cond])
end Go.Proofs.Ytdbagbklhchbkaa
