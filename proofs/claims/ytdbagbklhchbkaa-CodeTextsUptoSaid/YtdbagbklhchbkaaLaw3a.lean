/- The walk of roundhouselaw03.CodeOrder: true, whatever the two numbers. No conditions. -/
import Derived.Test.YtdbagbklhchbkaaCode3
set_option maxRecDepth 100000
set_option maxHeartbeats 4000000
set_option linter.unusedSimpArgs false
set_option linter.unusedVariables false
namespace Go.Proofs.Ytdbagbklhchbkaa
open Go Go.Sx

theorem enc_mono : ∀ (k x y : Nat), y < k → x ≤ y → (enc x).length ≤ (enc y).length
  | 0, x, y, h, _ => by omega
  | k + 1, x, y, h, hxy => by
    by_cases hx : x < 128
    · rw [enc_lo hx]; exact enc_pos y
    · rw [enc_hi hx, enc_hi (show ¬ y < 128 by omega), List.length_cons, List.length_cons]
      exact Nat.succ_le_succ (enc_mono k (x / 128) (y / 128) (by omega) (by omega))

theorem ofNat_inj {x y : Nat} (hx : x < 256) (hy : y < 256) (h : UInt8.ofNat x = UInt8.ofNat y) : x = y := by
  have := congrArg UInt8.toNat h
  rwa [UInt8.toNat_ofNat_of_lt' hx, UInt8.toNat_ofNat_of_lt' hy] at this

theorem enc_inj : ∀ (k x y : Nat), x < k → enc x = enc y → x = y
  | 0, x, y, h, _ => by omega
  | k + 1, x, y, h, he => by
    by_cases hx : x < 128
    · by_cases hy : y < 128
      · rw [enc_lo hx, enc_lo hy] at he
        exact ofNat_inj (by omega) (by omega) (by simpa using he)
      · rw [enc_lo hx, enc_hi hy] at he
        have := congrArg List.length he
        have := enc_pos (y / 128)
        simp only [List.length_cons, List.length_nil] at *; omega
    · by_cases hy : y < 128
      · rw [enc_hi hx, enc_lo hy] at he
        have := congrArg List.length he
        have := enc_pos (x / 128)
        simp only [List.length_cons, List.length_nil] at *; omega
      · rw [enc_hi hx, enc_hi hy] at he
        have h1 : UInt8.ofNat (x % 128 + 128) = UInt8.ofNat (y % 128 + 128) := by injection he
        have h2 : enc (x / 128) = enc (y / 128) := by injection he
        have h3 := ofNat_inj (by omega) (by omega) h1
        have h4 := enc_inj k (x / 128) (y / 128) (by omega) h2
        omega

theorem putNumR_any {x : Int} {v : Value} {H : Hp} {l0 : List UInt8} (h : putNumR l0 x v H) : ∃ a n c l e, v = .tuple #[.slice a n c, .int .i64 e] ∧ Bs H a n c l ∧ (x < 0 ∧ e = 5 ∧ n = 0 ∨ 0 ≤ x ∧ e = 0 ∧ l = l0 ++ enc x.toNat) := by
  unfold putNumR at h
  split at h
  · rename_i h0
    exact ⟨none, 0, 0, [], 5, h, SlV.none, .inl ⟨h0, rfl, rfl⟩⟩
  · rename_i h0
    obtain ⟨a, n, c, h1, h2⟩ := h
    exact ⟨a, n, c, _, 0, h1, h2, .inr ⟨by omega, rfl, rfl⟩⟩

theorem codeOrder {H : Hp} (hb : H.Bd) (x y : Int) (hx : x ≤ 9223372036854775807) (hy : y ≤ 9223372036854775807) :
    FnV Try.prog 10 [.int .i64 x, .int .i64 y] H (fun v _ => v = .bool true) := by
  refine fn_of_vc eOk fOk Try.func10 rfl rfl rfl hb ?_
  intro add sub mul quo rem band bor bxor bclr shl shr ieq ilt ile seq slt beq bnot orb bcond iwrap iof ssz hA op hop code hcode ret hret
  cbv
  refine hop _ _ _ (EEv.callF fo26 rfl rfl (fun H1 hl1 hb1 => putNum_spec (l := []) hb1 SlV.none (by decide) x hx) ?_).op
  rintro v H2 hl2 hb2 hv
  obtain ⟨a2, n2, c2, l2, e2, rfl, S2, q2⟩ := putNumR_any hv
  cbv
  refine hop _ _ _ (EEv.callF fo26 rfl rfl (fun H1 hl1 hb1 => putNum_spec (l := []) hb1 SlV.none (by decide) y hy) ?_).op
  rintro v H3 hl3 hb3 hv
  obtain ⟨a3, n3, c3, l3, e3, rfl, S3, q3⟩ := putNumR_any hv
  cbv
  refine hop _ _ _ (EEv.callF fo29 rfl rfl (fun H1 hl1 hb1 => awake_spec hb1) ?_).op
  rintro v H4 hl4 hb4 rfl
  cbv
  refine vcIf.no (by rw [hA.not]; rfl) ?_
  cbv
  rcases q2 with ⟨p2, rfl, rfl⟩ | ⟨p2, rfl, g2⟩
  · refine vcIf.yes (by simp [hA.cond, hA.not, hA.eq]) ?_
    cbv
    refine hop _ _ _ (EEv.callF fo29 rfl rfl (fun H1 hl1 hb1 => awake_spec hb1) ?_).op
    rintro v H5 hl5 hb5 rfl
    cbv
    exact hret _ (RetEv.fn eOk rfl fun H' _ => rfl)
  refine vcIf.no (by simp [hA.cond, hA.not, hA.eq]) ?_
  cbv
  rcases q3 with ⟨p3, rfl, rfl⟩ | ⟨p3, rfl, g3⟩
  · refine vcIf.yes (by simp [hA.cond, hA.not, hA.eq]) ?_
    cbv
    refine hop _ _ _ (EEv.callF fo29 rfl rfl (fun H1 hl1 hb1 => awake_spec hb1) ?_).op
    rintro v H5 hl5 hb5 rfl
    cbv
    exact hret _ (RetEv.fn eOk rfl fun H' _ => rfl)
  refine vcIf.no (by simp [hA.cond, hA.not, hA.eq]) ?_
  cbv
  have hL2 := Bs.length S2
  have hL3 := Bs.length S3
  have hle : ¬ y < x → n2 ≤ n3 := fun h => by rw [← hL2, ← hL3, g2, g3]; exact enc_mono _ _ _ (Nat.lt_succ_self _) (by omega)
  have h1 : 1 ≤ n2 := by rw [← hL2, g2]; exact enc_pos _
  have h9 : n2 ≤ 9 := by rw [← hL2, g2]; exact enc_len9 (by omega)
  have hfin : ieq x y = seq ⟨l2.toArray⟩ ⟨l3.toArray⟩ := by
    rw [hA.eq, hA.seq, g2, g3]
    by_cases hxy : x = y
    · subst hxy; rw [beq_self_eq_true, beq_self_eq_true]
    · rw [beq_eq_false_iff_ne.2 hxy, eq_comm, beq_eq_false_iff_ne]
      intro h
      have h' : enc x.toNat = enc y.toNat := by
        simpa [ByteArray.toList_eq] using h
      have := enc_inj _ _ _ (Nat.lt_succ_self _) h'
      omega
  have hl34 : H3.Le H4 := hl4
  have hl24 : H2.Le H4 := hl3.trans hl4
  by_cases hyx : y < x
  · refine vcIf.yes (by simp [hA.lt, hyx]) ?_
    cbv
    refine vcIf.yes (by simp only [hA.lt, hA.le, hA.cond, hA.eq, hA.ofNat, cond_true, cond_false, decide_eq_true_eq]; omega) ?_
    cbv
    refine vcIf.yes (by simp only [hA.lt, hA.le, hA.cond, hA.eq, hA.ofNat, cond_true, cond_false, decide_eq_true_eq]; omega) ?_
    cbv
    refine hop _ _ _ (PEv.str eOk rfl rfl rfl rfl rfl rfl rfl rfl (S2.mono hl24).sl hL2 ?_).op
    cbv
    refine hop _ _ _ (PEv.str eOk rfl rfl rfl rfl rfl rfl rfl rfl (S3.mono hl34).sl hL3 ?_).op
    cbv
    exact hret _ (RetEv.fn eOk rfl fun H' _ => by
      show Value.bool (bcond true (beq (ieq x y) (seq ⟨l2.toArray⟩ ⟨l3.toArray⟩)) false) = Value.bool true
      rw [hA.cond, hA.beq, hfin, cond_true, beq_self_eq_true])
  · refine vcIf.no (by simp [hA.lt, hyx]) ?_
    have hn := hle hyx
    cbv
    refine vcIf.yes (by simp only [hA.lt, hA.le, hA.cond, hA.eq, hA.ofNat, cond_true, cond_false, decide_eq_true_eq]; omega) ?_
    cbv
    refine vcIf.yes (by simp only [hA.lt, hA.le, hA.cond, hA.eq, hA.ofNat, cond_true, cond_false, decide_eq_true_eq]; omega) ?_
    cbv
    refine vcIf.yes (by simp only [hA.lt, hA.le, hA.cond, hA.eq, hA.ofNat, cond_true, cond_false, decide_eq_true_eq]; omega) ?_
    cbv
    refine hop _ _ _ (PEv.str eOk rfl rfl rfl rfl rfl rfl rfl rfl (S2.mono hl24).sl hL2 ?_).op
    cbv
    refine hop _ _ _ (PEv.str eOk rfl rfl rfl rfl rfl rfl rfl rfl (S3.mono hl34).sl hL3 ?_).op
    cbv
    exact hret _ (RetEv.fn eOk rfl fun H' _ => by
      show Value.bool (bcond true (beq (ieq x y) (seq ⟨l2.toArray⟩ ⟨l3.toArray⟩)) false) = Value.bool true
      rw [hA.cond, hA.beq, hfin, cond_true, beq_self_eq_true])
end Go.Proofs.Ytdbagbklhchbkaa
