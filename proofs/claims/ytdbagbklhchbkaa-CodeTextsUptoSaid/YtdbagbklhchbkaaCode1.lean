/- What package code's functions do: put, PutNum, Num, and the document's answers to them. No conditions but on sizes. -/
import Derived.Test.YtdbagbklhchbkaaEnv
import Derived.Test.YtdbagbklhchbkaaPl2
set_option maxRecDepth 100000
set_option linter.unusedSimpArgs false
set_option linter.unusedVariables false
namespace Go.Proofs.Ytdbagbklhchbkaa
open Go Go.Sx

theorem clone_spec {H : Hp} (hb : H.Bd) {a : Option Addr} {n c : Nat} {l : List UInt8} (S : Bs H a n c l) (hn : n ≤ 140737488355328) :
    FnN Try.prog 42 [.slice a n c] H fun v φ _ => ∃ a' c' xs', v = .slice a' n c' ∧ xs' = byteV l ∧ φ = Row 5 1 v n xs' := by
  refine fnN_of_vc eOk fOk Try.func42 rfl rfl rfl hb ?_
  intro add sub mul quo rem band bor bxor bclr shl shr ieq ilt ile seq slt beq bnot orb bcond iwrap iof ssz hA op hop code hcode ret hret
  cbv
  refine hop _ _ _ (PEv.bin rfl rfl rfl (run_nil_eql eOk rfl rfl a n c _ _) ?_).op
  cases a with
  | none =>
    obtain ⟨rfl, rfl⟩ := S.nil rfl
    have hl : l = [] := List.eq_nil_of_length_eq_zero (Bs.length S)
    subst hl
    cbv
    refine hret _ (RetEv.conv (Conv.nilRow _ _ 5 1) ?_)
    rintro _ _ ⟨rfl, rfl⟩
    exact RetEv.fnN eOk (j := 0) rfl rfl fun H' _ => ⟨none, 0, [], rfl, rfl, rfl⟩
  | some ad =>
    cbv
    refine hop _ _ _ (EEv.litRow eOk rfl rfl rfl rfl rfl rfl (by decide) rfl rfl (by decide) rfl ?_).op
    intro a0 H1 hle1
    cbv
    refine hop _ _ _ (EEv.append eOk (j := 0) (ys := byteV l) rfl rfl rfl rfl rfl rfl (by decide) rfl rfl rfl (S.sl.mono hle1) S.len byteV_size byteV_one ?_ ?_ ?_).op
    · unfold maxLen; simp; omega
    · simp; omega
    intro a' c' n' xs' H3 hle3 hn' hxs'
    have e1 : n' = n := by omega
    have e2 : xs' = byteV l := by rw [hxs', byteV_flat]; rfl
    subst e1
    cbv
    exact hret _ (RetEv.fnN eOk (j := 0) rfl rfl fun H' _ => ⟨a', c', _, rfl, e2, rfl⟩)

abbrev putR (T : TypeId) (n : Nat) (xs : List Value) (l : List UInt8) (v : Value) (φ : NP → World → Prop) (_ : Hp) : Prop :=
  ∃ a' c' n' xs', v = .slice a' n' c' ∧ n' = n + l.length ∧ xs' = xs ++ byteV l ∧ φ = Row T 1 v n' xs'

theorem put_spec {H : Hp} (hb : H.Bd) {v : Value} {n : Nat} {xs : List Value} (x : Nat) (hx : x < 9223372036854775808) (hn : n + 10 ≤ 140737488355328) :
    FnR Try.prog 41 [v, .int .i64 x] H (Row 5 1 v n xs) (putR 5 n xs (enc x)) := by
  refine fnR_of_vc eOk fOk Try.func41 rfl rfl rfl hb (Row.loc _ _ _ _ _) fun F hr => ?_
  obtain ⟨a, c, rfl⟩ : ∃ a c, v = .slice a n c := by
    rcases hr.1.2 with ⟨rfl, rfl⟩ | ⟨g, cap, cur, rfl, _⟩
    · exact ⟨_, _, rfl⟩
    · exact ⟨_, _, rfl⟩
  intro add sub mul quo rem band bor bxor bclr shl shr ieq ilt ile seq slt beq bnot orb bcond iwrap iof ssz hA op hop code hcode ret hret
  cbv
  refine hcode _ _ _ (CodeEv.loop eOk fOk (ι := Option Addr × Nat × Nat × Nat × List Value) (fun i => [(0, .v (.slice i.1 i.2.2.1 i.2.1)), (1, .v (.int .i64 i.2.2.2.1))])
    (fun i => [.abs (Row 5 1 (.slice i.1 i.2.2.1 i.2.1) i.2.2.1 i.2.2.2.2)])
    (fun i H => ∃ pre, enc x = pre ++ enc i.2.2.2.1 ∧ i.2.2.1 = n + pre.length ∧ i.2.2.2.2 = xs ++ byteV pre ∧ i.2.2.2.1 < 9223372036854775808 ∧ pre.length + (enc i.2.2.2.1).length ≤ 10) (fun i => i.2.2.2.1) (a, c, n, x, xs) ?_ ?_)
  · exact ⟨⟨rfl, rfl, trivial⟩, rfl, [], rfl, rfl, by simp [byteV], hx, by have := enc_len9 hx; simp; omega⟩
  rintro ⟨a, c, m, y, ys⟩ H1 ⟨pre, h1, h2, h3, h4, h5⟩ rd hrd
  simp only at h1 h2 h3 h4 h5
  intro add1 sub1 mul1 quo1 rem1 band1 bor1 bxor1 bclr1 shl1 shr1 ieq1 ilt1 ile1 seq1 slt1 beq1 bnot1 orb1 bcond1 iwrap1 iof1 ssz1 hA1 op1 hop1 code1 hcode1
  cbv
  have hpos := enc_pos y
  by_cases hy : y < 128
  · refine vcIf.no (by rw [hA1.le]; simp; omega) ?_
    cbv
    refine hop _ _ _ (EEv.lit eOk rfl rfl rfl rfl rfl rfl (by decide) rfl rfl (by decide) ?_).op
    intro b H2 hle him
    cbv
    refine hop _ _ _ (EEv.append eOk (j := 0) (ys := [_]) rfl rfl rfl rfl rfl rfl (by decide) rfl rfl rfl (Sl.of_imm (by simp [Value.cells]) him) rfl (by simp [Value.cells]) (by simp [Value.cells, Value.oneCell']) ?_ ?_ ?_).op
    · unfold maxLen; simp; omega
    · simp; omega
    intro a' c' n' xs' H3 hle3 hn' hxs'
    cbv
    refine hret _ (RetEv.fnR eOk (j := 0) rfl rfl fun H' _ => ⟨a', c', n', xs', rfl, ?_, ?_, rfl⟩)
    · rw [hn', h1, enc_lo hy, h2]; simp; omega
    · rw [hxs', h1, enc_lo hy, h3, hA.wrap, wrap_u8]
      simp [byteV, Value.cells]
  · refine vcIf.yes (by rw [hA1.le]; simp; omega) ?_
    have hpos2 := enc_pos (y / 128)
    rw [enc_hi hy] at h1 h5
    simp only [List.length_cons] at h5
    cbv
    refine hop1 _ _ _ (EEv.lit eOk rfl rfl rfl rfl rfl rfl (by decide) rfl rfl (by decide) ?_).op
    intro b H2 hle him
    cbv
    refine hop1 _ _ _ (EEv.append eOk (j := 0) (ys := [_]) rfl rfl rfl rfl rfl rfl (by decide) rfl rfl rfl (Sl.of_imm (by simp [Value.cells]) him) rfl (by simp [Value.cells]) (by simp [Value.cells, Value.oneCell']) ?_ ?_ ?_).op
    · unfold maxLen; simp; omega
    · simp; omega
    intro a' c' n' xs' H3 hle3 hn' hxs'
    cbv
    refine hrd _ ⟨(a', c', n', y / 128, xs'), ?_, rfl, ⟨rfl, ?_, trivial⟩, rfl, pre ++ [UInt8.ofNat (y % 128 + 128)], ?_, ?_, ?_, ?_, ?_⟩
    · simp only; omega
    · show some (V.v (.int .i64 (shr1 .i64 (Int.ofNat y) 7))) = some (V.v (.int .i64 ((y / 128 : Nat) : Int)))
      rw [hA1.shr, shr7]
    · simp only [h1]; simp
    · simp only [hn', h2]; simp; omega
    · simp only [hxs', h3, hA1.or, hA1.wrap, wrap_u8, byteV_append, or128 (y % 256) (by omega)]
      simp [byteV, Value.cells]; omega
    · simp only; omega
    · simp; omega

theorem rput_spec {H : Hp} (hb : H.Bd) {v : Value} {n : Nat} {xs : List Value} (x : Nat) (hx : x < 9223372036854775808) (hn : n + 10 ≤ 140737488355328) :
    FnR Try.prog 30 [v, .int .i64 x] H (Row 5 1 v n xs) (putR 5 n xs (enc x)) := by
  refine fnR_of_vc eOk fOk Try.func30 rfl rfl rfl hb (Row.loc _ _ _ _ _) fun F hr => ?_
  obtain ⟨a, c, rfl⟩ : ∃ a c, v = .slice a n c := by
    rcases hr.1.2 with ⟨rfl, rfl⟩ | ⟨g, cap, cur, rfl, _⟩
    · exact ⟨_, _, rfl⟩
    · exact ⟨_, _, rfl⟩
  intro add sub mul quo rem band bor bxor bclr shl shr ieq ilt ile seq slt beq bnot orb bcond iwrap iof ssz hA op hop code hcode ret hret
  cbv
  refine hcode _ _ _ (CodeEv.loop eOk fOk (ι := Option Addr × Nat × Nat × Nat × List Value) (fun i => [(0, .v (.slice i.1 i.2.2.1 i.2.1)), (1, .v (.int .i64 i.2.2.2.1))])
    (fun i => [.abs (Row 5 1 (.slice i.1 i.2.2.1 i.2.1) i.2.2.1 i.2.2.2.2)])
    (fun i H => ∃ pre, enc x = pre ++ enc i.2.2.2.1 ∧ i.2.2.1 = n + pre.length ∧ i.2.2.2.2 = xs ++ byteV pre ∧ i.2.2.2.1 < 9223372036854775808 ∧ pre.length + (enc i.2.2.2.1).length ≤ 10) (fun i => i.2.2.2.1) (a, c, n, x, xs) ?_ ?_)
  · exact ⟨⟨rfl, rfl, trivial⟩, rfl, [], rfl, rfl, by simp [byteV], hx, by have := enc_len9 hx; simp; omega⟩
  rintro ⟨a, c, m, y, ys⟩ H1 ⟨pre, h1, h2, h3, h4, h5⟩ rd hrd
  simp only at h1 h2 h3 h4 h5
  intro add1 sub1 mul1 quo1 rem1 band1 bor1 bxor1 bclr1 shl1 shr1 ieq1 ilt1 ile1 seq1 slt1 beq1 bnot1 orb1 bcond1 iwrap1 iof1 ssz1 hA1 op1 hop1 code1 hcode1
  cbv
  have hpos := enc_pos y
  by_cases hy : y < 128
  · refine vcIf.no (by rw [hA1.lt]; simp; omega) ?_
    cbv
    refine hop _ _ _ (EEv.lit eOk rfl rfl rfl rfl rfl rfl (by decide) rfl rfl (by decide) ?_).op
    intro b H2 hle him
    cbv
    refine hop _ _ _ (EEv.append eOk (j := 0) (ys := [_]) rfl rfl rfl rfl rfl rfl (by decide) rfl rfl rfl (Sl.of_imm (by simp [Value.cells]) him) rfl (by simp [Value.cells]) (by simp [Value.cells, Value.oneCell']) ?_ ?_ ?_).op
    · unfold maxLen; simp; omega
    · simp; omega
    intro a' c' n' xs' H3 hle3 hn' hxs'
    cbv
    refine hret _ (RetEv.fnR eOk (j := 0) rfl rfl fun H' _ => ⟨a', c', n', xs', rfl, ?_, ?_, rfl⟩)
    · rw [hn', h1, enc_lo hy, h2]; simp; omega
    · rw [hxs', h1, enc_lo hy, h3, hA.wrap, wrap_u8]
      simp [byteV, Value.cells]
  · refine vcIf.yes (by rw [hA1.lt]; simp; omega) ?_
    have hpos2 := enc_pos (y / 128)
    rw [enc_hi hy] at h1 h5
    simp only [List.length_cons] at h5
    cbv
    refine hop1 _ _ _ (EEv.lit eOk rfl rfl rfl rfl rfl rfl (by decide) rfl rfl (by decide) ?_).op
    intro b H2 hle him
    cbv
    refine hop1 _ _ _ (EEv.append eOk (j := 0) (ys := [_]) rfl rfl rfl rfl rfl rfl (by decide) rfl rfl rfl (Sl.of_imm (by simp [Value.cells]) him) rfl (by simp [Value.cells]) (by simp [Value.cells, Value.oneCell']) ?_ ?_ ?_).op
    · unfold maxLen; simp; omega
    · simp; omega
    intro a' c' n' xs' H3 hle3 hn' hxs'
    cbv
    have hrem : add1 .i64 128 (rem1 (Int.ofNat y) (Int.ofNat 128)) = ((y % 128 + 128 : Nat) : Int) := by
      rw [hA1.rem, hA1.add, show (Int.ofNat y).tmod (Int.ofNat 128) = ((y % 128 : Nat) : Int) from rfl]
      rw [show (128 : Int) + ((y % 128 : Nat) : Int) = ((y % 128 + 128 : Nat) : Int) by omega]
      exact IntWalk.i64_in _ (by omega)
    refine hrd _ ⟨(a', c', n', y / 128, xs'), ?_, rfl, ⟨rfl, ?_, trivial⟩, rfl, pre ++ [UInt8.ofNat (y % 128 + 128)], ?_, ?_, ?_, ?_, ?_⟩
    · simp only; omega
    · show some (V.v (.int .i64 (quo1 .i64 (Int.ofNat y) 128))) = some (V.v (.int .i64 ((y / 128 : Nat) : Int)))
      rw [hA1.quo, show (Int.ofNat y).tdiv 128 = ((y / 128 : Nat) : Int) from rfl, IntWalk.i64_in _ (by omega)]
    · simp only [h1]; simp
    · simp only [hn', h2]; simp; omega
    · simp only [hxs', h3, hrem, hA1.wrap, byteV_append]
      rw [show ((y % 128 + 128 : Nat) : Int) = Int.ofNat (y % 128 + 128) from rfl, wrap_u8]
      simp [byteV, Value.cells]
    · simp only; omega
    · simp; omega
end Go.Proofs.Ytdbagbklhchbkaa
