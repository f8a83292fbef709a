/- What package code's Text does, and the document's Text and PutText. A condition on sizes. -/
import Derived.Test.YtdbagbklhchbkaaCode4
import Derived.Test.YtdbagbklhchbkaaSx14
set_option maxRecDepth 100000
set_option maxHeartbeats 4000000
set_option linter.unusedSimpArgs false
set_option linter.unusedVariables false
namespace Go.Proofs.Ytdbagbklhchbkaa
open Go Go.Sx

/-- The text that bytes begin with. -/
def textOf (l : List UInt8) : List UInt8 × Nat × Nat :=
  if (dec 0 0 l).2.2 ≠ 0 then ([], 0, (dec 0 0 l).2.2) else if 65536 < (dec 0 0 l).1 then ([], 0, 6)
  else if l.length - (dec 0 0 l).2.1 < (dec 0 0 l).1 then ([], 0, 3) else ((l.drop (dec 0 0 l).2.1).take (dec 0 0 l).1, (dec 0 0 l).2.1 + (dec 0 0 l).1, 0)

def textR (r : List UInt8 × Nat × Nat) (v : Value) (_ : Hp) : Prop := ∃ (t : List UInt8) (u e : Nat), (t, u, e) = r ∧ v = .tuple #[.string ⟨t.toArray⟩, .int .i64 u, .int .i64 e]

theorem text_spec {H : Hp} (hb : H.Bd) {a : Option Addr} {n c : Nat} {l : List UInt8} (S : Bs H a n c l) (hn : n + 65556 ≤ 140737488355328) :
    FnV Try.prog 32 [.slice a n c] H (textR (textOf l)) := by
  have hlen := Bs.length S
  refine fn_of_vc eOk fOk Try.func32 rfl rfl rfl hb ?_
  intro add sub mul quo rem band bor bxor bclr shl shr ieq ilt ile seq slt beq bnot orb bcond iwrap iof ssz hA op hop code hcode ret hret
  cbv
  refine hop _ _ _ (EEv.callF fo27 rfl rfl (fun H1 hl1 hb1 => num_spec hb1 (S.mono hl1)) ?_).op
  rintro v H2 hl2 hb2 ⟨x, u, e, hd, rfl⟩
  have hlH2 : H.Le H2 := hl2
  have hul := dec_used l 0 0
  have hxl := dec_lt l 0 0 (by omega) (by simp)
  have ht : textOf l = if e ≠ 0 then ([], 0, e) else if 65536 < x then ([], 0, 6) else if n - u < x then ([], 0, 3) else ((l.drop u).take x, u + x, 0) := by
    unfold textOf; rw [← hd, hlen]
  rw [← hd] at hul hxl
  simp only at hul hxl
  cbv
  by_cases he : e = 0
  · have hul := hul he
    rw [if_neg (by omega)] at ht
    refine vcIf.no (by simp [hA.not, hA.eq, he]) ?_
    cbv
    by_cases hx : 65536 < x
    · rw [if_pos hx] at ht
      refine vcIf.yes (by rw [hA.lt]; simp only [Int.ofNat_eq_natCast, decide_eq_true_eq]; omega) ?_
      cbv
      exact hret _ (RetEv.fn eOk rfl fun H' _ => ⟨[], 0, 6, ht.symm, rfl⟩)
    · rw [if_neg hx] at ht
      refine vcIf.no (by rw [hA.lt]; simp only [Int.ofNat_eq_natCast, decide_eq_false_iff_not]; omega) ?_
      cbv
      have hsub : sub .i64 (iof n) (Int.ofNat u) = ((n - u : Nat) : Int) := by
        rw [hA.sub, hA.ofNat]; exact i64_nat (by simp only [Int.ofNat_eq_natCast]; omega) (by omega)
      by_cases hs : n - u < x
      · rw [if_pos hs] at ht
        refine vcIf.yes (by rw [hA.lt, hsub]; simp only [Int.ofNat_eq_natCast, decide_eq_true_eq]; omega) ?_
        cbv
        exact hret _ (RetEv.fn eOk rfl fun H' _ => ⟨[], 0, 3, ht.symm, rfl⟩)
      · rw [if_neg hs] at ht
        refine vcIf.no (by rw [hA.lt, hsub]; simp only [Int.ofNat_eq_natCast, decide_eq_false_iff_not]; omega) ?_
        have hadd : add .i64 (Int.ofNat u) (Int.ofNat x) = ((u + x : Nat) : Int) := by
          rw [hA.add]; exact i64_nat (by simp) (by omega)
        cbv
        refine hop _ _ _ (PEv.slice eOk rfl rfl rfl rfl rfl (S.mono hlH2) (l := u) (h := u + x) (.at rfl rfl) (.at rfl hadd) (by omega) (by omega) ?_).op
        intro a5 n5 c5 hn5 S5
        obtain ⟨l5, hl5, S5⟩ : ∃ l5, l5 = (l.drop u).take x ∧ Bs H2 a5 n5 c5 l5 := ⟨_, rfl, by
          rw [show u + x - u = x by omega] at S5
          have e : byteV ((l.drop u).take x) = ((byteV l).drop u).take x := by simp [byteV, List.map_take, List.map_drop]
          unfold Bs; rw [e]; exact S5⟩
        cbv
        refine hop _ _ _ (PEv.str eOk rfl rfl rfl rfl rfl rfl rfl rfl S5.sl (Bs.length S5) ?_).op
        cbv
        exact hret _ (RetEv.fn eOk rfl fun H' _ => ⟨l5, u + x, 0, by rw [ht, hl5], by
          show Value.tuple #[.string ⟨l5.toArray⟩, .int .i64 (add .i64 (Int.ofNat u) (Int.ofNat x)), .int .i64 0] = _
          rw [hadd]; rfl⟩)
  · rw [if_pos he] at ht
    refine vcIf.yes (by simp [hA.not, hA.eq, he]) ?_
    cbv
    exact hret _ (RetEv.fn eOk rfl fun H' _ => ⟨[], 0, e, ht.symm, rfl⟩)

theorem rtext_spec {H : Hp} (hb : H.Bd) {a : Option Addr} {n c : Nat} {l : List UInt8} (S : Bs H a n c l) (hn : n + 65556 ≤ 140737488355328) :
    FnV Try.prog 33 [.slice a n c] H (textR (textOf l)) := by
  have hlen := Bs.length S
  refine fn_of_vc eOk fOk Try.func33 rfl rfl rfl hb ?_
  intro add sub mul quo rem band bor bxor bclr shl shr ieq ilt ile seq slt beq bnot orb bcond iwrap iof ssz hA op hop code hcode ret hret
  cbv
  refine hop _ _ _ (EEv.callF fo28 rfl rfl (fun H1 hl1 hb1 => rnum_spec hb1 (S.mono hl1)) ?_).op
  rintro v H2 hl2 hb2 ⟨x, u, e, hd, rfl⟩
  have hlH2 : H.Le H2 := hl2
  have hul := dec_used l 0 0
  have hxl := dec_lt l 0 0 (by omega) (by simp)
  have ht : textOf l = if e ≠ 0 then ([], 0, e) else if 65536 < x then ([], 0, 6) else if n - u < x then ([], 0, 3) else ((l.drop u).take x, u + x, 0) := by
    unfold textOf; rw [← hd, hlen]
  rw [← hd] at hul hxl
  simp only at hul hxl
  cbv
  by_cases he : e = 0
  · have hul := hul he
    rw [if_neg (by omega)] at ht
    refine vcIf.no (by simp [hA.not, hA.eq, he]) ?_
    cbv
    by_cases hx : 65536 < x
    · rw [if_pos hx] at ht
      refine vcIf.yes (by rw [hA.lt]; simp only [Int.ofNat_eq_natCast, decide_eq_true_eq]; omega) ?_
      cbv
      exact hret _ (RetEv.fn eOk rfl fun H' _ => ⟨[], 0, 6, ht.symm, rfl⟩)
    · rw [if_neg hx] at ht
      refine vcIf.no (by rw [hA.lt]; simp only [Int.ofNat_eq_natCast, decide_eq_false_iff_not]; omega) ?_
      cbv
      have hsub : sub .i64 (iof n) (Int.ofNat u) = ((n - u : Nat) : Int) := by
        rw [hA.sub, hA.ofNat]; exact i64_nat (by simp only [Int.ofNat_eq_natCast]; omega) (by omega)
      by_cases hs : n - u < x
      · rw [if_pos hs] at ht
        refine vcIf.yes (by rw [hA.lt, hsub]; simp only [Int.ofNat_eq_natCast, decide_eq_true_eq]; omega) ?_
        cbv
        exact hret _ (RetEv.fn eOk rfl fun H' _ => ⟨[], 0, 3, ht.symm, rfl⟩)
      · rw [if_neg hs] at ht
        refine vcIf.no (by rw [hA.lt, hsub]; simp only [Int.ofNat_eq_natCast, decide_eq_false_iff_not]; omega) ?_
        have hadd : add .i64 (Int.ofNat u) (Int.ofNat x) = ((u + x : Nat) : Int) := by
          rw [hA.add]; exact i64_nat (by simp) (by omega)
        cbv
        refine hop _ _ _ (PEv.slice eOk rfl rfl rfl rfl rfl (S.mono hlH2) (l := u) (h := u + x) (.at rfl rfl) (.at rfl hadd) (by omega) (by omega) ?_).op
        intro a5 n5 c5 hn5 S5
        obtain ⟨l5, hl5, S5⟩ : ∃ l5, l5 = (l.drop u).take x ∧ Bs H2 a5 n5 c5 l5 := ⟨_, rfl, by
          rw [show u + x - u = x by omega] at S5
          have e : byteV ((l.drop u).take x) = ((byteV l).drop u).take x := by simp [byteV, List.map_take, List.map_drop]
          unfold Bs; rw [e]; exact S5⟩
        cbv
        refine hop _ _ _ (PEv.str eOk rfl rfl rfl rfl rfl rfl rfl rfl S5.sl (Bs.length S5) ?_).op
        cbv
        exact hret _ (RetEv.fn eOk rfl fun H' _ => ⟨l5, u + x, 0, by rw [ht, hl5], by
          show Value.tuple #[.string ⟨l5.toArray⟩, .int .i64 (add .i64 (Int.ofNat u) (Int.ofNat x)), .int .i64 0] = _
          rw [hadd]; rfl⟩)
  · rw [if_pos he] at ht
    refine vcIf.yes (by simp [hA.not, hA.eq, he]) ?_
    cbv
    exact hret _ (RetEv.fn eOk rfl fun H' _ => ⟨[], 0, e, ht.symm, rfl⟩)

theorem rputText_spec {H : Hp} (hb : H.Bd) {v : Value} {n : Nat} {xs : List Value} (ts : List UInt8) (ht : ts.length ≤ 65536) (hn : n + 65556 ≤ 140737488355328) :
    FnR Try.prog 34 [v, .string ⟨ts.toArray⟩] H (Row 5 1 v n xs) (putR 5 n xs (enc ts.length ++ ts)) := by
  refine fnR_of_vc eOk fOk Try.func34 rfl rfl rfl hb (Row.loc _ _ _ _ _) fun F hr => ?_
  intro add sub mul quo rem band bor bxor bclr shl shr ieq ilt ile seq slt beq bnot orb bcond iwrap iof ssz hA op hop code hcode ret hret
  have hs : iof (ssz ⟨ts.toArray⟩) = (ts.length : Int) := by rw [hA.ofNat, hA.ssize]; rfl
  have hlen : (enc ts.length).length ≤ 9 := enc_len9 (by omega)
  have hlt : ts.length < 9223372036854775808 := by omega
  have hn2 : n + 10 ≤ 140737488355328 := by omega
  cbv
  refine hop _ _ _ (EEv.callFR fo30 rfl rfl 0 rfl (fun H3 hl3 hb3 => by rw [hs]; exact rput_spec hb3 ts.length hlt hn2) ?_).op
  rintro v φ H4 hl4 hb4 ⟨a4, c4, n4, xs4, rfl, hn4, hx4, rfl⟩
  cbv
  refine hop _ _ _ (EEv.appendS eOk (j := 0) rfl rfl rfl rfl rfl rfl rfl rfl rfl rfl rfl rfl rfl (by omega) ?_).op
  intro a6 c6 n6 xs6 H6 hl6 hn6 hx6
  cbv
  exact hret _ (RetEv.fnR eOk (j := 0) rfl rfl fun H' _ => ⟨a6, c6, n6, xs6, rfl, by rw [hn6, hn4, List.length_append]; omega, by rw [hx6, hx4, byteV_append, List.append_assoc], rfl⟩)
end Go.Proofs.Ytdbagbklhchbkaa
