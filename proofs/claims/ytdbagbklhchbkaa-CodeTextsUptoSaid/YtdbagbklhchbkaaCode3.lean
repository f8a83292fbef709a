/- What package code's PutText does, and the simplest facts that each law of layer 3 asks. -/
import Derived.Test.YtdbagbklhchbkaaCode2
import Derived.Test.YtdbagbklhchbkaaSx13
set_option maxRecDepth 100000
set_option maxHeartbeats 4000000
set_option linter.unusedSimpArgs false
set_option linter.unusedVariables false
namespace Go.Proofs.Ytdbagbklhchbkaa
open Go Go.Sx

def putTextR (l ts : List UInt8) (v : Value) (H' : Hp) : Prop :=
  if 65536 < ts.length then v = .tuple #[.slice none 0 0, .int .i64 6] else ∃ a' n' c', v = .tuple #[.slice a' n' c', .int .i64 0] ∧ Bs H' a' n' c' (l ++ enc ts.length ++ ts)

theorem putText_spec {H : Hp} (hb : H.Bd) {a : Option Addr} {n c : Nat} {l : List UInt8} (S : Bs H a n c l) (hn : n + 65556 ≤ 140737488355328) (ts : List UInt8) :
    FnV Try.prog 31 [.slice a n c, .string ⟨ts.toArray⟩] H (putTextR l ts) := by
  refine fn_of_vc eOk fOk Try.func31 rfl rfl rfl hb ?_
  intro add sub mul quo rem band bor bxor bclr shl shr ieq ilt ile seq slt beq bnot orb bcond iwrap iof ssz hA op hop code hcode ret hret
  have hs : iof (ssz ⟨ts.toArray⟩) = (ts.length : Int) := by rw [hA.ofNat, hA.ssize]; rfl
  by_cases h0 : 65536 < ts.length
  · cbv
    refine vcIf.yes (by rw [hA.lt, hs]; exact decide_eq_true (show (65536 : Int) < (ts.length : Int) from by omega)) ?_
    cbv
    refine hret _ (RetEv.fn eOk rfl fun H' _ => ?_)
    unfold putTextR; rw [if_pos h0]; rfl
  · cbv
    refine vcIf.no (by rw [hA.lt, hs]; exact decide_eq_false (show ¬ (65536 : Int) < (ts.length : Int) from by omega)) ?_
    cbv
    refine hop _ _ _ (EEv.callFN fo42 rfl rfl (fun H1 hl1 hb1 => clone_spec hb1 (S.mono hl1) (by omega)) ?_).op
    rintro v φ H2 hl2 hb2 ⟨a2, c2, xs2, rfl, hx2, rfl⟩
    cbv
    refine hop _ _ _ (EEv.callFR fo41 rfl rfl 0 rfl (fun H3 hl3 hb3 => by rw [hs]; exact put_spec hb3 ts.length (by omega) (by omega)) ?_).op
    rintro v φ H4 hl4 hb4 ⟨a4, c4, n4, xs4, rfl, hn4, hx4, rfl⟩
    cbv
    have hlen : (enc ts.length).length ≤ 9 := enc_len9 (by omega)
    refine hop _ _ _ (EEv.appendS eOk (j := 0) rfl rfl rfl rfl rfl rfl rfl rfl rfl rfl rfl rfl rfl (by omega) ?_).op
    intro a6 c6 n6 xs6 H6 hl6 hn6 hx6
    cbv
    have hfin : xs6 = (byteV (l ++ enc ts.length ++ ts)).flatMap fun y => y.cells.toList := by rw [byteV_flat, hx6, hx4, hx2, byteV_append, byteV_append]
    refine hret _ (RetEv.conv (Conv.freeze _ _ 0 (ys := byteV (l ++ enc ts.length ++ ts)) (by rw [← hfin]; rfl) byteV_size (by decide) (fun _ c => c)) ?_)
    rintro own' H7 ⟨rfl, hl7, a7, c7, h7, S7, h8, h9, h10⟩
    cases h7
    refine RetEv.fn eOk rfl fun H' hl' => ?_
    unfold putTextR
    rw [if_neg h0]
    exact ⟨_, _, _, rfl, S7.mono hl', h8, h9, h10⟩

/-- The simplest facts. -/
theorem awake_spec {H : Hp} (hb : H.Bd) : FnV Try.prog 29 [] H (fun v _ => v = .bool true) := by
  refine fn_of_vc eOk fOk Try.func29 rfl rfl rfl hb ?_
  intro add sub mul quo rem band bor bxor bclr shl shr ieq ilt ile seq slt beq bnot orb bcond iwrap iof ssz hA op hop code hcode ret hret
  cbv
  refine hop _ _ _ (EEv.callF fo26 rfl rfl (fun H1 hl1 hb1 => putNum_spec (l := []) hb1 SlV.none (by decide) 300 (by decide)) ?_).op
  rintro v H2 hl2 hb2 hv
  obtain ⟨a2, n2, c2, rfl, S2⟩ : ∃ a' n' c', v = .tuple #[.slice a' n' c', .int .i64 0] ∧ Bs H2 a' n' c' [172, 2] := by
    unfold putNumR at hv; rw [if_neg (by decide), show (300 : Int).toNat = 300 from rfl, enc_hi (by decide), enc_lo (by decide)] at hv; exact hv
  have hn2 : n2 = 2 := (Bs.length S2).symm
  cbv
  refine hop _ _ _ (EEv.callF fo27 rfl rfl (fun H1 hl1 hb1 => num_spec hb1 (S2.mono hl1)) ?_).op
  rintro v H3 hl3 hb3 ⟨x, u, e, hd, rfl⟩
  obtain ⟨rfl, rfl, rfl⟩ : x = 300 ∧ u = 2 ∧ e = 0 := by
    have : (x, u, e) = (300, 2, 0) := hd
    simpa using this
  cbv
  refine hop _ _ _ (EEv.callF fo31 rfl rfl (fun H1 hl1 hb1 => putText_spec hb1 (S2.mono (hl3.trans hl1)) (by omega) [97, 98]) ?_).op
  rintro v H4 hl4 hb4 hv
  obtain ⟨a4, n4, c4, rfl, S4⟩ : ∃ a' n' c', v = .tuple #[.slice a' n' c', .int .i64 0] ∧ Bs H4 a' n' c' [172, 2, 2, 97, 98] := by
    unfold putTextR at hv; rw [if_neg (by decide), show ([97, 98] : List UInt8).length = 2 from rfl, enc_lo (by decide)] at hv; exact hv
  cbv
  refine vcIf.yes (by rw [hA.eq]; rfl) ?_
  cbv
  refine vcIf.yes (by rw [hA.cond, hA.eq]; rfl) ?_
  cbv
  refine vcIf.yes (by rw [hA.cond, hA.eq]; rfl) ?_
  cbv
  refine vcIf.yes (by rw [hA.cond, hA.eq]; rfl) ?_
  cbv
  refine vcIf.yes (by rw [hA.cond, hA.eq]; rfl) ?_
  cbv
  refine hop _ _ _ (PEv.str eOk rfl rfl rfl rfl rfl rfl rfl rfl S4.sl (Bs.length S4) ?_).op
  cbv
  exact hret _ (RetEv.fn eOk rfl fun H' _ => by
    show Value.bool (bcond true (seq ⟨#[172, 2, 2, 97, 98]⟩ ⟨#[172, 2, 2, 97, 98]⟩) false) = Value.bool true
    rw [hA.cond, hA.seq, cond_true, beq_self_eq_true])
end Go.Proofs.Ytdbagbklhchbkaa
