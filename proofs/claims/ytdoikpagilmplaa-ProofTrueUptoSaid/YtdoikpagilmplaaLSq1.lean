/- Spans: what is empty, what two share, what a change names. Conditions: on lengths. -/
import Derived.Test.YtdoikpagilmplaaLHx
import Derived.Test.YtdoikpagilmplaaLFv2
set_option maxRecDepth 100000
set_option maxHeartbeats 8000000
set_option linter.unusedSimpArgs false
set_option linter.unusedVariables false
namespace Go.Proofs.Ytdoikpagilmplaa
open Go Go.Lx
open Go.Sx (vcIf)

def smx (a b : List UInt8) : List UInt8 := if Op.bytesLess a b then b else a
def smn (a b : List UInt8) : List UInt8 := if Op.bytesLess b a then b else a
theorem smn_eq (a b : List UInt8) : (if Op.bytesLess a b || decide (a = b) then a else b) = smn a b := by
  have := bl_gt a b
  unfold smn
  rw [← show (!(Op.bytesLess a b || decide (a = b))) = Op.bytesLess b a from this]
  by_cases h : (Op.bytesLess a b || decide (a = b)) = true <;> simp [h]
theorem gt2 (a c : List UInt8) : (!(Op.bytesLess c a || decide (c = a))) = Op.bytesLess a c := bl_gt c a
def mt (s t : Spn) : Spn := if Op.bytesLess (smx s.lo t.lo) (smn s.hi t.hi) then ⟨smx s.lo t.lo, smn s.hi t.hi⟩ else ⟨[], []⟩
def spn (c : Chg) : Spn := if c.kind = 3 then ⟨c.key, c.val⟩ else ⟨c.key, c.key ++ [0]⟩
def hs (s : Spn) (k : List UInt8) : Bool := !(bl k s.lo) && bl k s.hi

theorem empty_spec (lo hi : List UInt8) : FnL Try.prog 60 [.p (.agg [.str lo, .str hi])] [] fun v own => ∃ b, b = !(Op.bytesLess lo hi) ∧ v = .p (.bool b) ∧ own = [] := by
  refine FnL.flat (R := fun v own => ∃ b, b = !(Op.bytesLess lo hi) ∧ v = .p (.bool b)) ?_ (by rintro _ _ ⟨b, h, rfl⟩; exact ⟨_, _, rfl, .refl _, b, h, rfl, rfl⟩)
  refine fn_of_vc eOk fOk fo60 Try.func60 rfl rfl rfl fun B hB => ?_
  intro add sub mul quo rem band bor bxor bclr shl shr ieq ilt ile seq slt beq bnot orb bcond iwrap iof ssz hA cat sq sl imin imax smin smax len slen u8 hL op hop call hcall code hcode ret hret
  cbv
  refine hret _ (RetEv.ret eOk rfl ⟨_, ?_, rfl⟩)
  show bnot (sl lo hi) = _
  rw [hA.not, hL.sl]
theorem has_spec (lo hi key : List UInt8) : FnL Try.prog 53 [.p (.agg [.str lo, .str hi]), .p (.str key)] [] fun v own => ∃ b, b = hs ⟨lo, hi⟩ key ∧ v = .p (.bool b) ∧ own = [] := by
  obtain ⟨R, hR⟩ : ∃ R, R = hs ⟨lo, hi⟩ key := ⟨_, rfl⟩
  rw [← hR]
  unfold hs at hR
  simp only at hR
  refine FnL.flat (R := fun v own => ∃ b, b = R ∧ v = .p (.bool b)) ?_ (by rintro _ _ ⟨b, h, rfl⟩; exact ⟨_, _, rfl, .refl _, b, h, rfl, rfl⟩)
  refine fn_of_vc eOk fOk fo53 Try.func53 rfl rfl rfl fun B hB => ?_
  intro add sub mul quo rem band bor bxor bclr shl shr ieq ilt ile seq slt beq bnot orb bcond iwrap iof ssz hA cat sq sl imin imax smin smax len slen u8 hL op hop call hcall code hcode ret hret
  cbv
  by_cases h : Op.bytesLess key lo = true
  · have hf : R = false := by rw [hR, h]; rfl
    refine vcIf.no (by rw [hA.not, hL.sl, h]; rfl) ?_
    cbv
    exact hret _ (RetEv.ret eOk rfl ⟨false, hf.symm, rfl⟩)
  · have h := Bool.eq_false_iff.2 h
    have hf : R = Op.bytesLess key hi := by rw [hR, h]; rfl
    refine vcIf.yes (by rw [hA.not, hL.sl, h]; rfl) ?_
    cbv
    refine hret _ (RetEv.ret eOk rfl ⟨_, ?_, rfl⟩)
    show bcond true (sl key hi) false = _
    rw [hA.cond, hL.sl, hf]; rfl
theorem next_spec (key : List UInt8) (hk : key.length < 9223372036854775807) : FnL Try.prog 71 [.p (.str key)] [] fun v own => ∃ k, k = key ++ [0] ∧ v = .p (.str k) ∧ own = [] := by
  refine FnL.flat (R := fun v own => ∃ k, k = key ++ [0] ∧ v = .p (.str k)) ?_ (by rintro _ _ ⟨b, h, rfl⟩; exact ⟨_, _, rfl, .refl _, b, h, rfl, rfl⟩)
  obtain ⟨n, hn⟩ : ∃ n, n = key.length := ⟨_, rfl⟩
  have hn1 : n + 1 ≤ 9223372036854775807 := by omega
  refine fn_of_vc eOk fOk fo71 Try.func71 rfl rfl rfl fun B hB => ?_
  intro add sub mul quo rem band bor bxor bclr shl shr ieq ilt ile seq slt beq bnot orb bcond iwrap iof ssz hA cat sq sl imin imax smin smax len slen u8 hL op hop call hcall code hcode ret hret
  cbv
  refine ⟨(), by rw [← hn]; exact hn1, ?_⟩
  cbv
  refine hret _ (RetEv.ret eOk rfl ⟨_, ?_, rfl⟩)
  exact hL.cat _ _

theorem meet_spec (a b c d : List UInt8) : FnL Try.prog 61 [.p (.agg [.str a, .str b]), .p (.agg [.str c, .str d])] [] fun v own => ∃ m, m = mt ⟨a, b⟩ ⟨c, d⟩ ∧ v = .p (.agg [.str m.lo, .str m.hi]) ∧ own = [] := by
  obtain ⟨⟨lo, hi⟩, hm⟩ : ∃ m, m = mt ⟨a, b⟩ ⟨c, d⟩ := ⟨_, rfl⟩
  rw [← hm]
  unfold mt at hm
  simp only at hm
  have h1 : Op.bytesLess (smx a c) (smn b d) = true → lo = smx a c ∧ hi = smn b d := fun h => by rw [if_pos h] at hm; exact Spn.mk.inj hm
  have h2 : ¬ Op.bytesLess (smx a c) (smn b d) = true → lo = [] ∧ hi = [] := fun h => by rw [if_neg h] at hm; exact Spn.mk.inj hm
  clear hm
  refine FnL.flat (R := fun v own => v = .p (.agg [.str lo, .str hi])) ?_ (by rintro _ _ rfl; exact ⟨_, _, rfl, .refl _, ⟨lo, hi⟩, rfl, rfl, rfl⟩)
  refine fn_of_vc eOk fOk fo61 Try.func61 rfl rfl rfl fun B hB => ?_
  intro add sub mul quo rem band bor bxor bclr shl shr ieq ilt ile seq slt beq bnot orb bcond iwrap iof ssz hA cat sq sl imin imax smin smax len slen u8 hL op hop call hcall code hcode ret hret
  have e1 : smax a c = smx a c := hL.smax a c
  have e2 : smin b d = smn b d := (hL.smin b d).trans (smn_eq b d)
  cbv
  refine hcall _ _ _ _ _ (CallEv.same (empty_spec (smax a c) (smin b d)) rfl ?_)
  rintro _ _ ⟨t, ht, rfl, rfl⟩
  rw [e1, e2] at ht
  cbv
  by_cases htt : t = true
  · obtain ⟨g1, g2⟩ := h2 (by rw [htt] at ht; intro c; rw [c] at ht; cases ht)
    refine vcIf.yes htt ?_
    cbv
    exact hret _ (RetEv.ret eOk rfl (by rw [g1, g2]; rfl))
  · have htt := Bool.eq_false_iff.2 htt
    obtain ⟨g1, g2⟩ := h1 (by rw [htt] at ht; simpa using ht.symm)
    refine vcIf.no htt ?_
    cbv
    exact hret _ (RetEv.ret eOk rfl (by rw [g1, g2, ← e1, ← e2]; rfl))
theorem rmeet_spec (a b c d : List UInt8) : FnL Try.prog 42 [.p (.agg [.str a, .str b]), .p (.agg [.str c, .str d])] [] fun v own => ∃ m, m = mt ⟨a, b⟩ ⟨c, d⟩ ∧ v = .p (.agg [.str m.lo, .str m.hi]) ∧ own = [] := by
  obtain ⟨⟨lo, hi⟩, hm⟩ : ∃ m, m = mt ⟨a, b⟩ ⟨c, d⟩ := ⟨_, rfl⟩
  rw [← hm]
  unfold mt at hm
  simp only at hm
  refine FnL.flat (R := fun v own => v = .p (.agg [.str lo, .str hi])) ?_ (by rintro _ _ rfl; exact ⟨_, _, rfl, .refl _, ⟨lo, hi⟩, rfl, rfl, rfl⟩)
  refine fn_of_vc eOk fOk fo42 Try.func42 rfl rfl rfl fun B hB => ?_
  by_cases h1 : Op.bytesLess a c = true
  · have q1 : smx a c = c := if_pos h1
    rw [q1] at hm
    by_cases h2 : Op.bytesLess d b = true
    · have q2 : smn b d = d := if_pos h2
      rw [q2] at hm
      intro add sub mul quo rem band bor bxor bclr shl shr ieq ilt ile seq slt beq bnot orb bcond iwrap iof ssz hA cat sq sl imin imax smin smax len slen u8 hL op hop call hcall code hcode ret hret
      cbv
      refine vcIf.yes (by rw [hA.not, hA.orb, hL.sl, hL.sq, gt2]; exact h1) ?_
      cbv
      refine vcIf.yes (by rw [hL.sl]; exact h2) ?_
      cbv
      by_cases h3 : Op.bytesLess c d = true
      · rw [if_pos h3] at hm
        obtain ⟨g1, g2⟩ := Spn.mk.inj hm
        refine vcIf.no (by rw [hA.not, hL.sl, h3]; rfl) ?_
        cbv
        exact hret _ (RetEv.ret eOk rfl (by rw [g1, g2]; rfl))
      · rw [if_neg h3] at hm
        obtain ⟨g1, g2⟩ := Spn.mk.inj hm
        have h3 := Bool.eq_false_iff.2 h3
        refine vcIf.yes (by rw [hA.not, hL.sl, h3]; rfl) ?_
        cbv
        exact hret _ (RetEv.ret eOk rfl (by rw [g1, g2]; rfl))
    · have q2 : smn b d = b := if_neg h2
      rw [q2] at hm
      have h2 := Bool.eq_false_iff.2 h2
      intro add sub mul quo rem band bor bxor bclr shl shr ieq ilt ile seq slt beq bnot orb bcond iwrap iof ssz hA cat sq sl imin imax smin smax len slen u8 hL op hop call hcall code hcode ret hret
      cbv
      refine vcIf.yes (by rw [hA.not, hA.orb, hL.sl, hL.sq, gt2]; exact h1) ?_
      cbv
      refine vcIf.no (by rw [hL.sl]; exact h2) ?_
      cbv
      by_cases h3 : Op.bytesLess c b = true
      · rw [if_pos h3] at hm
        obtain ⟨g1, g2⟩ := Spn.mk.inj hm
        refine vcIf.no (by rw [hA.not, hL.sl, h3]; rfl) ?_
        cbv
        exact hret _ (RetEv.ret eOk rfl (by rw [g1, g2]; rfl))
      · rw [if_neg h3] at hm
        obtain ⟨g1, g2⟩ := Spn.mk.inj hm
        have h3 := Bool.eq_false_iff.2 h3
        refine vcIf.yes (by rw [hA.not, hL.sl, h3]; rfl) ?_
        cbv
        exact hret _ (RetEv.ret eOk rfl (by rw [g1, g2]; rfl))
  · have q1 : smx a c = a := if_neg h1
    rw [q1] at hm
    have h1 := Bool.eq_false_iff.2 h1
    by_cases h2 : Op.bytesLess d b = true
    · have q2 : smn b d = d := if_pos h2
      rw [q2] at hm
      intro add sub mul quo rem band bor bxor bclr shl shr ieq ilt ile seq slt beq bnot orb bcond iwrap iof ssz hA cat sq sl imin imax smin smax len slen u8 hL op hop call hcall code hcode ret hret
      cbv
      refine vcIf.no (by rw [hA.not, hA.orb, hL.sl, hL.sq, gt2]; exact h1) ?_
      cbv
      refine vcIf.yes (by rw [hL.sl]; exact h2) ?_
      cbv
      by_cases h3 : Op.bytesLess a d = true
      · rw [if_pos h3] at hm
        obtain ⟨g1, g2⟩ := Spn.mk.inj hm
        refine vcIf.no (by rw [hA.not, hL.sl, h3]; rfl) ?_
        cbv
        exact hret _ (RetEv.ret eOk rfl (by rw [g1, g2]; rfl))
      · rw [if_neg h3] at hm
        obtain ⟨g1, g2⟩ := Spn.mk.inj hm
        have h3 := Bool.eq_false_iff.2 h3
        refine vcIf.yes (by rw [hA.not, hL.sl, h3]; rfl) ?_
        cbv
        exact hret _ (RetEv.ret eOk rfl (by rw [g1, g2]; rfl))
    · have q2 : smn b d = b := if_neg h2
      rw [q2] at hm
      have h2 := Bool.eq_false_iff.2 h2
      intro add sub mul quo rem band bor bxor bclr shl shr ieq ilt ile seq slt beq bnot orb bcond iwrap iof ssz hA cat sq sl imin imax smin smax len slen u8 hL op hop call hcall code hcode ret hret
      cbv
      refine vcIf.no (by rw [hA.not, hA.orb, hL.sl, hL.sq, gt2]; exact h1) ?_
      cbv
      refine vcIf.no (by rw [hL.sl]; exact h2) ?_
      cbv
      by_cases h3 : Op.bytesLess a b = true
      · rw [if_pos h3] at hm
        obtain ⟨g1, g2⟩ := Spn.mk.inj hm
        refine vcIf.no (by rw [hA.not, hL.sl, h3]; rfl) ?_
        cbv
        exact hret _ (RetEv.ret eOk rfl (by rw [g1, g2]; rfl))
      · rw [if_neg h3] at hm
        obtain ⟨g1, g2⟩ := Spn.mk.inj hm
        have h3 := Bool.eq_false_iff.2 h3
        refine vcIf.yes (by rw [hA.not, hL.sl, h3]; rfl) ?_
        cbv
        exact hret _ (RetEv.ret eOk rfl (by rw [g1, g2]; rfl))
end Go.Proofs.Ytdoikpagilmplaa
