/- Readers: the package's and the document's. Conditions: on sizes. -/
import Derived.Test.YtnigonhkfpnodaaLCode5
import Derived.Test.YtnigonhkfpnodaaLCode3
set_option maxRecDepth 100000
set_option maxHeartbeats 4000000
set_option linter.unusedSimpArgs false
set_option linter.unusedVariables false
namespace Go.Proofs.Ytnigonhkfpnodaa
open Go Go.Lx
open Go.Sx (vcIf)

theorem rdNumV (l : List UInt8) (e : Nat) (ys : List PV) (hys : ys = bP l) :
    FnL Try.prog 75 [.own 0 0] [rdSt ys e] fun z own => ∃ (n : Nat) (l' : List UInt8) (e' : Nat) (zs : List PV), (n, l', e') = rdN l e ∧ zs = bP l' ∧ z = .p (.int .i64 (n : Int)) ∧ own = [rdSt zs e'] := by subst hys; exact rdNum_spec l e
theorem rdNumsV (l : List UInt8) (e : Nat) (k : Nat) (hk : k ≤ 4096) (ys : List PV) (hys : ys = bP l) :
    FnL Try.prog 110 [.own 0 0, .p (.int .i64 (k : Int))] [rdSt ys e] fun z own => ∃ (ns : List Int) (l' : List UInt8) (e' : Nat) (us zs : List PV), (ns, l', e') = rdNs k l e ∧ us = bP l' ∧ zs = iP ns ∧ z = .p (.sl zs) ∧ own = [rdSt us e'] := by
  subst hys
  refine (rdNums_spec l e k hk).less ?_
  rintro _ _ ⟨ns, l', e', us, zs, h1, h2, h3, rfl, rfl⟩
  exact ⟨_, [rdSt us e'], [.dead], rfl, .refl _, rfl, rfl, Nat.le_refl _, ns, l', e', us, zs, h1, h2, h3, rfl, rfl⟩
/-- The next text. -/
def rdT (l : List UInt8) (e : Nat) : List UInt8 × List UInt8 × Nat := if e ≠ 0 then ([], l, e) else ((decT l).1, l.drop (decT l).2.1, (decT l).2.2)
theorem decT_used (l : List UInt8) : (decT l).2.1 ≤ l.length := by
  have hus := dec_used l 0 0
  unfold decT
  obtain ⟨⟨x, u, e⟩, hd⟩ : ∃ r, r = dec 0 0 l := ⟨_, rfl⟩
  rw [← hd] at hus ⊢
  simp only at hus ⊢
  split
  · exact Nat.zero_le _
  split
  · exact Nat.zero_le _
  split
  · exact Nat.zero_le _
  · rename_i h1 h2 h3
    have := hus (by simpa using h1)
    simp only; omega
theorem rdText_spec (l : List UInt8) (hl : l.length < 9223372036854775807) (e : Nat) (ys : List PV) (hys : ys = bP l) :
    FnL Try.prog 81 [.own 0 0] [rdSt ys e] fun z own => ∃ (s l' : List UInt8) (e' : Nat) (zs : List PV), (s, l', e') = rdT l e ∧ zs = bP l' ∧ z = .p (.str s) ∧ own = [rdSt zs e'] := by
  have htx := text_spec l hl
  have hus := decT_used l
  have hyl : ys.length = l.length := by rw [hys, bP_length]
  rw [← hys] at htx
  refine fn_of_vc eOk fOk fo81 Try.func81 rfl rfl rfl fun B hB => ?_
  intro add sub mul quo rem band bor bxor bclr shl shr ieq ilt ile seq slt beq bnot orb bcond iwrap iof ssz hA cat sq sl imin imax smin smax len slen u8 hL op hop call hcall code hcode ret hret
  cbv
  by_cases he : e = 0
  · subst he
    repeat (first | (refine vcIf.yes ?_ ?_; (focus (simp [hA.not, hA.eq, hA.lt, hA.le, hA.cond, hA.beq, hA.orb, hL.len, hL.slen, hL.sq]; done)); cbv) | (refine vcIf.no ?_ ?_; (focus (simp [hA.not, hA.eq, hA.lt, hA.le, hA.cond, hA.beq, hA.orb, hL.len, hL.slen, hL.sq]; done)); cbv) | fail)
    refine hcall _ _ _ _ _ (CallEv.same htx rfl ?_)
    rintro _ _ ⟨s, u, e', hd, rfl, rfl⟩
    rw [← hd] at hus
    simp only at hus
    cbv
    refine ⟨u, ys.length, ys.length, rfl, rfl, rfl, by omega, Nat.le_refl _, Nat.le_refl _, fun y hy => ?_, ?_⟩
    · rw [hys] at hy; exact (bP_wf l y hy).1
    intro zs hz
    cbv
    refine hret _ (RetEv.ret eOk rfl ⟨s, l.drop u, e', zs, ?_, ?_, rfl, rfl⟩)
    · unfold rdT; rw [if_neg (by simp), ← hd]
    · rw [hz, hys, bP_drop, List.take_of_length_le (by simp [bP_length])]
  · refine vcIf.yes (by rw [hA.not, hA.eq]; simp; omega) ?_
    cbv
    refine hret _ (RetEv.ret eOk rfl ⟨[], l, e, ys, ?_, hys, rfl, rfl⟩)
    unfold rdT; rw [if_pos he]
/-- The next number, which is how many there are. -/
def rdC (l : List UInt8) (e most : Nat) : Nat × List UInt8 × Nat := if most < (rdN l e).1 then (0, (rdN l e).2.1, 2) else rdN l e
theorem rdCount_spec (l : List UInt8) (e : Nat) (ys : List PV) (hys : ys = bP l) (most : Nat) :
    FnL Try.prog 80 [.own 0 0, .p (.int .i64 (most : Int))] [rdSt ys e] fun z own => ∃ (n : Nat) (l' : List UInt8) (e' : Nat) (zs : List PV), (n, l', e') = rdC l e most ∧ zs = bP l' ∧ z = .p (.int .i64 (n : Int)) ∧ own = [rdSt zs e'] := by
  have hn := rdNumV l e ys hys
  refine fn_of_vc eOk fOk fo80 Try.func80 rfl rfl rfl fun B hB => ?_
  intro add sub mul quo rem band bor bxor bclr shl shr ieq ilt ile seq slt beq bnot orb bcond iwrap iof ssz hA cat sq sl imin imax smin smax len slen u8 hL op hop call hcall code hcode ret hret
  cbv
  refine hcall _ _ _ _ _ (CallEv.lend [0] hn rfl (.cons (.own 0 0 0 rfl) .nil) ⟨⟨_, rfl, .st _ _ _ (.cons (.p _) (.cons (.p _) .nil))⟩, trivial⟩ ?_)
  rintro _ _ ⟨n, l', e', zs, hd, hzs, rfl, rfl⟩
  cbv
  by_cases h : most < n
  · refine vcIf.yes (by rw [hA.lt]; exact dlt h) ?_
    cbv
    refine hret _ (RetEv.ret eOk rfl ⟨0, l', 2, zs, ?_, hzs, rfl, rfl⟩)
    unfold rdC; rw [← hd, if_pos h]
  · refine vcIf.no (by rw [hA.lt]; exact dlt' h) ?_
    cbv
    refine hret _ (RetEv.ret eOk rfl ⟨n, l', e', zs, ?_, hzs, rfl, rfl⟩)
    unfold rdC; rw [← hd, if_neg h]
theorem rdRest_spec (e : Nat) (ys : List PV) : FnL Try.prog 78 [.own 0 0] [rdSt ys e] fun z own => z = .p (.sl ys) ∧ own = [rdSt ys e] := by
  refine fn_of_vc eOk fOk fo78 Try.func78 rfl rfl rfl fun B hB => ?_
  intro add sub mul quo rem band bor bxor bclr shl shr ieq ilt ile seq slt beq bnot orb bcond iwrap iof ssz hA cat sq sl imin imax smin smax len slen u8 hL op hop call hcall code hcode ret hret
  cbv
  exact hret _ (RetEv.ret eOk rfl ⟨rfl, rfl⟩)

theorem rdL {own : List Res} {js : List Nat} {i : Nat} {ys : List PV} {e : Nat} (h : own[i]? = some (rdSt ys e)) : TrO own js [] [i] [rdSt ys e] :=
  ⟨⟨_, h, .st _ _ _ (.cons (.p _) (.cons (.p _) .nil))⟩, trivial⟩

/-! The document's -/
theorem decT_err (l : List UInt8) (h : (decT l).2.2 ≠ 0) : (decT l).1 = [] ∧ (decT l).2.1 = 0 := by
  unfold decT at h ⊢
  obtain ⟨⟨x, u, e⟩, hd⟩ : ∃ r, r = dec 0 0 l := ⟨_, rfl⟩
  rw [← hd] at h ⊢
  simp only at h ⊢
  split
  · exact ⟨rfl, rfl⟩
  split
  · exact ⟨rfl, rfl⟩
  split
  · exact ⟨rfl, rfl⟩
  · rename_i h1 h2 h3
    rw [if_neg h1, if_neg h2, if_neg h3] at h
    exact absurd rfl h
end Go.Proofs.Ytnigonhkfpnodaa
