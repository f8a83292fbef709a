/- Readers: the package's and the document's. Conditions: on sizes. -/
import Derived.Test.YtmenbognkdeipaaLCode5
import Derived.Test.YtmenbognkdeipaaLCode3
set_option maxRecDepth 100000
set_option maxHeartbeats 4000000
set_option linter.unusedSimpArgs false
set_option linter.unusedVariables false
namespace Go.Proofs.Ytmenbognkdeipaa
open Go Go.Lx
open Go.Sx (vcIf)

theorem rdNumV (l : List UInt8) (e : Nat) (ys : List PV) (hys : ys = bP l) :
    FnL Try.prog 48 [.own 0 0] [rdSt ys e] fun z own => ∃ (n : Nat) (l' : List UInt8) (e' : Nat) (zs : List PV), (n, l', e') = rdN l e ∧ zs = bP l' ∧ z = .p (.int .i64 (n : Int)) ∧ own = [rdSt zs e'] := by subst hys; exact rdNum_spec l e
theorem rdNumsV (l : List UInt8) (e : Nat) (k : Nat) (hk : k ≤ 4096) (ys : List PV) (hys : ys = bP l) :
    FnL Try.prog 65 [.own 0 0, .p (.int .i64 (k : Int))] [rdSt ys e] fun z own => ∃ (ns : List Int) (l' : List UInt8) (e' : Nat) (us zs : List PV), (ns, l', e') = rdNs k l e ∧ us = bP l' ∧ zs = iP ns ∧ z = .p (.sl zs) ∧ own = [rdSt us e'] := by
  subst hys
  refine (rdNums_spec l e k hk).less ?_
  rintro _ _ ⟨ns, l', e', us, zs, h1, h2, h3, rfl, rfl⟩
  exact ⟨_, [rdSt us e'], [.dead], rfl, .refl _, rfl, rfl, Nat.le_refl _, ns, l', e', us, zs, h1, h2, h3, rfl, rfl⟩
/-- The next text. -/
def rdT (l : List UInt8) (e : Nat) : List UInt8 × List UInt8 × Nat := if e ≠ 0 then ([], l, e) else ((decT l).1, l.drop (decT l).2.1, (decT l).2.2)
theorem decT_used (l : List UInt8) : (decT l).2.1 ≤ l.length := by
  have hus := dec_used l 0 0
  unfold decT
  obtain ⟨⟨x, u, e⟩, hd⟩ : ∃ r, r = dec 0 0 l := ⟨_, rfl⟩
  rw [← hd] at hus ⊢
  simp only at hus ⊢
  split
  · exact Nat.zero_le _
  split
  · exact Nat.zero_le _
  split
  · exact Nat.zero_le _
  · rename_i h1 h2 h3
    have := hus (by simpa using h1)
    simp only; omega
theorem rdText_spec (l : List UInt8) (hl : l.length < 9223372036854775807) (e : Nat) (ys : List PV) (hys : ys = bP l) :
    FnL Try.prog 49 [.own 0 0] [rdSt ys e] fun z own => ∃ (s l' : List UInt8) (e' : Nat) (zs : List PV), (s, l', e') = rdT l e ∧ zs = bP l' ∧ z = .p (.str s) ∧ own = [rdSt zs e'] := by
  have htx := text_spec l hl
  have hus := decT_used l
  have hyl : ys.length = l.length := by rw [hys, bP_length]
  rw [← hys] at htx
  refine fn_of_vc eOk fOk fo49 Try.func49 rfl rfl rfl fun B hB => ?_
  intro add sub mul quo rem band bor bxor bclr shl shr ieq ilt ile seq slt beq bnot orb bcond iwrap iof ssz hA cat sq sl imin imax smin smax len slen u8 hL op hop call hcall code hcode ret hret
  cbv
  by_cases he : e = 0
  · subst he
    repeat (first | (refine vcIf.yes ?_ ?_; (focus (simp [hA.not, hA.eq, hA.lt, hA.le, hA.cond, hA.beq, hA.orb, hL.len, hL.slen, hL.sq]; done)); cbv) | (refine vcIf.no ?_ ?_; (focus (simp [hA.not, hA.eq, hA.lt, hA.le, hA.cond, hA.beq, hA.orb, hL.len, hL.slen, hL.sq]; done)); cbv) | fail)
    refine hcall _ _ _ _ _ (CallEv.same htx rfl ?_)
    rintro _ _ ⟨s, u, e', hd, rfl, rfl⟩
    rw [← hd] at hus
    simp only at hus
    cbv
    refine ⟨u, ys.length, ys.length, rfl, rfl, rfl, by omega, Nat.le_refl _, Nat.le_refl _, fun y hy => ?_, ?_⟩
    · rw [hys] at hy; exact (bP_wf l y hy).1
    intro zs hz
    cbv
    refine hret _ (RetEv.ret eOk rfl ⟨s, l.drop u, e', zs, ?_, ?_, rfl, rfl⟩)
    · unfold rdT; rw [if_neg (by simp), ← hd]
    · rw [hz, hys, bP_drop, List.take_of_length_le (by simp [bP_length])]
  · refine vcIf.yes (by rw [hA.not, hA.eq]; simp; omega) ?_
    cbv
    refine hret _ (RetEv.ret eOk rfl ⟨[], l, e, ys, ?_, hys, rfl, rfl⟩)
    unfold rdT; rw [if_pos he]
/-- The next number, which is how many there are. -/
def rdC (l : List UInt8) (e most : Nat) : Nat × List UInt8 × Nat := if most < (rdN l e).1 then (0, (rdN l e).2.1, 2) else rdN l e
theorem rdCount_spec (l : List UInt8) (e : Nat) (ys : List PV) (hys : ys = bP l) (most : Nat) :
    FnL Try.prog 66 [.own 0 0, .p (.int .i64 (most : Int))] [rdSt ys e] fun z own => ∃ (n : Nat) (l' : List UInt8) (e' : Nat) (zs : List PV), (n, l', e') = rdC l e most ∧ zs = bP l' ∧ z = .p (.int .i64 (n : Int)) ∧ own = [rdSt zs e'] := by
  have hn := rdNumV l e ys hys
  refine fn_of_vc eOk fOk fo66 Try.func66 rfl rfl rfl fun B hB => ?_
  intro add sub mul quo rem band bor bxor bclr shl shr ieq ilt ile seq slt beq bnot orb bcond iwrap iof ssz hA cat sq sl imin imax smin smax len slen u8 hL op hop call hcall code hcode ret hret
  cbv
  refine hcall _ _ _ _ _ (CallEv.lend [0] hn rfl (.cons (.own 0 0 0 rfl) .nil) ⟨⟨_, rfl, .st _ _ _ (.cons (.p _) (.cons (.p _) .nil))⟩, trivial⟩ ?_)
  rintro _ _ ⟨n, l', e', zs, hd, hzs, rfl, rfl⟩
  cbv
  by_cases h : most < n
  · refine vcIf.yes (by rw [hA.lt]; exact dlt h) ?_
    cbv
    refine hret _ (RetEv.ret eOk rfl ⟨0, l', 2, zs, ?_, hzs, rfl, rfl⟩)
    unfold rdC; rw [← hd, if_pos h]
  · refine vcIf.no (by rw [hA.lt]; exact dlt' h) ?_
    cbv
    refine hret _ (RetEv.ret eOk rfl ⟨n, l', e', zs, ?_, hzs, rfl, rfl⟩)
    unfold rdC; rw [← hd, if_neg h]
theorem rdRest_spec (e : Nat) (ys : List PV) : FnL Try.prog 59 [.own 0 0] [rdSt ys e] fun z own => z = .p (.sl ys) ∧ own = [rdSt ys e] := by
  refine fn_of_vc eOk fOk fo59 Try.func59 rfl rfl rfl fun B hB => ?_
  intro add sub mul quo rem band bor bxor bclr shl shr ieq ilt ile seq slt beq bnot orb bcond iwrap iof ssz hA cat sq sl imin imax smin smax len slen u8 hL op hop call hcall code hcode ret hret
  cbv
  exact hret _ (RetEv.ret eOk rfl ⟨rfl, rfl⟩)

theorem rdL {own : List Res} {js : List Nat} {i : Nat} {ys : List PV} {e : Nat} (h : own[i]? = some (rdSt ys e)) : TrO own js [] [i] [rdSt ys e] :=
  ⟨⟨_, h, .st _ _ _ (.cons (.p _) (.cons (.p _) .nil))⟩, trivial⟩

/-! The document's -/
abbrev rrSt (xs : List PV) (b : Bool) : Res := .st 89 [.p (.sl xs), .p (.bool b)]
theorem rrL {own : List Res} {js : List Nat} {i : Nat} {ys : List PV} {b : Bool} (h : own[i]? = some (rrSt ys b)) : TrO own js [] [i] [rrSt ys b] :=
  ⟨⟨_, h, .st _ _ _ (.cons (.p _) (.cons (.p _) .nil))⟩, trivial⟩
theorem rtext_spec (l : List UInt8) (hl : l.length < 9223372036854775807) : FnL Try.prog 84 [.p (.sl (bP l))] [] (textR (decT l)) := by
  have hnum := rnum_spec l
  have hus := dec_used l 0 0
  have her := dec_err l 0 0
  have hlt := dec_lt l 0 0 (by omega) (by simp)
  obtain ⟨R, hR⟩ : ∃ R, R = decT l := ⟨_, rfl⟩
  have hR2 := hR
  unfold decT at hR2
  rw [← hR]
  obtain ⟨xs, hxs⟩ : ∃ xs, xs = bP l := ⟨_, rfl⟩
  have hxl : xs.length = l.length := by rw [hxs, bP_length]
  obtain ⟨n, hn⟩ : ∃ n, n = l.length := ⟨_, rfl⟩
  rw [← hxs] at hnum ⊢
  refine fn_of_vc eOk fOk fo84 Try.func84 rfl rfl rfl fun B hB => ?_
  intro add sub mul quo rem band bor bxor bclr shl shr ieq ilt ile seq slt beq bnot orb bcond iwrap iof ssz hA cat sq sl imin imax smin smax len slen u8 hL op hop call hcall code hcode ret hret
  have hlen : len xs = Int.ofNat n := by rw [hL.len, hxl, hn]; rfl
  cbv
  refine hcall _ _ _ _ _ (CallEv.same hnum rfl ?_)
  rintro _ _ ⟨x, u, e, hd, rfl, rfl⟩
  rw [← hd] at hus her hlt hR2
  simp only at hR2
  simp only at hus her hlt
  cbv
  by_cases he : e = 0
  · subst he
    have hus := hus rfl
    refine vcIf.no (by rw [hA.not, hA.eq]; rfl) ?_
    cbv
    by_cases hx : 65536 < x
    · refine vcIf.yes (by rw [hA.lt]; exact dlt hx) ?_
      cbv
      exact hret _ (RetEv.ret eOk rfl ⟨[], 0, 6, by rw [hR2]; simp [hx], rfl, rfl⟩)
    · refine vcIf.no (by rw [hA.lt]; exact dlt' hx) ?_
      have e1 : sub .i64 (len xs) (Int.ofNat u) = ((n - u : Nat) : Int) := by
        rw [hA.sub, hlen]; exact i64_nat (by simp only [Int.ofNat_eq_natCast]; omega) (by omega)
      cbv
      by_cases hs : n - u < x
      · refine vcIf.yes (by rw [hA.lt, e1]; exact dlt hs) ?_
        cbv
        exact hret _ (RetEv.ret eOk rfl ⟨[], 0, 3, by rw [hR2]; simp [hx, show l.length - u < x by omega], rfl, rfl⟩)
      · have e2 : add .i64 (Int.ofNat u) (Int.ofNat x) = ((u + x : Nat) : Int) := by
          rw [hA.add]; exact i64_nat (by simp) (by omega)
        refine vcIf.no (by rw [hA.lt, e1]; exact dlt' hs) ?_
        cbv
        refine ⟨u, u + x, n, rfl, e2, hxl.symm ▸ hn, by omega, by omega, by omega, fun y hy => ?_, ?_⟩
        · rw [hxs] at hy; exact (bP_wf l y hy).1
        intro zs hz
        cbv
        refine ⟨(l.drop u).take x, ?_, ?_⟩
        · show zs = _
          rw [hz, hxs, bP_drop, bP_take, show u + x - u = x by omega]
        obtain ⟨r, hr⟩ : ∃ r, r = (l.drop u).take x := ⟨_, rfl⟩
        rw [← hr]
        cbv
        refine hret _ (RetEv.ret eOk rfl ⟨r, u + x, 0, ?_, ?_, rfl⟩)
        · rw [hR2]; simp [hx, show ¬ l.length - u < x by omega, hr]
        · show V.p (.tup [.str r, .int .i64 (add .i64 (Int.ofNat u) (Int.ofNat x)), .int .i64 0]) = _
          rw [e2]; rfl
  · refine vcIf.yes (by rw [hA.not, hA.eq]; simp; omega) ?_
    cbv
    exact hret _ (RetEv.ret eOk rfl ⟨[], 0, e, by rw [hR2]; simp [he], rfl, rfl⟩)

theorem decT_err (l : List UInt8) (h : (decT l).2.2 ≠ 0) : (decT l).1 = [] ∧ (decT l).2.1 = 0 := by
  unfold decT at h ⊢
  obtain ⟨⟨x, u, e⟩, hd⟩ : ∃ r, r = dec 0 0 l := ⟨_, rfl⟩
  rw [← hd] at h ⊢
  simp only at h ⊢
  split
  · exact ⟨rfl, rfl⟩
  split
  · exact ⟨rfl, rfl⟩
  split
  · exact ⟨rfl, rfl⟩
  · rename_i h1 h2 h3
    rw [if_neg h1, if_neg h2, if_neg h3] at h
    exact absurd rfl h
theorem rrText_spec (l : List UInt8) (hl : l.length < 9223372036854775807) (e : Nat) (ys : List PV) (hys : ys = bP l) (bad : Bool) (hbad : bad = decide (e ≠ 0)) :
    FnL Try.prog 54 [.own 0 0] [rrSt ys bad] fun z own => ∃ (s l' : List UInt8) (e' : Nat) (zs : List PV) (b : Bool), (s, l', e') = rdT l e ∧ zs = bP l' ∧ b = decide (e' ≠ 0) ∧ z = .p (.str s) ∧ own = [rrSt zs b] := by
  have htx := rtext_spec l hl
  have hus := decT_used l
  have her := decT_err l
  have hyl : ys.length = l.length := by rw [hys, bP_length]
  rw [← hys] at htx
  refine fn_of_vc eOk fOk fo54 Try.func54 rfl rfl rfl fun B hB => ?_
  intro add sub mul quo rem band bor bxor bclr shl shr ieq ilt ile seq slt beq bnot orb bcond iwrap iof ssz hA cat sq sl imin imax smin smax len slen u8 hL op hop call hcall code hcode ret hret
  cbv
  refine hcall _ _ _ _ _ (CallEv.same htx rfl ?_)
  rintro _ _ ⟨s, u, e1, hd, rfl, rfl⟩
  rw [← hd] at hus
  simp only at hus
  cbv
  by_cases h1 : e1 = 0
  · subst h1
    repeat (first | (refine vcIf.yes ?_ ?_; (focus (simp [hA.not, hA.eq, hA.lt, hA.le, hA.cond, hA.beq, hA.orb, hL.len, hL.slen, hL.sq]; done)); cbv) | (refine vcIf.no ?_ ?_; (focus (simp [hA.not, hA.eq, hA.lt, hA.le, hA.cond, hA.beq, hA.orb, hL.len, hL.slen, hL.sq]; done)); cbv) | fail)
    by_cases he : e = 0
    · obtain rfl : bad = false := by rw [hbad, he]; rfl
      cbv
      repeat (first | (refine vcIf.yes ?_ ?_; (focus (simp [hA.not, hA.eq, hA.lt, hA.le, hA.cond, hA.beq, hA.orb, hL.len, hL.slen, hL.sq]; done)); cbv) | (refine vcIf.no ?_ ?_; (focus (simp [hA.not, hA.eq, hA.lt, hA.le, hA.cond, hA.beq, hA.orb, hL.len, hL.slen, hL.sq]; done)); cbv) | fail)
      refine ⟨u, ys.length, ys.length, rfl, rfl, rfl, by omega, Nat.le_refl _, Nat.le_refl _, fun y hy => ?_, ?_⟩
      · rw [hys] at hy; exact (bP_wf l y hy).1
      intro zs hz
      cbv
      refine hret _ (RetEv.ret eOk rfl ⟨s, l.drop u, 0, zs, false, ?_, ?_, rfl, rfl, rfl⟩)
      · unfold rdT; rw [if_neg (by simpa using he), ← hd]
      · rw [hz, hys, bP_drop, List.take_of_length_le (by simp [bP_length])]
    · obtain rfl : bad = true := by rw [hbad]; exact decide_eq_true he
      cbv
      repeat (first | (refine vcIf.yes ?_ ?_; (focus (simp [hA.not, hA.eq, hA.lt, hA.le, hA.cond, hA.beq, hA.orb, hL.len, hL.slen, hL.sq]; done)); cbv) | (refine vcIf.no ?_ ?_; (focus (simp [hA.not, hA.eq, hA.lt, hA.le, hA.cond, hA.beq, hA.orb, hL.len, hL.slen, hL.sq]; done)); cbv) | fail)
      refine hret _ (RetEv.ret eOk rfl ⟨[], l, e, ys, true, ?_, hys, (decide_eq_true he).symm, rfl, rfl⟩)
      unfold rdT; rw [if_pos he]
  · refine vcIf.yes (by rw [hA.not, hA.eq]; simp; omega) ?_
    cbv
    repeat (first | (refine vcIf.yes ?_ ?_; (focus (simp [hA.not, hA.eq, hA.lt, hA.le, hA.cond, hA.beq, hA.orb, hL.len, hL.slen, hL.sq]; done)); cbv) | (refine vcIf.no ?_ ?_; (focus (simp [hA.not, hA.eq, hA.lt, hA.le, hA.cond, hA.beq, hA.orb, hL.len, hL.slen, hL.sq]; done)); cbv) | fail)
    by_cases he : e = 0
    · refine hret _ (RetEv.ret eOk rfl ⟨[], l, e1, ys, true, ?_, hys, (decide_eq_true h1).symm, rfl, rfl⟩)
      unfold rdT; rw [if_neg (by simpa using he), ← hd]
      (rw [← hd] at her; obtain ⟨k1, k2⟩ := her h1; simp only at k1 k2; rw [k1, k2]; rfl)
    · refine hret _ (RetEv.ret eOk rfl ⟨[], l, e, ys, true, ?_, hys, (decide_eq_true he).symm, rfl, rfl⟩)
      unfold rdT; rw [if_pos he]
theorem rrNum_spec (l : List UInt8) (e : Nat) (ys : List PV) (hys : ys = bP l) (bad : Bool) (hbad : bad = decide (e ≠ 0)) :
    FnL Try.prog 53 [.own 0 0] [rrSt ys bad] fun z own => ∃ (n : Nat) (l' : List UInt8) (e' : Nat) (zs : List PV) (b : Bool), (n, l', e') = rdN l e ∧ zs = bP l' ∧ b = decide (e' ≠ 0) ∧ z = .p (.int .i64 (n : Int)) ∧ own = [rrSt zs b] := by
  have htx := rnum_spec l
  have hus : (dec 0 0 l).2.1 ≤ l.length := by
    have h1 := dec_used l 0 0
    have h2 := dec_err l 0 0
    by_cases h : (dec 0 0 l).2.2 = 0
    · have := (h1 h).1; omega
    · have := (h2 h).2; omega
  have her := dec_err l 0 0
  have hyl : ys.length = l.length := by rw [hys, bP_length]
  rw [← hys] at htx
  refine fn_of_vc eOk fOk fo53 Try.func53 rfl rfl rfl fun B hB => ?_
  intro add sub mul quo rem band bor bxor bclr shl shr ieq ilt ile seq slt beq bnot orb bcond iwrap iof ssz hA cat sq sl imin imax smin smax len slen u8 hL op hop call hcall code hcode ret hret
  cbv
  refine hcall _ _ _ _ _ (CallEv.same htx rfl ?_)
  rintro _ _ ⟨s, u, e1, hd, rfl, rfl⟩
  rw [← hd] at hus
  simp only at hus
  cbv
  by_cases h1 : e1 = 0
  · subst h1
    repeat (first | (refine vcIf.yes ?_ ?_; (focus (simp [hA.not, hA.eq, hA.lt, hA.le, hA.cond, hA.beq, hA.orb, hL.len, hL.slen, hL.sq]; done)); cbv) | (refine vcIf.no ?_ ?_; (focus (simp [hA.not, hA.eq, hA.lt, hA.le, hA.cond, hA.beq, hA.orb, hL.len, hL.slen, hL.sq]; done)); cbv) | fail)
    by_cases he : e = 0
    · obtain rfl : bad = false := by rw [hbad, he]; rfl
      cbv
      repeat (first | (refine vcIf.yes ?_ ?_; (focus (simp [hA.not, hA.eq, hA.lt, hA.le, hA.cond, hA.beq, hA.orb, hL.len, hL.slen, hL.sq]; done)); cbv) | (refine vcIf.no ?_ ?_; (focus (simp [hA.not, hA.eq, hA.lt, hA.le, hA.cond, hA.beq, hA.orb, hL.len, hL.slen, hL.sq]; done)); cbv) | fail)
      refine ⟨u, ys.length, ys.length, rfl, rfl, rfl, by omega, Nat.le_refl _, Nat.le_refl _, fun y hy => ?_, ?_⟩
      · rw [hys] at hy; exact (bP_wf l y hy).1
      intro zs hz
      cbv
      refine hret _ (RetEv.ret eOk rfl ⟨s, l.drop u, 0, zs, false, ?_, ?_, rfl, rfl, rfl⟩)
      · unfold rdN; rw [if_neg (by simpa using he), ← hd]
      · rw [hz, hys, bP_drop, List.take_of_length_le (by simp [bP_length])]
    · obtain rfl : bad = true := by rw [hbad]; exact decide_eq_true he
      cbv
      repeat (first | (refine vcIf.yes ?_ ?_; (focus (simp [hA.not, hA.eq, hA.lt, hA.le, hA.cond, hA.beq, hA.orb, hL.len, hL.slen, hL.sq]; done)); cbv) | (refine vcIf.no ?_ ?_; (focus (simp [hA.not, hA.eq, hA.lt, hA.le, hA.cond, hA.beq, hA.orb, hL.len, hL.slen, hL.sq]; done)); cbv) | fail)
      refine hret _ (RetEv.ret eOk rfl ⟨0, l, e, ys, true, ?_, hys, (decide_eq_true he).symm, rfl, rfl⟩)
      unfold rdN; rw [if_pos he]
  · refine vcIf.yes (by rw [hA.not, hA.eq]; simp; omega) ?_
    cbv
    repeat (first | (refine vcIf.yes ?_ ?_; (focus (simp [hA.not, hA.eq, hA.lt, hA.le, hA.cond, hA.beq, hA.orb, hL.len, hL.slen, hL.sq]; done)); cbv) | (refine vcIf.no ?_ ?_; (focus (simp [hA.not, hA.eq, hA.lt, hA.le, hA.cond, hA.beq, hA.orb, hL.len, hL.slen, hL.sq]; done)); cbv) | fail)
    by_cases he : e = 0
    · refine hret _ (RetEv.ret eOk rfl ⟨0, l, e1, ys, true, ?_, hys, (decide_eq_true h1).symm, rfl, rfl⟩)
      unfold rdN; rw [if_neg (by simpa using he), ← hd]
      (rw [← hd] at her; obtain ⟨k1, k2⟩ := her h1; simp only at k1 k2; rw [k1, k2]; rfl)
    · refine hret _ (RetEv.ret eOk rfl ⟨0, l, e, ys, true, ?_, hys, (decide_eq_true he).symm, rfl, rfl⟩)
      unfold rdN; rw [if_pos he]
end Go.Proofs.Ytmenbognkdeipaa
