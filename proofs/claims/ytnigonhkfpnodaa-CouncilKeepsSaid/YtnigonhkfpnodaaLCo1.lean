/- Vows are cloned, promises given, states taken; the document's, and are vows the same. Conditions: on sizes. -/
import Derived.Test.YtnigonhkfpnodaaLBv3
import Derived.Test.YtnigonhkfpnodaaLFr9
set_option maxRecDepth 100000
set_option maxHeartbeats 4000000
set_option linter.unusedSimpArgs false
set_option linter.unusedVariables false
namespace Go.Proofs.Ytnigonhkfpnodaa
open Go Go.Lx
open Go.Sx (vcIf)

abbrev vwP (pn pd an ad g e r : Int) (zs : List PV) : PV := .agg [.int .i64 pn, .int .i64 pd, .int .i64 an, .int .i64 ad, .int .i64 g, .int .i64 e, .int .i64 r, .sl zs]
abbrev baP (a b : Int) : PV := .agg [.int .i64 a, .int .i64 b]
abbrev stP (g e r : Int) (zs : List PV) : PV := .agg [.int .i64 g, .int .i64 e, .int .i64 r, .sl zs]
theorem cloneInts_spec (zs : List PV) (hw : Wf 1 zs) (hs : zs.length * 8 ≤ 140737488355328) : FnL Try.prog 102 [.p (.sl zs)] [] fun v own => v = .p (.sl zs) ∧ own = [] := by
  refine FnL.flat (R := fun v own => ∃ x, v = .p x ∧ PW x (.sl zs)) ?_ (by rintro _ _ ⟨x, rfl, h⟩; exact ⟨_, _, rfl, h, rfl, rfl⟩)
  obtain ⟨n, hnn⟩ : ∃ n, n = zs.length := ⟨_, rfl⟩
  rw [← hnn] at hs
  refine fn_of_vc eOk fOk fo102 Try.func102 rfl rfl rfl fun B hB => ?_
  intro add sub mul quo rem band bor bxor bclr shl shr ieq ilt ile seq slt beq bnot orb bcond iwrap iof ssz hA cat sq sl imin imax smin smax len slen u8 hL op hop call hcall code hcode ret hret
  cbv
  intro b hb
  cbv
  cases b with
  | true =>
    have h0 := hb rfl
    cbv
    exact hret _ (RetEv.ret eOk rfl ⟨_, rfl, by rw [h0]; exact PW.nils⟩)
  | false =>
    cbv
    refine ⟨true, ?_⟩
    cbv
    refine .inl ⟨(), rfl, rfl, hw, ?_, ?_, ?_⟩
    · show 0 + zs.length ≤ maxLen
      unfold maxLen; omega
    · show (0 + zs.length) * 8 ≤ _
      omega
    intro us n' hu hn'
    replace hu : us = [] ++ zs := hu
    replace hn' : n' = 0 + zs.length := hn'
    have e1 : (us.drop 0).take n' = zs := by rw [hu, hn', List.drop_zero, List.nil_append, Nat.zero_add, List.take_length]
    cbv
    refine hret _ (RetEv.retF eOk rfl 0 rfl (by rw [hB]; exact Nat.zero_le _) ⟨.sl ((us.drop 0).take n'), rfl, ?_⟩)
    rw [e1]; exact PW.refl _
theorem vwClone_spec (pn pd an ad g e r : Int) (zs : List PV) (hw : Wf 1 zs) (hs : zs.length * 8 ≤ 140737488355328) : FnL Try.prog 63 [.p (vwP pn pd an ad g e r zs)] [] fun v own => v = .p (vwP pn pd an ad g e r zs) ∧ own = [] := by
  refine FnL.flat (R := fun v own => v = .p (vwP pn pd an ad g e r zs)) ?_ (by rintro _ _ rfl; exact ⟨_, _, rfl, .refl _, rfl, rfl⟩)
  refine fn_of_vc eOk fOk fo63 Try.func63 rfl rfl rfl fun B hB => ?_
  intro add sub mul quo rem band bor bxor bclr shl shr ieq ilt ile seq slt beq bnot orb bcond iwrap iof ssz hA cat sq sl imin imax smin smax len slen u8 hL op hop call hcall code hcode ret hret
  cbv
  refine hcall _ _ _ _ _ (CallEv.same (cloneInts_spec zs hw hs) rfl ?_)
  rintro _ _ ⟨rfl, rfl⟩
  cbv
  exact hret _ (RetEv.ret eOk rfl rfl)
def prm (w : Vw4) (a b : Int) : Vw4 × Bool := if blt w.pn w.pd a b = true then ({ w with pn := a, pd := b }, true) else (w, false)
def tkv (w : Vw4) (a b : Int) (s : Stt) : Vw4 × Bool := if blt a b w.pn w.pd = true then (w, false) else (⟨a, b, a, b, s⟩, true)
def IsVw (w : Vw4) (pn pd an ad g e r : Int) (zs : List PV) : Prop := w.pn = pn ∧ w.pd = pd ∧ w.an = an ∧ w.ad = ad ∧ w.s.gen = g ∧ w.s.epoch = e ∧ w.s.recv = r ∧ zs = iP w.s.ch
def IsSt (s : Stt) (g e r : Int) (zs : List PV) : Prop := s.gen = g ∧ s.epoch = e ∧ s.recv = r ∧ zs = iP s.ch
/-- A vow, and whether. -/
def vowR (q : Vw4 × Bool) (v : V) (own : List Res) : Prop := ∃ (pn pd an ad g e r : Int) (zs : List PV) (ok : Bool), ok = q.2 ∧ IsVw q.1 pn pd an ad g e r zs ∧ v = .p (.tup [vwP pn pd an ad g e r zs, .bool ok]) ∧ own = []
def vowF (q : Vw4 × Bool) (v : V) (own : List Res) : Prop := ∃ (pn pd an ad g e r : Int) (zs : List PV) (ok : Bool), ok = q.2 ∧ IsVw q.1 pn pd an ad g e r zs ∧ v = .p (.tup [vwP pn pd an ad g e r zs, .bool ok])
theorem vowR.of {f : FuncId} {args : List V} {q : Vw4 × Bool} (h : FnL Try.prog f args [] (vowF q)) : FnL Try.prog f args [] (vowR q) :=
  FnL.flat h (by rintro _ _ ⟨pn, pd, an, ad, g, e, r, zs, ok, h1, h2, rfl⟩; exact ⟨_, _, rfl, .refl _, pn, pd, an, ad, g, e, r, zs, ok, h1, h2, rfl, rfl⟩)
theorem IsVw.wf {w : Vw4} {pn pd an ad g e r : Int} {zs : List PV} (h : IsVw w pn pd an ad g e r zs) : Wf 1 zs := by rw [h.2.2.2.2.2.2.2]; exact iP_wf _
theorem IsVw.len {w : Vw4} {pn pd an ad g e r : Int} {zs : List PV} (h : IsVw w pn pd an ad g e r zs) : zs.length = w.s.ch.length := by rw [h.2.2.2.2.2.2.2, iP_length]
theorem promiseV_spec (w : Vw4) (a b : Int) {pn pd an ad g e r : Int} {zs : List PV} (hw : IsVw w pn pd an ad g e r zs) (hs : w.s.ch.length * 8 ≤ 140737488355328) :
    FnL Try.prog 33 [.p (vwP pn pd an ad g e r zs), .p (baP a b)] [] (vowR (prm w a b)) := by
  refine vowR.of ?_
  obtain ⟨R, hR⟩ : ∃ R, R = prm w a b := ⟨_, rfl⟩
  rw [← hR]
  unfold prm at hR
  have hcl := vwClone_spec pn pd an ad g e r zs hw.wf (by rw [hw.len]; exact hs)
  obtain ⟨pn', pd', an', ad', ⟨g', e', r', ch⟩⟩ := w
  obtain ⟨rfl, rfl, rfl, rfl, rfl, rfl, rfl, hz⟩ := hw
  simp only at hR hcl hz
  have hle := blLess_spec pn' pd' a b
  refine fn_of_vc eOk fOk fo33 Try.func33 rfl rfl rfl fun B hB => ?_
  intro add sub mul quo rem band bor bxor bclr shl shr ieq ilt ile seq slt beq bnot orb bcond iwrap iof ssz hA cat sq sl imin imax smin smax len slen u8 hL op hop call hcall code hcode ret hret
  cbv
  refine hcall _ _ _ _ _ (CallEv.same hcl rfl ?_)
  rintro _ _ ⟨rfl, rfl⟩
  cbv
  refine hcall _ _ _ _ _ (CallEv.same hle rfl ?_)
  rintro _ _ ⟨x, hx, rfl, rfl⟩
  rw [← hx] at hR
  cases x with
  | true =>
    rw [if_pos rfl] at hR
    cbv
    repeat (first | (refine vcIf.yes ?_ ?_; (focus (simp [hA.not, hA.eq, hA.lt, hA.le, hA.cond, hA.beq, hA.orb, hL.len, hL.slen, hL.sq]; done)); cbv) | (refine vcIf.no ?_ ?_; (focus (simp [hA.not, hA.eq, hA.lt, hA.le, hA.cond, hA.beq, hA.orb, hL.len, hL.slen, hL.sq]; done)); cbv) | fail)
    exact hret _ (RetEv.ret eOk rfl ⟨a, b, an', ad', g', e', r', zs, true, by rw [hR], by rw [hR]; exact ⟨rfl, rfl, rfl, rfl, rfl, rfl, rfl, hz⟩, rfl⟩)
  | false =>
    rw [if_neg (by decide)] at hR
    cbv
    repeat (first | (refine vcIf.yes ?_ ?_; (focus (simp [hA.not, hA.eq, hA.lt, hA.le, hA.cond, hA.beq, hA.orb, hL.len, hL.slen, hL.sq]; done)); cbv) | (refine vcIf.no ?_ ?_; (focus (simp [hA.not, hA.eq, hA.lt, hA.le, hA.cond, hA.beq, hA.orb, hL.len, hL.slen, hL.sq]; done)); cbv) | fail)
    exact hret _ (RetEv.ret eOk rfl ⟨pn', pd', an', ad', g', e', r', zs, false, by rw [hR], by rw [hR]; exact ⟨rfl, rfl, rfl, rfl, rfl, rfl, rfl, hz⟩, rfl⟩)
theorem takeV_spec (w : Vw4) (a b : Int) (s : Stt) {pn pd an ad g e r : Int} {zs : List PV} (hw : IsVw w pn pd an ad g e r zs) (hs : w.s.ch.length * 8 ≤ 140737488355328) {g2 e2 r2 : Int} {ys : List PV} (hst : IsSt s g2 e2 r2 ys) (hsy : s.ch.length * 8 ≤ 140737488355328) :
    FnL Try.prog 36 [.p (vwP pn pd an ad g e r zs), .p (baP a b), .p (stP g2 e2 r2 ys)] [] (vowR (tkv w a b s)) := by
  refine vowR.of ?_
  obtain ⟨R, hR⟩ : ∃ R, R = tkv w a b s := ⟨_, rfl⟩
  rw [← hR]
  unfold tkv at hR
  have hcl := vwClone_spec pn pd an ad g e r zs hw.wf (by rw [hw.len]; exact hs)
  have hcl2 := vwClone_spec a b a b g2 e2 r2 ys (by rw [hst.2.2.2]; exact iP_wf _) (by rw [hst.2.2.2, iP_length]; exact hsy)
  obtain ⟨pn', pd', an', ad', ⟨g', e', r', ch⟩⟩ := w
  obtain ⟨g2', e2', r2', ch2⟩ := s
  obtain ⟨rfl, rfl, rfl, rfl, rfl, rfl, rfl, hz⟩ := hw
  obtain ⟨rfl, rfl, rfl, hy⟩ := hst
  simp only at hR hcl hcl2 hz hy
  have hle := blLess_spec a b pn' pd'
  refine fn_of_vc eOk fOk fo36 Try.func36 rfl rfl rfl fun B hB => ?_
  intro add sub mul quo rem band bor bxor bclr shl shr ieq ilt ile seq slt beq bnot orb bcond iwrap iof ssz hA cat sq sl imin imax smin smax len slen u8 hL op hop call hcall code hcode ret hret
  cbv
  refine hcall _ _ _ _ _ (CallEv.same hle rfl ?_)
  rintro _ _ ⟨x, hx, rfl, rfl⟩
  rw [← hx] at hR
  cases x with
  | true =>
    rw [if_pos rfl] at hR
    cbv
    refine hcall _ _ _ _ _ (CallEv.same hcl rfl ?_)
    rintro _ _ ⟨rfl, rfl⟩
    cbv
    exact hret _ (RetEv.ret eOk rfl ⟨pn', pd', an', ad', g', e', r', zs, false, by rw [hR], by rw [hR]; exact ⟨rfl, rfl, rfl, rfl, rfl, rfl, rfl, hz⟩, rfl⟩)
  | false =>
    rw [if_neg (by decide)] at hR
    cbv
    refine hcall _ _ _ _ _ (CallEv.same hcl2 rfl ?_)
    rintro _ _ ⟨rfl, rfl⟩
    cbv
    exact hret _ (RetEv.ret eOk rfl ⟨a, b, a, b, g2', e2', r2', ys, true, by rw [hR], by rw [hR]; exact ⟨rfl, rfl, rfl, rfl, rfl, rfl, rfl, hy⟩, rfl⟩)
theorem rPromise_spec (w : Vw4) (a b : Int) {pn pd an ad g e r : Int} {zs : List PV} (hw : IsVw w pn pd an ad g e r zs) :
    FnL Try.prog 42 [.p (vwP pn pd an ad g e r zs), .p (baP a b)] [] (vowR (prm w a b)) := by
  refine vowR.of ?_
  obtain ⟨R, hR⟩ : ∃ R, R = prm w a b := ⟨_, rfl⟩
  rw [← hR]
  unfold prm at hR
  obtain ⟨pn', pd', an', ad', ⟨g', e', r', ch⟩⟩ := w
  obtain ⟨rfl, rfl, rfl, rfl, rfl, rfl, rfl, hz⟩ := hw
  simp only at hR hz
  have hle := rLess_spec pn' pd' a b
  refine fn_of_vc eOk fOk fo42 Try.func42 rfl rfl rfl fun B hB => ?_
  intro add sub mul quo rem band bor bxor bclr shl shr ieq ilt ile seq slt beq bnot orb bcond iwrap iof ssz hA cat sq sl imin imax smin smax len slen u8 hL op hop call hcall code hcode ret hret
  cbv
  refine hcall _ _ _ _ _ (CallEv.same hle rfl ?_)
  rintro _ _ ⟨x, hx, rfl, rfl⟩
  rw [← hx] at hR
  cases x with
  | true =>
    rw [if_pos rfl] at hR
    cbv
    exact hret _ (RetEv.ret eOk rfl ⟨a, b, an', ad', g', e', r', zs, true, by rw [hR], by rw [hR]; exact ⟨rfl, rfl, rfl, rfl, rfl, rfl, rfl, hz⟩, rfl⟩)
  | false =>
    rw [if_neg (by decide)] at hR
    cbv
    exact hret _ (RetEv.ret eOk rfl ⟨pn', pd', an', ad', g', e', r', zs, false, by rw [hR], by rw [hR]; exact ⟨rfl, rfl, rfl, rfl, rfl, rfl, rfl, hz⟩, rfl⟩)
theorem rTake_spec (w : Vw4) (a b : Int) (s : Stt) {pn pd an ad g e r : Int} {zs : List PV} (hw : IsVw w pn pd an ad g e r zs) {g2 e2 r2 : Int} {ys : List PV} (hst : IsSt s g2 e2 r2 ys) :
    FnL Try.prog 43 [.p (vwP pn pd an ad g e r zs), .p (baP a b), .p (stP g2 e2 r2 ys)] [] (vowR (tkv w a b s)) := by
  refine vowR.of ?_
  obtain ⟨R, hR⟩ : ∃ R, R = tkv w a b s := ⟨_, rfl⟩
  rw [← hR]
  unfold tkv at hR
  obtain ⟨pn', pd', an', ad', ⟨g', e', r', ch⟩⟩ := w
  obtain ⟨g2', e2', r2', ch2⟩ := s
  obtain ⟨rfl, rfl, rfl, rfl, rfl, rfl, rfl, hz⟩ := hw
  obtain ⟨rfl, rfl, rfl, hy⟩ := hst
  simp only at hR hz hy
  have hle := rLess_spec a b pn' pd'
  refine fn_of_vc eOk fOk fo43 Try.func43 rfl rfl rfl fun B hB => ?_
  intro add sub mul quo rem band bor bxor bclr shl shr ieq ilt ile seq slt beq bnot orb bcond iwrap iof ssz hA cat sq sl imin imax smin smax len slen u8 hL op hop call hcall code hcode ret hret
  cbv
  refine hcall _ _ _ _ _ (CallEv.same hle rfl ?_)
  rintro _ _ ⟨x, hx, rfl, rfl⟩
  rw [← hx] at hR
  cases x with
  | true =>
    rw [if_pos rfl] at hR
    cbv
    exact hret _ (RetEv.ret eOk rfl ⟨pn', pd', an', ad', g', e', r', zs, false, by rw [hR], by rw [hR]; exact ⟨rfl, rfl, rfl, rfl, rfl, rfl, rfl, hz⟩, rfl⟩)
  | false =>
    rw [if_neg (by decide)] at hR
    cbv
    exact hret _ (RetEv.ret eOk rfl ⟨a, b, a, b, g2', e2', r2', ys, true, by rw [hR], by rw [hR]; exact ⟨rfl, rfl, rfl, rfl, rfl, rfl, rfl, hy⟩, rfl⟩)

theorem balEq' (a b a' b' : Int) : eqF Try.prog [PV.int .i64 a, PV.int .i64 b] [PV.int .i64 a', PV.int .i64 b'] (Try.prog.fieldsOf 23).toList = some (decide (a = a') && (decide (b = b') && true)) := by kernel_rfl
theorem rSameState_spec (s t : Stt) (hs : s.ch.length < 9223372036854775807) {g e r g2 e2 r2 : Int} {xs ys : List PV} (hx : IsSt s g e r xs) (hy : IsSt t g2 e2 r2 ys) :
    FnL Try.prog 19 [.p (stP g e r xs), .p (stP g2 e2 r2 ys)] [] fun v own => ∃ c : Bool, (c = true ↔ s = t) ∧ v = .p (.bool c) ∧ own = [] := by
  refine FnL.flat (R := fun v own => ∃ c : Bool, (c = true ↔ s = t) ∧ v = .p (.bool c)) ?_ (by rintro _ _ ⟨c, h, rfl⟩; exact ⟨_, _, rfl, .refl _, c, h, rfl, rfl⟩)
  obtain ⟨g', e', r', ch⟩ := s
  obtain ⟨g2', e2', r2', ch2⟩ := t
  obtain ⟨rfl, rfl, rfl, hx⟩ := hx
  obtain ⟨rfl, rfl, rfl, hy⟩ := hy
  simp only at hx hy hs
  have hi := ints_spec ch ch2 hs
  rw [← hx, ← hy] at hi
  obtain ⟨c, hc⟩ : ∃ c, c = decide (ch = ch2) := ⟨_, rfl⟩
  rw [← hc] at hi
  refine fn_of_vc eOk fOk fo19 Try.func19 rfl rfl rfl fun B hB => ?_
  intro add sub mul quo rem band bor bxor bclr shl shr ieq ilt ile seq slt beq bnot orb bcond iwrap iof ssz hA cat sq sl imin imax smin smax len slen u8 hL op hop call hcall code hcode ret hret
  cbv
  by_cases h1 : g' = g2'
  · refine vcIf.yes (by first | (simp [hA.not, hA.eq, hA.lt, hA.le, hA.cond, hA.beq, hA.orb, hL.len, hL.slen, hL.sq, h1]; done) | (simp only [h1]; simp [hA.not, hA.eq, hA.lt, hA.le, hA.cond, hA.beq, hA.orb, hL.len, hL.slen, hL.sq, h1]; done) | (simp [hA.not, hA.eq, hA.lt, hA.le, hA.cond, hA.beq, hA.orb, hL.len, hL.slen, hL.sq, h1]; omega) | (simp only [h1]; simp [hA.not, hA.eq, hA.lt, hA.le, hA.cond, hA.beq, hA.orb, hL.len, hL.slen, hL.sq, h1]; omega)) ?_
    cbv
    by_cases h2 : e' = e2'
    · refine vcIf.yes (by first | (simp [hA.not, hA.eq, hA.lt, hA.le, hA.cond, hA.beq, hA.orb, hL.len, hL.slen, hL.sq, h1, h2]; done) | (simp only [h1, h2]; simp [hA.not, hA.eq, hA.lt, hA.le, hA.cond, hA.beq, hA.orb, hL.len, hL.slen, hL.sq, h1, h2]; done) | (simp [hA.not, hA.eq, hA.lt, hA.le, hA.cond, hA.beq, hA.orb, hL.len, hL.slen, hL.sq, h1, h2]; omega) | (simp only [h1, h2]; simp [hA.not, hA.eq, hA.lt, hA.le, hA.cond, hA.beq, hA.orb, hL.len, hL.slen, hL.sq, h1, h2]; omega)) ?_
      cbv
      by_cases h3 : r' = r2'
      · refine vcIf.yes (by first | (simp [hA.not, hA.eq, hA.lt, hA.le, hA.cond, hA.beq, hA.orb, hL.len, hL.slen, hL.sq, h1, h2, h3]; done) | (simp only [h1, h2, h3]; simp [hA.not, hA.eq, hA.lt, hA.le, hA.cond, hA.beq, hA.orb, hL.len, hL.slen, hL.sq, h1, h2, h3]; done) | (simp [hA.not, hA.eq, hA.lt, hA.le, hA.cond, hA.beq, hA.orb, hL.len, hL.slen, hL.sq, h1, h2, h3]; omega) | (simp only [h1, h2, h3]; simp [hA.not, hA.eq, hA.lt, hA.le, hA.cond, hA.beq, hA.orb, hL.len, hL.slen, hL.sq, h1, h2, h3]; omega)) ?_
        cbv
        refine hcall _ _ _ _ _ (CallEv.same hi rfl ?_)
        rintro _ _ ⟨rfl, rfl⟩
        cbv
        refine hret _ (RetEv.ret eOk rfl ⟨_, ?_, rfl⟩)
        simp [hA.cond, hA.eq, hc, h1, h2, h3]
      · refine vcIf.no (by first | (simp [hA.not, hA.eq, hA.lt, hA.le, hA.cond, hA.beq, hA.orb, hL.len, hL.slen, hL.sq, h1, h2, h3]; done) | (simp only [h1, h2, h3]; simp [hA.not, hA.eq, hA.lt, hA.le, hA.cond, hA.beq, hA.orb, hL.len, hL.slen, hL.sq, h1, h2, h3]; done) | (simp [hA.not, hA.eq, hA.lt, hA.le, hA.cond, hA.beq, hA.orb, hL.len, hL.slen, hL.sq, h1, h2, h3]; omega) | (simp only [h1, h2, h3]; simp [hA.not, hA.eq, hA.lt, hA.le, hA.cond, hA.beq, hA.orb, hL.len, hL.slen, hL.sq, h1, h2, h3]; omega)) ?_
        cbv
        refine hret _ (RetEv.ret eOk rfl ⟨_, ?_, rfl⟩)
        simp [hA.cond, hA.eq, h1, h2, h3]
    · refine vcIf.no (by first | (simp [hA.not, hA.eq, hA.lt, hA.le, hA.cond, hA.beq, hA.orb, hL.len, hL.slen, hL.sq, h1, h2]; done) | (simp only [h1, h2]; simp [hA.not, hA.eq, hA.lt, hA.le, hA.cond, hA.beq, hA.orb, hL.len, hL.slen, hL.sq, h1, h2]; done) | (simp [hA.not, hA.eq, hA.lt, hA.le, hA.cond, hA.beq, hA.orb, hL.len, hL.slen, hL.sq, h1, h2]; omega) | (simp only [h1, h2]; simp [hA.not, hA.eq, hA.lt, hA.le, hA.cond, hA.beq, hA.orb, hL.len, hL.slen, hL.sq, h1, h2]; omega)) ?_
      cbv
      repeat (first | (refine vcIf.yes ?_ ?_; (focus (simp [hA.not, hA.eq, hA.lt, hA.le, hA.cond, hA.beq, hA.orb, hL.len, hL.slen, hL.sq]; done)); cbv) | (refine vcIf.no ?_ ?_; (focus (simp [hA.not, hA.eq, hA.lt, hA.le, hA.cond, hA.beq, hA.orb, hL.len, hL.slen, hL.sq]; done)); cbv) | fail)
      refine hret _ (RetEv.ret eOk rfl ⟨_, ?_, rfl⟩)
      simp [hA.cond, hA.eq, h1, h2]
  · refine vcIf.no (by first | (simp [hA.not, hA.eq, hA.lt, hA.le, hA.cond, hA.beq, hA.orb, hL.len, hL.slen, hL.sq, h1]; done) | (simp only [h1]; simp [hA.not, hA.eq, hA.lt, hA.le, hA.cond, hA.beq, hA.orb, hL.len, hL.slen, hL.sq, h1]; done) | (simp [hA.not, hA.eq, hA.lt, hA.le, hA.cond, hA.beq, hA.orb, hL.len, hL.slen, hL.sq, h1]; omega) | (simp only [h1]; simp [hA.not, hA.eq, hA.lt, hA.le, hA.cond, hA.beq, hA.orb, hL.len, hL.slen, hL.sq, h1]; omega)) ?_
    cbv
    repeat (first | (refine vcIf.yes ?_ ?_; (focus (simp [hA.not, hA.eq, hA.lt, hA.le, hA.cond, hA.beq, hA.orb, hL.len, hL.slen, hL.sq]; done)); cbv) | (refine vcIf.no ?_ ?_; (focus (simp [hA.not, hA.eq, hA.lt, hA.le, hA.cond, hA.beq, hA.orb, hL.len, hL.slen, hL.sq]; done)); cbv) | fail)
    refine hret _ (RetEv.ret eOk rfl ⟨_, ?_, rfl⟩)
    simp [hA.cond, hA.eq, h1]
theorem IsVw.st {w : Vw4} {pn pd an ad g e r : Int} {zs : List PV} (h : IsVw w pn pd an ad g e r zs) : IsSt w.s g e r zs := h.2.2.2.2
theorem rSameVow_spec (w u : Vw4) (hs : w.s.ch.length < 9223372036854775807) {pn pd an ad g e r : Int} {zs : List PV} (hw : IsVw w pn pd an ad g e r zs) {pn2 pd2 an2 ad2 g2 e2 r2 : Int} {ys : List PV} (hu : IsVw u pn2 pd2 an2 ad2 g2 e2 r2 ys) :
    FnL Try.prog 13 [.p (vwP pn pd an ad g e r zs), .p (vwP pn2 pd2 an2 ad2 g2 e2 r2 ys)] [] fun v own => ∃ c : Bool, (c = true ↔ w = u) ∧ v = .p (.bool c) ∧ own = [] := by
  refine FnL.flat (R := fun v own => ∃ c : Bool, (c = true ↔ w = u) ∧ v = .p (.bool c)) ?_ (by rintro _ _ ⟨c, h, rfl⟩; exact ⟨_, _, rfl, .refl _, c, h, rfl, rfl⟩)
  have hi := rSameState_spec w.s u.s hs hw.st hu.st
  obtain ⟨pn', pd', an', ad', st⟩ := w
  obtain ⟨pn2', pd2', an2', ad2', st2⟩ := u
  obtain ⟨rfl, rfl, rfl, rfl, _⟩ := hw
  obtain ⟨rfl, rfl, rfl, rfl, _⟩ := hu
  simp only at hi
  obtain ⟨b1, hb1⟩ : ∃ b, b = (decide (pn' = pn2') && (decide (pd' = pd2') && true)) := ⟨_, rfl⟩
  obtain ⟨b2, hb2⟩ : ∃ b, b = (decide (an' = an2') && (decide (ad' = ad2') && true)) := ⟨_, rfl⟩
  have q1 := (balEq' pn' pd' pn2' pd2').trans (congrArg some hb1.symm)
  have q2 := (balEq' an' ad' an2' ad2').trans (congrArg some hb2.symm)
  have q1' : b1 = true ↔ pn' = pn2' ∧ pd' = pd2' := by rw [hb1]; simp
  have q2' : b2 = true ↔ an' = an2' ∧ ad' = ad2' := by rw [hb2]; simp
  clear hb1 hb2
  refine fn_of_vc eOk fOk fo13 Try.func13 rfl rfl rfl fun B hB => ?_
  intro add sub mul quo rem band bor bxor bclr shl shr ieq ilt ile seq slt beq bnot orb bcond iwrap iof ssz hA cat sq sl imin imax smin smax len slen u8 hL op hop call hcall code hcode ret hret
  cbv
  refine hop _ _ _ _ (OpEv.aggEq (b := b1) rfl rfl rfl (by kernel_rfl) (by kernel_rfl) (by kernel_rfl) q1 ?_)
  cbv
  cases b1 with
  | false =>
    cbv
    repeat (first | (refine vcIf.yes ?_ ?_; (focus (simp [hA.not, hA.eq, hA.lt, hA.le, hA.cond, hA.beq, hA.orb, hL.len, hL.slen, hL.sq]; done)); cbv) | (refine vcIf.no ?_ ?_; (focus (simp [hA.not, hA.eq, hA.lt, hA.le, hA.cond, hA.beq, hA.orb, hL.len, hL.slen, hL.sq]; done)); cbv) | fail)
    refine hret _ (RetEv.ret eOk rfl ⟨_, ?_, rfl⟩)
    simp at q1' ⊢
    exact fun h1 h2 => absurd h2 (q1' h1)
  | true =>
    have p1 := q1'.1 rfl
    cbv
    repeat (first | (refine vcIf.yes ?_ ?_; (focus (simp [hA.not, hA.eq, hA.lt, hA.le, hA.cond, hA.beq, hA.orb, hL.len, hL.slen, hL.sq]; done)); cbv) | (refine vcIf.no ?_ ?_; (focus (simp [hA.not, hA.eq, hA.lt, hA.le, hA.cond, hA.beq, hA.orb, hL.len, hL.slen, hL.sq]; done)); cbv) | fail)
    refine hop _ _ _ _ (OpEv.aggEq (b := b2) rfl rfl rfl (by kernel_rfl) (by kernel_rfl) (by kernel_rfl) q2 ?_)
    cbv
    cases b2 with
    | false =>
      cbv
      repeat (first | (refine vcIf.yes ?_ ?_; (focus (simp [hA.not, hA.eq, hA.lt, hA.le, hA.cond, hA.beq, hA.orb, hL.len, hL.slen, hL.sq]; done)); cbv) | (refine vcIf.no ?_ ?_; (focus (simp [hA.not, hA.eq, hA.lt, hA.le, hA.cond, hA.beq, hA.orb, hL.len, hL.slen, hL.sq]; done)); cbv) | fail)
      refine hret _ (RetEv.ret eOk rfl ⟨_, ?_, rfl⟩)
      simp at q2' ⊢
      exact fun _ _ h1 h2 => absurd h2 (q2' h1)
    | true =>
      have p2 := q2'.1 rfl
      cbv
      repeat (first | (refine vcIf.yes ?_ ?_; (focus (simp [hA.not, hA.eq, hA.lt, hA.le, hA.cond, hA.beq, hA.orb, hL.len, hL.slen, hL.sq]; done)); cbv) | (refine vcIf.no ?_ ?_; (focus (simp [hA.not, hA.eq, hA.lt, hA.le, hA.cond, hA.beq, hA.orb, hL.len, hL.slen, hL.sq]; done)); cbv) | fail)
      refine hcall _ _ _ _ _ (CallEv.same hi rfl ?_)
      rintro _ _ ⟨c, hc, rfl, rfl⟩
      cbv
      refine hret _ (RetEv.ret eOk rfl ⟨_, ?_, rfl⟩)
      simp only [hA.cond]
      obtain ⟨rfl, rfl⟩ := p1
      obtain ⟨rfl, rfl⟩ := p2
      simp [hc]
end Go.Proofs.Ytnigonhkfpnodaa
