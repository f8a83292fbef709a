/- A council's calls: ready, Vow, keep. Conditions: on sizes. -/
import Derived.Test.YtnigonhkfpnodaaLCo1
import Derived.Test.YtnigonhkfpnodaaLBo4
set_option maxRecDepth 100000
set_option maxHeartbeats 8000000
set_option linter.unusedSimpArgs false
set_option linter.unusedVariables false
namespace Go.Proofs.Ytnigonhkfpnodaa
open Go Go.Lx
open Go.Sx (vcIf)

structure Cn where
  b : Bk
  w : Vw4
abbrev coS (pn pd an ad g e r : Int) (zs : List PV) : Res := .st 85 [.own 2 0, .p (.int .i64 pn), .p (.int .i64 pd), .p (.int .i64 an), .p (.int .i64 ad), .p (.int .i64 g), .p (.int .i64 e), .p (.int .i64 r), .p (.sl zs)]
abbrev coO (n : Nat) (su ro af : Int) (d : Bool) (xs : List PV) (m : Nat) (dn : Bool) (rs : List PV) (pn pd an ad g e r : Int) (zs : List PV) : List Res := [tpS n su ro af d, tpA xs, bkS m dn, bkA rs, coS pn pd an ad g e r zs]
def IsCo (c : Cn) (n : Nat) (su ro af : Int) (d : Bool) (xs : List PV) (m : Nat) (dn : Bool) (rs : List PV) (pn pd an ad g e r : Int) (zs : List PV) : Prop := IsBk c.b n su ro af d xs m dn rs ∧ IsVw c.w pn pd an ad g e r zs
theorem coL {own : List Res} {js : List Nat} {i j k q c : Nat} {n : Nat} {su ro af : Int} {d : Bool} {xs : List PV} {m : Nat} {dn : Bool} {rs : List PV} {pn pd an ad g e r : Int} {zs : List PV} (h0 : js[0]? = some i) (h1 : js[1]? = some j) (h2 : js[2]? = some k) (h3 : js[3]? = some q)
    (g0 : own[i]? = some (.st 96 [.vw j 1 0 n none, .p (.int .i64 su), .p (.int .i64 ro), .p (.int .i64 af), .p (.bool d)])) (g1 : own[j]? = some (tpA xs)) (g2 : own[k]? = some (.st 131 [.own i 0, .vw q 1 0 m none, .p (.bool dn)])) (g3 : own[q]? = some (bkA rs))
    (g4 : own[c]? = some (.st 85 [.own k 0, .p (.int .i64 pn), .p (.int .i64 pd), .p (.int .i64 an), .p (.int .i64 ad), .p (.int .i64 g), .p (.int .i64 e), .p (.int .i64 r), .p (.sl zs)])) :
    TrO own js [] [i, j, k, q, c] (coO n su ro af d xs m dn rs pn pd an ad g e r zs) :=
  ⟨⟨_, g0, .st _ _ _ (.cons (.vw 1 j 1 0 n none h1) (.cons (.p _) (.cons (.p _) (.cons (.p _) (.cons (.p _) .nil)))))⟩, ⟨_, g1, .arr _ _ _⟩, ⟨_, g2, .st _ _ _ (.cons (.own 0 i 0 h0) (.cons (.vw 3 q 1 0 m none h3) (.cons (.p _) .nil)))⟩, ⟨_, g3, .arr _ _ _⟩,
    ⟨_, g4, .st _ _ _ (.cons (.own 2 k 0 h2) (.cons (.p _) (.cons (.p _) (.cons (.p _) (.cons (.p _) (.cons (.p _) (.cons (.p _) (.cons (.p _) (.cons (.p _) .nil)))))))))⟩, trivial⟩

def cnReady (dn : Bool) (a b : Int) : Nat := if dn = true then 11 else if a < 0 ∨ b < 0 then 1 else 0
theorem coReady_spec (a b : Int) {n : Nat} {su ro af : Int} {d : Bool} {xs : List PV} {m : Nat} {dn : Bool} {rs : List PV} {pn pd an ad g e r : Int} {zs : List PV} :
    FnL Try.prog 32 [.own 4 0, .p (baP a b)] (coO n su ro af d xs m dn rs pn pd an ad g e r zs) fun v own => ∃ z : Int, z = (cnReady dn a b : Int) ∧ v = .p (.int .i64 z) ∧ own = coO n su ro af d xs m dn rs pn pd an ad g e r zs := by
  refine FnL.less (R := fun v own => ∃ (z : Int) (ex : List Res), z = (cnReady dn a b : Int) ∧ v = .p (.int .i64 z) ∧ own = coO n su ro af d xs m dn rs pn pd an ad g e r zs ++ ex) ?_
    (by rintro _ _ ⟨z, ex, h, rfl, rfl⟩; exact ⟨_, _, ex, rfl, .refl _, rfl, rfl, Nat.le_refl _, z, h, rfl, rfl⟩)
  refine fn_of_vc eOk fOk fo32 Try.func32 rfl rfl rfl fun B hB => ?_
  intro add sub mul quo rem band bor bxor bclr shl shr ieq ilt ile seq slt beq bnot orb bcond iwrap iof ssz hA cat sq sl imin imax smin smax len slen u8 hL op hop call hcall code hcode ret hret
  have hmin : imin a b = if b < a then b else a := hL.imin a b
  cbv
  refine hcall _ _ _ _ _ (CallEv.lend [0, 1, 2, 3] (bkReady_spec (n := n) (su := su) (ro := ro) (af := af) (d := d) (xs := xs) (m := m) (dn := dn) (rs := rs)) rfl (.cons (.own 2 2 0 rfl) .nil) (bkL rfl rfl rfl rfl rfl rfl rfl) ?_)
  rintro _ _ ⟨rfl, rfl⟩
  cases dn with
  | true =>
    cbv
    refine vcIf.yes (by first | (simp [hA.not, hA.eq, hA.lt, hA.le, hA.cond, hA.beq, hA.orb, hL.len, hL.slen, hL.sq]; done) | (simp [hA.not, hA.eq, hA.lt, hA.le, hA.cond, hA.beq, hA.orb, hL.len, hL.slen, hL.sq]; omega)) ?_
    cbv
    exact hret _ (RetEv.ret eOk rfl ⟨11, _, rfl, rfl, rfl⟩)
  | false =>
    cbv
    refine vcIf.no (by first | (simp [hA.not, hA.eq, hA.lt, hA.le, hA.cond, hA.beq, hA.orb, hL.len, hL.slen, hL.sq]; done) | (simp [hA.not, hA.eq, hA.lt, hA.le, hA.cond, hA.beq, hA.orb, hL.len, hL.slen, hL.sq]; omega)) ?_
    cbv
    by_cases h : a < 0 ∨ b < 0
    · refine vcIf.yes (by rw [hA.lt, hmin]; exact decide_eq_true (by split <;> omega)) ?_
      cbv
      exact hret _ (RetEv.ret eOk rfl ⟨1, _, by unfold cnReady; rw [if_neg (by decide), if_pos h]; rfl, rfl, rfl⟩)
    · refine vcIf.no (by rw [hA.lt, hmin]; exact decide_eq_false (by split <;> omega)) ?_
      cbv
      exact hret _ (RetEv.ret eOk rfl ⟨0, _, by unfold cnReady; rw [if_neg (by decide), if_neg h]; rfl, rfl, rfl⟩)
theorem coReady_nil (a b : Int) : FnL Try.prog 32 [.p .nilp, .p (baP a b)] [] fun v own => v = .p (.int .i64 1) ∧ own = [] := by
  refine FnL.less (R := fun v own => v = .p (.int .i64 1)) ?_ (by rintro _ ex rfl; exact ⟨_, [], ex, rfl, .refl _, rfl, rfl, Nat.le_refl _, rfl, rfl⟩)
  refine fn_of_vc eOk fOk fo32 Try.func32 rfl rfl rfl fun B hB => ?_
  intro add sub mul quo rem band bor bxor bclr shl shr ieq ilt ile seq slt beq bnot orb bcond iwrap iof ssz hA cat sq sl imin imax smin smax len slen u8 hL op hop call hcall code hcode ret hret
  cbv
  exact hret _ (RetEv.ret eOk rfl rfl)
theorem blt_irrefl (a b : Int) : blt a b a b = false := by unfold blt; simp
theorem coVow_spec (w : Vw4) (hs : w.s.ch.length * 8 ≤ 140737488355328) {n : Nat} {su ro af : Int} {d : Bool} {xs : List PV} {m : Nat} {dn : Bool} {rs : List PV} {pn pd an ad g e r : Int} {zs : List PV} (hw : IsVw w pn pd an ad g e r zs) :
    FnL Try.prog 14 [.own 4 0] (coO n su ro af d xs m dn rs pn pd an ad g e r zs) fun v own => v = .p (vwP pn pd an ad g e r zs) ∧ own = coO n su ro af d xs m dn rs pn pd an ad g e r zs := by
  refine FnL.less (R := fun v own => ∃ ex, v = .p (vwP pn pd an ad g e r zs) ∧ own = coO n su ro af d xs m dn rs pn pd an ad g e r zs ++ ex) ?_
    (by rintro _ _ ⟨ex, rfl, rfl⟩; exact ⟨_, _, ex, rfl, .refl _, rfl, rfl, Nat.le_refl _, rfl, rfl⟩)
  have htk := takeV_spec w pn pd w.s hw hs hw.st hs
  have hq : tkv w pn pd w.s = (⟨pn, pd, pn, pd, w.s⟩, true) := by unfold tkv; rw [hw.1, hw.2.1, blt_irrefl, if_neg (by decide)]
  rw [hq] at htk
  have hst := hw.st
  refine fn_of_vc eOk fOk fo14 Try.func14 rfl rfl rfl fun B hB => ?_
  intro add sub mul quo rem band bor bxor bclr shl shr ieq ilt ile seq slt beq bnot orb bcond iwrap iof ssz hA cat sq sl imin imax smin smax len slen u8 hL op hop call hcall code hcode ret hret
  cbv
  refine hcode _ _ _ (CodeEv.drawT eOk fOk (by kernel_rfl) (Xof 5 []) (.rd 0 (.rd 1 (.rd 2 (.rd 3 (.rd 4 (.rd 5 (.rd 6 (.rd 7 (.rd 8 (.rd 9 (.rd 10 (.rd 11 (.rd 12 (.rd 13 (.acts (.cons 14 (.rd 15 (.rd 16 (.rd 17 (.acts (.cons 18 (.acts (.cons 19 (.so 20 (.done)) (.nil))) (.nil)))))) (.cons 18 (.acts (.cons 14 (.so 15 (.rd 16 (.rd 17 (.acts (.cons 19 (.so 20 (.done)) (.nil)))))) (.nil))) (.nil)))))))))))))))))) (by kernel_rfl) (by kernel_rfl) ?_)
  intro add2 sub2 mul2 quo2 rem2 band2 bor2 bxor2 bclr2 shl2 shr2 ieq2 ilt2 ile2 seq2 slt2 beq2 bnot2 orb2 bcond2 iwrap2 iof2 ssz2 hA2 cat2 sq2 sl2 imin2 imax2 smin2 smax2 len2 slen2 u82 hL2 op2 hop2 call2 hcall2 code2 hcode2 q2 hq2
  cbv
  refine ⟨?_, ?_⟩
  · refine hcall2 _ _ _ _ _ (CallEv.same htk rfl ?_)
    rintro _ _ ⟨pn', pd', an', ad', g', e', r', zs', ok, hok, ⟨f1, f2, f3, f4, f5, f6, f7, f8⟩, rfl, rfl⟩
    obtain rfl : pn' = pn := f1.symm
    obtain rfl : pd' = pd := f2.symm
    obtain rfl : g' = g := f5.symm.trans hst.1
    obtain rfl : e' = e := f6.symm.trans hst.2.1
    obtain rfl : r' = r := f7.symm.trans hst.2.2.1
    obtain rfl : zs' = zs := f8.trans hst.2.2.2.symm
    cbv
    refine hq2 _ ?_
    cbv
    exact hret _ (RetEv.ret eOk rfl ⟨_, rfl, rfl⟩)
  · refine hcall2 _ _ _ _ _ (CallEv.same htk rfl ?_)
    rintro _ _ ⟨pn', pd', an', ad', g', e', r', zs', ok, hok, ⟨f1, f2, f3, f4, f5, f6, f7, f8⟩, rfl, rfl⟩
    obtain rfl : pn' = pn := f1.symm
    obtain rfl : pd' = pd := f2.symm
    obtain rfl : g' = g := f5.symm.trans hst.1
    obtain rfl : e' = e := f6.symm.trans hst.2.1
    obtain rfl : r' = r := f7.symm.trans hst.2.2.1
    obtain rfl : zs' = zs := f8.trans hst.2.2.2.symm
    cbv
    refine hq2 _ ?_
    cbv
    exact hret _ (RetEv.ret eOk rfl ⟨_, rfl, rfl⟩)
theorem coVow_nil : FnL Try.prog 14 [.p .nilp] [] fun v own => v = .p (vwP 0 0 0 0 0 0 0 []) ∧ own = [] := by
  refine FnL.flat (R := fun v own => v = .p (.agg [.int .i64 0, .int .i64 0, .int .i64 0, .int .i64 0, .int .i64 0, .int .i64 0, .int .i64 0, .nils])) ?_
    (by rintro _ _ rfl; exact ⟨_, vwP 0 0 0 0 0 0 0 [], rfl, PW.agg ⟨.refl _, .refl _, .refl _, .refl _, .refl _, .refl _, .refl _, PW.nils, trivial⟩, rfl, rfl⟩)
  refine fn_of_vc eOk fOk fo14 Try.func14 rfl rfl rfl fun B hB => ?_
  intro add sub mul quo rem band bor bxor bclr shl shr ieq ilt ile seq slt beq bnot orb bcond iwrap iof ssz hA cat sq sl imin imax smin smax len slen u8 hL op hop call hcall code hcode ret hret
  cbv
  exact hret _ (RetEv.ret eOk rfl rfl)

def cnKeep (c : Cn) (w : Vw4) : Nat × Cn :=
  if (vEnc w).2 ≠ 0 then ((vEnc w).2, c)
  else ((bkReset c.b [(vEnc w).1]).1, ⟨(bkReset c.b [(vEnc w).1]).2, if (bkReset c.b [(vEnc w).1]).1 = 0 then w else c.w⟩)
theorem vBytes_len (w : Vw4) (hs : w.fit) (h : w.okB = true) : (vBytes w).length ≤ 240 := by
  have h1 := w.ok_iff.1 h
  have h2 := sBytes_len w.s hs.2 h1.2.2.2.2.1
  have h3 := encs_len [w.pn, w.pd, w.an, w.ad] (fun z hz => (hs.1 z hz).2)
  unfold vBytes
  rw [List.length_append]
  simp only [List.length_cons, List.length_nil] at h3
  omega
theorem vEnc_len (w : Vw4) (hs : w.fit) : (vEnc w).1.length ≤ 240 := by
  unfold vEnc; split
  · exact vBytes_len w hs (by assumption)
  · simp
theorem coKeep_spec {c : Cn} {n : Nat} {su ro af : Int} {d : Bool} {xs : List PV} {m : Nat} {dn : Bool} {rs : List PV} {pn pd an ad g e r : Int} {zs : List PV} (hc : IsCo c n su ro af d xs m dn rs pn pd an ad g e r zs)
    (w : Vw4) (hwf : w.fit) {pn2 pd2 an2 ad2 g2 e2 r2 : Int} {ys : List PV} (hw : IsVw w pn2 pd2 an2 ad2 g2 e2 r2 ys) :
    FnL Try.prog 34 [.own 4 0, .p (vwP pn2 pd2 an2 ad2 g2 e2 r2 ys)] (coO n su ro af d xs m dn rs pn pd an ad g e r zs) fun v own => ∃ (z : Int) (n' : Nat) (su' ro' af' : Int) (d' : Bool) (xs' : List PV) (m' : Nat) (dn' : Bool) (rs' : List PV) (pn' pd' an' ad' g' e' r' : Int) (zs' : List PV),
      z = ((cnKeep c w).1 : Int) ∧ IsCo (cnKeep c w).2 n' su' ro' af' d' xs' m' dn' rs' pn' pd' an' ad' g' e' r' zs' ∧ v = .p (.int .i64 z) ∧ own = coO n' su' ro' af' d' xs' m' dn' rs' pn' pd' an' ad' g' e' r' zs' := by
  refine FnL.less (R := fun v own => ∃ (z : Int) (n' : Nat) (su' ro' af' : Int) (d' : Bool) (xs' : List PV) (m' : Nat) (dn' : Bool) (rs' : List PV) (pn' pd' an' ad' g' e' r' : Int) (zs' : List PV) (ex : List Res),
      z = ((cnKeep c w).1 : Int) ∧ IsCo (cnKeep c w).2 n' su' ro' af' d' xs' m' dn' rs' pn' pd' an' ad' g' e' r' zs' ∧ v = .p (.int .i64 z) ∧ own = coO n' su' ro' af' d' xs' m' dn' rs' pn' pd' an' ad' g' e' r' zs' ++ ex) ?_
    (by rintro _ _ ⟨z, n', su', ro', af', d', xs', m', dn', rs', pn', pd', an', ad', g', e', r', zs', ex, h1, h2, rfl, rfl⟩; exact ⟨_, _, ex, rfl, .refl _, rfl, rfl, Nat.le_refl _, z, n', su', ro', af', d', xs', m', dn', rs', pn', pd', an', ad', g', e', r', zs', h1, h2, rfl, rfl⟩)
  obtain ⟨R, hR⟩ : ∃ R, R = cnKeep c w := ⟨_, rfl⟩
  rw [← hR]
  unfold cnKeep at hR
  have hen := blEncode_spec w hwf ys hw.2.2.2.2.2.2.2
  have hel := vEnc_len w hwf
  obtain ⟨T, hT⟩ : ∃ T, T = vEnc w := ⟨_, rfl⟩
  rw [← hT] at hen hel hR
  obtain ⟨w1, w2, w3, w4, w5, w6, w7, w8⟩ := hw
  rw [w1, w2, w3, w4, w5, w6, w7] at hen
  have hreset := bkReset_spec hc.1 [T.1] (by simp; omega) (by simp) (rcP [T.1]) rfl
  obtain ⟨S, hS⟩ : ∃ S, S = bkReset c.b [T.1] := ⟨_, rfl⟩
  rw [← hS] at hreset hR
  refine fn_of_vc eOk fOk fo34 Try.func34 rfl rfl rfl fun B hB => ?_
  intro add sub mul quo rem band bor bxor bclr shl shr ieq ilt ile seq slt beq bnot orb bcond iwrap iof ssz hA cat sq sl imin imax smin smax len slen u8 hL op hop call hcall code hcode ret hret
  cbv
  refine hcall _ _ _ _ _ (CallEv.same hen rfl ?_)
  rintro _ _ ⟨bs, l, z1, hl, hbs, rfl, rfl⟩
  have hT1 : T.1 = l := by rw [← hl]
  have hT2 : T.2 = z1 := by rw [← hl]
  have hrc : rcP [T.1] = [.sl bs] := by rw [hT1, hbs]; rfl
  rw [hrc] at hreset
  rw [hT2] at hR
  cbv
  by_cases h0 : z1 = 0
  · rw [if_neg (fun c => c h0)] at hR
    refine vcIf.yes (by first | (simp [hA.not, hA.eq, hA.lt, hA.le, hA.cond, hA.beq, hA.orb, hL.len, hL.slen, hL.sq, h0]; done) | (simp only [h0]; simp [hA.not, hA.eq, hA.lt, hA.le, hA.cond, hA.beq, hA.orb, hL.len, hL.slen, hL.sq, h0]; done) | (simp [hA.not, hA.eq, hA.lt, hA.le, hA.cond, hA.beq, hA.orb, hL.len, hL.slen, hL.sq, h0]; omega) | (simp only [h0]; simp [hA.not, hA.eq, hA.lt, hA.le, hA.cond, hA.beq, hA.orb, hL.len, hL.slen, hL.sq, h0]; omega)) ?_
    cbv
    refine ⟨false, ?_⟩
    cbv
    refine hcall _ _ _ _ _ (CallEv.lend [0, 1, 2, 3] hreset rfl (.cons (.own 2 2 0 rfl) (.cons (.p _) .nil)) (bkL rfl rfl rfl rfl rfl rfl rfl) ?_)
    rintro _ _ ⟨z, n1, su1, ro1, af1, d1, xs1, m1, dn1, rs1, hz, hb1, rfl, rfl⟩
    obtain ⟨hz0, hz1, _⟩ := isE hz
    cbv
    by_cases hzz : z = 0
    · rw [if_pos (hz0 hzz)] at hR
      refine vcIf.yes (by first | (simp [hA.not, hA.eq, hA.lt, hA.le, hA.cond, hA.beq, hA.orb, hL.len, hL.slen, hL.sq, hzz]; done) | (simp only [hzz]; simp [hA.not, hA.eq, hA.lt, hA.le, hA.cond, hA.beq, hA.orb, hL.len, hL.slen, hL.sq, hzz]; done) | (simp [hA.not, hA.eq, hA.lt, hA.le, hA.cond, hA.beq, hA.orb, hL.len, hL.slen, hL.sq, hzz]; omega) | (simp only [hzz]; simp [hA.not, hA.eq, hA.lt, hA.le, hA.cond, hA.beq, hA.orb, hL.len, hL.slen, hL.sq, hzz]; omega)) ?_
      cbv
      refine hret _ (RetEv.ret eOk rfl ⟨z, n1, su1, ro1, af1, d1, xs1, m1, dn1, rs1, pn2, pd2, an2, ad2, g2, e2, r2, ys, _, ?_, ?_, rfl, rfl⟩)
      · rw [hR]; exact hz
      · rw [hR]; exact ⟨hb1, w1, w2, w3, w4, w5, w6, w7, w8⟩
    · rw [if_neg (hz1 hzz)] at hR
      refine vcIf.no (by first | (simp [hA.not, hA.eq, hA.lt, hA.le, hA.cond, hA.beq, hA.orb, hL.len, hL.slen, hL.sq, hzz]; done) | (simp only [hzz]; simp [hA.not, hA.eq, hA.lt, hA.le, hA.cond, hA.beq, hA.orb, hL.len, hL.slen, hL.sq, hzz]; done) | (simp [hA.not, hA.eq, hA.lt, hA.le, hA.cond, hA.beq, hA.orb, hL.len, hL.slen, hL.sq, hzz]; omega) | (simp only [hzz]; simp [hA.not, hA.eq, hA.lt, hA.le, hA.cond, hA.beq, hA.orb, hL.len, hL.slen, hL.sq, hzz]; omega)) ?_
      cbv
      refine hret _ (RetEv.ret eOk rfl ⟨z, n1, su1, ro1, af1, d1, xs1, m1, dn1, rs1, pn, pd, an, ad, g, e, r, zs, _, ?_, ?_, rfl, rfl⟩)
      · rw [hR]; exact hz
      · rw [hR]; exact ⟨hb1, hc.2⟩
  · rw [if_pos h0] at hR
    refine vcIf.no (by first | (simp [hA.not, hA.eq, hA.lt, hA.le, hA.cond, hA.beq, hA.orb, hL.len, hL.slen, hL.sq, h0]; done) | (simp only [h0]; simp [hA.not, hA.eq, hA.lt, hA.le, hA.cond, hA.beq, hA.orb, hL.len, hL.slen, hL.sq, h0]; done) | (simp [hA.not, hA.eq, hA.lt, hA.le, hA.cond, hA.beq, hA.orb, hL.len, hL.slen, hL.sq, h0]; omega) | (simp only [h0]; simp [hA.not, hA.eq, hA.lt, hA.le, hA.cond, hA.beq, hA.orb, hL.len, hL.slen, hL.sq, h0]; omega)) ?_
    cbv
    refine vcIf.no (by first | (simp [hA.not, hA.eq, hA.lt, hA.le, hA.cond, hA.beq, hA.orb, hL.len, hL.slen, hL.sq, h0]; done) | (simp only [h0]; simp [hA.not, hA.eq, hA.lt, hA.le, hA.cond, hA.beq, hA.orb, hL.len, hL.slen, hL.sq, h0]; done) | (simp [hA.not, hA.eq, hA.lt, hA.le, hA.cond, hA.beq, hA.orb, hL.len, hL.slen, hL.sq, h0]; omega) | (simp only [h0]; simp [hA.not, hA.eq, hA.lt, hA.le, hA.cond, hA.beq, hA.orb, hL.len, hL.slen, hL.sq, h0]; omega)) ?_
    cbv
    refine hret _ (RetEv.ret eOk rfl ⟨Int.ofNat z1, n, su, ro, af, d, xs, m, dn, rs, pn, pd, an, ad, g, e, r, zs, _, ?_, ?_, rfl, rfl⟩)
    · rw [hR]; rfl
    · rw [hR]; exact hc
end Go.Proofs.Ytnigonhkfpnodaa
