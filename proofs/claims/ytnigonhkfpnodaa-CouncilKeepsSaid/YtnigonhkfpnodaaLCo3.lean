/- A council's calls: Prepare, Accept, Open. Conditions: on sizes. -/
import Derived.Test.YtnigonhkfpnodaaLCo2
set_option maxRecDepth 100000
set_option maxHeartbeats 8000000
set_option linter.unusedSimpArgs false
set_option linter.unusedVariables false
namespace Go.Proofs.Ytnigonhkfpnodaa
open Go Go.Lx
open Go.Sx (vcIf)

structure CnP where
  e : Nat
  ok : Bool
  v : Vw4
  c : Cn
def cnPrep (c : Cn) (a b : Int) : CnP :=
  if cnReady c.b.dn a b ≠ 0 then ⟨cnReady c.b.dn a b, false, Vw4.zero, c⟩
  else if (prm c.w a b).2 = true then
    if (cnKeep c (prm c.w a b).1).1 ≠ 0 then ⟨(cnKeep c (prm c.w a b).1).1, false, Vw4.zero, (cnKeep c (prm c.w a b).1).2⟩ else ⟨0, true, (cnKeep c (prm c.w a b).1).2.w, (cnKeep c (prm c.w a b).1).2⟩
  else ⟨0, false, c.w, c⟩
def cnAcc (c : Cn) (a b : Int) (s : Stt) : CnP :=
  if cnReady c.b.dn a b ≠ 0 then ⟨cnReady c.b.dn a b, false, Vw4.zero, c⟩
  else if s.okB = false then ⟨2, false, Vw4.zero, c⟩
  else if (tkv c.w a b s).2 = true then
    if (cnKeep c (tkv c.w a b s).1).1 ≠ 0 then ⟨(cnKeep c (tkv c.w a b s).1).1, false, Vw4.zero, (cnKeep c (tkv c.w a b s).1).2⟩ else ⟨0, true, Vw4.zero, (cnKeep c (tkv c.w a b s).1).2⟩
  else ⟨0, false, Vw4.zero, c⟩
theorem prm_fit {w : Vw4} (h : w.fit) {a b : Int} (ha : -9223372036854775808 ≤ a ∧ a ≤ 9223372036854775807) (hb : -9223372036854775808 ≤ b ∧ b ≤ 9223372036854775807) : (prm w a b).1.fit := by
  unfold prm; split
  · refine ⟨fun z hz => ?_, h.2⟩
    have h1 := h.1
    simp only [List.mem_cons, List.not_mem_nil, or_false] at hz h1
    rcases hz with rfl | rfl | rfl | rfl
    · exact ha
    · exact hb
    · exact h1 _ (.inr (.inr (.inl rfl)))
    · exact h1 _ (.inr (.inr (.inr rfl)))
  · exact h
theorem tkv_fit {w : Vw4} (h : w.fit) {a b : Int} (ha : -9223372036854775808 ≤ a ∧ a ≤ 9223372036854775807) (hb : -9223372036854775808 ≤ b ∧ b ≤ 9223372036854775807) {s : Stt} (hs : s.fit) : (tkv w a b s).1.fit := by
  unfold tkv; split
  · exact h
  · refine ⟨fun z hz => ?_, hs⟩
    simp only [List.mem_cons, List.not_mem_nil, or_false] at hz
    rcases hz with rfl | rfl | rfl | rfl <;> assumption
theorem IsVw.zero : IsVw Vw4.zero 0 0 0 0 0 0 0 [] := ⟨rfl, rfl, rfl, rfl, rfl, rfl, rfl, rfl⟩

theorem coPrep_spec {c : Cn} {n : Nat} {su ro af : Int} {d : Bool} {xs : List PV} {m : Nat} {dn : Bool} {rs : List PV} {pn pd an ad g e r : Int} {zs : List PV} (hc : IsCo c n su ro af d xs m dn rs pn pd an ad g e r zs) (hwf : c.w.fit) (hs : c.w.s.ch.length * 8 ≤ 140737488355328)
    (a b : Int) (ha : -9223372036854775808 ≤ a ∧ a ≤ 9223372036854775807) (hb : -9223372036854775808 ≤ b ∧ b ≤ 9223372036854775807) :
    FnL Try.prog 9 [.own 4 0, .p (baP a b)] (coO n su ro af d xs m dn rs pn pd an ad g e r zs) fun v own => ∃ (z : Int) (ok : Bool) (qn qd bn bd g2 e2 r2 : Int) (ys : List PV) (n' : Nat) (su' ro' af' : Int) (d' : Bool) (xs' : List PV) (m' : Nat) (dn' : Bool) (rs' : List PV) (pn' pd' an' ad' g' e' r' : Int) (zs' : List PV),
      z = ((cnPrep c a b).e : Int) ∧ ok = (cnPrep c a b).ok ∧ IsVw (cnPrep c a b).v qn qd bn bd g2 e2 r2 ys ∧ IsCo (cnPrep c a b).c n' su' ro' af' d' xs' m' dn' rs' pn' pd' an' ad' g' e' r' zs' ∧ v = .p (.tup [vwP qn qd bn bd g2 e2 r2 ys, .bool ok, .int .i64 z]) ∧ own = coO n' su' ro' af' d' xs' m' dn' rs' pn' pd' an' ad' g' e' r' zs' := by
  refine FnL.less (R := fun v own => ∃ (y : PV) (z : Int) (ok : Bool) (qn qd bn bd g2 e2 r2 : Int) (ys : List PV) (n' : Nat) (su' ro' af' : Int) (d' : Bool) (xs' : List PV) (m' : Nat) (dn' : Bool) (rs' : List PV) (pn' pd' an' ad' g' e' r' : Int) (zs' : List PV) (ex : List Res),
      z = ((cnPrep c a b).e : Int) ∧ ok = (cnPrep c a b).ok ∧ IsVw (cnPrep c a b).v qn qd bn bd g2 e2 r2 ys ∧ IsCo (cnPrep c a b).c n' su' ro' af' d' xs' m' dn' rs' pn' pd' an' ad' g' e' r' zs' ∧ PW y (vwP qn qd bn bd g2 e2 r2 ys) ∧ v = .p (.tup [y, .bool ok, .int .i64 z]) ∧ own = coO n' su' ro' af' d' xs' m' dn' rs' pn' pd' an' ad' g' e' r' zs' ++ ex) ?_
    (by
      rintro _ _ ⟨y, z, ok, qn, qd, bn, bd, g2, e2, r2, ys, n', su', ro', af', d', xs', m', dn', rs', pn', pd', an', ad', g', e', r', zs', ex, h1, h2, h3, h4, h5, rfl, rfl⟩
      exact ⟨.p (.tup [vwP qn qd bn bd g2 e2 r2 ys, .bool ok, .int .i64 z]), _, ex, rfl, .p (PW.tup ⟨h5, .refl _, .refl _, trivial⟩), rfl, rfl, Nat.le_refl _, z, ok, qn, qd, bn, bd, g2, e2, r2, ys, n', su', ro', af', d', xs', m', dn', rs', pn', pd', an', ad', g', e', r', zs', h1, h2, h3, h4, rfl, rfl⟩)
  have pw0 : PW (.agg [.int .i64 0, .int .i64 0, .int .i64 0, .int .i64 0, .int .i64 0, .int .i64 0, .int .i64 0, .nils]) (vwP 0 0 0 0 0 0 0 []) := PW.agg ⟨.refl _, .refl _, .refl _, .refl _, .refl _, .refl _, .refl _, PW.nils, trivial⟩
  obtain ⟨R, hR⟩ : ∃ R, R = cnPrep c a b := ⟨_, rfl⟩
  rw [← hR]
  unfold cnPrep at hR
  have hc0 := hc
  have hdn := hc.1.2.2.1
  rw [← hdn] at hR
  have hrdy := coReady_spec a b (n := n) (su := su) (ro := ro) (af := af) (d := d) (xs := xs) (m := m) (dn := dn) (rs := rs) (pn := pn) (pd := pd) (an := an) (ad := ad) (g := g) (e := e) (r := r) (zs := zs)
  obtain ⟨Y, hY⟩ : ∃ Y, Y = cnReady dn a b := ⟨_, rfl⟩
  rw [← hY] at hrdy hR
  have hprm := promiseV_spec c.w a b hc.2 hs
  have hpf := prm_fit hwf ha hb
  obtain ⟨Q, hQ⟩ : ∃ Q, Q = prm c.w a b := ⟨_, rfl⟩
  have hQs : Q.1.s = c.w.s := by rw [hQ]; unfold prm; split <;> rfl
  have hQn : Q.2 = false → Q.1 = c.w := by rw [hQ]; unfold prm; split <;> simp
  rw [← hQ] at hprm hpf hR
  have hvow := fun (w : Vw4) (hw : w.s.ch.length * 8 ≤ 140737488355328) => @coVow_spec w hw
  refine fn_of_vc eOk fOk fo9 Try.func9 rfl rfl rfl fun B hB => ?_
  intro add sub mul quo rem band bor bxor bclr shl shr ieq ilt ile seq slt beq bnot orb bcond iwrap iof ssz hA cat sq sl imin imax smin smax len slen u8 hL op hop call hcall code hcode ret hret
  cbv
  refine hcall _ _ _ _ _ (CallEv.lend [0, 1, 2, 3, 4] hrdy rfl (.cons (.own 4 4 0 rfl) (.cons (.p _) .nil)) (coL rfl rfl rfl rfl rfl rfl rfl rfl rfl) ?_)
  rintro _ _ ⟨y, hy, rfl, rfl⟩
  obtain ⟨hy0, hy1, _⟩ := isE hy
  cbv
  by_cases h0 : y = 0
  · rw [if_neg (fun c => c (hy0 h0))] at hR
    refine vcIf.no (by first | (simp [hA.not, hA.eq, hA.lt, hA.le, hA.cond, hA.beq, hA.orb, hL.len, hL.slen, hL.sq, h0]; done) | (simp only [h0]; simp [hA.not, hA.eq, hA.lt, hA.le, hA.cond, hA.beq, hA.orb, hL.len, hL.slen, hL.sq, h0]; done) | (simp [hA.not, hA.eq, hA.lt, hA.le, hA.cond, hA.beq, hA.orb, hL.len, hL.slen, hL.sq, h0]; omega) | (simp only [h0]; simp [hA.not, hA.eq, hA.lt, hA.le, hA.cond, hA.beq, hA.orb, hL.len, hL.slen, hL.sq, h0]; omega)) ?_
    cbv
    refine hcode _ _ _ (CodeEv.drawT eOk fOk (by kernel_rfl) (Xof 7 []) (.rd 0 (.rd 1 (.rd 2 (.rd 3 (.rd 4 (.acts (.cons 5 (.rd 6 (.rd 7 (.rd 8 (.acts (.cons 9 (.acts (.cons 10 (.so 11 (.done)) (.nil))) (.nil)))))) (.cons 9 (.acts (.cons 5 (.so 6 (.rd 7 (.rd 8 (.acts (.cons 10 (.so 11 (.done)) (.nil)))))) (.nil))) (.nil))))))))) (by kernel_rfl) (by kernel_rfl) ?_)
    intro add2 sub2 mul2 quo2 rem2 band2 bor2 bxor2 bclr2 shl2 shr2 ieq2 ilt2 ile2 seq2 slt2 beq2 bnot2 orb2 bcond2 iwrap2 iof2 ssz2 hA2 cat2 sq2 sl2 imin2 imax2 smin2 smax2 len2 slen2 u82 hL2 op2 hop2 call2 hcall2 code2 hcode2 q2 hq2
    cbv
    refine ⟨?_, ?_⟩
    · refine hcall2 _ _ _ _ _ (CallEv.same hprm rfl ?_)
      rintro _ _ ⟨pn2, pd2, an2, ad2, g2, e2, r2, zs2, ok, hok, hv2, rfl, rfl⟩
      have hkeep := coKeep_spec hc0 Q.1 hpf hv2
      obtain ⟨K, hK⟩ : ∃ K, K = cnKeep c Q.1 := ⟨_, rfl⟩
      rw [← hK] at hkeep hR
      cases ok with
      | true =>
        rw [if_pos hok.symm] at hR
        cbv
        refine hq2 _ ?_
        cbv
        refine hcall _ _ _ _ _ (CallEv.lend [0, 1, 2, 3, 4] hkeep rfl (.cons (.own 4 4 0 rfl) (.cons (.p _) .nil)) (coL rfl rfl rfl rfl rfl rfl rfl rfl rfl) ?_)
        rintro _ _ ⟨z, n1, su1, ro1, af1, d1, xs1, m1, dn1, rs1, pn1, pd1, an1, ad1, g1, e1, r1, zs1, hz, hc1, rfl, rfl⟩
        obtain ⟨hz0, hz1, _⟩ := isE hz
        cbv
        by_cases hzz : z = 0
        · rw [if_neg (fun c => c (hz0 hzz))] at hR
          have hv := hvow K.2.w (by
            have hK2 : K.2.w.s = c.w.s := by
              rw [hK]; unfold cnKeep
              split
              · rfl
              · simp only; split
                · exact hQs
                · rfl
            rw [hK2]; exact hs) (n := n1) (su := su1) (ro := ro1) (af := af1) (d := d1) (xs := xs1) (m := m1) (dn := dn1) (rs := rs1) hc1.2
          refine vcIf.no (by first | (simp [hA.not, hA.eq, hA.lt, hA.le, hA.cond, hA.beq, hA.orb, hL.len, hL.slen, hL.sq, hzz]; done) | (simp only [hzz]; simp [hA.not, hA.eq, hA.lt, hA.le, hA.cond, hA.beq, hA.orb, hL.len, hL.slen, hL.sq, hzz]; done) | (simp [hA.not, hA.eq, hA.lt, hA.le, hA.cond, hA.beq, hA.orb, hL.len, hL.slen, hL.sq, hzz]; omega) | (simp only [hzz]; simp [hA.not, hA.eq, hA.lt, hA.le, hA.cond, hA.beq, hA.orb, hL.len, hL.slen, hL.sq, hzz]; omega)) ?_
          cbv
          refine hcall _ _ _ _ _ (CallEv.lend [0, 1, 2, 3, 4] hv rfl (.cons (.own 4 4 0 rfl) .nil) (coL rfl rfl rfl rfl rfl rfl rfl rfl rfl) ?_)
          rintro _ _ ⟨rfl, rfl⟩
          cbv
          refine hret _ (RetEv.ret eOk rfl ⟨_, 0, true, pn1, pd1, an1, ad1, g1, e1, r1, zs1, n1, su1, ro1, af1, d1, xs1, m1, dn1, rs1, pn1, pd1, an1, ad1, g1, e1, r1, zs1, _, ?_, ?_, ?_, ?_, .refl _, rfl, rfl⟩)
          · rw [hR]; rfl
          · rw [hR]
          · rw [hR]; exact hc1.2
          · rw [hR]; exact hc1
        · rw [if_pos (hz1 hzz)] at hR
          refine vcIf.yes (by first | (simp [hA.not, hA.eq, hA.lt, hA.le, hA.cond, hA.beq, hA.orb, hL.len, hL.slen, hL.sq, hzz]; done) | (simp only [hzz]; simp [hA.not, hA.eq, hA.lt, hA.le, hA.cond, hA.beq, hA.orb, hL.len, hL.slen, hL.sq, hzz]; done) | (simp [hA.not, hA.eq, hA.lt, hA.le, hA.cond, hA.beq, hA.orb, hL.len, hL.slen, hL.sq, hzz]; omega) | (simp only [hzz]; simp [hA.not, hA.eq, hA.lt, hA.le, hA.cond, hA.beq, hA.orb, hL.len, hL.slen, hL.sq, hzz]; omega)) ?_
          cbv
          refine hret _ (RetEv.ret eOk rfl ⟨_, z, false, 0, 0, 0, 0, 0, 0, 0, [], n1, su1, ro1, af1, d1, xs1, m1, dn1, rs1, pn1, pd1, an1, ad1, g1, e1, r1, zs1, _, ?_, ?_, ?_, ?_, pw0, rfl, rfl⟩)
          · rw [hR]; exact hz
          · rw [hR]
          · rw [hR]; exact IsVw.zero
          · rw [hR]; exact hc1
      | false =>
        rw [if_neg (by rw [← hok]; decide)] at hR
        cbv
        refine hq2 _ ?_
        cbv
        have hv := hvow c.w hs (n := n) (su := su) (ro := ro) (af := af) (d := d) (xs := xs) (m := m) (dn := dn) (rs := rs) hc0.2
        refine hcall _ _ _ _ _ (CallEv.lend [0, 1, 2, 3, 4] hv rfl (.cons (.own 4 4 0 rfl) .nil) (coL rfl rfl rfl rfl rfl rfl rfl rfl rfl) ?_)
        rintro _ _ ⟨rfl, rfl⟩
        cbv
        refine hret _ (RetEv.ret eOk rfl ⟨_, 0, false, pn, pd, an, ad, g, e, r, zs, n, su, ro, af, d, xs, m, dn, rs, pn, pd, an, ad, g, e, r, zs, _, ?_, ?_, ?_, ?_, .refl _, rfl, rfl⟩)
        · rw [hR]; rfl
        · rw [hR]
        · rw [hR]; exact hc0.2
        · rw [hR]; exact hc0
    · refine hcall2 _ _ _ _ _ (CallEv.same hprm rfl ?_)
      rintro _ _ ⟨pn2, pd2, an2, ad2, g2, e2, r2, zs2, ok, hok, hv2, rfl, rfl⟩
      have hkeep := coKeep_spec hc0 Q.1 hpf hv2
      obtain ⟨K, hK⟩ : ∃ K, K = cnKeep c Q.1 := ⟨_, rfl⟩
      rw [← hK] at hkeep hR
      cases ok with
      | true =>
        rw [if_pos hok.symm] at hR
        cbv
        refine hq2 _ ?_
        cbv
        refine hcall _ _ _ _ _ (CallEv.lend [0, 1, 2, 3, 4] hkeep rfl (.cons (.own 4 4 0 rfl) (.cons (.p _) .nil)) (coL rfl rfl rfl rfl rfl rfl rfl rfl rfl) ?_)
        rintro _ _ ⟨z, n1, su1, ro1, af1, d1, xs1, m1, dn1, rs1, pn1, pd1, an1, ad1, g1, e1, r1, zs1, hz, hc1, rfl, rfl⟩
        obtain ⟨hz0, hz1, _⟩ := isE hz
        cbv
        by_cases hzz : z = 0
        · rw [if_neg (fun c => c (hz0 hzz))] at hR
          have hv := hvow K.2.w (by
            have hK2 : K.2.w.s = c.w.s := by
              rw [hK]; unfold cnKeep
              split
              · rfl
              · simp only; split
                · exact hQs
                · rfl
            rw [hK2]; exact hs) (n := n1) (su := su1) (ro := ro1) (af := af1) (d := d1) (xs := xs1) (m := m1) (dn := dn1) (rs := rs1) hc1.2
          refine vcIf.no (by first | (simp [hA.not, hA.eq, hA.lt, hA.le, hA.cond, hA.beq, hA.orb, hL.len, hL.slen, hL.sq, hzz]; done) | (simp only [hzz]; simp [hA.not, hA.eq, hA.lt, hA.le, hA.cond, hA.beq, hA.orb, hL.len, hL.slen, hL.sq, hzz]; done) | (simp [hA.not, hA.eq, hA.lt, hA.le, hA.cond, hA.beq, hA.orb, hL.len, hL.slen, hL.sq, hzz]; omega) | (simp only [hzz]; simp [hA.not, hA.eq, hA.lt, hA.le, hA.cond, hA.beq, hA.orb, hL.len, hL.slen, hL.sq, hzz]; omega)) ?_
          cbv
          refine hcall _ _ _ _ _ (CallEv.lend [0, 1, 2, 3, 4] hv rfl (.cons (.own 4 4 0 rfl) .nil) (coL rfl rfl rfl rfl rfl rfl rfl rfl rfl) ?_)
          rintro _ _ ⟨rfl, rfl⟩
          cbv
          refine hret _ (RetEv.ret eOk rfl ⟨_, 0, true, pn1, pd1, an1, ad1, g1, e1, r1, zs1, n1, su1, ro1, af1, d1, xs1, m1, dn1, rs1, pn1, pd1, an1, ad1, g1, e1, r1, zs1, _, ?_, ?_, ?_, ?_, .refl _, rfl, rfl⟩)
          · rw [hR]; rfl
          · rw [hR]
          · rw [hR]; exact hc1.2
          · rw [hR]; exact hc1
        · rw [if_pos (hz1 hzz)] at hR
          refine vcIf.yes (by first | (simp [hA.not, hA.eq, hA.lt, hA.le, hA.cond, hA.beq, hA.orb, hL.len, hL.slen, hL.sq, hzz]; done) | (simp only [hzz]; simp [hA.not, hA.eq, hA.lt, hA.le, hA.cond, hA.beq, hA.orb, hL.len, hL.slen, hL.sq, hzz]; done) | (simp [hA.not, hA.eq, hA.lt, hA.le, hA.cond, hA.beq, hA.orb, hL.len, hL.slen, hL.sq, hzz]; omega) | (simp only [hzz]; simp [hA.not, hA.eq, hA.lt, hA.le, hA.cond, hA.beq, hA.orb, hL.len, hL.slen, hL.sq, hzz]; omega)) ?_
          cbv
          refine hret _ (RetEv.ret eOk rfl ⟨_, z, false, 0, 0, 0, 0, 0, 0, 0, [], n1, su1, ro1, af1, d1, xs1, m1, dn1, rs1, pn1, pd1, an1, ad1, g1, e1, r1, zs1, _, ?_, ?_, ?_, ?_, pw0, rfl, rfl⟩)
          · rw [hR]; exact hz
          · rw [hR]
          · rw [hR]; exact IsVw.zero
          · rw [hR]; exact hc1
      | false =>
        rw [if_neg (by rw [← hok]; decide)] at hR
        cbv
        refine hq2 _ ?_
        cbv
        have hv := hvow c.w hs (n := n) (su := su) (ro := ro) (af := af) (d := d) (xs := xs) (m := m) (dn := dn) (rs := rs) hc0.2
        refine hcall _ _ _ _ _ (CallEv.lend [0, 1, 2, 3, 4] hv rfl (.cons (.own 4 4 0 rfl) .nil) (coL rfl rfl rfl rfl rfl rfl rfl rfl rfl) ?_)
        rintro _ _ ⟨rfl, rfl⟩
        cbv
        refine hret _ (RetEv.ret eOk rfl ⟨_, 0, false, pn, pd, an, ad, g, e, r, zs, n, su, ro, af, d, xs, m, dn, rs, pn, pd, an, ad, g, e, r, zs, _, ?_, ?_, ?_, ?_, .refl _, rfl, rfl⟩)
        · rw [hR]; rfl
        · rw [hR]
        · rw [hR]; exact hc0.2
        · rw [hR]; exact hc0
  · rw [if_pos (hy1 h0)] at hR
    refine vcIf.yes (by first | (simp [hA.not, hA.eq, hA.lt, hA.le, hA.cond, hA.beq, hA.orb, hL.len, hL.slen, hL.sq, h0]; done) | (simp only [h0]; simp [hA.not, hA.eq, hA.lt, hA.le, hA.cond, hA.beq, hA.orb, hL.len, hL.slen, hL.sq, h0]; done) | (simp [hA.not, hA.eq, hA.lt, hA.le, hA.cond, hA.beq, hA.orb, hL.len, hL.slen, hL.sq, h0]; omega) | (simp only [h0]; simp [hA.not, hA.eq, hA.lt, hA.le, hA.cond, hA.beq, hA.orb, hL.len, hL.slen, hL.sq, h0]; omega)) ?_
    cbv
    refine hret _ (RetEv.ret eOk rfl ⟨_, y, false, 0, 0, 0, 0, 0, 0, 0, [], n, su, ro, af, d, xs, m, dn, rs, pn, pd, an, ad, g, e, r, zs, _, ?_, ?_, ?_, ?_, pw0, rfl, rfl⟩)
    · rw [hR]; exact hy
    · rw [hR]
    · rw [hR]; exact IsVw.zero
    · rw [hR]; exact hc0
end Go.Proofs.Ytnigonhkfpnodaa
