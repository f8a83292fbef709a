/- A council's calls: Accept, Open. Conditions: on sizes. -/
import Derived.Test.YtnigonhkfpnodaaLCo3
set_option maxRecDepth 100000
set_option maxHeartbeats 8000000
set_option linter.unusedSimpArgs false
set_option linter.unusedVariables false
namespace Go.Proofs.Ytnigonhkfpnodaa
open Go Go.Lx
open Go.Sx (vcIf)

theorem coAcc_spec {c : Cn} {n : Nat} {su ro af : Int} {d : Bool} {xs : List PV} {m : Nat} {dn : Bool} {rs : List PV} {pn pd an ad g e r : Int} {zs : List PV} (hc : IsCo c n su ro af d xs m dn rs pn pd an ad g e r zs) (hwf : c.w.fit) (hs : c.w.s.ch.length * 8 ≤ 140737488355328)
    (a b : Int) (ha : -9223372036854775808 ≤ a ∧ a ≤ 9223372036854775807) (hb : -9223372036854775808 ≤ b ∧ b ≤ 9223372036854775807) (s : Stt) (hsf : s.fit) (hsl : s.ch.length * 8 ≤ 140737488355328) {gs es rq : Int} {ys : List PV} (hst : IsSt s gs es rq ys) :
    FnL Try.prog 10 [.own 4 0, .p (baP a b), .p (stP gs es rq ys)] (coO n su ro af d xs m dn rs pn pd an ad g e r zs) fun v own => ∃ (z : Int) (ok : Bool) (n' : Nat) (su' ro' af' : Int) (d' : Bool) (xs' : List PV) (m' : Nat) (dn' : Bool) (rs' : List PV) (pn' pd' an' ad' g' e' r' : Int) (zs' : List PV),
      z = ((cnAcc c a b s).e : Int) ∧ ok = (cnAcc c a b s).ok ∧ IsCo (cnAcc c a b s).c n' su' ro' af' d' xs' m' dn' rs' pn' pd' an' ad' g' e' r' zs' ∧ v = .p (.tup [.bool ok, .int .i64 z]) ∧ own = coO n' su' ro' af' d' xs' m' dn' rs' pn' pd' an' ad' g' e' r' zs' := by
  refine FnL.less (R := fun v own => ∃ (z : Int) (ok : Bool) (n' : Nat) (su' ro' af' : Int) (d' : Bool) (xs' : List PV) (m' : Nat) (dn' : Bool) (rs' : List PV) (pn' pd' an' ad' g' e' r' : Int) (zs' : List PV) (ex : List Res),
      z = ((cnAcc c a b s).e : Int) ∧ ok = (cnAcc c a b s).ok ∧ IsCo (cnAcc c a b s).c n' su' ro' af' d' xs' m' dn' rs' pn' pd' an' ad' g' e' r' zs' ∧ v = .p (.tup [.bool ok, .int .i64 z]) ∧ own = coO n' su' ro' af' d' xs' m' dn' rs' pn' pd' an' ad' g' e' r' zs' ++ ex) ?_
    (by
      rintro _ _ ⟨z, ok, n', su', ro', af', d', xs', m', dn', rs', pn', pd', an', ad', g', e', r', zs', ex, h1, h2, h4, rfl, rfl⟩
      exact ⟨_, _, ex, rfl, .refl _, rfl, rfl, Nat.le_refl _, z, ok, n', su', ro', af', d', xs', m', dn', rs', pn', pd', an', ad', g', e', r', zs', h1, h2, h4, rfl, rfl⟩)
  obtain ⟨R, hR⟩ : ∃ R, R = cnAcc c a b s := ⟨_, rfl⟩
  rw [← hR]
  unfold cnAcc at hR
  have hc0 := hc
  have hdn := hc.1.2.2.1
  rw [← hdn] at hR
  have hrdy := coReady_spec a b (n := n) (su := su) (ro := ro) (af := af) (d := d) (xs := xs) (m := m) (dn := dn) (rs := rs) (pn := pn) (pd := pd) (an := an) (ad := ad) (g := g) (e := e) (r := r) (zs := zs)
  obtain ⟨Y, hY⟩ : ∃ Y, Y = cnReady dn a b := ⟨_, rfl⟩
  rw [← hY] at hrdy hR
  have htk := takeV_spec c.w a b s hc.2 hs hst hsl
  have hpf := tkv_fit hwf ha hb hsf
  obtain ⟨Q, hQ⟩ : ∃ Q, Q = tkv c.w a b s := ⟨_, rfl⟩
  rw [← hQ] at htk hpf hR
  have hfs := frState_spec s hsf.2.2 ys hst.2.2.2
  rw [hst.1, hst.2.1, hst.2.2.1] at hfs
  obtain ⟨O, hO⟩ : ∃ O, O = s.okB := ⟨_, rfl⟩
  rw [← hO] at hfs hR
  refine fn_of_vc eOk fOk fo10 Try.func10 rfl rfl rfl fun B hB => ?_
  intro add sub mul quo rem band bor bxor bclr shl shr ieq ilt ile seq slt beq bnot orb bcond iwrap iof ssz hA cat sq sl imin imax smin smax len slen u8 hL op hop call hcall code hcode ret hret
  cbv
  refine hcall _ _ _ _ _ (CallEv.lend [0, 1, 2, 3, 4] hrdy rfl (.cons (.own 4 4 0 rfl) (.cons (.p _) .nil)) (coL rfl rfl rfl rfl rfl rfl rfl rfl rfl) ?_)
  rintro _ _ ⟨y, hy, rfl, rfl⟩
  obtain ⟨hy0, hy1, _⟩ := isE hy
  cbv
  by_cases h0 : y = 0
  · rw [if_neg (fun c => c (hy0 h0))] at hR
    refine vcIf.no (by first | (simp [hA.not, hA.eq, hA.lt, hA.le, hA.cond, hA.beq, hA.orb, hL.len, hL.slen, hL.sq, h0]; done) | (simp only [h0]; simp [hA.not, hA.eq, hA.lt, hA.le, hA.cond, hA.beq, hA.orb, hL.len, hL.slen, hL.sq, h0]; done) | (simp [hA.not, hA.eq, hA.lt, hA.le, hA.cond, hA.beq, hA.orb, hL.len, hL.slen, hL.sq, h0]; omega) | (simp only [h0]; simp [hA.not, hA.eq, hA.lt, hA.le, hA.cond, hA.beq, hA.orb, hL.len, hL.slen, hL.sq, h0]; omega)) ?_
    cbv
    refine hcall _ _ _ _ _ (CallEv.same hfs rfl ?_)
    rintro _ _ ⟨o, ho, rfl, rfl⟩
    cases o with
    | true =>
      rw [if_neg (by rw [← ho]; decide)] at hR
      cbv
      refine vcIf.no (by first | (simp [hA.not, hA.eq, hA.lt, hA.le, hA.cond, hA.beq, hA.orb, hL.len, hL.slen, hL.sq]; done) | (simp [hA.not, hA.eq, hA.lt, hA.le, hA.cond, hA.beq, hA.orb, hL.len, hL.slen, hL.sq]; omega)) ?_
      cbv
      refine hcode _ _ _ (CodeEv.drawT eOk fOk (by kernel_rfl) (Xof 7 []) (.rd 0 (.rd 1 (.rd 2 (.rd 3 (.rd 4 (.rd 5 (.acts (.cons 6 (.rd 7 (.rd 8 (.rd 9 (.acts (.cons 10 (.acts (.cons 11 (.so 12 (.done)) (.nil))) (.nil)))))) (.cons 10 (.acts (.cons 6 (.so 7 (.rd 8 (.rd 9 (.acts (.cons 11 (.so 12 (.done)) (.nil)))))) (.nil))) (.nil)))))))))) (by kernel_rfl) (by kernel_rfl) ?_)
      intro add2 sub2 mul2 quo2 rem2 band2 bor2 bxor2 bclr2 shl2 shr2 ieq2 ilt2 ile2 seq2 slt2 beq2 bnot2 orb2 bcond2 iwrap2 iof2 ssz2 hA2 cat2 sq2 sl2 imin2 imax2 smin2 smax2 len2 slen2 u82 hL2 op2 hop2 call2 hcall2 code2 hcode2 q2 hq2
      cbv
      refine ⟨?_, ?_⟩
      · refine hcall2 _ _ _ _ _ (CallEv.same htk rfl ?_)
        rintro _ _ ⟨pn2, pd2, an2, ad2, g2, e2, r2, zs2, ok, hok, hv2, rfl, rfl⟩
        have hkeep := coKeep_spec hc0 Q.1 hpf hv2
        obtain ⟨K, hK⟩ : ∃ K, K = cnKeep c Q.1 := ⟨_, rfl⟩
        rw [← hK] at hkeep hR
        cases ok with
        | true =>
          rw [if_pos hok.symm] at hR
          cbv
          refine hq2 _ ?_
          cbv
          refine hcall _ _ _ _ _ (CallEv.lend [0, 1, 2, 3, 4] hkeep rfl (.cons (.own 4 4 0 rfl) (.cons (.p _) .nil)) (coL rfl rfl rfl rfl rfl rfl rfl rfl rfl) ?_)
          rintro _ _ ⟨z, n1, su1, ro1, af1, d1, xs1, m1, dn1, rs1, pn1, pd1, an1, ad1, g1, e1, r1, zs1, hz, hc1, rfl, rfl⟩
          obtain ⟨hz0, hz1, _⟩ := isE hz
          cbv
          by_cases hzz : z = 0
          · rw [if_neg (fun c => c (hz0 hzz))] at hR
            refine vcIf.no (by first | (simp [hA.not, hA.eq, hA.lt, hA.le, hA.cond, hA.beq, hA.orb, hL.len, hL.slen, hL.sq, hzz]; done) | (simp only [hzz]; simp [hA.not, hA.eq, hA.lt, hA.le, hA.cond, hA.beq, hA.orb, hL.len, hL.slen, hL.sq, hzz]; done) | (simp [hA.not, hA.eq, hA.lt, hA.le, hA.cond, hA.beq, hA.orb, hL.len, hL.slen, hL.sq, hzz]; omega) | (simp only [hzz]; simp [hA.not, hA.eq, hA.lt, hA.le, hA.cond, hA.beq, hA.orb, hL.len, hL.slen, hL.sq, hzz]; omega)) ?_
            cbv
            refine hret _ (RetEv.ret eOk rfl ⟨0, true, n1, su1, ro1, af1, d1, xs1, m1, dn1, rs1, pn1, pd1, an1, ad1, g1, e1, r1, zs1, _, ?_, ?_, ?_, rfl, rfl⟩)
            · rw [hR]; rfl
            · rw [hR]
            · rw [hR]; exact hc1
          · rw [if_pos (hz1 hzz)] at hR
            refine vcIf.yes (by first | (simp [hA.not, hA.eq, hA.lt, hA.le, hA.cond, hA.beq, hA.orb, hL.len, hL.slen, hL.sq, hzz]; done) | (simp only [hzz]; simp [hA.not, hA.eq, hA.lt, hA.le, hA.cond, hA.beq, hA.orb, hL.len, hL.slen, hL.sq, hzz]; done) | (simp [hA.not, hA.eq, hA.lt, hA.le, hA.cond, hA.beq, hA.orb, hL.len, hL.slen, hL.sq, hzz]; omega) | (simp only [hzz]; simp [hA.not, hA.eq, hA.lt, hA.le, hA.cond, hA.beq, hA.orb, hL.len, hL.slen, hL.sq, hzz]; omega)) ?_
            cbv
            refine hret _ (RetEv.ret eOk rfl ⟨z, false, n1, su1, ro1, af1, d1, xs1, m1, dn1, rs1, pn1, pd1, an1, ad1, g1, e1, r1, zs1, _, ?_, ?_, ?_, rfl, rfl⟩)
            · rw [hR]; exact hz
            · rw [hR]
            · rw [hR]; exact hc1
        | false =>
          rw [if_neg (by rw [← hok]; decide)] at hR
          cbv
          refine hq2 _ ?_
          cbv
          refine hret _ (RetEv.ret eOk rfl ⟨0, false, n, su, ro, af, d, xs, m, dn, rs, pn, pd, an, ad, g, e, r, zs, _, ?_, ?_, ?_, rfl, rfl⟩)
          · rw [hR]; rfl
          · rw [hR]
          · rw [hR]; exact hc0
      · refine hcall2 _ _ _ _ _ (CallEv.same htk rfl ?_)
        rintro _ _ ⟨pn2, pd2, an2, ad2, g2, e2, r2, zs2, ok, hok, hv2, rfl, rfl⟩
        have hkeep := coKeep_spec hc0 Q.1 hpf hv2
        obtain ⟨K, hK⟩ : ∃ K, K = cnKeep c Q.1 := ⟨_, rfl⟩
        rw [← hK] at hkeep hR
        cases ok with
        | true =>
          rw [if_pos hok.symm] at hR
          cbv
          refine hq2 _ ?_
          cbv
          refine hcall _ _ _ _ _ (CallEv.lend [0, 1, 2, 3, 4] hkeep rfl (.cons (.own 4 4 0 rfl) (.cons (.p _) .nil)) (coL rfl rfl rfl rfl rfl rfl rfl rfl rfl) ?_)
          rintro _ _ ⟨z, n1, su1, ro1, af1, d1, xs1, m1, dn1, rs1, pn1, pd1, an1, ad1, g1, e1, r1, zs1, hz, hc1, rfl, rfl⟩
          obtain ⟨hz0, hz1, _⟩ := isE hz
          cbv
          by_cases hzz : z = 0
          · rw [if_neg (fun c => c (hz0 hzz))] at hR
            refine vcIf.no (by first | (simp [hA.not, hA.eq, hA.lt, hA.le, hA.cond, hA.beq, hA.orb, hL.len, hL.slen, hL.sq, hzz]; done) | (simp only [hzz]; simp [hA.not, hA.eq, hA.lt, hA.le, hA.cond, hA.beq, hA.orb, hL.len, hL.slen, hL.sq, hzz]; done) | (simp [hA.not, hA.eq, hA.lt, hA.le, hA.cond, hA.beq, hA.orb, hL.len, hL.slen, hL.sq, hzz]; omega) | (simp only [hzz]; simp [hA.not, hA.eq, hA.lt, hA.le, hA.cond, hA.beq, hA.orb, hL.len, hL.slen, hL.sq, hzz]; omega)) ?_
            cbv
            refine hret _ (RetEv.ret eOk rfl ⟨0, true, n1, su1, ro1, af1, d1, xs1, m1, dn1, rs1, pn1, pd1, an1, ad1, g1, e1, r1, zs1, _, ?_, ?_, ?_, rfl, rfl⟩)
            · rw [hR]; rfl
            · rw [hR]
            · rw [hR]; exact hc1
          · rw [if_pos (hz1 hzz)] at hR
            refine vcIf.yes (by first | (simp [hA.not, hA.eq, hA.lt, hA.le, hA.cond, hA.beq, hA.orb, hL.len, hL.slen, hL.sq, hzz]; done) | (simp only [hzz]; simp [hA.not, hA.eq, hA.lt, hA.le, hA.cond, hA.beq, hA.orb, hL.len, hL.slen, hL.sq, hzz]; done) | (simp [hA.not, hA.eq, hA.lt, hA.le, hA.cond, hA.beq, hA.orb, hL.len, hL.slen, hL.sq, hzz]; omega) | (simp only [hzz]; simp [hA.not, hA.eq, hA.lt, hA.le, hA.cond, hA.beq, hA.orb, hL.len, hL.slen, hL.sq, hzz]; omega)) ?_
            cbv
            refine hret _ (RetEv.ret eOk rfl ⟨z, false, n1, su1, ro1, af1, d1, xs1, m1, dn1, rs1, pn1, pd1, an1, ad1, g1, e1, r1, zs1, _, ?_, ?_, ?_, rfl, rfl⟩)
            · rw [hR]; exact hz
            · rw [hR]
            · rw [hR]; exact hc1
        | false =>
          rw [if_neg (by rw [← hok]; decide)] at hR
          cbv
          refine hq2 _ ?_
          cbv
          refine hret _ (RetEv.ret eOk rfl ⟨0, false, n, su, ro, af, d, xs, m, dn, rs, pn, pd, an, ad, g, e, r, zs, _, ?_, ?_, ?_, rfl, rfl⟩)
          · rw [hR]; rfl
          · rw [hR]
          · rw [hR]; exact hc0
    | false =>
      rw [if_pos ho.symm] at hR
      cbv
      refine vcIf.yes (by first | (simp [hA.not, hA.eq, hA.lt, hA.le, hA.cond, hA.beq, hA.orb, hL.len, hL.slen, hL.sq]; done) | (simp [hA.not, hA.eq, hA.lt, hA.le, hA.cond, hA.beq, hA.orb, hL.len, hL.slen, hL.sq]; omega)) ?_
      cbv
      refine hret _ (RetEv.ret eOk rfl ⟨2, false, n, su, ro, af, d, xs, m, dn, rs, pn, pd, an, ad, g, e, r, zs, _, ?_, ?_, ?_, rfl, rfl⟩)
      · rw [hR]; rfl
      · rw [hR]
      · rw [hR]; exact hc0
  · rw [if_pos (hy1 h0)] at hR
    refine vcIf.yes (by first | (simp [hA.not, hA.eq, hA.lt, hA.le, hA.cond, hA.beq, hA.orb, hL.len, hL.slen, hL.sq, h0]; done) | (simp only [h0]; simp [hA.not, hA.eq, hA.lt, hA.le, hA.cond, hA.beq, hA.orb, hL.len, hL.slen, hL.sq, h0]; done) | (simp [hA.not, hA.eq, hA.lt, hA.le, hA.cond, hA.beq, hA.orb, hL.len, hL.slen, hL.sq, h0]; omega) | (simp only [h0]; simp [hA.not, hA.eq, hA.lt, hA.le, hA.cond, hA.beq, hA.orb, hL.len, hL.slen, hL.sq, h0]; omega)) ?_
    cbv
    refine hret _ (RetEv.ret eOk rfl ⟨y, false, n, su, ro, af, d, xs, m, dn, rs, pn, pd, an, ad, g, e, r, zs, _, ?_, ?_, ?_, rfl, rfl⟩)
    · rw [hR]; exact hy
    · rw [hR]
    · rw [hR]; exact hc0
end Go.Proofs.Ytnigonhkfpnodaa
