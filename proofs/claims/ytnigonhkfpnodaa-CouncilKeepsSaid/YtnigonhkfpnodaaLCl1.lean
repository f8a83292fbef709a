/- A council's simplest facts; CouncilNone. Conditions: on sizes. -/
import Derived.Test.YtnigonhkfpnodaaLCq1
import Derived.Test.YtnigonhkfpnodaaLY13
set_option maxRecDepth 100000
set_option maxHeartbeats 8000000
set_option linter.unusedSimpArgs false
set_option linter.unusedVariables false
namespace Go.Proofs.Ytnigonhkfpnodaa
open Go Go.Lx
open Go.Sx (vcIf)

/-- A council in calm. -/
structure Calm (room : Nat) (c : Cn) : Prop where
  ex : ∃ rs, Rec rs c.w ∧ fitL rs ∧ c.b = ⟨⟨rbytes rs, (rbytes rs).length, room, -1, false⟩, rs, false⟩
  len : c.b.t.all.length ≤ room
  fit : c.w.fit
  ok : c.w.okB = true
theorem Calm.dn {room : Nat} {c : Cn} (h : Calm room c) : c.b.dn = false := by obtain ⟨rs, _, _, e⟩ := h.ex; rw [e]
theorem Calm.sz {room : Nat} {c : Cn} (h : Calm room c) : c.w.s.ch.length * 8 ≤ 140737488355328 := by have := ok_len h.ok; omega
theorem rb_len {v : Vw4} (hf : v.fit) (hk : v.okB = true) : (rbytes [vBytes v]).length ≤ 260 := by
  have hl := vBytes_len v hf hk
  rw [rbytes_one]
  unfold enct
  rw [List.length_append, cseal_length]
  have := enc_len9 (show (vBytes v).length + 4 < 9223372036854775808 by omega)
  omega
theorem Calm.keep {room : Nat} {c : Cn} (h : Calm room c) (hr : 260 ≤ room) {v : Vw4} (hf : v.fit) (hk : v.okB = true) : ∃ c', cnKeep c v = (0, c') ∧ Calm room c' ∧ c'.w = v := by
  obtain ⟨rs, h1, h2, h3⟩ := h.ex
  obtain ⟨b, w⟩ := c
  simp only at h1 h3
  subst h3
  have he : vEnc v = (vBytes v, 0) := by unfold vEnc; rw [if_pos hk]
  have hl := vBytes_len v hf hk
  have hb := rb_len hf hk
  have hfit : fitL [vBytes v] := fun r hr => by rw [List.mem_singleton.1 hr]; omega
  have e2 : bkReset ⟨⟨rbytes rs, (rbytes rs).length, room, -1, false⟩, rs, false⟩ [vBytes v] = (0, ⟨⟨rbytes [vBytes v], (rbytes [vBytes v]).length, room, -1, false⟩, [vBytes v], false⟩) := by
    unfold bkReset
    simp only
    rw [layE_fit hfit, if_neg (by simp)]
    unfold tpRep
    rw [wrCalm _ _ _ _ (by omega)]
    simp [bkFin]
  refine ⟨⟨⟨⟨rbytes [vBytes v], (rbytes [vBytes v]).length, room, -1, false⟩, [vBytes v], false⟩, v⟩, ?_, ⟨⟨[vBytes v], .inr rfl, hfit, rfl⟩, by simp only; omega, hf, hk⟩, rfl⟩
  unfold cnKeep
  rw [he, if_neg (by simp)]
  simp only
  rw [e2]
  simp
theorem Calm.fresh (room : Nat) : Calm room ⟨⟨⟨[], 0, room, -1, false⟩, [], false⟩, Vw4.zero⟩ := ⟨⟨[], .inl ⟨rfl, rfl⟩, (fun r hr => by cases hr), by rw [rbytes_nil]; rfl⟩, Nat.zero_le _, zero_fit, zero_ok⟩
theorem cnOpen0 (room : Nat) : cnOpen ⟨[], 0, room, -1, false⟩ = (0, ⟨⟨⟨[], 0, room, -1, false⟩, [], false⟩, Vw4.zero⟩) := by
  unfold cnOpen; rw [bkOpen0, if_neg (by simp)]; rfl
theorem Calm.prep {room : Nat} {c : Cn} (h : Calm room c) (hr : 260 ≤ room) {a b : Int} (ha : 0 ≤ a ∧ a ≤ 9223372036854775807) (hb : 0 ≤ b ∧ b ≤ 9223372036854775807) : ∃ c', cnPrep c a b = ⟨0, (prm c.w a b).2, (prm c.w a b).1, c'⟩ ∧ Calm room c' ∧ c'.w = (prm c.w a b).1 := by
  have hf := prm_fit h.fit (a := a) (b := b) (by omega) (by omega)
  have hk := prm_ok h.ok ha.1 hb.1
  have e0 : cnReady c.b.dn a b = 0 := by unfold cnReady; rw [h.dn, if_neg (by decide), if_neg (by omega)]
  unfold cnPrep
  rw [e0, if_neg (by simp)]
  cases hq : (prm c.w a b).2 with
  | true =>
    rw [if_pos rfl]
    obtain ⟨c', g1, g2, g3⟩ := h.keep hr hf hk
    refine ⟨c', ?_, g2, g3⟩
    rw [g1, if_neg (by simp)]
    simp only [g3]
  | false =>
    rw [if_neg (by decide)]
    have : (prm c.w a b).1 = c.w := by
      unfold prm at hq ⊢
      split at hq
      · cases hq
      · rename_i hc; rw [if_neg hc]
    exact ⟨c, by rw [this], h, this.symm⟩
theorem Calm.acc {room : Nat} {c : Cn} (h : Calm room c) (hr : 260 ≤ room) {a b : Int} (ha : 0 ≤ a ∧ a ≤ 9223372036854775807) (hb : 0 ≤ b ∧ b ≤ 9223372036854775807) {s : Stt} (hs : s.fit) (ho : s.okB = true) : ∃ c', cnAcc c a b s = ⟨0, (tkv c.w a b s).2, Vw4.zero, c'⟩ ∧ Calm room c' ∧ c'.w = (tkv c.w a b s).1 := by
  have hf := tkv_fit h.fit (a := a) (b := b) (by omega) (by omega) hs
  have hk := tkv_ok h.ok ha.1 hb.1 ho
  have e0 : cnReady c.b.dn a b = 0 := by unfold cnReady; rw [h.dn, if_neg (by decide), if_neg (by omega)]
  unfold cnAcc
  rw [e0, if_neg (by simp), ho, if_neg (by decide)]
  cases hq : (tkv c.w a b s).2 with
  | true =>
    rw [if_pos rfl]
    obtain ⟨c', g1, g2, g3⟩ := h.keep hr hf hk
    refine ⟨c', ?_, g2, g3⟩
    rw [g1, if_neg (by simp)]
  | false =>
    rw [if_neg (by decide)]
    have : (tkv c.w a b s).1 = c.w := by
      unfold tkv at hq ⊢
      split at hq
      · rename_i hc; rw [if_pos hc]
      · cases hq
    exact ⟨c, rfl, h, this.symm⟩
theorem coPrep_nil (a b : Int) : FnL Try.prog 9 [.p .nilp, .p (baP a b)] [] fun v own => v = .p (.tup [vwP 0 0 0 0 0 0 0 [], .bool false, .int .i64 1]) ∧ own = [] := by
  refine FnL.flat (R := fun v own => v = .p (.tup [.agg [.int .i64 0, .int .i64 0, .int .i64 0, .int .i64 0, .int .i64 0, .int .i64 0, .int .i64 0, .nils], .bool false, .int .i64 1])) ?_
    (by rintro _ _ rfl; exact ⟨_, .tup [vwP 0 0 0 0 0 0 0 [], .bool false, .int .i64 1], rfl, PW.tup ⟨PW.agg ⟨.refl _, .refl _, .refl _, .refl _, .refl _, .refl _, .refl _, PW.nils, trivial⟩, .refl _, .refl _, trivial⟩, rfl, rfl⟩)
  refine fn_of_vc eOk fOk fo9 Try.func9 rfl rfl rfl fun B hB => ?_
  intro add sub mul quo rem band bor bxor bclr shl shr ieq ilt ile seq slt beq bnot orb bcond iwrap iof ssz hA cat sq sl imin imax smin smax len slen u8 hL op hop call hcall code hcode ret hret
  cbv
  refine hcall _ _ _ _ _ (CallEv.same (coReady_nil a b) rfl ?_)
  rintro _ _ ⟨rfl, rfl⟩
  cbv
  refine vcIf.yes (by first | (simp [hA.not, hA.eq, hA.lt, hA.le, hA.cond, hA.beq, hA.orb, hL.len, hL.slen, hL.sq]; done) | (simp [hA.not, hA.eq, hA.lt, hA.le, hA.cond, hA.beq, hA.orb, hL.len, hL.slen, hL.sq]; omega)) ?_
  cbv
  exact hret _ (RetEv.ret eOk rfl rfl)
theorem coAcc_nil (a b : Int) (g e r : Int) (zs : List PV) : FnL Try.prog 10 [.p .nilp, .p (baP a b), .p (stP g e r zs)] [] fun v own => v = .p (.tup [.bool false, .int .i64 1]) ∧ own = [] := by
  refine FnL.flat (R := fun v own => v = .p (.tup [.bool false, .int .i64 1])) ?_ (by rintro _ _ rfl; exact ⟨_, _, rfl, .refl _, rfl, rfl⟩)
  refine fn_of_vc eOk fOk fo10 Try.func10 rfl rfl rfl fun B hB => ?_
  intro add sub mul quo rem band bor bxor bclr shl shr ieq ilt ile seq slt beq bnot orb bcond iwrap iof ssz hA cat sq sl imin imax smin smax len slen u8 hL op hop call hcall code hcode ret hret
  cbv
  refine hcall _ _ _ _ _ (CallEv.same (coReady_nil a b) rfl ?_)
  rintro _ _ ⟨rfl, rfl⟩
  cbv
  refine vcIf.yes (by first | (simp [hA.not, hA.eq, hA.lt, hA.le, hA.cond, hA.beq, hA.orb, hL.len, hL.slen, hL.sq]; done) | (simp [hA.not, hA.eq, hA.lt, hA.le, hA.cond, hA.beq, hA.orb, hL.len, hL.slen, hL.sq]; omega)) ?_
  cbv
  exact hret _ (RetEv.ret eOk rfl rfl)

theorem has_Ba {K : Nat} {z : PV} (h : Sh.Has K (.st [.int .i64, .int .i64]) z) : ∃ a b : Int, z = baP a b ∧ (-9223372036854775808 ≤ a ∧ a ≤ 9223372036854775807) ∧ (-9223372036854775808 ≤ b ∧ b ≤ 9223372036854775807) := by
  obtain ⟨cs, rfl, h0⟩ := has_st h
  obtain ⟨y0, c0, k0, e0, h1⟩ := has_cons h0
  obtain ⟨y1, c1, k1, e1, h2⟩ := has_cons h1
  obtain rfl := has_nil h2
  subst e1 e0
  obtain ⟨a, rfl, a1, a2⟩ := has_int k0
  obtain ⟨b, rfl, b1, b2⟩ := has_int k1
  exact ⟨a, b, rfl, ⟨a1, a2⟩, b1, b2⟩
theorem has_St8 {K : Nat} (hK : K < 9223372036854775807) {z : PV} (h : Sh.Has K (.st [.int .i64, .int .i64, .int .i64, .sl 8 (.int .i64)]) z) : ∃ s : Stt, z = s.v ∧ s.fit ∧ s.ch.length * 8 ≤ K := by
  obtain ⟨cs, rfl, h0⟩ := has_st h
  obtain ⟨y0, c0, k0, e0, h1⟩ := has_cons h0
  obtain ⟨y1, c1, k1, e1, h2⟩ := has_cons h1
  obtain ⟨y2, c2, k2, e2, h3⟩ := has_cons h2
  obtain ⟨y3, c3, k3, e3, h4⟩ := has_cons h3
  obtain rfl := has_nil h4
  subst e3 e2 e1 e0
  obtain ⟨a, rfl, a1, a2⟩ := has_int k0
  obtain ⟨b, rfl, b1, b2⟩ := has_int k1
  obtain ⟨c, rfl, d1, d2⟩ := has_int k2
  obtain ⟨l, rfl, l1, l2⟩ := has_ints k3
  refine ⟨⟨a, b, c, l⟩, rfl, ⟨fun z hz => ?_, fun z hz => ⟨(l2 z hz).1, (l2 z hz).2⟩, by simp only; omega⟩, l1⟩
  simp only [List.mem_cons, List.not_mem_nil, or_false] at hz
  rcases hz with rfl | rfl | rfl
  · exact ⟨a1, a2⟩
  · exact ⟨b1, b2⟩
  · exact ⟨d1, d2⟩
theorem awake15_spec : FnL Try.prog 12 [] [] fun z own => z = .p (.bool true) ∧ own = [] := by
  refine FnL.flat (R := fun z own => z = .p (.bool true)) ?_ (fun v own' h => ⟨_, _, h, .refl _, rfl, rfl⟩)
  have hnew := tapeNew_spec 1000 (by decide) (by decide)
  have hop0 := coOpen_spec (isTp0 1000 (by decide))
  rw [cnOpen0] at hop0
  have c0 := Calm.fresh 1000
  obtain ⟨c1, p1, q1, r1⟩ := c0.prep (by decide) (a := 2) (b := 0) (by decide) (by decide)
  obtain ⟨c2, p2, q2, r2⟩ := q1.acc (by decide) (a := 2) (b := 0) (by decide) (by decide) (s := ⟨7, 0, 0, []⟩) ⟨by decide, by simp, by decide⟩ (by decide)
  have e1 : prm Vw4.zero 2 0 = (⟨2, 0, 0, 0, Stt.zero⟩, true) := by simp [prm, blt, Vw4.zero]
  replace r1 : c1.w = ⟨2, 0, 0, 0, Stt.zero⟩ := by rw [r1]; show (prm Vw4.zero 2 0).1 = _; rw [e1]
  have e2 : tkv c1.w 2 0 ⟨7, 0, 0, []⟩ = (⟨2, 0, 2, 0, ⟨7, 0, 0, []⟩⟩, true) := by rw [r1]; simp [tkv, blt]
  rw [e2] at p2 r2
  refine fn_of_vc eOk fOk fo12 Try.func12 rfl rfl rfl fun B hB => ?_
  intro add sub mul quo rem band bor bxor bclr shl shr ieq ilt ile seq slt beq bnot orb bcond iwrap iof ssz hA cat sq sl imin imax smin smax len slen u8 hL op hop call hcall code hcode ret hret
  cbv
  refine hcall _ _ _ _ _ (CallEv.same hnew rfl ?_)
  rintro _ _ (⟨h, rfl, rfl⟩ | ⟨h, rfl, rfl⟩)
  · omega
  cbv
  refine hcall _ _ _ _ _ (CallEv.lend [0, 1] hop0 rfl (.cons (.own 0 0 0 rfl) .nil) (tpL rfl rfl rfl rfl) ?_)
  rintro _ _ (⟨n, su, ro, af, d, xs, m, dn, rs, pn, pd, an, ad, g, e, r, zs, h0, hb, rfl, rfl⟩ | ⟨e, n, su, ro, af, d, xs, h0, _⟩)
  rotate_left
  · exact absurd rfl h0
  have hpr := coPrep_spec hb c0.fit c0.sz 2 0 (by decide) (by decide)
  rw [p1, e1] at hpr
  cbv
  repeat (first | (refine vcIf.yes ?_ ?_; (focus (simp [hA.not, hA.eq, hA.lt, hA.le, hA.cond, hA.beq, hA.orb, hL.len, hL.slen, hL.sq]; done)); cbv) | (refine vcIf.no ?_ ?_; (focus (simp [hA.not, hA.eq, hA.lt, hA.le, hA.cond, hA.beq, hA.orb, hL.len, hL.slen, hL.sq]; done)); cbv) | fail)
  refine hcall _ _ _ _ _ (CallEv.lend [0, 1, 2, 3, 4] hpr rfl (.cons (.own 4 4 0 rfl) (.cons (.p _) .nil)) (coL rfl rfl rfl rfl rfl rfl rfl rfl rfl) ?_)
  rintro _ _ ⟨z1, ok1, qn1, qd1, bn1, bd1, g1, e1, r1, ys1, n1, su1, ro1, af1, d1, xs1, m1, dn1, rs1, pn1, pd1, an1, ad1, gg1, ee1, rr1, zs1, hz1, hok1, _, hc1, rfl, rfl⟩
  obtain rfl : z1 = 0 := hz1
  obtain rfl : ok1 = true := hok1
  have hac := coAcc_spec hc1 q1.fit q1.sz 2 0 (by decide) (by decide) ⟨7, 0, 0, []⟩ ⟨by decide, by simp, by decide⟩ (by decide) (gs := 7) (es := 0) (rq := 0) (ys := []) ⟨rfl, rfl, rfl, rfl⟩
  rw [p2] at hac
  have hac := FnL.wk (xs := [.own 4 0, .p (baP 2 0), .p (.agg [.int .i64 7, .int .i64 0, .int .i64 0, .nils])]) hac ⟨.refl _, .refl _, .p (PW.agg ⟨.refl _, .refl _, .refl _, PW.nils, trivial⟩), trivial⟩
  cbv
  refine hcall _ _ _ _ _ (CallEv.lend [0, 1, 2, 3, 4] hac rfl (.cons (.own 4 4 0 rfl) (.cons (.p _) (.cons (.p _) .nil))) (coL rfl rfl rfl rfl rfl rfl rfl rfl rfl) ?_)
  rintro _ _ ⟨z2, ok2, n2, su2, ro2, af2, d2, xs2, m2, dn2, rs2, pn2, pd2, an2, ad2, gg2, ee2, rr2, zs2, hz2, hok2, hc2, rfl, rfl⟩
  obtain rfl : z2 = 0 := hz2
  obtain rfl : ok2 = true := hok2
  have hvw := coVow_spec c2.w q2.sz (n := n2) (su := su2) (ro := ro2) (af := af2) (d := d2) (xs := xs2) (m := m2) (dn := dn2) (rs := rs2) hc2.2
  have hgg : gg2 = 7 := by have := hc2.2.2.2.2.2.1; rw [r2] at this; exact this.symm
  cbv
  repeat (first | (refine vcIf.yes ?_ ?_; (focus (simp [hA.not, hA.eq, hA.lt, hA.le, hA.cond, hA.beq, hA.orb, hL.len, hL.slen, hL.sq]; done)); cbv) | (refine vcIf.no ?_ ?_; (focus (simp [hA.not, hA.eq, hA.lt, hA.le, hA.cond, hA.beq, hA.orb, hL.len, hL.slen, hL.sq]; done)); cbv) | fail)
  refine hcall _ _ _ _ _ (CallEv.lend [0, 1, 2, 3, 4] hvw rfl (.cons (.own 4 4 0 rfl) .nil) (coL rfl rfl rfl rfl rfl rfl rfl rfl rfl) ?_)
  rintro _ _ ⟨rfl, rfl⟩
  cbv
  exact hret _ (RetEv.ret eOk rfl (by simp [hA.not, hA.eq, hA.lt, hA.le, hA.cond, hA.beq, hA.orb, hL.len, hL.slen, hL.sq, oneOf, hgg]))

theorem councilNone_spec (a b : Int) (s : Stt) : FnL Try.prog 3 [.p (baP a b), .p s.v] [] fun z own => z = .p (.bool true) := by
  obtain ⟨g, e, r, ch⟩ := s
  obtain ⟨zs, hzs⟩ : ∃ zs, zs = iP ch := ⟨_, rfl⟩
  show FnL _ _ [.p (baP a b), .p (.agg [.int .i64 g, .int .i64 e, .int .i64 r, .sl (iP ch)])] _ _
  rw [← hzs]
  have hsm := FnL.wk (xs := [.p (vwP 0 0 0 0 0 0 0 []), .p (.agg [.int .i64 0, .int .i64 0, .int .i64 0, .int .i64 0, .int .i64 0, .int .i64 0, .int .i64 0, .nils])]) (rSameVow_spec Vw4.zero Vw4.zero (by decide) IsVw.zero IsVw.zero)
    ⟨.refl _, .p (PW.agg ⟨.refl _, .refl _, .refl _, .refl _, .refl _, .refl _, .refl _, PW.nils, trivial⟩), trivial⟩
  refine fn_of_vc eOk fOk fo3 Try.func3 rfl rfl rfl fun B hB => ?_
  intro add sub mul quo rem band bor bxor bclr shl shr ieq ilt ile seq slt beq bnot orb bcond iwrap iof ssz hA cat sq sl imin imax smin smax len slen u8 hL op hop call hcall code hcode ret hret
  cbv
  refine hcall _ _ _ _ _ (CallEv.same (coPrep_nil a b) rfl ?_)
  rintro _ _ ⟨rfl, rfl⟩
  cbv
  refine hcall _ _ _ _ _ (CallEv.same (coAcc_nil a b g e r zs) rfl ?_)
  rintro _ _ ⟨rfl, rfl⟩
  cbv
  refine hcall _ _ _ _ _ (CallEv.same coOpen_nil rfl ?_)
  rintro _ _ ⟨rfl, rfl⟩
  cbv
  refine hcall _ _ _ _ _ (CallEv.same awake15_spec rfl ?_)
  rintro _ _ ⟨rfl, rfl⟩
  cbv
  repeat (first | (refine vcIf.yes ?_ ?_; (focus (simp [hA.not, hA.eq, hA.lt, hA.le, hA.cond, hA.beq, hA.orb, hL.len, hL.slen, hL.sq]; done)); cbv) | (refine vcIf.no ?_ ?_; (focus (simp [hA.not, hA.eq, hA.lt, hA.le, hA.cond, hA.beq, hA.orb, hL.len, hL.slen, hL.sq]; done)); cbv) | fail)
  refine hcall _ _ _ _ _ (CallEv.same coVow_nil rfl ?_)
  rintro _ _ ⟨rfl, rfl⟩
  cbv
  refine hcall _ _ _ _ _ (CallEv.same hsm rfl ?_)
  rintro _ _ ⟨c, hc, rfl, rfl⟩
  obtain rfl : c = true := hc.2 rfl
  cbv
  exact hret _ (RetEv.ret eOk rfl (by simp [hA.not, hA.eq, hA.lt, hA.le, hA.cond, hA.beq, hA.orb, hL.len, hL.slen, hL.sq, oneOf]))
end Go.Proofs.Ytnigonhkfpnodaa
