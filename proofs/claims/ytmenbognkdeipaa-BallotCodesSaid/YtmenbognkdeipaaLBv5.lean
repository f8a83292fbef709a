/- The walk of the law BallotCodes. Conditions: on sizes. -/
import Derived.Test.YtmenbognkdeipaaLBv4
set_option maxRecDepth 100000
set_option maxHeartbeats 4000000
set_option linter.unusedSimpArgs false
set_option linter.unusedVariables false
namespace Go.Proofs.Ytmenbognkdeipaa
open Go Go.Lx
open Go.Sx (vcIf)

theorem awake13_spec : FnL Try.prog 20 [] [] fun z own => z = .p (.bool true) ∧ own = [] := by
  refine FnL.flat (R := fun v own => v = .p (.bool true)) ?_ (by rintro _ _ rfl; exact ⟨_, _, rfl, .refl _, rfl, rfl⟩)
  have hbest := best_spec [.agg [.int .i64 1, .int .i64 0, .int .i64 0, .int .i64 0, .int .i64 0, .int .i64 0, .int .i64 0, .nils], .agg [.int .i64 1, .int .i64 0, .int .i64 1, .int .i64 0, .int .i64 3, .int .i64 0, .int .i64 0, .nils]] rfl rfl rfl
  refine fn_of_vc eOk fOk fo20 Try.func20 rfl rfl rfl fun B hB => ?_
  intro add sub mul quo rem band bor bxor bclr shl shr ieq ilt ile seq slt beq bnot orb bcond iwrap iof ssz hA cat sq sl imin imax smin smax len slen u8 hL op hop call hcall code hcode ret hret
  cbv
  refine hcall _ _ _ _ _ (CallEv.same promise_spec rfl ?_)
  rintro _ _ ⟨rfl, rfl⟩
  cbv
  refine hcall _ _ _ _ _ (CallEv.same take_spec rfl ?_)
  rintro _ _ ⟨rfl, rfl⟩
  cbv
  repeat (first | (refine vcIf.yes ?_ ?_; (focus (simp [hA.not, hA.eq, hA.lt, hA.le, hA.cond, hA.beq, hA.orb, hL.len, hL.slen, hL.sq]; done)); cbv) | (refine vcIf.no ?_ ?_; (focus (simp [hA.not, hA.eq, hA.lt, hA.le, hA.cond, hA.beq, hA.orb, hL.len, hL.slen, hL.sq]; done)); cbv) | fail)
  refine ⟨false, ?_⟩
  cbv
  refine hcall _ _ _ _ _ (CallEv.same hbest rfl ?_)
  rintro _ _ ⟨rfl, rfl⟩
  cbv
  exact hret _ (RetEv.ret eOk rfl (by simp [hA.not, hA.eq, hA.lt, hA.le, hA.cond, hA.beq, hA.orb, hL.len, hL.slen, hL.sq, oneOf]))
theorem gVw_enc (w : Vw4) (hs : w.fit) (l : List UInt8) (h : (l, 0) = vEnc w) : gVw l = (w, 0) := by
  unfold vEnc at h
  split at h
  rotate_left
  · simp at h
  rename_i hok
  obtain rfl : l = vBytes w := by simpa using h
  obtain ⟨k1, k2, k3, k4, k5, k6⟩ := w.ok_iff.1 hok
  obtain ⟨a, b, c, d, s⟩ := w
  obtain ⟨hs1, hs2⟩ := hs
  simp only at k1 k2 k3 k4 k5 k6 hs1 hs2
  have hg := gSt_enc s hs2 (sBytes s) (by unfold sEnc; rw [if_pos k5])
  obtain ⟨g1, f1⟩ := rdI_enc a k1 (hs1 a (by simp)).2 (enc b.toNat ++ (enc c.toNat ++ (enc d.toNat ++ sBytes s)))
  obtain ⟨g2, f2⟩ := rdI_enc b k2 (hs1 b (by simp)).2 (enc c.toNat ++ (enc d.toNat ++ sBytes s))
  obtain ⟨g3, f3⟩ := rdI_enc c k3 (hs1 c (by simp)).2 (enc d.toNat ++ sBytes s)
  obtain ⟨g4, f4⟩ := rdI_enc d k4 (hs1 d (by simp)).2 (sBytes s)
  have e : vBytes ⟨a, b, c, d, s⟩ = enc a.toNat ++ (enc b.toNat ++ (enc c.toNat ++ (enc d.toNat ++ sBytes s))) := by simp [vBytes, encs]
  have := (gVw_of (l := vBytes ⟨a, b, c, d, s⟩) (by rw [e]; exact g1.symm) g2.symm g3.symm g4.symm).2 rfl s 0 hg.symm
  rw [f1, f2, f3, f4] at this
  rw [this, if_pos ⟨rfl, hok⟩]
theorem gVw_ok {l : List UInt8} {w : Vw4} {e : Nat} (h : (w, e) = gVw l) : w.s.fit := by
  have hz : Vw4.zero.s.fit := ⟨fun z hz => by simp [Vw4.zero, Stt.zero] at hz; omega, fun z hz => by simp [Vw4.zero, Stt.zero] at hz, by decide⟩
  obtain ⟨⟨n1, l1, e1⟩, h1⟩ : ∃ r, r = rdN l 0 := ⟨_, rfl⟩
  obtain ⟨⟨n2, l2, e2⟩, h2⟩ : ∃ r, r = rdN l1 e1 := ⟨_, rfl⟩
  obtain ⟨⟨n3, l3, e3⟩, h3⟩ : ∃ r, r = rdN l2 e2 := ⟨_, rfl⟩
  obtain ⟨⟨n4, l4, e4⟩, h4⟩ : ∃ r, r = rdN l3 e3 := ⟨_, rfl⟩
  obtain ⟨g1, g2⟩ := gVw_of h1 h2 h3 h4
  by_cases q : e4 = 0
  · obtain ⟨⟨s, e5⟩, h5⟩ : ∃ r, r = gSt l4 := ⟨_, rfl⟩
    rw [g2 q s e5 h5] at h
    obtain ⟨b1, b2, b3⟩ := gSt_ok h5
    split at h
    · rw [(Prod.mk.inj h).1]; exact ⟨b2, b3, by simp only; omega⟩
    · rw [(Prod.mk.inj h).1]; exact hz
  · rw [g1 q] at h
    rw [(Prod.mk.inj h).1]; exact hz
theorem ballotCodes (w : Vw4) (hw : w.fit) (b : List UInt8) : FnL Try.prog 5 [.p w.v, .p (.sl (bP b))] [] fun z own => z = .p (.bool true) := by
  obtain ⟨zs, hzs⟩ : ∃ zs, zs = iP w.s.ch := ⟨_, rfl⟩
  obtain ⟨ys, hys⟩ : ∃ ys, ys = bP b := ⟨_, rfl⟩
  have henc := blEncode_spec w hw zs hzs
  have hrenc := rvEncode_spec w hw zs hzs
  have hdec := blDecode_spec b ys hys
  have hrdec := rvDecode_spec b ys hys
  have f1 := gVw_enc w hw
  have s1 := sameVow_spec w hw.2 _ ⟨zs, hzs, rfl⟩
  unfold Vw4.v
  rw [← hzs, ← hys]
  obtain ⟨R, hR⟩ : ∃ R, R = vEnc w := ⟨_, rfl⟩
  rw [← hR] at henc hrenc f1
  have i1 : ∀ (x : PV), VwIs w x → x = .agg [.int .i64 w.pn, .int .i64 w.pd, .int .i64 w.an, .int .i64 w.ad, .int .i64 w.s.gen, .int .i64 w.s.epoch, .int .i64 w.s.recv, .sl zs] := by
    rintro _ ⟨us, hy, rfl⟩; rw [hy, hzs]
  have u1 : ∀ {l : List UInt8} {e : Nat} {m1 : Vw4} {d : Nat} {x : PV}, (l, e) = R → (m1, d) = gVw l → VwIs m1 x → e = 0 → d = 0 ∧ FnL Try.prog 21 [.p x, .p (.agg [.int .i64 w.pn, .int .i64 w.pd, .int .i64 w.an, .int .i64 w.ad, .int .i64 w.s.gen, .int .i64 w.s.epoch, .int .i64 w.s.recv, .sl zs])] [] fun v own => v = .p (.bool true) := by
    intro l e m1 d x h1 h2 h3 h4
    subst h4
    rw [f1 l h1] at h2
    obtain ⟨rfl, rfl⟩ := Prod.mk.inj h2
    rw [i1 x h3]
    exact ⟨rfl, s1⟩
  clear f1 s1 i1 hR hw
  have hgok : ∀ (s : Vw4) (e : Nat), (s, e) = gVw b → s.s.fit := fun s e h => gVw_ok h
  obtain ⟨D, hD⟩ : ∃ D, D = gVw b := ⟨_, rfl⟩
  rw [← hD] at hdec hrdec hgok
  obtain ⟨pn, pd, an, ad, ⟨g, e, r, ch⟩⟩ := w
  simp only at henc hrenc hzs u1 ⊢
  refine fn_of_vc eOk fOk fo5 Try.func5 rfl rfl rfl fun B hB => ?_
  intro add sub mul quo rem band bor bxor bclr shl shr ieq ilt ile seq slt beq bnot orb bcond iwrap iof ssz hA cat sq sl imin imax smin smax len slen u8 hL op hop call hcall code hcode ret hret
  cbv
  refine hcall _ _ _ _ _ (CallEv.same henc rfl ?_)
  rintro _ _ ⟨ws, l, e1, h1, hz, rfl, rfl⟩
  have hback := blDecode_spec l ws hz
  cbv
  refine hcall _ _ _ _ _ (CallEv.same hrenc rfl ?_)
  rintro _ _ ⟨ws', l', e1', h1', hz', rfl, rfl⟩
  obtain ⟨rfl, rfl⟩ : l' = l ∧ e1' = e1 := by have := h1'.trans h1.symm; simpa using this
  cbv
  refine hcall _ _ _ _ _ (CallEv.same hdec rfl ?_)
  rintro _ _ ⟨m1, e2, x1, h2, hx1, rfl, rfl⟩
  have hx1' := hx1
  obtain ⟨cs, hcs, rfl⟩ := hx1
  cbv
  refine hcall _ _ _ _ _ (CallEv.same hrdec rfl ?_)
  rintro _ _ ⟨m2, e3, x2, h2', ⟨cs2, hcs2, rfl⟩, rfl, rfl⟩
  obtain ⟨rfl, rfl⟩ : m2 = m1 ∧ e3 = e2 := by have := h2'.trans h2.symm; simpa using this
  obtain rfl : cs2 = cs := hcs2.trans hcs.symm
  have hsame := sameVow_spec m2 (hgok _ _ h2) _ hx1'
  cbv
  refine hcall _ _ _ _ _ (CallEv.same hback rfl ?_)
  rintro _ _ ⟨m3, e4, x3, h3, hx3, rfl, rfl⟩
  have j1 := fun h => (u1 h1 h3 hx3 h).1
  have sm1 := fun h => (u1 h1 h3 hx3 h).2
  obtain ⟨cs3, _, rfl⟩ := hx3
  clear u1 hback henc hrenc hdec hrdec
  cbv
  refine hcall _ _ _ _ _ (CallEv.same awake13_spec rfl ?_)
  rintro _ _ ⟨rfl, rfl⟩
  cbv
  repeat (first | (refine vcIf.yes ?_ ?_; (focus (simp [hA.not, hA.eq, hA.lt, hA.le, hA.cond, hA.beq, hA.orb, hL.len, hL.slen, hL.sq]; done)); cbv) | (refine vcIf.no ?_ ?_; (focus (simp [hA.not, hA.eq, hA.lt, hA.le, hA.cond, hA.beq, hA.orb, hL.len, hL.slen, hL.sq]; done)); cbv) | fail)
  refine ⟨_, hz, ?_⟩
  cbv
  refine ⟨_, hz', ?_⟩
  cbv
  repeat (first | (refine vcIf.yes ?_ ?_; (focus (simp [hA.not, hA.eq, hA.lt, hA.le, hA.cond, hA.beq, hA.orb, hL.len, hL.slen, hL.sq]; done)); cbv) | (refine vcIf.no ?_ ?_; (focus (simp [hA.not, hA.eq, hA.lt, hA.le, hA.cond, hA.beq, hA.orb, hL.len, hL.slen, hL.sq]; done)); cbv) | fail)
  refine hcall _ _ _ _ _ (CallEv.same hsame rfl ?_)
  rintro _ _ rfl
  cbv
  repeat (first | (refine vcIf.yes ?_ ?_; (focus (simp [hA.not, hA.eq, hA.lt, hA.le, hA.cond, hA.beq, hA.orb, hL.len, hL.slen, hL.sq]; done)); cbv) | (refine vcIf.no ?_ ?_; (focus (simp [hA.not, hA.eq, hA.lt, hA.le, hA.cond, hA.beq, hA.orb, hL.len, hL.slen, hL.sq]; done)); cbv) | fail)
  by_cases q1 : e1' = 0
  · have hd := j1 q1
    refine vcIf.no (by first | (simp [hA.not, hA.eq, hA.lt, hA.le, hA.cond, hA.beq, hA.orb, hL.len, hL.slen, hL.sq, q1]; done) | (simp only [q1]; simp [hA.not, hA.eq, hA.lt, hA.le, hA.cond, hA.beq, hA.orb, hL.len, hL.slen, hL.sq, q1]; done) | (simp [hA.not, hA.eq, hA.lt, hA.le, hA.cond, hA.beq, hA.orb, hL.len, hL.slen, hL.sq, q1]; omega) | (simp only [q1]; simp [hA.not, hA.eq, hA.lt, hA.le, hA.cond, hA.beq, hA.orb, hL.len, hL.slen, hL.sq, q1]; omega)) ?_
    cbv
    refine vcIf.yes (by first | (simp [hA.not, hA.eq, hA.lt, hA.le, hA.cond, hA.beq, hA.orb, hL.len, hL.slen, hL.sq, hd]; done) | (simp only [hd]; simp [hA.not, hA.eq, hA.lt, hA.le, hA.cond, hA.beq, hA.orb, hL.len, hL.slen, hL.sq, hd]; done) | (simp [hA.not, hA.eq, hA.lt, hA.le, hA.cond, hA.beq, hA.orb, hL.len, hL.slen, hL.sq, hd]; omega) | (simp only [hd]; simp [hA.not, hA.eq, hA.lt, hA.le, hA.cond, hA.beq, hA.orb, hL.len, hL.slen, hL.sq, hd]; omega)) ?_
    cbv
    refine hcall _ _ _ _ _ (CallEv.same (sm1 q1) rfl ?_)
    rintro _ _ rfl
    cbv
    exact hret _ (RetEv.ret eOk rfl (by simp [hA.not, hA.eq, hA.lt, hA.le, hA.cond, hA.beq, hA.orb, hL.len, hL.slen, hL.sq, oneOf]))
  · refine vcIf.yes (by first | (simp [hA.not, hA.eq, hA.lt, hA.le, hA.cond, hA.beq, hA.orb, hL.len, hL.slen, hL.sq, q1]; done) | (simp only [q1]; simp [hA.not, hA.eq, hA.lt, hA.le, hA.cond, hA.beq, hA.orb, hL.len, hL.slen, hL.sq, q1]; done) | (simp [hA.not, hA.eq, hA.lt, hA.le, hA.cond, hA.beq, hA.orb, hL.len, hL.slen, hL.sq, q1]; omega) | (simp only [q1]; simp [hA.not, hA.eq, hA.lt, hA.le, hA.cond, hA.beq, hA.orb, hL.len, hL.slen, hL.sq, q1]; omega)) ?_
    cbv
    exact hret _ (RetEv.ret eOk rfl (by simp [hA.not, hA.eq, hA.lt, hA.le, hA.cond, hA.beq, hA.orb, hL.len, hL.slen, hL.sq, oneOf]))
theorem has_Vw {K : Nat} (hK : K < 9223372036854775807) {z : PV} (h : Sh.Has K (.st [.st [.int .i64, .int .i64], .st [.int .i64, .int .i64], .st [.int .i64, .int .i64, .int .i64, .sl 8 (.int .i64)]]) z) : ∃ w : Vw4, z = w.v ∧ w.fit := by
  obtain ⟨cs, rfl, h0⟩ := has_st h
  obtain ⟨y0, c0, k0, e0, h1⟩ := has_cons h0
  obtain ⟨y1, c1, k1, e1, h2⟩ := has_cons h1
  obtain ⟨y2, c2, k2, e2, h3⟩ := has_cons h2
  obtain rfl := has_nil h3
  subst e2 e1 e0
  have hb : ∀ y, Sh.Has K (.st [.int .i64, .int .i64]) y → ∃ a b : Int, y = .agg [.int .i64 a, .int .i64 b] ∧ (-9223372036854775808 ≤ a ∧ a ≤ 9223372036854775807) ∧ (-9223372036854775808 ≤ b ∧ b ≤ 9223372036854775807) := by
    intro y hy
    obtain ⟨cs, rfl, h0⟩ := has_st hy
    obtain ⟨y0, c0, k0, e0, h1⟩ := has_cons h0
    obtain ⟨y1, c1, k1, e1, h2⟩ := has_cons h1
    obtain rfl := has_nil h2
    subst e1 e0
    obtain ⟨a0, rfl, p0, q0⟩ := has_int k0
    obtain ⟨a1, rfl, p1, q1⟩ := has_int k1
    exact ⟨a0, a1, rfl, ⟨p0, q0⟩, p1, q1⟩
  obtain ⟨a, b, rfl, p0, p1⟩ := hb _ k0
  obtain ⟨c, d, rfl, p2, p3⟩ := hb _ k1
  obtain ⟨s, rfl, hs⟩ := has_Stt hK k2
  refine ⟨⟨a, b, c, d, s⟩, rfl, fun z hz => ?_, hs⟩
  simp only [List.mem_cons, List.not_mem_nil, or_false] at hz
  rcases hz with rfl | rfl | rfl | rfl <;> assumption
end Go.Proofs.Ytmenbognkdeipaa
