/- The simplest facts of frames; the walk of the law FrameMessages. Conditions: on sizes. -/
import Derived.Test.YtmenbognkdeipaaLFr4
set_option maxRecDepth 100000
set_option maxHeartbeats 4000000
set_option linter.unusedSimpArgs false
set_option linter.unusedVariables false
namespace Go.Proofs.Ytmenbognkdeipaa
open Go Go.Lx
open Go.Sx (vcIf)

theorem rdN_enc (n : Nat) (hn : n < 9223372036854775808) (r : List UInt8) : rdN (enc n ++ r) 0 = (n, r, 0) := by
  unfold rdN
  rw [if_neg (by simp), dec_enc0 n r hn]
  simp
theorem rdT_enc (s : List UInt8) (hs : s.length ≤ 65536) (r : List UInt8) : rdT (enct s ++ r) 0 = (s, r, 0) := by
  unfold rdT decT enct
  rw [if_neg (by simp), List.append_assoc, dec_enc0 s.length _ (by omega)]
  simp only [ne_eq, not_true_eq_false, if_false]
  rw [if_neg (by omega), if_neg (by simp)]
  simp only [List.drop_left, List.take_left]
  rw [← List.drop_drop, List.drop_left, List.drop_left]
theorem rdMsg_enc (m : Msg) (hm : m.fit) (h0 : ∀ z ∈ m.nums, 0 ≤ z) (hb : m.body.length ≤ 65536) (r : List UInt8) : rdMsg (encs m.nums ++ enct m.body ++ r) = (m, r, 0) := by
  obtain ⟨k, f, t, p, a, b, c, s⟩ := m
  have g : ∀ z ∈ [k, f, t, p, a, b, c], ∃ y : Nat, z = (y : Int) ∧ y < 9223372036854775808 := fun z hz => ⟨z.toNat, by have := h0 z hz; omega, by have := hm.1 z hz; have := h0 z hz; omega⟩
  obtain ⟨k, rfl, hk⟩ := g k (by simp)
  obtain ⟨f, rfl, hf⟩ := g f (by simp)
  obtain ⟨t, rfl, ht⟩ := g t (by simp)
  obtain ⟨p, rfl, hp⟩ := g p (by simp)
  obtain ⟨a, rfl, ha⟩ := g a (by simp)
  obtain ⟨b, rfl, hb'⟩ := g b (by simp)
  obtain ⟨c, rfl, hc⟩ := g c (by simp)
  have e : encs (Msg.nums ⟨k, f, t, p, a, b, c, s⟩) ++ enct s ++ r = enc k ++ (enc f ++ (enc t ++ (enc p ++ (enc a ++ (enc b ++ (enc c ++ (enct s ++ r))))))) := by
    simp [encs, Msg.nums]
  simp only
  rw [e]
  unfold rdMsg
  rw [rdN_enc k hk]; simp only
  rw [rdN_enc f hf]; simp only
  rw [rdN_enc t ht]; simp only
  rw [rdN_enc p hp]; simp only
  rw [rdN_enc a ha]; simp only
  rw [rdN_enc b hb']; simp only
  rw [rdN_enc c hc]; simp only
  rw [rdT_enc s hb]
theorem fDec_enc (m : Msg) (hm : m.fit) (l : List UInt8) (h : (l, 0) = fEnc m) : fDec l = (m, 0) := by
  have hok : m.okB = true := by
    unfold fEnc at h
    split at h
    · assumption
    · simp at h
  have hl : l = cseal (encs m.nums ++ enct m.body) := by
    unfold fEnc at h
    rw [if_pos hok] at h
    simpa using h
  have hr := rdMsg_enc m hm (fun z hz => by
    unfold Msg.okB at hok
    simp only [decide_eq_true_eq] at hok
    simp only [Msg.nums, List.mem_cons, List.not_mem_nil, or_false] at hz
    rcases hz with rfl | rfl | rfl | rfl | rfl | rfl | rfl <;> omega) (by unfold Msg.okB at hok; simp only [decide_eq_true_eq] at hok; omega) []
  rw [List.append_nil] at hr
  unfold fDec
  rw [hl, copen_seal]
  simp only [ne_eq, not_true_eq_false, if_false]
  rw [hr]
  simp only
  rw [← hl, ← h, if_pos (by simp)]

theorem sameMsg_spec (m : Msg) (x : PV) (hx : MsgIs m x) : FnL Try.prog 15 [.p x, .p x] [] fun v own => v = .p (.bool true) := by
  obtain ⟨bs, hbs, rfl⟩ := hx
  obtain ⟨k, f, t, p, a, b, c, s⟩ := m
  simp only at hbs ⊢
  refine fn_of_vc eOk fOk fo15 Try.func15 rfl rfl rfl fun B hB => ?_
  intro add sub mul quo rem band bor bxor bclr shl shr ieq ilt ile seq slt beq bnot orb bcond iwrap iof ssz hA cat sq sl imin imax smin smax len slen u8 hL op hop call hcall code hcode ret hret
  cbv
  repeat (first | (refine vcIf.yes ?_ ?_; (focus (simp [hA.not, hA.eq, hA.lt, hA.le, hA.cond, hA.beq, hA.orb, hL.len, hL.slen, hL.sq]; done)); cbv) | (refine vcIf.no ?_ ?_; (focus (simp [hA.not, hA.eq, hA.lt, hA.le, hA.cond, hA.beq, hA.orb, hL.len, hL.slen, hL.sq]; done)); cbv) | fail)
  refine ⟨s, hbs, ?_⟩
  cbv
  refine ⟨s, hbs, ?_⟩
  cbv
  exact hret _ (RetEv.ret eOk rfl (by simp [hA.not, hA.eq, hA.lt, hA.le, hA.cond, hA.beq, hA.orb, hL.len, hL.slen, hL.sq, oneOf]))

theorem awake5_spec : FnL Try.prog 14 [] [] fun z own => z = .p (.bool true) ∧ own = [] := by
  refine FnL.flat (R := fun z own => z = .p (.bool true)) ?_ (fun v own' h => ⟨_, _, h, .refl _, rfl, rfl⟩)
  obtain ⟨bs, hbs⟩ : ∃ bs, bs = bP [120] := ⟨_, rfl⟩
  have hfit : Msg.fit ⟨5, 3, 4, 0, 9, 0, 0, [120]⟩ := ⟨fun z hz => by
    simp only [Msg.nums, List.mem_cons, List.not_mem_nil, or_false] at hz
    rcases hz with rfl | rfl | rfl | rfl | rfl | rfl | rfl <;> decide, by decide⟩
  have henc := frEncode_spec ⟨5, 3, 4, 0, 9, 0, 0, [120]⟩ hfit bs hbs
  simp only at henc
  have hfe : fEnc ⟨5, 3, 4, 0, 9, 0, 0, [120]⟩ = (cseal (encs [5, 3, 4, 0, 9, 0, 0] ++ enct [120]), 0) := by unfold fEnc; rw [if_pos (by decide)]; rfl
  have hlen : (cseal (encs [5, 3, 4, 0, 9, 0, 0] ++ enct [120])).length < 140737488355328 := by
    have h1 := encs_len [5, 3, 4, 0, 9, 0, 0] (fun z hz => by
      simp only [List.mem_cons, List.not_mem_nil, or_false] at hz
      rcases hz with rfl | rfl | rfl | rfl | rfl | rfl | rfl <;> decide)
    have h2 := enc_len9 (show ([120] : List UInt8).length < 9223372036854775808 by decide)
    simp only [cseal, le4, enct, List.length_append, List.length_cons, List.length_nil] at h1 h2 ⊢
    omega
  have hbl : bs.length = 1 := by rw [hbs]; rfl
  refine fn_of_vc eOk fOk fo14 Try.func14 rfl rfl rfl fun B hB => ?_
  intro add sub mul quo rem band bor bxor bclr shl shr ieq ilt ile seq slt beq bnot orb bcond iwrap iof ssz hA cat sq sl imin imax smin smax len slen u8 hL op hop call hcall code hcode ret hret
  cbv
  refine ⟨true, ?_⟩
  cbv
  refine hop _ _ _ _ (OpEv.convRow (j := 0) (n := 1) eOk rfl rfl rfl rfl rfl rfl rfl (by rw [hB]; exact Nat.zero_le _) rfl (by decide) rfl ?_)
  have hbs2 : [PV.int .u8 120] = bs := hbs.symm
  cbv
  rw [hbs2]
  refine hcall _ _ _ _ _ (CallEv.same henc rfl ?_)
  rintro _ _ ⟨ys, l, e, h1, hys, rfl, rfl⟩
  have he : e = 0 := by rw [hfe] at h1; exact (Prod.mk.inj h1).2
  have hll : l.length < 140737488355328 := by rw [hfe] at h1; rw [(Prod.mk.inj h1).1]; exact hlen
  subst he
  have hdec := frDecode_spec l hll ys hys
  rw [fDec_enc _ hfit l h1] at hdec
  cbv
  refine hcall _ _ _ _ _ (CallEv.same hdec rfl ?_)
  rintro _ _ ⟨m, e, x, h2, ⟨cs, hcs, rfl⟩, rfl, rfl⟩
  simp only [Prod.mk.injEq] at h2
  obtain ⟨rfl, rfl⟩ := h2
  replace hcs : cs = bP [120] := hcs
  cbv
  repeat (first | (refine vcIf.yes ?_ ?_; (focus (simp [hA.not, hA.eq, hA.lt, hA.le, hA.cond, hA.beq, hA.orb, hL.len, hL.slen, hL.sq]; done)); cbv) | (refine vcIf.no ?_ ?_; (focus (simp [hA.not, hA.eq, hA.lt, hA.le, hA.cond, hA.beq, hA.orb, hL.len, hL.slen, hL.sq]; done)); cbv) | fail)
  refine ⟨_, hcs, ?_⟩
  cbv
  exact hret _ (RetEv.ret eOk rfl (by simp [hA.not, hA.eq, hA.lt, hA.le, hA.cond, hA.beq, hA.orb, hL.len, hL.slen, hL.sq, oneOf]))

theorem fEnc_len (m : Msg) (hm : m.fit) {l : List UInt8} {e : Nat} (h : (l, e) = fEnc m) : l.length ≤ 70000 := by
  unfold fEnc at h
  split at h
  · rename_i hok
    unfold Msg.okB at hok
    simp only [decide_eq_true_eq] at hok
    rw [(Prod.mk.inj h).1]
    have h1 := encs_len m.nums (fun z hz => (hm.1 z hz).2)
    have h2 := enc_len9 (show m.body.length < 9223372036854775808 by omega)
    simp only [cseal, le4, enct, Msg.nums, List.length_append, List.length_cons, List.length_nil] at h1 h2 ⊢
    omega
  · rw [(Prod.mk.inj h).1]; simp

theorem frameMessages (m : Msg) (hm : m.fit) (b : List UInt8) (hb : b.length < 140737488355328) : FnL Try.prog 3 [.p m.v, .p (.sl (bP b))] [] fun z own => z = .p (.bool true) := by
  obtain ⟨bs, hbs⟩ : ∃ bs, bs = bP m.body := ⟨_, rfl⟩
  obtain ⟨ys, hys⟩ : ∃ ys, ys = bP b := ⟨_, rfl⟩
  have henc := frEncode_spec m hm bs hbs
  have hrenc := rEncode_spec m hm bs hbs
  have hdec := frDecode_spec b hb ys hys
  have hrdec := rDecode_spec b hb ys hys
  unfold Msg.v
  rw [← hbs, ← hys]
  obtain ⟨R, hR⟩ : ∃ R, R = fEnc m := ⟨_, rfl⟩
  obtain ⟨D, hD⟩ : ∃ D, D = fDec b := ⟨_, rfl⟩
  rw [← hR] at henc hrenc
  rw [← hD] at hdec hrdec
  obtain ⟨k, f, t, p, a, bb, c, s⟩ := m
  simp only at henc hrenc hbs ⊢
  refine fn_of_vc eOk fOk fo3 Try.func3 rfl rfl rfl fun B hB => ?_
  intro add sub mul quo rem band bor bxor bclr shl shr ieq ilt ile seq slt beq bnot orb bcond iwrap iof ssz hA cat sq sl imin imax smin smax len slen u8 hL op hop call hcall code hcode ret hret
  cbv
  refine hcall _ _ _ _ _ (CallEv.same henc rfl ?_)
  rintro _ _ ⟨zs, l, e, h1, hz, rfl, rfl⟩
  cbv
  refine hcall _ _ _ _ _ (CallEv.same hrenc rfl ?_)
  rintro _ _ ⟨zs', l', e', h1', hz', rfl, rfl⟩
  obtain ⟨rfl, rfl⟩ : l' = l ∧ e' = e := by have := h1'.trans h1.symm; simpa using this
  cbv
  refine hcall _ _ _ _ _ (CallEv.same hdec rfl ?_)
  rintro _ _ ⟨m1, e1, x1, h2, hx1, rfl, rfl⟩
  cbv
  have hx1' := hx1
  obtain ⟨cs, hcs, rfl⟩ := hx1
  cbv
  refine hcall _ _ _ _ _ (CallEv.same hrdec rfl ?_)
  rintro _ _ ⟨m2, e2, x2, h2', ⟨cs2, hcs2, rfl⟩, rfl, rfl⟩
  obtain ⟨rfl, rfl⟩ : m2 = m1 ∧ e2 = e1 := by have := h2'.trans h2.symm; simpa using this
  obtain rfl : cs2 = cs := hcs2.trans hcs.symm
  have hsame := sameMsg_spec m2 _ hx1'
  cbv
  refine hcall _ _ _ _ _ (CallEv.same awake5_spec rfl ?_)
  rintro _ _ ⟨rfl, rfl⟩
  cbv
  repeat (first | (refine vcIf.yes ?_ ?_; (focus (simp [hA.not, hA.eq, hA.lt, hA.le, hA.cond, hA.beq, hA.orb, hL.len, hL.slen, hL.sq]; done)); cbv) | (refine vcIf.no ?_ ?_; (focus (simp [hA.not, hA.eq, hA.lt, hA.le, hA.cond, hA.beq, hA.orb, hL.len, hL.slen, hL.sq]; done)); cbv) | fail)
  refine ⟨_, hz, ?_⟩
  cbv
  refine ⟨_, hz', ?_⟩
  cbv
  repeat (first | (refine vcIf.yes ?_ ?_; (focus (simp [hA.not, hA.eq, hA.lt, hA.le, hA.cond, hA.beq, hA.orb, hL.len, hL.slen, hL.sq]; done)); cbv) | (refine vcIf.no ?_ ?_; (focus (simp [hA.not, hA.eq, hA.lt, hA.le, hA.cond, hA.beq, hA.orb, hL.len, hL.slen, hL.sq]; done)); cbv) | fail)
  refine hcall _ _ _ _ _ (CallEv.same hsame rfl ?_)
  rintro _ _ rfl
  cbv
  exact hret _ (RetEv.ret eOk rfl (by simp [hA.not, hA.eq, hA.lt, hA.le, hA.cond, hA.beq, hA.orb, hL.len, hL.slen, hL.sq, oneOf]))
theorem has_Msg {K : Nat} (hK : K < 140737488355328) {z : PV} (h : Sh.Has K (.st [.int .i64, .int .i64, .int .i64, .int .i64, .int .i64, .int .i64, .int .i64, .sl 1 (.int .u8)]) z) : ∃ m : Msg, z = m.v ∧ m.fit := by
  obtain ⟨cs, rfl, h0⟩ := has_st h
  obtain ⟨y0, c0, k0, e0, h1⟩ := has_cons h0
  obtain ⟨y1, c1, k1, e1, h2⟩ := has_cons h1
  obtain ⟨y2, c2, k2, e2, h3⟩ := has_cons h2
  obtain ⟨y3, c3, k3, e3, h4⟩ := has_cons h3
  obtain ⟨y4, c4, k4, e4, h5⟩ := has_cons h4
  obtain ⟨y5, c5, k5, e5, h6⟩ := has_cons h5
  obtain ⟨y6, c6, k6, e6, h7⟩ := has_cons h6
  obtain ⟨y7, c7, k7, e7, h8⟩ := has_cons h7
  obtain rfl := has_nil h8
  subst e7 e6 e5 e4 e3 e2 e1 e0
  obtain ⟨a0, rfl, p0, q0⟩ := has_int k0
  obtain ⟨a1, rfl, p1, q1⟩ := has_int k1
  obtain ⟨a2, rfl, p2, q2⟩ := has_int k2
  obtain ⟨a3, rfl, p3, q3⟩ := has_int k3
  obtain ⟨a4, rfl, p4, q4⟩ := has_int k4
  obtain ⟨a5, rfl, p5, q5⟩ := has_int k5
  obtain ⟨a6, rfl, p6, q6⟩ := has_int k6
  obtain ⟨l, rfl, hl⟩ := has_bytes k7
  refine ⟨⟨a0, a1, a2, a3, a4, a5, a6, l⟩, rfl, fun z hz => ?_, by simp only; omega⟩
  simp only [Msg.nums, List.mem_cons, List.not_mem_nil, or_false] at hz
  rcases hz with rfl | rfl | rfl | rfl | rfl | rfl | rfl <;> exact ⟨by assumption, by assumption⟩
end Go.Proofs.Ytmenbognkdeipaa
