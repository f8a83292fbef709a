/- The document's messages read; the walk of the law FrameMessages. Conditions: on sizes. -/
import Derived.Test.YtmenbognkdeipaaLFr3
set_option maxRecDepth 100000
set_option maxHeartbeats 4000000
set_option linter.unusedSimpArgs false
set_option linter.unusedVariables false
namespace Go.Proofs.Ytmenbognkdeipaa
open Go Go.Lx
open Go.Sx (vcIf)

/-- What is read is what was laid, and what is left. -/
theorem rdN_back {l l' : List UInt8} {e n : Nat} (h : (n, l', 0) = rdN l e) : e = 0 ∧ l = enc n ++ l' := by
  unfold rdN at h
  split at h
  · rename_i he; cases h; exact absurd rfl he
  · rename_i he
    simp only [Prod.mk.injEq] at h
    obtain ⟨h1, h2, h3⟩ := h
    refine ⟨by simpa using he, ?_⟩
    have := enc_dec0 l h3.symm
    rw [h1, h2, this, List.take_append_drop]
theorem decT_ok {l : List UInt8} (h : (decT l).2.2 = 0) : (dec 0 0 l).2.2 = 0 ∧ (dec 0 0 l).1 ≤ 65536 ∧ (dec 0 0 l).1 ≤ l.length - (dec 0 0 l).2.1 ∧ (decT l).1 = (l.drop (dec 0 0 l).2.1).take (dec 0 0 l).1 ∧ (decT l).2.1 = (dec 0 0 l).2.1 + (dec 0 0 l).1 := by
  unfold decT at h ⊢
  obtain ⟨⟨x, u, e⟩, hd⟩ : ∃ r, r = dec 0 0 l := ⟨_, rfl⟩
  rw [← hd] at h ⊢
  simp only at h ⊢
  split at h
  · rename_i he; exact absurd h he
  rename_i he
  split at h
  · simp at h
  rename_i hx
  split at h
  · simp at h
  rename_i hs
  rw [if_neg he, if_neg hx, if_neg hs]
  exact ⟨by simpa using he, by omega, by omega, rfl, rfl⟩
theorem rdT_back {l l' s : List UInt8} {e : Nat} (h : (s, l', 0) = rdT l e) : e = 0 ∧ l = enct s ++ l' := by
  unfold rdT at h
  split at h
  · rename_i he; cases h; exact absurd rfl he
  · rename_i he
    simp only [Prod.mk.injEq] at h
    obtain ⟨h1, h2, h3⟩ := h
    refine ⟨by simpa using he, ?_⟩
    obtain ⟨k1, k2, k3, k4, k5⟩ := decT_ok h3.symm
    have hen := enc_dec0 l k1
    have hu := dec_used l 0 0 k1
    have hsl : s.length = (dec 0 0 l).1 := by rw [h1, k4, List.length_take, List.length_drop]; omega
    unfold enct
    rw [hsl, hen, h1, h2, k4, k5, List.append_assoc, ← List.drop_drop, List.take_append_drop, List.take_append_drop]
theorem rdMsg_back {l l' : List UInt8} {m : Msg} (h : rdMsg l = (m, l', 0)) : l = encs m.nums ++ enct m.body ++ l' := by
  unfold rdMsg at h
  obtain ⟨⟨n1, l1, e1⟩, h1⟩ : ∃ r, r = rdN l 0 := ⟨_, rfl⟩
  rw [← h1] at h; simp only at h
  obtain ⟨⟨n2, l2, e2⟩, h2⟩ : ∃ r, r = rdN l1 e1 := ⟨_, rfl⟩
  rw [← h2] at h; simp only at h
  obtain ⟨⟨n3, l3, e3⟩, h3⟩ : ∃ r, r = rdN l2 e2 := ⟨_, rfl⟩
  rw [← h3] at h; simp only at h
  obtain ⟨⟨n4, l4, e4⟩, h4⟩ : ∃ r, r = rdN l3 e3 := ⟨_, rfl⟩
  rw [← h4] at h; simp only at h
  obtain ⟨⟨n5, l5, e5⟩, h5⟩ : ∃ r, r = rdN l4 e4 := ⟨_, rfl⟩
  rw [← h5] at h; simp only at h
  obtain ⟨⟨n6, l6, e6⟩, h6⟩ : ∃ r, r = rdN l5 e5 := ⟨_, rfl⟩
  rw [← h6] at h; simp only at h
  obtain ⟨⟨n7, l7, e7⟩, h7⟩ : ∃ r, r = rdN l6 e6 := ⟨_, rfl⟩
  rw [← h7] at h; simp only at h
  obtain ⟨⟨s, l8, e8⟩, h8⟩ : ∃ r, r = rdT l7 e7 := ⟨_, rfl⟩
  rw [← h8] at h; simp only [Prod.mk.injEq] at h
  obtain ⟨hm, rfl, rfl⟩ := h
  obtain ⟨rfl, b8⟩ := rdT_back h8
  obtain ⟨rfl, b7⟩ := rdN_back h7
  obtain ⟨rfl, b6⟩ := rdN_back h6
  obtain ⟨rfl, b5⟩ := rdN_back h5
  obtain ⟨rfl, b4⟩ := rdN_back h4
  obtain ⟨rfl, b3⟩ := rdN_back h3
  obtain ⟨rfl, b2⟩ := rdN_back h2
  obtain ⟨_, b1⟩ := rdN_back h1
  rw [← hm, b1, b2, b3, b4, b5, b6, b7, b8]
  simp [encs, Msg.nums]
/-- Read on behind nothing left: what is laid again is what was there. -/
theorem fDec_alt (l : List UInt8) : fDec l = (match copen l with
    | (bd, e) => if e ≠ 0 then (Msg.zero, 2) else match rdMsg bd with
      | (m, _, e8) => if e8 = 0 ∧ (fEnc m).2 = 0 ∧ (fEnc m).1 = l then (m, 0) else (Msg.zero, 2)) := by
  unfold fDec
  obtain ⟨⟨bd, e⟩, hc⟩ : ∃ r, r = copen l := ⟨_, rfl⟩
  rw [← hc]
  simp only
  by_cases he : e = 0
  · subst he
    obtain ⟨⟨m, l8, e8⟩, hm⟩ : ∃ r, r = rdMsg bd := ⟨_, rfl⟩
    rw [← hm]
    simp only [ne_eq, not_true_eq_false, if_false]
    by_cases h : e8 = 0 ∧ (fEnc m).2 = 0 ∧ (fEnc m).1 = l
    · rw [if_pos h, if_pos]
      obtain ⟨rfl, h2, h3⟩ := h
      refine ⟨rfl, ?_, h2, h3⟩
      have hb := rdMsg_back hm.symm
      have ho := copen_ok hc.symm
      have hen : fEnc m = (cseal (encs m.nums ++ enct m.body), 0) := by
        unfold fEnc at h2 ⊢
        split
        · rfl
        · rename_i hk; rw [if_neg hk] at h2; simp at h2
      rw [hen] at h3
      simp only at h3
      have := copen_seal (encs m.nums ++ enct m.body)
      rw [h3, ← hc] at this
      simp only [Prod.mk.injEq, and_true] at this
      rw [this] at hb
      have := List.self_eq_append_right.1 hb
      exact this
    · rw [if_neg h, if_neg]
      exact fun c => h ⟨c.1, c.2.2.1, c.2.2.2⟩
  · simp [he]

theorem rDecode_spec (l : List UInt8) (hl : l.length < 140737488355328) (xs : List PV) (hxs : xs = bP l) :
    FnL Try.prog 13 [.p (.sl xs)] [] fun v own => ∃ (m : Msg) (e : Nat) (x : PV), (m, e) = fDec l ∧ MsgIs m x ∧ v = .p (.tup [x, .int .i64 (Int.ofNat e)]) ∧ own = [] := by
  refine FnL.flat (R := fun v own => ∃ (m : Msg) (e : Nat) (x y : PV), (m, e) = fDec l ∧ MsgIs m x ∧ PW y x ∧ v = .p (.tup [y, .int .i64 (Int.ofNat e)])) ?_
    (by rintro _ _ ⟨m, e, x, y, h1, h2, h3, rfl⟩; exact ⟨_, .tup [x, .int .i64 (Int.ofNat e)], rfl, PW.tup ⟨h3, .refl _, trivial⟩, m, e, x, h1, h2, rfl, rfl⟩)
  have hzero : ∀ v : V, v = .p (.tup [.agg [.int .i64 0, .int .i64 0, .int .i64 0, .int .i64 0, .int .i64 0, .int .i64 0, .int .i64 0, .nils], .int .i64 2]) → fDec l = (Msg.zero, 2) →
      ∃ (m : Msg) (e : Nat) (x y : PV), (m, e) = fDec l ∧ MsgIs m x ∧ PW y x ∧ v = .p (.tup [y, .int .i64 (Int.ofNat e)]) := fun v hv hd =>
    ⟨Msg.zero, 2, _, .agg [.int .i64 0, .int .i64 0, .int .i64 0, .int .i64 0, .int .i64 0, .int .i64 0, .int .i64 0, .nils], hd.symm, ⟨[], rfl, rfl⟩, PW.agg ⟨.refl _, .refl _, .refl _, .refl _, .refl _, .refl _, .refl _, PW.nils, trivial⟩, hv⟩
  have hop' := rOpen_spec l xs hxs (by omega)
  obtain ⟨bd, e0, hcop⟩ : ∃ bd e, (bd, e) = copen l := ⟨_, _, rfl⟩
  have hbdl := copen_len hcop.symm
  have halt := fDec_alt l
  rw [← hcop] at halt
  simp only at halt
  have hd1 : e0 ≠ 0 → fDec l = (Msg.zero, 2) := fun h => by rw [halt]; simp [h]
  refine fn_of_vc eOk fOk fo13 Try.func13 rfl rfl rfl fun B hB => ?_
  intro add sub mul quo rem band bor bxor bclr shl shr ieq ilt ile seq slt beq bnot orb bcond iwrap iof ssz hA cat sq sl imin imax smin smax len slen u8 hL op hop call hcall code hcode ret hret
  cbv
  refine hcall _ _ _ _ _ (CallEv.same hop' rfl ?_)
  rintro _ _ ⟨ys, bd', e0', h0, hys, rfl, rfl⟩
  obtain ⟨rfl, rfl⟩ : bd' = bd ∧ e0' = e0 := by have := h0.trans hcop.symm; simpa using this
  cbv
  by_cases he0 : e0' = 0
  rotate_left
  · refine vcIf.yes (by rw [hA.not, hA.eq]; simp; omega) ?_
    cbv
    exact hret _ (RetEv.ret eOk rfl (hzero _ rfl (hd1 he0)))
  subst he0
  repeat (first | (refine vcIf.yes ?_ ?_; (focus (simp [hA.not, hA.eq, hA.lt, hA.le, hA.cond, hA.beq, hA.orb, hL.len, hL.slen, hL.sq]; done)); cbv) | (refine vcIf.no ?_ ?_; (focus (simp [hA.not, hA.eq, hA.lt, hA.le, hA.cond, hA.beq, hA.orb, hL.len, hL.slen, hL.sq]; done)); cbv) | fail)
  have hN1 := rrNum_spec bd' 0 ys hys false rfl
  refine hcall _ _ _ _ _ (CallEv.lend [1] hN1 rfl (.cons (.own 0 1 0 rfl) .nil) (rrL rfl) ?_)
  rintro _ _ ⟨n1, l1, e1, z1, b1, h1, g1, d1, rfl, rfl⟩
  cbv
  have hN2 := rrNum_spec l1 e1 z1 g1 b1 d1
  refine hcall _ _ _ _ _ (CallEv.lend [1] hN2 rfl (.cons (.own 0 1 0 rfl) .nil) (rrL rfl) ?_)
  rintro _ _ ⟨n2, l2, e2, z2, b2, h2, g2, d2, rfl, rfl⟩
  cbv
  have hN3 := rrNum_spec l2 e2 z2 g2 b2 d2
  refine hcall _ _ _ _ _ (CallEv.lend [1] hN3 rfl (.cons (.own 0 1 0 rfl) .nil) (rrL rfl) ?_)
  rintro _ _ ⟨n3, l3, e3, z3, b3, h3, g3, d3, rfl, rfl⟩
  cbv
  have hN4 := rrNum_spec l3 e3 z3 g3 b3 d3
  refine hcall _ _ _ _ _ (CallEv.lend [1] hN4 rfl (.cons (.own 0 1 0 rfl) .nil) (rrL rfl) ?_)
  rintro _ _ ⟨n4, l4, e4, z4, b4, h4, g4, d4, rfl, rfl⟩
  cbv
  have hN5 := rrNum_spec l4 e4 z4 g4 b4 d4
  refine hcall _ _ _ _ _ (CallEv.lend [1] hN5 rfl (.cons (.own 0 1 0 rfl) .nil) (rrL rfl) ?_)
  rintro _ _ ⟨n5, l5, e5, z5, b5, h5, g5, d5, rfl, rfl⟩
  cbv
  have hN6 := rrNum_spec l5 e5 z5 g5 b5 d5
  refine hcall _ _ _ _ _ (CallEv.lend [1] hN6 rfl (.cons (.own 0 1 0 rfl) .nil) (rrL rfl) ?_)
  rintro _ _ ⟨n6, l6, e6, z6, b6, h6, g6, d6, rfl, rfl⟩
  cbv
  have hN7 := rrNum_spec l6 e6 z6 g6 b6 d6
  refine hcall _ _ _ _ _ (CallEv.lend [1] hN7 rfl (.cons (.own 0 1 0 rfl) .nil) (rrL rfl) ?_)
  rintro _ _ ⟨n7, l7, e7, z7, b7, h7, g7, d7, rfl, rfl⟩
  cbv
  have hlen : l7.length ≤ bd'.length := by
    have := rdN_len h1; have := rdN_len h2; have := rdN_len h3; have := rdN_len h4; have := rdN_len h5; have := rdN_len h6; have := rdN_len h7; omega
  have hT := rrText_spec l7 (by omega) e7 z7 g7 b7 d7
  refine hcall _ _ _ _ _ (CallEv.lend [1] hT rfl (.cons (.own 0 1 0 rfl) .nil) (rrL rfl) ?_)
  rintro _ _ ⟨s, l8, e8, z8, b8, h8, g8, d8, rfl, rfl⟩
  have hsl := (rdT_len h8).1
  obtain ⟨m, hm⟩ : ∃ m : Msg, m = ⟨n1, n2, n3, n4, n5, n6, n7, s⟩ := ⟨_, rfl⟩
  have hmsg : rdMsg bd' = (m, l8, e8) := by unfold rdMsg; simp only [← h1, ← h2, ← h3, ← h4, ← h5, ← h6, ← h7, ← h8, hm]
  have hfd : fDec l = if e8 = 0 ∧ (fEnc m).2 = 0 ∧ (fEnc m).1 = l then (m, 0) else (Msg.zero, 2) := by
    rw [halt]; simp only [ne_eq, not_true_eq_false, if_false, hmsg]
  have hfit : m.fit := by
    have a1 := rdN_lt h1; have a2 := rdN_lt h2; have a3 := rdN_lt h3; have a4 := rdN_lt h4; have a5 := rdN_lt h5; have a6 := rdN_lt h6; have a7 := rdN_lt h7
    rw [hm]
    refine ⟨fun z hz => ?_, by simp only; omega⟩
    simp only [Msg.nums, List.mem_cons, List.not_mem_nil, or_false] at hz
    rcases hz with rfl | rfl | rfl | rfl | rfl | rfl | rfl <;> omega
  have henc0 := rEncode_spec m hfit
  rw [hm] at henc0
  simp only at henc0
  rw [← hm] at henc0
  cbv
  refine ⟨(), by unfold maxLen; omega, ?_⟩
  intro bs hbs
  have henc := henc0 bs hbs
  cbv
  refine hcall _ _ _ _ _ (CallEv.same henc rfl ?_)
  rintro _ _ ⟨us, le, ee, q1, q2, rfl, rfl⟩
  rw [← q1] at hfd
  simp only at hfd
  cbv
  cases b8 with
  | true =>
    have hd2 : fDec l = (Msg.zero, 2) := by
      rw [hfd, if_neg]
      exact fun c => of_decide_eq_true d8.symm c.1
    repeat (first | (refine vcIf.yes ?_ ?_; (focus (simp [hA.not, hA.eq, hA.lt, hA.le, hA.cond, hA.beq, hA.orb, hL.len, hL.slen, hL.sq]; done)); cbv) | (refine vcIf.no ?_ ?_; (focus (simp [hA.not, hA.eq, hA.lt, hA.le, hA.cond, hA.beq, hA.orb, hL.len, hL.slen, hL.sq]; done)); cbv) | fail)
    exact hret _ (RetEv.ret eOk rfl (hzero _ rfl hd2))
  | false =>
    have hd0 : e8 = 0 := by have := of_decide_eq_false d8.symm; simpa using this
    cbv
    repeat (first | (refine vcIf.yes ?_ ?_; (focus (simp [hA.not, hA.eq, hA.lt, hA.le, hA.cond, hA.beq, hA.orb, hL.len, hL.slen, hL.sq]; done)); cbv) | (refine vcIf.no ?_ ?_; (focus (simp [hA.not, hA.eq, hA.lt, hA.le, hA.cond, hA.beq, hA.orb, hL.len, hL.slen, hL.sq]; done)); cbv) | fail)
    by_cases hee : ee = 0
    rotate_left
    · refine vcIf.yes (by rw [hA.cond, hA.not, hA.eq]; simp; omega) ?_
      cbv
      have hd2 : fDec l = (Msg.zero, 2) := by rw [hfd, if_neg]; exact fun c => hee c.2.1
      repeat (first | (refine vcIf.yes ?_ ?_; (focus (simp [hA.not, hA.eq, hA.lt, hA.le, hA.cond, hA.beq, hA.orb, hL.len, hL.slen, hL.sq]; done)); cbv) | (refine vcIf.no ?_ ?_; (focus (simp [hA.not, hA.eq, hA.lt, hA.le, hA.cond, hA.beq, hA.orb, hL.len, hL.slen, hL.sq]; done)); cbv) | fail)
      exact hret _ (RetEv.ret eOk rfl (hzero _ rfl hd2))
    subst hee
    repeat (first | (refine vcIf.yes ?_ ?_; (focus (simp [hA.not, hA.eq, hA.lt, hA.le, hA.cond, hA.beq, hA.orb, hL.len, hL.slen, hL.sq]; done)); cbv) | (refine vcIf.no ?_ ?_; (focus (simp [hA.not, hA.eq, hA.lt, hA.le, hA.cond, hA.beq, hA.orb, hL.len, hL.slen, hL.sq]; done)); cbv) | fail)
    refine ⟨le, q2, ?_⟩
    cbv
    refine ⟨l, hxs, ?_⟩
    cbv
    by_cases hc : le = l
    · have hd2 : fDec l = (m, 0) := by rw [hfd, if_pos]; exact ⟨hd0, rfl, hc⟩
      repeat (first | (refine vcIf.yes ?_ ?_; (focus (simp [hA.not, hA.eq, hA.lt, hA.le, hA.cond, hA.beq, hA.orb, hL.len, hL.slen, hL.sq, hc]; done)); cbv) | (refine vcIf.no ?_ ?_; (focus (simp [hA.not, hA.eq, hA.lt, hA.le, hA.cond, hA.beq, hA.orb, hL.len, hL.slen, hL.sq, hc]; done)); cbv) | fail)
      exact hret _ (RetEv.ret eOk rfl ⟨m, 0, _, _, hd2.symm, ⟨bs, by rw [hbs, hm], by subst hm; rfl⟩, .refl _, rfl⟩)
    · have hd2 : fDec l = (Msg.zero, 2) := by rw [hfd, if_neg]; exact fun c => hc c.2.2
      repeat (first | (refine vcIf.yes ?_ ?_; (focus (simp [hA.not, hA.eq, hA.lt, hA.le, hA.cond, hA.beq, hA.orb, hL.len, hL.slen, hL.sq, hc]; done)); cbv) | (refine vcIf.no ?_ ?_; (focus (simp [hA.not, hA.eq, hA.lt, hA.le, hA.cond, hA.beq, hA.orb, hL.len, hL.slen, hL.sq, hc]; done)); cbv) | fail)
      exact hret _ (RetEv.ret eOk rfl (hzero _ rfl hd2))
end Go.Proofs.Ytmenbognkdeipaa
