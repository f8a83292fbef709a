/- Messages read. Conditions: on sizes. -/
import Derived.Test.YtmenbognkdeipaaLFr1
import Derived.Test.YtmenbognkdeipaaLRd
set_option maxRecDepth 100000
set_option maxHeartbeats 4000000
set_option linter.unusedSimpArgs false
set_option linter.unusedVariables false
namespace Go.Proofs.Ytmenbognkdeipaa
open Go Go.Lx
open Go.Sx (vcIf)

theorem beqB_spec (a b : List UInt8) (xs ys : List PV) (hx : xs = bP a) (hy : ys = bP b) :
    FnL Try.prog 51 [.p (.sl xs), .p (.sl ys)] [] fun v own => ∃ c, c = decide (a = b) ∧ v = .p (.bool c) ∧ own = [] := by
  refine fn_of_vc eOk fOk fo51 Try.func51 rfl rfl rfl fun B hB => ?_
  intro add sub mul quo rem band bor bxor bclr shl shr ieq ilt ile seq slt beq bnot orb bcond iwrap iof ssz hA cat sq sl imin imax smin smax len slen u8 hL op hop call hcall code hcode ret hret
  cbv
  refine ⟨a, hx, ?_⟩
  cbv
  refine ⟨b, hy, ?_⟩
  cbv
  refine hret _ (RetEv.ret eOk rfl ⟨_, rfl, ?_, rfl⟩)
  show V.p (.bool (sq a b)) = _
  rw [hL.sq]
theorem rdN_lt {l l' : List UInt8} {e n e' : Nat} (h : (n, l', e') = rdN l e) : n < 9223372036854775808 := by
  unfold rdN at h
  split at h
  · cases h; decide
  · cases h; exact dec_lt l 0 0 (by omega) (by simp)
theorem rdN_len {l l' : List UInt8} {e n e' : Nat} (h : (n, l', e') = rdN l e) : l'.length ≤ l.length := by
  unfold rdN at h
  split at h
  · cases h; exact Nat.le_refl _
  · cases h; rw [List.length_drop]; omega
theorem rdT_len {l l' s : List UInt8} {e e' : Nat} (h : (s, l', e') = rdT l e) : s.length ≤ 65536 ∧ l'.length ≤ l.length := by
  unfold rdT at h
  split at h
  · cases h; exact ⟨Nat.zero_le _, Nat.le_refl _⟩
  · cases h
    refine ⟨?_, by rw [List.length_drop]; omega⟩
    unfold decT
    split
    split
    · exact Nat.zero_le _
    split
    · exact Nat.zero_le _
    split
    · exact Nat.zero_le _
    · rw [List.length_take]; omega
def rdMsg (l : List UInt8) : Msg × List UInt8 × Nat :=
  match rdN l 0 with
  | (k, l, e) => match rdN l e with
    | (f, l, e) => match rdN l e with
      | (t, l, e) => match rdN l e with
        | (p, l, e) => match rdN l e with
          | (a, l, e) => match rdN l e with
            | (b, l, e) => match rdN l e with
              | (c, l, e) => match rdT l e with
                | (s, l, e) => (⟨k, f, t, p, a, b, c, s⟩, l, e)
def Msg.zero : Msg := ⟨0, 0, 0, 0, 0, 0, 0, []⟩
/-- The message that bytes are, and the error. -/
def fDec (l : List UInt8) : Msg × Nat :=
  match copen l with
  | (bd, e) => if e ≠ 0 then (Msg.zero, 2) else
    match rdMsg bd with
    | (m, l8, e8) => if e8 = 0 ∧ l8 = [] ∧ (fEnc m).2 = 0 ∧ (fEnc m).1 = l then (m, 0) else (Msg.zero, 2)
def MsgIs (m : Msg) (x : PV) : Prop := ∃ bs, bs = bP m.body ∧ x = .agg [.int .i64 m.kind, .int .i64 m.from_, .int .i64 m.to_, .int .i64 m.epoch, .int .i64 m.a, .int .i64 m.b, .int .i64 m.c, .sl bs]

theorem frDecode_spec (l : List UInt8) (hl : l.length < 140737488355328) (xs : List PV) (hxs : xs = bP l) :
    FnL Try.prog 12 [.p (.sl xs)] [] fun v own => ∃ (m : Msg) (e : Nat) (x : PV), (m, e) = fDec l ∧ MsgIs m x ∧ v = .p (.tup [x, .int .i64 (Int.ofNat e)]) ∧ own = [] := by
  refine FnL.flat (R := fun v own => ∃ (m : Msg) (e : Nat) (x y : PV), (m, e) = fDec l ∧ MsgIs m x ∧ PW y x ∧ v = .p (.tup [y, .int .i64 (Int.ofNat e)])) ?_
    (by rintro _ _ ⟨m, e, x, y, h1, h2, h3, rfl⟩; exact ⟨_, .tup [x, .int .i64 (Int.ofNat e)], rfl, PW.tup ⟨h3, .refl _, trivial⟩, m, e, x, h1, h2, rfl, rfl⟩)
  have hzero : ∀ v : V, v = .p (.tup [.agg [.int .i64 0, .int .i64 0, .int .i64 0, .int .i64 0, .int .i64 0, .int .i64 0, .int .i64 0, .nils], .int .i64 2]) → fDec l = (Msg.zero, 2) →
      ∃ (m : Msg) (e : Nat) (x y : PV), (m, e) = fDec l ∧ MsgIs m x ∧ PW y x ∧ v = .p (.tup [y, .int .i64 (Int.ofNat e)]) := fun v hv hd =>
    ⟨Msg.zero, 2, _, .agg [.int .i64 0, .int .i64 0, .int .i64 0, .int .i64 0, .int .i64 0, .int .i64 0, .int .i64 0, .nils], hd.symm, ⟨[], rfl, rfl⟩, PW.agg ⟨.refl _, .refl _, .refl _, .refl _, .refl _, .refl _, .refl _, PW.nils, trivial⟩, hv⟩
  have hop' := casOpen_spec l xs hxs (by omega)
  obtain ⟨bd, e0, hcop⟩ : ∃ bd e, (bd, e) = copen l := ⟨_, _, rfl⟩
  have hbdl := copen_len hcop.symm
  have hd1 : e0 ≠ 0 → fDec l = (Msg.zero, 2) := fun h => by unfold fDec; rw [← hcop]; simp [h]
  refine fn_of_vc eOk fOk fo12 Try.func12 rfl rfl rfl fun B hB => ?_
  intro add sub mul quo rem band bor bxor bclr shl shr ieq ilt ile seq slt beq bnot orb bcond iwrap iof ssz hA cat sq sl imin imax smin smax len slen u8 hL op hop call hcall code hcode ret hret
  cbv
  refine hcall _ _ _ _ _ (CallEv.same hop' rfl ?_)
  rintro _ _ ⟨ys, bd', e0', h0, hys, rfl, rfl⟩
  obtain ⟨rfl, rfl⟩ : bd' = bd ∧ e0' = e0 := by have := h0.trans hcop.symm; simpa using this
  cbv
  by_cases he0 : e0' = 0
  rotate_left
  · refine vcIf.yes (by rw [hA.not, hA.eq]; simp; omega) ?_
    cbv
    exact hret _ (RetEv.ret eOk rfl (hzero _ rfl (hd1 he0)))
  subst he0
  have hnr := newReader_spec ys
  repeat (first | (refine vcIf.yes ?_ ?_; (focus (simp [hA.not, hA.eq, hA.lt, hA.le, hA.cond, hA.beq, hA.orb, hL.len, hL.slen, hL.sq]; done)); cbv) | (refine vcIf.no ?_ ?_; (focus (simp [hA.not, hA.eq, hA.lt, hA.le, hA.cond, hA.beq, hA.orb, hL.len, hL.slen, hL.sq]; done)); cbv) | fail)
  refine hcall _ _ _ _ _ (CallEv.same hnr rfl ?_)
  rintro _ _ ⟨rfl, rfl⟩
  cbv
  have hN1 := rdNumV bd' 0 ys hys
  refine hcall _ _ _ _ _ (CallEv.lend [1] hN1 rfl (.cons (.own 0 1 0 rfl) .nil) (rdL rfl) ?_)
  rintro _ _ ⟨n1, l1, e1, z1, h1, g1, rfl, rfl⟩
  cbv
  have hN2 := rdNumV l1 e1 z1 g1
  refine hcall _ _ _ _ _ (CallEv.lend [1] hN2 rfl (.cons (.own 0 1 0 rfl) .nil) (rdL rfl) ?_)
  rintro _ _ ⟨n2, l2, e2, z2, h2, g2, rfl, rfl⟩
  cbv
  have hN3 := rdNumV l2 e2 z2 g2
  refine hcall _ _ _ _ _ (CallEv.lend [1] hN3 rfl (.cons (.own 0 1 0 rfl) .nil) (rdL rfl) ?_)
  rintro _ _ ⟨n3, l3, e3, z3, h3, g3, rfl, rfl⟩
  cbv
  have hN4 := rdNumV l3 e3 z3 g3
  refine hcall _ _ _ _ _ (CallEv.lend [1] hN4 rfl (.cons (.own 0 1 0 rfl) .nil) (rdL rfl) ?_)
  rintro _ _ ⟨n4, l4, e4, z4, h4, g4, rfl, rfl⟩
  cbv
  have hN5 := rdNumV l4 e4 z4 g4
  refine hcall _ _ _ _ _ (CallEv.lend [1] hN5 rfl (.cons (.own 0 1 0 rfl) .nil) (rdL rfl) ?_)
  rintro _ _ ⟨n5, l5, e5, z5, h5, g5, rfl, rfl⟩
  cbv
  have hN6 := rdNumV l5 e5 z5 g5
  refine hcall _ _ _ _ _ (CallEv.lend [1] hN6 rfl (.cons (.own 0 1 0 rfl) .nil) (rdL rfl) ?_)
  rintro _ _ ⟨n6, l6, e6, z6, h6, g6, rfl, rfl⟩
  cbv
  have hN7 := rdNumV l6 e6 z6 g6
  refine hcall _ _ _ _ _ (CallEv.lend [1] hN7 rfl (.cons (.own 0 1 0 rfl) .nil) (rdL rfl) ?_)
  rintro _ _ ⟨n7, l7, e7, z7, h7, g7, rfl, rfl⟩
  cbv
  have k1 := rdN_lt h1
  have hlen : l7.length ≤ bd'.length := by
    have := rdN_len h1; have := rdN_len h2; have := rdN_len h3; have := rdN_len h4; have := rdN_len h5; have := rdN_len h6; have := rdN_len h7; omega
  have hT := rdText_spec l7 (by omega) e7 z7 g7
  refine hcall _ _ _ _ _ (CallEv.lend [1] hT rfl (.cons (.own 0 1 0 rfl) .nil) (rdL rfl) ?_)
  rintro _ _ ⟨s, l8, e8, z8, h8, g8, rfl, rfl⟩
  have hsl := (rdT_len h8).1
  obtain ⟨m, hm⟩ : ∃ m : Msg, m = ⟨n1, n2, n3, n4, n5, n6, n7, s⟩ := ⟨_, rfl⟩
  have hmsg : rdMsg bd' = (m, l8, e8) := by unfold rdMsg; simp only [← h1, ← h2, ← h3, ← h4, ← h5, ← h6, ← h7, ← h8, hm]
  have hfd : fDec l = if e8 = 0 ∧ l8 = [] ∧ (fEnc m).2 = 0 ∧ (fEnc m).1 = l then (m, 0) else (Msg.zero, 2) := by
    unfold fDec; rw [← hcop]; simp only [ne_eq, not_true_eq_false, if_false, hmsg]
  have hfit : m.fit := by
    have a1 := rdN_lt h1; have a2 := rdN_lt h2; have a3 := rdN_lt h3; have a4 := rdN_lt h4; have a5 := rdN_lt h5; have a6 := rdN_lt h6; have a7 := rdN_lt h7
    rw [hm]
    refine ⟨fun z hz => ?_, by simp only; omega⟩
    simp only [Msg.nums, List.mem_cons, List.not_mem_nil, or_false] at hz
    rcases hz with rfl | rfl | rfl | rfl | rfl | rfl | rfl <;> omega
  have henc0 := frEncode_spec m hfit
  rw [hm] at henc0
  simp only at henc0
  rw [← hm] at henc0
  cbv
  refine ⟨(), by unfold maxLen; omega, ?_⟩
  intro bs hbs
  have henc := henc0 bs hbs
  cbv
  refine hcall _ _ _ _ _ (CallEv.same henc rfl ?_)
  rintro _ _ ⟨us, le, ee, q1, q2, rfl, rfl⟩
  rw [← q1] at hfd
  simp only at hfd
  have hdn := rdDone_spec z8 e8
  have heq := beqB_spec le l us xs q2 hxs
  cbv
  refine hcall _ _ _ _ _ (CallEv.lend [1] hdn rfl (.cons (.own 0 1 0 rfl) .nil) (rdL rfl) ?_)
  rintro _ _ ⟨rfl, rfl⟩
  have hz8 : z8 = [] ↔ l8 = [] := by rw [g8]; cases l8 <;> simp [bP]
  obtain ⟨d, hd⟩ : ∃ d, d = decide (e8 = 0 ∧ z8 = []) := ⟨_, rfl⟩
  rw [← hd]
  cbv
  cases d with
  | false =>
    have hd2 : fDec l = (Msg.zero, 2) := by
      rw [hfd, if_neg]
      intro c
      exact of_decide_eq_false hd.symm ⟨c.1, hz8.2 c.2.1⟩
    repeat (first | (refine vcIf.yes ?_ ?_; (focus (simp [hA.not, hA.eq, hA.lt, hA.le, hA.cond, hA.beq, hA.orb, hL.len, hL.slen, hL.sq]; done)); cbv) | (refine vcIf.no ?_ ?_; (focus (simp [hA.not, hA.eq, hA.lt, hA.le, hA.cond, hA.beq, hA.orb, hL.len, hL.slen, hL.sq]; done)); cbv) | fail)
    exact hret _ (RetEv.ret eOk rfl (hzero _ rfl hd2))
  | true =>
    obtain ⟨d1, d2⟩ := of_decide_eq_true hd.symm
    have d2 := hz8.1 d2
    repeat (first | (refine vcIf.yes ?_ ?_; (focus (simp [hA.not, hA.eq, hA.lt, hA.le, hA.cond, hA.beq, hA.orb, hL.len, hL.slen, hL.sq]; done)); cbv) | (refine vcIf.no ?_ ?_; (focus (simp [hA.not, hA.eq, hA.lt, hA.le, hA.cond, hA.beq, hA.orb, hL.len, hL.slen, hL.sq]; done)); cbv) | fail)
    by_cases hee : ee = 0
    rotate_left
    · refine vcIf.yes (by rw [hA.cond, hA.not, hA.eq]; simp; omega) ?_
      cbv
      have hd2 : fDec l = (Msg.zero, 2) := by rw [hfd, if_neg]; exact fun c => hee c.2.2.1
      repeat (first | (refine vcIf.yes ?_ ?_; (focus (simp [hA.not, hA.eq, hA.lt, hA.le, hA.cond, hA.beq, hA.orb, hL.len, hL.slen, hL.sq]; done)); cbv) | (refine vcIf.no ?_ ?_; (focus (simp [hA.not, hA.eq, hA.lt, hA.le, hA.cond, hA.beq, hA.orb, hL.len, hL.slen, hL.sq]; done)); cbv) | fail)
      exact hret _ (RetEv.ret eOk rfl (hzero _ rfl hd2))
    subst hee
    repeat (first | (refine vcIf.yes ?_ ?_; (focus (simp [hA.not, hA.eq, hA.lt, hA.le, hA.cond, hA.beq, hA.orb, hL.len, hL.slen, hL.sq]; done)); cbv) | (refine vcIf.no ?_ ?_; (focus (simp [hA.not, hA.eq, hA.lt, hA.le, hA.cond, hA.beq, hA.orb, hL.len, hL.slen, hL.sq]; done)); cbv) | fail)
    refine hcall _ _ _ _ _ (CallEv.same heq rfl ?_)
    rintro _ _ ⟨c, hc, rfl, rfl⟩
    cbv
    cases c with
    | false =>
      have hd2 : fDec l = (Msg.zero, 2) := by rw [hfd, if_neg]; exact fun c => of_decide_eq_false hc.symm c.2.2.2
      repeat (first | (refine vcIf.yes ?_ ?_; (focus (simp [hA.not, hA.eq, hA.lt, hA.le, hA.cond, hA.beq, hA.orb, hL.len, hL.slen, hL.sq]; done)); cbv) | (refine vcIf.no ?_ ?_; (focus (simp [hA.not, hA.eq, hA.lt, hA.le, hA.cond, hA.beq, hA.orb, hL.len, hL.slen, hL.sq]; done)); cbv) | fail)
      exact hret _ (RetEv.ret eOk rfl (hzero _ rfl hd2))
    | true =>
      have hd2 : fDec l = (m, 0) := by rw [hfd, if_pos]; exact ⟨d1, d2, rfl, of_decide_eq_true hc.symm⟩
      repeat (first | (refine vcIf.yes ?_ ?_; (focus (simp [hA.not, hA.eq, hA.lt, hA.le, hA.cond, hA.beq, hA.orb, hL.len, hL.slen, hL.sq]; done)); cbv) | (refine vcIf.no ?_ ?_; (focus (simp [hA.not, hA.eq, hA.lt, hA.le, hA.cond, hA.beq, hA.orb, hL.len, hL.slen, hL.sq]; done)); cbv) | fail)
      exact hret _ (RetEv.ret eOk rfl ⟨m, 0, _, _, hd2.symm, ⟨bs, by rw [hbs, hm], by subst hm; rfl⟩, .refl _, rfl⟩)
end Go.Proofs.Ytmenbognkdeipaa
