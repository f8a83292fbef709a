/- The walk of the law FrameBack. Conditions: on sizes. -/
import Derived.Test.YtmenbognkdeipaaLFk1
set_option maxRecDepth 100000
set_option maxHeartbeats 4000000
set_option linter.unusedSimpArgs false
set_option linter.unusedVariables false
namespace Go.Proofs.Ytmenbognkdeipaa
open Go Go.Lx
open Go.Sx (vcIf)

theorem frameBack (m : Msg) (hm : m.fit) (t : Tx) (ht : t.fit) (b : Bat) (hb : b.fit) (s : Stt) (hs : s.fit) : FnL Try.prog 9 [.p m.v, .p t.v, .p b.v, .p s.v] [] fun z own => z = .p (.bool true) := by
  obtain ⟨bs, hbs⟩ : ∃ bs, bs = bP m.body := ⟨_, rfl⟩
  obtain ⟨txs, htxs⟩ : ∃ xs, xs = pP t.sp := ⟨_, rfl⟩
  obtain ⟨tzs, htzs⟩ : ∃ zs, zs = cP t.ch := ⟨_, rfl⟩
  obtain ⟨bzs, hbzs⟩ : ∃ zs, zs = cP b.ch := ⟨_, rfl⟩
  obtain ⟨szs, hszs⟩ : ∃ zs, zs = iP s.ch := ⟨_, rfl⟩
  have he1 := frEncode_spec m hm bs hbs
  have he2 := frPutTxn_spec t ht txs tzs htxs htzs
  have he3 := frPutBatch_spec b hb bzs hbzs
  have he4 := frPutState_spec s hs szs hszs
  have f1 := fDec_enc m hm
  have f2 := gTx_enc t ht
  have f3 := gBat_enc b hb
  have f4 := gSt_enc s hs
  have g1 := fun l e => fEnc_len m hm (l := l) (e := e)
  have g2 := fun l e => tEnc_len t ht (l := l) (e := e)
  have g3 := fun l e => bEnc_len b hb (l := l) (e := e)
  have s1 := sameMsg_spec m _ ⟨bs, hbs, rfl⟩
  have s2 := sameTxn_spec t ht.2.2.1 ht.2.2.2 _ ⟨txs, tzs, htxs, htzs, rfl⟩
  have s3 := sameBatch_spec b hb.2.2 _ ⟨bzs, hbzs, rfl⟩
  have s4 := sameState_spec s hs _ ⟨szs, hszs, rfl⟩
  unfold Msg.v Tx.v Bat.v Stt.v
  rw [← hbs, ← htxs, ← htzs, ← hbzs, ← hszs]
  obtain ⟨R1, hR1⟩ : ∃ R, R = fEnc m := ⟨_, rfl⟩
  obtain ⟨R2, hR2⟩ : ∃ R, R = tEnc t := ⟨_, rfl⟩
  obtain ⟨R3, hR3⟩ : ∃ R, R = bEnc b := ⟨_, rfl⟩
  obtain ⟨R4, hR4⟩ : ∃ R, R = sEnc s := ⟨_, rfl⟩
  rw [← hR1] at he1 f1 g1
  rw [← hR2] at he2 f2 g2
  rw [← hR3] at he3 f3 g3
  rw [← hR4] at he4 f4
  have i1 : ∀ (x : PV), MsgIs m x → x = .agg [.int .i64 m.kind, .int .i64 m.from_, .int .i64 m.to_, .int .i64 m.epoch, .int .i64 m.a, .int .i64 m.b, .int .i64 m.c, .sl bs] := by
    rintro _ ⟨ys, hy, rfl⟩; rw [hy, hbs]
  have i2 : ∀ (x : PV), TxIs t x → x = .agg [.int .i64 t.r, .sl txs, .sl tzs] := by
    rintro _ ⟨ys, zs, hy, hz, rfl⟩; rw [hy, htxs, hz, htzs]
  have i3 : ∀ (x : PV), BatIs b x → x = .agg [.int .i64 b.a, .int .i64 b.b, .int .i64 b.c, .sl bzs] := by
    rintro _ ⟨ys, hy, rfl⟩; rw [hy, hbzs]
  have i4 : ∀ (x : PV), SttIs s x → x = .agg [.int .i64 s.gen, .int .i64 s.epoch, .int .i64 s.recv, .sl szs] := by
    rintro _ ⟨ys, hy, rfl⟩; rw [hy, hszs]
  clear hR1 hR2 hR3 hR4 hm ht hb hs
  have u1 : ∀ {l : List UInt8} {e : Nat} {m1 : Msg} {d : Nat} {x : PV}, (l, e) = R1 → (m1, d) = fDec l → MsgIs m1 x → e = 0 → d = 0 ∧ FnL Try.prog 15 [.p x, .p (.agg [.int .i64 m.kind, .int .i64 m.from_, .int .i64 m.to_, .int .i64 m.epoch, .int .i64 m.a, .int .i64 m.b, .int .i64 m.c, .sl bs])] [] fun v own => v = .p (.bool true) := by
    intro l e m1 d x h1 h2 h3 h4
    subst h4
    rw [f1 l h1] at h2
    obtain ⟨rfl, rfl⟩ := Prod.mk.inj h2
    rw [i1 x h3]
    exact ⟨rfl, s1⟩
  have u2 : ∀ {l : List UInt8} {e : Nat} {m1 : Tx} {d : Nat} {x : PV}, (l, e) = R2 → (m1, d) = gTx l → TxIs m1 x → e = 0 → d = 0 ∧ FnL Try.prog 36 [.p x, .p (.agg [.int .i64 t.r, .sl txs, .sl tzs])] [] fun v own => v = .p (.bool true) := by
    intro l e m1 d x h1 h2 h3 h4
    subst h4
    rw [f2 l h1] at h2
    obtain ⟨rfl, rfl⟩ := Prod.mk.inj h2
    rw [i2 x h3]
    exact ⟨rfl, s2⟩
  have u3 : ∀ {l : List UInt8} {e : Nat} {m1 : Bat} {d : Nat} {x : PV}, (l, e) = R3 → (m1, d) = gBat l → BatIs m1 x → e = 0 → d = 0 ∧ FnL Try.prog 31 [.p x, .p (.agg [.int .i64 b.a, .int .i64 b.b, .int .i64 b.c, .sl bzs])] [] fun v own => v = .p (.bool true) := by
    intro l e m1 d x h1 h2 h3 h4
    subst h4
    rw [f3 l h1] at h2
    obtain ⟨rfl, rfl⟩ := Prod.mk.inj h2
    rw [i3 x h3]
    exact ⟨rfl, s3⟩
  have u4 : ∀ {l : List UInt8} {e : Nat} {m1 : Stt} {d : Nat} {x : PV}, (l, e) = R4 → (m1, d) = gSt l → SttIs m1 x → e = 0 → d = 0 ∧ FnL Try.prog 26 [.p x, .p (.agg [.int .i64 s.gen, .int .i64 s.epoch, .int .i64 s.recv, .sl szs])] [] fun v own => v = .p (.bool true) := by
    intro l e m1 d x h1 h2 h3 h4
    subst h4
    rw [f4 l h1] at h2
    obtain ⟨rfl, rfl⟩ := Prod.mk.inj h2
    rw [i4 x h3]
    exact ⟨rfl, s4⟩
  clear f1 f2 f3 f4 s1 s2 s3 s4 i1 i2 i3 i4 hbs htxs htzs hbzs hszs
  obtain ⟨mk, mf, mt, mep, ma, mb, mc, mbody⟩ := m
  obtain ⟨tr, tsp, tch⟩ := t
  obtain ⟨ba, bb, bc, bch⟩ := b
  obtain ⟨sg, se, sr, sch⟩ := s
  simp only at he1 he2 he3 he4 u1 u2 u3 u4 ⊢
  refine fn_of_vc eOk fOk fo9 Try.func9 rfl rfl rfl fun B hB => ?_
  intro add sub mul quo rem band bor bxor bclr shl shr ieq ilt ile seq slt beq bnot orb bcond iwrap iof ssz hA cat sq sl imin imax smin smax len slen u8 hL op hop call hcall code hcode ret hret
  cbv
  refine hcall _ _ _ _ _ (CallEv.same he1 rfl ?_)
  rintro _ _ ⟨w1, l1, e1, a1, z1, rfl, rfl⟩
  cbv
  refine hcall _ _ _ _ _ (CallEv.same he2 rfl ?_)
  rintro _ _ ⟨w2, l2, e2, a2, z2, rfl, rfl⟩
  cbv
  refine hcall _ _ _ _ _ (CallEv.same he3 rfl ?_)
  rintro _ _ ⟨w3, l3, e3, a3, z3, rfl, rfl⟩
  cbv
  refine hcall _ _ _ _ _ (CallEv.same he4 rfl ?_)
  rintro _ _ ⟨w4, l4, e4, a4, z4, rfl, rfl⟩
  have c1 := frDecode_spec l1 (Nat.lt_of_le_of_lt (g1 _ _ a1) (by decide)) w1 z1
  have c2 := frGetTxn_spec l2 (g2 _ _ a2) w2 z2
  have c3 := frGetBatch_spec l3 (g3 _ _ a3) w3 z3
  have c4 := frGetState_spec l4 w4 z4
  cbv
  refine hcall _ _ _ _ _ (CallEv.same c1 rfl ?_)
  rintro _ _ ⟨m1, d1, x1, v1, y1, rfl, rfl⟩
  have j1 := fun h => (u1 a1 v1 y1 h).1
  have sm1 := fun h => (u1 a1 v1 y1 h).2
  obtain ⟨bs1, _, rfl⟩ := y1
  cbv
  refine hcall _ _ _ _ _ (CallEv.same c2 rfl ?_)
  rintro _ _ ⟨m2, d2, x2, v2, y2, rfl, rfl⟩
  have j2 := fun h => (u2 a2 v2 y2 h).1
  have sm2 := fun h => (u2 a2 v2 y2 h).2
  obtain ⟨xs2, zs2, _, _, rfl⟩ := y2
  cbv
  refine hcall _ _ _ _ _ (CallEv.same c3 rfl ?_)
  rintro _ _ ⟨m3, d3, x3, v3, y3, rfl, rfl⟩
  have j3 := fun h => (u3 a3 v3 y3 h).1
  have sm3 := fun h => (u3 a3 v3 y3 h).2
  obtain ⟨zs3, _, rfl⟩ := y3
  cbv
  refine hcall _ _ _ _ _ (CallEv.same c4 rfl ?_)
  rintro _ _ ⟨m4, d4, x4, v4, y4, rfl, rfl⟩
  have j4 := fun h => (u4 a4 v4 y4 h).1
  have sm4 := fun h => (u4 a4 v4 y4 h).2
  obtain ⟨zs4, _, rfl⟩ := y4
  clear u1 u2 u3 u4 c1 c2 c3 c4 he1 he2 he3 he4
  cbv
  refine hcall _ _ _ _ _ (CallEv.same awake5_spec rfl ?_)
  rintro _ _ ⟨rfl, rfl⟩
  cbv
  by_cases q1 : e1 = 0
  · have hd := j1 q1
    refine vcIf.no (by first | (simp [hA.not, hA.eq, hA.lt, hA.le, hA.cond, hA.beq, hA.orb, hL.len, hL.slen, hL.sq, q1]; done) | (simp only [q1]; simp [hA.not, hA.eq, hA.lt, hA.le, hA.cond, hA.beq, hA.orb, hL.len, hL.slen, hL.sq, q1]; done) | (simp [hA.not, hA.eq, hA.lt, hA.le, hA.cond, hA.beq, hA.orb, hL.len, hL.slen, hL.sq, q1]; omega) | (simp only [q1]; simp [hA.not, hA.eq, hA.lt, hA.le, hA.cond, hA.beq, hA.orb, hL.len, hL.slen, hL.sq, q1]; omega)) ?_
    cbv
    refine vcIf.yes (by first | (simp [hA.not, hA.eq, hA.lt, hA.le, hA.cond, hA.beq, hA.orb, hL.len, hL.slen, hL.sq, hd]; done) | (simp only [hd]; simp [hA.not, hA.eq, hA.lt, hA.le, hA.cond, hA.beq, hA.orb, hL.len, hL.slen, hL.sq, hd]; done) | (simp [hA.not, hA.eq, hA.lt, hA.le, hA.cond, hA.beq, hA.orb, hL.len, hL.slen, hL.sq, hd]; omega) | (simp only [hd]; simp [hA.not, hA.eq, hA.lt, hA.le, hA.cond, hA.beq, hA.orb, hL.len, hL.slen, hL.sq, hd]; omega)) ?_
    cbv
    refine hcall _ _ _ _ _ (CallEv.same (sm1 q1) rfl ?_)
    rintro _ _ rfl
    cbv
    repeat (first | (refine vcIf.yes ?_ ?_; (focus (simp [hA.not, hA.eq, hA.lt, hA.le, hA.cond, hA.beq, hA.orb, hL.len, hL.slen, hL.sq]; done)); cbv) | (refine vcIf.no ?_ ?_; (focus (simp [hA.not, hA.eq, hA.lt, hA.le, hA.cond, hA.beq, hA.orb, hL.len, hL.slen, hL.sq]; done)); cbv) | fail)
    by_cases q2 : e2 = 0
    · have hd := j2 q2
      refine vcIf.no (by first | (simp [hA.not, hA.eq, hA.lt, hA.le, hA.cond, hA.beq, hA.orb, hL.len, hL.slen, hL.sq, q2]; done) | (simp only [q2]; simp [hA.not, hA.eq, hA.lt, hA.le, hA.cond, hA.beq, hA.orb, hL.len, hL.slen, hL.sq, q2]; done) | (simp [hA.not, hA.eq, hA.lt, hA.le, hA.cond, hA.beq, hA.orb, hL.len, hL.slen, hL.sq, q2]; omega) | (simp only [q2]; simp [hA.not, hA.eq, hA.lt, hA.le, hA.cond, hA.beq, hA.orb, hL.len, hL.slen, hL.sq, q2]; omega)) ?_
      cbv
      refine vcIf.yes (by first | (simp [hA.not, hA.eq, hA.lt, hA.le, hA.cond, hA.beq, hA.orb, hL.len, hL.slen, hL.sq, hd]; done) | (simp only [hd]; simp [hA.not, hA.eq, hA.lt, hA.le, hA.cond, hA.beq, hA.orb, hL.len, hL.slen, hL.sq, hd]; done) | (simp [hA.not, hA.eq, hA.lt, hA.le, hA.cond, hA.beq, hA.orb, hL.len, hL.slen, hL.sq, hd]; omega) | (simp only [hd]; simp [hA.not, hA.eq, hA.lt, hA.le, hA.cond, hA.beq, hA.orb, hL.len, hL.slen, hL.sq, hd]; omega)) ?_
      cbv
      refine hcall _ _ _ _ _ (CallEv.same (sm2 q2) rfl ?_)
      rintro _ _ rfl
      cbv
      repeat (first | (refine vcIf.yes ?_ ?_; (focus (simp [hA.not, hA.eq, hA.lt, hA.le, hA.cond, hA.beq, hA.orb, hL.len, hL.slen, hL.sq]; done)); cbv) | (refine vcIf.no ?_ ?_; (focus (simp [hA.not, hA.eq, hA.lt, hA.le, hA.cond, hA.beq, hA.orb, hL.len, hL.slen, hL.sq]; done)); cbv) | fail)
      by_cases q3 : e3 = 0
      · have hd := j3 q3
        refine vcIf.no (by first | (simp [hA.not, hA.eq, hA.lt, hA.le, hA.cond, hA.beq, hA.orb, hL.len, hL.slen, hL.sq, q3]; done) | (simp only [q3]; simp [hA.not, hA.eq, hA.lt, hA.le, hA.cond, hA.beq, hA.orb, hL.len, hL.slen, hL.sq, q3]; done) | (simp [hA.not, hA.eq, hA.lt, hA.le, hA.cond, hA.beq, hA.orb, hL.len, hL.slen, hL.sq, q3]; omega) | (simp only [q3]; simp [hA.not, hA.eq, hA.lt, hA.le, hA.cond, hA.beq, hA.orb, hL.len, hL.slen, hL.sq, q3]; omega)) ?_
        cbv
        refine vcIf.yes (by first | (simp [hA.not, hA.eq, hA.lt, hA.le, hA.cond, hA.beq, hA.orb, hL.len, hL.slen, hL.sq, hd]; done) | (simp only [hd]; simp [hA.not, hA.eq, hA.lt, hA.le, hA.cond, hA.beq, hA.orb, hL.len, hL.slen, hL.sq, hd]; done) | (simp [hA.not, hA.eq, hA.lt, hA.le, hA.cond, hA.beq, hA.orb, hL.len, hL.slen, hL.sq, hd]; omega) | (simp only [hd]; simp [hA.not, hA.eq, hA.lt, hA.le, hA.cond, hA.beq, hA.orb, hL.len, hL.slen, hL.sq, hd]; omega)) ?_
        cbv
        refine hcall _ _ _ _ _ (CallEv.same (sm3 q3) rfl ?_)
        rintro _ _ rfl
        cbv
        repeat (first | (refine vcIf.yes ?_ ?_; (focus (simp [hA.not, hA.eq, hA.lt, hA.le, hA.cond, hA.beq, hA.orb, hL.len, hL.slen, hL.sq]; done)); cbv) | (refine vcIf.no ?_ ?_; (focus (simp [hA.not, hA.eq, hA.lt, hA.le, hA.cond, hA.beq, hA.orb, hL.len, hL.slen, hL.sq]; done)); cbv) | fail)
        by_cases q4 : e4 = 0
        · have hd := j4 q4
          refine vcIf.no (by first | (simp [hA.not, hA.eq, hA.lt, hA.le, hA.cond, hA.beq, hA.orb, hL.len, hL.slen, hL.sq, q4]; done) | (simp only [q4]; simp [hA.not, hA.eq, hA.lt, hA.le, hA.cond, hA.beq, hA.orb, hL.len, hL.slen, hL.sq, q4]; done) | (simp [hA.not, hA.eq, hA.lt, hA.le, hA.cond, hA.beq, hA.orb, hL.len, hL.slen, hL.sq, q4]; omega) | (simp only [q4]; simp [hA.not, hA.eq, hA.lt, hA.le, hA.cond, hA.beq, hA.orb, hL.len, hL.slen, hL.sq, q4]; omega)) ?_
          cbv
          refine vcIf.yes (by first | (simp [hA.not, hA.eq, hA.lt, hA.le, hA.cond, hA.beq, hA.orb, hL.len, hL.slen, hL.sq, hd]; done) | (simp only [hd]; simp [hA.not, hA.eq, hA.lt, hA.le, hA.cond, hA.beq, hA.orb, hL.len, hL.slen, hL.sq, hd]; done) | (simp [hA.not, hA.eq, hA.lt, hA.le, hA.cond, hA.beq, hA.orb, hL.len, hL.slen, hL.sq, hd]; omega) | (simp only [hd]; simp [hA.not, hA.eq, hA.lt, hA.le, hA.cond, hA.beq, hA.orb, hL.len, hL.slen, hL.sq, hd]; omega)) ?_
          cbv
          refine hcall _ _ _ _ _ (CallEv.same (sm4 q4) rfl ?_)
          rintro _ _ rfl
          cbv
          exact hret _ (RetEv.ret eOk rfl (by simp [hA.not, hA.eq, hA.lt, hA.le, hA.cond, hA.beq, hA.orb, hL.len, hL.slen, hL.sq, oneOf]))
        · refine vcIf.yes (by first | (simp [hA.not, hA.eq, hA.lt, hA.le, hA.cond, hA.beq, hA.orb, hL.len, hL.slen, hL.sq, q4]; done) | (simp only [q4]; simp [hA.not, hA.eq, hA.lt, hA.le, hA.cond, hA.beq, hA.orb, hL.len, hL.slen, hL.sq, q4]; done) | (simp [hA.not, hA.eq, hA.lt, hA.le, hA.cond, hA.beq, hA.orb, hL.len, hL.slen, hL.sq, q4]; omega) | (simp only [q4]; simp [hA.not, hA.eq, hA.lt, hA.le, hA.cond, hA.beq, hA.orb, hL.len, hL.slen, hL.sq, q4]; omega)) ?_
          cbv
          exact hret _ (RetEv.ret eOk rfl (by simp [hA.not, hA.eq, hA.lt, hA.le, hA.cond, hA.beq, hA.orb, hL.len, hL.slen, hL.sq, oneOf]))
      · refine vcIf.yes (by first | (simp [hA.not, hA.eq, hA.lt, hA.le, hA.cond, hA.beq, hA.orb, hL.len, hL.slen, hL.sq, q3]; done) | (simp only [q3]; simp [hA.not, hA.eq, hA.lt, hA.le, hA.cond, hA.beq, hA.orb, hL.len, hL.slen, hL.sq, q3]; done) | (simp [hA.not, hA.eq, hA.lt, hA.le, hA.cond, hA.beq, hA.orb, hL.len, hL.slen, hL.sq, q3]; omega) | (simp only [q3]; simp [hA.not, hA.eq, hA.lt, hA.le, hA.cond, hA.beq, hA.orb, hL.len, hL.slen, hL.sq, q3]; omega)) ?_
        cbv
        repeat (first | (refine vcIf.yes ?_ ?_; (focus (simp [hA.not, hA.eq, hA.lt, hA.le, hA.cond, hA.beq, hA.orb, hL.len, hL.slen, hL.sq]; done)); cbv) | (refine vcIf.no ?_ ?_; (focus (simp [hA.not, hA.eq, hA.lt, hA.le, hA.cond, hA.beq, hA.orb, hL.len, hL.slen, hL.sq]; done)); cbv) | fail)
        by_cases q4 : e4 = 0
        · have hd := j4 q4
          refine vcIf.no (by first | (simp [hA.not, hA.eq, hA.lt, hA.le, hA.cond, hA.beq, hA.orb, hL.len, hL.slen, hL.sq, q4]; done) | (simp only [q4]; simp [hA.not, hA.eq, hA.lt, hA.le, hA.cond, hA.beq, hA.orb, hL.len, hL.slen, hL.sq, q4]; done) | (simp [hA.not, hA.eq, hA.lt, hA.le, hA.cond, hA.beq, hA.orb, hL.len, hL.slen, hL.sq, q4]; omega) | (simp only [q4]; simp [hA.not, hA.eq, hA.lt, hA.le, hA.cond, hA.beq, hA.orb, hL.len, hL.slen, hL.sq, q4]; omega)) ?_
          cbv
          refine vcIf.yes (by first | (simp [hA.not, hA.eq, hA.lt, hA.le, hA.cond, hA.beq, hA.orb, hL.len, hL.slen, hL.sq, hd]; done) | (simp only [hd]; simp [hA.not, hA.eq, hA.lt, hA.le, hA.cond, hA.beq, hA.orb, hL.len, hL.slen, hL.sq, hd]; done) | (simp [hA.not, hA.eq, hA.lt, hA.le, hA.cond, hA.beq, hA.orb, hL.len, hL.slen, hL.sq, hd]; omega) | (simp only [hd]; simp [hA.not, hA.eq, hA.lt, hA.le, hA.cond, hA.beq, hA.orb, hL.len, hL.slen, hL.sq, hd]; omega)) ?_
          cbv
          refine hcall _ _ _ _ _ (CallEv.same (sm4 q4) rfl ?_)
          rintro _ _ rfl
          cbv
          exact hret _ (RetEv.ret eOk rfl (by simp [hA.not, hA.eq, hA.lt, hA.le, hA.cond, hA.beq, hA.orb, hL.len, hL.slen, hL.sq, oneOf]))
        · refine vcIf.yes (by first | (simp [hA.not, hA.eq, hA.lt, hA.le, hA.cond, hA.beq, hA.orb, hL.len, hL.slen, hL.sq, q4]; done) | (simp only [q4]; simp [hA.not, hA.eq, hA.lt, hA.le, hA.cond, hA.beq, hA.orb, hL.len, hL.slen, hL.sq, q4]; done) | (simp [hA.not, hA.eq, hA.lt, hA.le, hA.cond, hA.beq, hA.orb, hL.len, hL.slen, hL.sq, q4]; omega) | (simp only [q4]; simp [hA.not, hA.eq, hA.lt, hA.le, hA.cond, hA.beq, hA.orb, hL.len, hL.slen, hL.sq, q4]; omega)) ?_
          cbv
          exact hret _ (RetEv.ret eOk rfl (by simp [hA.not, hA.eq, hA.lt, hA.le, hA.cond, hA.beq, hA.orb, hL.len, hL.slen, hL.sq, oneOf]))
    · refine vcIf.yes (by first | (simp [hA.not, hA.eq, hA.lt, hA.le, hA.cond, hA.beq, hA.orb, hL.len, hL.slen, hL.sq, q2]; done) | (simp only [q2]; simp [hA.not, hA.eq, hA.lt, hA.le, hA.cond, hA.beq, hA.orb, hL.len, hL.slen, hL.sq, q2]; done) | (simp [hA.not, hA.eq, hA.lt, hA.le, hA.cond, hA.beq, hA.orb, hL.len, hL.slen, hL.sq, q2]; omega) | (simp only [q2]; simp [hA.not, hA.eq, hA.lt, hA.le, hA.cond, hA.beq, hA.orb, hL.len, hL.slen, hL.sq, q2]; omega)) ?_
      cbv
      repeat (first | (refine vcIf.yes ?_ ?_; (focus (simp [hA.not, hA.eq, hA.lt, hA.le, hA.cond, hA.beq, hA.orb, hL.len, hL.slen, hL.sq]; done)); cbv) | (refine vcIf.no ?_ ?_; (focus (simp [hA.not, hA.eq, hA.lt, hA.le, hA.cond, hA.beq, hA.orb, hL.len, hL.slen, hL.sq]; done)); cbv) | fail)
      by_cases q3 : e3 = 0
      · have hd := j3 q3
        refine vcIf.no (by first | (simp [hA.not, hA.eq, hA.lt, hA.le, hA.cond, hA.beq, hA.orb, hL.len, hL.slen, hL.sq, q3]; done) | (simp only [q3]; simp [hA.not, hA.eq, hA.lt, hA.le, hA.cond, hA.beq, hA.orb, hL.len, hL.slen, hL.sq, q3]; done) | (simp [hA.not, hA.eq, hA.lt, hA.le, hA.cond, hA.beq, hA.orb, hL.len, hL.slen, hL.sq, q3]; omega) | (simp only [q3]; simp [hA.not, hA.eq, hA.lt, hA.le, hA.cond, hA.beq, hA.orb, hL.len, hL.slen, hL.sq, q3]; omega)) ?_
        cbv
        refine vcIf.yes (by first | (simp [hA.not, hA.eq, hA.lt, hA.le, hA.cond, hA.beq, hA.orb, hL.len, hL.slen, hL.sq, hd]; done) | (simp only [hd]; simp [hA.not, hA.eq, hA.lt, hA.le, hA.cond, hA.beq, hA.orb, hL.len, hL.slen, hL.sq, hd]; done) | (simp [hA.not, hA.eq, hA.lt, hA.le, hA.cond, hA.beq, hA.orb, hL.len, hL.slen, hL.sq, hd]; omega) | (simp only [hd]; simp [hA.not, hA.eq, hA.lt, hA.le, hA.cond, hA.beq, hA.orb, hL.len, hL.slen, hL.sq, hd]; omega)) ?_
        cbv
        refine hcall _ _ _ _ _ (CallEv.same (sm3 q3) rfl ?_)
        rintro _ _ rfl
        cbv
        repeat (first | (refine vcIf.yes ?_ ?_; (focus (simp [hA.not, hA.eq, hA.lt, hA.le, hA.cond, hA.beq, hA.orb, hL.len, hL.slen, hL.sq]; done)); cbv) | (refine vcIf.no ?_ ?_; (focus (simp [hA.not, hA.eq, hA.lt, hA.le, hA.cond, hA.beq, hA.orb, hL.len, hL.slen, hL.sq]; done)); cbv) | fail)
        by_cases q4 : e4 = 0
        · have hd := j4 q4
          refine vcIf.no (by first | (simp [hA.not, hA.eq, hA.lt, hA.le, hA.cond, hA.beq, hA.orb, hL.len, hL.slen, hL.sq, q4]; done) | (simp only [q4]; simp [hA.not, hA.eq, hA.lt, hA.le, hA.cond, hA.beq, hA.orb, hL.len, hL.slen, hL.sq, q4]; done) | (simp [hA.not, hA.eq, hA.lt, hA.le, hA.cond, hA.beq, hA.orb, hL.len, hL.slen, hL.sq, q4]; omega) | (simp only [q4]; simp [hA.not, hA.eq, hA.lt, hA.le, hA.cond, hA.beq, hA.orb, hL.len, hL.slen, hL.sq, q4]; omega)) ?_
          cbv
          refine vcIf.yes (by first | (simp [hA.not, hA.eq, hA.lt, hA.le, hA.cond, hA.beq, hA.orb, hL.len, hL.slen, hL.sq, hd]; done) | (simp only [hd]; simp [hA.not, hA.eq, hA.lt, hA.le, hA.cond, hA.beq, hA.orb, hL.len, hL.slen, hL.sq, hd]; done) | (simp [hA.not, hA.eq, hA.lt, hA.le, hA.cond, hA.beq, hA.orb, hL.len, hL.slen, hL.sq, hd]; omega) | (simp only [hd]; simp [hA.not, hA.eq, hA.lt, hA.le, hA.cond, hA.beq, hA.orb, hL.len, hL.slen, hL.sq, hd]; omega)) ?_
          cbv
          refine hcall _ _ _ _ _ (CallEv.same (sm4 q4) rfl ?_)
          rintro _ _ rfl
          cbv
          exact hret _ (RetEv.ret eOk rfl (by simp [hA.not, hA.eq, hA.lt, hA.le, hA.cond, hA.beq, hA.orb, hL.len, hL.slen, hL.sq, oneOf]))
        · refine vcIf.yes (by first | (simp [hA.not, hA.eq, hA.lt, hA.le, hA.cond, hA.beq, hA.orb, hL.len, hL.slen, hL.sq, q4]; done) | (simp only [q4]; simp [hA.not, hA.eq, hA.lt, hA.le, hA.cond, hA.beq, hA.orb, hL.len, hL.slen, hL.sq, q4]; done) | (simp [hA.not, hA.eq, hA.lt, hA.le, hA.cond, hA.beq, hA.orb, hL.len, hL.slen, hL.sq, q4]; omega) | (simp only [q4]; simp [hA.not, hA.eq, hA.lt, hA.le, hA.cond, hA.beq, hA.orb, hL.len, hL.slen, hL.sq, q4]; omega)) ?_
          cbv
          exact hret _ (RetEv.ret eOk rfl (by simp [hA.not, hA.eq, hA.lt, hA.le, hA.cond, hA.beq, hA.orb, hL.len, hL.slen, hL.sq, oneOf]))
      · refine vcIf.yes (by first | (simp [hA.not, hA.eq, hA.lt, hA.le, hA.cond, hA.beq, hA.orb, hL.len, hL.slen, hL.sq, q3]; done) | (simp only [q3]; simp [hA.not, hA.eq, hA.lt, hA.le, hA.cond, hA.beq, hA.orb, hL.len, hL.slen, hL.sq, q3]; done) | (simp [hA.not, hA.eq, hA.lt, hA.le, hA.cond, hA.beq, hA.orb, hL.len, hL.slen, hL.sq, q3]; omega) | (simp only [q3]; simp [hA.not, hA.eq, hA.lt, hA.le, hA.cond, hA.beq, hA.orb, hL.len, hL.slen, hL.sq, q3]; omega)) ?_
        cbv
        repeat (first | (refine vcIf.yes ?_ ?_; (focus (simp [hA.not, hA.eq, hA.lt, hA.le, hA.cond, hA.beq, hA.orb, hL.len, hL.slen, hL.sq]; done)); cbv) | (refine vcIf.no ?_ ?_; (focus (simp [hA.not, hA.eq, hA.lt, hA.le, hA.cond, hA.beq, hA.orb, hL.len, hL.slen, hL.sq]; done)); cbv) | fail)
        by_cases q4 : e4 = 0
        · have hd := j4 q4
          refine vcIf.no (by first | (simp [hA.not, hA.eq, hA.lt, hA.le, hA.cond, hA.beq, hA.orb, hL.len, hL.slen, hL.sq, q4]; done) | (simp only [q4]; simp [hA.not, hA.eq, hA.lt, hA.le, hA.cond, hA.beq, hA.orb, hL.len, hL.slen, hL.sq, q4]; done) | (simp [hA.not, hA.eq, hA.lt, hA.le, hA.cond, hA.beq, hA.orb, hL.len, hL.slen, hL.sq, q4]; omega) | (simp only [q4]; simp [hA.not, hA.eq, hA.lt, hA.le, hA.cond, hA.beq, hA.orb, hL.len, hL.slen, hL.sq, q4]; omega)) ?_
          cbv
          refine vcIf.yes (by first | (simp [hA.not, hA.eq, hA.lt, hA.le, hA.cond, hA.beq, hA.orb, hL.len, hL.slen, hL.sq, hd]; done) | (simp only [hd]; simp [hA.not, hA.eq, hA.lt, hA.le, hA.cond, hA.beq, hA.orb, hL.len, hL.slen, hL.sq, hd]; done) | (simp [hA.not, hA.eq, hA.lt, hA.le, hA.cond, hA.beq, hA.orb, hL.len, hL.slen, hL.sq, hd]; omega) | (simp only [hd]; simp [hA.not, hA.eq, hA.lt, hA.le, hA.cond, hA.beq, hA.orb, hL.len, hL.slen, hL.sq, hd]; omega)) ?_
          cbv
          refine hcall _ _ _ _ _ (CallEv.same (sm4 q4) rfl ?_)
          rintro _ _ rfl
          cbv
          exact hret _ (RetEv.ret eOk rfl (by simp [hA.not, hA.eq, hA.lt, hA.le, hA.cond, hA.beq, hA.orb, hL.len, hL.slen, hL.sq, oneOf]))
        · refine vcIf.yes (by first | (simp [hA.not, hA.eq, hA.lt, hA.le, hA.cond, hA.beq, hA.orb, hL.len, hL.slen, hL.sq, q4]; done) | (simp only [q4]; simp [hA.not, hA.eq, hA.lt, hA.le, hA.cond, hA.beq, hA.orb, hL.len, hL.slen, hL.sq, q4]; done) | (simp [hA.not, hA.eq, hA.lt, hA.le, hA.cond, hA.beq, hA.orb, hL.len, hL.slen, hL.sq, q4]; omega) | (simp only [q4]; simp [hA.not, hA.eq, hA.lt, hA.le, hA.cond, hA.beq, hA.orb, hL.len, hL.slen, hL.sq, q4]; omega)) ?_
          cbv
          exact hret _ (RetEv.ret eOk rfl (by simp [hA.not, hA.eq, hA.lt, hA.le, hA.cond, hA.beq, hA.orb, hL.len, hL.slen, hL.sq, oneOf]))
  · refine vcIf.yes (by first | (simp [hA.not, hA.eq, hA.lt, hA.le, hA.cond, hA.beq, hA.orb, hL.len, hL.slen, hL.sq, q1]; done) | (simp only [q1]; simp [hA.not, hA.eq, hA.lt, hA.le, hA.cond, hA.beq, hA.orb, hL.len, hL.slen, hL.sq, q1]; done) | (simp [hA.not, hA.eq, hA.lt, hA.le, hA.cond, hA.beq, hA.orb, hL.len, hL.slen, hL.sq, q1]; omega) | (simp only [q1]; simp [hA.not, hA.eq, hA.lt, hA.le, hA.cond, hA.beq, hA.orb, hL.len, hL.slen, hL.sq, q1]; omega)) ?_
    cbv
    repeat (first | (refine vcIf.yes ?_ ?_; (focus (simp [hA.not, hA.eq, hA.lt, hA.le, hA.cond, hA.beq, hA.orb, hL.len, hL.slen, hL.sq]; done)); cbv) | (refine vcIf.no ?_ ?_; (focus (simp [hA.not, hA.eq, hA.lt, hA.le, hA.cond, hA.beq, hA.orb, hL.len, hL.slen, hL.sq]; done)); cbv) | fail)
    by_cases q2 : e2 = 0
    · have hd := j2 q2
      refine vcIf.no (by first | (simp [hA.not, hA.eq, hA.lt, hA.le, hA.cond, hA.beq, hA.orb, hL.len, hL.slen, hL.sq, q2]; done) | (simp only [q2]; simp [hA.not, hA.eq, hA.lt, hA.le, hA.cond, hA.beq, hA.orb, hL.len, hL.slen, hL.sq, q2]; done) | (simp [hA.not, hA.eq, hA.lt, hA.le, hA.cond, hA.beq, hA.orb, hL.len, hL.slen, hL.sq, q2]; omega) | (simp only [q2]; simp [hA.not, hA.eq, hA.lt, hA.le, hA.cond, hA.beq, hA.orb, hL.len, hL.slen, hL.sq, q2]; omega)) ?_
      cbv
      refine vcIf.yes (by first | (simp [hA.not, hA.eq, hA.lt, hA.le, hA.cond, hA.beq, hA.orb, hL.len, hL.slen, hL.sq, hd]; done) | (simp only [hd]; simp [hA.not, hA.eq, hA.lt, hA.le, hA.cond, hA.beq, hA.orb, hL.len, hL.slen, hL.sq, hd]; done) | (simp [hA.not, hA.eq, hA.lt, hA.le, hA.cond, hA.beq, hA.orb, hL.len, hL.slen, hL.sq, hd]; omega) | (simp only [hd]; simp [hA.not, hA.eq, hA.lt, hA.le, hA.cond, hA.beq, hA.orb, hL.len, hL.slen, hL.sq, hd]; omega)) ?_
      cbv
      refine hcall _ _ _ _ _ (CallEv.same (sm2 q2) rfl ?_)
      rintro _ _ rfl
      cbv
      repeat (first | (refine vcIf.yes ?_ ?_; (focus (simp [hA.not, hA.eq, hA.lt, hA.le, hA.cond, hA.beq, hA.orb, hL.len, hL.slen, hL.sq]; done)); cbv) | (refine vcIf.no ?_ ?_; (focus (simp [hA.not, hA.eq, hA.lt, hA.le, hA.cond, hA.beq, hA.orb, hL.len, hL.slen, hL.sq]; done)); cbv) | fail)
      by_cases q3 : e3 = 0
      · have hd := j3 q3
        refine vcIf.no (by first | (simp [hA.not, hA.eq, hA.lt, hA.le, hA.cond, hA.beq, hA.orb, hL.len, hL.slen, hL.sq, q3]; done) | (simp only [q3]; simp [hA.not, hA.eq, hA.lt, hA.le, hA.cond, hA.beq, hA.orb, hL.len, hL.slen, hL.sq, q3]; done) | (simp [hA.not, hA.eq, hA.lt, hA.le, hA.cond, hA.beq, hA.orb, hL.len, hL.slen, hL.sq, q3]; omega) | (simp only [q3]; simp [hA.not, hA.eq, hA.lt, hA.le, hA.cond, hA.beq, hA.orb, hL.len, hL.slen, hL.sq, q3]; omega)) ?_
        cbv
        refine vcIf.yes (by first | (simp [hA.not, hA.eq, hA.lt, hA.le, hA.cond, hA.beq, hA.orb, hL.len, hL.slen, hL.sq, hd]; done) | (simp only [hd]; simp [hA.not, hA.eq, hA.lt, hA.le, hA.cond, hA.beq, hA.orb, hL.len, hL.slen, hL.sq, hd]; done) | (simp [hA.not, hA.eq, hA.lt, hA.le, hA.cond, hA.beq, hA.orb, hL.len, hL.slen, hL.sq, hd]; omega) | (simp only [hd]; simp [hA.not, hA.eq, hA.lt, hA.le, hA.cond, hA.beq, hA.orb, hL.len, hL.slen, hL.sq, hd]; omega)) ?_
        cbv
        refine hcall _ _ _ _ _ (CallEv.same (sm3 q3) rfl ?_)
        rintro _ _ rfl
        cbv
        repeat (first | (refine vcIf.yes ?_ ?_; (focus (simp [hA.not, hA.eq, hA.lt, hA.le, hA.cond, hA.beq, hA.orb, hL.len, hL.slen, hL.sq]; done)); cbv) | (refine vcIf.no ?_ ?_; (focus (simp [hA.not, hA.eq, hA.lt, hA.le, hA.cond, hA.beq, hA.orb, hL.len, hL.slen, hL.sq]; done)); cbv) | fail)
        by_cases q4 : e4 = 0
        · have hd := j4 q4
          refine vcIf.no (by first | (simp [hA.not, hA.eq, hA.lt, hA.le, hA.cond, hA.beq, hA.orb, hL.len, hL.slen, hL.sq, q4]; done) | (simp only [q4]; simp [hA.not, hA.eq, hA.lt, hA.le, hA.cond, hA.beq, hA.orb, hL.len, hL.slen, hL.sq, q4]; done) | (simp [hA.not, hA.eq, hA.lt, hA.le, hA.cond, hA.beq, hA.orb, hL.len, hL.slen, hL.sq, q4]; omega) | (simp only [q4]; simp [hA.not, hA.eq, hA.lt, hA.le, hA.cond, hA.beq, hA.orb, hL.len, hL.slen, hL.sq, q4]; omega)) ?_
          cbv
          refine vcIf.yes (by first | (simp [hA.not, hA.eq, hA.lt, hA.le, hA.cond, hA.beq, hA.orb, hL.len, hL.slen, hL.sq, hd]; done) | (simp only [hd]; simp [hA.not, hA.eq, hA.lt, hA.le, hA.cond, hA.beq, hA.orb, hL.len, hL.slen, hL.sq, hd]; done) | (simp [hA.not, hA.eq, hA.lt, hA.le, hA.cond, hA.beq, hA.orb, hL.len, hL.slen, hL.sq, hd]; omega) | (simp only [hd]; simp [hA.not, hA.eq, hA.lt, hA.le, hA.cond, hA.beq, hA.orb, hL.len, hL.slen, hL.sq, hd]; omega)) ?_
          cbv
          refine hcall _ _ _ _ _ (CallEv.same (sm4 q4) rfl ?_)
          rintro _ _ rfl
          cbv
          exact hret _ (RetEv.ret eOk rfl (by simp [hA.not, hA.eq, hA.lt, hA.le, hA.cond, hA.beq, hA.orb, hL.len, hL.slen, hL.sq, oneOf]))
        · refine vcIf.yes (by first | (simp [hA.not, hA.eq, hA.lt, hA.le, hA.cond, hA.beq, hA.orb, hL.len, hL.slen, hL.sq, q4]; done) | (simp only [q4]; simp [hA.not, hA.eq, hA.lt, hA.le, hA.cond, hA.beq, hA.orb, hL.len, hL.slen, hL.sq, q4]; done) | (simp [hA.not, hA.eq, hA.lt, hA.le, hA.cond, hA.beq, hA.orb, hL.len, hL.slen, hL.sq, q4]; omega) | (simp only [q4]; simp [hA.not, hA.eq, hA.lt, hA.le, hA.cond, hA.beq, hA.orb, hL.len, hL.slen, hL.sq, q4]; omega)) ?_
          cbv
          exact hret _ (RetEv.ret eOk rfl (by simp [hA.not, hA.eq, hA.lt, hA.le, hA.cond, hA.beq, hA.orb, hL.len, hL.slen, hL.sq, oneOf]))
      · refine vcIf.yes (by first | (simp [hA.not, hA.eq, hA.lt, hA.le, hA.cond, hA.beq, hA.orb, hL.len, hL.slen, hL.sq, q3]; done) | (simp only [q3]; simp [hA.not, hA.eq, hA.lt, hA.le, hA.cond, hA.beq, hA.orb, hL.len, hL.slen, hL.sq, q3]; done) | (simp [hA.not, hA.eq, hA.lt, hA.le, hA.cond, hA.beq, hA.orb, hL.len, hL.slen, hL.sq, q3]; omega) | (simp only [q3]; simp [hA.not, hA.eq, hA.lt, hA.le, hA.cond, hA.beq, hA.orb, hL.len, hL.slen, hL.sq, q3]; omega)) ?_
        cbv
        repeat (first | (refine vcIf.yes ?_ ?_; (focus (simp [hA.not, hA.eq, hA.lt, hA.le, hA.cond, hA.beq, hA.orb, hL.len, hL.slen, hL.sq]; done)); cbv) | (refine vcIf.no ?_ ?_; (focus (simp [hA.not, hA.eq, hA.lt, hA.le, hA.cond, hA.beq, hA.orb, hL.len, hL.slen, hL.sq]; done)); cbv) | fail)
        by_cases q4 : e4 = 0
        · have hd := j4 q4
          refine vcIf.no (by first | (simp [hA.not, hA.eq, hA.lt, hA.le, hA.cond, hA.beq, hA.orb, hL.len, hL.slen, hL.sq, q4]; done) | (simp only [q4]; simp [hA.not, hA.eq, hA.lt, hA.le, hA.cond, hA.beq, hA.orb, hL.len, hL.slen, hL.sq, q4]; done) | (simp [hA.not, hA.eq, hA.lt, hA.le, hA.cond, hA.beq, hA.orb, hL.len, hL.slen, hL.sq, q4]; omega) | (simp only [q4]; simp [hA.not, hA.eq, hA.lt, hA.le, hA.cond, hA.beq, hA.orb, hL.len, hL.slen, hL.sq, q4]; omega)) ?_
          cbv
          refine vcIf.yes (by first | (simp [hA.not, hA.eq, hA.lt, hA.le, hA.cond, hA.beq, hA.orb, hL.len, hL.slen, hL.sq, hd]; done) | (simp only [hd]; simp [hA.not, hA.eq, hA.lt, hA.le, hA.cond, hA.beq, hA.orb, hL.len, hL.slen, hL.sq, hd]; done) | (simp [hA.not, hA.eq, hA.lt, hA.le, hA.cond, hA.beq, hA.orb, hL.len, hL.slen, hL.sq, hd]; omega) | (simp only [hd]; simp [hA.not, hA.eq, hA.lt, hA.le, hA.cond, hA.beq, hA.orb, hL.len, hL.slen, hL.sq, hd]; omega)) ?_
          cbv
          refine hcall _ _ _ _ _ (CallEv.same (sm4 q4) rfl ?_)
          rintro _ _ rfl
          cbv
          exact hret _ (RetEv.ret eOk rfl (by simp [hA.not, hA.eq, hA.lt, hA.le, hA.cond, hA.beq, hA.orb, hL.len, hL.slen, hL.sq, oneOf]))
        · refine vcIf.yes (by first | (simp [hA.not, hA.eq, hA.lt, hA.le, hA.cond, hA.beq, hA.orb, hL.len, hL.slen, hL.sq, q4]; done) | (simp only [q4]; simp [hA.not, hA.eq, hA.lt, hA.le, hA.cond, hA.beq, hA.orb, hL.len, hL.slen, hL.sq, q4]; done) | (simp [hA.not, hA.eq, hA.lt, hA.le, hA.cond, hA.beq, hA.orb, hL.len, hL.slen, hL.sq, q4]; omega) | (simp only [q4]; simp [hA.not, hA.eq, hA.lt, hA.le, hA.cond, hA.beq, hA.orb, hL.len, hL.slen, hL.sq, q4]; omega)) ?_
          cbv
          exact hret _ (RetEv.ret eOk rfl (by simp [hA.not, hA.eq, hA.lt, hA.le, hA.cond, hA.beq, hA.orb, hL.len, hL.slen, hL.sq, oneOf]))
    · refine vcIf.yes (by first | (simp [hA.not, hA.eq, hA.lt, hA.le, hA.cond, hA.beq, hA.orb, hL.len, hL.slen, hL.sq, q2]; done) | (simp only [q2]; simp [hA.not, hA.eq, hA.lt, hA.le, hA.cond, hA.beq, hA.orb, hL.len, hL.slen, hL.sq, q2]; done) | (simp [hA.not, hA.eq, hA.lt, hA.le, hA.cond, hA.beq, hA.orb, hL.len, hL.slen, hL.sq, q2]; omega) | (simp only [q2]; simp [hA.not, hA.eq, hA.lt, hA.le, hA.cond, hA.beq, hA.orb, hL.len, hL.slen, hL.sq, q2]; omega)) ?_
      cbv
      repeat (first | (refine vcIf.yes ?_ ?_; (focus (simp [hA.not, hA.eq, hA.lt, hA.le, hA.cond, hA.beq, hA.orb, hL.len, hL.slen, hL.sq]; done)); cbv) | (refine vcIf.no ?_ ?_; (focus (simp [hA.not, hA.eq, hA.lt, hA.le, hA.cond, hA.beq, hA.orb, hL.len, hL.slen, hL.sq]; done)); cbv) | fail)
      by_cases q3 : e3 = 0
      · have hd := j3 q3
        refine vcIf.no (by first | (simp [hA.not, hA.eq, hA.lt, hA.le, hA.cond, hA.beq, hA.orb, hL.len, hL.slen, hL.sq, q3]; done) | (simp only [q3]; simp [hA.not, hA.eq, hA.lt, hA.le, hA.cond, hA.beq, hA.orb, hL.len, hL.slen, hL.sq, q3]; done) | (simp [hA.not, hA.eq, hA.lt, hA.le, hA.cond, hA.beq, hA.orb, hL.len, hL.slen, hL.sq, q3]; omega) | (simp only [q3]; simp [hA.not, hA.eq, hA.lt, hA.le, hA.cond, hA.beq, hA.orb, hL.len, hL.slen, hL.sq, q3]; omega)) ?_
        cbv
        refine vcIf.yes (by first | (simp [hA.not, hA.eq, hA.lt, hA.le, hA.cond, hA.beq, hA.orb, hL.len, hL.slen, hL.sq, hd]; done) | (simp only [hd]; simp [hA.not, hA.eq, hA.lt, hA.le, hA.cond, hA.beq, hA.orb, hL.len, hL.slen, hL.sq, hd]; done) | (simp [hA.not, hA.eq, hA.lt, hA.le, hA.cond, hA.beq, hA.orb, hL.len, hL.slen, hL.sq, hd]; omega) | (simp only [hd]; simp [hA.not, hA.eq, hA.lt, hA.le, hA.cond, hA.beq, hA.orb, hL.len, hL.slen, hL.sq, hd]; omega)) ?_
        cbv
        refine hcall _ _ _ _ _ (CallEv.same (sm3 q3) rfl ?_)
        rintro _ _ rfl
        cbv
        repeat (first | (refine vcIf.yes ?_ ?_; (focus (simp [hA.not, hA.eq, hA.lt, hA.le, hA.cond, hA.beq, hA.orb, hL.len, hL.slen, hL.sq]; done)); cbv) | (refine vcIf.no ?_ ?_; (focus (simp [hA.not, hA.eq, hA.lt, hA.le, hA.cond, hA.beq, hA.orb, hL.len, hL.slen, hL.sq]; done)); cbv) | fail)
        by_cases q4 : e4 = 0
        · have hd := j4 q4
          refine vcIf.no (by first | (simp [hA.not, hA.eq, hA.lt, hA.le, hA.cond, hA.beq, hA.orb, hL.len, hL.slen, hL.sq, q4]; done) | (simp only [q4]; simp [hA.not, hA.eq, hA.lt, hA.le, hA.cond, hA.beq, hA.orb, hL.len, hL.slen, hL.sq, q4]; done) | (simp [hA.not, hA.eq, hA.lt, hA.le, hA.cond, hA.beq, hA.orb, hL.len, hL.slen, hL.sq, q4]; omega) | (simp only [q4]; simp [hA.not, hA.eq, hA.lt, hA.le, hA.cond, hA.beq, hA.orb, hL.len, hL.slen, hL.sq, q4]; omega)) ?_
          cbv
          refine vcIf.yes (by first | (simp [hA.not, hA.eq, hA.lt, hA.le, hA.cond, hA.beq, hA.orb, hL.len, hL.slen, hL.sq, hd]; done) | (simp only [hd]; simp [hA.not, hA.eq, hA.lt, hA.le, hA.cond, hA.beq, hA.orb, hL.len, hL.slen, hL.sq, hd]; done) | (simp [hA.not, hA.eq, hA.lt, hA.le, hA.cond, hA.beq, hA.orb, hL.len, hL.slen, hL.sq, hd]; omega) | (simp only [hd]; simp [hA.not, hA.eq, hA.lt, hA.le, hA.cond, hA.beq, hA.orb, hL.len, hL.slen, hL.sq, hd]; omega)) ?_
          cbv
          refine hcall _ _ _ _ _ (CallEv.same (sm4 q4) rfl ?_)
          rintro _ _ rfl
          cbv
          exact hret _ (RetEv.ret eOk rfl (by simp [hA.not, hA.eq, hA.lt, hA.le, hA.cond, hA.beq, hA.orb, hL.len, hL.slen, hL.sq, oneOf]))
        · refine vcIf.yes (by first | (simp [hA.not, hA.eq, hA.lt, hA.le, hA.cond, hA.beq, hA.orb, hL.len, hL.slen, hL.sq, q4]; done) | (simp only [q4]; simp [hA.not, hA.eq, hA.lt, hA.le, hA.cond, hA.beq, hA.orb, hL.len, hL.slen, hL.sq, q4]; done) | (simp [hA.not, hA.eq, hA.lt, hA.le, hA.cond, hA.beq, hA.orb, hL.len, hL.slen, hL.sq, q4]; omega) | (simp only [q4]; simp [hA.not, hA.eq, hA.lt, hA.le, hA.cond, hA.beq, hA.orb, hL.len, hL.slen, hL.sq, q4]; omega)) ?_
          cbv
          exact hret _ (RetEv.ret eOk rfl (by simp [hA.not, hA.eq, hA.lt, hA.le, hA.cond, hA.beq, hA.orb, hL.len, hL.slen, hL.sq, oneOf]))
      · refine vcIf.yes (by first | (simp [hA.not, hA.eq, hA.lt, hA.le, hA.cond, hA.beq, hA.orb, hL.len, hL.slen, hL.sq, q3]; done) | (simp only [q3]; simp [hA.not, hA.eq, hA.lt, hA.le, hA.cond, hA.beq, hA.orb, hL.len, hL.slen, hL.sq, q3]; done) | (simp [hA.not, hA.eq, hA.lt, hA.le, hA.cond, hA.beq, hA.orb, hL.len, hL.slen, hL.sq, q3]; omega) | (simp only [q3]; simp [hA.not, hA.eq, hA.lt, hA.le, hA.cond, hA.beq, hA.orb, hL.len, hL.slen, hL.sq, q3]; omega)) ?_
        cbv
        repeat (first | (refine vcIf.yes ?_ ?_; (focus (simp [hA.not, hA.eq, hA.lt, hA.le, hA.cond, hA.beq, hA.orb, hL.len, hL.slen, hL.sq]; done)); cbv) | (refine vcIf.no ?_ ?_; (focus (simp [hA.not, hA.eq, hA.lt, hA.le, hA.cond, hA.beq, hA.orb, hL.len, hL.slen, hL.sq]; done)); cbv) | fail)
        by_cases q4 : e4 = 0
        · have hd := j4 q4
          refine vcIf.no (by first | (simp [hA.not, hA.eq, hA.lt, hA.le, hA.cond, hA.beq, hA.orb, hL.len, hL.slen, hL.sq, q4]; done) | (simp only [q4]; simp [hA.not, hA.eq, hA.lt, hA.le, hA.cond, hA.beq, hA.orb, hL.len, hL.slen, hL.sq, q4]; done) | (simp [hA.not, hA.eq, hA.lt, hA.le, hA.cond, hA.beq, hA.orb, hL.len, hL.slen, hL.sq, q4]; omega) | (simp only [q4]; simp [hA.not, hA.eq, hA.lt, hA.le, hA.cond, hA.beq, hA.orb, hL.len, hL.slen, hL.sq, q4]; omega)) ?_
          cbv
          refine vcIf.yes (by first | (simp [hA.not, hA.eq, hA.lt, hA.le, hA.cond, hA.beq, hA.orb, hL.len, hL.slen, hL.sq, hd]; done) | (simp only [hd]; simp [hA.not, hA.eq, hA.lt, hA.le, hA.cond, hA.beq, hA.orb, hL.len, hL.slen, hL.sq, hd]; done) | (simp [hA.not, hA.eq, hA.lt, hA.le, hA.cond, hA.beq, hA.orb, hL.len, hL.slen, hL.sq, hd]; omega) | (simp only [hd]; simp [hA.not, hA.eq, hA.lt, hA.le, hA.cond, hA.beq, hA.orb, hL.len, hL.slen, hL.sq, hd]; omega)) ?_
          cbv
          refine hcall _ _ _ _ _ (CallEv.same (sm4 q4) rfl ?_)
          rintro _ _ rfl
          cbv
          exact hret _ (RetEv.ret eOk rfl (by simp [hA.not, hA.eq, hA.lt, hA.le, hA.cond, hA.beq, hA.orb, hL.len, hL.slen, hL.sq, oneOf]))
        · refine vcIf.yes (by first | (simp [hA.not, hA.eq, hA.lt, hA.le, hA.cond, hA.beq, hA.orb, hL.len, hL.slen, hL.sq, q4]; done) | (simp only [q4]; simp [hA.not, hA.eq, hA.lt, hA.le, hA.cond, hA.beq, hA.orb, hL.len, hL.slen, hL.sq, q4]; done) | (simp [hA.not, hA.eq, hA.lt, hA.le, hA.cond, hA.beq, hA.orb, hL.len, hL.slen, hL.sq, q4]; omega) | (simp only [q4]; simp [hA.not, hA.eq, hA.lt, hA.le, hA.cond, hA.beq, hA.orb, hL.len, hL.slen, hL.sq, q4]; omega)) ?_
          cbv
          exact hret _ (RetEv.ret eOk rfl (by simp [hA.not, hA.eq, hA.lt, hA.le, hA.cond, hA.beq, hA.orb, hL.len, hL.slen, hL.sq, oneOf]))
end Go.Proofs.Ytmenbognkdeipaa
