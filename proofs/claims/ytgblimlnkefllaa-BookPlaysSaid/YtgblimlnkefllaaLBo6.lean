/- The simplest facts of a book; BookNone, BookReads. Conditions: on sizes. -/
import Derived.Test.YtgblimlnkefllaaLBo5
import Derived.Test.YtgblimlnkefllaaLY11
set_option maxRecDepth 100000
set_option maxHeartbeats 8000000
set_option linter.unusedSimpArgs false
set_option linter.unusedVariables false
namespace Go.Proofs.Ytgblimlnkefllaa
open Go Go.Lx
open Go.Sx (vcIf)

theorem isTp0 (room : Nat) (h : room ≤ 1048576) : IsTp ⟨[], 0, room, -1, false⟩ 0 0 (room : Int) (-1) false [] := ⟨rfl, rfl, rfl, rfl, rfl, rfl, by simp, by simp, h, by simp, by simp⟩
theorem bkOpen0 (room : Nat) : bkOpen ⟨[], 0, room, -1, false⟩ = (0, ⟨⟨[], 0, room, -1, false⟩, [], false⟩) := by
  unfold bkOpen; rw [if_neg (by simp), rdR_nil, if_neg (by simp)]
def awL : List (List UInt8) := [[97, 98], []]
theorem enc_small {n : Nat} (h : n < 128) : (enc n).length = 1 := by rw [enc_lo h]; rfl
theorem awLen : (rbytes awL).length = 12 := by
  have e : rbytes awL = enct (cseal [97, 98]) ++ enct (cseal []) := by simp [rbytes, encts, awL]
  rw [e, List.length_append]
  unfold enct
  rw [List.length_append, List.length_append, cseal_length, cseal_length]
  rw [enc_small (by decide), enc_small (by decide)]; rfl
theorem bkAdd_fresh (room : Nat) (l : List (List UInt8)) (hl : ∀ r ∈ l, r.length ≤ 65532) (hr : (rbytes l).length ≤ room) :
    bkAdd ⟨⟨[], 0, room, -1, false⟩, [], false⟩ l = (0, ⟨⟨rbytes l, (rbytes l).length, room, -1, false⟩, l, false⟩) := by
  have e1 : layE false l = 0 := by unfold layE; rw [if_neg (by decide), if_pos hl]
  unfold bkAdd
  simp only
  rw [e1, if_neg (by decide)]
  have w : ∀ s, s ≤ room → ∀ t : Tp, t.room = room → t.down = false → t.after = -1 → wr t s = (0, t) := fun s hs t h1 h2 h3 => by
    unfold wr; rw [h2, h3, h1, if_neg (by decide), if_neg (by omega), if_neg (by decide), if_neg (by decide)]
  have e2 : tpAdd ⟨[], 0, room, -1, false⟩ (rbytes l) = (0, ⟨rbytes l, 0, room, -1, false⟩) := by
    unfold tpAdd; simp only; rw [w _ (by simpa using hr) _ rfl rfl rfl]; simp
  have e3 : tpSync ⟨rbytes l, 0, room, -1, false⟩ = (0, ⟨rbytes l, (rbytes l).length, room, -1, false⟩) := by
    unfold tpSync; simp only; rw [w _ (Nat.zero_le _) _ rfl rfl rfl]; simp
  rw [e2, if_pos rfl, e3]
  simp [bkFin]
theorem awZ : PW (.sl [.sl [.int .u8 97, .int .u8 98], .nils]) (.sl (rcP awL)) :=
  PW.slO ⟨.refl _, PW.nils, trivial⟩ (by simp [PV.one]) (by simp [PV.one, rcP, awL])

theorem awake7_spec : FnL Try.prog 23 [] [] fun z own => z = .p (.bool true) ∧ own = [] := by
  refine FnL.flat (R := fun z own => z = .p (.bool true)) ?_ (fun v own' h => ⟨_, _, h, .refl _, rfl, rfl⟩)
  have hnew := tapeNew_spec 1000 (by decide) (by decide)
  have hop0 := bkOpen_spec (isTp0 1000 (by decide))
  rw [bkOpen0] at hop0
  refine fn_of_vc eOk fOk fo23 Try.func23 rfl rfl rfl fun B hB => ?_
  intro add sub mul quo rem band bor bxor bclr shl shr ieq ilt ile seq slt beq bnot orb bcond iwrap iof ssz hA cat sq sl imin imax smin smax len slen u8 hL op hop call hcall code hcode ret hret
  cbv
  refine hcall _ _ _ _ _ (CallEv.same hnew rfl ?_)
  rintro _ _ (⟨h, rfl, rfl⟩ | ⟨h, rfl, rfl⟩)
  · omega
  cbv
  refine hcall _ _ _ _ _ (CallEv.lend [0, 1] hop0 rfl (.cons (.own 0 0 0 rfl) .nil) (tpL rfl rfl rfl rfl) ?_)
  rintro _ _ (⟨n, su, ro, af, d, xs, m, dn, rs, h0, hb, rfl, rfl⟩ | ⟨e, n, su, ro, af, d, xs, h0, _⟩)
  rotate_left
  · exact absurd rfl h0
  have hadd := bkAdd_spec hb awL (by decide) (by have := hb.2.1; rw [this]; decide) _ rfl
  rw [bkAdd_fresh 1000 awL (by decide) (by rw [awLen]; decide)] at hadd
  have hadd := FnL.w2 hadd awZ
  cbv
  repeat (first | (refine vcIf.yes ?_ ?_; (focus (simp [hA.not, hA.eq, hA.lt, hA.le, hA.cond, hA.beq, hA.orb, hL.len, hL.slen, hL.sq]; done)); cbv) | (refine vcIf.no ?_ ?_; (focus (simp [hA.not, hA.eq, hA.lt, hA.le, hA.cond, hA.beq, hA.orb, hL.len, hL.slen, hL.sq]; done)); cbv) | fail)
  refine ⟨true, ?_⟩
  cbv
  refine hop _ _ _ _ (OpEv.convRow (j := 4) (n := 2) eOk rfl rfl rfl rfl rfl rfl rfl (by rw [hB]; exact Nat.zero_le _) rfl (by decide) rfl ?_)
  cbv
  refine ⟨false, ?_⟩
  cbv
  refine hcall _ _ _ _ _ (CallEv.lend [0, 1, 2, 3] hadd rfl (.cons (.own 2 2 0 rfl) (.cons (.p _) .nil)) (bkL rfl rfl rfl rfl rfl rfl rfl) ?_)
  rintro _ _ ⟨e, n1, su1, ro1, af1, d1, xs1, m1, dn1, rs1, he, hb1, rfl, rfl⟩
  obtain rfl : e = 0 := he
  have hrec := bkRecords_spec hb1 (by decide) (by have := hb1.2.1; rw [this]; decide)
  have hrs : rs1 = rcP awL := hb1.2.2.2
  have hr0 : rs1[0]? = some (.sl (bP [97, 98])) := by rw [hrs]; rfl
  have hrl : rs1.length = 2 := by rw [hrs]; rfl
  obtain ⟨ab, hab⟩ : ∃ ab, ab = bP [97, 98] := ⟨_, rfl⟩
  rw [← hab] at hr0
  have hlen : len rs1 = Int.ofNat 2 := by rw [hL.len, hrl]; rfl
  cbv
  repeat (first | (refine vcIf.yes ?_ ?_; (focus (simp [hA.not, hA.eq, hA.lt, hA.le, hA.cond, hA.beq, hA.orb, hL.len, hL.slen, hL.sq]; done)); cbv) | (refine vcIf.no ?_ ?_; (focus (simp [hA.not, hA.eq, hA.lt, hA.le, hA.cond, hA.beq, hA.orb, hL.len, hL.slen, hL.sq]; done)); cbv) | fail)
  refine hcall _ _ _ _ _ (CallEv.lend [0, 1, 2, 3] hrec rfl (.cons (.own 2 2 0 rfl) .nil) (bkL rfl rfl rfl rfl rfl rfl rfl) ?_)
  rintro _ _ ⟨rfl, rfl⟩
  cbv
  rw [hlen]
  cbv
  repeat (first | (refine vcIf.yes ?_ ?_; (focus (simp [hA.not, hA.eq, hA.lt, hA.le, hA.cond, hA.beq, hA.orb, hL.len, hL.slen, hL.sq]; done)); cbv) | (refine vcIf.no ?_ ?_; (focus (simp [hA.not, hA.eq, hA.lt, hA.le, hA.cond, hA.beq, hA.orb, hL.len, hL.slen, hL.sq]; done)); cbv) | fail)
  refine hcall _ _ _ _ _ (CallEv.lend [0, 1, 2, 3] hrec rfl (.cons (.own 2 2 0 rfl) .nil) (bkL rfl rfl rfl rfl rfl rfl rfl) ?_)
  rintro _ _ ⟨rfl, rfl⟩
  have hsq : sq [97, 98] [97, 98] = true := by rw [hL.sq]; exact decide_eq_true rfl
  cbv
  refine ⟨0, _, rfl, hr0, rfl, ?_⟩
  cbv
  refine ⟨[97, 98], hab, ?_⟩
  cbv
  refine hret _ (RetEv.ret eOk rfl ?_)
  show V.p (.bool (bcond true (sq [97, 98] [97, 98]) false)) = _
  rw [hsq, hA.cond]; rfl

theorem bookNone_spec (zs : List PV) : FnL Try.prog 8 [.p (.sl zs)] [] fun z own => z = .p (.bool true) := by
  refine fn_of_vc eOk fOk fo8 Try.func8 rfl rfl rfl fun B hB => ?_
  intro add sub mul quo rem band bor bxor bclr shl shr ieq ilt ile seq slt beq bnot orb bcond iwrap iof ssz hA cat sq sl imin imax smin smax len slen u8 hL op hop call hcall code hcode ret hret
  cbv
  refine hcall _ _ _ _ _ (CallEv.same bkOpen_nil rfl ?_)
  rintro _ _ ⟨rfl, rfl⟩
  cbv
  refine hcall _ _ _ _ _ (CallEv.same awake7_spec rfl ?_)
  rintro _ _ ⟨rfl, rfl⟩
  cbv
  repeat (first | (refine vcIf.yes ?_ ?_; (focus (simp [hA.not, hA.eq, hA.lt, hA.le, hA.cond, hA.beq, hA.orb, hL.len, hL.slen, hL.sq]; done)); cbv) | (refine vcIf.no ?_ ?_; (focus (simp [hA.not, hA.eq, hA.lt, hA.le, hA.cond, hA.beq, hA.orb, hL.len, hL.slen, hL.sq]; done)); cbv) | fail)
  refine hcall _ _ _ _ _ (CallEv.same (bkAdd_nil zs) rfl ?_)
  rintro _ _ ⟨rfl, rfl⟩
  cbv
  repeat (first | (refine vcIf.yes ?_ ?_; (focus (simp [hA.not, hA.eq, hA.lt, hA.le, hA.cond, hA.beq, hA.orb, hL.len, hL.slen, hL.sq]; done)); cbv) | (refine vcIf.no ?_ ?_; (focus (simp [hA.not, hA.eq, hA.lt, hA.le, hA.cond, hA.beq, hA.orb, hL.len, hL.slen, hL.sq]; done)); cbv) | fail)
  refine hcall _ _ _ _ _ (CallEv.same (bkReset_nil zs) rfl ?_)
  rintro _ _ ⟨rfl, rfl⟩
  cbv
  repeat (first | (refine vcIf.yes ?_ ?_; (focus (simp [hA.not, hA.eq, hA.lt, hA.le, hA.cond, hA.beq, hA.orb, hL.len, hL.slen, hL.sq]; done)); cbv) | (refine vcIf.no ?_ ?_; (focus (simp [hA.not, hA.eq, hA.lt, hA.le, hA.cond, hA.beq, hA.orb, hL.len, hL.slen, hL.sq]; done)); cbv) | fail)
  refine hcall _ _ _ _ _ (CallEv.same bkRecords_nil rfl ?_)
  rintro _ _ ⟨rfl, rfl⟩
  cbv
  exact hret _ (RetEv.ret eOk rfl (by simp [hA.not, hA.eq, hA.lt, hA.le, hA.cond, hA.beq, hA.orb, hL.len, hL.slen, hL.sq, oneOf]))

theorem wrCalm (l : List UInt8) (su room s : Nat) (h : s ≤ room) : wr ⟨l, su, room, -1, false⟩ s = (0, ⟨l, su, room, -1, false⟩) := by
  unfold wr; simp only; rw [if_neg (by decide), if_neg (by omega), if_neg (by decide), if_neg (by decide)]
theorem tpAdd0 (l : List UInt8) (room : Nat) (h : l.length ≤ room) : tpAdd ⟨[], 0, room, -1, false⟩ l = (0, ⟨l, 0, room, -1, false⟩) := by
  unfold tpAdd; simp only; rw [wrCalm _ _ _ _ (by simpa using h)]; simp
theorem tpSync0 (l : List UInt8) (room : Nat) : tpSync ⟨l, 0, room, -1, false⟩ = (0, ⟨l, l.length, room, -1, false⟩) := by
  unfold tpSync; simp only; rw [wrCalm _ _ _ _ (Nat.zero_le _)]; simp
theorem bkOpen_calm (l : List UInt8) (room : Nat) (h : l.length ≤ room) : bkOpen ⟨l, l.length, room, -1, false⟩ = (0, ⟨⟨l.take (rdR l).2, (l.take (rdR l).2).length, room, -1, false⟩, (rdR l).1, false⟩) := by
  have hle := (rdR_le l.length l (Nat.le_refl _)).1
  unfold bkOpen
  simp only
  rw [if_neg (by decide)]
  split
  · unfold tpRep; simp only; rw [wrCalm _ _ _ _ (by rw [List.length_take]; omega)]; simp
  · rw [List.take_of_length_le (by omega)]
theorem bookReads_spec (l : List UInt8) (hll : l.length < 4611686018427387904) : FnL Try.prog 7 [.p (.sl (bP l))] [] fun z own => z = .p (.bool true) := by
  have hnew := tapeNew_spec 1048576 (by decide) (by decide)
  obtain ⟨N, hN⟩ : ∃ N, N = l.length := ⟨_, rfl⟩
  obtain ⟨ys, hys⟩ : ∃ ys, ys = bP l := ⟨_, rfl⟩
  have hyl : ys.length = N := by rw [hys, bP_length, hN]
  have hyw : ∀ y ∈ ys, y.cells.length = 1 := fun y hy => by rw [hys] at hy; exact (bP_wf _ y hy).1
  have hadd := add_spec (isTp0 1048576 (by decide)) l hll
  rw [← hys] at hadd
  rw [← hys]
  obtain ⟨D, hD⟩ : ∃ D, D = rdR l := ⟨_, rfl⟩
  obtain ⟨t1, ht1⟩ : ∃ t1 : Tp, t1 = ⟨l, 0, 1048576, -1, false⟩ := ⟨_, rfl⟩
  obtain ⟨t2, ht2⟩ : ∃ t2 : Tp, t2 = ⟨l, l.length, 1048576, -1, false⟩ := ⟨_, rfl⟩
  obtain ⟨t3, ht3⟩ : ∃ t3 : Tp, t3 = ⟨l.take D.2, (l.take D.2).length, 1048576, -1, false⟩ := ⟨_, rfl⟩
  have hle := rdR_le l.length l (Nat.le_refl _)
  rw [← hD] at hle
  obtain ⟨hle1, hle2, hle3⟩ := hle
  have e1 : ¬ 200000 < N → tpAdd ⟨[], 0, 1048576, -1, false⟩ l = (0, t1) := fun h => by rw [ht1]; exact tpAdd0 l _ (by omega)
  have e2 : tpSync t1 = (0, t2) := by rw [ht1, ht2]; exact tpSync0 l _
  have e3 : ¬ 200000 < N → bkOpen t2 = (0, ⟨t3, D.1, false⟩) := fun h => by rw [ht2, ht3, hD]; exact bkOpen_calm l _ (by omega)
  refine fn_of_vc eOk fOk fo7 Try.func7 rfl rfl rfl fun B hB => ?_
  intro add sub mul quo rem band bor bxor bclr shl shr ieq ilt ile seq slt beq bnot orb bcond iwrap iof ssz hA cat sq sl imin imax smin smax len slen u8 hL op hop call hcall code hcode ret hret
  have hlen : len ys = Int.ofNat N := by rw [hL.len, hyl]; rfl
  cbv
  refine hcall _ _ _ _ _ (CallEv.same hnew rfl ?_)
  rintro _ _ (⟨h, rfl, rfl⟩ | ⟨h, rfl, rfl⟩)
  · omega
  cbv
  refine hcall _ _ _ _ _ (CallEv.same awake7_spec rfl ?_)
  rintro _ _ ⟨rfl, rfl⟩
  cbv
  repeat (first | (refine vcIf.yes ?_ ?_; (focus (simp [hA.not, hA.eq, hA.lt, hA.le, hA.cond, hA.beq, hA.orb, hL.len, hL.slen, hL.sq]; done)); cbv) | (refine vcIf.no ?_ ?_; (focus (simp [hA.not, hA.eq, hA.lt, hA.le, hA.cond, hA.beq, hA.orb, hL.len, hL.slen, hL.sq]; done)); cbv) | fail)
  rw [hlen]
  by_cases hbig : 200000 < N
  · refine vcIf.yes (by first | (simp [hA.not, hA.eq, hA.lt, hA.le, hA.cond, hA.beq, hA.orb, hL.len, hL.slen, hL.sq, hbig]; done) | (simp only [hbig]; simp [hA.not, hA.eq, hA.lt, hA.le, hA.cond, hA.beq, hA.orb, hL.len, hL.slen, hL.sq, hbig]; done) | (simp [hA.not, hA.eq, hA.lt, hA.le, hA.cond, hA.beq, hA.orb, hL.len, hL.slen, hL.sq, hbig]; omega) | (simp only [hbig]; simp [hA.not, hA.eq, hA.lt, hA.le, hA.cond, hA.beq, hA.orb, hL.len, hL.slen, hL.sq, hbig]; omega)) ?_
    cbv
    repeat (first | (refine vcIf.yes ?_ ?_; (focus (simp [hA.not, hA.eq, hA.lt, hA.le, hA.cond, hA.beq, hA.orb, hL.len, hL.slen, hL.sq]; done)); cbv) | (refine vcIf.no ?_ ?_; (focus (simp [hA.not, hA.eq, hA.lt, hA.le, hA.cond, hA.beq, hA.orb, hL.len, hL.slen, hL.sq]; done)); cbv) | fail)
    refine hcall _ _ _ _ _ (CallEv.same awake7_spec rfl ?_)
    rintro _ _ ⟨rfl, rfl⟩
    cbv
    exact hret _ (RetEv.ret eOk rfl (by simp [hA.not, hA.eq, hA.lt, hA.le, hA.cond, hA.beq, hA.orb, hL.len, hL.slen, hL.sq, oneOf]))
  · rw [e1 hbig] at hadd
    have e3 := e3 hbig
    have hrd := rbRead_spec l (by omega) ys hys
    rw [← hD] at hrd
    refine vcIf.no (by first | (simp [hA.not, hA.eq, hA.lt, hA.le, hA.cond, hA.beq, hA.orb, hL.len, hL.slen, hL.sq, hbig]; done) | (simp only [hbig]; simp [hA.not, hA.eq, hA.lt, hA.le, hA.cond, hA.beq, hA.orb, hL.len, hL.slen, hL.sq, hbig]; done) | (simp [hA.not, hA.eq, hA.lt, hA.le, hA.cond, hA.beq, hA.orb, hL.len, hL.slen, hL.sq, hbig]; omega) | (simp only [hbig]; simp [hA.not, hA.eq, hA.lt, hA.le, hA.cond, hA.beq, hA.orb, hL.len, hL.slen, hL.sq, hbig]; omega)) ?_
    cbv
    refine hcall _ _ _ _ _ (CallEv.lend [0, 1] hadd rfl (.cons (.own 0 0 0 rfl) (.cons (.p _) .nil)) (tpL rfl rfl rfl rfl) ?_)
    rintro _ _ ⟨e, n1, su1, ro1, af1, d1, xs1, he, hb1, rfl, rfl⟩
    obtain rfl : e = 0 := he
    have hsy := sync_spec hb1
    rw [show ((0 : Nat), t1).2 = t1 from rfl, e2] at hsy
    cbv
    repeat (first | (refine vcIf.yes ?_ ?_; (focus (simp [hA.not, hA.eq, hA.lt, hA.le, hA.cond, hA.beq, hA.orb, hL.len, hL.slen, hL.sq]; done)); cbv) | (refine vcIf.no ?_ ?_; (focus (simp [hA.not, hA.eq, hA.lt, hA.le, hA.cond, hA.beq, hA.orb, hL.len, hL.slen, hL.sq]; done)); cbv) | fail)
    refine hcall _ _ _ _ _ (CallEv.lend [0, 1] hsy rfl (.cons (.own 0 0 0 rfl) .nil) (tpL rfl rfl rfl rfl) ?_)
    rintro _ _ ⟨e, n2, su2, ro2, af2, d2, xs2, he, hb2, rfl, rfl⟩
    obtain rfl : e = 0 := he
    have hopn := bkOpen_spec hb2
    rw [show ((0 : Nat), t2).2 = t2 from rfl, e3] at hopn
    cbv
    repeat (first | (refine vcIf.yes ?_ ?_; (focus (simp [hA.not, hA.eq, hA.lt, hA.le, hA.cond, hA.beq, hA.orb, hL.len, hL.slen, hL.sq]; done)); cbv) | (refine vcIf.no ?_ ?_; (focus (simp [hA.not, hA.eq, hA.lt, hA.le, hA.cond, hA.beq, hA.orb, hL.len, hL.slen, hL.sq]; done)); cbv) | fail)
    refine hcall _ _ _ _ _ (CallEv.lend [0, 1] hopn rfl (.cons (.own 0 0 0 rfl) .nil) (tpL rfl rfl rfl rfl) ?_)
    rintro _ _ (⟨n, su, ro, af, d, xs, m, dn, rs, h0, hb, rfl, rfl⟩ | ⟨e, n, su, ro, af, d, xs, h0, _⟩)
    rotate_left
    · exact absurd rfl h0
    replace hb : IsBk ⟨t3, D.1, false⟩ n su ro af d xs m dn rs := hb
    have hby := tpBytes_spec hb.1
    have hrec := bkRecords_spec hb (fun r hr => by have := hle3 r hr; omega) (by have := hb.2.1; simp only at this; omega)
    cbv
    refine hcall _ _ _ _ _ (CallEv.same hrd rfl ?_)
    rintro _ _ ⟨rs2, k, ⟨hr2, hk⟩, rfl, rfl⟩
    cbv
    refine hcall _ _ _ _ _ (CallEv.lend [0, 1] hby rfl (.cons (.own 0 0 0 rfl) .nil) (tpL rfl rfl rfl rfl) ?_)
    rintro _ _ ⟨e, us, he, hus, rfl, rfl⟩
    obtain rfl : e = 0 := by rw [he, ht3]; rfl
    have hsm := rbSame_spec D.1 D.1 (by omega) rs rs2 hb.2.2.2 hr2
    have hus2 : us = bP (l.take D.2) := by rw [hus, ht3]; rfl
    have hzk : (ys.drop 0).take k = bP (l.take D.2) := by rw [hys, hk, List.drop_zero, bP_take]
    have hkN : k ≤ N := by omega
    cbv
    refine hcode _ _ _ (CodeEv.drawT eOk fOk (by kernel_rfl) (Xof 0 []) (.so 0 (.so 1 (.so 2 (.so 3 (.so 4 (.so 5 (.so 6 (.so 7 (.so 8 (.so 9 (.so 10 (.rd 11 (.rd 13 (.acts (.cons 12 (.acts (.cons 14 (.so 15 (.so 16 (.rd 17 (.rd 18 (.rd 19 (.so 20 (.so 21 (.so 22 (.so 23 (.so 24 (.so 25 (.done)))))))))))) (.nil))) (.nil)))))))))))))))) (by kernel_rfl) (by kernel_rfl) ?_)
    intro add3 sub3 mul3 quo3 rem3 band3 bor3 bxor3 bclr3 shl3 shr3 ieq3 ilt3 ile3 seq3 slt3 beq3 bnot3 orb3 bcond3 iwrap3 iof3 ssz3 hA3 cat3 sq3 sl3 imin3 imax3 smin3 smax3 len3 slen3 u83 hL3 op3 hop3 call3 hcall3 code3 hcode3 q3 hq3
    cbv
    repeat (first | (refine vcIf.yes ?_ ?_; (focus (simp [hA3.not, hA3.eq, hA3.lt, hA3.le, hA3.cond, hA3.beq, hA3.orb, hL3.len, hL3.slen, hL3.sq]; done)); cbv) | (refine vcIf.no ?_ ?_; (focus (simp [hA3.not, hA3.eq, hA3.lt, hA3.le, hA3.cond, hA3.beq, hA3.orb, hL3.len, hL3.slen, hL3.sq]; done)); cbv) | fail)
    refine hcall3 _ _ _ _ _ (CallEv.lend [0, 1, 2, 3] hrec rfl (.cons (.own 2 2 0 rfl) .nil) (bkL rfl rfl rfl rfl rfl rfl rfl) ?_)
    rintro _ _ ⟨rfl, rfl⟩
    cbv
    refine hcall3 _ _ _ _ _ (CallEv.same hsm rfl ?_)
    rintro _ _ ⟨c, hc, rfl, rfl⟩
    obtain rfl : c = true := by rw [hc]; exact decide_eq_true rfl
    obtain ⟨T, hT⟩ : ∃ T, T = l.take D.2 := ⟨_, rfl⟩
    rw [← hT] at hus2 hzk
    have hsq : sq3 T T = true := by rw [hL3.sq]; exact decide_eq_true rfl
    cbv
    repeat (first | (refine vcIf.yes ?_ ?_; (focus (simp [hA3.not, hA3.eq, hA3.lt, hA3.le, hA3.cond, hA3.beq, hA3.orb, hL3.len, hL3.slen, hL3.sq]; done)); cbv) | (refine vcIf.no ?_ ?_; (focus (simp [hA3.not, hA3.eq, hA3.lt, hA3.le, hA3.cond, hA3.beq, hA3.orb, hL3.len, hL3.slen, hL3.sq]; done)); cbv) | fail)
    refine ⟨T, hus2, ?_⟩
    cbv
    refine ⟨0, k, N, rfl, rfl, hyl.symm, Nat.zero_le _, hkN, Nat.le_of_eq hyl.symm, hyw, ?_⟩
    intro zs hz
    cbv
    refine ⟨T, by rw [← hzk]; exact hz, ?_⟩
    cbv
    refine hq3 _ ?_
    cbv
    rw [hsq]
    exact hret _ (RetEv.ret eOk rfl (by simp [hA3.not, hA3.eq, hA3.lt, hA3.le, hA3.cond, hA3.beq, hA3.orb, hL3.len, hL3.slen, hL3.sq, oneOf]))
end Go.Proofs.Ytgblimlnkefllaa
