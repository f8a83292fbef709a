/- The walk of the law CouncilKeeps. Conditions: on sizes. -/
import Derived.Test.YtnigonhkfpnodaaLCpm
set_option maxRecDepth 100000
set_option maxHeartbeats 16000000
set_option linter.unusedSimpArgs false
set_option linter.unusedVariables false
namespace Go.Proofs.Ytnigonhkfpnodaa
open Go Go.Lx
open Go.Sx (vcIf)

theorem Calm.crash {room : Nat} {c : Cn} (h : Calm room c) (k : Int) (x : UInt8) : cnOpen (tpCrash c.b.t k x) = (0, c) := by
  obtain ⟨rs, h1, h2, h3⟩ := h.ex
  have hl := h.len
  have hf := h.fit
  have hk := h.ok
  obtain ⟨b, w⟩ := c
  simp only at h1 h3 hl hf hk
  subst h3
  simp only at hl
  have e1 : tpCrash ⟨rbytes rs, (rbytes rs).length, room, -1, false⟩ k x = ⟨rbytes rs, (rbytes rs).length, room, -1, false⟩ := by
    have hla : lasts ⟨rbytes rs, (rbytes rs).length, room, -1, false⟩ k = (rbytes rs).length := by unfold lasts; simp only; split <;> omega
    unfold tpCrash
    rw [hla, if_neg (by simp)]
    simp
  have e2 := bkOpen_calm (rbytes rs) room hl
  have e3 := rdR_rbytes rs h2 []
  rw [List.append_nil, rdR_nil] at e3
  simp only [List.append_nil, Nat.add_zero] at e3
  rw [e3] at e2
  simp only [List.take_length] at e2
  unfold cnOpen
  simp only
  rw [e1, e2, if_neg (by simp)]
  simp only
  rw [h1.last hf hk]

abbrev stS (g e r : Int) (ys : List PV) : Res := .st 26 [.p (.int .i64 g), .p (.int .i64 e), .p (.int .i64 r), .p (.sl ys)]
abbrev baS (a b : Int) : Res := .st 23 [.p (.int .i64 a), .p (.int .i64 b)]
abbrev CX.own1 (q : CX) : List Res := [.st 96 [.vw 2 1 0 q.n none, .p (.int .i64 q.su), .p (.int .i64 q.ro), .p (.int .i64 q.af), .p (.bool q.d)], tpA q.xs, .st 131 [.own 1 0, .vw 4 1 0 q.m none, .p (.bool q.dn)], bkA q.rs,
  .st 85 [.own 3 0, .p (.int .i64 q.pn), .p (.int .i64 q.pd), .p (.int .i64 q.an), .p (.int .i64 q.ad), .p (.int .i64 q.g), .p (.int .i64 q.e), .p (.int .i64 q.r), .p (.sl q.zs)]]
structure CK where
  i : Nat
  c : Cn
  ba : Int
  bb : Int
  x : CX
structure CK.Ok (j : CK) (N : Nat) (st : Stt) : Prop where
  i : j.i ≤ N
  x : j.x.of j.c
  calm : Calm 4000 j.c
  pr : j.c.w.pn = j.ba ∧ j.c.w.pd = j.bb ∧ j.c.w.an = j.ba ∧ j.c.w.ad = j.bb
  po : 0 ≤ j.ba ∧ 0 ≤ j.bb
  tk : ¬ (j.ba = 0 ∧ j.bb = 0) → j.c.w.s = st
abbrev CK.fr (ls : List PV) (kp tv : Int) (j : CK) : List (Nat × V) := [(0, .p (.sl ls)), (2, .p (.int .i64 kp)), (3, .p (.int .u8 tv)), (5, .own 0 0), (9, .own 1 0), (11, .own 5 0), (13, .own 6 0), (14, .p (.int .i64 (Int.ofNat j.i)))]
abbrev CK.own (g e r : Int) (ys : List PV) (j : CK) : List Res := [stS g e r ys] ++ j.x.own1 ++ [baS j.ba j.bb]

theorem councilKeeps_spec (L : List (Int × Int)) (hL0 : ∀ q ∈ L, i64r q.1 ∧ i64r q.2) (hLl : L.length < 4611686018427387904) (st : Stt) (hsf : st.fit) (hs8 : st.ch.length * 8 ≤ 140737488355328) (kp : Int) (hkp : i64r kp) (tn : UInt8) :
    FnL Try.prog 4 [.p (.sl (L.map fun q => baP q.1 q.2)), .p st.v, .p (.int .i64 kp), .p (.int .u8 (tn.toNat : Int))] [] fun z own => z = .p (.bool true) := by
  obtain ⟨zs, hzs⟩ : ∃ zs, zs = L.map fun q => baP q.1 q.2 := ⟨_, rfl⟩
  obtain ⟨N, hN⟩ : ∃ N, N = L.length := ⟨_, rfl⟩
  have hzl : zs.length = N := by rw [hzs, List.length_map, hN]
  rw [← hzs]
  obtain ⟨tv, htv⟩ : ∃ tv : Int, tv = (tn.toNat : Int) := ⟨_, rfl⟩
  rw [← htv]
  have hcrs : ∀ (t : Tp) (n : Nat) (su ro af : Int) (d : Bool) (xs : List PV), IsTp t n su ro af d xs → FnL Try.prog 18 [.own 0 0, .p (.int .i64 kp), .p (.int .u8 tv)] [tpS n su ro af d, tpA xs] fun v own => ∃ (n' : Nat) (su' ro' af' : Int) (d' : Bool) (xs' : List PV), IsTp (tpCrash t kp tn) n' su' ro' af' d' xs' ∧ own = [tpS n' su' ro' af' d', tpA xs'] :=
    fun t n su ro af d xs h => by rw [htv]; exact crash_spec h kp hkp.1 hkp.2 tn
  obtain ⟨ys, hys⟩ : ∃ ys, ys = iP st.ch := ⟨_, rfl⟩
  obtain ⟨sg, hsg⟩ : ∃ sg, st.gen = sg := ⟨_, rfl⟩
  obtain ⟨se, hse⟩ : ∃ sg, st.epoch = sg := ⟨_, rfl⟩
  obtain ⟨sr, hsr⟩ : ∃ sg, st.recv = sg := ⟨_, rfl⟩
  have hst : IsSt st sg se sr ys := ⟨hsg, hse, hsr, hys⟩
  have hv : st.v = stP sg se sr ys := by rw [← hsg, ← hse, ← hsr, hys]; rfl
  rw [hv]
  have hnew := tapeNew_spec 4000 (by decide) (by decide)
  have hop0 := coOpen_spec (isTp0 4000 (by decide))
  rw [cnOpen0] at hop0
  refine fn_of_vc eOk fOk fo4 Try.func4 rfl rfl rfl fun B hB => ?_
  intro add sub mul quo rem band bor bxor bclr shl shr ieq ilt ile seq slt beq bnot orb bcond iwrap iof ssz hA cat sq sl imin imax smin smax len slen u8 hL op hop call hcall code hcode ret hret
  cbv
  refine hcall _ _ _ _ _ (CallEv.same hnew rfl ?_)
  rintro _ _ (⟨h, rfl, rfl⟩ | ⟨h, rfl, rfl⟩)
  · omega
  cbv
  refine hcall _ _ _ _ _ (CallEv.lend [1, 2] hop0 rfl (.cons (.own 0 1 0 rfl) .nil) (tpL rfl rfl rfl rfl) ?_)
  rintro _ _ (⟨n, su, ro, af, d, xs, m, dn, rs, pn, pd, an, ad, g, e, r, zs0, h0, hb, rfl, rfl⟩ | ⟨e, n, su, ro, af, d, xs, h0, _⟩)
  rotate_left
  · exact absurd rfl h0
  replace hb : IsCo ⟨⟨⟨[], 0, 4000, -1, false⟩, [], false⟩, Vw4.zero⟩ n su ro af d xs m dn rs pn pd an ad g e r zs0 := hb
  cbv
  refine hcall _ _ _ _ _ (CallEv.same awake15_spec rfl ?_)
  rintro _ _ ⟨rfl, rfl⟩
  cbv
  repeat (first | (refine vcIf.yes ?_ ?_; (focus (simp [hA.not, hA.eq, hA.lt, hA.le, hA.cond, hA.beq, hA.orb, hL.len, hL.slen, hL.sq]; done)); cbv) | (refine vcIf.no ?_ ?_; (focus (simp [hA.not, hA.eq, hA.lt, hA.le, hA.cond, hA.beq, hA.orb, hL.len, hL.slen, hL.sq]; done)); cbv) | fail)
  refine hcode _ _ _ (CodeEv.loopP (ι := CK) (CK.fr zs kp tv) (CK.own sg se sr ys) (fun j => j.Ok N st) (fun j => N - j.i) (fun s => RetEv B Try.prog Try.f4 s fun z own => z = .p (.bool true)) (fun id s => id = 0 ∧ s.n = 157)
    ⟨0, ⟨⟨⟨[], 0, 4000, -1, false⟩, [], false⟩, Vw4.zero⟩, 0, 0, ⟨n, su, ro, af, d, xs, m, dn, rs, pn, pd, an, ad, g, e, r, zs0⟩⟩ ?_ ?_ ?_ ?_)
  · exact ⟨(by repeat (first | exact trivial | refine And.intro rfl ?_)), rfl, Nat.zero_le _, hb, Calm.fresh 4000, ⟨rfl, rfl, rfl, rfl⟩, ⟨Int.le_refl _, Int.le_refl _⟩, fun c => absurd ⟨rfl, rfl⟩ c⟩
  · rintro ⟨i, c, ba, bb, ⟨n, su, ro, af, d, xs, m, dn, rs, pn, pd, an, ad, g, e, r, zv⟩⟩ ⟨k1, k2, k3, k4, k5, k6⟩
    replace k1 : i ≤ N := k1
    replace k2 : IsCo c n su ro af d xs m dn rs pn pd an ad g e r zv := k2
    replace k3 : Calm 4000 c := k3
    replace k4 : c.w.pn = ba ∧ c.w.pd = bb ∧ c.w.an = ba ∧ c.w.ad = bb := k4
    replace k5 : 0 ≤ ba ∧ 0 ≤ bb := k5
    replace k6 : ¬ (ba = 0 ∧ bb = 0) → c.w.s = st := k6
    refine PcEv.seq (κ := Unit) (fun _ => CK.fr zs kp tv ⟨i, c, ba, bb, ⟨n, su, ro, af, d, xs, m, dn, rs, pn, pd, an, ad, g, e, r, zv⟩⟩) (fun _ => CK.own sg se sr ys ⟨i, c, ba, bb, ⟨n, su, ro, af, d, xs, m, dn, rs, pn, pd, an, ad, g, e, r, zv⟩⟩) (fun _ => i < N ∧ i < 30) (VcPiece.ok eOk fOk ?_) ?_
    · intro add1 sub1 mul1 quo1 rem1 band1 bor1 bxor1 bclr1 shl1 shr1 ieq1 ilt1 ile1 seq1 slt1 beq1 bnot1 orb1 bcond1 iwrap1 iof1 ssz1 hA1 cat1 sq1 sl1 imin1 imax1 smin1 smax1 len1 slen1 u81 hL1 op1 hop1 call1 hcall1 code1 hcode1 nx1 hnx1 ret1 hret1 ex1 hex1
      have hlen : len1 zs = Int.ofNat N := by rw [hL1.len, hzl]; rfl
      cbv
      by_cases hi : i < N
      · refine vcIf.yes (by first | (simp [hA1.not, hA1.eq, hA1.lt, hA1.le, hA1.cond, hA1.beq, hA1.orb, hL1.len, hL1.slen, hL1.sq, hlen, hi]; done) | (simp only [hlen, hi]; simp [hA1.not, hA1.eq, hA1.lt, hA1.le, hA1.cond, hA1.beq, hA1.orb, hL1.len, hL1.slen, hL1.sq, hlen, hi]; done) | (simp [hA1.not, hA1.eq, hA1.lt, hA1.le, hA1.cond, hA1.beq, hA1.orb, hL1.len, hL1.slen, hL1.sq, hlen, hi]; omega) | (simp only [hlen, hi]; simp [hA1.not, hA1.eq, hA1.lt, hA1.le, hA1.cond, hA1.beq, hA1.orb, hL1.len, hL1.slen, hL1.sq, hlen, hi]; omega)) ?_
        cbv
        by_cases hi60 : i < 30
        · refine vcIf.yes (by first | (simp [hA1.not, hA1.eq, hA1.lt, hA1.le, hA1.cond, hA1.beq, hA1.orb, hL1.len, hL1.slen, hL1.sq, hi60]; done) | (simp only [hi60]; simp [hA1.not, hA1.eq, hA1.lt, hA1.le, hA1.cond, hA1.beq, hA1.orb, hL1.len, hL1.slen, hL1.sq, hi60]; done) | (simp [hA1.not, hA1.eq, hA1.lt, hA1.le, hA1.cond, hA1.beq, hA1.orb, hL1.len, hL1.slen, hL1.sq, hi60]; omega) | (simp only [hi60]; simp [hA1.not, hA1.eq, hA1.lt, hA1.le, hA1.cond, hA1.beq, hA1.orb, hL1.len, hL1.slen, hL1.sq, hi60]; omega)) ?_
          cbv
          refine hnx1 _ (OutX.w ⟨(), [], ⟨hi, hi60⟩, rfl, (by repeat (first | exact trivial | refine And.intro rfl ?_)), rfl, rfl, rfl, ?_⟩)
          rw [hB]; exact Nat.zero_le _
        · refine vcIf.no (by first | (simp [hA1.not, hA1.eq, hA1.lt, hA1.le, hA1.cond, hA1.beq, hA1.orb, hL1.len, hL1.slen, hL1.sq, hi60]; done) | (simp only [hi60]; simp [hA1.not, hA1.eq, hA1.lt, hA1.le, hA1.cond, hA1.beq, hA1.orb, hL1.len, hL1.slen, hL1.sq, hi60]; done) | (simp [hA1.not, hA1.eq, hA1.lt, hA1.le, hA1.cond, hA1.beq, hA1.orb, hL1.len, hL1.slen, hL1.sq, hi60]; omega) | (simp only [hi60]; simp [hA1.not, hA1.eq, hA1.lt, hA1.le, hA1.cond, hA1.beq, hA1.orb, hL1.len, hL1.slen, hL1.sq, hi60]; omega)) ?_
          cbv
          exact hex1 _ _ ⟨rfl, rfl⟩
      · refine vcIf.no (by first | (simp [hA1.not, hA1.eq, hA1.lt, hA1.le, hA1.cond, hA1.beq, hA1.orb, hL1.len, hL1.slen, hL1.sq, hlen, hi]; done) | (simp only [hlen, hi]; simp [hA1.not, hA1.eq, hA1.lt, hA1.le, hA1.cond, hA1.beq, hA1.orb, hL1.len, hL1.slen, hL1.sq, hlen, hi]; done) | (simp [hA1.not, hA1.eq, hA1.lt, hA1.le, hA1.cond, hA1.beq, hA1.orb, hL1.len, hL1.slen, hL1.sq, hlen, hi]; omega) | (simp only [hlen, hi]; simp [hA1.not, hA1.eq, hA1.lt, hA1.le, hA1.cond, hA1.beq, hA1.orb, hL1.len, hL1.slen, hL1.sq, hlen, hi]; omega)) ?_
        cbv
        repeat (first | (refine vcIf.yes ?_ ?_; (focus (simp [hA1.not, hA1.eq, hA1.lt, hA1.le, hA1.cond, hA1.beq, hA1.orb, hL1.len, hL1.slen, hL1.sq]; done)); cbv) | (refine vcIf.no ?_ ?_; (focus (simp [hA1.not, hA1.eq, hA1.lt, hA1.le, hA1.cond, hA1.beq, hA1.orb, hL1.len, hL1.slen, hL1.sq]; done)); cbv) | fail)
        exact hex1 _ _ ⟨rfl, rfl⟩
    rintro ⟨⟩ ⟨hi, hi60⟩
    obtain ⟨⟨a, b⟩, ha⟩ := get_of_lt (show i < L.length by omega)
    have hao := hL0 _ (List.mem_of_getElem? ha)
    have hzi : zs[i]? = some (baP a b) := by rw [hzs, List.getElem?_map, ha]; rfl
    obtain ⟨ha2, hb2⟩ := hao
    simp only at ha2 hb2
    have hpr := coPrep_spec k2 k3.fit k3.sz a b ha2 hb2
    refine PcEv.seq (κ := CK) (CK.fr zs kp tv) (CK.own sg se sr ys) (fun j => j.i = i ∧ j.Ok N st) ?_ ?_
    · refine PcEv.block ?_
      by_cases hneg : a < 0 ∨ b < 0
      · have hR : (cnPrep c a b).e = 1 := by
          unfold cnPrep
          have e0 : cnReady c.b.dn a b = 1 := by unfold cnReady; rw [k3.dn, if_neg (by decide), if_pos hneg]
          rw [e0, if_pos (by decide)]
        refine VcPiece.ok eOk fOk ?_
        intro add1 sub1 mul1 quo1 rem1 band1 bor1 bxor1 bclr1 shl1 shr1 ieq1 ilt1 ile1 seq1 slt1 beq1 bnot1 orb1 bcond1 iwrap1 iof1 ssz1 hA1 cat1 sq1 sl1 imin1 imax1 smin1 smax1 len1 slen1 u81 hL1 op1 hop1 call1 hcall1 code1 hcode1 nx1 hnx1 ret1 hret1 ex1 hex1
        cbv
        refine ⟨i, _, rfl, hzi, rfl, ?_⟩
        cbv
        refine hcall1 _ _ _ _ _ (CallEv.lend [1, 2, 3, 4, 5] hpr rfl (.cons (.own 4 5 0 rfl) (.cons (.p _) .nil)) (coL rfl rfl rfl rfl rfl rfl rfl rfl rfl) ?_)
        rintro _ _ ⟨z, ok, q1, q2, q3, q4, q5, q6, q7, q8, n', su', ro', af', d', xs', m', dn', rs', pn', pd', an', ad', g', e', r', zv', hz, hok, hvq, hc, rfl, rfl⟩
        have hz1 : z = 1 := by rw [hz, hR]; rfl
        subst hz1
        cbv
        refine vcIf.yes (by first | (simp [hA1.not, hA1.eq, hA1.lt, hA1.le, hA1.cond, hA1.beq, hA1.orb, hL1.len, hL1.slen, hL1.sq]; done) | (simp [hA1.not, hA1.eq, hA1.lt, hA1.le, hA1.cond, hA1.beq, hA1.orb, hL1.len, hL1.slen, hL1.sq]; omega)) ?_
        cbv
        refine vcIf.yes (by first | (simp [hA1.not, hA1.eq, hA1.lt, hA1.le, hA1.cond, hA1.beq, hA1.orb, hL1.len, hL1.slen, hL1.sq]; done) | (simp [hA1.not, hA1.eq, hA1.lt, hA1.le, hA1.cond, hA1.beq, hA1.orb, hL1.len, hL1.slen, hL1.sq]; omega)) ?_
        cbv
        refine ⟨i, _, rfl, hzi, rfl, ?_⟩
        cbv
        by_cases h1 : a < 0
        · refine vcIf.yes (by first | (simp [hA1.not, hA1.eq, hA1.lt, hA1.le, hA1.cond, hA1.beq, hA1.orb, hL1.len, hL1.slen, hL1.sq, h1]; done) | (simp only [h1]; simp [hA1.not, hA1.eq, hA1.lt, hA1.le, hA1.cond, hA1.beq, hA1.orb, hL1.len, hL1.slen, hL1.sq, h1]; done) | (simp [hA1.not, hA1.eq, hA1.lt, hA1.le, hA1.cond, hA1.beq, hA1.orb, hL1.len, hL1.slen, hL1.sq, h1]; omega) | (simp only [h1]; simp [hA1.not, hA1.eq, hA1.lt, hA1.le, hA1.cond, hA1.beq, hA1.orb, hL1.len, hL1.slen, hL1.sq, h1]; omega)) ?_
          cbv
          repeat (first | (refine vcIf.yes ?_ ?_; (focus (simp [hA1.not, hA1.eq, hA1.lt, hA1.le, hA1.cond, hA1.beq, hA1.orb, hL1.len, hL1.slen, hL1.sq, h1]; done)); cbv) | (refine vcIf.no ?_ ?_; (focus (simp [hA1.not, hA1.eq, hA1.lt, hA1.le, hA1.cond, hA1.beq, hA1.orb, hL1.len, hL1.slen, hL1.sq, h1]; done)); cbv) | fail)
          refine hret1 _ (RetEv.ret eOk rfl ?_)
          simp [oneOf, hA1.cond, hA1.lt, hA1.eq, h1]
        · have h2 : b < 0 := by omega
          refine vcIf.no (by first | (simp [hA1.not, hA1.eq, hA1.lt, hA1.le, hA1.cond, hA1.beq, hA1.orb, hL1.len, hL1.slen, hL1.sq, h1]; done) | (simp only [h1]; simp [hA1.not, hA1.eq, hA1.lt, hA1.le, hA1.cond, hA1.beq, hA1.orb, hL1.len, hL1.slen, hL1.sq, h1]; done) | (simp [hA1.not, hA1.eq, hA1.lt, hA1.le, hA1.cond, hA1.beq, hA1.orb, hL1.len, hL1.slen, hL1.sq, h1]; omega) | (simp only [h1]; simp [hA1.not, hA1.eq, hA1.lt, hA1.le, hA1.cond, hA1.beq, hA1.orb, hL1.len, hL1.slen, hL1.sq, h1]; omega)) ?_
          cbv
          refine ⟨i, _, rfl, hzi, rfl, ?_⟩
          cbv
          refine hret1 _ (RetEv.ret eOk rfl ?_)
          simp [oneOf, hA1.cond, hA1.lt, hA1.eq, h1, h2]
      obtain ⟨c1, hp1, hc1, hw1⟩ := k3.prep (by decide) (a := a) (b := b) ⟨by omega, ha2.2⟩ ⟨by omega, hb2.2⟩
      obtain ⟨ok, hok⟩ : ∃ ok, ok = (prm c.w a b).2 := ⟨_, rfl⟩
      rw [hp1, ← hok] at hpr
      have hless : ok = blt ba bb a b := by
        rw [hok]; unfold prm; rw [k4.1, k4.2.1]
        cases blt ba bb a b <;> rfl
      refine PcEv.seq (κ := CX) (fun q => (17, .p (.int .i64 0)) :: (16, .p (.bool ok)) :: CK.fr zs kp tv ⟨i, c1, ba, bb, q⟩) (fun q => CK.own sg se sr ys ⟨i, c1, ba, bb, q⟩) (fun q => q.of c1) (VcPiece.ok eOk fOk ?_) ?_
      · intro add1 sub1 mul1 quo1 rem1 band1 bor1 bxor1 bclr1 shl1 shr1 ieq1 ilt1 ile1 seq1 slt1 beq1 bnot1 orb1 bcond1 iwrap1 iof1 ssz1 hA1 cat1 sq1 sl1 imin1 imax1 smin1 smax1 len1 slen1 u81 hL1 op1 hop1 call1 hcall1 code1 hcode1 nx1 hnx1 ret1 hret1 ex1 hex1
        cbv
        refine ⟨i, _, rfl, hzi, rfl, ?_⟩
        cbv
        refine hcall1 _ _ _ _ _ (CallEv.lend [1, 2, 3, 4, 5] hpr rfl (.cons (.own 4 5 0 rfl) (.cons (.p _) .nil)) (coL rfl rfl rfl rfl rfl rfl rfl rfl rfl) ?_)
        rintro _ _ ⟨z, ok', q1, q2, q3, q4, q5, q6, q7, q8, n', su', ro', af', d', xs', m', dn', rs', pn', pd', an', ad', g', e', r', zv', hz, hok', hvq, hc, rfl, rfl⟩
        obtain rfl : z = 0 := hz
        obtain rfl : ok' = ok := hok'
        cbv
        refine hnx1 _ (OutX.w ⟨⟨n', su', ro', af', d', xs', m', dn', rs', pn', pd', an', ad', g', e', r', zv'⟩, _, hc, rfl, (by repeat (first | exact trivial | refine And.intro rfl ?_)), rfl, rfl, rfl, ?_⟩)
        rw [hB]; exact Nat.zero_le _
      rintro ⟨n', su', ro', af', d', xs', m', dn', rs', pn', pd', an', ad', g', e', r', zv'⟩ hx1
      replace hx1 : IsCo c1 n' su' ro' af' d' xs' m' dn' rs' pn' pd' an' ad' g' e' r' zv' := hx1
      refine PcEv.seq (κ := Unit) (fun _ => (16, .p (.bool ok)) :: CK.fr zs kp tv ⟨i, c1, ba, bb, ⟨n', su', ro', af', d', xs', m', dn', rs', pn', pd', an', ad', g', e', r', zv'⟩⟩) (fun _ => CK.own sg se sr ys ⟨i, c1, ba, bb, ⟨n', su', ro', af', d', xs', m', dn', rs', pn', pd', an', ad', g', e', r', zv'⟩⟩) (fun _ => True) (VcPiece.ok eOk fOk ?_) ?_
      · intro add1 sub1 mul1 quo1 rem1 band1 bor1 bxor1 bclr1 shl1 shr1 ieq1 ilt1 ile1 seq1 slt1 beq1 bnot1 orb1 bcond1 iwrap1 iof1 ssz1 hA1 cat1 sq1 sl1 imin1 imax1 smin1 smax1 len1 slen1 u81 hL1 op1 hop1 call1 hcall1 code1 hcode1 nx1 hnx1 ret1 hret1 ex1 hex1
        cbv
        refine vcIf.no (by first | (simp [hA1.not, hA1.eq, hA1.lt, hA1.le, hA1.cond, hA1.beq, hA1.orb, hL1.len, hL1.slen, hL1.sq]; done) | (simp [hA1.not, hA1.eq, hA1.lt, hA1.le, hA1.cond, hA1.beq, hA1.orb, hL1.len, hL1.slen, hL1.sq]; omega)) ?_
        cbv
        refine hnx1 _ (OutX.w ⟨(), [], trivial, rfl, (by repeat (first | exact trivial | refine And.intro rfl ?_)), rfl, rfl, rfl, ?_⟩)
        rw [hB]; exact Nat.zero_le _
      rintro ⟨⟩ _
      have hle := rLess_spec ba bb a b
      refine PcEv.seq (κ := Unit) (fun _ => (16, .p (.bool ok)) :: CK.fr zs kp tv ⟨i, c1, ba, bb, ⟨n', su', ro', af', d', xs', m', dn', rs', pn', pd', an', ad', g', e', r', zv'⟩⟩) (fun _ => CK.own sg se sr ys ⟨i, c1, ba, bb, ⟨n', su', ro', af', d', xs', m', dn', rs', pn', pd', an', ad', g', e', r', zv'⟩⟩) (fun _ => True) (VcPiece.ok eOk fOk ?_) ?_
      · intro add1 sub1 mul1 quo1 rem1 band1 bor1 bxor1 bclr1 shl1 shr1 ieq1 ilt1 ile1 seq1 slt1 beq1 bnot1 orb1 bcond1 iwrap1 iof1 ssz1 hA1 cat1 sq1 sl1 imin1 imax1 smin1 smax1 len1 slen1 u81 hL1 op1 hop1 call1 hcall1 code1 hcode1 nx1 hnx1 ret1 hret1 ex1 hex1
        cbv
        refine hcode1 _ _ _ (CodeEv.drawT eOk fOk (by kernel_rfl) (Xof 7 []) (.rd 0 (.rd 1 (.rd 2 (.so 3 (.so 4 (.so 5 (.acts (.cons 6 (.so 7 (.done)) (.nil))))))))) (by kernel_rfl) (by kernel_rfl) ?_)
        intro add2 sub2 mul2 quo2 rem2 band2 bor2 bxor2 bclr2 shl2 shr2 ieq2 ilt2 ile2 seq2 slt2 beq2 bnot2 orb2 bcond2 iwrap2 iof2 ssz2 hA2 cat2 sq2 sl2 imin2 imax2 smin2 smax2 len2 slen2 u82 hL2 op2 hop2 call2 hcall2 code2 hcode2 q2 hq2
        cbv
        refine ⟨i, _, rfl, hzi, rfl, ?_⟩
        cbv
        refine hcall2 _ _ _ _ _ (CallEv.same hle rfl ?_)
        rintro _ _ ⟨x, hx, rfl, rfl⟩
        obtain rfl : x = ok := hx.trans hless.symm
        cbv
        refine hq2 _ ?_
        cbv
        refine vcIf.no (by first | (simp [hA2.not, hA2.eq, hA2.lt, hA2.le, hA2.cond, hA2.beq, hA2.orb, hL2.len, hL2.slen, hL2.sq]; done) | (simp [hA2.not, hA2.eq, hA2.lt, hA2.le, hA2.cond, hA2.beq, hA2.orb, hL2.len, hL2.slen, hL2.sq]; omega)) ?_
        cbv
        refine hnx1 _ (OutX.w ⟨(), [], trivial, rfl, (by repeat (first | exact trivial | refine And.intro rfl ?_)), rfl, rfl, rfl, ?_⟩)
        rw [hB]; exact Nat.zero_le _
      rintro ⟨⟩ _
      -- the state is taken
      refine PcEv.seq (κ := CK) (CK.fr zs kp tv) (CK.own sg se sr ys) (fun j => j.i = i ∧ j.Ok N st) ?_ ?_
      · cases hokc : ok with
        | false =>
          have hq : (prm c.w a b).1 = c.w := prm_no (by rw [← hok, hokc])
          rw [hq] at hw1
          refine VcPiece.ok eOk fOk ?_
          intro add1 sub1 mul1 quo1 rem1 band1 bor1 bxor1 bclr1 shl1 shr1 ieq1 ilt1 ile1 seq1 slt1 beq1 bnot1 orb1 bcond1 iwrap1 iof1 ssz1 hA1 cat1 sq1 sl1 imin1 imax1 smin1 smax1 len1 slen1 u81 hL1 op1 hop1 call1 hcall1 code1 hcode1 nx1 hnx1 ret1 hret1 ex1 hex1
          cbv
          refine hnx1 _ (OutX.w ⟨⟨i, c1, ba, bb, ⟨n', su', ro', af', d', xs', m', dn', rs', pn', pd', an', ad', g', e', r', zv'⟩⟩, [], ⟨rfl, k1, hx1, hc1, by simp only; rw [hw1]; exact k4, k5, by simp only; rw [hw1]; exact k6⟩, rfl, (by repeat (first | exact trivial | refine And.intro rfl ?_)), rfl, rfl, rfl, ?_⟩)
          rw [hB]; exact Nat.zero_le _
        | true =>
          have hbl : blt ba bb a b = true := by rw [← hless, hokc]
          have hw1' : c1.w = { c.w with pn := a, pd := b } := by rw [hw1]; unfold prm; rw [k4.1, k4.2.1, hbl, if_pos rfl]
          have hac := coAcc_spec hx1 hc1.fit hc1.sz a b ha2 hb2 st hsf hs8 hst
          have hfs := rState_spec st hsf.2.2 ys hys
          rw [hsg, hse, hsr] at hfs
          obtain ⟨O, hO⟩ : ∃ O, O = st.okB := ⟨_, rfl⟩
          rw [← hO] at hfs
          cases O with
          | false =>
            have hRe : (cnAcc c1 a b st).e = 2 := by
              unfold cnAcc
              have e0 : cnReady c1.b.dn a b = 0 := by unfold cnReady; rw [hc1.dn, if_neg (by decide), if_neg hneg]
              rw [e0, if_neg (by simp), ← hO, if_pos rfl]
            refine VcPiece.ok eOk fOk ?_
            intro add1 sub1 mul1 quo1 rem1 band1 bor1 bxor1 bclr1 shl1 shr1 ieq1 ilt1 ile1 seq1 slt1 beq1 bnot1 orb1 bcond1 iwrap1 iof1 ssz1 hA1 cat1 sq1 sl1 imin1 imax1 smin1 smax1 len1 slen1 u81 hL1 op1 hop1 call1 hcall1 code1 hcode1 nx1 hnx1 ret1 hret1 ex1 hex1
            cbv
            refine ⟨i, _, rfl, hzi, rfl, ?_⟩
            cbv
            refine hcall1 _ _ _ _ _ (CallEv.lend [1, 2, 3, 4, 5] hac rfl (.cons (.own 4 5 0 rfl) (.cons (.p _) (.cons (.p _) .nil))) (coL rfl rfl rfl rfl rfl rfl rfl rfl rfl) ?_)
            rintro _ _ ⟨z, ok', n2, su2, ro2, af2, d2, xs2, m2, dn2, rs2, pn2, pd2, an2, ad2, g2, e2, r2, zv2, hz, hok', hc, rfl, rfl⟩
            obtain rfl : z = 2 := by rw [hz, hRe]; rfl
            cbv
            refine vcIf.yes (by first | (simp [hA1.not, hA1.eq, hA1.lt, hA1.le, hA1.cond, hA1.beq, hA1.orb, hL1.len, hL1.slen, hL1.sq]; done) | (simp [hA1.not, hA1.eq, hA1.lt, hA1.le, hA1.cond, hA1.beq, hA1.orb, hL1.len, hL1.slen, hL1.sq]; omega)) ?_
            cbv
            refine vcIf.yes (by first | (simp [hA1.not, hA1.eq, hA1.lt, hA1.le, hA1.cond, hA1.beq, hA1.orb, hL1.len, hL1.slen, hL1.sq]; done) | (simp [hA1.not, hA1.eq, hA1.lt, hA1.le, hA1.cond, hA1.beq, hA1.orb, hL1.len, hL1.slen, hL1.sq]; omega)) ?_
            cbv
            refine hcall1 _ _ _ _ _ (CallEv.same hfs rfl ?_)
            rintro _ _ ⟨o, ho, rfl, rfl⟩
            obtain rfl : o = false := ho
            cbv
            refine hret1 _ (RetEv.ret eOk rfl ?_)
            simp [oneOf, hA1.cond, hA1.eq, hA1.not]
          | true =>
            obtain ⟨c2, hp2, hc2, hw2⟩ := hc1.acc (by decide) (a := a) (b := b) ⟨by omega, ha2.2⟩ ⟨by omega, hb2.2⟩ hsf hO.symm
            have etk : tkv c1.w a b st = (⟨a, b, a, b, st⟩, true) := by unfold tkv; rw [hw1']; simp only; rw [blt_irrefl, if_neg (by decide)]
            rw [etk] at hp2 hw2
            rw [hp2] at hac
            refine VcPiece.ok eOk fOk ?_
            intro add1 sub1 mul1 quo1 rem1 band1 bor1 bxor1 bclr1 shl1 shr1 ieq1 ilt1 ile1 seq1 slt1 beq1 bnot1 orb1 bcond1 iwrap1 iof1 ssz1 hA1 cat1 sq1 sl1 imin1 imax1 smin1 smax1 len1 slen1 u81 hL1 op1 hop1 call1 hcall1 code1 hcode1 nx1 hnx1 ret1 hret1 ex1 hex1
            cbv
            refine ⟨i, _, rfl, hzi, rfl, ?_⟩
            cbv
            refine hcall1 _ _ _ _ _ (CallEv.lend [1, 2, 3, 4, 5] hac rfl (.cons (.own 4 5 0 rfl) (.cons (.p _) (.cons (.p _) .nil))) (coL rfl rfl rfl rfl rfl rfl rfl rfl rfl) ?_)
            rintro _ _ ⟨z, ok', n2, su2, ro2, af2, d2, xs2, m2, dn2, rs2, pn2, pd2, an2, ad2, g2, e2, r2, zv2, hz, hok', hc, rfl, rfl⟩
            obtain rfl : z = 0 := hz
            obtain rfl : ok' = true := hok'
            cbv
            refine vcIf.no (by first | (simp [hA1.not, hA1.eq, hA1.lt, hA1.le, hA1.cond, hA1.beq, hA1.orb, hL1.len, hL1.slen, hL1.sq]; done) | (simp [hA1.not, hA1.eq, hA1.lt, hA1.le, hA1.cond, hA1.beq, hA1.orb, hL1.len, hL1.slen, hL1.sq]; omega)) ?_
            cbv
            refine vcIf.no (by first | (simp [hA1.not, hA1.eq, hA1.lt, hA1.le, hA1.cond, hA1.beq, hA1.orb, hL1.len, hL1.slen, hL1.sq]; done) | (simp [hA1.not, hA1.eq, hA1.lt, hA1.le, hA1.cond, hA1.beq, hA1.orb, hL1.len, hL1.slen, hL1.sq]; omega)) ?_
            cbv
            refine hnx1 _ (OutX.w ⟨⟨i, c2, a, b, ⟨n2, su2, ro2, af2, d2, xs2, m2, dn2, rs2, pn2, pd2, an2, ad2, g2, e2, r2, zv2⟩⟩, [], ⟨rfl, k1, hc, hc2, by simp only; rw [hw2]; exact ⟨rfl, rfl, rfl, rfl⟩, ⟨show 0 ≤ a by omega, show 0 ≤ b by omega⟩, fun _ => by simp only; rw [hw2]⟩, rfl, (by repeat (first | exact trivial | refine And.intro rfl ?_)), rfl, rfl, rfl, ?_⟩)
            rw [hB]; exact Nat.zero_le _
      -- a crash
      rintro ⟨i, c, ba, bb, ⟨n, su, ro, af, d, xs, m, dn, rs, pn, pd, an, ad, g, e, r, zv⟩⟩ ⟨rfl, k1, k2, k3, k4, k5, k6⟩
      replace k1 : i ≤ N := k1
      replace k2 : IsCo c n su ro af d xs m dn rs pn pd an ad g e r zv := k2
      replace k3 : Calm 4000 c := k3
      replace k4 : c.w.pn = ba ∧ c.w.pd = bb ∧ c.w.an = ba ∧ c.w.ad = bb := k4
      replace k5 : 0 ≤ ba ∧ 0 ≤ bb := k5
      replace k6 : ¬ (ba = 0 ∧ bb = 0) → c.w.s = st := k6
      have hcrash := hcrs _ _ _ _ _ _ _ k2.1.1
      have hcr := k3.crash kp tn
      obtain ⟨t', ht'⟩ : ∃ t', t' = tpCrash c.b.t kp tn := ⟨_, rfl⟩
      rw [← ht'] at hcr
      refine VcPiece.ok eOk fOk ?_
      intro add1 sub1 mul1 quo1 rem1 band1 bor1 bxor1 bclr1 shl1 shr1 ieq1 ilt1 ile1 seq1 slt1 beq1 bnot1 orb1 bcond1 iwrap1 iof1 ssz1 hA1 cat1 sq1 sl1 imin1 imax1 smin1 smax1 len1 slen1 u81 hL1 op1 hop1 call1 hcall1 code1 hcode1 nx1 hnx1 ret1 hret1 ex1 hex1
      cbv
      refine hcall1 _ _ _ _ _ (CallEv.lend [1, 2] hcrash rfl (.cons (.own 0 1 0 rfl) (.cons (.p _) (.cons (.p _) .nil))) (tpL rfl rfl rfl rfl) ?_)
      rintro _ _ ⟨t1, t2, t3, t4, t5, t6, ht1, rfl⟩
      have ht1' : IsTp t' t1 t2 t3 t4 t5 t6 := by rw [ht']; exact ht1
      have hopn := coOpen_spec ht1'
      rw [hcr] at hopn
      cbv
      refine hcall1 _ _ _ _ _ (CallEv.lend [1, 2] hopn rfl (.cons (.own 0 1 0 rfl) .nil) (tpL rfl rfl rfl rfl) ?_)
      rintro _ _ (⟨n', su', ro', af', d', xs', m', dn', rs', pn', pd', an', ad', g', e', r', zv', h0, hc, rfl, rfl⟩ | ⟨e, n, su, ro, af, d, xs, h0, _⟩)
      rotate_left
      · exact absurd rfl h0
      replace hc : IsCo c n' su' ro' af' d' xs' m' dn' rs' pn' pd' an' ad' g' e' r' zv' := hc
      have hvw := coVow_spec c.w k3.sz (n := n') (su := su') (ro := ro') (af := af') (d := d') (xs := xs') (m := m') (dn := dn') (rs := rs') hc.2
      obtain ⟨f1, f2, f3, f4, f5, f6, f7, f8⟩ := hc.2
      obtain rfl : pn' = ba := f1.symm.trans k4.1
      obtain rfl : pd' = bb := f2.symm.trans k4.2.1
      obtain rfl : an' = pn' := f3.symm.trans k4.2.2.1
      obtain rfl : ad' = pd' := f4.symm.trans k4.2.2.2
      cbv
      refine hcode1 _ _ _ (CodeEv.drawT eOk fOk (by kernel_rfl) (Xof 7 [1, 2, 3, 4, 5]) (.so 0 (.so 1 (.so 2 (.so 3 (.so 4 (.so 5 (.so 6 (.rd 7 (.rd 10 (.acts (.cons 8 (.so 9 (.acts (.cons 11 (.so 12 (.so 13 (.rd 14 (.rd 17 (.acts (.cons 15 (.so 16 (.acts (.cons 18 (.so 19 (.so 20 (.rd 21 (.so 22 (.acts (.cons 23 (.so 24 (.rd 25 (.rd 28 (.acts (.cons 26 (.so 27 (.acts (.cons 29 (.so 30 (.so 31 (.so 32 (.done)))) (.nil)))) (.nil)))))) (.nil))))))) (.nil)))) (.nil))))))) (.nil)))) (.nil)))))))))))) (by kernel_rfl) (by kernel_rfl) ?_)
      intro add2 sub2 mul2 quo2 rem2 band2 bor2 bxor2 bclr2 shl2 shr2 ieq2 ilt2 ile2 seq2 slt2 beq2 bnot2 orb2 bcond2 iwrap2 iof2 ssz2 hA2 cat2 sq2 sl2 imin2 imax2 smin2 smax2 len2 slen2 u82 hL2 op2 hop2 call2 hcall2 code2 hcode2 q2 hq2
      cbv
      repeat (first | (refine vcIf.yes ?_ ?_; (focus (simp [hA2.not, hA2.eq, hA2.lt, hA2.le, hA2.cond, hA2.beq, hA2.orb, hL2.len, hL2.slen, hL2.sq]; done)); cbv) | (refine vcIf.no ?_ ?_; (focus (simp [hA2.not, hA2.eq, hA2.lt, hA2.le, hA2.cond, hA2.beq, hA2.orb, hL2.len, hL2.slen, hL2.sq]; done)); cbv) | fail)
      refine hcall2 _ _ _ _ _ (CallEv.lend [1, 2, 7, 8, 9] hvw rfl (.cons (.own 4 9 0 rfl) .nil) (coL rfl rfl rfl rfl rfl rfl rfl rfl rfl) ?_)
      rintro _ _ ⟨rfl, rfl⟩
      cbv
      refine hop2 _ _ _ _ (OpEv.aggNe (b := true) rfl rfl rfl (by kernel_rfl) (by kernel_rfl) (by kernel_rfl) ((balEq' an' ad' an' ad').trans (by simp)) ?_)
      cbv
      repeat (first | (refine vcIf.yes ?_ ?_; (focus (simp [hA2.not, hA2.eq, hA2.lt, hA2.le, hA2.cond, hA2.beq, hA2.orb, hL2.len, hL2.slen, hL2.sq]; done)); cbv) | (refine vcIf.no ?_ ?_; (focus (simp [hA2.not, hA2.eq, hA2.lt, hA2.le, hA2.cond, hA2.beq, hA2.orb, hL2.len, hL2.slen, hL2.sq]; done)); cbv) | fail)
      refine hcall2 _ _ _ _ _ (CallEv.lend [1, 2, 7, 8, 9] hvw rfl (.cons (.own 4 9 0 rfl) .nil) (coL rfl rfl rfl rfl rfl rfl rfl rfl rfl) ?_)
      rintro _ _ ⟨rfl, rfl⟩
      cbv
      refine hop2 _ _ _ _ (OpEv.aggNe (b := true) rfl rfl rfl (by kernel_rfl) (by kernel_rfl) (by kernel_rfl) ((balEq' an' ad' an' ad').trans (by simp)) ?_)
      cbv
      repeat (first | (refine vcIf.yes ?_ ?_; (focus (simp [hA2.not, hA2.eq, hA2.lt, hA2.le, hA2.cond, hA2.beq, hA2.orb, hL2.len, hL2.slen, hL2.sq]; done)); cbv) | (refine vcIf.no ?_ ?_; (focus (simp [hA2.not, hA2.eq, hA2.lt, hA2.le, hA2.cond, hA2.beq, hA2.orb, hL2.len, hL2.slen, hL2.sq]; done)); cbv) | fail)
      obtain ⟨b0, hb0⟩ : ∃ b, b = (decide (an' = 0) && (decide (ad' = 0) && true)) := ⟨_, rfl⟩
      refine hop2 _ _ _ _ (OpEv.aggNe (b := b0) rfl rfl rfl (by kernel_rfl) (by kernel_rfl) (by kernel_rfl) ((balEq' an' ad' 0 0).trans (congrArg some hb0.symm)) ?_)
      cases b0 with
      | true =>
        cbv
        repeat (first | (refine vcIf.yes ?_ ?_; (focus (simp [hA2.not, hA2.eq, hA2.lt, hA2.le, hA2.cond, hA2.beq, hA2.orb, hL2.len, hL2.slen, hL2.sq]; done)); cbv) | (refine vcIf.no ?_ ?_; (focus (simp [hA2.not, hA2.eq, hA2.lt, hA2.le, hA2.cond, hA2.beq, hA2.orb, hL2.len, hL2.slen, hL2.sq]; done)); cbv) | fail)
        refine hq2 _ ?_
        cbv
        repeat (first | (refine vcIf.yes ?_ ?_; (focus (simp [hA2.not, hA2.eq, hA2.lt, hA2.le, hA2.cond, hA2.beq, hA2.orb, hL2.len, hL2.slen, hL2.sq]; done)); cbv) | (refine vcIf.no ?_ ?_; (focus (simp [hA2.not, hA2.eq, hA2.lt, hA2.le, hA2.cond, hA2.beq, hA2.orb, hL2.len, hL2.slen, hL2.sq]; done)); cbv) | fail)
        refine hnx1 _ (OutX.wC (ConvW.pack [0, 1, 2, 7, 8, 9, 6] hB rfl) ⟨⟨i, c, an', ad', ⟨n', su', ro', af', d', xs', m', dn', rs', an', ad', an', ad', g', e', r', zv'⟩⟩, [], ⟨rfl, k1, hc, k3, k4, k5, k6⟩, rfl, (by repeat (first | exact trivial | refine And.intro rfl ?_)), rfl, rfl, rfl, ?_⟩)
        rw [hB]; exact Nat.zero_le _
      | false =>
        have hne : ¬ (an' = 0 ∧ ad' = 0) := fun c => by rw [c.1, c.2] at hb0; simp at hb0
        have hsm := rSameState_spec c.w.s st (by have := k3.sz; omega) hc.2.st hst
        have hww := k6 hne
        cbv
        repeat (first | (refine vcIf.yes ?_ ?_; (focus (simp [hA2.not, hA2.eq, hA2.lt, hA2.le, hA2.cond, hA2.beq, hA2.orb, hL2.len, hL2.slen, hL2.sq]; done)); cbv) | (refine vcIf.no ?_ ?_; (focus (simp [hA2.not, hA2.eq, hA2.lt, hA2.le, hA2.cond, hA2.beq, hA2.orb, hL2.len, hL2.slen, hL2.sq]; done)); cbv) | fail)
        refine hcall2 _ _ _ _ _ (CallEv.lend [1, 2, 7, 8, 9] hvw rfl (.cons (.own 4 9 0 rfl) .nil) (coL rfl rfl rfl rfl rfl rfl rfl rfl rfl) ?_)
        rintro _ _ ⟨rfl, rfl⟩
        cbv
        refine hcall2 _ _ _ _ _ (CallEv.same hsm rfl ?_)
        rintro _ _ ⟨c0, hc2, rfl, rfl⟩
        obtain rfl : c0 = true := hc2.2 hww
        cbv
        refine hq2 _ ?_
        cbv
        repeat (first | (refine vcIf.yes ?_ ?_; (focus (simp [hA2.not, hA2.eq, hA2.lt, hA2.le, hA2.cond, hA2.beq, hA2.orb, hL2.len, hL2.slen, hL2.sq]; done)); cbv) | (refine vcIf.no ?_ ?_; (focus (simp [hA2.not, hA2.eq, hA2.lt, hA2.le, hA2.cond, hA2.beq, hA2.orb, hL2.len, hL2.slen, hL2.sq]; done)); cbv) | fail)
        refine hnx1 _ (OutX.wC (ConvW.pack [0, 1, 2, 7, 8, 9, 6] hB rfl) ⟨⟨i, c, an', ad', ⟨n', su', ro', af', d', xs', m', dn', rs', an', ad', an', ad', g', e', r', zv'⟩⟩, [], ⟨rfl, k1, hc, k3, k4, k5, k6⟩, rfl, (by repeat (first | exact trivial | refine And.intro rfl ?_)), rfl, rfl, rfl, ?_⟩)
        rw [hB]; exact Nat.zero_le _
    · rintro ⟨i', c, ba, bb, x⟩ ⟨rfl, k1, k2, k3, k4, k5, k6⟩
      simp only at k1 hi hi60
      refine VcPiece.ok eOk fOk ?_
      intro add1 sub1 mul1 quo1 rem1 band1 bor1 bxor1 bclr1 shl1 shr1 ieq1 ilt1 ile1 seq1 slt1 beq1 bnot1 orb1 bcond1 iwrap1 iof1 ssz1 hA1 cat1 sq1 sl1 imin1 imax1 smin1 smax1 len1 slen1 u81 hL1 op1 hop1 call1 hcall1 code1 hcode1 nx1 hnx1 ret1 hret1 ex1 hex1
      have hadd1 : add1 .i64 (Int.ofNat i') 1 = Int.ofNat (i' + 1) := by rw [hA1.add, IntWalk.i64_in _ (by simp only [Int.ofNat_eq_natCast]; omega)]; rfl
      cbv
      rw [hadd1]
      refine hnx1 _ (OutX.w ⟨⟨i' + 1, c, ba, bb, x⟩, [], ⟨?_, ?_, k2, k3, k4, k5, k6⟩, rfl, (by repeat (first | exact trivial | refine And.intro rfl ?_)), rfl, rfl, rfl, ?_⟩)
      · simp only; omega
      · simp only; omega
      · rw [hB]; exact Nat.zero_le _
  · exact fun s h => hret s h
  · rintro id st' ⟨rfl, hn⟩
    obtain ⟨n', f', o'⟩ := st'
    obtain rfl : n' = 157 := hn
    cbv
    exact hret _ (RetEv.ret eOk rfl rfl)
theorem councilKeeps_spec8 (L : List (Int × Int)) (hL0 : ∀ q ∈ L, i64r q.1 ∧ i64r q.2) (hLl : L.length < 4611686018427387904) (st : Stt) (hsf : st.fit) (hs8 : st.ch.length * 8 ≤ 140737488355328) (kp : Int) (hkp : i64r kp) (t : Nat) (ht : t ≤ 255) :
    FnL Try.prog 4 [.p (.sl (L.map fun q => baP q.1 q.2)), .p st.v, .p (.int .i64 kp), .p (.int .u8 (t : Int))] [] fun z own => z = .p (.bool true) := by
  have h := councilKeeps_spec L hL0 hLl st hsf hs8 kp hkp (UInt8.ofNat t)
  rwa [ofNat_toNat (by omega)] at h
end Go.Proofs.Ytnigonhkfpnodaa
