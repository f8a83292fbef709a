/- PastKeys, the walk. Conditions: on sizes. -/
import Derived.Test.YtdeolllpbflemaaLPk1
set_option maxRecDepth 100000
set_option maxHeartbeats 32000000
set_option linter.unusedSimpArgs false
set_option linter.unusedVariables false
namespace Go.Proofs.Ytdeolllpbflemaa
open Go Go.Lx
open Go.Sx (vcIf)

theorem pastKeys_spec (ps : List Pr) (hps : ps.length * 32 ≤ 67108864) (hpf : ∀ p ∈ ps, p.fit) (a : List Chg) (ha : a.length * 40 ≤ 67108864) (hfa : ∀ c ∈ a, c.fit) (lo hi key : List UInt8) :
    FnL Try.prog 7 [.p (.sl (prP ps)), .p (.sl (cP a)), .p (.agg [.str lo, .str hi]), .p (.str key)] [] fun r own => r = .p (.bool true) ∧ own = [] := by
  refine FnL.flat (R := fun r own => r = .p (.bool true)) ?_ (by rintro _ _ rfl; exact ⟨_, _, rfl, .refl _, rfl, rfl⟩)
  obtain ⟨ca, hca⟩ : ∃ ca, ca = cP a := ⟨_, rfl⟩
  obtain ⟨zs, hzs⟩ : ∃ zs, zs = prP ps := ⟨_, rfl⟩
  rw [← hca, ← hzs]
  have hFr := from_spec 3 ps (by omega) hpf zs hzs
  have hAd := fun us => add_spec 3 3 3 7 a (by omega) us [] 0 rfl (by decide) ca hca
  refine fn_of_vc eOk fOk fo7 Try.func7 rfl rfl rfl fun B hB => ?_
  intro add sub mul quo rem band bor bxor bclr shl shr ieq ilt ile seq slt beq bnot orb bcond iwrap iof ssz hA cat sq sl imin imax smin smax len slen u8 hL op hop call hcall code hcode ret hret
  cbv
  refine hcall _ _ _ _ _ (CallEv.same hFr rfl ?_)
  rintro _ _ (⟨h0, rfl, rfl⟩ | ⟨_, hsn, rfl, rfl⟩ | ⟨_, hsn, us, hus, rfl, rfl⟩)
  · exact absurd h0 (by decide)
  · cbv
    refine hcall _ _ _ _ _ (CallEv.pure awakeP_spec .nil ?_)
    rintro _ _ ⟨rfl, rfl⟩
    cbv
    repeat (first | (refine vcIf.yes ?_ ?_; (focus (simp [hA.not, hA.eq, hA.lt, hA.le, hA.cond, hA.beq, hA.orb, hL.len, hL.slen, hL.sq]; done)); cbv) | (refine vcIf.no ?_ ?_; (focus (simp [hA.not, hA.eq, hA.lt, hA.le, hA.cond, hA.beq, hA.orb, hL.len, hL.slen, hL.sq]; done)); cbv) | fail)
    refine hcall _ _ _ _ _ (CallEv.pure awakeP_spec .nil ?_)
    rintro _ _ ⟨rfl, rfl⟩
    cbv
    exact hret _ (RetEv.ret eOk rfl (by simp [hA.not, hA.eq, hA.lt, hA.le, hA.cond, hA.beq, hA.orb, hL.len, hL.slen, hL.sq, oneOf]))
  subst hus
  have hsr := sndP_srt hsn
  cbv
  refine hcall _ _ _ _ _ (CallEv.pure awakeP_spec .nil ?_)
  rintro _ _ ⟨rfl, rfl⟩
  cbv
  repeat (first | (refine vcIf.yes ?_ ?_; (focus (simp [hA.not, hA.eq, hA.lt, hA.le, hA.cond, hA.beq, hA.orb, hL.len, hL.slen, hL.sq]; done)); cbv) | (refine vcIf.no ?_ ?_; (focus (simp [hA.not, hA.eq, hA.lt, hA.le, hA.cond, hA.beq, hA.orb, hL.len, hL.slen, hL.sq]; done)); cbv) | fail)
  refine hcall _ _ _ _ _ (CallEv.lend [1, 2] (hAd _) rfl (.cons (.own 0 1 0 rfl) (.cons (.p _) (.cons (.p _) .nil))) (psL rfl rfl rfl rfl) ?_)
  rintro _ _ ⟨e1, he1, rfl, ⟨hne, rfl⟩ | ⟨rfl, ws, m1, hm1, hws, rfl⟩⟩
  · have hne' : ¬ (e1 : Int) = 0 := by omega
    cbv
    repeat (first | (refine vcIf.yes ?_ ?_; (focus (simp [hA.not, hA.eq, hA.lt, hA.le, hA.cond, hA.beq, hA.orb, hL.len, hL.slen, hL.sq, hne, hne']; done)); cbv) | (refine vcIf.no ?_ ?_; (focus (simp [hA.not, hA.eq, hA.lt, hA.le, hA.cond, hA.beq, hA.orb, hL.len, hL.slen, hL.sq, hne, hne']; done)); cbv) | fail)
    refine hcall _ _ _ _ _ (CallEv.pure awakeP_spec .nil ?_)
    rintro _ _ ⟨rfl, rfl⟩
    cbv
    exact hret _ (RetEv.ret eOk rfl (by simp [hA.not, hA.eq, hA.lt, hA.le, hA.cond, hA.beq, hA.orb, hL.len, hL.slen, hL.sq, oneOf]))
  obtain rfl : 1 = m1 := hm1.symm
  have hk1 := adE_ok he1 (by decide)
  have hwl : ws = layP [⟨7, a⟩] := by rw [hws, hca]; rfl
  have hxd : ws = (ws.drop 0).take 1 := by rw [hwl]; rfl
  clear he1 hws hAd hFr
  have hMa : a.length ≤ 1677721 := by omega
  have hLi := fun w => listW_spec 3 3 7 w lo hi 1073741824 ps hsr [⟨7, a⟩] 1677721 (by intro l hl; simp only [List.mem_cons, List.not_mem_nil, or_false] at hl; rcases hl with rfl; exact hMa) (by intro l hl; simp only [List.mem_cons, List.not_mem_nil, or_false] at hl; rcases hl with rfl; exact hk1) (by simp only [List.length_cons, List.length_nil]; omega) (by simp) us hzs ws hwl
  have hGt := fun w ky => getW_spec 3 3 7 w ps hsr (by omega) [⟨7, a⟩] (by intro l hl; simp only [List.mem_cons, List.not_mem_nil, or_false] at hl; rcases hl with rfl; exact ⟨Nat.lt_of_le_of_lt hMa (by decide), hfa⟩) (by simp) ky us hzs ws hwl
  have hWl : ∀ w, (whole ps [⟨7, a⟩] w).length ≤ 1073741824 := fun w => by
    have h1 := lays_take_len (ls := [⟨7, a⟩]) (M := 1677721) hsr (by intro l hl; simp only [List.mem_cons, List.not_mem_nil, or_false] at hl; rcases hl with rfl; exact hMa) (upto_le w [⟨7, a⟩])
    have h2 := Nat.mul_le_mul_right 1677721 (upto_le w [⟨7, a⟩])
    simp only [List.length_cons, List.length_nil] at h2
    unfold whole; omega
  have hpB : ∀ m, B.own0.length ≤ m := fun m => by rw [hB]; exact Nat.zero_le _
  cbv
  repeat (first | (refine vcIf.yes ?_ ?_; (focus (simp [hA.not, hA.eq, hA.lt, hA.le, hA.cond, hA.beq, hA.orb, hL.len, hL.slen, hL.sq]; done)); cbv) | (refine vcIf.no ?_ ?_; (focus (simp [hA.not, hA.eq, hA.lt, hA.le, hA.cond, hA.beq, hA.orb, hL.len, hL.slen, hL.sq]; done)); cbv) | fail)
  refine hcode _ _ _ (CodeEv.loop eOk fOk (ι := Nat) (fun s => [(3, .p (.str key)), (6, .own 0 0), (9, .own 1 0), (11, .p (.int .i64 (Int.ofNat s)))])
    (fun s => [.st 24 [.p (.str lo), .p (.str hi)], .st 64 [.p (.int .i64 3), .p (.sl us), .vw 2 2 0 1 none, .p (.int .i64 3), .p (.int .i64 7)], psA ws]) (fun s => 3 ≤ s ∧ s ≤ 8) (fun s => 8 - s) 3 ?_ ?_)
  · exact ⟨(by repeat (first | exact trivial | refine And.intro rfl ?_)), rfl, Nat.le_refl _, by decide⟩
  rintro v ⟨hv3, hv8⟩ rd hrd
  by_cases hv7 : v ≤ 7
  · have hkn : knw 3 7 (Int.ofNat v) = 0 := by unfold knw; rw [if_neg (by simp only [Int.ofNat_eq_natCast]; omega), if_neg (by simp only [Int.ofNat_eq_natCast]; omega)]
    refine Exists.elim (show ∃ W, W = whole ps [⟨7, a⟩] (Int.ofNat v) from ⟨_, rfl⟩) fun W hW => ?_
    have hWs : Srt W := by rw [hW]; exact lays_srt _ hsr
    have hWn : W.length ≤ (1073741824 : Int).toNat := by rw [hW]; exact hWl _
    refine Exists.elim (show ∃ X, X = lst W ⟨lo, hi⟩ 1073741824 from ⟨_, rfl⟩) fun X hX => ?_
    have hXs : Srt X := by rw [hX]; exact lst_srt hWs _ _
    have hXm : ∀ (i : Nat) p, X[i]? = some p → lk W p.key = some p.val ∧ hs ⟨lo, hi⟩ p.key = true := fun i p h => by
      rw [hX] at h
      have h1 := lst_in (List.mem_of_getElem? h)
      exact ⟨lk_in hWs h1.1, h1.2⟩
    have hXn : X.length < 281474976710656 := by
      rw [hX]; exact Nat.lt_of_le_of_lt (List.length_take_le _ _) (by decide)
    have hfin : ∀ f, FndK X key X.length f → (f = 1 ∧ (lk W key).isSome = true ∧ hs ⟨lo, hi⟩ key = true) ∨ (f = 0 ∧ ¬ ((lk W key).isSome = true ∧ hs ⟨lo, hi⟩ key = true)) := fun f h => by
      rw [hX] at h; exact FndK.fin hWs hWn h
    have hL9 := (hLi (Int.ofNat v)).mono (R' := fun r own => ∃ (us : List PV) (m : Nat), us = prP X ∧ m = us.length ∧ r = .tup [.vw 0 2 0 m none, .p (.int .i64 0)] ∧ own = [.arr 45 2 us]) fun r own ⟨e, us, m, a1, a2, a3, a4, a5⟩ => by
      unfold liE at a1
      unfold liP at a2
      rw [hkn] at a1 a2
      rw [if_pos ⟨rfl, by decide⟩, ← hW, ← hX] at a2
      rw [if_neg (by simp), if_neg (by decide)] at a1
      subst a1
      exact ⟨us, m, a2, a3, a4, a5⟩
    have hG9 := fun ky => (hGt (Int.ofNat v) ky).mono (R' := fun r own => ∃ (s : List UInt8) (b : Bool), s = (lk W ky).getD [] ∧ b = (lk W ky).isSome ∧ r = .p (.tup [.str s, .bool b, .int .i64 0]) ∧ own = []) fun r own ⟨s, b, e, a1, a2, a3, a4, a5⟩ => by
      unfold gtO at a2 a3
      rw [hkn] at a1
      rw [hkn, if_pos rfl, ← hW] at a2 a3
      subst a1
      exact ⟨s, b, a2, a3, a4, a5⟩
    have hGk := hG9 key
    clear hLi hGt hWl hX hW hWs hWn hkn
    obtain ⟨P, hP⟩ : ∃ P, P = X.length := ⟨_, rfl⟩
    rw [← hP] at hfin hXn
    have hmu : 8 - (v + 1) < 8 - v := by omega
    intro add1 sub1 mul1 quo1 rem1 band1 bor1 bxor1 bclr1 shl1 shr1 ieq1 ilt1 ile1 seq1 slt1 beq1 bnot1 orb1 bcond1 iwrap1 iof1 ssz1 hA1 cat1 sq1 sl1 imin1 imax1 smin1 smax1 len1 slen1 u81 hL1 op1 hop1 call1 hcall1 code1 hcode1
    have hinc : add1 .i64 (Int.ofNat v) 1 = Int.ofNat (v + 1) := by rw [hA1.add]; exact i64_nat (by simp) (by omega)
    cbv
    refine vcIf.yes (by first | (simp [hA1.not, hA1.eq, hA1.lt, hA1.le, hA1.cond, hA1.beq, hA1.orb, hL1.len, hL1.slen, hL1.sq, hv7]; done) | (simp only [hv7]; simp [hA1.not, hA1.eq, hA1.lt, hA1.le, hA1.cond, hA1.beq, hA1.orb, hL1.len, hL1.slen, hL1.sq, hv7]; done) | (simp [hA1.not, hA1.eq, hA1.lt, hA1.le, hA1.cond, hA1.beq, hA1.orb, hL1.len, hL1.slen, hL1.sq, hv7]; omega) | (simp only [hv7]; simp [hA1.not, hA1.eq, hA1.lt, hA1.le, hA1.cond, hA1.beq, hA1.orb, hL1.len, hL1.slen, hL1.sq, hv7]; omega)) ?_
    cbv
    refine hcall1 _ _ _ _ _ (CallEv.frzR (CallEv.shown [] [1, 2] hL9 rfl (.cons (psT (by decide) (by decide) rfl rfl _ hxd) (.cons (.p _) (.cons (.p _) (.cons (.p _) .nil)))) trivial ?_))
    rintro _ _ ⟨u1, k1, hu1, hk1', rfl, rfl⟩
    refine ⟨flat_l1 (e := 0), flat_l2 hu1, 3, _, _, _, rfl, hpB _, fun g1 hg1 => ?_⟩
    have hz1 : g1 0 k1 = prP X := by rw [hg1, List.drop_zero, hk1', List.take_length, hu1]
    have hXl : (g1 0 k1).length = P := by rw [hz1, prP_length, hP]
    clear hg1
    cbv
    refine hcall1 _ _ _ _ _ (CallEv.shown [] [1, 2] hGk rfl (.cons (psT (by decide) (by decide) rfl rfl _ hxd) (.cons (.p _) (.cons (.p _) .nil))) trivial ?_)
    rintro _ _ ⟨s1, b1, hs1, hb1, rfl, rfl⟩
    refine ⟨flat_get _ _ _, (by intro r hr; cases hr), ?_⟩
    cbv
    refine hcode1 _ _ _ (CodeEv.loop eOk fOk (ι := Nat × Nat) (fun s => [(3, .p (.str key)), (6, .own 0 0), (9, .own 1 0), (11, .p (.int .i64 (Int.ofNat v))), (12, .p (.sl (g1 0 k1))), (13, .p (.int .i64 0)), (14, .p (.str s1)), (15, .p (.bool b1)), (16, .p (.int .i64 0)), (17, .p (.int .i64 (Int.ofNat s.2))), (18, .p (.int .i64 (Int.ofNat s.1)))])
      (fun s => [.st 24 [.p (.str lo), .p (.str hi)], .st 64 [.p (.int .i64 3), .p (.sl us), .vw 2 2 0 1 none, .p (.int .i64 3), .p (.int .i64 7)], psA ws, .dead]) (fun s => s.1 ≤ P ∧ FndK X key s.1 s.2 ∧ s.2 ≤ 1) (fun s => P - s.1) (0, 0) ?_ ?_)
    · exact ⟨(by repeat (first | exact trivial | refine And.intro rfl ?_)), rfl, Nat.zero_le _, FndK.zero _ _, Nat.zero_le _⟩
    rintro ⟨i, f⟩ ⟨hiP, hfn, hf1⟩ rd2 hrd2
    dsimp only at hiP hfn hf1
    by_cases hiP' : i < P
    · refine Exists.elim (show ∃ p, X[i]? = some p from ⟨X[i]'(by omega), List.getElem?_eq_getElem (by omega)⟩) fun p hp => ?_
      have hxp := hXm i p hp
      have hzp : (g1 0 k1)[i]? = some (.agg [.str p.key, .str p.val]) := by rw [hz1]; exact prP_get hp
      have hGp := (hG9 p.key).mono (R' := fun r own => r = .p (.tup [.str p.val, .bool true, .int .i64 0]) ∧ own = []) fun r own ⟨s, b, a1, a2, a3, a4⟩ => by
        rw [hxp.1] at a1 a2
        cases a1; cases a2; exact ⟨a3, a4⟩
      have hHs := rhas_spec lo hi p.key
      rw [show (!(bl p.key lo) && bl p.key hi) = true from hxp.2] at hHs
      have hkv : p.key = key → p.val = s1 := fun h => by rw [hs1, ← h, hxp.1]; rfl
      have hmu2 : P - (i + 1) < P - i := by omega
      clear hfin hs1 hb1 hL9 hGk hG9
      by_cases hke : p.key = key
      · obtain ⟨rfl, hfn'⟩ := hfn.hit hXs hp hke
        have hve := hkv hke
        intro add2 sub2 mul2 quo2 rem2 band2 bor2 bxor2 bclr2 shl2 shr2 ieq2 ilt2 ile2 seq2 slt2 beq2 bnot2 orb2 bcond2 iwrap2 iof2 ssz2 hA2 cat2 sq2 sl2 imin2 imax2 smin2 smax2 len2 slen2 u82 hL2 op2 hop2 call2 hcall2 code2 hcode2
        have hinc2 : add2 .i64 (Int.ofNat i) 1 = Int.ofNat (i + 1) := by rw [hA2.add]; exact i64_nat (by simp) (by omega)
        have hinc3 : add2 .i64 (Int.ofNat 0) 1 = Int.ofNat (0 + 1) := by rw [hA2.add]; exact i64_nat (by simp) (by omega)
        cbv
        refine vcIf.yes (by first | (simp [hA2.not, hA2.eq, hA2.lt, hA2.le, hA2.cond, hA2.beq, hA2.orb, hL2.len, hL2.slen, hL2.sq, hXl, hiP']; done) | (simp only [hXl, hiP']; simp [hA2.not, hA2.eq, hA2.lt, hA2.le, hA2.cond, hA2.beq, hA2.orb, hL2.len, hL2.slen, hL2.sq, hXl, hiP']; done) | (simp [hA2.not, hA2.eq, hA2.lt, hA2.le, hA2.cond, hA2.beq, hA2.orb, hL2.len, hL2.slen, hL2.sq, hXl, hiP']; omega) | (simp only [hXl, hiP']; simp [hA2.not, hA2.eq, hA2.lt, hA2.le, hA2.cond, hA2.beq, hA2.orb, hL2.len, hL2.slen, hL2.sq, hXl, hiP']; omega)) ?_
        cbv
        refine ⟨i, _, rfl, hzp, rfl, ?_⟩
        cbv
        repeat (first | (refine vcIf.yes ?_ ?_; (focus (simp [hA2.not, hA2.eq, hA2.lt, hA2.le, hA2.cond, hA2.beq, hA2.orb, hL2.len, hL2.slen, hL2.sq, hke, hve]; done)); cbv) | (refine vcIf.no ?_ ?_; (focus (simp [hA2.not, hA2.eq, hA2.lt, hA2.le, hA2.cond, hA2.beq, hA2.orb, hL2.len, hL2.slen, hL2.sq, hke, hve]; done)); cbv) | fail)
        refine ⟨i, _, rfl, hzp, rfl, ?_⟩
        cbv
        repeat (first | (refine vcIf.yes ?_ ?_; (focus (simp [hA2.not, hA2.eq, hA2.lt, hA2.le, hA2.cond, hA2.beq, hA2.orb, hL2.len, hL2.slen, hL2.sq, hke, hve]; done)); cbv) | (refine vcIf.no ?_ ?_; (focus (simp [hA2.not, hA2.eq, hA2.lt, hA2.le, hA2.cond, hA2.beq, hA2.orb, hL2.len, hL2.slen, hL2.sq, hke, hve]; done)); cbv) | fail)
        refine ⟨i, _, rfl, hzp, rfl, ?_⟩
        cbv
        refine hcall2 _ _ _ _ _ (CallEv.shown [] [1, 2] hGp rfl (.cons (psT (by decide) (by decide) rfl rfl _ hxd) (.cons (.p _) (.cons (.p _) .nil))) trivial ?_)
        rintro _ _ ⟨rfl, rfl⟩
        refine ⟨flat_get _ _ _, (by intro r hr; cases hr), ?_⟩
        cbv
        refine hcode2 _ _ _ (CodeEv.drawT eOk fOk (by kernel_rfl) noX (.so 0 (.so 1 (.so 2 (.so 3 (.so 4 (.so 5 (.so 6 (.rd 7 (.rd 8 (.so 9 (.so 10 (.so 11 (.so 12 (.so 13 (.so 14 (.so 15 (.rd 16 (.rd 17 (.so 18 (.so 19 (.so 20 (.so 21 (.acts (.cons 22 (.so 23 (.so 24 (.so 25 (.so 26 (.so 27 (.so 28 (.rd 29 (.rd 30 (.rd 31 (.rd 32 (.rd 33 (.rd 34 (.so 35 (.so 36 (.so 37 (.so 38 (.so 39 (.so 40 (.so 41 (.so 42 (.done))))))))))))))))))))) (.nil))))))))))))))))))))))))) (by kernel_rfl) (by kernel_rfl) ?_)
        intro add3 sub3 mul3 quo3 rem3 band3 bor3 bxor3 bclr3 shl3 shr3 ieq3 ilt3 ile3 seq3 slt3 beq3 bnot3 orb3 bcond3 iwrap3 iof3 ssz3 hA3 cat3 sq3 sl3 imin3 imax3 smin3 smax3 len3 slen3 u83 hL3 op3 hop3 call3 hcall3 code3 hcode3 q3 hq3
        have hsqv : sq3 p.val p.val = true := by rw [hL3.sq]; exact decide_eq_true rfl
        cbv
        repeat (first | (refine vcIf.yes ?_ ?_; (focus (simp [hA3.not, hA3.eq, hA3.lt, hA3.le, hA3.cond, hA3.beq, hA3.orb, hL3.len, hL3.slen, hL3.sq, hsqv]; done)); cbv) | (refine vcIf.no ?_ ?_; (focus (simp [hA3.not, hA3.eq, hA3.lt, hA3.le, hA3.cond, hA3.beq, hA3.orb, hL3.len, hL3.slen, hL3.sq, hsqv]; done)); cbv) | fail)
        refine ⟨i, _, rfl, hzp, rfl, ?_⟩
        cbv
        repeat (first | (refine vcIf.yes ?_ ?_; (focus (simp [hA3.not, hA3.eq, hA3.lt, hA3.le, hA3.cond, hA3.beq, hA3.orb, hL3.len, hL3.slen, hL3.sq, hsqv]; done)); cbv) | (refine vcIf.no ?_ ?_; (focus (simp [hA3.not, hA3.eq, hA3.lt, hA3.le, hA3.cond, hA3.beq, hA3.orb, hL3.len, hL3.slen, hL3.sq, hsqv]; done)); cbv) | fail)
        refine ⟨i, _, rfl, hzp, rfl, ?_⟩
        cbv
        refine hcall3 _ _ _ _ _ (CallEv.same hHs rfl ?_)
        rintro _ _ ⟨rfl, rfl⟩
        cbv
        by_cases hi0 : i = 0
        · have hi0' : ¬ 0 < i := by omega
          repeat (first | (refine vcIf.yes ?_ ?_; (focus (simp [hA3.not, hA3.eq, hA3.lt, hA3.le, hA3.cond, hA3.beq, hA3.orb, hL3.len, hL3.slen, hL3.sq, hi0']; done)); cbv) | (refine vcIf.no ?_ ?_; (focus (simp [hA3.not, hA3.eq, hA3.lt, hA3.le, hA3.cond, hA3.beq, hA3.orb, hL3.len, hL3.slen, hL3.sq, hi0']; done)); cbv) | fail)
          refine hq3 _ ?_
          cbv
          repeat (first | (refine vcIf.yes ?_ ?_; (focus (simp [hA3.not, hA3.eq, hA3.lt, hA3.le, hA3.cond, hA3.beq, hA3.orb, hL3.len, hL3.slen, hL3.sq, hsqv]; done)); cbv) | (refine vcIf.no ?_ ?_; (focus (simp [hA3.not, hA3.eq, hA3.lt, hA3.le, hA3.cond, hA3.beq, hA3.orb, hL3.len, hL3.slen, hL3.sq, hsqv]; done)); cbv) | fail)
          refine hrd2 _ ⟨(i + 1, (0 + 1)), _, hmu2, ⟨by omega, hfn', by omega⟩, rfl, ⟨rfl, rfl, rfl, rfl, rfl, rfl, rfl, rfl, rfl, ?_, ?_, trivial⟩, rfl, rfl, rfl, hpB _⟩
          · first | rfl | (show some (Go.Lx.V.p (.int .i64 _)) = _; rw [hinc3])
          · show some (Go.Lx.V.p (.int .i64 _)) = _
            rw [hinc2]
        · have hi0' : 0 < i := by omega
          obtain ⟨q, hq⟩ : ∃ q, X[i - 1]? = some q := ⟨X[i - 1]'(by omega), List.getElem?_eq_getElem (by omega)⟩
          have hzq : (g1 0 k1)[i - 1]? = some (.agg [.str q.key, .str q.val]) := by rw [hz1]; exact prP_get hq
          have hqp : bl q.key p.key = true := srt_lt hXs hq hp (by omega)
          have hsub : sub3 .i64 (Int.ofNat i) 1 = ((i - 1 : Nat) : Int) := by rw [hA3.sub]; exact i64_nat (by simp only [Int.ofNat_eq_natCast]; omega) (by omega)
          repeat (first | (refine vcIf.yes ?_ ?_; (focus (simp [hA3.not, hA3.eq, hA3.lt, hA3.le, hA3.cond, hA3.beq, hA3.orb, hL3.len, hL3.slen, hL3.sq, hi0']; done)); cbv) | (refine vcIf.no ?_ ?_; (focus (simp [hA3.not, hA3.eq, hA3.lt, hA3.le, hA3.cond, hA3.beq, hA3.orb, hL3.len, hL3.slen, hL3.sq, hi0']; done)); cbv) | fail)
          refine ⟨i, _, rfl, hzp, rfl, ?_⟩
          cbv
          have hle : orb3 (sl3 p.key q.key) (sq3 p.key q.key) = false := by
            rw [hA3.orb, hL3.sl, hL3.sq, decide_eq_false (fun h => bl_ne hqp h.symm)]
            show (bl p.key q.key || false) = false
            rw [bl_asymm hqp]; rfl
          refine ⟨i - 1, _, hsub, hzq, rfl, ?_⟩
          cbv
          repeat (first | (refine vcIf.yes ?_ ?_; (focus (simp [hA3.not, hA3.eq, hA3.lt, hA3.le, hA3.cond, hA3.beq, hA3.orb, hL3.len, hL3.slen, hL3.sq, hle]; done)); cbv) | (refine vcIf.no ?_ ?_; (focus (simp [hA3.not, hA3.eq, hA3.lt, hA3.le, hA3.cond, hA3.beq, hA3.orb, hL3.len, hL3.slen, hL3.sq, hle]; done)); cbv) | fail)
          refine hq3 _ ?_
          cbv
          refine vcIf.no (by simp only [hA3.cond]; simp; exact hle) ?_
          cbv
          refine hrd2 _ ⟨(i + 1, (0 + 1)), _, hmu2, ⟨by omega, hfn', by omega⟩, rfl, ⟨rfl, rfl, rfl, rfl, rfl, rfl, rfl, rfl, rfl, ?_, ?_, trivial⟩, rfl, rfl, rfl, hpB _⟩
          · first | rfl | (show some (Go.Lx.V.p (.int .i64 _)) = _; rw [hinc3])
          · show some (Go.Lx.V.p (.int .i64 _)) = _
            rw [hinc2]
      · have hfn' := hfn.skip hp hke
        intro add2 sub2 mul2 quo2 rem2 band2 bor2 bxor2 bclr2 shl2 shr2 ieq2 ilt2 ile2 seq2 slt2 beq2 bnot2 orb2 bcond2 iwrap2 iof2 ssz2 hA2 cat2 sq2 sl2 imin2 imax2 smin2 smax2 len2 slen2 u82 hL2 op2 hop2 call2 hcall2 code2 hcode2
        have hinc2 : add2 .i64 (Int.ofNat i) 1 = Int.ofNat (i + 1) := by rw [hA2.add]; exact i64_nat (by simp) (by omega)
        cbv
        refine vcIf.yes (by first | (simp [hA2.not, hA2.eq, hA2.lt, hA2.le, hA2.cond, hA2.beq, hA2.orb, hL2.len, hL2.slen, hL2.sq, hXl, hiP']; done) | (simp only [hXl, hiP']; simp [hA2.not, hA2.eq, hA2.lt, hA2.le, hA2.cond, hA2.beq, hA2.orb, hL2.len, hL2.slen, hL2.sq, hXl, hiP']; done) | (simp [hA2.not, hA2.eq, hA2.lt, hA2.le, hA2.cond, hA2.beq, hA2.orb, hL2.len, hL2.slen, hL2.sq, hXl, hiP']; omega) | (simp only [hXl, hiP']; simp [hA2.not, hA2.eq, hA2.lt, hA2.le, hA2.cond, hA2.beq, hA2.orb, hL2.len, hL2.slen, hL2.sq, hXl, hiP']; omega)) ?_
        cbv
        refine ⟨i, _, rfl, hzp, rfl, ?_⟩
        cbv
        repeat (first | (refine vcIf.yes ?_ ?_; (focus (simp [hA2.not, hA2.eq, hA2.lt, hA2.le, hA2.cond, hA2.beq, hA2.orb, hL2.len, hL2.slen, hL2.sq, hke]; done)); cbv) | (refine vcIf.no ?_ ?_; (focus (simp [hA2.not, hA2.eq, hA2.lt, hA2.le, hA2.cond, hA2.beq, hA2.orb, hL2.len, hL2.slen, hL2.sq, hke]; done)); cbv) | fail)
        refine ⟨i, _, rfl, hzp, rfl, ?_⟩
        cbv
        refine hcall2 _ _ _ _ _ (CallEv.shown [] [1, 2] hGp rfl (.cons (psT (by decide) (by decide) rfl rfl _ hxd) (.cons (.p _) (.cons (.p _) .nil))) trivial ?_)
        rintro _ _ ⟨rfl, rfl⟩
        refine ⟨flat_get _ _ _, (by intro r hr; cases hr), ?_⟩
        cbv
        refine hcode2 _ _ _ (CodeEv.drawT eOk fOk (by kernel_rfl) noX (.so 0 (.so 1 (.so 2 (.so 3 (.so 4 (.so 5 (.so 6 (.rd 7 (.rd 8 (.so 9 (.so 10 (.so 11 (.so 12 (.so 13 (.so 14 (.so 15 (.rd 16 (.rd 17 (.so 18 (.so 19 (.so 20 (.so 21 (.acts (.cons 22 (.so 23 (.so 24 (.so 25 (.so 26 (.so 27 (.so 28 (.rd 29 (.rd 30 (.rd 31 (.rd 32 (.rd 33 (.rd 34 (.so 35 (.so 36 (.so 37 (.so 38 (.so 39 (.so 40 (.so 41 (.so 42 (.done))))))))))))))))))))) (.nil))))))))))))))))))))))))) (by kernel_rfl) (by kernel_rfl) ?_)
        intro add3 sub3 mul3 quo3 rem3 band3 bor3 bxor3 bclr3 shl3 shr3 ieq3 ilt3 ile3 seq3 slt3 beq3 bnot3 orb3 bcond3 iwrap3 iof3 ssz3 hA3 cat3 sq3 sl3 imin3 imax3 smin3 smax3 len3 slen3 u83 hL3 op3 hop3 call3 hcall3 code3 hcode3 q3 hq3
        have hsqv : sq3 p.val p.val = true := by rw [hL3.sq]; exact decide_eq_true rfl
        cbv
        repeat (first | (refine vcIf.yes ?_ ?_; (focus (simp [hA3.not, hA3.eq, hA3.lt, hA3.le, hA3.cond, hA3.beq, hA3.orb, hL3.len, hL3.slen, hL3.sq, hsqv]; done)); cbv) | (refine vcIf.no ?_ ?_; (focus (simp [hA3.not, hA3.eq, hA3.lt, hA3.le, hA3.cond, hA3.beq, hA3.orb, hL3.len, hL3.slen, hL3.sq, hsqv]; done)); cbv) | fail)
        refine ⟨i, _, rfl, hzp, rfl, ?_⟩
        cbv
        repeat (first | (refine vcIf.yes ?_ ?_; (focus (simp [hA3.not, hA3.eq, hA3.lt, hA3.le, hA3.cond, hA3.beq, hA3.orb, hL3.len, hL3.slen, hL3.sq, hsqv]; done)); cbv) | (refine vcIf.no ?_ ?_; (focus (simp [hA3.not, hA3.eq, hA3.lt, hA3.le, hA3.cond, hA3.beq, hA3.orb, hL3.len, hL3.slen, hL3.sq, hsqv]; done)); cbv) | fail)
        refine ⟨i, _, rfl, hzp, rfl, ?_⟩
        cbv
        refine hcall3 _ _ _ _ _ (CallEv.same hHs rfl ?_)
        rintro _ _ ⟨rfl, rfl⟩
        cbv
        by_cases hi0 : i = 0
        · have hi0' : ¬ 0 < i := by omega
          repeat (first | (refine vcIf.yes ?_ ?_; (focus (simp [hA3.not, hA3.eq, hA3.lt, hA3.le, hA3.cond, hA3.beq, hA3.orb, hL3.len, hL3.slen, hL3.sq, hi0']; done)); cbv) | (refine vcIf.no ?_ ?_; (focus (simp [hA3.not, hA3.eq, hA3.lt, hA3.le, hA3.cond, hA3.beq, hA3.orb, hL3.len, hL3.slen, hL3.sq, hi0']; done)); cbv) | fail)
          refine hq3 _ ?_
          cbv
          repeat (first | (refine vcIf.yes ?_ ?_; (focus (simp [hA3.not, hA3.eq, hA3.lt, hA3.le, hA3.cond, hA3.beq, hA3.orb, hL3.len, hL3.slen, hL3.sq, hsqv]; done)); cbv) | (refine vcIf.no ?_ ?_; (focus (simp [hA3.not, hA3.eq, hA3.lt, hA3.le, hA3.cond, hA3.beq, hA3.orb, hL3.len, hL3.slen, hL3.sq, hsqv]; done)); cbv) | fail)
          refine hrd2 _ ⟨(i + 1, f), _, hmu2, ⟨by omega, hfn', by omega⟩, rfl, ⟨rfl, rfl, rfl, rfl, rfl, rfl, rfl, rfl, rfl, ?_, ?_, trivial⟩, rfl, rfl, rfl, hpB _⟩
          · first | rfl | (show some (Go.Lx.V.p (.int .i64 _)) = _; rw [hinc2])
          · show some (Go.Lx.V.p (.int .i64 _)) = _
            rw [hinc2]
        · have hi0' : 0 < i := by omega
          obtain ⟨q, hq⟩ : ∃ q, X[i - 1]? = some q := ⟨X[i - 1]'(by omega), List.getElem?_eq_getElem (by omega)⟩
          have hzq : (g1 0 k1)[i - 1]? = some (.agg [.str q.key, .str q.val]) := by rw [hz1]; exact prP_get hq
          have hqp : bl q.key p.key = true := srt_lt hXs hq hp (by omega)
          have hsub : sub3 .i64 (Int.ofNat i) 1 = ((i - 1 : Nat) : Int) := by rw [hA3.sub]; exact i64_nat (by simp only [Int.ofNat_eq_natCast]; omega) (by omega)
          repeat (first | (refine vcIf.yes ?_ ?_; (focus (simp [hA3.not, hA3.eq, hA3.lt, hA3.le, hA3.cond, hA3.beq, hA3.orb, hL3.len, hL3.slen, hL3.sq, hi0']; done)); cbv) | (refine vcIf.no ?_ ?_; (focus (simp [hA3.not, hA3.eq, hA3.lt, hA3.le, hA3.cond, hA3.beq, hA3.orb, hL3.len, hL3.slen, hL3.sq, hi0']; done)); cbv) | fail)
          refine ⟨i, _, rfl, hzp, rfl, ?_⟩
          cbv
          have hle : orb3 (sl3 p.key q.key) (sq3 p.key q.key) = false := by
            rw [hA3.orb, hL3.sl, hL3.sq, decide_eq_false (fun h => bl_ne hqp h.symm)]
            show (bl p.key q.key || false) = false
            rw [bl_asymm hqp]; rfl
          refine ⟨i - 1, _, hsub, hzq, rfl, ?_⟩
          cbv
          repeat (first | (refine vcIf.yes ?_ ?_; (focus (simp [hA3.not, hA3.eq, hA3.lt, hA3.le, hA3.cond, hA3.beq, hA3.orb, hL3.len, hL3.slen, hL3.sq, hle]; done)); cbv) | (refine vcIf.no ?_ ?_; (focus (simp [hA3.not, hA3.eq, hA3.lt, hA3.le, hA3.cond, hA3.beq, hA3.orb, hL3.len, hL3.slen, hL3.sq, hle]; done)); cbv) | fail)
          refine hq3 _ ?_
          cbv
          refine vcIf.no (by simp only [hA3.cond]; simp; exact hle) ?_
          cbv
          refine hrd2 _ ⟨(i + 1, f), _, hmu2, ⟨by omega, hfn', by omega⟩, rfl, ⟨rfl, rfl, rfl, rfl, rfl, rfl, rfl, rfl, rfl, ?_, ?_, trivial⟩, rfl, rfl, rfl, hpB _⟩
          · first | rfl | (show some (Go.Lx.V.p (.int .i64 _)) = _; rw [hinc2])
          · show some (Go.Lx.V.p (.int .i64 _)) = _
            rw [hinc2]
    · obtain rfl : i = P := by omega
      have hHk := rhas_spec lo hi key
      replace hfin := hfin f hfn
      rw [← hb1] at hfin
      refine Exists.elim (show ∃ hh, hh = (!(bl key lo) && bl key hi) from ⟨_, rfl⟩) fun hh hhe => ?_
      rw [← hhe] at hHk
      replace hfin : (f = 1 ∧ b1 = true ∧ hh = true) ∨ (f = 0 ∧ ¬ (b1 = true ∧ hh = true)) := by rw [hhe]; exact hfin
      clear hs1 hb1 hG9 hGk hXm
      rcases hfin with ⟨rfl, rfl, rfl⟩ | ⟨rfl, hbh⟩
      · intro add2 sub2 mul2 quo2 rem2 band2 bor2 bxor2 bclr2 shl2 shr2 ieq2 ilt2 ile2 seq2 slt2 beq2 bnot2 orb2 bcond2 iwrap2 iof2 ssz2 hA2 cat2 sq2 sl2 imin2 imax2 smin2 smax2 len2 slen2 u82 hL2 op2 hop2 call2 hcall2 code2 hcode2
        cbv
        refine vcIf.no (by first | (simp [hA2.not, hA2.eq, hA2.lt, hA2.le, hA2.cond, hA2.beq, hA2.orb, hL2.len, hL2.slen, hL2.sq, hXl]; done) | (simp only [hXl]; simp [hA2.not, hA2.eq, hA2.lt, hA2.le, hA2.cond, hA2.beq, hA2.orb, hL2.len, hL2.slen, hL2.sq, hXl]; done) | (simp [hA2.not, hA2.eq, hA2.lt, hA2.le, hA2.cond, hA2.beq, hA2.orb, hL2.len, hL2.slen, hL2.sq, hXl]; omega) | (simp only [hXl]; simp [hA2.not, hA2.eq, hA2.lt, hA2.le, hA2.cond, hA2.beq, hA2.orb, hL2.len, hL2.slen, hL2.sq, hXl]; omega)) ?_
        cbv
        repeat (first | (refine vcIf.yes ?_ ?_; (focus (simp [hA1.not, hA1.eq, hA1.lt, hA1.le, hA1.cond, hA1.beq, hA1.orb, hL1.len, hL1.slen, hL1.sq]; done)); cbv) | (refine vcIf.no ?_ ?_; (focus (simp [hA1.not, hA1.eq, hA1.lt, hA1.le, hA1.cond, hA1.beq, hA1.orb, hL1.len, hL1.slen, hL1.sq]; done)); cbv) | fail)
        refine hcall1 _ _ _ _ _ (CallEv.same hHk rfl ?_)
        rintro _ _ ⟨rfl, rfl⟩
        cbv
        repeat (first | (refine vcIf.yes ?_ ?_; (focus (simp [hA1.not, hA1.eq, hA1.lt, hA1.le, hA1.cond, hA1.beq, hA1.orb, hL1.len, hL1.slen, hL1.sq]; done)); cbv) | (refine vcIf.no ?_ ?_; (focus (simp [hA1.not, hA1.eq, hA1.lt, hA1.le, hA1.cond, hA1.beq, hA1.orb, hL1.len, hL1.slen, hL1.sq]; done)); cbv) | fail)
        refine hrd _ ⟨v + 1, _, hmu, ⟨by omega, by omega⟩, rfl, ⟨rfl, rfl, rfl, ?_, trivial⟩, rfl, rfl, rfl, hpB _⟩
        show some (Go.Lx.V.p (.int .i64 _)) = _
        rw [hinc]
      · by_cases hb : b1 = true
        · obtain rfl := hb
          have hf : hh = false := by
            cases hh
            · rfl
            · exact absurd ⟨rfl, rfl⟩ hbh
          subst hf
          intro add2 sub2 mul2 quo2 rem2 band2 bor2 bxor2 bclr2 shl2 shr2 ieq2 ilt2 ile2 seq2 slt2 beq2 bnot2 orb2 bcond2 iwrap2 iof2 ssz2 hA2 cat2 sq2 sl2 imin2 imax2 smin2 smax2 len2 slen2 u82 hL2 op2 hop2 call2 hcall2 code2 hcode2
          cbv
          refine vcIf.no (by first | (simp [hA2.not, hA2.eq, hA2.lt, hA2.le, hA2.cond, hA2.beq, hA2.orb, hL2.len, hL2.slen, hL2.sq, hXl]; done) | (simp only [hXl]; simp [hA2.not, hA2.eq, hA2.lt, hA2.le, hA2.cond, hA2.beq, hA2.orb, hL2.len, hL2.slen, hL2.sq, hXl]; done) | (simp [hA2.not, hA2.eq, hA2.lt, hA2.le, hA2.cond, hA2.beq, hA2.orb, hL2.len, hL2.slen, hL2.sq, hXl]; omega) | (simp only [hXl]; simp [hA2.not, hA2.eq, hA2.lt, hA2.le, hA2.cond, hA2.beq, hA2.orb, hL2.len, hL2.slen, hL2.sq, hXl]; omega)) ?_
          cbv
          repeat (first | (refine vcIf.yes ?_ ?_; (focus (simp [hA1.not, hA1.eq, hA1.lt, hA1.le, hA1.cond, hA1.beq, hA1.orb, hL1.len, hL1.slen, hL1.sq]; done)); cbv) | (refine vcIf.no ?_ ?_; (focus (simp [hA1.not, hA1.eq, hA1.lt, hA1.le, hA1.cond, hA1.beq, hA1.orb, hL1.len, hL1.slen, hL1.sq]; done)); cbv) | fail)
          refine hcall1 _ _ _ _ _ (CallEv.same hHk rfl ?_)
          rintro _ _ ⟨rfl, rfl⟩
          cbv
          repeat (first | (refine vcIf.yes ?_ ?_; (focus (simp [hA1.not, hA1.eq, hA1.lt, hA1.le, hA1.cond, hA1.beq, hA1.orb, hL1.len, hL1.slen, hL1.sq]; done)); cbv) | (refine vcIf.no ?_ ?_; (focus (simp [hA1.not, hA1.eq, hA1.lt, hA1.le, hA1.cond, hA1.beq, hA1.orb, hL1.len, hL1.slen, hL1.sq]; done)); cbv) | fail)
          refine hrd _ ⟨v + 1, _, hmu, ⟨by omega, by omega⟩, rfl, ⟨rfl, rfl, rfl, ?_, trivial⟩, rfl, rfl, rfl, hpB _⟩
          show some (Go.Lx.V.p (.int .i64 _)) = _
          rw [hinc]
        · obtain rfl : b1 = false := by cases b1 <;> simp at hb ⊢
          intro add2 sub2 mul2 quo2 rem2 band2 bor2 bxor2 bclr2 shl2 shr2 ieq2 ilt2 ile2 seq2 slt2 beq2 bnot2 orb2 bcond2 iwrap2 iof2 ssz2 hA2 cat2 sq2 sl2 imin2 imax2 smin2 smax2 len2 slen2 u82 hL2 op2 hop2 call2 hcall2 code2 hcode2
          cbv
          refine vcIf.no (by first | (simp [hA2.not, hA2.eq, hA2.lt, hA2.le, hA2.cond, hA2.beq, hA2.orb, hL2.len, hL2.slen, hL2.sq, hXl]; done) | (simp only [hXl]; simp [hA2.not, hA2.eq, hA2.lt, hA2.le, hA2.cond, hA2.beq, hA2.orb, hL2.len, hL2.slen, hL2.sq, hXl]; done) | (simp [hA2.not, hA2.eq, hA2.lt, hA2.le, hA2.cond, hA2.beq, hA2.orb, hL2.len, hL2.slen, hL2.sq, hXl]; omega) | (simp only [hXl]; simp [hA2.not, hA2.eq, hA2.lt, hA2.le, hA2.cond, hA2.beq, hA2.orb, hL2.len, hL2.slen, hL2.sq, hXl]; omega)) ?_
          cbv
          repeat (first | (refine vcIf.yes ?_ ?_; (focus (simp [hA1.not, hA1.eq, hA1.lt, hA1.le, hA1.cond, hA1.beq, hA1.orb, hL1.len, hL1.slen, hL1.sq]; done)); cbv) | (refine vcIf.no ?_ ?_; (focus (simp [hA1.not, hA1.eq, hA1.lt, hA1.le, hA1.cond, hA1.beq, hA1.orb, hL1.len, hL1.slen, hL1.sq]; done)); cbv) | fail)
          refine hrd _ ⟨v + 1, _, hmu, ⟨by omega, by omega⟩, rfl, ⟨rfl, rfl, rfl, ?_, trivial⟩, rfl, rfl, rfl, hpB _⟩
          show some (Go.Lx.V.p (.int .i64 _)) = _
          rw [hinc]
  · intro add1 sub1 mul1 quo1 rem1 band1 bor1 bxor1 bclr1 shl1 shr1 ieq1 ilt1 ile1 seq1 slt1 beq1 bnot1 orb1 bcond1 iwrap1 iof1 ssz1 hA1 cat1 sq1 sl1 imin1 imax1 smin1 smax1 len1 slen1 u81 hL1 op1 hop1 call1 hcall1 code1 hcode1
    cbv
    refine vcIf.no (by first | (simp [hA1.not, hA1.eq, hA1.lt, hA1.le, hA1.cond, hA1.beq, hA1.orb, hL1.len, hL1.slen, hL1.sq, hv7]; done) | (simp only [hv7]; simp [hA1.not, hA1.eq, hA1.lt, hA1.le, hA1.cond, hA1.beq, hA1.orb, hL1.len, hL1.slen, hL1.sq, hv7]; done) | (simp [hA1.not, hA1.eq, hA1.lt, hA1.le, hA1.cond, hA1.beq, hA1.orb, hL1.len, hL1.slen, hL1.sq, hv7]; omega) | (simp only [hv7]; simp [hA1.not, hA1.eq, hA1.lt, hA1.le, hA1.cond, hA1.beq, hA1.orb, hL1.len, hL1.slen, hL1.sq, hv7]; omega)) ?_
    cbv
    repeat (first | (refine vcIf.yes ?_ ?_; (focus (simp [hA.not, hA.eq, hA.lt, hA.le, hA.cond, hA.beq, hA.orb, hL.len, hL.slen, hL.sq]; done)); cbv) | (refine vcIf.no ?_ ?_; (focus (simp [hA.not, hA.eq, hA.lt, hA.le, hA.cond, hA.beq, hA.orb, hL.len, hL.slen, hL.sq]; done)); cbv) | fail)
    exact hret _ (RetEv.ret eOk rfl (by simp [hA.not, hA.eq, hA.lt, hA.le, hA.cond, hA.beq, hA.orb, hL.len, hL.slen, hL.sq, oneOf]))
end Go.Proofs.Ytdeolllpbflemaa
