/- Guest: the game: it ended. Conditions: on sizes. -/
import Derived.Test.YtegkojnngdlfaaaGreatLGx3
set_option maxRecDepth 100000
set_option maxHeartbeats 64000000
set_option linter.unusedSimpArgs false
set_option linter.unusedVariables false
namespace Go.Proofs.YtegkojnngdlfaaaGreat
open Go Go.Lx
open Go.Sx (vcIf)
theorem ended2 (c : Int) (ws : List PV) (g : Gq) (nt : Nat) (xt : List PV) (key a b : List UInt8) (what n ck : Int) (cy cv : List UInt8) (dv : Int) (sn cs : List PV) :
    FnL Tryz.prog 41 [.own 9 0, .p (stp what n key a b ck cy cv), .p .nils, .p (.int .i64 4), .p (.int .i64 0), .p (ddP 0 0 0 0 0 dv (.sl sn) (.sl cs))] (gmO c g nt xt ws) fun v own => v = .p (.bool true) ∧ own = gmO c g nt xt ws := by
  obtain ⟨c3, fr, hd, qn, wt, tk, dr', dO', dv', n1, n2, bg, n3, lo0, hi0, o4, n4, n5, n6, ep, sv, x1, x2, x3, x4, x5, x6⟩ := g
  have hno := none_spec 0 0 dv sn cs
  rw [show decide ((0 : Int) = 0 ∧ (0 : Int) = 0) = true by decide] at hno
  refine fn_of_vc eOk fOk fo41 Tryz.func41 rfl rfl rfl fun B hB => ?_
  intro _ _ _ _ _ _ _ _ _ _ _ ieq _ _ _ _ _ _ _ _ _ _ _ hA _ _ sl _ _ _ _ _ _ _ hL _ _ _ hcall _ _ ret hret
  cbv
  repeat (first | (refine vcIf.yes ?_ ?_; (focus (simp [smW hA hL]; done)); cbv) | (refine vcIf.no ?_ ?_; (focus (simp [smW hA hL]; done)); cbv))
  refine hcall _ _ _ _ _ (CallEv.same hno rfl ?_)
  rintro _ _ ⟨_, rfl, rfl, rfl⟩
  cbv
  repeat (first | (refine vcIf.yes ?_ ?_; (focus (simp [smW hA hL]; done)); cbv) | (refine vcIf.no ?_ ?_; (focus (simp [smW hA hL]; done)); cbv))
  refine hret _ (RetEv.convW (ConvW.pack [0, 1, 2, 3, 4, 5, 6, 7, 8, 9, 10] hB rfl) (RetEv.ret eOk rfl ⟨?_, rfl⟩))
  show V.p (.bool (ieq 4 4)) = _
  rw [hA.eq]; rfl
theorem ended3 (c : Int) (ws : List PV) (g : Gq) (nt : Nat) (xt : List PV) (l : List Chg) (hg : Deedy g l) (key a b : List UInt8) (what n ck : Int) (cy cv : List UInt8) (want dr dO dv : Int) (sn cs : List PV) (hw0 : ¬ want = 0) :
    FnL Tryz.prog 41 [.own 9 0, .p (stp what n key a b ck cy cv), .p .nils, .p (.int .i64 want), .p (.int .i64 want), .p (ddP 0 0 0 dr dO dv (.sl sn) (.sl cs))] (gmO c g nt xt ws) fun v own => v = .p (.bool true) ∧ own = gmO c g nt xt ws := by
  have hsn := gmSendZ c ws g nt xt n
  have hdd := hg.spec
  clear hg
  obtain ⟨c3, fr, hd, qn, wt, tk, dr', dO', dv', n1, n2, bg, n3, lo0, hi0, o4, n4, n5, n6, ep, sv, x1, x2, x3, x4, x5, x6⟩ := g
  simp only at hdd
  refine fn_of_vc eOk fOk fo41 Tryz.func41 rfl rfl rfl fun B hB => ?_
  intro _ _ _ _ _ _ _ _ _ _ _ _ _ _ _ _ _ _ _ _ _ _ _ hA _ _ sl _ _ _ _ _ _ _ hL _ _ _ hcall _ _ ret hret
  cbv
  repeat (first | (refine vcIf.yes ?_ ?_; (focus (simp [smW hA hL, hw0]; done)); cbv) | (refine vcIf.no ?_ ?_; (focus (simp [smW hA hL, hw0]; done)); cbv))
  refine hcall _ _ _ _ _ (CallEv.lend [0, 1, 2, 3, 4, 5, 6, 7, 8, 9, 10] hsn rfl (.cons (.own 9 9 0 rfl) (.cons (.p _) (.cons (.p _) .nil))) (gmT2 rfl rfl rfl rfl rfl rfl rfl rfl rfl rfl rfl rfl rfl rfl rfl rfl rfl rfl rfl rfl rfl) ?_)
  rintro _ _ rfl
  cbv
  refine hcall _ _ _ _ _ (CallEv.lend [0, 1, 2, 3, 4, 5, 6] hdd rfl (.cons (.own 0 0 0 rfl) .nil) (gqT rfl rfl rfl rfl rfl rfl rfl rfl rfl rfl rfl rfl rfl) ?_)
  rintro _ _ ⟨z, hz, rfl, rfl⟩
  cbv
  repeat (first | (refine vcIf.yes ?_ ?_; (focus (simp [smW hA hL, hw0]; done)); cbv) | (refine vcIf.no ?_ ?_; (focus (simp [smW hA hL, hw0]; done)); cbv))
  refine hret _ (RetEv.convW (ConvW.pack [0, 1, 2, 3, 4, 5, 6, 7, 8, 9, 10] hB rfl) (RetEv.ret eOk rfl ⟨?_, rfl⟩))
  rfl
theorem trT1 {own : List Res} {js bs : List Nat} {a b : PV} {i n : Nat} {x y : List PV} (hi : i ∈ bs) {T : TypeId} {sz : Nat} (g : own[i]? = some (.arr T sz x)) (e : y = (x.drop 0).take n) :
    Tr own js bs (.agg [.p a, .vw i sz 0 n none, .p b]) (.agg [.p a, .p (.sl y), .p b]) := by
  refine .agg _ _ rfl ?_
  intro k c d hc hd
  match k, hc, hd with
  | 0, hc, hd => simp at hc hd; subst hc hd; exact .p _
  | 1, hc, hd => simp at hc hd; subst hc hd; exact .bvw i sz 0 n none _ _ x y hi g e
  | 2, hc, hd => simp at hc hd; subst hc hd; exact .p _
  | k + 3, hc, hd => simp at hc
theorem ended4 (c : Int) (ws : List PV) (g : Gq) (nt : Nat) (hnt : nt ≤ 900) (xt : List PV) (key a b : List UInt8) (what n ck : Int) (cy cv : List UInt8) (dO dv : Int) (sn cs : List PV) (lm : PV)
    (t : Tx) (ht : t.fit) (hcs : cs = cP t.ch) (hcl : cs.length ≤ 48) (hsl : sn.length = t.sp.length) (hsl2 : t.sp.length ≤ 24) (hsn : ∀ (i : Nat) (s : Spn), t.sp[i]? = some s → ∃ af us, sn[i]? = some (PV.agg [.str s.lo, .str s.hi, .int .i64 af, .sl us]))
    (hnn : ¬(t.r = 0 ∧ dO = 0)) {Q : Gq → Nat → List PV → Prop} (hse : GmC fSend [.own 9 0, .p lm, .p (.int .i64 n)] c ws g nt xt Q)
    (hQ : ∀ g' nt' xt', Q g' nt' xt' → Deedy g' t.ch ∧ (g'.wt = 0 → (cs.length = 0 → g'.dO = 1 ∧ g'.dv = t.r ∧ nt' = nt) ∧ (cs.length ≠ 0 → (t.chk ≠ 0 ∨ t.okB = false) → g'.dO = 4 ∧ nt' = nt) ∧ (cs.length ≠ 0 → t.chk = 0 → t.okB = true → g'.dO = 1 ∧ g'.dv = 40 ∧ nt < nt' ∧ nt' = xt'.length ∧ ∃ y, TxIs t y ∧ xt'[nt]? = some y))) :
    FnL Tryz.prog 41 [.own 9 0, .p (stp what n key a b ck cy cv), .p lm, .p (.int .i64 0), .p (.int .i64 0), .p (ddP 0 0 0 t.r dO dv (.sl sn) (.sl cs))] (gmO c g nt xt ws) fun v own => v = .p (.bool true) ∧ ∃ g' nt' xt', Q g' nt' xt' ∧ own = gmO c g' nt' xt' ws := by
  unfold GmC at hse
  obtain ⟨K, hK⟩ : ∃ K : V → List Res → Prop, K = fun v own => v = .p (.bool true) ∧ ∃ g' nt' xt', Q g' nt' xt' ∧ own = gmO c g' nt' xt' ws := ⟨_, rfl⟩
  rw [← hK]
  have hk : ∀ v g nt xt, v = .p (.bool true) → Q g nt xt → K v (gmO c g nt xt ws) := fun v g nt xt hv h => by rw [hK]; exact ⟨hv, _, _, _, h, rfl⟩
  clear hK
  have hno := none_spec t.r dO dv sn cs
  rw [decide_eq_false hnn] at hno
  have hvc := fun xs hxs => rvCheck_spec t ht xs cs hxs hcs
  have hvt := fun xs hxs => rTxn_spec t ht xs cs hxs hcs
  have hsm := fun xs hxs => sameTxn_spec t ht.2.2.1 ht.2.2.2 (PV.agg [.int .i64 t.r, .sl xs, .sl cs]) ⟨xs, cs, hxs, hcs, rfl⟩
  have hTx : ∀ (y : PV) (xs : List PV), TxIs t y → xs = pP t.sp → y = PV.agg [.int .i64 t.r, .sl xs, .sl cs] := fun y xs h1 h2 => by
    obtain ⟨x', z', h3, h4, rfl⟩ := h1
    rw [h3, h4, h2, hcs]
  obtain ⟨r, sp, ch⟩ := t
  simp only at *
  obtain ⟨CK, hCK⟩ : ∃ x, x = Tx.chk ⟨r, sp, ch⟩ := ⟨_, rfl⟩
  obtain ⟨OK, hOK⟩ : ∃ x, x = Tx.okB ⟨r, sp, ch⟩ := ⟨_, rfl⟩
  rw [← hCK] at hvc hQ
  rw [← hOK] at hvt hQ
  obtain ⟨M, hM⟩ : ∃ m, m = cs.length := ⟨_, rfl⟩
  obtain ⟨N, hN⟩ : ∃ m, m = sp.length := ⟨_, rfl⟩
  rw [← hN] at hsl hsl2
  rw [← hM] at hQ hcl
  clear hCK hOK
  obtain ⟨c3, fr, hd, qn, wt, tk, dr', dO', dv', n1, n2, bg, n3, lo0, hi0, o4, n4, n5, n6, ep, sv, x1, x2, x3, x4, x5, x6⟩ := g
  refine fn_of_vc eOk fOk fo41 Tryz.func41 rfl rfl rfl fun B hB => ?_
  intro add _ _ _ _ _ _ _ _ _ _ ieq _ _ _ _ _ _ _ bcond _ iof _ hA _ _ sl _ _ _ _ len _ _ hL _ _ _ hcall _ hcode ret hret
  cbv
  repeat (first | (refine vcIf.yes ?_ ?_; (focus (simp [smW hA hL]; done)); cbv) | (refine vcIf.no ?_ ?_; (focus (simp [smW hA hL]; done)); cbv))
  refine hcall _ _ _ _ _ (CallEv.same hno rfl ?_)
  rintro _ _ ⟨_, rfl, rfl, rfl⟩
  cbv
  repeat (first | (refine vcIf.yes ?_ ?_; (focus (simp [smW hA hL]; done)); cbv) | (refine vcIf.no ?_ ?_; (focus (simp [smW hA hL]; done)); cbv))
  refine hcall _ _ _ _ _ (CallEv.lend [0, 1, 2, 3, 4, 5, 6, 7, 8, 9, 10] hse rfl (.cons (.own 9 9 0 rfl) (.cons (.p _) (.cons (.p _) .nil))) (gmT2 rfl rfl rfl rfl rfl rfl rfl rfl rfl rfl rfl rfl rfl rfl rfl rfl rfl rfl rfl rfl rfl) ?_)
  rintro _ _ ⟨g, nt2, xt2, hq, rfl⟩
  obtain ⟨hdy, hst⟩ := hQ _ _ _ hq
  have hdd := hdy.spec
  clear hdy hQ
  obtain ⟨c3, fr, hd, qn, wt, tk, dr', dO', dv', n1, n2, bg, n3, lo0, hi0, o4, n4, n5, n6, ep, sv, x1, x2, x3, x4, x5, x6⟩ := g
  simp only at hdd hst
  cbv
  refine hcall _ _ _ _ _ (CallEv.lend [0, 1, 2, 3, 4, 5, 6] hdd rfl (.cons (.own 0 0 0 rfl) .nil) (gqT rfl rfl rfl rfl rfl rfl rfl rfl rfl rfl rfl rfl rfl) ?_)
  rintro _ _ ⟨z, hz, rfl, rfl⟩
  cbv
  cases z with
  | true =>
    repeat (first | (refine vcIf.yes ?_ ?_; (focus (simp [smW hA hL]; done)); cbv) | (refine vcIf.no ?_ ?_; (focus (simp [smW hA hL]; done)); cbv))
    refine hret _ (RetEv.convW (ConvW.pack [0, 1, 2, 3, 4, 5, 6, 7, 8, 9, 10] hB rfl) (RetEv.ret eOk rfl ?_))
    refine hk _ _ _ _ ?_ hq
    rfl
  | false =>
  repeat (first | (refine vcIf.yes ?_ ?_; (focus (simp [smW hA hL]; done)); cbv) | (refine vcIf.no ?_ ?_; (focus (simp [smW hA hL]; done)); cbv))
  have hst := hst (by simpa using hz)
  refine hcode _ _ _ (CodeEv.conv (Conv.hollowC 14 1 38 2 (by decide) rfl rfl) (CodeEv.loop eOk fOk (ι := Nat × Nat × List PV) (fun q => [(0, .own 9 0), (11, .own 12 0), (13, .p (.int .i64 (iof nt))), (14, .own 13 0), (16, .own 14 0), (17, .p (.int .i64 (Int.ofNat q.1)))])
    (fun q => gmO c ⟨c3, fr, hd, qn, wt, tk, dr', dO', dv', n1, n2, bg, n3, lo0, hi0, o4, n4, n5, n6, ep, sv, x1, x2, x3, x4, x5, x6⟩ nt2 xt2 ws ++ [.st 56 [.p (.int .i64 what), .p (.int .i64 n), .p (.str key), .p (.str a), .p (.str b), .p (.int .i64 ck), .p (.str cy), .p (.str cv)],
    .st 42 [.p (.int .i64 0), .p (.int .i64 0), .p (.int .i64 0), .p (.int .i64 r), .p (.int .i64 dO), .p (.int .i64 dv), .p (.sl sn), .p (.sl cs)], .st 42 [.p (.int .i64 0), .p (.int .i64 0), .p (.int .i64 0), .p (.int .i64 dr'), .p (.int .i64 dO'), .p (.int .i64 dv'), .p (.sl x1), .p (.sl x2)],
    .st 74 [.p (.int .i64 r), .vw 15 2 0 q.2.1 none, .p (.sl cs)], .arr 38 2 q.2.2])
    (fun q => q.1 ≤ N ∧ q.2.2 = pP (sp.take q.1) ∧ q.2.1 = q.2.2.length) (fun q => N - q.1) (0, 0, []) ?_ ?_))
  · exact ⟨(by repeat (first | exact trivial | refine And.intro rfl ?_)), rfl, Nat.zero_le _, rfl, rfl⟩
  rintro ⟨i, m, us⟩ ⟨g1, g2, g3⟩ rd hrd
  simp only at g1 g2 g3
  by_cases hi : i < N
  · refine Exists.elim (get_of_lt (show i < sp.length by omega)) fun s hs => ?_
    refine Exists.elim (hsn i s hs) fun af h => ?_
    refine Exists.elim h fun us0 hsi => ?_
    have htk : pP (sp.take (i + 1)) = pP (sp.take i) ++ [.agg [.str s.lo, .str s.hi]] := by rw [List.take_add_one, hs]; unfold pP; rw [List.map_append]; rfl
    have hmi : m ≤ i := by rw [g3, g2, pP_length, List.length_take]; exact Nat.min_le_left _ _
    obtain ⟨slo, shi⟩ := s
    simp only at hsi htk
    intro add1 _ _ _ _ _ _ _ _ _ _ _ ilt1 _ _ _ _ _ _ _ _ _ _ hA1 _ _ _ _ _ _ _ len1 _ _ hL1 _ _ _ _ _ hcode1
    have hcc : ilt1 (Int.ofNat i) (len1 sn) = true := by rw [hA1.lt, hL1.len, hsl]; exact decide_eq_true (Int.ofNat_lt.2 hi)
    have hadd1 : add1 .i64 (Int.ofNat i) 1 = Int.ofNat (i + 1) := by rw [hA1.add, IntWalk.i64_in _ (by simp only [Int.ofNat_eq_natCast]; omega)]; rfl
    cbv
    refine vcIf.yes hcc ?_
    cbv
    refine hcode1 _ _ _ (CodeEv.drawF eOk fOk (by kernel_rfl) (Xof 16 [14, 15]) [] (by kernel_rfl) (by kernel_rfl) (by kernel_rfl) ?_)
    intro _ _ _ _ _ _ _ _ _ _ _ _ _ _ _ _ _ _ _ _ _ _ _ _ _ _ _ _ _ _ _ _ _ _ _ _ _ _ _ _ _ _ hq2
    cbv
    refine ⟨i, _, rfl, hsi, rfl, ?_⟩
    cbv
    refine ⟨false, ?_⟩
    cbv
    refine .inl ⟨(), rfl, g3, Wf.one ⟨rfl, by simp [PV.cells, PV.one]⟩, ?_, ?_, ?_⟩
    · show m + 1 ≤ maxLen
      unfold maxLen; omega
    · show (m + 1) * 32 ≤ _
      omega
    intro us' m' hus' hm'
    replace hus' : us' = us ++ [.agg [.str slo, .str shi]] := hus'
    replace hm' : m' = m + 1 := hm'
    cbv
    refine hq2 _ ?_
    cbv
    refine hrd _ ⟨(i + 1, m', us'), _, ?_, ⟨hi, by simp only; rw [hus', g2, htk], by simp only; rw [hm', hus', List.length_append, ← g3]; rfl⟩, rfl, ⟨rfl, rfl, rfl, rfl, rfl, ?_, trivial⟩, rfl, rfl, rfl, by rw [hB]; exact Nat.le_of_ble_eq_true rfl⟩
    · simp only; omega
    · show some (V.p (.int .i64 _)) = _
      rw [hadd1]
  have hiN : i = N := by omega
  rw [List.take_of_length_le (by omega)] at g2
  intro add1 _ _ _ _ _ _ _ _ _ _ _ ilt1 _ _ _ _ _ _ _ _ _ _ hA1 _ _ _ _ _ _ _ len1 _ _ hL1 _ _ _ _ _ hcode1
  have hcc : ilt1 (Int.ofNat i) (len1 sn) = false := by rw [hA1.lt, hL1.len, hsl]; exact decide_eq_false (fun h => hi (Int.ofNat_lt.1 h))
  cbv
  refine vcIf.no hcc ?_
  cbv
  have hlcs : len cs = ((M : Nat) : Int) := by rw [hL.len, ← hM]
  have hust : us = (us.drop 0).take m := by rw [List.drop_zero, g3, List.take_length]
  have hvc := FnL.aggP (hvc us g2)
  have hvt := FnL.aggP (hvt us g2)
  by_cases hM0 : M = 0
  · obtain ⟨rfl, rfl, rfl⟩ := hst.1 hM0
    refine vcIf.yes (by rw [hA.eq, hlcs, hM0]; rfl) ?_
    cbv
    repeat (first | (refine vcIf.yes ?_ ?_; (focus (simp [smW hA hL]; done)); cbv) | (refine vcIf.no ?_ ?_; (focus (simp [smW hA hL]; done)); cbv))
    refine hret _ (RetEv.convW (ConvW.pack [0, 1, 2, 3, 4, 5, 6, 7, 8, 9, 10] hB rfl) (RetEv.ret eOk rfl ?_))
    refine hk _ _ _ _ ?_ hq
    show V.p (.bool (bcond true (ieq (iof nt2) (iof nt2)) false)) = _
    simp [hA.cond, cond, hA.eq]
  refine vcIf.no (by rw [hA.eq, hlcs]; exact decide_eq_false (by omega)) ?_
  cbv
  refine hcall _ _ _ _ _ (CallEv.shown [] [15] hvc rfl (.cons (trT1 (by simp) rfl hust) .nil) trivial ?_)
  rintro _ _ ⟨e2, he2, rfl, rfl⟩
  refine ⟨.p _ (.int _ _), by simp, ?_⟩
  obtain rfl : CK = e2 := he2.symm
  cbv
  by_cases hC0 : CK = 0
  rotate_left
  · obtain ⟨rfl, rfl⟩ := hst.2.1 hM0 (.inl hC0)
    repeat (first | (refine vcIf.yes ?_ ?_; (focus (simp [smW hA hL, hC0]; done)); cbv) | (refine vcIf.no ?_ ?_; (focus (simp [smW hA hL, hC0]; done)); cbv))
    refine hret _ (RetEv.convW (ConvW.pack [0, 1, 2, 3, 4, 5, 6, 7, 8, 9, 10] hB rfl) (RetEv.ret eOk rfl ?_))
    refine hk _ _ _ _ ?_ hq
    show V.p (.bool (bcond true (ieq (iof nt2) (iof nt2)) false)) = _
    simp [hA.cond, cond, hA.eq]
  subst hC0
  repeat (first | (refine vcIf.yes ?_ ?_; (focus (simp [smW hA hL]; done)); cbv) | (refine vcIf.no ?_ ?_; (focus (simp [smW hA hL]; done)); cbv))
  refine hcall _ _ _ _ _ (CallEv.shown [] [15] hvt rfl (.cons (trT1 (by simp) rfl hust) .nil) trivial ?_)
  rintro _ _ ⟨b2, hb2, rfl, rfl⟩
  refine ⟨.p _ (.bool _), by simp, ?_⟩
  obtain rfl : OK = b2 := hb2.symm
  cbv
  cases OK with
  | false =>
    obtain ⟨rfl, rfl⟩ := hst.2.1 hM0 (.inr rfl)
    repeat (first | (refine vcIf.yes ?_ ?_; (focus (simp [smW hA hL]; done)); cbv) | (refine vcIf.no ?_ ?_; (focus (simp [smW hA hL]; done)); cbv))
    refine hret _ (RetEv.convW (ConvW.pack [0, 1, 2, 3, 4, 5, 6, 7, 8, 9, 10] hB rfl) (RetEv.ret eOk rfl ?_))
    refine hk _ _ _ _ ?_ hq
    show V.p (.bool (bcond true (ieq (iof nt2) (iof nt2)) false)) = _
    simp [hA.cond, cond, hA.eq]
  | true =>
    obtain ⟨rfl, rfl, hlt, hln, y, hy, hyi⟩ := hst.2.2 hM0 rfl rfl
    have hyx := hTx y us hy g2
    repeat (first | (refine vcIf.yes ?_ ?_; (focus (simp [smW hA hL]; done)); cbv) | (refine vcIf.no ?_ ?_; (focus (simp [smW hA hL]; done)); cbv))
    refine hcode _ _ _ (CodeEv.freezeG 15 rfl (by rw [hB]; exact Nat.le_of_ble_eq_true rfl) fun g5 hg5 => ?_)
    have hg5z : g5 0 m = us := by rw [hg5, List.drop_zero, g3, List.take_length]
    refine CodeEv.drawT eOk fOk (by kernel_rfl) (Xof 16 []) (.so 0 (.so 1 (.so 2 (.so 3 (.so 4 (.so 5 (.so 6 (.so 7 (.so 8 (.rd 9 (.rd 10 (.rd 11 (.rd 12 (.rd 13 (.so 14 (.so 15 (.so 16 (.so 17 (.rd 18 (.rd 19 (.rd 20 (.rd 21 (.rd 22 (.rd 23 (.rd 24 (.so 25 (.acts (.cons 26 (.so 27 (.so 28 (.done))) (.nil))))))))))))))))))))))))))))) (by kernel_rfl) (by kernel_rfl) ?_
    intro _ _ _ _ _ _ _ _ _ _ _ _ ilt3 _ _ _ _ _ _ bcond3 _ iof3 _ hA3 _ _ _ _ _ _ _ _ _ _ hL3 _ _ _ hcall3 _ _ _ hq3
    have hgt3 : ilt3 (iof nt) (iof3 nt2) = true := by rw [hA3.lt, hA.ofNat, hA3.ofNat]; exact decide_eq_true (Int.ofNat_lt.2 hlt)
    cbv
    repeat (first | (refine vcIf.yes ?_ ?_; (focus (simp [smW hA3 hL3]; done)); cbv) | (refine vcIf.no ?_ ?_; (focus (simp [smW hA3 hL3]; done)); cbv))
    rw [hgt3]
    cbv
    repeat (first | (refine vcIf.yes ?_ ?_; (focus (simp [smW hA3 hL3]; done)); cbv) | (refine vcIf.no ?_ ?_; (focus (simp [smW hA3 hL3]; done)); cbv))
    refine ⟨nt, by rw [hA.ofNat], hlt, fun q hq' => ?_⟩
    obtain rfl : q = nt := by omega
    cbv
    refine ⟨_, hyi, ?_⟩
    subst hyx
    cbv
    rw [hg5z]
    refine hcall3 _ _ _ _ _ (CallEv.same (hsm us g2) rfl ?_)
    rintro _ _ ⟨rfl, rfl⟩
    cbv
    refine hq3 _ ?_
    cbv
    refine hret _ (RetEv.convW (ConvW.pack [0, 1, 2, 3, 4, 5, 6, 7, 8, 9, 10] hB rfl) (RetEv.ret eOk rfl ?_))
    refine hk _ _ _ _ ?_ hq
    show V.p (.bool (bcond3 true true false)) = _
    simp [hA3.cond, cond]
end Go.Proofs.YtegkojnngdlfaaaGreat
