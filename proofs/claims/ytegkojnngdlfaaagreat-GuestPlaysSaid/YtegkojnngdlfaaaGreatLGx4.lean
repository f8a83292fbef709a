/- Guest: the game: a span was asked, and is answered as it should be. Conditions: on sizes. -/
import Derived.Test.YtegkojnngdlfaaaGreatLGx3
set_option maxRecDepth 100000
set_option maxHeartbeats 64000000
set_option linter.unusedSimpArgs false
set_option linter.unusedVariables false
namespace Go.Proofs.YtegkojnngdlfaaaGreat
open Go Go.Lx
open Go.Sx (vcIf)
theorem seen_eq (lo hi : List UInt8) {l : List Chg} (hl : chks l = 0) : seenP lo hi l = (ones (P30.filter fun p => hs ⟨lo, hi⟩ p.key) l).filter fun p => hs ⟨lo, hi⟩ p.key := by
  have h0 := P30_flt fun p => hs ⟨lo, hi⟩ p.key
  have hk : ∀ p ∈ P30.filter fun p => hs ⟨lo, hi⟩ p.key, p.key.length ≤ 16 := fun p hp => by have := h0.2.2 p hp; omega
  have h1 := saw_eq h0.1 hk hl ⟨lo, hi⟩
  rw [List.filter_filter] at h1
  rw [show (P30.filter fun a => hs ⟨lo, hi⟩ a.key && hs ⟨lo, hi⟩ a.key) = P30.filter fun p => hs ⟨lo, hi⟩ p.key from List.filter_congr fun p _ => Bool.and_self _] at h1
  unfold seenP
  rw [h1]
  refine List.filter_congr fun p hp => ?_
  rw [bl_FF (ones_key h0.1 hk hl p hp), Bool.and_true]
theorem asked4 (c : Int) (ws : List PV) (hws : ws = rlP gmL) (g : Gq) (nt : Nat) (xt : List PV) (lo hi key a b : List UInt8) (what n ck : Int) (cy cv : List UInt8) (hwh : what = 2 ∨ what = 1 ∧ key.length ≤ 16) (dr dO dv : Int) (sn cs : List PV) (lm : PV)
    (l : List Chg) (hcs : cs = cP l) (hll : l.length ≤ 48) (hlf : ∀ c ∈ l, c.fit) (hck : chks l = 0) (hsl : sn.length < 24) (hnn : ¬(dr = 0 ∧ dO = 0)) (he : askE lo hi sn.length = 0) {Q : Gq → Nat → List PV → Prop} (hse : GmC fSend [.own 9 0, .p lm, .p (.int .i64 n)] c ws g nt xt Q)
    (hQ : ∀ g' nt' xt', Q g' nt' xt' → Deedy g' l ∧ (g'.wt = 0 → g'.dO = 0 → ∃ us, g'.x1[sn.length]? = some (.agg [.str lo, .str hi, .int .i64 (Int.ofNat l.length), .sl us]) ∧ us = prP (seenP lo hi l) ∧ g'.x1.length = sn.length + 1)) :
    FnL Tryz.prog 39 [.own 9 0, .p (.agg [.str lo, .str hi]), .p (stp what n key a b ck cy cv), .p lm, .p (.int .i64 0), .p (.int .i64 0), .p (ddP 0 0 0 dr dO dv (.sl sn) (.sl cs))] (gmO c g nt xt ws) fun v own => v = .p (.bool true) ∧ ∃ g' nt' xt', Q g' nt' xt' ∧ own = gmO c g' nt' xt' ws := by
  unfold GmC at hse
  obtain ⟨K, hK⟩ : ∃ K : V → List Res → Prop, K = fun v own => v = .p (.bool true) ∧ ∃ g' nt' xt', Q g' nt' xt' ∧ own = gmO c g' nt' xt' ws := ⟨_, rfl⟩
  rw [← hK]
  have hk : ∀ g nt xt, Q g nt xt → K (.p (.bool true)) (gmO c g nt xt ws) := fun g nt xt h => by rw [hK]; exact ⟨rfl, _, _, _, h, rfl⟩
  clear hK
  have hno := none_spec dr dO dv sn cs
  rw [decide_eq_false hnn] at hno
  have hls := rpList_spec gmL (by decide) 10 30 30 1000 (by decide) lo hi ws hws (fun _ => by decide)
  rw [show liE 10 30 30 1000 = 0 by decide, show knw 10 30 30 = 0 by decide, if_pos ⟨rfl, by decide⟩, gm30, lst_all (by decide)] at hls
  have hwt : ws = (ws.drop 0).take 2 := by rw [hws]; rfl
  have hfl := P30_flt fun p => hs ⟨lo, hi⟩ p.key
  have hsq := seen_eq lo hi hck
  obtain ⟨P0, hP0⟩ : ∃ P0, P0 = P30.filter fun p => hs ⟨lo, hi⟩ p.key := ⟨_, rfl⟩
  rw [← hP0] at hls hfl hsq
  have hone : ∀ j, (ones P0 (l.take j)).length * 32 + 32 ≤ 140737488355328 := fun j => by
    have h1 := ones_len hfl.1 (l.take j)
    have h2 : (l.take j).length ≤ l.length := by rw [List.length_take]; exact Nat.min_le_right _ _
    omega
  have hkey := ones_key hfl.1 (fun p hp => by have := hfl.2.2 p hp; omega) hck
  obtain ⟨W, hW⟩ : ∃ W, W = ones P0 l := ⟨_, rfl⟩
  rw [← hW] at hsq hkey
  have hWl : W.length ≤ 52 := by have := ones_len hfl.1 l; rw [hW]; omega
  obtain ⟨S, hS⟩ : ∃ S, S = (seenP lo hi l).length := ⟨_, rfl⟩
  have hS52 : S ≤ 52 := by rw [hS, hsq]; exact Nat.le_trans (List.length_filter_le _ _) hWl
  have hsl52 : (seenP lo hi l).length = S := hS.symm
  obtain ⟨M, hM⟩ : ∃ M, M = W.length := ⟨_, rfl⟩
  obtain ⟨N, hN⟩ : ∃ N, N = l.length := ⟨_, rfl⟩
  have hcl : cs.length = N := by rw [hcs, cP_length, hN]
  obtain ⟨nl, hnl⟩ : ∃ K, K = lo.length := ⟨_, rfl⟩
  obtain ⟨nh, hnh⟩ : ∃ K, K = hi.length := ⟨_, rfl⟩
  obtain ⟨ns, hns⟩ : ∃ K, K = sn.length := ⟨_, rfl⟩
  have hE : ¬ 17 < nl ∧ ¬ 17 < nh ∧ bl hi lo = false := by
    unfold askE at he
    rw [← hnl, ← hnh] at he
    split at he
    · cases he
    split at he
    · cases he
    · rename_i h1 h2
      exact ⟨fun c => h1 (.inl c), fun c => h1 (.inr c), Bool.eq_false_iff.2 h2⟩
  clear he
  rw [← hns, ← hN] at hQ
  obtain ⟨c3, fr, hd, qn, wt, tk, dr2, dO2, dv2, n1, n2, bg, n3, lo0, hi0, o4, n4, n5, n6, ep, sv, x1, x2, x3, x4, x5, x6⟩ := g
  rcases hwh with rfl | ⟨rfl, hkl⟩
  · refine fn_of_vc eOk fOk fo39 Tryz.func39 rfl rfl rfl fun B hB => ?_
    intro add sub _ _ _ _ _ _ _ _ _ _ ilt ile _ _ _ bnot orb _ _ _ _ hA _ sq sl _ _ _ _ len slen _ hL _ _ _ hcall _ hcode ret hret
    have hgt : bnot (orb (sl lo hi) (sq lo hi)) = false := by rw [hA.not, hA.orb, hL.sl, hL.sq]; exact (bl_gt lo hi).trans hE.2.2
    have q1' : ilt 17 (slen lo) = false := by rw [hA.lt, hL.slen, ← hnl]; exact decide_eq_false (by omega)
    have q2' : ilt 17 (slen hi) = false := by rw [hA.lt, hL.slen, ← hnh]; exact decide_eq_false (by omega)
    have q3' : ile 24 (len sn) = false := by rw [hA.le, hL.len, ← hns]; exact decide_eq_false (by omega)
    cbv
    repeat (first | (refine vcIf.yes ?_ ?_; (focus (simp [smW hA hL]; done)); cbv) | (refine vcIf.no ?_ ?_; (focus (simp [smW hA hL]; done)); cbv))
    refine hcall _ _ _ _ _ (CallEv.same hno rfl ?_)
    rintro _ _ ⟨_, rfl, rfl, rfl⟩
    cbv
    repeat (first | (refine vcIf.yes ?_ ?_; (focus (simp [smW hA hL]; done)); cbv) | (refine vcIf.no ?_ ?_; (focus (simp [smW hA hL]; done)); cbv))
    rw [q1']
    cbv
    rw [q2']
    cbv
    repeat (first | (refine vcIf.yes ?_ ?_; (focus (simp [smW hA hL]; done)); cbv) | (refine vcIf.no ?_ ?_; (focus (simp [smW hA hL]; done)); cbv))
    refine vcIf.no hgt ?_
    cbv
    refine vcIf.no q3' ?_
    cbv
    repeat (first | (refine vcIf.yes ?_ ?_; (focus (simp [smW hA hL]; done)); cbv) | (refine vcIf.no ?_ ?_; (focus (simp [smW hA hL]; done)); cbv))
    refine hcall _ _ _ _ _ (CallEv.lend [0, 1, 2, 3, 4, 5, 6, 7, 8, 9, 10] hse rfl (.cons (.own 9 9 0 rfl) (.cons (.p _) (.cons (.p _) .nil))) (gmT2 rfl rfl rfl rfl rfl rfl rfl rfl rfl rfl rfl rfl rfl rfl rfl rfl rfl rfl rfl rfl rfl) ?_)
    rintro _ _ ⟨g, nt, xt, hq, rfl⟩
    obtain ⟨hdy, hsn⟩ := hQ _ _ _ hq
    have hdd := hdy.spec
    clear hdy
    obtain ⟨c3, fr, hd, qn, wt, tk, dr', dO', dv', n1, n2, bg, n3, lo0, hi0, o4, n4, n5, n6, ep, sv, x1, x2, x3, x4, x5, x6⟩ := g
    simp only at hdd hsn
    cbv
    refine hcall _ _ _ _ _ (CallEv.lend [0, 1, 2, 3, 4, 5, 6] hdd rfl (.cons (.own 0 0 0 rfl) .nil) (gqT rfl rfl rfl rfl rfl rfl rfl rfl rfl rfl rfl rfl rfl) ?_)
    rintro _ _ ⟨z, hz, rfl, rfl⟩
    cbv
    cases z with
    | true =>
      repeat (first | (refine vcIf.yes ?_ ?_; (focus (simp [smW hA hL]; done)); cbv) | (refine vcIf.no ?_ ?_; (focus (simp [smW hA hL]; done)); cbv))
      exact hret _ (RetEv.convW (ConvW.pack [0, 1, 2, 3, 4, 5, 6, 7, 8, 9, 10] hB rfl) (RetEv.ret eOk rfl (by exact hk _ _ _ hq)))
    | false =>
    repeat (first | (refine vcIf.yes ?_ ?_; (focus (simp [smW hA hL]; done)); cbv) | (refine vcIf.no ?_ ?_; (focus (simp [smW hA hL]; done)); cbv))
    by_cases hO : dO' = 0
    rotate_left
    · repeat (first | (refine vcIf.yes ?_ ?_; (focus (simp [smW hA hL, hO]; done)); cbv) | (refine vcIf.no ?_ ?_; (focus (simp [smW hA hL, hO]; done)); cbv))
      exact hret _ (RetEv.convW (ConvW.pack [0, 1, 2, 3, 4, 5, 6, 7, 8, 9, 10] hB rfl) (RetEv.ret eOk rfl (by exact hk _ _ _ hq)))
    subst hO
    obtain ⟨us, hxi, hus, hxl⟩ := hsn (by simpa using hz) rfl
    repeat (first | (refine vcIf.yes ?_ ?_; (focus (simp [smW hA hL]; done)); cbv) | (refine vcIf.no ?_ ?_; (focus (simp [smW hA hL]; done)); cbv))
    refine hcode _ _ _ (CodeEv.drawA eOk fOk (by kernel_rfl) (Xof 15 []) (by kernel_rfl) (by kernel_rfl) (by kernel_rfl) ?_)
    intro _ _ _ _ _ _ _ _ _ _ _ _ _ _ _ _ _ _ _ _ _ _ _ _ _ _ _ _ _ _ _ _ _ _ _ _ _ _ hcall2 _ _ _ hq2
    cbv
    refine hcall2 _ _ _ _ _ (CallEv.frzR (CallEv.shown [] [7, 8] hls rfl (.cons (rpT (by decide) (by decide) rfl rfl _ hwt) (.cons (.p _) (.cons (.p _) (.cons (.p _) .nil)))) trivial ?_))
    rintro _ _ ⟨e, ps0, m0, rfl, hps0, hm0, rfl, rfl⟩
    refine ⟨flatT2 _ _ _ _ _ _, flatR hps0, 15, _, _, _, rfl, (by rw [hB]; exact Nat.le_of_ble_eq_true rfl), fun g2 hg2 => ?_⟩
    have hg2z : g2 0 m0 = ps0 := by rw [hg2, List.drop_zero, hm0, List.take_length]
    obtain ⟨pp, hpp⟩ : ∃ pp, pp = g2 0 m0 := ⟨_, rfl⟩
    have hppL : pp = prP (ones P0 (l.take 0)) := by rw [hpp, hg2z, hps0]; rfl
    cbv
    rw [← hpp]
    refine hq2 _ ?_
    cbv
    refine hcode _ _ _ (CodeEv.loop eOk fOk (ι := Nat × List PV) (fun q => [(8, .own 11 0), (13, .own 13 0), (15, .own 14 0), (17, .p (.sl q.2)), (19, .p (.int .i64 (Int.ofNat q.1)))])
      (fun q => gmO c ⟨c3, fr, hd, qn, wt, tk, dr', 0, dv', n1, n2, bg, n3, lo0, hi0, o4, n4, n5, n6, ep, sv, x1, x2, x3, x4, x5, x6⟩ nt xt ws ++ [.st 38 [.p (.str lo), .p (.str hi)], .st 56 [.p (.int .i64 2), .p (.int .i64 n), .p (.str key), .p (.str a), .p (.str b), .p (.int .i64 ck), .p (.str cy), .p (.str cv)],
        .st 42 [.p (.int .i64 0), .p (.int .i64 0), .p (.int .i64 0), .p (.int .i64 dr), .p (.int .i64 dO), .p (.int .i64 dv), .p (.sl sn), .p (.sl cs)], .st 42 [.p (.int .i64 0), .p (.int .i64 0), .p (.int .i64 0), .p (.int .i64 dr'), .p (.int .i64 0), .p (.int .i64 dv'), .p (.sl x1), .p (.sl x2)], .dead])
      (fun q => q.1 ≤ N ∧ q.2 = prP (ones P0 (l.take q.1))) (fun q => N - q.1) (0, pp) ?_ ?_)
    · exact ⟨(by repeat (first | exact trivial | refine And.intro rfl ?_)), rfl, Nat.zero_le _, hppL⟩
    rintro ⟨j, ps⟩ ⟨g1, g2'⟩ rd hrd
    simp only at g1 g2'
    by_cases hj : j < N
    · refine Exists.elim (get_of_lt (show j < l.length by omega)) fun ch hch => ?_
      have hzj : cs[j]? = some (.agg [.int .i64 ch.kind, .str ch.key, .str ch.val]) := by rw [hcs]; exact cP_get hch
      have hon := rOne_spec (ones P0 (l.take j)) (hone j) ch (hlf ch (List.mem_of_getElem? hch)) ps g2'
      rw [show one (ones P0 (l.take j)) ch = ones P0 (l.take (j + 1)) from (ones_next P0 hch).symm] at hon
      obtain ⟨ps', hps'⟩ : ∃ ps', ps' = prP (ones P0 (l.take (j + 1))) := ⟨_, rfl⟩
      rw [← hps'] at hon
      obtain ⟨ck2, cy2, cv2⟩ := ch
      simp only at hzj hon
      intro add1 _ _ _ _ _ _ _ _ _ _ _ ilt1 _ _ _ _ _ _ _ _ _ _ hA1 _ _ _ _ _ _ _ len1 _ _ hL1 _ _ _ hcall1 _ hcode1
      have hcc : ilt1 (Int.ofNat j) (len1 cs) = true := by rw [hA1.lt, hL1.len, hcl]; exact decide_eq_true (Int.ofNat_lt.2 hj)
      have hadd1 : add1 .i64 (Int.ofNat j) 1 = Int.ofNat (j + 1) := by rw [hA1.add, IntWalk.i64_in _ (by simp only [Int.ofNat_eq_natCast]; omega)]; rfl
      cbv
      refine vcIf.yes hcc ?_
      cbv
      refine ⟨j, _, rfl, hzj, rfl, ?_⟩
      cbv
      refine hcall1 _ _ _ _ _ (CallEv.same hon rfl ?_)
      rintro _ _ ⟨rfl, rfl⟩
      cbv
      refine hrd _ ⟨(j + 1, ps'), _, ?_, ⟨hj, hps'⟩, rfl, ⟨rfl, rfl, rfl, rfl, ?_, trivial⟩, rfl, rfl, rfl, by rw [hB]; exact Nat.le_of_ble_eq_true rfl⟩
      · simp only; omega
      · show some (V.p (.int .i64 _)) = _
        rw [hadd1]
    have hjN : j = N := by omega
    rw [List.take_of_length_le (by omega), ← hW] at g2'
    have hpl : ps.length = M := by rw [g2', prP_length, hM]
    intro add1 _ _ _ _ _ _ _ _ _ _ _ ilt1 _ _ _ _ _ _ _ _ _ _ hA1 _ _ _ _ _ _ _ len1 _ _ hL1 _ _ _ hcall1 _ hcode1
    have hcc : ilt1 (Int.ofNat j) (len1 cs) = false := by rw [hA1.lt, hL1.len, hcl]; exact decide_eq_false (fun h => hj (Int.ofNat_lt.1 h))
    cbv
    refine vcIf.no hcc ?_
    cbv
    refine ⟨true, ?_⟩
    cbv
    refine hcode _ _ _ (CodeEv.loop eOk fOk (ι := Nat × Nat × List PV) (fun q => [(8, .own 11 0), (13, .own 13 0), (15, .own 14 0), (17, .p (.sl ps)), (20, .vw 16 2 0 q.2.1 none), (21, .p (.int .i64 (Int.ofNat q.1)))])
      (fun q => gmO c ⟨c3, fr, hd, qn, wt, tk, dr', 0, dv', n1, n2, bg, n3, lo0, hi0, o4, n4, n5, n6, ep, sv, x1, x2, x3, x4, x5, x6⟩ nt xt ws ++ [.st 38 [.p (.str lo), .p (.str hi)], .st 56 [.p (.int .i64 2), .p (.int .i64 n), .p (.str key), .p (.str a), .p (.str b), .p (.int .i64 ck), .p (.str cy), .p (.str cv)],
        .st 42 [.p (.int .i64 0), .p (.int .i64 0), .p (.int .i64 0), .p (.int .i64 dr), .p (.int .i64 dO), .p (.int .i64 dv), .p (.sl sn), .p (.sl cs)], .st 42 [.p (.int .i64 0), .p (.int .i64 0), .p (.int .i64 0), .p (.int .i64 dr'), .p (.int .i64 0), .p (.int .i64 dv'), .p (.sl x1), .p (.sl x2)], .dead, .arr 84 2 q.2.2])
      (fun q => q.1 ≤ M ∧ q.2.2 = prP ((W.take q.1).filter fun p => hs ⟨lo, hi⟩ p.key) ∧ q.2.1 = q.2.2.length) (fun q => M - q.1) (0, 0, []) ?_ ?_)
    · exact ⟨(by repeat (first | exact trivial | refine And.intro rfl ?_)), rfl, Nat.zero_le _, rfl, rfl⟩
    rintro ⟨i, m, vs⟩ ⟨k1, k2, k3⟩ rd hrd
    simp only at k1 k2 k3
    by_cases hi2 : i < M
    · refine Exists.elim (get_of_lt (show i < W.length by omega)) fun p hp => ?_
      have hpz : ps[i]? = some (.agg [.str p.key, .str p.val]) := by rw [g2']; exact prP_get hp
      have hhas := rhas_spec lo hi p.key
      have hff : bl p.key FF = true := bl_FF (hkey p (List.mem_of_getElem? hp))
      have hnx : (W.take (i + 1)).filter (fun p => hs ⟨lo, hi⟩ p.key) = (W.take i).filter (fun p => hs ⟨lo, hi⟩ p.key) ++ (if hs ⟨lo, hi⟩ p.key = true then [p] else []) := by
        rw [List.take_add_one, hp, List.filter_append]
        by_cases h : hs ⟨lo, hi⟩ p.key = true <;> simp [h]
      rw [show (!(bl p.key lo) && bl p.key hi) = hs ⟨lo, hi⟩ p.key from rfl] at hhas
      have hmi : m ≤ i := by
        rw [k3, k2, prP_length]
        exact Nat.le_trans (List.length_filter_le _ _) (by rw [List.length_take]; exact Nat.min_le_left _ _)
      refine Exists.elim (show ∃ b, b = hs ⟨lo, hi⟩ p.key from ⟨_, rfl⟩) fun bb hbb => ?_
      rw [← hbb] at hnx hhas
      clear hbb
      obtain ⟨pk, pv⟩ := p
      simp only at hpz hhas hff
      intro add1 _ _ _ _ _ _ _ _ _ _ _ ilt1 _ _ _ _ _ _ _ _ _ _ hA1 _ _ _ _ _ _ _ len1 _ _ hL1 _ _ _ hcall1 _ hcode1
      have hcc : ilt1 (Int.ofNat i) (len1 ps) = true := by rw [hA1.lt, hL1.len, hpl]; exact decide_eq_true (Int.ofNat_lt.2 hi2)
      have hadd1 : add1 .i64 (Int.ofNat i) 1 = Int.ofNat (i + 1) := by rw [hA1.add, IntWalk.i64_in _ (by simp only [Int.ofNat_eq_natCast]; omega)]; rfl
      cbv
      refine vcIf.yes hcc ?_
      cbv
      refine hcode1 _ _ _ (CodeEv.drawA eOk fOk (by kernel_rfl) (Xof 17 []) (by kernel_rfl) (by kernel_rfl) (by kernel_rfl) ?_)
      intro _ _ _ _ _ _ _ _ _ _ _ _ _ _ _ _ _ _ _ _ _ _ _ hA3 _ _ sl3 _ _ _ _ _ _ _ hL3 _ _ _ hcall3 _ _ _ hq3
      have hff3 : sl3 pk FF = true := by rw [hL3.sl]; exact hff
      cbv
      refine ⟨i, _, rfl, hpz, rfl, ?_⟩
      cbv
      refine hcall3 _ _ _ _ _ (CallEv.same hhas rfl ?_)
      rintro _ _ ⟨rfl, rfl⟩
      cbv
      cases bb with
      | false =>
        rw [if_neg (by decide), List.append_nil] at hnx
        repeat (first | (refine vcIf.yes ?_ ?_; (focus (simp [smW hA3 hL3]; done)); cbv) | (refine vcIf.no ?_ ?_; (focus (simp [smW hA3 hL3]; done)); cbv))
        refine hq3 _ ?_
        cbv
        repeat (first | (refine vcIf.yes ?_ ?_; (focus (simp [smW hA3 hL3]; done)); cbv) | (refine vcIf.no ?_ ?_; (focus (simp [smW hA3 hL3]; done)); cbv))
        refine hrd _ ⟨(i + 1, m, vs), _, ?_, ⟨hi2, by simp only; rw [hnx]; exact k2, k3⟩, rfl, ⟨rfl, rfl, rfl, rfl, rfl, ?_, trivial⟩, rfl, rfl, rfl, by rw [hB]; exact Nat.le_of_ble_eq_true rfl⟩
        · simp only; omega
        · show some (V.p (.int .i64 _)) = _
          rw [hadd1]
      | true =>
        rw [if_pos rfl] at hnx
        repeat (first | (refine vcIf.yes ?_ ?_; (focus (simp [smW hA3 hL3]; done)); cbv) | (refine vcIf.no ?_ ?_; (focus (simp [smW hA3 hL3]; done)); cbv))
        refine ⟨i, _, rfl, hpz, rfl, ?_⟩
        cbv
        rw [hff3]
        repeat (first | (refine vcIf.yes ?_ ?_; (focus (simp [smW hA3 hL3]; done)); cbv) | (refine vcIf.no ?_ ?_; (focus (simp [smW hA3 hL3]; done)); cbv))
        refine hq3 _ ?_
        cbv
        repeat (first | (refine vcIf.yes ?_ ?_; (focus (simp [smW hA3 hL3]; done)); cbv) | (refine vcIf.no ?_ ?_; (focus (simp [smW hA3 hL3]; done)); cbv))
        refine ⟨i, _, rfl, hpz, rfl, ?_⟩
        cbv
        refine ⟨false, ?_⟩
        cbv
        refine .inl ⟨(), rfl, k3, Wf.one ⟨rfl, by simp [PV.cells, PV.one]⟩, ?_, ?_, ?_⟩
        · show m + 1 ≤ maxLen
          unfold maxLen; omega
        · show (m + 1) * 32 ≤ _
          omega
        intro vs' m' hvs' hm'
        replace hvs' : vs' = vs ++ [.agg [.str pk, .str pv]] := hvs'
        replace hm' : m' = m + 1 := hm'
        cbv
        refine hrd _ ⟨(i + 1, m', vs'), _, ?_, ⟨hi2, by simp only; rw [hnx, hvs', k2]; unfold prP; rw [List.map_append]; rfl, by simp only; rw [hm', hvs', List.length_append, ← k3]; rfl⟩, rfl, ⟨rfl, rfl, rfl, rfl, rfl, ?_, trivial⟩, rfl, rfl, rfl, by rw [hB]; exact Nat.le_of_ble_eq_true rfl⟩
        · simp only; omega
        · show some (V.p (.int .i64 _)) = _
          rw [hadd1]
    have hiM : i = M := by omega
    rw [List.take_of_length_le (by omega), ← hsq] at k2
    intro add1 _ _ _ _ _ _ _ _ _ _ _ ilt1 _ _ _ _ _ _ _ _ _ _ hA1 _ _ _ _ _ _ _ len1 _ _ hL1 _ _ _ hcall1 _ hcode1
    have hcc : ilt1 (Int.ofNat i) (len1 ps) = false := by rw [hA1.lt, hL1.len, hpl]; exact decide_eq_false (fun h => hi2 (Int.ofNat_lt.1 h))
    cbv
    refine vcIf.no hcc ?_
    cbv
    refine hcode _ _ _ (CodeEv.freezeG 16 rfl (by rw [hB]; exact Nat.le_of_ble_eq_true rfl) fun g3 hg3 => ?_)
    have hg3z : g3 0 m = prP (seenP lo hi l) := by rw [hg3, List.drop_zero, k3, List.take_length, k2]
    have hpr := rPairs_spec (seenP lo hi l) (seenP lo hi l) (by rw [hsl52]; omega) (by rw [hsl52]; omega) true (by simp) us (g3 0 m) hus hg3z
    refine CodeEv.drawT eOk fOk (by kernel_rfl) (Xof 17 []) (.rd 0 (.so 1 (.so 2 (.so 3 (.so 4 (.so 5 (.so 6 (.rd 7 (.rd 8 (.rd 9 (.rd 10 (.rd 11 (.rd 12 (.rd 13 (.so 14 (.acts (.cons 15 (.so 16 (.so 17 (.rd 18 (.rd 19 (.rd 20 (.rd 21 (.rd 22 (.rd 23 (.rd 24 (.so 25 (.so 26 (.so 27 (.so 28 (.so 29 (.so 30 (.rd 31 (.rd 32 (.rd 33 (.rd 34 (.rd 35 (.rd 36 (.rd 37 (.so 38 (.acts (.cons 39 (.so 40 (.so 41 (.done))) (.nil)))))))))))))))))))))))))) (.nil)))))))))))))))))) (by kernel_rfl) (by kernel_rfl) ?_
    intro add4 sub4 _ _ _ _ _ _ _ _ _ ieq4 _ _ _ _ _ _ _ bcond4 _ _ _ hA4 _ _ _ _ _ _ _ len4 _ _ hL4 _ hop4 _ hcall4 _ _ _ hq4
    have hx1l : len x1 = ((ns + 1 : Nat) : Int) := by rw [hL.len, hxl]
    have hsnl : add4 .i64 (len4 sn) 1 = ((ns + 1 : Nat) : Int) := by rw [hA4.add, hL4.len, ← hns, IntWalk.i64_in _ (by omega)]; omega
    have hsub4 : sub4 .i64 (len x1) 1 = Int.ofNat ns := by rw [hA4.sub, hx1l, IntWalk.i64_in _ (by omega)]; simp only [Int.ofNat_eq_natCast]; omega
    have he1 : ieq4 (len x1) (add4 .i64 (len4 sn) 1) = true := by rw [hA4.eq, hx1l, hsnl]; exact decide_eq_true rfl
    have hcd : bcond4 true true false = true := by rw [hA4.cond]; rfl
    have he2 : ieq4 (Int.ofNat N) (len4 cs) = true := by rw [hA4.eq, hL4.len, hcl]; exact decide_eq_true rfl
    cbv
    rw [he1]
    cbv
    rw [hsub4]
    refine ⟨ns, _, rfl, hxi, rfl, ?_⟩
    cbv
    refine hop4 _ _ _ _ (OpEv.aggEq (b := true) rfl rfl rfl (by kernel_rfl) (by kernel_rfl) (by kernel_rfl) ((spnEq lo lo hi hi).trans (by simp)) ?_)
    cbv
    rw [hcd]
    cbv
    rw [hsub4]
    refine ⟨ns, _, rfl, hxi, rfl, ?_⟩
    cbv
    rw [he2]
    cbv
    rw [hcd]
    cbv
    rw [hsub4]
    refine ⟨ns, _, rfl, hxi, rfl, ?_⟩
    cbv
    refine hcall4 _ _ _ _ _ (CallEv.same hpr rfl ?_)
    rintro _ _ ⟨rfl, rfl⟩
    cbv
    rw [hcd]
    refine hq4 _ ?_
    cbv
    exact hret _ (RetEv.convW (ConvW.pack [0, 1, 2, 3, 4, 5, 6, 7, 8, 9, 10] hB rfl) (RetEv.ret eOk rfl (by exact hk _ _ _ hq)))
  · obtain ⟨KL, hKL⟩ : ∃ K, K = key.length := ⟨_, rfl⟩
    rw [← hKL] at hkl
    refine fn_of_vc eOk fOk fo39 Tryz.func39 rfl rfl rfl fun B hB => ?_
    intro add sub _ _ _ _ _ _ _ _ _ _ ilt ile _ _ _ bnot orb _ _ _ _ hA _ sq sl _ _ _ _ len slen _ hL _ _ _ hcall _ hcode ret hret
    have hgt : bnot (orb (sl lo hi) (sq lo hi)) = false := by rw [hA.not, hA.orb, hL.sl, hL.sq]; exact (bl_gt lo hi).trans hE.2.2
    have q1' : ilt 17 (slen lo) = false := by rw [hA.lt, hL.slen, ← hnl]; exact decide_eq_false (by omega)
    have q2' : ilt 17 (slen hi) = false := by rw [hA.lt, hL.slen, ← hnh]; exact decide_eq_false (by omega)
    have q3' : ile 24 (len sn) = false := by rw [hA.le, hL.len, ← hns]; exact decide_eq_false (by omega)
    have hsk : ilt 16 (slen key) = false := by rw [hA.lt, hL.slen, ← hKL]; exact decide_eq_false (by omega)
    cbv
    repeat (first | (refine vcIf.yes ?_ ?_; (focus (simp [smW hA hL]; done)); cbv) | (refine vcIf.no ?_ ?_; (focus (simp [smW hA hL]; done)); cbv))
    rw [hsk]
    cbv
    repeat (first | (refine vcIf.yes ?_ ?_; (focus (simp [smW hA hL]; done)); cbv) | (refine vcIf.no ?_ ?_; (focus (simp [smW hA hL]; done)); cbv))
    refine hcall _ _ _ _ _ (CallEv.same hno rfl ?_)
    rintro _ _ ⟨_, rfl, rfl, rfl⟩
    cbv
    repeat (first | (refine vcIf.yes ?_ ?_; (focus (simp [smW hA hL]; done)); cbv) | (refine vcIf.no ?_ ?_; (focus (simp [smW hA hL]; done)); cbv))
    rw [q1']
    cbv
    rw [q2']
    cbv
    repeat (first | (refine vcIf.yes ?_ ?_; (focus (simp [smW hA hL]; done)); cbv) | (refine vcIf.no ?_ ?_; (focus (simp [smW hA hL]; done)); cbv))
    refine vcIf.no hgt ?_
    cbv
    refine vcIf.no q3' ?_
    cbv
    repeat (first | (refine vcIf.yes ?_ ?_; (focus (simp [smW hA hL]; done)); cbv) | (refine vcIf.no ?_ ?_; (focus (simp [smW hA hL]; done)); cbv))
    refine hcall _ _ _ _ _ (CallEv.lend [0, 1, 2, 3, 4, 5, 6, 7, 8, 9, 10] hse rfl (.cons (.own 9 9 0 rfl) (.cons (.p _) (.cons (.p _) .nil))) (gmT2 rfl rfl rfl rfl rfl rfl rfl rfl rfl rfl rfl rfl rfl rfl rfl rfl rfl rfl rfl rfl rfl) ?_)
    rintro _ _ ⟨g, nt, xt, hq, rfl⟩
    obtain ⟨hdy, hsn⟩ := hQ _ _ _ hq
    have hdd := hdy.spec
    clear hdy
    obtain ⟨c3, fr, hd, qn, wt, tk, dr', dO', dv', n1, n2, bg, n3, lo0, hi0, o4, n4, n5, n6, ep, sv, x1, x2, x3, x4, x5, x6⟩ := g
    simp only at hdd hsn
    cbv
    refine hcall _ _ _ _ _ (CallEv.lend [0, 1, 2, 3, 4, 5, 6] hdd rfl (.cons (.own 0 0 0 rfl) .nil) (gqT rfl rfl rfl rfl rfl rfl rfl rfl rfl rfl rfl rfl rfl) ?_)
    rintro _ _ ⟨z, hz, rfl, rfl⟩
    cbv
    cases z with
    | true =>
      repeat (first | (refine vcIf.yes ?_ ?_; (focus (simp [smW hA hL]; done)); cbv) | (refine vcIf.no ?_ ?_; (focus (simp [smW hA hL]; done)); cbv))
      exact hret _ (RetEv.convW (ConvW.pack [0, 1, 2, 3, 4, 5, 6, 7, 8, 9, 10] hB rfl) (RetEv.ret eOk rfl (by exact hk _ _ _ hq)))
    | false =>
    repeat (first | (refine vcIf.yes ?_ ?_; (focus (simp [smW hA hL]; done)); cbv) | (refine vcIf.no ?_ ?_; (focus (simp [smW hA hL]; done)); cbv))
    by_cases hO : dO' = 0
    rotate_left
    · repeat (first | (refine vcIf.yes ?_ ?_; (focus (simp [smW hA hL, hO]; done)); cbv) | (refine vcIf.no ?_ ?_; (focus (simp [smW hA hL, hO]; done)); cbv))
      exact hret _ (RetEv.convW (ConvW.pack [0, 1, 2, 3, 4, 5, 6, 7, 8, 9, 10] hB rfl) (RetEv.ret eOk rfl (by exact hk _ _ _ hq)))
    subst hO
    obtain ⟨us, hxi, hus, hxl⟩ := hsn (by simpa using hz) rfl
    repeat (first | (refine vcIf.yes ?_ ?_; (focus (simp [smW hA hL]; done)); cbv) | (refine vcIf.no ?_ ?_; (focus (simp [smW hA hL]; done)); cbv))
    refine hcode _ _ _ (CodeEv.drawA eOk fOk (by kernel_rfl) (Xof 15 []) (by kernel_rfl) (by kernel_rfl) (by kernel_rfl) ?_)
    intro _ _ _ _ _ _ _ _ _ _ _ _ _ _ _ _ _ _ _ _ _ _ _ _ _ _ _ _ _ _ _ _ _ _ _ _ _ _ hcall2 _ _ _ hq2
    cbv
    refine hcall2 _ _ _ _ _ (CallEv.frzR (CallEv.shown [] [7, 8] hls rfl (.cons (rpT (by decide) (by decide) rfl rfl _ hwt) (.cons (.p _) (.cons (.p _) (.cons (.p _) .nil)))) trivial ?_))
    rintro _ _ ⟨e, ps0, m0, rfl, hps0, hm0, rfl, rfl⟩
    refine ⟨flatT2 _ _ _ _ _ _, flatR hps0, 15, _, _, _, rfl, (by rw [hB]; exact Nat.le_of_ble_eq_true rfl), fun g2 hg2 => ?_⟩
    have hg2z : g2 0 m0 = ps0 := by rw [hg2, List.drop_zero, hm0, List.take_length]
    obtain ⟨pp, hpp⟩ : ∃ pp, pp = g2 0 m0 := ⟨_, rfl⟩
    have hppL : pp = prP (ones P0 (l.take 0)) := by rw [hpp, hg2z, hps0]; rfl
    cbv
    rw [← hpp]
    refine hq2 _ ?_
    cbv
    refine hcode _ _ _ (CodeEv.loop eOk fOk (ι := Nat × List PV) (fun q => [(8, .own 11 0), (13, .own 13 0), (15, .own 14 0), (17, .p (.sl q.2)), (19, .p (.int .i64 (Int.ofNat q.1)))])
      (fun q => gmO c ⟨c3, fr, hd, qn, wt, tk, dr', 0, dv', n1, n2, bg, n3, lo0, hi0, o4, n4, n5, n6, ep, sv, x1, x2, x3, x4, x5, x6⟩ nt xt ws ++ [.st 38 [.p (.str lo), .p (.str hi)], .st 56 [.p (.int .i64 1), .p (.int .i64 n), .p (.str key), .p (.str a), .p (.str b), .p (.int .i64 ck), .p (.str cy), .p (.str cv)],
        .st 42 [.p (.int .i64 0), .p (.int .i64 0), .p (.int .i64 0), .p (.int .i64 dr), .p (.int .i64 dO), .p (.int .i64 dv), .p (.sl sn), .p (.sl cs)], .st 42 [.p (.int .i64 0), .p (.int .i64 0), .p (.int .i64 0), .p (.int .i64 dr'), .p (.int .i64 0), .p (.int .i64 dv'), .p (.sl x1), .p (.sl x2)], .dead])
      (fun q => q.1 ≤ N ∧ q.2 = prP (ones P0 (l.take q.1))) (fun q => N - q.1) (0, pp) ?_ ?_)
    · exact ⟨(by repeat (first | exact trivial | refine And.intro rfl ?_)), rfl, Nat.zero_le _, hppL⟩
    rintro ⟨j, ps⟩ ⟨g1, g2'⟩ rd hrd
    simp only at g1 g2'
    by_cases hj : j < N
    · refine Exists.elim (get_of_lt (show j < l.length by omega)) fun ch hch => ?_
      have hzj : cs[j]? = some (.agg [.int .i64 ch.kind, .str ch.key, .str ch.val]) := by rw [hcs]; exact cP_get hch
      have hon := rOne_spec (ones P0 (l.take j)) (hone j) ch (hlf ch (List.mem_of_getElem? hch)) ps g2'
      rw [show one (ones P0 (l.take j)) ch = ones P0 (l.take (j + 1)) from (ones_next P0 hch).symm] at hon
      obtain ⟨ps', hps'⟩ : ∃ ps', ps' = prP (ones P0 (l.take (j + 1))) := ⟨_, rfl⟩
      rw [← hps'] at hon
      obtain ⟨ck2, cy2, cv2⟩ := ch
      simp only at hzj hon
      intro add1 _ _ _ _ _ _ _ _ _ _ _ ilt1 _ _ _ _ _ _ _ _ _ _ hA1 _ _ _ _ _ _ _ len1 _ _ hL1 _ _ _ hcall1 _ hcode1
      have hcc : ilt1 (Int.ofNat j) (len1 cs) = true := by rw [hA1.lt, hL1.len, hcl]; exact decide_eq_true (Int.ofNat_lt.2 hj)
      have hadd1 : add1 .i64 (Int.ofNat j) 1 = Int.ofNat (j + 1) := by rw [hA1.add, IntWalk.i64_in _ (by simp only [Int.ofNat_eq_natCast]; omega)]; rfl
      cbv
      refine vcIf.yes hcc ?_
      cbv
      refine ⟨j, _, rfl, hzj, rfl, ?_⟩
      cbv
      refine hcall1 _ _ _ _ _ (CallEv.same hon rfl ?_)
      rintro _ _ ⟨rfl, rfl⟩
      cbv
      refine hrd _ ⟨(j + 1, ps'), _, ?_, ⟨hj, hps'⟩, rfl, ⟨rfl, rfl, rfl, rfl, ?_, trivial⟩, rfl, rfl, rfl, by rw [hB]; exact Nat.le_of_ble_eq_true rfl⟩
      · simp only; omega
      · show some (V.p (.int .i64 _)) = _
        rw [hadd1]
    have hjN : j = N := by omega
    rw [List.take_of_length_le (by omega), ← hW] at g2'
    have hpl : ps.length = M := by rw [g2', prP_length, hM]
    intro add1 _ _ _ _ _ _ _ _ _ _ _ ilt1 _ _ _ _ _ _ _ _ _ _ hA1 _ _ _ _ _ _ _ len1 _ _ hL1 _ _ _ hcall1 _ hcode1
    have hcc : ilt1 (Int.ofNat j) (len1 cs) = false := by rw [hA1.lt, hL1.len, hcl]; exact decide_eq_false (fun h => hj (Int.ofNat_lt.1 h))
    cbv
    refine vcIf.no hcc ?_
    cbv
    refine ⟨true, ?_⟩
    cbv
    refine hcode _ _ _ (CodeEv.loop eOk fOk (ι := Nat × Nat × List PV) (fun q => [(8, .own 11 0), (13, .own 13 0), (15, .own 14 0), (17, .p (.sl ps)), (20, .vw 16 2 0 q.2.1 none), (21, .p (.int .i64 (Int.ofNat q.1)))])
      (fun q => gmO c ⟨c3, fr, hd, qn, wt, tk, dr', 0, dv', n1, n2, bg, n3, lo0, hi0, o4, n4, n5, n6, ep, sv, x1, x2, x3, x4, x5, x6⟩ nt xt ws ++ [.st 38 [.p (.str lo), .p (.str hi)], .st 56 [.p (.int .i64 1), .p (.int .i64 n), .p (.str key), .p (.str a), .p (.str b), .p (.int .i64 ck), .p (.str cy), .p (.str cv)],
        .st 42 [.p (.int .i64 0), .p (.int .i64 0), .p (.int .i64 0), .p (.int .i64 dr), .p (.int .i64 dO), .p (.int .i64 dv), .p (.sl sn), .p (.sl cs)], .st 42 [.p (.int .i64 0), .p (.int .i64 0), .p (.int .i64 0), .p (.int .i64 dr'), .p (.int .i64 0), .p (.int .i64 dv'), .p (.sl x1), .p (.sl x2)], .dead, .arr 84 2 q.2.2])
      (fun q => q.1 ≤ M ∧ q.2.2 = prP ((W.take q.1).filter fun p => hs ⟨lo, hi⟩ p.key) ∧ q.2.1 = q.2.2.length) (fun q => M - q.1) (0, 0, []) ?_ ?_)
    · exact ⟨(by repeat (first | exact trivial | refine And.intro rfl ?_)), rfl, Nat.zero_le _, rfl, rfl⟩
    rintro ⟨i, m, vs⟩ ⟨k1, k2, k3⟩ rd hrd
    simp only at k1 k2 k3
    by_cases hi2 : i < M
    · refine Exists.elim (get_of_lt (show i < W.length by omega)) fun p hp => ?_
      have hpz : ps[i]? = some (.agg [.str p.key, .str p.val]) := by rw [g2']; exact prP_get hp
      have hhas := rhas_spec lo hi p.key
      have hff : bl p.key FF = true := bl_FF (hkey p (List.mem_of_getElem? hp))
      have hnx : (W.take (i + 1)).filter (fun p => hs ⟨lo, hi⟩ p.key) = (W.take i).filter (fun p => hs ⟨lo, hi⟩ p.key) ++ (if hs ⟨lo, hi⟩ p.key = true then [p] else []) := by
        rw [List.take_add_one, hp, List.filter_append]
        by_cases h : hs ⟨lo, hi⟩ p.key = true <;> simp [h]
      rw [show (!(bl p.key lo) && bl p.key hi) = hs ⟨lo, hi⟩ p.key from rfl] at hhas
      have hmi : m ≤ i := by
        rw [k3, k2, prP_length]
        exact Nat.le_trans (List.length_filter_le _ _) (by rw [List.length_take]; exact Nat.min_le_left _ _)
      refine Exists.elim (show ∃ b, b = hs ⟨lo, hi⟩ p.key from ⟨_, rfl⟩) fun bb hbb => ?_
      rw [← hbb] at hnx hhas
      clear hbb
      obtain ⟨pk, pv⟩ := p
      simp only at hpz hhas hff
      intro add1 _ _ _ _ _ _ _ _ _ _ _ ilt1 _ _ _ _ _ _ _ _ _ _ hA1 _ _ _ _ _ _ _ len1 _ _ hL1 _ _ _ hcall1 _ hcode1
      have hcc : ilt1 (Int.ofNat i) (len1 ps) = true := by rw [hA1.lt, hL1.len, hpl]; exact decide_eq_true (Int.ofNat_lt.2 hi2)
      have hadd1 : add1 .i64 (Int.ofNat i) 1 = Int.ofNat (i + 1) := by rw [hA1.add, IntWalk.i64_in _ (by simp only [Int.ofNat_eq_natCast]; omega)]; rfl
      cbv
      refine vcIf.yes hcc ?_
      cbv
      refine hcode1 _ _ _ (CodeEv.drawA eOk fOk (by kernel_rfl) (Xof 17 []) (by kernel_rfl) (by kernel_rfl) (by kernel_rfl) ?_)
      intro _ _ _ _ _ _ _ _ _ _ _ _ _ _ _ _ _ _ _ _ _ _ _ hA3 _ _ sl3 _ _ _ _ _ _ _ hL3 _ _ _ hcall3 _ _ _ hq3
      have hff3 : sl3 pk FF = true := by rw [hL3.sl]; exact hff
      cbv
      refine ⟨i, _, rfl, hpz, rfl, ?_⟩
      cbv
      refine hcall3 _ _ _ _ _ (CallEv.same hhas rfl ?_)
      rintro _ _ ⟨rfl, rfl⟩
      cbv
      cases bb with
      | false =>
        rw [if_neg (by decide), List.append_nil] at hnx
        repeat (first | (refine vcIf.yes ?_ ?_; (focus (simp [smW hA3 hL3]; done)); cbv) | (refine vcIf.no ?_ ?_; (focus (simp [smW hA3 hL3]; done)); cbv))
        refine hq3 _ ?_
        cbv
        repeat (first | (refine vcIf.yes ?_ ?_; (focus (simp [smW hA3 hL3]; done)); cbv) | (refine vcIf.no ?_ ?_; (focus (simp [smW hA3 hL3]; done)); cbv))
        refine hrd _ ⟨(i + 1, m, vs), _, ?_, ⟨hi2, by simp only; rw [hnx]; exact k2, k3⟩, rfl, ⟨rfl, rfl, rfl, rfl, rfl, ?_, trivial⟩, rfl, rfl, rfl, by rw [hB]; exact Nat.le_of_ble_eq_true rfl⟩
        · simp only; omega
        · show some (V.p (.int .i64 _)) = _
          rw [hadd1]
      | true =>
        rw [if_pos rfl] at hnx
        repeat (first | (refine vcIf.yes ?_ ?_; (focus (simp [smW hA3 hL3]; done)); cbv) | (refine vcIf.no ?_ ?_; (focus (simp [smW hA3 hL3]; done)); cbv))
        refine ⟨i, _, rfl, hpz, rfl, ?_⟩
        cbv
        rw [hff3]
        repeat (first | (refine vcIf.yes ?_ ?_; (focus (simp [smW hA3 hL3]; done)); cbv) | (refine vcIf.no ?_ ?_; (focus (simp [smW hA3 hL3]; done)); cbv))
        refine hq3 _ ?_
        cbv
        repeat (first | (refine vcIf.yes ?_ ?_; (focus (simp [smW hA3 hL3]; done)); cbv) | (refine vcIf.no ?_ ?_; (focus (simp [smW hA3 hL3]; done)); cbv))
        refine ⟨i, _, rfl, hpz, rfl, ?_⟩
        cbv
        refine ⟨false, ?_⟩
        cbv
        refine .inl ⟨(), rfl, k3, Wf.one ⟨rfl, by simp [PV.cells, PV.one]⟩, ?_, ?_, ?_⟩
        · show m + 1 ≤ maxLen
          unfold maxLen; omega
        · show (m + 1) * 32 ≤ _
          omega
        intro vs' m' hvs' hm'
        replace hvs' : vs' = vs ++ [.agg [.str pk, .str pv]] := hvs'
        replace hm' : m' = m + 1 := hm'
        cbv
        refine hrd _ ⟨(i + 1, m', vs'), _, ?_, ⟨hi2, by simp only; rw [hnx, hvs', k2]; unfold prP; rw [List.map_append]; rfl, by simp only; rw [hm', hvs', List.length_append, ← k3]; rfl⟩, rfl, ⟨rfl, rfl, rfl, rfl, rfl, ?_, trivial⟩, rfl, rfl, rfl, by rw [hB]; exact Nat.le_of_ble_eq_true rfl⟩
        · simp only; omega
        · show some (V.p (.int .i64 _)) = _
          rw [hadd1]
    have hiM : i = M := by omega
    rw [List.take_of_length_le (by omega), ← hsq] at k2
    intro add1 _ _ _ _ _ _ _ _ _ _ _ ilt1 _ _ _ _ _ _ _ _ _ _ hA1 _ _ _ _ _ _ _ len1 _ _ hL1 _ _ _ hcall1 _ hcode1
    have hcc : ilt1 (Int.ofNat i) (len1 ps) = false := by rw [hA1.lt, hL1.len, hpl]; exact decide_eq_false (fun h => hi2 (Int.ofNat_lt.1 h))
    cbv
    refine vcIf.no hcc ?_
    cbv
    refine hcode _ _ _ (CodeEv.freezeG 16 rfl (by rw [hB]; exact Nat.le_of_ble_eq_true rfl) fun g3 hg3 => ?_)
    have hg3z : g3 0 m = prP (seenP lo hi l) := by rw [hg3, List.drop_zero, k3, List.take_length, k2]
    have hpr := rPairs_spec (seenP lo hi l) (seenP lo hi l) (by rw [hsl52]; omega) (by rw [hsl52]; omega) true (by simp) us (g3 0 m) hus hg3z
    refine CodeEv.drawT eOk fOk (by kernel_rfl) (Xof 17 []) (.rd 0 (.so 1 (.so 2 (.so 3 (.so 4 (.so 5 (.so 6 (.rd 7 (.rd 8 (.rd 9 (.rd 10 (.rd 11 (.rd 12 (.rd 13 (.so 14 (.acts (.cons 15 (.so 16 (.so 17 (.rd 18 (.rd 19 (.rd 20 (.rd 21 (.rd 22 (.rd 23 (.rd 24 (.so 25 (.so 26 (.so 27 (.so 28 (.so 29 (.so 30 (.rd 31 (.rd 32 (.rd 33 (.rd 34 (.rd 35 (.rd 36 (.rd 37 (.so 38 (.acts (.cons 39 (.so 40 (.so 41 (.done))) (.nil)))))))))))))))))))))))))) (.nil)))))))))))))))))) (by kernel_rfl) (by kernel_rfl) ?_
    intro add4 sub4 _ _ _ _ _ _ _ _ _ ieq4 _ _ _ _ _ _ _ bcond4 _ _ _ hA4 _ _ _ _ _ _ _ len4 _ _ hL4 _ hop4 _ hcall4 _ _ _ hq4
    have hx1l : len x1 = ((ns + 1 : Nat) : Int) := by rw [hL.len, hxl]
    have hsnl : add4 .i64 (len4 sn) 1 = ((ns + 1 : Nat) : Int) := by rw [hA4.add, hL4.len, ← hns, IntWalk.i64_in _ (by omega)]; omega
    have hsub4 : sub4 .i64 (len x1) 1 = Int.ofNat ns := by rw [hA4.sub, hx1l, IntWalk.i64_in _ (by omega)]; simp only [Int.ofNat_eq_natCast]; omega
    have he1 : ieq4 (len x1) (add4 .i64 (len4 sn) 1) = true := by rw [hA4.eq, hx1l, hsnl]; exact decide_eq_true rfl
    have hcd : bcond4 true true false = true := by rw [hA4.cond]; rfl
    have he2 : ieq4 (Int.ofNat N) (len4 cs) = true := by rw [hA4.eq, hL4.len, hcl]; exact decide_eq_true rfl
    cbv
    rw [he1]
    cbv
    rw [hsub4]
    refine ⟨ns, _, rfl, hxi, rfl, ?_⟩
    cbv
    refine hop4 _ _ _ _ (OpEv.aggEq (b := true) rfl rfl rfl (by kernel_rfl) (by kernel_rfl) (by kernel_rfl) ((spnEq lo lo hi hi).trans (by simp)) ?_)
    cbv
    rw [hcd]
    cbv
    rw [hsub4]
    refine ⟨ns, _, rfl, hxi, rfl, ?_⟩
    cbv
    rw [he2]
    cbv
    rw [hcd]
    cbv
    rw [hsub4]
    refine ⟨ns, _, rfl, hxi, rfl, ?_⟩
    cbv
    refine hcall4 _ _ _ _ _ (CallEv.same hpr rfl ?_)
    rintro _ _ ⟨rfl, rfl⟩
    cbv
    rw [hcd]
    refine hq4 _ ?_
    cbv
    exact hret _ (RetEv.convW (ConvW.pack [0, 1, 2, 3, 4, 5, 6, 7, 8, 9, 10] hB rfl) (RetEv.ret eOk rfl (by exact hk _ _ _ hq)))
end Go.Proofs.YtegkojnngdlfaaaGreat
