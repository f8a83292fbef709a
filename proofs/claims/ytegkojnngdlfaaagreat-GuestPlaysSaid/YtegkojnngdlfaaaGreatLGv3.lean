/- Guest: the game: what a shelf answers. Conditions: on sizes. -/
import Derived.Test.YtegkojnngdlfaaaGreatLGv2
set_option maxRecDepth 100000
set_option maxHeartbeats 64000000
set_option linter.unusedSimpArgs false
set_option linter.unusedVariables false
namespace Go.Proofs.YtegkojnngdlfaaaGreat
open Go Go.Lx
open Go.Sx (vcIf)
theorem rtxt_spec (s r : List UInt8) (hs : s.length ≤ 65536) (hl : (enct s ++ r).length < 1000000000) (ys : List PV) (hys : ys = bP (enct s ++ r)) :
    FnL Tryz.prog 62 [.own 0 0] [rrSt ys false] fun z own => ∃ zs, zs = bP r ∧ z = .p (.str s) ∧ own = [rrSt zs false] := by
  refine (rrText_spec (enct s ++ r) (by omega) 0 ys hys false rfl).mono ?_
  rintro _ _ ⟨s', l', e', zs, b, h1, h2, rfl, rfl, rfl⟩
  rw [rdT_enc s hs r] at h1
  cases h1
  exact ⟨zs, h2, rfl, rfl⟩
theorem rputN_spec (x : Nat) (hx : x < 9223372036854775808) :
    FnL Tryz.prog 65 [.p .nils, .p (.int .i64 (x : Int))] [] fun z own => ∃ m' ys, ys = bP (enc x) ∧ m' = ys.length ∧ z = .vw 0 1 0 m' none ∧ own = [.arr 5 1 ys] := by
  have := rput_spec [] 0 x rfl hx (by decide)
  refine FnL.mono (FnL.hollowA 0 5 1 (by decide) rfl this) ?_
  rintro _ _ ⟨m', ys, h1, h2, h3, h4⟩
  exact ⟨m', ys, h2, by rw [h2, h1, List.nil_append, bP_length, Nat.zero_add], h3, h4⟩
theorem enctL (s : List UInt8) (hs : s.length ≤ 17) : (enct s).length ≤ 30 := by
  have h := enc_len9 (show s.length < 9223372036854775808 by omega)
  unfold enct; rw [List.length_append]; omega
def plo (k i : Nat) : List UInt8 := if 0 < i then [UInt8.ofNat (97 + 26 * i / k)] else []
def phi (k i : Nat) : List UInt8 := if i + 1 < k then [UInt8.ofNat (97 + 26 * (i + 1) / k)] else [255, 255, 255, 255, 255, 255, 255, 255, 255, 255, 255, 255, 255, 255, 255, 255, 255]
theorem ansS (c : Int) (ws : List PV) (hws : ws = rlP gmL) (g : Gq) (nt : Nat) (xt : List PV) (k i : Nat) (hk : 1 ≤ k ∧ k ≤ 4) (hik : i < k) (hc : c = Int.ofNat k) (k0 f tg e0 a b : Int) (htg : tg = 40 + (i : Int)) (slo shi : List UInt8) (hslo : slo.length ≤ 17) (hshi : shi.length ≤ 17) (bd : List PV) (hbd : bd = bP (encts [slo, shi])) {Q : Gq → Nat → List PV → Prop} {R0 : V → List Res → Prop}
    (hT : ∀ bd, bd = bP (prB (lst (atR gmL 30) (mt ⟨slo, shi⟩ ⟨plo k i, phi k i⟩) 1000)) → FnL Tryz.prog 11 [.own 0 0, .p (msP 2 tg 100 0 a 0 0 (.sl bd))] g.R R0)
    (hR : ∀ v own, R0 v own → ∃ x g', v = .p x ∧ own = g'.R ∧ GmC 42 [.own 9 0, .p x, .p (.int .i64 0)] c ws g' nt xt Q) :
    GmC 34 [.own 9 0, .p (msP k0 f tg e0 a b 30 (.sl bd))] c ws g nt xt Q := by
  unfold GmC
  obtain ⟨K, hK⟩ : ∃ K : V → List Res → Prop, K = fun v own => ∃ g' nt' xt', Q g' nt' xt' ∧ own = gmO c g' nt' xt' ws := ⟨_, rfl⟩
  have hKg : ∀ v own, K v own → ∃ g' nt' xt', own = gmO c g' nt' xt' ws := fun v own h => by rw [hK] at h; obtain ⟨g, nt, xt, -, h⟩ := h; exact ⟨g, nt, xt, h⟩
  have hKv : ∀ v v' own, K v own → K v' own := fun v v' own h => by rw [hK] at h ⊢; exact h
  rw [← hK]
  subst hc
  have ht1 := rtxt_spec slo (enct shi) (by omega) (by have h1 := enctL slo hslo; have h2 := enctL shi hshi; rw [List.length_append]; omega) bd (by rw [hbd]; simp [encts])
  have ht2 := fun zs hz => rtxt_spec shi [] (by omega) (by have h2 := enctL shi hshi; rw [List.append_nil]; omega) zs hz
  clear hbd
  obtain ⟨PL, hPL⟩ : ∃ PL, PL = plo k i := ⟨_, rfl⟩
  obtain ⟨PH, hPH⟩ : ∃ PH, PH = phi k i := ⟨_, rfl⟩
  rw [← hPL, ← hPH] at hT
  have hPL1 : 0 < i → PL = [UInt8.ofNat (97 + 26 * i / k)] := fun h => by rw [hPL, plo, if_pos h]
  have hPL0 : ¬ 0 < i → PL = [] := fun h => by rw [hPL, plo, if_neg h]
  have hPH1 : i + 1 < k → PH = [UInt8.ofNat (97 + 26 * (i + 1) / k)] := fun h => by rw [hPH, phi, if_pos h]
  have hPH0 : ¬ i + 1 < k → PH = [255, 255, 255, 255, 255, 255, 255, 255, 255, 255, 255, 255, 255, 255, 255, 255, 255] := fun h => by rw [hPH, phi, if_neg h]
  have hmt := rmeet_spec slo shi PL PH
  obtain ⟨⟨ml, mh⟩, hm⟩ : ∃ m, m = mt ⟨slo, shi⟩ ⟨PL, PH⟩ := ⟨_, rfl⟩
  rw [← hm] at hmt hT
  have hls := rpList_spec gmL (by decide) 10 30 30 1000 (by decide) ml mh ws hws (fun _ => by decide)
  rw [show liE 10 30 30 1000 = 0 by decide, show knw 10 30 30 = 0 by decide, if_pos ⟨rfl, by decide⟩] at hls
  obtain ⟨L, hLe⟩ : ∃ L, L = lst (atR gmL 30) ⟨ml, mh⟩ 1000 := ⟨_, rfl⟩
  rw [← hLe] at hT hls
  have hLm : ∀ p ∈ L, p.key.length ≤ 1 ∧ p.val.length ≤ 1 := fun p hp => by
    rw [hLe] at hp
    have := List.mem_filter.1 (List.mem_of_mem_take hp)
    exact (show ∀ p ∈ atR gmL 30, p.key.length ≤ 1 ∧ p.val.length ≤ 1 by decide) p this.1
  have hLl : L.length ≤ 4 := by
    rw [hLe, lst]
    have h1 := List.length_filter_le (fun p : Pr => hs ⟨ml, mh⟩ p.key) (atR gmL 30)
    have h3 : (atR gmL 30).length = 4 := by decide
    rw [List.length_take]
    omega
  have hput := rputN_spec L.length (by omega)
  have hprl : (prP L).length = L.length := prP_length L
  obtain ⟨N, hN⟩ : ∃ N, N = L.length := ⟨_, rfl⟩
  rw [← hN] at hput hprl
  have hwt : ws = (ws.drop 0).take 2 := by rw [hws]; rfl
  clear hm hLe hws
  obtain ⟨c3, fr, hd, qn, wt, tk, dr, dO, dv, n1, n2, bg, n3, lo, hi, o4, n4, n5, n6, ep, sv, x1, x2, x3, x4, x5, x6⟩ := g
  refine fn_of_vc eOk fOk fo34 Tryz.func34 rfl rfl rfl fun B hB => ?_
  intro add sub mul quo _ _ _ _ _ _ _ _ _ _ _ _ _ _ _ _ iwrap _ _ hA _ _ sl _ _ _ _ len _ u8 hL _ _ _ hcall _ hcode ret hret
  have hsb : sub .i64 tg 40 = Int.ofNat i := by rw [hA.sub, IntWalk.i64_in _ (by omega)]; simp only [Int.ofNat_eq_natCast]; omega
  have hval : ∀ j, j < k → iwrap .u8 (add .i64 97 (quo .i64 (mul .i64 26 (Int.ofNat j)) (Int.ofNat k))) = (((97 + 26 * j / k) % 256 : Nat) : Int) := fun j hj => by
    have hd := Nat.div_le_self (26 * j) k
    obtain ⟨y, hy⟩ : ∃ y, y = 26 * j / k := ⟨_, rfl⟩
    rw [← hy] at hd ⊢
    rw [hA.mul, show (26 : Int) * Int.ofNat j = Int.ofNat (26 * j) from rfl, IntWalk.i64_in _ (by simp only [Int.ofNat_eq_natCast]; omega), hA.quo, show (Int.ofNat (26 * j)).tdiv (Int.ofNat k) = Int.ofNat (26 * j / k) from rfl, ← hy, IntWalk.i64_in _ (by
      simp only [Int.ofNat_eq_natCast]; omega), hA.add, show (97 : Int) + Int.ofNat y = Int.ofNat (97 + y) from (Int.natCast_add 97 _).symm, IntWalk.i64_in _ (by simp only [Int.ofNat_eq_natCast]; omega), hA.wrap, wrap_u8]
  have hadi : add .i64 (Int.ofNat i) 1 = Int.ofNat (i + 1) := by rw [hA.add, IntWalk.i64_in _ (by simp only [Int.ofNat_eq_natCast]; omega)]; rfl
  have h60 : ¬ 60 ≤ tg := by omega
  cbv
  repeat (first | (refine vcIf.yes ?_ ?_; (focus (simp [smW hA hL, h60]; done)); cbv) | (refine vcIf.no ?_ ?_; (focus (simp [smW hA hL, h60]; done)); cbv))
  refine hcall _ _ _ _ _ (CallEv.lend [13] ht1 rfl (.cons (.own 0 13 0 rfl) .nil) (rrL rfl) ?_)
  rintro _ _ ⟨z1, hz1, rfl, rfl⟩
  have ht2 := ht2 z1 (by rw [hz1, List.append_nil])
  cbv
  refine hcall _ _ _ _ _ (CallEv.lend [13] ht2 rfl (.cons (.own 0 13 0 rfl) .nil) (rrL rfl) ?_)
  rintro _ _ ⟨z2, hz2, rfl, rfl⟩
  cbv
  rw [hsb]
  by_cases h0 : 0 < i
  · refine vcIf.yes (by rw [hA.lt]; exact decide_eq_true (by simp only [Int.ofNat_eq_natCast]; omega)) ?_
    cbv
    refine ⟨(), by simp only [Int.ofNat_eq_natCast]; omega, ?_⟩
    cbv
    refine ⟨false, ?_⟩
    cbv
    refine ⟨[UInt8.ofNat (97 + 26 * i / k)], ?_, ?_⟩
    · show [PV.int IntKind.u8 _] = _
      rw [hval i (by omega)]
      rw [bP_eq]; simp
    rw [← hPL1 (by omega)]
    cbv
    rw [hadi]
    by_cases h1 : i + 1 < k
    · refine vcIf.yes (by rw [hA.lt]; exact decide_eq_true (by simp only [Int.ofNat_eq_natCast]; omega)) ?_
      cbv
      rw [hadi]
      refine ⟨(), by simp only [Int.ofNat_eq_natCast]; omega, ?_⟩
      cbv
      refine ⟨false, ?_⟩
      cbv
      refine ⟨[UInt8.ofNat (97 + 26 * (i + 1) / k)], ?_, ?_⟩
      · show [PV.int IntKind.u8 _] = _
        rw [hval (i + 1) (by omega)]
        rw [bP_eq]; simp
      rw [← hPH1 (by omega)]
      cbv
      refine hcode _ _ _ (CodeEv.drawA eOk fOk (by kernel_rfl) (Xof 16 []) (by kernel_rfl) (by kernel_rfl) (by kernel_rfl) ?_)
      intro _ _ _ _ _ _ _ _ _ _ _ _ _ _ _ _ _ _ _ _ _ _ _ _ _ _ _ _ _ _ _ _ _ _ _ _ _ _ hcall2 _ _ _ hq2
      cbv
      refine hcall2 _ _ _ _ _ (CallEv.same hmt rfl ?_)
      rintro _ _ ⟨_, rfl, rfl, rfl⟩
      cbv
      refine hcall2 _ _ _ _ _ (CallEv.frzR (CallEv.shown [] [7, 8] hls rfl (.cons (rpT (by decide) (by decide) rfl rfl _ hwt) (.cons (.p _) (.cons (.p _) (.cons (.p _) .nil)))) trivial ?_))
      rintro _ _ ⟨e, us, m, rfl, hus, hm2, rfl, rfl⟩
      refine ⟨flatT2 _ _ _ _ _ _, flatR hus, 16, _, _, _, rfl, (by rw [hB]; exact Nat.le_of_ble_eq_true rfl), fun g2 hg2 => ?_⟩
      have hg2z : g2 0 m = us := by rw [hg2, List.drop_zero, hm2, List.take_length]
      obtain ⟨pp, hpp⟩ : ∃ pp, pp = g2 0 m := ⟨_, rfl⟩
      have hppL : pp = prP L := by rw [hpp, hg2z, hus]
      cbv
      rw [← hpp]
      refine hq2 _ ?_
      cbv
      have hlen : len pp = ((N : Nat) : Int) := by rw [hL.len, hppL, hprl]
      rw [hlen]
      refine hcall _ _ _ _ _ (CallEv.same hput rfl ?_)
      rintro _ _ ⟨m1, y1, hy1, hm1, rfl, rfl⟩
      have hm1b : m1 ≤ 10 := by rw [hm1, hy1, bP_length]; have := enc_len9 (show N < 9223372036854775808 by omega); omega
      cbv
      refine hcode _ _ _ (CodeEv.loop eOk fOk (ι := Nat × Nat × List PV) (fun q => [(0, .own 9 0), (4, .own 12 0), (11, .p (.sl pp)), (13, .p (.int .i64 (Int.ofNat q.1)))])
        (fun q => gmO (Int.ofNat k) ⟨c3, fr, hd, qn, wt, tk, dr, dO, dv, n1, n2, bg, n3, lo, hi, o4, n4, n5, n6, ep, sv, x1, x2, x3, x4, x5, x6⟩ nt xt ws ++ [.st 28 [.p (.int .i64 k0), .p (.int .i64 f), .p (.int .i64 tg), .p (.int .i64 e0), .p (.int .i64 a), .p (.int .i64 b), .p (.int .i64 30), .p (.sl bd)],
          .st 28 [.p (.int .i64 2), .p (.int .i64 tg), .p (.int .i64 100), .p (.int .i64 0), .p (.int .i64 a), .p (.int .i64 0), .p (.int .i64 0), .vw 17 1 0 q.2.1 none], rrSt z2 false, .st 38 [.p (.str slo), .p (.str shi)], .st 38 [.p (.str PL), .p (.str PH)], .dead, .arr 5 1 q.2.2])
        (fun q => q.1 ≤ N ∧ q.2.2 = bP (enc N ++ prT (L.take q.1)) ∧ q.2.1 = q.2.2.length ∧ q.2.1 ≤ 10 + 20 * q.1) (fun q => N - q.1) (0, m1, y1) ?_ ?_)
      · exact ⟨(by repeat (first | exact trivial | refine And.intro rfl ?_)), rfl, Nat.zero_le _, by simp only; rw [hy1]; simp [prT], hm1, hm1b⟩
      rintro ⟨j, m, ys⟩ ⟨g1, g2', g3, g4⟩ rd hrd
      simp only at g1 g2' g3 g4
      by_cases hj : j < N
      · refine Exists.elim (get_of_lt (show j < L.length by omega)) fun p hp => ?_
        have hpm := hLm p (List.mem_of_getElem? hp)
        have hzj : pp[j]? = some (.agg [.str p.key, .str p.val]) := by rw [hppL]; exact prP_get hp
        have htk : prT (L.take (j + 1)) = prT (L.take j) ++ (enct p.key ++ enct p.val) := by
          rw [List.take_add_one, hp]; unfold prT; rw [List.flatMap_append]; simp [encts]
        obtain ⟨pk, pv⟩ := p
        simp only at hpm hzj htk
        have hpt1 := rputText_spec pk m ys g3.symm (by omega)
        intro add1 _ _ _ _ _ _ _ _ _ _ _ ilt1 _ _ _ _ _ _ _ _ _ _ hA1 _ _ _ _ _ _ _ len1 _ _ hL1 _ _ _ _ _ hcode1
        have hcc : ilt1 (Int.ofNat j) (len1 pp) = true := by rw [hA1.lt, hL1.len, hppL, hprl]; exact decide_eq_true (Int.ofNat_lt.2 hj)
        have hadd1 : add1 .i64 (Int.ofNat j) 1 = Int.ofNat (j + 1) := by rw [hA1.add, IntWalk.i64_in _ (by simp only [Int.ofNat_eq_natCast]; omega)]; rfl
        cbv
        refine vcIf.yes hcc ?_
        cbv
        refine hcode1 _ _ _ (CodeEv.drawA eOk fOk (by kernel_rfl) (Xof 18 [12, 17]) (by kernel_rfl) (by kernel_rfl) (by kernel_rfl) ?_)
        intro _ _ _ _ _ _ _ _ _ _ _ _ _ _ _ _ _ _ _ _ _ _ _ _ _ _ _ _ _ _ _ _ _ _ _ _ _ _ hcall3 _ _ _ hq3
        cbv
        refine ⟨j, _, rfl, hzj, rfl, ?_⟩
        cbv
        refine ⟨j, _, rfl, hzj, rfl, ?_⟩
        cbv
        refine hcall3 _ _ _ _ _ (CallEv.lend [17] hpt1 rfl (.cons (.vw 0 17 1 0 m none rfl) (.cons (.p _) .nil)) ⟨⟨_, rfl, .arr _ _ _⟩, trivial⟩ ?_)
        rintro _ _ ⟨m5, y5, hy5, hm5, hm5b, rfl, rfl⟩
        have hpt2 := rputText_spec pv m5 y5 hm5.symm (by omega)
        cbv
        refine hcall3 _ _ _ _ _ (CallEv.lend [17] hpt2 rfl (.cons (.vw 0 17 1 0 m5 none rfl) (.cons (.p _) .nil)) ⟨⟨_, rfl, .arr _ _ _⟩, trivial⟩ ?_)
        rintro _ _ ⟨m6, y6, hy6, hm6, hm6b, rfl, rfl⟩
        cbv
        refine hq3 _ ?_
        cbv
        refine hrd _ ⟨(j + 1, m6, y6), _, ?_, ⟨hj, ?_, hm6, ?_⟩, rfl, ⟨rfl, rfl, rfl, ?_, trivial⟩, rfl, rfl, rfl, by rw [hB]; exact Nat.le_of_ble_eq_true rfl⟩
        · simp only; omega
        · simp only; rw [hy6, hy5, g2', htk, ← bP_append, ← bP_append]; simp
        · simp only; omega
        · show some (V.p (.int .i64 _)) = _
          rw [hadd1]
      · have hjN : j = N := by omega
        rw [List.take_of_length_le (by omega)] at g2'
        intro add1 _ _ _ _ _ _ _ _ _ _ _ ilt1 _ _ _ _ _ _ _ _ _ _ hA1 _ _ _ _ _ _ _ len1 _ _ hL1 _ _ _ _ _ hcode1
        have hcc : ilt1 (Int.ofNat j) (len1 pp) = false := by rw [hA1.lt, hL1.len, hppL, hprl]; exact decide_eq_false (fun h => hj (Int.ofNat_lt.1 h))
        cbv
        refine vcIf.no hcc ?_
        cbv
        refine hcode _ _ _ (CodeEv.freezeG 17 rfl (by rw [hB]; exact Nat.le_of_ble_eq_true rfl) fun g2 hg2 => ?_)
        have hg2z : g2 0 m = bP (prB L) := by rw [hg2, List.drop_zero, g3, List.take_length, g2', hN]; rfl
        have htk := hT _ hg2z
        clear hg2z hg2
        refine CodeEv.drawT eOk fOk (by kernel_rfl) (Xof 18 [0, 1, 2, 3, 4, 5, 6, 7, 8, 9, 10]) (.rd 0 (.rd 1 (.rd 2 (.rd 3 (.rd 5 (.so 4 (.acts (.cons 6 (.acts (.cons 7 (.done) (.nil))) (.nil))))))))) (by kernel_rfl) (by kernel_rfl) ?_
        intro _ _ _ _ _ _ _ _ _ _ _ _ _ _ _ _ _ _ _ _ _ _ _ _ _ _ _ _ _ _ _ _ _ _ _ _ _ _ hcall4 _ _ _ hq4
        cbv
        refine hcall4 _ _ _ _ _ (CallEv.lend [0, 1, 2, 3, 4, 5, 6] htk rfl (.cons (.own 0 0 0 rfl) (.cons (.p _) .nil)) (gqT rfl rfl rfl rfl rfl rfl rfl rfl rfl rfl rfl rfl rfl) ?_)
        intro v own hv
        obtain ⟨x, ⟨c3, fr, hd, qn, wt, tk, dr, dO, dv, n1, n2, bg, n3, lo, hi, o4, n4, n5, n6, ep, sv, x1, x2, x3, x4, x5, x6⟩, rfl, rfl, hse⟩ := hR v own hv
        unfold GmC at hse
        rw [← hK] at hse
        cbv
        refine hcall4 _ _ _ _ _ (CallEv.lend [0, 1, 2, 3, 4, 5, 6, 7, 8, 9, 10] hse rfl (.cons (.own 9 9 0 rfl) (.cons (.p _) (.cons (.p _) .nil))) (gmT2 rfl rfl rfl rfl rfl rfl rfl rfl rfl rfl rfl rfl rfl rfl rfl rfl rfl rfl rfl rfl rfl) ?_)
        intro v own hv
        obtain ⟨⟨c3, fr, hd, qn, wt, tk, dr, dO, dv, n1, n2, bg, n3, lo, hi, o4, n4, n5, n6, ep, sv, x1, x2, x3, x4, x5, x6⟩, nt, xt, rfl⟩ := hKg v own hv
        cbv
        refine hq4 _ ?_
        cbv
        exact hret _ (RetEv.convW (ConvW.pack [0, 1, 2, 3, 4, 5, 6, 7, 8, 9, 10] hB rfl) (RetEv.ret eOk rfl (by exact hKv _ _ _ hv)))
    · obtain rfl := hPH0 h1
      refine vcIf.no (by rw [hA.lt]; exact decide_eq_false (by simp only [Int.ofNat_eq_natCast]; omega)) ?_
      cbv
      refine hcode _ _ _ (CodeEv.drawA eOk fOk (by kernel_rfl) (Xof 16 []) (by kernel_rfl) (by kernel_rfl) (by kernel_rfl) ?_)
      intro _ _ _ _ _ _ _ _ _ _ _ _ _ _ _ _ _ _ _ _ _ _ _ _ _ _ _ _ _ _ _ _ _ _ _ _ _ _ hcall2 _ _ _ hq2
      cbv
      refine hcall2 _ _ _ _ _ (CallEv.same hmt rfl ?_)
      rintro _ _ ⟨_, rfl, rfl, rfl⟩
      cbv
      refine hcall2 _ _ _ _ _ (CallEv.frzR (CallEv.shown [] [7, 8] hls rfl (.cons (rpT (by decide) (by decide) rfl rfl _ hwt) (.cons (.p _) (.cons (.p _) (.cons (.p _) .nil)))) trivial ?_))
      rintro _ _ ⟨e, us, m, rfl, hus, hm2, rfl, rfl⟩
      refine ⟨flatT2 _ _ _ _ _ _, flatR hus, 16, _, _, _, rfl, (by rw [hB]; exact Nat.le_of_ble_eq_true rfl), fun g2 hg2 => ?_⟩
      have hg2z : g2 0 m = us := by rw [hg2, List.drop_zero, hm2, List.take_length]
      obtain ⟨pp, hpp⟩ : ∃ pp, pp = g2 0 m := ⟨_, rfl⟩
      have hppL : pp = prP L := by rw [hpp, hg2z, hus]
      cbv
      rw [← hpp]
      refine hq2 _ ?_
      cbv
      have hlen : len pp = ((N : Nat) : Int) := by rw [hL.len, hppL, hprl]
      rw [hlen]
      refine hcall _ _ _ _ _ (CallEv.same hput rfl ?_)
      rintro _ _ ⟨m1, y1, hy1, hm1, rfl, rfl⟩
      have hm1b : m1 ≤ 10 := by rw [hm1, hy1, bP_length]; have := enc_len9 (show N < 9223372036854775808 by omega); omega
      cbv
      refine hcode _ _ _ (CodeEv.loop eOk fOk (ι := Nat × Nat × List PV) (fun q => [(0, .own 9 0), (4, .own 12 0), (11, .p (.sl pp)), (13, .p (.int .i64 (Int.ofNat q.1)))])
        (fun q => gmO (Int.ofNat k) ⟨c3, fr, hd, qn, wt, tk, dr, dO, dv, n1, n2, bg, n3, lo, hi, o4, n4, n5, n6, ep, sv, x1, x2, x3, x4, x5, x6⟩ nt xt ws ++ [.st 28 [.p (.int .i64 k0), .p (.int .i64 f), .p (.int .i64 tg), .p (.int .i64 e0), .p (.int .i64 a), .p (.int .i64 b), .p (.int .i64 30), .p (.sl bd)],
          .st 28 [.p (.int .i64 2), .p (.int .i64 tg), .p (.int .i64 100), .p (.int .i64 0), .p (.int .i64 a), .p (.int .i64 0), .p (.int .i64 0), .vw 17 1 0 q.2.1 none], rrSt z2 false, .st 38 [.p (.str slo), .p (.str shi)], .st 38 [.p (.str PL), .p (.str ([255, 255, 255, 255, 255, 255, 255, 255, 255, 255, 255, 255, 255, 255, 255, 255, 255] : List UInt8))], .dead, .arr 5 1 q.2.2])
        (fun q => q.1 ≤ N ∧ q.2.2 = bP (enc N ++ prT (L.take q.1)) ∧ q.2.1 = q.2.2.length ∧ q.2.1 ≤ 10 + 20 * q.1) (fun q => N - q.1) (0, m1, y1) ?_ ?_)
      · exact ⟨(by repeat (first | exact trivial | refine And.intro rfl ?_)), rfl, Nat.zero_le _, by simp only; rw [hy1]; simp [prT], hm1, hm1b⟩
      rintro ⟨j, m, ys⟩ ⟨g1, g2', g3, g4⟩ rd hrd
      simp only at g1 g2' g3 g4
      by_cases hj : j < N
      · refine Exists.elim (get_of_lt (show j < L.length by omega)) fun p hp => ?_
        have hpm := hLm p (List.mem_of_getElem? hp)
        have hzj : pp[j]? = some (.agg [.str p.key, .str p.val]) := by rw [hppL]; exact prP_get hp
        have htk : prT (L.take (j + 1)) = prT (L.take j) ++ (enct p.key ++ enct p.val) := by
          rw [List.take_add_one, hp]; unfold prT; rw [List.flatMap_append]; simp [encts]
        obtain ⟨pk, pv⟩ := p
        simp only at hpm hzj htk
        have hpt1 := rputText_spec pk m ys g3.symm (by omega)
        intro add1 _ _ _ _ _ _ _ _ _ _ _ ilt1 _ _ _ _ _ _ _ _ _ _ hA1 _ _ _ _ _ _ _ len1 _ _ hL1 _ _ _ _ _ hcode1
        have hcc : ilt1 (Int.ofNat j) (len1 pp) = true := by rw [hA1.lt, hL1.len, hppL, hprl]; exact decide_eq_true (Int.ofNat_lt.2 hj)
        have hadd1 : add1 .i64 (Int.ofNat j) 1 = Int.ofNat (j + 1) := by rw [hA1.add, IntWalk.i64_in _ (by simp only [Int.ofNat_eq_natCast]; omega)]; rfl
        cbv
        refine vcIf.yes hcc ?_
        cbv
        refine hcode1 _ _ _ (CodeEv.drawA eOk fOk (by kernel_rfl) (Xof 18 [12, 17]) (by kernel_rfl) (by kernel_rfl) (by kernel_rfl) ?_)
        intro _ _ _ _ _ _ _ _ _ _ _ _ _ _ _ _ _ _ _ _ _ _ _ _ _ _ _ _ _ _ _ _ _ _ _ _ _ _ hcall3 _ _ _ hq3
        cbv
        refine ⟨j, _, rfl, hzj, rfl, ?_⟩
        cbv
        refine ⟨j, _, rfl, hzj, rfl, ?_⟩
        cbv
        refine hcall3 _ _ _ _ _ (CallEv.lend [17] hpt1 rfl (.cons (.vw 0 17 1 0 m none rfl) (.cons (.p _) .nil)) ⟨⟨_, rfl, .arr _ _ _⟩, trivial⟩ ?_)
        rintro _ _ ⟨m5, y5, hy5, hm5, hm5b, rfl, rfl⟩
        have hpt2 := rputText_spec pv m5 y5 hm5.symm (by omega)
        cbv
        refine hcall3 _ _ _ _ _ (CallEv.lend [17] hpt2 rfl (.cons (.vw 0 17 1 0 m5 none rfl) (.cons (.p _) .nil)) ⟨⟨_, rfl, .arr _ _ _⟩, trivial⟩ ?_)
        rintro _ _ ⟨m6, y6, hy6, hm6, hm6b, rfl, rfl⟩
        cbv
        refine hq3 _ ?_
        cbv
        refine hrd _ ⟨(j + 1, m6, y6), _, ?_, ⟨hj, ?_, hm6, ?_⟩, rfl, ⟨rfl, rfl, rfl, ?_, trivial⟩, rfl, rfl, rfl, by rw [hB]; exact Nat.le_of_ble_eq_true rfl⟩
        · simp only; omega
        · simp only; rw [hy6, hy5, g2', htk, ← bP_append, ← bP_append]; simp
        · simp only; omega
        · show some (V.p (.int .i64 _)) = _
          rw [hadd1]
      · have hjN : j = N := by omega
        rw [List.take_of_length_le (by omega)] at g2'
        intro add1 _ _ _ _ _ _ _ _ _ _ _ ilt1 _ _ _ _ _ _ _ _ _ _ hA1 _ _ _ _ _ _ _ len1 _ _ hL1 _ _ _ _ _ hcode1
        have hcc : ilt1 (Int.ofNat j) (len1 pp) = false := by rw [hA1.lt, hL1.len, hppL, hprl]; exact decide_eq_false (fun h => hj (Int.ofNat_lt.1 h))
        cbv
        refine vcIf.no hcc ?_
        cbv
        refine hcode _ _ _ (CodeEv.freezeG 17 rfl (by rw [hB]; exact Nat.le_of_ble_eq_true rfl) fun g2 hg2 => ?_)
        have hg2z : g2 0 m = bP (prB L) := by rw [hg2, List.drop_zero, g3, List.take_length, g2', hN]; rfl
        have htk := hT _ hg2z
        clear hg2z hg2
        refine CodeEv.drawT eOk fOk (by kernel_rfl) (Xof 18 [0, 1, 2, 3, 4, 5, 6, 7, 8, 9, 10]) (.rd 0 (.rd 1 (.rd 2 (.rd 3 (.rd 5 (.so 4 (.acts (.cons 6 (.acts (.cons 7 (.done) (.nil))) (.nil))))))))) (by kernel_rfl) (by kernel_rfl) ?_
        intro _ _ _ _ _ _ _ _ _ _ _ _ _ _ _ _ _ _ _ _ _ _ _ _ _ _ _ _ _ _ _ _ _ _ _ _ _ _ hcall4 _ _ _ hq4
        cbv
        refine hcall4 _ _ _ _ _ (CallEv.lend [0, 1, 2, 3, 4, 5, 6] htk rfl (.cons (.own 0 0 0 rfl) (.cons (.p _) .nil)) (gqT rfl rfl rfl rfl rfl rfl rfl rfl rfl rfl rfl rfl rfl) ?_)
        intro v own hv
        obtain ⟨x, ⟨c3, fr, hd, qn, wt, tk, dr, dO, dv, n1, n2, bg, n3, lo, hi, o4, n4, n5, n6, ep, sv, x1, x2, x3, x4, x5, x6⟩, rfl, rfl, hse⟩ := hR v own hv
        unfold GmC at hse
        rw [← hK] at hse
        cbv
        refine hcall4 _ _ _ _ _ (CallEv.lend [0, 1, 2, 3, 4, 5, 6, 7, 8, 9, 10] hse rfl (.cons (.own 9 9 0 rfl) (.cons (.p _) (.cons (.p _) .nil))) (gmT2 rfl rfl rfl rfl rfl rfl rfl rfl rfl rfl rfl rfl rfl rfl rfl rfl rfl rfl rfl rfl rfl) ?_)
        intro v own hv
        obtain ⟨⟨c3, fr, hd, qn, wt, tk, dr, dO, dv, n1, n2, bg, n3, lo, hi, o4, n4, n5, n6, ep, sv, x1, x2, x3, x4, x5, x6⟩, nt, xt, rfl⟩ := hKg v own hv
        cbv
        refine hq4 _ ?_
        cbv
        exact hret _ (RetEv.convW (ConvW.pack [0, 1, 2, 3, 4, 5, 6, 7, 8, 9, 10] hB rfl) (RetEv.ret eOk rfl (by exact hKv _ _ _ hv)))
  · obtain rfl := hPL0 h0
    refine vcIf.no (by rw [hA.lt]; exact decide_eq_false (by simp only [Int.ofNat_eq_natCast]; omega)) ?_
    cbv
    rw [hadi]
    by_cases h1 : i + 1 < k
    · refine vcIf.yes (by rw [hA.lt]; exact decide_eq_true (by simp only [Int.ofNat_eq_natCast]; omega)) ?_
      cbv
      rw [hadi]
      refine ⟨(), by simp only [Int.ofNat_eq_natCast]; omega, ?_⟩
      cbv
      refine ⟨false, ?_⟩
      cbv
      refine ⟨[UInt8.ofNat (97 + 26 * (i + 1) / k)], ?_, ?_⟩
      · show [PV.int IntKind.u8 _] = _
        rw [hval (i + 1) (by omega)]
        rw [bP_eq]; simp
      rw [← hPH1 (by omega)]
      cbv
      refine hcode _ _ _ (CodeEv.drawA eOk fOk (by kernel_rfl) (Xof 16 []) (by kernel_rfl) (by kernel_rfl) (by kernel_rfl) ?_)
      intro _ _ _ _ _ _ _ _ _ _ _ _ _ _ _ _ _ _ _ _ _ _ _ _ _ _ _ _ _ _ _ _ _ _ _ _ _ _ hcall2 _ _ _ hq2
      cbv
      refine hcall2 _ _ _ _ _ (CallEv.same hmt rfl ?_)
      rintro _ _ ⟨_, rfl, rfl, rfl⟩
      cbv
      refine hcall2 _ _ _ _ _ (CallEv.frzR (CallEv.shown [] [7, 8] hls rfl (.cons (rpT (by decide) (by decide) rfl rfl _ hwt) (.cons (.p _) (.cons (.p _) (.cons (.p _) .nil)))) trivial ?_))
      rintro _ _ ⟨e, us, m, rfl, hus, hm2, rfl, rfl⟩
      refine ⟨flatT2 _ _ _ _ _ _, flatR hus, 16, _, _, _, rfl, (by rw [hB]; exact Nat.le_of_ble_eq_true rfl), fun g2 hg2 => ?_⟩
      have hg2z : g2 0 m = us := by rw [hg2, List.drop_zero, hm2, List.take_length]
      obtain ⟨pp, hpp⟩ : ∃ pp, pp = g2 0 m := ⟨_, rfl⟩
      have hppL : pp = prP L := by rw [hpp, hg2z, hus]
      cbv
      rw [← hpp]
      refine hq2 _ ?_
      cbv
      have hlen : len pp = ((N : Nat) : Int) := by rw [hL.len, hppL, hprl]
      rw [hlen]
      refine hcall _ _ _ _ _ (CallEv.same hput rfl ?_)
      rintro _ _ ⟨m1, y1, hy1, hm1, rfl, rfl⟩
      have hm1b : m1 ≤ 10 := by rw [hm1, hy1, bP_length]; have := enc_len9 (show N < 9223372036854775808 by omega); omega
      cbv
      refine hcode _ _ _ (CodeEv.loop eOk fOk (ι := Nat × Nat × List PV) (fun q => [(0, .own 9 0), (4, .own 12 0), (11, .p (.sl pp)), (13, .p (.int .i64 (Int.ofNat q.1)))])
        (fun q => gmO (Int.ofNat k) ⟨c3, fr, hd, qn, wt, tk, dr, dO, dv, n1, n2, bg, n3, lo, hi, o4, n4, n5, n6, ep, sv, x1, x2, x3, x4, x5, x6⟩ nt xt ws ++ [.st 28 [.p (.int .i64 k0), .p (.int .i64 f), .p (.int .i64 tg), .p (.int .i64 e0), .p (.int .i64 a), .p (.int .i64 b), .p (.int .i64 30), .p (.sl bd)],
          .st 28 [.p (.int .i64 2), .p (.int .i64 tg), .p (.int .i64 100), .p (.int .i64 0), .p (.int .i64 a), .p (.int .i64 0), .p (.int .i64 0), .vw 17 1 0 q.2.1 none], rrSt z2 false, .st 38 [.p (.str slo), .p (.str shi)], .st 38 [.p (.str ([] : List UInt8)), .p (.str PH)], .dead, .arr 5 1 q.2.2])
        (fun q => q.1 ≤ N ∧ q.2.2 = bP (enc N ++ prT (L.take q.1)) ∧ q.2.1 = q.2.2.length ∧ q.2.1 ≤ 10 + 20 * q.1) (fun q => N - q.1) (0, m1, y1) ?_ ?_)
      · exact ⟨(by repeat (first | exact trivial | refine And.intro rfl ?_)), rfl, Nat.zero_le _, by simp only; rw [hy1]; simp [prT], hm1, hm1b⟩
      rintro ⟨j, m, ys⟩ ⟨g1, g2', g3, g4⟩ rd hrd
      simp only at g1 g2' g3 g4
      by_cases hj : j < N
      · refine Exists.elim (get_of_lt (show j < L.length by omega)) fun p hp => ?_
        have hpm := hLm p (List.mem_of_getElem? hp)
        have hzj : pp[j]? = some (.agg [.str p.key, .str p.val]) := by rw [hppL]; exact prP_get hp
        have htk : prT (L.take (j + 1)) = prT (L.take j) ++ (enct p.key ++ enct p.val) := by
          rw [List.take_add_one, hp]; unfold prT; rw [List.flatMap_append]; simp [encts]
        obtain ⟨pk, pv⟩ := p
        simp only at hpm hzj htk
        have hpt1 := rputText_spec pk m ys g3.symm (by omega)
        intro add1 _ _ _ _ _ _ _ _ _ _ _ ilt1 _ _ _ _ _ _ _ _ _ _ hA1 _ _ _ _ _ _ _ len1 _ _ hL1 _ _ _ _ _ hcode1
        have hcc : ilt1 (Int.ofNat j) (len1 pp) = true := by rw [hA1.lt, hL1.len, hppL, hprl]; exact decide_eq_true (Int.ofNat_lt.2 hj)
        have hadd1 : add1 .i64 (Int.ofNat j) 1 = Int.ofNat (j + 1) := by rw [hA1.add, IntWalk.i64_in _ (by simp only [Int.ofNat_eq_natCast]; omega)]; rfl
        cbv
        refine vcIf.yes hcc ?_
        cbv
        refine hcode1 _ _ _ (CodeEv.drawA eOk fOk (by kernel_rfl) (Xof 18 [12, 17]) (by kernel_rfl) (by kernel_rfl) (by kernel_rfl) ?_)
        intro _ _ _ _ _ _ _ _ _ _ _ _ _ _ _ _ _ _ _ _ _ _ _ _ _ _ _ _ _ _ _ _ _ _ _ _ _ _ hcall3 _ _ _ hq3
        cbv
        refine ⟨j, _, rfl, hzj, rfl, ?_⟩
        cbv
        refine ⟨j, _, rfl, hzj, rfl, ?_⟩
        cbv
        refine hcall3 _ _ _ _ _ (CallEv.lend [17] hpt1 rfl (.cons (.vw 0 17 1 0 m none rfl) (.cons (.p _) .nil)) ⟨⟨_, rfl, .arr _ _ _⟩, trivial⟩ ?_)
        rintro _ _ ⟨m5, y5, hy5, hm5, hm5b, rfl, rfl⟩
        have hpt2 := rputText_spec pv m5 y5 hm5.symm (by omega)
        cbv
        refine hcall3 _ _ _ _ _ (CallEv.lend [17] hpt2 rfl (.cons (.vw 0 17 1 0 m5 none rfl) (.cons (.p _) .nil)) ⟨⟨_, rfl, .arr _ _ _⟩, trivial⟩ ?_)
        rintro _ _ ⟨m6, y6, hy6, hm6, hm6b, rfl, rfl⟩
        cbv
        refine hq3 _ ?_
        cbv
        refine hrd _ ⟨(j + 1, m6, y6), _, ?_, ⟨hj, ?_, hm6, ?_⟩, rfl, ⟨rfl, rfl, rfl, ?_, trivial⟩, rfl, rfl, rfl, by rw [hB]; exact Nat.le_of_ble_eq_true rfl⟩
        · simp only; omega
        · simp only; rw [hy6, hy5, g2', htk, ← bP_append, ← bP_append]; simp
        · simp only; omega
        · show some (V.p (.int .i64 _)) = _
          rw [hadd1]
      · have hjN : j = N := by omega
        rw [List.take_of_length_le (by omega)] at g2'
        intro add1 _ _ _ _ _ _ _ _ _ _ _ ilt1 _ _ _ _ _ _ _ _ _ _ hA1 _ _ _ _ _ _ _ len1 _ _ hL1 _ _ _ _ _ hcode1
        have hcc : ilt1 (Int.ofNat j) (len1 pp) = false := by rw [hA1.lt, hL1.len, hppL, hprl]; exact decide_eq_false (fun h => hj (Int.ofNat_lt.1 h))
        cbv
        refine vcIf.no hcc ?_
        cbv
        refine hcode _ _ _ (CodeEv.freezeG 17 rfl (by rw [hB]; exact Nat.le_of_ble_eq_true rfl) fun g2 hg2 => ?_)
        have hg2z : g2 0 m = bP (prB L) := by rw [hg2, List.drop_zero, g3, List.take_length, g2', hN]; rfl
        have htk := hT _ hg2z
        clear hg2z hg2
        refine CodeEv.drawT eOk fOk (by kernel_rfl) (Xof 18 [0, 1, 2, 3, 4, 5, 6, 7, 8, 9, 10]) (.rd 0 (.rd 1 (.rd 2 (.rd 3 (.rd 5 (.so 4 (.acts (.cons 6 (.acts (.cons 7 (.done) (.nil))) (.nil))))))))) (by kernel_rfl) (by kernel_rfl) ?_
        intro _ _ _ _ _ _ _ _ _ _ _ _ _ _ _ _ _ _ _ _ _ _ _ _ _ _ _ _ _ _ _ _ _ _ _ _ _ _ hcall4 _ _ _ hq4
        cbv
        refine hcall4 _ _ _ _ _ (CallEv.lend [0, 1, 2, 3, 4, 5, 6] htk rfl (.cons (.own 0 0 0 rfl) (.cons (.p _) .nil)) (gqT rfl rfl rfl rfl rfl rfl rfl rfl rfl rfl rfl rfl rfl) ?_)
        intro v own hv
        obtain ⟨x, ⟨c3, fr, hd, qn, wt, tk, dr, dO, dv, n1, n2, bg, n3, lo, hi, o4, n4, n5, n6, ep, sv, x1, x2, x3, x4, x5, x6⟩, rfl, rfl, hse⟩ := hR v own hv
        unfold GmC at hse
        rw [← hK] at hse
        cbv
        refine hcall4 _ _ _ _ _ (CallEv.lend [0, 1, 2, 3, 4, 5, 6, 7, 8, 9, 10] hse rfl (.cons (.own 9 9 0 rfl) (.cons (.p _) (.cons (.p _) .nil))) (gmT2 rfl rfl rfl rfl rfl rfl rfl rfl rfl rfl rfl rfl rfl rfl rfl rfl rfl rfl rfl rfl rfl) ?_)
        intro v own hv
        obtain ⟨⟨c3, fr, hd, qn, wt, tk, dr, dO, dv, n1, n2, bg, n3, lo, hi, o4, n4, n5, n6, ep, sv, x1, x2, x3, x4, x5, x6⟩, nt, xt, rfl⟩ := hKg v own hv
        cbv
        refine hq4 _ ?_
        cbv
        exact hret _ (RetEv.convW (ConvW.pack [0, 1, 2, 3, 4, 5, 6, 7, 8, 9, 10] hB rfl) (RetEv.ret eOk rfl (by exact hKv _ _ _ hv)))
    · obtain rfl := hPH0 h1
      refine vcIf.no (by rw [hA.lt]; exact decide_eq_false (by simp only [Int.ofNat_eq_natCast]; omega)) ?_
      cbv
      refine hcode _ _ _ (CodeEv.drawA eOk fOk (by kernel_rfl) (Xof 16 []) (by kernel_rfl) (by kernel_rfl) (by kernel_rfl) ?_)
      intro _ _ _ _ _ _ _ _ _ _ _ _ _ _ _ _ _ _ _ _ _ _ _ _ _ _ _ _ _ _ _ _ _ _ _ _ _ _ hcall2 _ _ _ hq2
      cbv
      refine hcall2 _ _ _ _ _ (CallEv.same hmt rfl ?_)
      rintro _ _ ⟨_, rfl, rfl, rfl⟩
      cbv
      refine hcall2 _ _ _ _ _ (CallEv.frzR (CallEv.shown [] [7, 8] hls rfl (.cons (rpT (by decide) (by decide) rfl rfl _ hwt) (.cons (.p _) (.cons (.p _) (.cons (.p _) .nil)))) trivial ?_))
      rintro _ _ ⟨e, us, m, rfl, hus, hm2, rfl, rfl⟩
      refine ⟨flatT2 _ _ _ _ _ _, flatR hus, 16, _, _, _, rfl, (by rw [hB]; exact Nat.le_of_ble_eq_true rfl), fun g2 hg2 => ?_⟩
      have hg2z : g2 0 m = us := by rw [hg2, List.drop_zero, hm2, List.take_length]
      obtain ⟨pp, hpp⟩ : ∃ pp, pp = g2 0 m := ⟨_, rfl⟩
      have hppL : pp = prP L := by rw [hpp, hg2z, hus]
      cbv
      rw [← hpp]
      refine hq2 _ ?_
      cbv
      have hlen : len pp = ((N : Nat) : Int) := by rw [hL.len, hppL, hprl]
      rw [hlen]
      refine hcall _ _ _ _ _ (CallEv.same hput rfl ?_)
      rintro _ _ ⟨m1, y1, hy1, hm1, rfl, rfl⟩
      have hm1b : m1 ≤ 10 := by rw [hm1, hy1, bP_length]; have := enc_len9 (show N < 9223372036854775808 by omega); omega
      cbv
      refine hcode _ _ _ (CodeEv.loop eOk fOk (ι := Nat × Nat × List PV) (fun q => [(0, .own 9 0), (4, .own 12 0), (11, .p (.sl pp)), (13, .p (.int .i64 (Int.ofNat q.1)))])
        (fun q => gmO (Int.ofNat k) ⟨c3, fr, hd, qn, wt, tk, dr, dO, dv, n1, n2, bg, n3, lo, hi, o4, n4, n5, n6, ep, sv, x1, x2, x3, x4, x5, x6⟩ nt xt ws ++ [.st 28 [.p (.int .i64 k0), .p (.int .i64 f), .p (.int .i64 tg), .p (.int .i64 e0), .p (.int .i64 a), .p (.int .i64 b), .p (.int .i64 30), .p (.sl bd)],
          .st 28 [.p (.int .i64 2), .p (.int .i64 tg), .p (.int .i64 100), .p (.int .i64 0), .p (.int .i64 a), .p (.int .i64 0), .p (.int .i64 0), .vw 17 1 0 q.2.1 none], rrSt z2 false, .st 38 [.p (.str slo), .p (.str shi)], .st 38 [.p (.str ([] : List UInt8)), .p (.str ([255, 255, 255, 255, 255, 255, 255, 255, 255, 255, 255, 255, 255, 255, 255, 255, 255] : List UInt8))], .dead, .arr 5 1 q.2.2])
        (fun q => q.1 ≤ N ∧ q.2.2 = bP (enc N ++ prT (L.take q.1)) ∧ q.2.1 = q.2.2.length ∧ q.2.1 ≤ 10 + 20 * q.1) (fun q => N - q.1) (0, m1, y1) ?_ ?_)
      · exact ⟨(by repeat (first | exact trivial | refine And.intro rfl ?_)), rfl, Nat.zero_le _, by simp only; rw [hy1]; simp [prT], hm1, hm1b⟩
      rintro ⟨j, m, ys⟩ ⟨g1, g2', g3, g4⟩ rd hrd
      simp only at g1 g2' g3 g4
      by_cases hj : j < N
      · refine Exists.elim (get_of_lt (show j < L.length by omega)) fun p hp => ?_
        have hpm := hLm p (List.mem_of_getElem? hp)
        have hzj : pp[j]? = some (.agg [.str p.key, .str p.val]) := by rw [hppL]; exact prP_get hp
        have htk : prT (L.take (j + 1)) = prT (L.take j) ++ (enct p.key ++ enct p.val) := by
          rw [List.take_add_one, hp]; unfold prT; rw [List.flatMap_append]; simp [encts]
        obtain ⟨pk, pv⟩ := p
        simp only at hpm hzj htk
        have hpt1 := rputText_spec pk m ys g3.symm (by omega)
        intro add1 _ _ _ _ _ _ _ _ _ _ _ ilt1 _ _ _ _ _ _ _ _ _ _ hA1 _ _ _ _ _ _ _ len1 _ _ hL1 _ _ _ _ _ hcode1
        have hcc : ilt1 (Int.ofNat j) (len1 pp) = true := by rw [hA1.lt, hL1.len, hppL, hprl]; exact decide_eq_true (Int.ofNat_lt.2 hj)
        have hadd1 : add1 .i64 (Int.ofNat j) 1 = Int.ofNat (j + 1) := by rw [hA1.add, IntWalk.i64_in _ (by simp only [Int.ofNat_eq_natCast]; omega)]; rfl
        cbv
        refine vcIf.yes hcc ?_
        cbv
        refine hcode1 _ _ _ (CodeEv.drawA eOk fOk (by kernel_rfl) (Xof 18 [12, 17]) (by kernel_rfl) (by kernel_rfl) (by kernel_rfl) ?_)
        intro _ _ _ _ _ _ _ _ _ _ _ _ _ _ _ _ _ _ _ _ _ _ _ _ _ _ _ _ _ _ _ _ _ _ _ _ _ _ hcall3 _ _ _ hq3
        cbv
        refine ⟨j, _, rfl, hzj, rfl, ?_⟩
        cbv
        refine ⟨j, _, rfl, hzj, rfl, ?_⟩
        cbv
        refine hcall3 _ _ _ _ _ (CallEv.lend [17] hpt1 rfl (.cons (.vw 0 17 1 0 m none rfl) (.cons (.p _) .nil)) ⟨⟨_, rfl, .arr _ _ _⟩, trivial⟩ ?_)
        rintro _ _ ⟨m5, y5, hy5, hm5, hm5b, rfl, rfl⟩
        have hpt2 := rputText_spec pv m5 y5 hm5.symm (by omega)
        cbv
        refine hcall3 _ _ _ _ _ (CallEv.lend [17] hpt2 rfl (.cons (.vw 0 17 1 0 m5 none rfl) (.cons (.p _) .nil)) ⟨⟨_, rfl, .arr _ _ _⟩, trivial⟩ ?_)
        rintro _ _ ⟨m6, y6, hy6, hm6, hm6b, rfl, rfl⟩
        cbv
        refine hq3 _ ?_
        cbv
        refine hrd _ ⟨(j + 1, m6, y6), _, ?_, ⟨hj, ?_, hm6, ?_⟩, rfl, ⟨rfl, rfl, rfl, ?_, trivial⟩, rfl, rfl, rfl, by rw [hB]; exact Nat.le_of_ble_eq_true rfl⟩
        · simp only; omega
        · simp only; rw [hy6, hy5, g2', htk, ← bP_append, ← bP_append]; simp
        · simp only; omega
        · show some (V.p (.int .i64 _)) = _
          rw [hadd1]
      · have hjN : j = N := by omega
        rw [List.take_of_length_le (by omega)] at g2'
        intro add1 _ _ _ _ _ _ _ _ _ _ _ ilt1 _ _ _ _ _ _ _ _ _ _ hA1 _ _ _ _ _ _ _ len1 _ _ hL1 _ _ _ _ _ hcode1
        have hcc : ilt1 (Int.ofNat j) (len1 pp) = false := by rw [hA1.lt, hL1.len, hppL, hprl]; exact decide_eq_false (fun h => hj (Int.ofNat_lt.1 h))
        cbv
        refine vcIf.no hcc ?_
        cbv
        refine hcode _ _ _ (CodeEv.freezeG 17 rfl (by rw [hB]; exact Nat.le_of_ble_eq_true rfl) fun g2 hg2 => ?_)
        have hg2z : g2 0 m = bP (prB L) := by rw [hg2, List.drop_zero, g3, List.take_length, g2', hN]; rfl
        have htk := hT _ hg2z
        clear hg2z hg2
        refine CodeEv.drawT eOk fOk (by kernel_rfl) (Xof 18 [0, 1, 2, 3, 4, 5, 6, 7, 8, 9, 10]) (.rd 0 (.rd 1 (.rd 2 (.rd 3 (.rd 5 (.so 4 (.acts (.cons 6 (.acts (.cons 7 (.done) (.nil))) (.nil))))))))) (by kernel_rfl) (by kernel_rfl) ?_
        intro _ _ _ _ _ _ _ _ _ _ _ _ _ _ _ _ _ _ _ _ _ _ _ _ _ _ _ _ _ _ _ _ _ _ _ _ _ _ hcall4 _ _ _ hq4
        cbv
        refine hcall4 _ _ _ _ _ (CallEv.lend [0, 1, 2, 3, 4, 5, 6] htk rfl (.cons (.own 0 0 0 rfl) (.cons (.p _) .nil)) (gqT rfl rfl rfl rfl rfl rfl rfl rfl rfl rfl rfl rfl rfl) ?_)
        intro v own hv
        obtain ⟨x, ⟨c3, fr, hd, qn, wt, tk, dr, dO, dv, n1, n2, bg, n3, lo, hi, o4, n4, n5, n6, ep, sv, x1, x2, x3, x4, x5, x6⟩, rfl, rfl, hse⟩ := hR v own hv
        unfold GmC at hse
        rw [← hK] at hse
        cbv
        refine hcall4 _ _ _ _ _ (CallEv.lend [0, 1, 2, 3, 4, 5, 6, 7, 8, 9, 10] hse rfl (.cons (.own 9 9 0 rfl) (.cons (.p _) (.cons (.p _) .nil))) (gmT2 rfl rfl rfl rfl rfl rfl rfl rfl rfl rfl rfl rfl rfl rfl rfl rfl rfl rfl rfl rfl rfl) ?_)
        intro v own hv
        obtain ⟨⟨c3, fr, hd, qn, wt, tk, dr, dO, dv, n1, n2, bg, n3, lo, hi, o4, n4, n5, n6, ep, sv, x1, x2, x3, x4, x5, x6⟩, nt, xt, rfl⟩ := hKg v own hv
        cbv
        refine hq4 _ ?_
        cbv
        exact hret _ (RetEv.convW (ConvW.pack [0, 1, 2, 3, 4, 5, 6, 7, 8, 9, 10] hB rfl) (RetEv.ret eOk rfl (by exact hKv _ _ _ hv)))
end Go.Proofs.YtegkojnngdlfaaaGreat
