/- Guest: the game: what holds between steps; List, Get. Conditions: on sizes. -/
import Derived.Test.YtegkojnngdlfaaaGreatLGxC
set_option maxRecDepth 100000
set_option maxHeartbeats 8000000
set_option linter.unusedSimpArgs false
set_option linter.unusedVariables false
namespace Go.Proofs.YtegkojnngdlfaaaGreat
open Go Go.Lx
open Go.Sx (vcIf)
theorem lsE_ask {wt : Int} {bg : Bool} {dO : Int} {n3 : Nat} {lo hi : List UInt8} (h : idl wt bg dO = 0) : lsE wt bg dO n3 lo hi = askE lo hi n3 := by
  unfold lsE askE; rw [if_neg (by rw [h]; decide)]
theorem askE_0 {lo hi : List UInt8} {m : Nat} (h : askE lo hi m = 0) : lo.length ≤ 17 ∧ hi.length ≤ 17 ∧ bl hi lo = false ∧ m < 24 := by
  unfold askE at h
  split at h
  · cases h
  split at h
  · cases h
  split at h
  · cases h
  rename_i h1 h2 h3
  exact ⟨by omega, by omega, Bool.eq_false_iff.2 h2, by omega⟩
theorem lawList (k : Nat) (hk : 1 ≤ k ∧ k ≤ 4) (ws : List PV) (hws : ws = rlP gmL) {N : Int} (hN : 0 ≤ N ∧ N ≤ 890) {g : Gq} {nt : Nat} {xt : List PV} {sp : List Spn} {ch : List Chg} (hB : Bs k N g nt xt sp ch) (hP : Ph k sp ch g) {W : Int} (hW : Wnt g W)
    (lo hi : List UInt8) (hlo : lo.length < 140737488355328) (hhi : hi.length < 140737488355328) (what n : Int) (key a b : List UInt8) (ck : Int) (cy cv : List UInt8) (hwh : what = 2 ∨ what = 1 ∧ key.length ≤ 16) :
    ∃ Rm : V → List Res → Prop, FnL Tryz.prog 7 [.own 0 0, .p (.agg [.str lo, .str hi])] g.R Rm ∧
      ∀ v own, Rm v own → ∃ zs e g', v = .p (.tup [zs, .int .i64 e]) ∧ own = g'.R ∧ FnL Tryz.prog 39 [.own 9 0, .p (.agg [.str lo, .str hi]), .p (stp what n key a b ck cy cv), .p zs, .p (.int .i64 e), .p (.int .i64 W), .p (ddP 0 0 0 g.dr g.dO g.dv (.sl g.x1) (.sl g.x2))] (gmO (Int.ofNat k) g' nt xt ws) (StQ (Int.ofNat k) ws (Inv21 k (N + 10))) := by
  have q0 := hB.qn0
  have q1 := hB.qn1
  have hspl := hB.spl
  have hdy := hB.deedy
  have hq5 : g.qn ≤ g.qn + 5 := by omega
  have hl1 := hB.l1
  have hn3 := hB.n3
  have hI' : Inv21 k (N + 10) g nt xt := ⟨sp, ch, hB.mono (by omega), hP⟩
  by_cases hne : lsE g.wt g.bg g.dO g.n3 lo hi ≠ 0
  · refine ⟨_, gList_err g lo hi hne (by omega) hlo hhi, ?_⟩
    rintro v own ⟨e, he, rfl, rfl⟩
    refine ⟨_, _, g, rfl, rfl, StQ.keep hI' ?_⟩
    rcases idlW hP hW with ⟨hW0, hid⟩ | ⟨rfl, h1, h2, hid⟩ | ⟨rfl, h1, h2, h3, h4, h5, h6, hid⟩
    · have hid0 : idl g.wt g.bg g.dO ≠ 0 := fun c => by rw [c] at hid; exact hW0 hid.symm
      have : lsE g.wt g.bg g.dO g.n3 lo hi = idl g.wt g.bg g.dO := by unfold lsE; rw [if_pos hid0]
      rw [he, this, hid]
      exact asked3 (Int.ofNat k) ws g nt xt ch hdy lo hi key a b what n ck cy cv hwh W W _ _ _ _ _ hW0 (.inl ⟨hW0, rfl⟩)
    · have : lsE g.wt g.bg g.dO g.n3 lo hi = 4 := by unfold lsE; rw [if_pos (by rw [hid]; decide), hid]
      rw [he, this, h1, h2]
      exact asked2 (Int.ofNat k) ws g nt xt lo hi key a b what n ck cy cv hwh g.dv g.x1 g.x2
    · have hnn : ¬(g.dr = 0 ∧ g.dO = 0) := by rw [h1]; simp
      have hla : lsE g.wt g.bg g.dO g.n3 lo hi = askE lo hi g.x1.length := by rw [lsE_ask hid, hl1, hn3]
      rw [hla] at hne he
      exact asked3 (Int.ofNat k) ws g nt xt ch hdy lo hi key a b what n ck cy cv hwh _ 0 _ _ _ _ _ (by rw [he]; simp only [Int.ofNat_eq_natCast]; omega) (.inr ⟨rfl, hnn, by rw [he]⟩)
  · have hz : lsE g.wt g.bg g.dO g.n3 lo hi = 0 := by omega
    have hid0 : idl g.wt g.bg g.dO = 0 := by
      unfold lsE at hz
      by_cases h : idl g.wt g.bg g.dO = 0
      · exact h
      · rw [if_pos h] at hz; exact hz
    rcases idlW hP hW with ⟨hW0, hid⟩ | ⟨rfl, h1, h2, hid⟩ | ⟨rfl, h1, h2, h3, h4, h5, h6, hid⟩
    · rw [hid0] at hid; exact absurd hid.symm hW0
    · rw [hid0] at hid; cases hid
    have hnn : ¬(g.dr = 0 ∧ g.dO = 0) := by rw [h1]; simp
    rw [lsE_ask hid0] at hz
    obtain ⟨a1, a2, a3, a4⟩ := askE_0 hz
    have hz' : askE lo hi g.x1.length = 0 := by rw [hl1, ← hn3]; exact hz
    have hsl : sp.length < 24 := by omega
    refine ⟨_, gList_spec g k hk hB.c3 lo hi hid0 a1 a2 a3 a4 ⟨q0, by omega⟩ rfl ch hB.x2 hB.n2 hB.chl hB.chf hB.chk hB.n1.symm (by have := hB.n1; omega) (by rw [hn3, hB.x3, pP_length]), ?_⟩
    have law := fun (g' : Gq) (lm : PV) (Q : Gq → Nat → List PV → Prop) (hse : GmC fSend [.own 9 0, .p lm, .p (.int .i64 n)] (Int.ofNat k) ws g' nt xt Q) hQ hI2 =>
      FnL.mono (R' := StQ (Int.ofNat k) ws (Inv21 k (N + 10))) (asked4 (Int.ofNat k) ws hws g' nt xt lo hi key a b what n ck cy cv hwh g.dr g.dO g.dv g.x1 g.x2 lm ch hB.x2 hB.chl hB.chf hB.chk (by omega) hnn hz' hse hQ) hI2
    have seen : ∀ (g0 g' : Gq) (us : List PV), g0.lo = lo → g0.hi = hi → g0.n2 = g.n2 → g0.x1 = g.x1 → us = prP (seenP lo hi ch) → SawOf g0 g' us 4 → ∃ us, g'.x1[g.x1.length]? = some (.agg [.str lo, .str hi, .int .i64 (Int.ofNat ch.length), .sl us]) ∧ us = prP (seenP lo hi ch) ∧ g'.x1.length = g.x1.length + 1 := by
      intro g0 g' us e1 e2 e3 e4 hus hsw
      obtain ⟨-, -, -, -, -, -, -, -, -, -, -, -, -, -, h15, -⟩ := hsw
      refine ⟨us, ?_, hus, ?_⟩
      · rw [h15, e4, List.getElem?_append_right (Nat.le_refl _), Nat.sub_self, e1, e2, e3, hB.n2]; rfl
      · rw [h15, e4, List.length_append]; rfl
    have hsl2 := seenP_len lo hi hB.chl
    rintro v own (⟨ht, rfl, m1, m3, y1, y3, us, td, hus, hm1, hm3, hy1, hy3, rfl⟩ | ⟨s0, r, td, m, zs, bd, ht, htd, hm, hbd, hzs, rfl, rfl⟩)
    · have hask : ask k ⟨lo, hi⟩ = [] := by
        rw [tdo_ask] at ht
        exact List.map_eq_nil_iff.1 ht
      have hus2 : us = prP (seenP lo hi ch) := by rw [hus]; unfold seenP; rw [ask_nil hk hask]
      have hsw : SawOf (g.asks lo hi 0 td) ((g.asks lo hi 0 td).saw m1 m3 y1 y3) us 4 :=
        ⟨rfl, rfl, Int.le_refl _, show g.qn ≤ g.qn + 4 by omega, h3, rfl, rfl, rfl, rfl, rfl, rfl, rfl, rfl, hm1, hy1, hm3, hy3⟩
      have hB0 : Bs k (N + 5) (g.asks lo hi 0 td) nt xt sp ch := hB.upd rfl hB.fr (Int.le_refl _) hq5 rfl rfl rfl rfl rfl rfl (Int.le_refl _)
      have hB1 := hB0.saw (N' := N + 10) hsw hus2 hsl2 hsl (by omega)
      refine ⟨_, _, (g.asks lo hi 0 td).saw m1 m3 y1 y3, rfl, rfl, law _ .nils (fun g' nt' xt' => g' = (g.asks lo hi 0 td).saw m1 m3 y1 y3 ∧ nt' = nt ∧ xt' = xt) (gmSendN _ _ _ _ _ n ⟨rfl, rfl, rfl⟩) ?_ ?_⟩
      · rintro g' nt' xt' ⟨rfl, rfl, rfl⟩
        exact ⟨hB1.deedy, fun _ _ => seen (g.asks lo hi 0 td) _ us rfl rfl rfl rfl hus2 hsw⟩
      · rintro v own ⟨rfl, g', nt', xt', ⟨rfl, rfl, rfl⟩, rfl⟩
        exact ⟨rfl, _, _, _, ⟨_, ch, hB1, .idle h3 h4 h1 h5 h6⟩, rfl⟩
    · rw [tdo_ask] at ht
      obtain ⟨i, r', hask, hs0, hr⟩ := List.map_eq_cons_iff.1 ht
      subst hs0 hr
      rw [h1] at hzs
      have hB0 : Bs k (N + 5) ((g.asks lo hi m td).sent 2 (g.qn + 1) zs) nt xt sp ch := hB.upd rfl hB.fr (show g.qn ≤ g.qn + 1 by omega) (show g.qn + 1 ≤ g.qn + 5 by omega) rfl rfl rfl rfl rfl rfl (Int.le_refl _)
      have ha : Asks k ch ((g.asks lo hi m td).sent 2 (g.qn + 1) zs) i r' bd :=
        ⟨a1, a2, rfl, rfl, h1, hask, hbd, hzs, rfl, by show m = _; rw [hm, htd, iP_length]; simp, by show td = _; rw [htd]; rfl, rfl, rfl, show 0 ≤ g.qn + 1 by omega, show g.qn + 1 ≤ 10000 by omega, hB.x2, hB.n2, hB.n1.symm, by show g.n1 ≤ 30; have := hB.n1; omega, by show g.n3 = g.x3.length; rw [hn3, hB.x3, pP_length], by show g.n3 ≤ 30; omega⟩
      refine ⟨_, _, (g.asks lo hi m td).sent 2 (g.qn + 1) zs, rfl, rfl, law _ (.sl zs) _ (sendS k hk ws hws ((g.asks lo hi m td).sent 2 (g.qn + 1) zs) nt xt n ch hB.chl hB.chf hB.chk ha hzs) ?_ ?_⟩
      · rintro g' nt' xt' ⟨rfl, rfl, ⟨-, rfl⟩ | ⟨-, us, hus, hsw⟩⟩
        · exact ⟨hB0.deedy, fun h => absurd h (show ¬ (2 : Int) = 0 by decide)⟩
        · exact ⟨(hB0.saw (N' := N + 10) hsw hus hsl2 hsl (by omega)).deedy, fun _ _ => seen ((g.asks lo hi m td).sent 2 (g.qn + 1) zs) _ us rfl rfl rfl rfl hus hsw⟩
      · rintro v own ⟨rfl, g', nt', xt', ⟨rfl, rfl, ⟨-, rfl⟩ | ⟨-, us, hus, hsw⟩⟩, rfl⟩
        · exact ⟨rfl, _, _, _, ⟨sp, ch, hB0.mono (by omega), .span i r' bd ha h4 h2 h5 h6 (Int.le_refl _) (show (0 : Int) ≤ 48 by decide) hsl⟩, rfl⟩
        · refine ⟨rfl, _, _, _, ⟨_, ch, hB0.saw (N' := N + 10) hsw hus hsl2 hsl (by omega), ?_⟩, rfl⟩
          obtain ⟨e1, e2, e3, e4, e5, e6, e7, e8, e9, e10, e11, -⟩ := hsw
          exact .idle e5 (by rw [e9]; exact h4) (by rw [e6]; exact h1) (by rw [e10]; exact h5) (by rw [e11]; exact h6)
theorem stepAll (k : Nat) (hk : 1 ≤ k ∧ k ≤ 4) (ws : List PV) (hws : ws = rlP gmL) {N : Int} (hN : 0 ≤ N ∧ N ≤ 890) {g : Gq} {nt : Nat} {xt : List PV} (hI : Inv21 k N g nt xt) (what n : Int) (key a b : List UInt8) (c : Chg) (hkey : key.length < 140737488355328) (ha : a.length < 140737488355328) (hb : b.length < 140737488355328) (hc : c.fit) :
    FnL Tryz.prog 16 [.own 9 0, .p (stp what n key a b c.kind c.key c.val)] (gmO (Int.ofNat k) g nt xt ws) (StQ (Int.ofNat k) ws (Inv21 k (N + 10))) := by
  by_cases h0 : what = 0
  · subst h0; exact stepB k ws ⟨hN.1, by omega⟩ hI n key a b c.kind c.key c.val
  by_cases h1 : what = 1
  · subst h1
    obtain ⟨sp, ch, hB, hP⟩ := hI
    obtain ⟨W, hW⟩ := hP.wnt
    by_cases hkl : 16 < key.length
    · refine step_get _ ws g nt xt hB.deedy hW key a b n c.kind c.key c.val rfl hkey (gGet_large g key hkl (by omega)) ?_
      rintro v own ⟨rfl, rfl⟩
      exact ⟨_, _, g, rfl, rfl, StQ.keep ⟨sp, ch, hB.mono (by omega), hP⟩ (asked1 (Int.ofNat k) ws g nt xt key (key ++ [0]) key a b n c.kind c.key c.val hkl (by omega) W g.dr g.dO g.dv g.x1 g.x2)⟩
    · obtain ⟨Rm, hm, hR⟩ := lawList k hk ws hws hN hB hP hW key (key ++ [0]) hkey (by rw [List.length_append]; simp only [List.length_cons, List.length_nil]; omega) 1 n key a b c.kind c.key c.val (.inr ⟨rfl, by omega⟩)
      refine step_get _ ws g nt xt hB.deedy hW key a b n c.kind c.key c.val rfl hkey (gGet_spec g key (by omega) hm ?_) hR
      intro v own h
      obtain ⟨zs, e, g', h1, h2, -⟩ := hR v own h
      exact ⟨⟨zs, _, h1⟩, g', h2⟩
  by_cases h2 : what = 2
  · subst h2
    obtain ⟨sp, ch, hB, hP⟩ := hI
    obtain ⟨W, hW⟩ := hP.wnt
    obtain ⟨Rm, hm, hR⟩ := lawList k hk ws hws hN hB hP hW a b ha hb 2 n key a b c.kind c.key c.val (.inl rfl)
    exact step_list _ ws g nt xt hB.deedy hW key a b n c.kind c.key c.val hm hR
  by_cases h3 : what = 3 ∨ what = 4 ∨ what = 5
  · exact stepC k ws ⟨hN.1, by omega⟩ hI what n h3 key a b c hc
  by_cases h6 : what = 6
  · subst h6; exact stepE k ws hN hI n key a b c.kind c.key c.val
  exact stepT k hk ws hws ⟨hN.1, by omega⟩ hI what n (by omega) key a b c.kind c.key c.val
end Go.Proofs.YtegkojnngdlfaaaGreat
