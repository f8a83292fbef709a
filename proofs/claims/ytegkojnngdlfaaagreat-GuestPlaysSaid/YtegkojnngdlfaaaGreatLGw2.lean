/- Guest: the game: a span is asked of one shelf after another. Conditions: on sizes. -/
import Derived.Test.YtegkojnngdlfaaaGreatLGw1
set_option maxRecDepth 100000
set_option maxHeartbeats 32000000
set_option linter.unusedSimpArgs false
set_option linter.unusedVariables false
namespace Go.Proofs.YtegkojnngdlfaaaGreat
open Go Go.Lx
open Go.Sx (vcIf)
def SawOf (g g' : Gq) (us : List PV) (N : Int) : Prop :=
  g'.c3 = g.c3 ∧ g'.fr = g.fr ∧ g.qn ≤ g'.qn ∧ g'.qn ≤ g.qn + N ∧ g'.wt = 0 ∧ g'.dr = g.dr ∧ g'.dO = g.dO ∧ g'.dv = g.dv ∧ g'.bg = g.bg ∧ g'.ep = g.ep ∧ g'.sv = g.sv ∧ g'.n2 = g.n2 ∧ g'.x2 = g.x2 ∧
  g'.n1 = g.n1 + 1 ∧ g'.x1 = g.x1 ++ [.agg [.str g.lo, .str g.hi, .int .i64 (Int.ofNat g.n2), .sl us]] ∧ g'.n3 = g.n3 + 1 ∧ g'.x3 = g.x3 ++ [.agg [.str g.lo, .str g.hi]]
theorem enc1 (n : Nat) (h : n < 128) : (enc n).length ≤ 9 := enc_len9 (by omega)
theorem prB_len {L : List Pr} (h1 : L.length ≤ 50) (h2 : ∀ p ∈ L, p.key.length ≤ 1 ∧ p.val.length ≤ 1) : (prB L).length < 1000000000 := by
  have : ∀ l : List Pr, (∀ p ∈ l, p.key.length ≤ 1 ∧ p.val.length ≤ 1) → (l.flatMap fun p => encts [p.key, p.val]).length ≤ 20 * l.length := by
    intro l
    induction l with
    | nil => intro _; simp
    | cons p l ih =>
      intro h
      have h1 := ih fun q hq => h q (by simp [hq])
      have h2 := h p (by simp)
      rw [List.flatMap_cons, List.length_append, List.length_cons]
      have h3 : (encts [p.key, p.val]).length ≤ 20 := by
        have e1 := enc1 p.key.length (by omega)
        have e2 := enc1 p.val.length (by omega)
        simp only [encts, List.flatMap_cons, List.flatMap_nil, enct, List.length_append, List.append_nil, List.length_nil]
        omega
      omega
  have h3 := this L h2
  have h4 := enc1 L.length (by omega)
  unfold prB
  rw [List.length_append]
  omega
theorem chain (k : Nat) (hk : 1 ≤ k ∧ k ≤ 4) (ws : List PV) (hws : ws = rlP gmL) (nt : Nat) (xt : List PV) (lo hi : List UInt8) (hlo : lo.length ≤ 17) (hhi : hi.length ≤ 17)
    (l : List Chg) (hl : l.length ≤ 48) (hlf : ∀ c ∈ l, c.fit) (hck : chks l = 0) (Full : List Pr) (hFs : Srt Full) (hFn : sndP Full = true) (hFk : ∀ p ∈ Full, p.key.length ≤ 1 ∧ p.val.length ≤ 1) (hFl : Full.length ≤ 40) :
    ∀ (r : List Nat) (i : Nat) (g : Gq) (F : List Pr) (bd : List PV), (∀ j ∈ i :: r, j < k) → g.lo = lo → g.hi = hi → g.wt = 2 → g.n6 = 1 → g.dr = 30 → bd = bP (encts [lo, hi]) → g.x6 = [msP 1 100 (40 + (i : Int)) g.ep g.qn 4 30 (.sl bd)] →
      g.n4 = r.length + 1 → g.x4.drop g.o4 = iP ((i :: r).map fun j : Nat => 40 + (j : Int)) → g.n5 = g.x5.length → g.x5 = prP F → Full = F ++ (i :: r).flatMap (fnd k ⟨lo, hi⟩) →
      0 ≤ g.qn → g.qn + 10 < 9223372036854775807 - r.length → g.x2 = cP l → g.n2 = l.length → g.n1 = g.x1.length → g.n1 ≤ 30 → g.n3 = g.x3.length → g.n3 ≤ 30 →
      GmC 34 [.own 9 0, .p (msP 1 100 (40 + (i : Int)) g.ep g.qn 4 30 (.sl bd))] (Int.ofNat k) ws g nt xt fun g' nt' xt' => nt' = nt ∧ xt' = xt ∧ ∃ us, us = prP (ones Full (cutL ⟨lo, hi⟩ l)) ∧ SawOf g g' us r.length := by
  intro r
  induction r with
  | nil =>
    intro i g F bd hj hglo hghi hw hn6 hdr hbd hx6 hn4 hx4 hn5 hx5 hFull hq0 hq1 hx2 hn2 hn1 hn1b hn3 hn3b
    simp only [List.length_nil] at hn4 hq1
    have hF : Full = F ++ fnd k ⟨lo, hi⟩ i := by rw [hFull]; simp
    have hLk : ∀ p ∈ fnd k ⟨lo, hi⟩ i, p.key.length ≤ 1 ∧ p.val.length ≤ 1 := fun p hp => hFk p (by rw [hF]; simp [hp])
    have hLl : F.length + (fnd k ⟨lo, hi⟩ i).length ≤ 40 := by rw [← List.length_append, ← hF]; exact hFl
    have hdl : g.x4.length - g.o4 = 1 := by have := congrArg List.length hx4; rw [List.length_drop, iP_length] at this; simpa using this
    refine ansS (Int.ofNat k) ws hws g nt xt k i hk (hj i (by simp)) rfl 1 100 (40 + (i : Int)) g.ep g.qn 4 rfl lo hi hlo hhi bd hbd (R0 := prR g (fnd k ⟨lo, hi⟩ i) F l (g.qn + 1)) (fun bd' hbd' => ?_) ?_
    · refine gTakeP_spec g hw hn6 hx6 0 0 bd' (gPairs_spec g hw (fnd k ⟨lo, hi⟩ i) (by omega) (fun p hp => by have := hLk p hp; omega) bd' hbd' (prB_len (by omega) hLk) 2 (40 + (i : Int)) 100 0 g.qn 0 hn5 F hx5 (by omega) (fun _ => by rw [← hF]; exact hFs) (fun _ => by rw [← hF]; exact hFn) (fun p hp => ?_)
        (by omega) (by omega) (fun h => by omega) ⟨hq0, by simp at hq1; omega⟩ rfl (by rw [hglo]; exact hlo) (by rw [hghi]; exact hhi) l hx2 hn2 hl hlf hck hn1 hn1b hn3 hn3b) ?_
      · rw [← hF] at hp
        have := hFk p hp
        exact ⟨by omega, by omega⟩
      · rintro v own (⟨-, rfl, m1, m3, p4, m4, m5, y1, y3, us, y5, -, -, -, -, -, rfl⟩ | ⟨s0, zs, bd2, p4, m4, m5, y5, -, -, -, -, -, -, -, -, rfl, rfl⟩)
        · exact ⟨⟨_, rfl⟩, _, rfl⟩
        · exact ⟨⟨_, rfl⟩, _, rfl⟩
    · rintro v own (⟨-, rfl, m1, m3, p4, m4, m5, y1, y3, us, y5, e1, e2, e3, e4, e5, rfl⟩ | ⟨s0, zs, bd2, p4, m4, m5, y5, -, -, h, -⟩)
      · refine ⟨_, _, rfl, rfl, gmSendN _ _ _ _ _ 0 ⟨rfl, rfl, us, ?_, ?_⟩⟩
        · rw [e1, hglo, hghi, hF]
        · exact ⟨rfl, rfl, Int.le_refl _, by simp [Gq.got, Gq.saw], rfl, rfl, rfl, rfl, rfl, rfl, rfl, rfl, rfl, e2, e4, e3, e5⟩
      · omega
  | cons i2 r ih =>
    intro i g F bd hj hglo hghi hw hn6 hdr hbd hx6 hn4 hx4 hn5 hx5 hFull hq0 hq1 hx2 hn2 hn1 hn1b hn3 hn3b
    have hF : Full = (F ++ fnd k ⟨lo, hi⟩ i) ++ (i2 :: r).flatMap (fnd k ⟨lo, hi⟩) := by rw [hFull, List.flatMap_cons (x := i), List.append_assoc]
    have hLk : ∀ p ∈ F ++ fnd k ⟨lo, hi⟩ i, p.key.length ≤ 1 ∧ p.val.length ≤ 1 := fun p hp => hFk p (by rw [hF]; exact List.mem_append_left _ hp)
    have hLl : F.length + (fnd k ⟨lo, hi⟩ i).length ≤ 40 := by
      have := congrArg List.length hF
      rw [List.length_append, List.length_append] at this
      omega
    have hdl : g.x4.length - g.o4 = r.length + 2 := by have := congrArg List.length hx4; rw [List.length_drop, iP_length] at this; simpa using this
    have hd1 : g.x4.drop (g.o4 + 1) = iP ((i2 :: r).map fun j : Nat => 40 + (j : Int)) := by rw [← List.drop_drop, hx4]; rfl
    have hg1 : g.x4[g.o4 + 1]? = some (.int .i64 (40 + (i2 : Int))) := by
      have := congrArg (fun z => z[0]?) hd1
      simp only [List.getElem?_drop] at this
      rw [Nat.add_zero] at this
      rw [this]; rfl
    simp only [List.length_cons] at hn4 hq1
    refine ansS (Int.ofNat k) ws hws g nt xt k i hk (hj i (by simp)) rfl 1 100 (40 + (i : Int)) g.ep g.qn 4 rfl lo hi hlo hhi bd hbd (R0 := prR g (fnd k ⟨lo, hi⟩ i) F l (g.qn + 1)) (fun bd' hbd' => ?_) ?_
    · refine gTakeP_spec g hw hn6 hx6 0 0 bd' (gPairs_spec g hw (fnd k ⟨lo, hi⟩ i) (by omega) (fun p hp => by have := hLk p (List.mem_append_right _ hp); omega) bd' hbd' (prB_len (by omega) fun p hp => hLk p (List.mem_append_right _ hp)) 2 (40 + (i : Int)) 100 0 g.qn 0 hn5 F hx5 (by omega) (fun h => by omega) (fun h => by omega) (fun p hp => ?_)
        (by omega) (by omega) (fun h => ⟨_, hg1⟩) ⟨hq0, by omega⟩ rfl (by rw [hglo]; exact hlo) (by rw [hghi]; exact hhi) l hx2 hn2 hl hlf hck hn1 hn1b hn3 hn3b) ?_
      · have := hLk p hp
        exact ⟨by omega, by omega⟩
      · rintro v own (⟨-, rfl, m1, m3, p4, m4, m5, y1, y3, us, y5, -, -, -, -, -, rfl⟩ | ⟨s0, zs, bd2, p4, m4, m5, y5, -, -, -, -, -, -, -, -, rfl, rfl⟩)
        · exact ⟨⟨_, rfl⟩, _, rfl⟩
        · exact ⟨⟨_, rfl⟩, _, rfl⟩
    · rintro v own (⟨h, -⟩ | ⟨s0, zs, bd2, p4, m4, m5, y5, e1, e2, -, e4, e5, e6, e7, e8, rfl, rfl⟩)
      · omega
      · rw [e1, hg1] at e4
        cases e4
        rw [hdr] at e8
        refine ⟨_, _, rfl, rfl, gmSend1 _ _ _ _ _ 0 e8 (Q1 := fun g' nt' xt' => nt' = nt ∧ xt' = xt ∧ ∃ us, us = prP (ones Full (cutL ⟨lo, hi⟩ l)) ∧ SawOf g g' us (r.length + 1 : Nat)) (fun h => absurd h (by decide)) (fun _ => ?_) (fun h => absurd h (by decide)) (fun _ _ g' nt' xt' h => h)⟩
        have := ih i2 ((g.got p4 m4 m5 y5).sent 2 (g.qn + 1) zs) (F ++ fnd k ⟨lo, hi⟩ i) bd2 (fun j hj' => hj j (List.mem_cons_of_mem _ hj')) hglo hghi rfl rfl hdr (by rw [e7, hglo, hghi]) e8 (show m4 = _ by omega) (by show g.x4.drop p4 = _; rw [e1]; exact hd1)
          (by show m5 = y5.length; rw [e6, e5, List.length_append, prP_length, hn5]) (by show y5 = _; rw [e5, hx5]; unfold prP; rw [List.map_append]) hF (show 0 ≤ g.qn + 1 by omega) (show g.qn + 1 + 10 < _ by omega) hx2 hn2 hn1 hn1b hn3 hn3b
        refine this.mono ?_
        rintro v own ⟨g', nt', xt', ⟨rfl, rfl, us, hus, h1, h2, h3, h4, h5, h6, h7, h8, h9, h10, h11, h12, h13, h14, h15, h16, h17⟩, rfl⟩
        refine ⟨g', _, _, ⟨rfl, rfl, us, hus, h1, h2, ?_, ?_, h5, h6, h7, h8, h9, h10, h11, h12, h13, h14, h15, h16, h17⟩, rfl⟩
        · have : g.qn + 1 ≤ g'.qn := h3
          omega
        · have : g'.qn ≤ g.qn + 1 + r.length := h4
          omega
end Go.Proofs.YtegkojnngdlfaaaGreat
