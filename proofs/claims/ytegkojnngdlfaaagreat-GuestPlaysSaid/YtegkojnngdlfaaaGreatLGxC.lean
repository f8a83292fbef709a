/- Guest: the game: what holds between steps; End, moments. Conditions: on sizes. -/
import Derived.Test.YtegkojnngdlfaaaGreatLGxB
set_option maxRecDepth 100000
set_option maxHeartbeats 8000000
set_option linter.unusedSimpArgs false
set_option linter.unusedVariables false
namespace Go.Proofs.YtegkojnngdlfaaaGreat
open Go Go.Lx
open Go.Sx (vcIf)
theorem seenP_len (lo hi : List UInt8) {l : List Chg} (hl : l.length ≤ 48) : (seenP lo hi l).length ≤ 2000 := by
  have h0 := P30_flt fun p => hs ⟨lo, hi⟩ p.key
  have h1 := ones_len h0.1 (cutL ⟨lo, hi⟩ l)
  have h2 := cutL_len ⟨lo, hi⟩ l
  have h3 := h0.2.1
  unfold seenP
  omega
theorem tEnc_lenB {t : Tx} (ht : t.fit) (hok : t.okB = true) : (tEnc t).1.length < 9223372036854775807 := by
  obtain ⟨k1, k2, k3, k4, k5⟩ := t.ok_iff.1 hok
  have h1 := chgs_len k4 (by omega)
  have h2 := encs_len [t.r, (t.sp.length : Int)] (fun z hz => by
    simp only [List.mem_cons, List.not_mem_nil, or_false] at hz
    rcases hz with rfl | rfl
    · exact ht.1.2
    · omega)
  have h3 : ∀ l : List Spn, (∀ c ∈ l, c ∈ t.sp) → (l.flatMap encS).length ≤ 60 * l.length := by
    intro l
    induction l with
    | nil => intro _; simp
    | cons c l ih =>
      intro h
      have i1 := ih fun d hd => h d (by simp [hd])
      have i2 := spn_ok k5 (h c (by simp))
      have i3 := enctL c.lo i2.1
      have i4 := enctL c.hi i2.2
      rw [List.flatMap_cons, List.length_append, List.length_cons]
      have i5 : (encS c).length = (enct c.lo).length + (enct c.hi).length := by unfold encS; rw [List.length_append]
      omega
  have h4 := h3 t.sp fun c hc => hc
  simp only [List.length_cons, List.length_nil] at h2
  unfold tEnc
  rw [if_pos hok]
  simp only
  unfold tBytes
  rw [List.length_append, List.length_append]
  omega
theorem stepT (k : Nat) (hk : 1 ≤ k ∧ k ≤ 4) (ws : List PV) (hws : ws = rlP gmL) {N : Int} (hN : 0 ≤ N ∧ N ≤ 900) {g : Gq} {nt : Nat} {xt : List PV} (hI : Inv21 k N g nt xt) (what n : Int) (hwh : what < 0 ∨ 6 < what) (key a b : List UInt8) (ck : Int) (cy cv : List UInt8) :
    FnL Tryz.prog 16 [.own 9 0, .p (stp what n key a b ck cy cv)] (gmO (Int.ofNat k) g nt xt ws) (StQ (Int.ofNat k) ws (Inv21 k (N + 10))) := by
  obtain ⟨sp, ch, hB, hP⟩ := hI
  obtain ⟨W, hW⟩ := hP.wnt
  have q0 := hB.qn0
  have q1 := hB.qn1
  have hq5 : g.qn ≤ g.qn + 5 := by omega
  have hdy := hB.deedy
  by_cases hw0 : g.wt = 0
  · refine step_tick _ ws g nt xt hdy hW key a b n ck cy cv what hwh (gTick_idle g hw0) ?_
    rintro v own ⟨rfl, rfl⟩
    exact ⟨_, g, rfl, rfl, gmSendN _ _ _ _ _ n ⟨sp, ch, hB.mono (by omega), hP⟩⟩
  cases hP with
  | none h1 => exact absurd h1 hw0
  | idle h1 => exact absurd h1 hw0
  | vers tg e0 h1 h2 h3 h4 h5 h6 h7 h8 h9 =>
    refine step_tick _ ws g nt xt hdy hW key a b n ck cy cv what hwh (gTick_version g h1 ⟨h5, h6⟩ hB.fr h7 rfl h9) ?_
    rintro v own ⟨tm, fm, zs, htm, hfm, hzs, rfl, rfl⟩
    refine ⟨_, { g with tk := tm, fr := fm, x6 := zs }, rfl, rfl, GmC.mono (sendV (Int.ofNat k) ws { g with tk := tm, fr := fm, x6 := zs } nt xt n h1 h3 h7 (tg := fm) (e0 := e0) (by rcases hfm with h | h <;> omega) hzs hzs) ?_⟩
    rintro g' nt' xt' ⟨rfl, rfl, ⟨-, rfl⟩ | ⟨-, rfl⟩⟩
    · exact ⟨sp, ch, hB.upd rfl hfm (Int.le_refl _) hq5 rfl rfl rfl rfl rfl rfl (by omega), .vers fm e0 h1 h2 h3 h4 htm.1 htm.2 h7 hfm hzs⟩
    · exact ⟨sp, ch, hB.upd rfl hfm (Int.le_refl _) hq5 rfl rfl rfl rfl rfl rfl (by omega), .idle rfl h2 rfl rfl hfm⟩
  | span i r bd ha h2 h3 h4 h5 h6 h7 h8 =>
    by_cases ht : g.tk < 48
    · refine step_tick _ ws g nt xt hdy hW key a b n ck cy cv what hwh (gTick_again g ha.wt ⟨h6, ht⟩ rfl ha.n6 rfl ha.x6) ?_
      rintro v own ⟨zs, hzs, rfl, rfl⟩
      have ha' : Asks k ch ({ g with tk := g.tk + 1 } : Gq) i r bd := ⟨ha.1, ha.2, ha.3, ha.4, ha.5, ha.6, ha.7, ha.8, ha.9, ha.10, ha.11, ha.12, ha.13, ha.14, ha.15, ha.16, ha.17, ha.18, ha.19, ha.20, ha.21⟩
      refine ⟨_, { g with tk := g.tk + 1 }, rfl, rfl, GmC.mono (sendS k hk ws hws { g with tk := g.tk + 1 } nt xt n ch hB.chl hB.chf hB.chk ha' hzs) ?_⟩
      rintro g' nt' xt' ⟨rfl, rfl, ⟨-, rfl⟩ | ⟨-, us, hus, hs⟩⟩
      · exact ⟨sp, ch, hB.upd rfl hB.fr (Int.le_refl _) hq5 rfl rfl rfl rfl rfl rfl (by omega), .span i r bd ha' h2 h3 h4 h5 (show 0 ≤ g.tk + 1 by omega) (show g.tk + 1 ≤ 48 by omega) h8⟩
      · have hB0 : Bs k (N + 5) ({ g with tk := g.tk + 1 } : Gq) nt' xt' sp ch := hB.upd rfl hB.fr (Int.le_refl _) hq5 rfl rfl rfl rfl rfl rfl (Int.le_refl _)
        refine ⟨_, ch, hB0.saw hs hus ?_ h8 (by omega), ?_⟩
        · exact seenP_len _ _ hB.chl
        · obtain ⟨e1, e2, e3, e4, e5, e6, e7, e8, e9, e10, e11, -⟩ := hs
          exact .idle e5 (by rw [e9]; exact h2) (by rw [e6]; exact ha.dr) (by rw [e10]; exact h4) (by rw [e11]; exact h5)
    · refine step_tick _ ws g nt xt hdy hW key a b n ck cy cv what hwh (gTick_gone g (.inl ha.wt) ⟨by omega, by omega⟩ rfl) ?_
      rintro v own ⟨rfl, rfl⟩
      exact ⟨_, { g with tk := g.tk + 1, wt := 0, dO := 5 }, rfl, rfl, gmSendN _ _ _ _ _ n ⟨sp, ch, hB.upd rfl hB.fr (Int.le_refl _) hq5 rfl rfl rfl rfl rfl rfl (by omega), .idle rfl h2 ha.dr h4 h5⟩⟩
  | comm h1 h2 h3 h4 h5 h6 h7 h8 =>
    by_cases ht : g.tk < 48
    · refine step_tick _ ws g nt xt hdy hW key a b n ck cy cv what hwh (gTick_commit g h1 ⟨h7, ht⟩ rfl) ?_
      rintro v own ⟨rfl, rfl⟩
      exact ⟨_, { g with tk := g.tk + 1 }, rfl, rfl, gmSendN _ _ _ _ _ n ⟨sp, ch, hB.upd rfl hB.fr (Int.le_refl _) hq5 rfl rfl rfl rfl rfl rfl (by omega), .comm h1 h2 h3 h4 h5 h6 (show 0 ≤ g.tk + 1 by omega) (show g.tk + 1 ≤ 48 by omega)⟩⟩
    · refine step_tick _ ws g nt xt hdy hW key a b n ck cy cv what hwh (gTick_gone g (.inr h1) ⟨by omega, by omega⟩ rfl) ?_
      rintro v own ⟨rfl, rfl⟩
      exact ⟨_, { g with tk := g.tk + 1, wt := 0, dO := 5 }, rfl, rfl, gmSendN _ _ _ _ _ n ⟨sp, ch, hB.upd rfl hB.fr (Int.le_refl _) hq5 rfl rfl rfl rfl rfl rfl (by omega), .idle rfl h2 h4 h5 h6⟩⟩
theorem stepE (k : Nat) (ws : List PV) {N : Int} (hN : 0 ≤ N ∧ N ≤ 890) {g : Gq} {nt : Nat} {xt : List PV} (hI : Inv21 k N g nt xt) (n : Int) (key a b : List UInt8) (ck : Int) (cy cv : List UInt8) :
    FnL Tryz.prog 16 [.own 9 0, .p (stp 6 n key a b ck cy cv)] (gmO (Int.ofNat k) g nt xt ws) (StQ (Int.ofNat k) ws (Inv21 k (N + 10))) := by
  obtain ⟨sp, ch, hB, hP⟩ := hI
  obtain ⟨W, hW⟩ := hP.wnt
  have q0 := hB.qn0
  have q1 := hB.qn1
  have q2 := hB.nt1
  have hq5 : g.qn ≤ g.qn + 5 := by omega
  have hdy := hB.deedy
  have hx2l : g.x2.length = ch.length := by rw [hB.x2, cP_length]
  have hx2b : g.x2.length ≤ 48 := by rw [hx2l]; exact hB.chl
  have hI' : Inv21 k (N + 10) g nt xt := ⟨sp, ch, hB.mono (by omega), hP⟩
  rcases idlW hP hW with ⟨hW0, hid⟩ | ⟨rfl, h1, h2, hid⟩ | ⟨rfl, h1, h2, h3, h4, h5, h6, hid⟩
  · have hid0 : idl g.wt g.bg g.dO ≠ 0 := fun c => by rw [c] at hid; exact hW0 hid.symm
    refine step_end _ ws g nt xt hdy hW key a b n ck cy cv (gEnd_err g hid0) ?_
    rintro v own ⟨e, he, rfl, rfl⟩
    refine ⟨_, _, g, rfl, rfl, StQ.keep hI' ?_⟩
    rw [he, hid]
    exact ended3 (Int.ofNat k) ws g nt xt ch hdy key a b 6 n ck cy cv W g.dr g.dO g.dv g.x1 g.x2 hW0
  · refine step_end _ ws g nt xt hdy hW key a b n ck cy cv (gEnd_err g (by rw [hid]; decide)) ?_
    rintro v own ⟨e, he, rfl, rfl⟩
    refine ⟨_, _, g, rfl, rfl, StQ.keep hI' ?_⟩
    rw [he, hid, h1, h2]
    exact ended2 (Int.ofNat k) ws g nt xt key a b 6 n ck cy cv g.dv g.x1 g.x2
  · obtain ⟨t, ht⟩ : ∃ t : Tx, t = ⟨g.dr, sp, ch⟩ := ⟨_, rfl⟩
    have htr : t.r = g.dr := by rw [ht]
    have hts : t.sp = sp := by rw [ht]
    have htc : t.ch = ch := by rw [ht]
    have hspl := hB.spl
    have hchl := hB.chl
    have hfit : t.fit := ⟨by rw [htr, h1]; decide, by rw [htc]; exact hB.chf, by rw [hts]; omega, by rw [htc]; omega⟩
    have hnn : ¬(t.r = 0 ∧ g.dO = 0) := by rw [htr, h1]; simp
    have law := fun (g' : Gq) (lm : PV) (Q : Gq → Nat → List PV → Prop) (hse : GmC fSend [.own 9 0, .p lm, .p (.int .i64 n)] (Int.ofNat k) ws g' nt xt Q) hQ hI2 =>
      FnL.mono (R' := StQ (Int.ofNat k) ws (Inv21 k (N + 10))) (ended4 (Int.ofNat k) ws g' nt (by omega) xt key a b 6 n ck cy cv g.dO g.dv g.x1 g.x2 lm t hfit (by rw [htc]; exact hB.x2) hx2b (by rw [hts]; exact hB.l1) (by rw [hts]; exact hspl)
        (fun i s hi => by rw [hts] at hi; obtain ⟨af, us, h7, -⟩ := hB.x1 i s hi; exact ⟨af, us, h7⟩) hnn hse hQ) hI2
    rw [htr] at law
    by_cases hn2 : g.n2 = 0
    · refine step_end _ ws g nt xt hdy hW key a b n ck cy cv (gEnd_none g hid hn2) ?_
      rintro v own ⟨rfl, rfl⟩
      have hcl : g.x2.length = 0 := by rw [hx2l, ← hB.n2]; exact hn2
      have hBn : Bs k (N + 10) ({ g with dO := 1, dv := g.dr } : Gq) nt xt sp ch := hB.upd rfl hB.fr (Int.le_refl _) hq5 rfl rfl rfl rfl rfl rfl (by omega)
      refine ⟨_, _, { g with dO := 1, dv := g.dr }, rfl, rfl, law _ .nils (fun g' nt' xt' => g' = { g with dO := 1, dv := g.dr } ∧ nt' = nt ∧ xt' = xt) (gmSendN _ _ _ _ _ n ⟨rfl, rfl, rfl⟩) ?_ ?_⟩
      · rintro g' nt' xt' ⟨rfl, rfl, rfl⟩
        exact ⟨by rw [htc]; exact hBn.deedy, fun _ => ⟨fun _ => ⟨rfl, rfl, rfl⟩, fun h => absurd hcl h, fun h => absurd hcl h⟩⟩
      · rintro v own ⟨rfl, g', nt', xt', ⟨rfl, rfl, rfl⟩, rfl⟩
        exact ⟨rfl, _, _, _, ⟨sp, ch, hBn, .idle h3 h4 h1 h5 h6⟩, rfl⟩
    · have hcl : g.x2.length ≠ 0 := by rw [hx2l, ← hB.n2]; exact hn2
      refine step_end _ ws g nt xt hdy hW key a b n ck cy cv (gEnd_spec g hid hn2 ⟨q0, by omega⟩ rfl t hfit htr (by rw [hts]; exact hB.x3) (by rw [hts]; exact hB.n3) (by rw [htc]; exact hB.x2) (by rw [htc]; exact hB.n2) (by rw [hts]; omega) (by rw [htc]; omega)) ?_
      rintro v own (⟨hbad, rfl, rfl⟩ | ⟨hok, hc0, zs, bd, hbd, hzs, rfl, rfl⟩)
      · have hBn : Bs k (N + 10) ({ g with dO := 4 } : Gq) nt xt sp ch := hB.upd rfl hB.fr (Int.le_refl _) hq5 rfl rfl rfl rfl rfl rfl (by omega)
        refine ⟨_, _, { g with dO := 4 }, rfl, rfl, law _ .nils (fun g' nt' xt' => g' = { g with dO := 4 } ∧ nt' = nt ∧ xt' = xt) (gmSendN _ _ _ _ _ n ⟨rfl, rfl, rfl⟩) ?_ ?_⟩
        · rintro g' nt' xt' ⟨rfl, rfl, rfl⟩
          refine ⟨by rw [htc]; exact hBn.deedy, fun _ => ⟨fun h => absurd h hcl, fun _ _ => ⟨rfl, rfl⟩, fun _ h7 h8 => ?_⟩⟩
          rcases hbad with h | h
          · rw [h] at h8; cases h8
          · exact absurd h7 h
        · rintro v own ⟨rfl, g', nt', xt', ⟨rfl, rfl, rfl⟩, rfl⟩
          exact ⟨rfl, _, _, _, ⟨sp, ch, hBn, .idle h3 h4 h1 h5 h6⟩, rfl⟩
      · rw [h5] at hzs
        have hBn : Bs k (N + 5) (g.sent 3 (g.qn + 1) zs) nt xt sp ch := hB.upd rfl hB.fr (show g.qn ≤ g.qn + 1 by omega) (show g.qn + 1 ≤ g.qn + 5 by omega) rfl rfl rfl rfl rfl rfl (Int.le_refl _)
        have hlen : (tEnc t).1.length < 9223372036854775807 := tEnc_lenB hfit hok
        refine ⟨_, _, g.sent 3 (g.qn + 1) zs, rfl, rfl, law _ (.sl zs) _ (sendC (Int.ofNat k) ws (g.sent 3 (g.qn + 1) zs) nt xt n hB.nt0 (by omega) rfl rfl h5 (tg := g.sv) (by rcases h6 with h | h <;> omega) t hfit hok hlen bd hbd hzs hzs) ?_ ?_⟩
        · rintro g' nt' xt' (⟨-, rfl, rfl, rfl⟩ | ⟨-, rfl, h7, h8, h9, y, hy, hyi⟩)
          · exact ⟨by rw [htc]; exact hBn.deedy, fun h => absurd h (show ¬ (3 : Int) = 0 by decide)⟩
          · refine ⟨by rw [htc]; exact ⟨hBn.deedy.n1, hBn.deedy.n1b, hBn.deedy.n2, hBn.deedy.n2b, hBn.deedy.x2, hBn.deedy.x1⟩, fun _ => ⟨fun h => absurd h hcl, fun _ h => ?_, fun _ _ _ => ⟨rfl, rfl, h8, h7, y, hy, hyi⟩⟩⟩
            rcases h with h | h
            · exact absurd hc0 h
            · rw [hok] at h; cases h
        · rintro v own ⟨rfl, g', nt', xt', (⟨-, rfl, rfl, rfl⟩ | ⟨-, rfl, h7, h8, h9, -⟩), rfl⟩
          · exact ⟨rfl, _, _, _, ⟨sp, ch, hBn.mono (by omega), .comm rfl h4 h2 h1 h5 h6 (Int.le_refl _) (show (0 : Int) ≤ 48 by decide)⟩, rfl⟩
          · refine ⟨rfl, (g.sent 3 (g.qn + 1) zs).comm, _, _, ⟨sp, ch, ⟨hBn.c3, hBn.fr, hBn.qn0, by have := hBn.qn1; show g.qn + 1 ≤ _; omega, h7, by omega, hBn.n1, hBn.l1, hBn.x1, hBn.x3, hBn.n3, hBn.spl, hBn.x2, hBn.n2, hBn.chl, hBn.chf, hBn.chk⟩, .idle rfl h4 h1 h5 h6⟩, rfl⟩
end Go.Proofs.YtegkojnngdlfaaaGreat
