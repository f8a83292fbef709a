/- Guest: the game: what holds between steps; Begin, Change, End, moments. Conditions: on sizes. -/
import Derived.Test.YtegkojnngdlfaaaGreatLGx8
import Derived.Test.YtegkojnngdlfaaaGreatLGx9
import Derived.Test.YtegkojnngdlfaaaGreatLGxA
set_option maxRecDepth 100000
set_option maxHeartbeats 8000000
set_option linter.unusedSimpArgs false
set_option linter.unusedVariables false
namespace Go.Proofs.YtegkojnngdlfaaaGreat
open Go Go.Lx
open Go.Sx (vcIf)
structure Bs (k : Nat) (N : Int) (g : Gq) (nt : Nat) (xt : List PV) (sp : List Spn) (ch : List Chg) : Prop where
  c3 : g.c3 = Int.ofNat k
  fr : g.fr = 60 ∨ g.fr = 61
  qn0 : 0 ≤ g.qn
  qn1 : g.qn ≤ N
  nt0 : nt = xt.length
  nt1 : (nt : Int) ≤ N
  n1 : g.x1.length = g.n1
  l1 : g.x1.length = sp.length
  x1 : ∀ (i : Nat) (s : Spn), sp[i]? = some s → ∃ af us, g.x1[i]? = some (PV.agg [.str s.lo, .str s.hi, .int .i64 af, .sl us]) ∧ Wf 2 us ∧ us.length ≤ 2000
  x3 : g.x3 = pP sp
  n3 : g.n3 = sp.length
  spl : sp.length ≤ 24
  x2 : g.x2 = cP ch
  n2 : g.n2 = ch.length
  chl : ch.length ≤ 48
  chf : ∀ c ∈ ch, c.fit
  chk : chks ch = 0
theorem Bs.deedy {k : Nat} {N : Int} {g : Gq} {nt : Nat} {xt : List PV} {sp : List Spn} {ch : List Chg} (h : Bs k N g nt xt sp ch) : Deedy g ch := by
  have h1 := h.n1
  have h2 := h.l1
  have h3 := h.spl
  refine ⟨h.n1, by omega, by rw [h.n2, h.x2, cP_length], by have := h.n2; have := h.chl; omega, h.x2, fun i hi => ?_⟩
  obtain ⟨s, hs⟩ := get_of_lt (show i < sp.length by omega)
  obtain ⟨af, us, h4, h5⟩ := h.x1 i s hs
  exact ⟨_, _, _, _, h4, h5⟩
theorem Bs.upd {k : Nat} {N N' : Int} {g g' : Gq} {nt : Nat} {xt : List PV} {sp : List Spn} {ch : List Chg} (h : Bs k N g nt xt sp ch) (h1 : g'.c3 = g.c3) (h2 : g'.fr = 60 ∨ g'.fr = 61) (h3 : g.qn ≤ g'.qn) (h4 : g'.qn ≤ g.qn + 5)
    (e1 : g'.n1 = g.n1) (e2 : g'.x1 = g.x1) (e3 : g'.x3 = g.x3) (e4 : g'.n3 = g.n3) (e5 : g'.x2 = g.x2) (e6 : g'.n2 = g.n2) (hN : N + 5 ≤ N') : Bs k N' g' nt xt sp ch := by
  have q0 := h.qn0
  have q1 := h.qn1
  have q2 := h.nt1
  exact ⟨by rw [h1]; exact h.c3, h2, by omega, by omega, h.nt0, by omega, by rw [e1, e2]; exact h.n1, by rw [e2]; exact h.l1, by rw [e2]; exact h.x1, by rw [e3]; exact h.x3, by rw [e4]; exact h.n3, h.spl, by rw [e5]; exact h.x2, by rw [e6]; exact h.n2, h.chl, h.chf, h.chk⟩
theorem Bs.mono {k : Nat} {N N' : Int} {g : Gq} {nt : Nat} {xt : List PV} {sp : List Spn} {ch : List Chg} (h : Bs k N g nt xt sp ch) (hN : N + 5 ≤ N') : Bs k N' g nt xt sp ch :=
  h.upd rfl h.fr (Int.le_refl _) (by omega) rfl rfl rfl rfl rfl rfl hN
theorem Bs.nil {k : Nat} {N N' : Int} {g g' : Gq} {nt : Nat} {xt : List PV} {sp : List Spn} {ch : List Chg} (h : Bs k N g nt xt sp ch) (h1 : g'.c3 = g.c3) (h2 : g'.fr = 60 ∨ g'.fr = 61) (h3 : g.qn ≤ g'.qn) (h4 : g'.qn ≤ g.qn + 5)
    (e1 : g'.n1 = 0) (e2 : g'.x1 = []) (e3 : g'.x3 = []) (e4 : g'.n3 = 0) (e5 : g'.x2 = []) (e6 : g'.n2 = 0) (hN : N + 5 ≤ N') : Bs k N' g' nt xt [] [] := by
  have q0 := h.qn0
  have q1 := h.qn1
  have q2 := h.nt1
  exact ⟨by rw [h1]; exact h.c3, h2, by omega, by omega, h.nt0, by omega, by rw [e1, e2]; rfl, by rw [e2]; rfl, fun i s hs => by simp at hs, by rw [e3]; rfl, by rw [e4]; rfl, by decide, by rw [e5]; rfl, by rw [e6]; rfl, by decide, by simp, rfl⟩
theorem Bs.saw {k : Nat} {N N' : Int} {g g' : Gq} {nt : Nat} {xt : List PV} {sp : List Spn} {ch : List Chg} (h : Bs k N g nt xt sp ch) {us : List PV} {L : List Pr} (hs : SawOf g g' us 4) (hus : us = prP L) (hL : L.length ≤ 2000) (hl : sp.length < 24) (hN : N + 5 ≤ N') :
    Bs k N' g' nt xt (sp ++ [⟨g.lo, g.hi⟩]) ch := by
  obtain ⟨h1, h2, h3, h4, h5, h6, h7, h8, h9, h10, h11, h12, h13, h14, h15, h16, h17⟩ := hs
  have q0 := h.qn0
  have q1 := h.qn1
  have q2 := h.nt1
  refine ⟨by rw [h1]; exact h.c3, by rw [h2]; exact h.fr, by omega, by omega, h.nt0, by omega, by rw [h14, h15, List.length_append, h.n1]; rfl, by rw [h15, List.length_append, List.length_append, h.l1]; rfl, fun i s hi => ?_, ?_, by rw [h16, h.n3, List.length_append]; rfl, by rw [List.length_append]; simp only [List.length_cons, List.length_nil]; omega, by rw [h13]; exact h.x2, by rw [h12]; exact h.n2, h.chl, h.chf, h.chk⟩
  · rw [h15]
    by_cases hil : i < sp.length
    · rw [List.getElem?_append_left hil] at hi
      obtain ⟨af, us0, g1, g2⟩ := h.x1 i s hi
      exact ⟨af, us0, by rw [List.getElem?_append_left (by rw [h.l1]; exact hil)]; exact g1, g2⟩
    · rw [List.getElem?_append_right (by omega)] at hi
      have hi0 : i - sp.length = 0 := by
        cases hd : i - sp.length with
        | zero => rfl
        | succ d => rw [hd] at hi; simp at hi
      rw [hi0] at hi
      have hs' : (⟨g.lo, g.hi⟩ : Spn) = s := by simpa using hi
      refine ⟨Int.ofNat g.n2, us, ?_, by rw [hus]; exact prP_wf L, by rw [hus, prP_length]; exact hL⟩
      rw [List.getElem?_append_right (by rw [h.l1]; omega), h.l1, hi0, ← hs']; rfl
  · rw [h17, h.x3]; unfold pP; rw [List.map_append]; rfl
inductive Ph (k : Nat) (sp : List Spn) (ch : List Chg) (g : Gq) : Prop
  | none : g.wt = 0 → g.bg = false → g.dr = 0 → g.dO = 0 → Ph k sp ch g
  | idle : g.wt = 0 → g.bg = true → g.dr = 30 → g.ep = 9 → (g.sv = 60 ∨ g.sv = 61) → Ph k sp ch g
  | vers (tg e0 : Int) : g.wt = 1 → g.bg = true → g.dO = 0 → g.dr = 0 → 0 ≤ g.tk → g.tk ≤ 48 → g.n6 = 1 → (tg = 60 ∨ tg = 61) → g.x6 = [msP 1 100 tg e0 g.qn 1 0 (.sl [])] → Ph k sp ch g
  | span (i : Nat) (r : List Nat) (bd : List PV) : Asks k ch g i r bd → g.bg = true → g.dO = 0 → g.ep = 9 → (g.sv = 60 ∨ g.sv = 61) → 0 ≤ g.tk → g.tk ≤ 48 → sp.length < 24 → Ph k sp ch g
  | comm : g.wt = 3 → g.bg = true → g.dO = 0 → g.dr = 30 → g.ep = 9 → (g.sv = 60 ∨ g.sv = 61) → 0 ≤ g.tk → g.tk ≤ 48 → Ph k sp ch g
def Inv21 (k : Nat) (N : Int) (g : Gq) (nt : Nat) (xt : List PV) : Prop := ∃ sp ch, Bs k N g nt xt sp ch ∧ Ph k sp ch g
theorem Ph.wnt {k : Nat} {sp : List Spn} {ch : List Chg} {g : Gq} (h : Ph k sp ch g) : ∃ W, Wnt g W := by
  cases h with
  | none h1 h2 h3 h4 => exact ⟨0, .inl ⟨h1, h4, rfl⟩⟩
  | idle h1 h2 h3 h4 h5 =>
    by_cases hO : g.dO = 0
    · exact ⟨0, .inl ⟨h1, hO, rfl⟩⟩
    · exact ⟨12, .inr (.inl ⟨h1, hO, rfl⟩)⟩
  | vers tg e0 h1 h2 h3 => exact ⟨14, .inr (.inr ⟨by omega, h3, rfl⟩)⟩
  | span i r bd h1 h2 h3 => exact ⟨14, .inr (.inr ⟨by rw [h1.wt]; decide, h3, rfl⟩)⟩
  | comm h1 h2 h3 => exact ⟨14, .inr (.inr ⟨by omega, h3, rfl⟩)⟩
theorem Ph.at0 {k : Nat} {sp : List Spn} {ch : List Chg} {g : Gq} (h : Ph k sp ch g) (hw : g.wt = 0) : (g.bg = false ∧ g.dr = 0 ∧ g.dO = 0) ∨ (g.bg = true ∧ g.dr = 30 ∧ g.ep = 9 ∧ (g.sv = 60 ∨ g.sv = 61)) := by
  cases h with
  | none h1 h2 h3 h4 => exact .inl ⟨h2, h3, h4⟩
  | idle h1 h2 h3 h4 h5 => exact .inr ⟨h2, h3, h4, h5⟩
  | vers tg e0 h1 h2 h3 => omega
  | span i r bd h1 h2 h3 => have := h1.wt; omega
  | comm h1 h2 h3 => omega
theorem stepB (k : Nat) (ws : List PV) {N : Int} (hN : 0 ≤ N ∧ N ≤ 900) {g : Gq} {nt : Nat} {xt : List PV} (hI : Inv21 k N g nt xt) (n : Int) (key a b : List UInt8) (ck : Int) (cy cv : List UInt8) :
    FnL Tryz.prog 16 [.own 9 0, .p (stp 0 n key a b ck cy cv)] (gmO (Int.ofNat k) g nt xt ws) (StQ (Int.ofNat k) ws (Inv21 k (N + 10))) := by
  obtain ⟨sp, ch, hB, hP⟩ := hI
  obtain ⟨W, hW⟩ := hP.wnt
  have q0 := hB.qn0
  have q1 := hB.qn1
  by_cases h : g.wt ≠ 0 ∨ g.bg = true ∧ g.dO = 0
  · refine step_begin _ ws g nt xt hB.deedy hW key a b n ck cy cv (gBegin_err g h) ?_
    rintro v own ⟨e, he, rfl, rfl⟩
    refine ⟨_, _, g, rfl, rfl, gmSendN _ _ _ _ _ n ⟨sp, ch, hB.mono (by omega), hP⟩, ?_⟩
    rcases hW with ⟨h1, h2, rfl⟩ | ⟨h1, h2, rfl⟩ | ⟨h1, h2, rfl⟩
    · have hbg : g.bg = true := by rcases h with h | h; exact absurd h1 h; exact h.1
      have hdr : g.dr = 30 := by
        rcases hP.at0 h1 with h3 | h3
        · rw [h3.1] at hbg; cases hbg
        · exact h3.2.1
      rw [if_pos rfl, he, if_neg (by simp [h1])]
      exact ⟨fun c => by omega, fun _ => rfl⟩
    · rcases h with h | h
      · exact absurd h1 h
      · exact absurd h.2 h2
    · rw [if_neg (by decide), if_neg (by decide), he, if_pos h1]; rfl
  · have hw0 : g.wt = 0 := by
      by_cases hw : g.wt = 0
      · exact hw
      · exact absurd (.inl hw) h
    have hbd : ¬ (g.bg = true ∧ g.dO = 0) := fun c => h (.inr c)
    refine step_begin _ ws g nt xt hB.deedy hW key a b n ck cy cv (gBegin_spec g ⟨q0, by omega⟩ rfl hw0 hbd) ?_
    rintro v own ⟨zs, hzs, rfl, rfl⟩
    refine ⟨_, _, g.begun.sent 1 (g.qn + 1) zs, rfl, rfl, GmC.mono (sendV (Int.ofNat k) ws (g.begun.sent 1 (g.qn + 1) zs) nt xt n rfl rfl rfl (tg := g.fr) (e0 := 0) (by rcases hB.fr with h | h <;> omega) hzs hzs) ?_, ?_⟩
    · rintro g' nt' xt' ⟨rfl, rfl, ⟨-, rfl⟩ | ⟨-, rfl⟩⟩
      · exact ⟨[], [], hB.nil rfl hB.fr (show g.qn ≤ g.qn + 1 by omega) (show g.qn + 1 ≤ g.qn + 5 by omega) rfl rfl rfl rfl rfl rfl (by omega), .vers g.fr 0 rfl rfl rfl rfl (Int.le_refl _) (show (0 : Int) ≤ 48 by decide) rfl hB.fr hzs⟩
      · exact ⟨[], [], hB.nil rfl hB.fr (show g.qn ≤ g.qn + 1 by omega) (show g.qn + 1 ≤ g.qn + 5 by omega) rfl rfl rfl rfl rfl rfl (by omega), .idle rfl rfl rfl rfl hB.fr⟩
    · rcases hW with ⟨h1, h2, rfl⟩ | ⟨h1, h2, rfl⟩ | ⟨h1, h2, rfl⟩
      · rw [if_pos rfl]
        rcases hP.at0 h1 with h3 | h3
        · exact ⟨fun _ => rfl, fun c => absurd h3.2.1 c⟩
        · exact absurd ⟨h3.1, h2⟩ hbd
      · rw [if_neg (by decide), if_pos rfl]
      · exact absurd hw0 h1
theorem idlW {k : Nat} {sp : List Spn} {ch : List Chg} {g : Gq} (hP : Ph k sp ch g) {W : Int} (hW : Wnt g W) : (W ≠ 0 ∧ Int.ofNat (idl g.wt g.bg g.dO) = W) ∨ (W = 0 ∧ g.dr = 0 ∧ g.dO = 0 ∧ idl g.wt g.bg g.dO = 4) ∨
    (W = 0 ∧ g.dr = 30 ∧ g.dO = 0 ∧ g.wt = 0 ∧ g.bg = true ∧ g.ep = 9 ∧ (g.sv = 60 ∨ g.sv = 61) ∧ idl g.wt g.bg g.dO = 0) := by
  rcases hW with ⟨h1, h2, rfl⟩ | ⟨h1, h2, rfl⟩ | ⟨h1, h2, rfl⟩
  · rcases hP.at0 h1 with ⟨h3, h4, h5⟩ | ⟨h3, h4, h5, h6⟩
    · exact .inr (.inl ⟨rfl, h4, h5, by unfold idl; rw [if_neg (by simp [h1]), if_pos h3]⟩)
    · exact .inr (.inr ⟨rfl, h4, h2, h1, h3, h5, h6, by unfold idl; rw [if_neg (by simp [h1]), if_neg (by simp [h3]), if_neg (by simp [h2])]⟩)
  · rcases hP.at0 h1 with ⟨h3, h4, h5⟩ | ⟨h3, h4, h5, h6⟩
    · exact absurd h5 h2
    · exact .inl ⟨by decide, by unfold idl; rw [if_neg (by simp [h1]), if_neg (by simp [h3]), if_pos h2]; rfl⟩
  · exact .inl ⟨by decide, by unfold idl; rw [if_pos h1]; rfl⟩
theorem StQ.keep {f : FuncId} {args : List V} {k : Nat} {ws : List PV} {g : Gq} {nt : Nat} {xt : List PV} {Q : Gq → Nat → List PV → Prop} (hq : Q g nt xt)
    (h : FnL Tryz.prog f args (gmO (Int.ofNat k) g nt xt ws) fun v own => v = .p (.bool true) ∧ own = gmO (Int.ofNat k) g nt xt ws) : FnL Tryz.prog f args (gmO (Int.ofNat k) g nt xt ws) (StQ (Int.ofNat k) ws Q) :=
  FnL.mono h (by rintro v own ⟨h1, h2⟩; exact ⟨h1, g, nt, xt, hq, h2⟩)
theorem stepC (k : Nat) (ws : List PV) {N : Int} (hN : 0 ≤ N ∧ N ≤ 900) {g : Gq} {nt : Nat} {xt : List PV} (hI : Inv21 k N g nt xt) (what n : Int) (hwh : what = 3 ∨ what = 4 ∨ what = 5) (key a b : List UInt8) (c : Chg) (hf : c.fit) :
    FnL Tryz.prog 16 [.own 9 0, .p (stp what n key a b c.kind c.key c.val)] (gmO (Int.ofNat k) g nt xt ws) (StQ (Int.ofNat k) ws (Inv21 k (N + 10))) := by
  obtain ⟨sp, ch, hB, hP⟩ := hI
  obtain ⟨W, hW⟩ := hP.wnt
  have q0 := hB.qn0
  have q1 := hB.qn1
  have hx2l : g.x2.length = ch.length := by rw [hB.x2, cP_length]
  have hx2b : g.x2.length ≤ 48 := by rw [hx2l]; exact hB.chl
  refine step_change _ ws g nt xt hB.deedy hW key a b n c.kind c.key c.val what hwh (gChange_spec g (by rw [hB.n2, hx2l]) c hf) ?_
  rintro v own ⟨e, he, rfl, hown⟩
  have hI' : Inv21 k (N + 10) g nt xt := ⟨sp, ch, hB.mono (by omega), hP⟩
  unfold cgE at he
  rcases idlW hP hW with ⟨hW0, hid⟩ | ⟨rfl, h1, h2, hid⟩ | ⟨rfl, h1, h2, h3, h4, h5, h6, hid⟩
  · have hid0 : idl g.wt g.bg g.dO ≠ 0 := fun c => by rw [c] at hid; exact hW0 hid.symm
    rw [if_pos hid0] at he
    rcases hown with ⟨h0, rfl⟩ | ⟨h0, -⟩
    · refine ⟨_, g, rfl, rfl, StQ.keep hI' (changed3 (Int.ofNat k) ws g nt xt ch hB.deedy key a b what n c _ W _ _ _ _ _ (.inl ⟨hW0, by rw [he]; exact hid⟩) ?_ hx2b)⟩
      rw [if_neg (by simp only [Int.ofNat_eq_natCast]; omega)]
    · exact absurd (he.symm.trans h0) hid0
  · rw [if_pos (by rw [hid]; decide), hid] at he
    rcases hown with ⟨h0, rfl⟩ | ⟨h0, -⟩
    · refine ⟨_, g, rfl, rfl, StQ.keep hI' ?_⟩
      rw [h1, h2, he]
      exact changed2 (Int.ofNat k) ws g nt xt key a b what n c.kind c.key c.val g.dv g.x1 g.x2
    · omega
  · rw [if_neg (by rw [hid]; decide)] at he
    have he2 : e = chE c g.x2.length := by rw [he, hx2l, ← hB.n2]; rfl
    have hnn : ¬(g.dr = 0 ∧ g.dO = 0) := by rw [h1]; simp
    rcases hown with ⟨h0, rfl⟩ | ⟨h0, ws', m, hws', hm, rfl⟩
    · refine ⟨_, g, rfl, rfl, StQ.keep hI' (changed3 (Int.ofNat k) ws g nt xt ch hB.deedy key a b what n c _ 0 _ _ _ _ _ (.inr ⟨rfl, hnn, by rw [he2]⟩) ?_ hx2b)⟩
      rw [if_neg (by simp only [Int.ofNat_eq_natCast]; omega)]
    · subst h0
      have hc0 : chk c = 0 ∧ ch.length < 48 := by
        have hn2 := hB.n2
        by_cases q : chk c = 0
        · rw [if_neg (by simp [q])] at he
          by_cases r : 48 ≤ g.n2
          · rw [if_pos r] at he; omega
          · exact ⟨q, by omega⟩
        · rw [if_pos q] at he; exact absurd he.symm q
      have hB' : Bs k (N + 10) ({ g with n2 := m, x2 := ws' } : Gq) nt xt sp (ch ++ [c]) :=
        ⟨hB.c3, hB.fr, hB.qn0, by have := hB.qn1; show g.qn ≤ _; omega, hB.nt0, by have := hB.nt1; omega, hB.n1, hB.l1, hB.x1, hB.x3, hB.n3, hB.spl, by show ws' = _; rw [hws', hB.x2]; unfold cP; rw [List.map_append]; rfl,
          by show m = _; rw [hm, hB.n2, List.length_append]; rfl, by rw [List.length_append]; simp only [List.length_cons, List.length_nil]; omega, fun d hd => ?_, chks_of fun d hd => ?_⟩
      · refine ⟨_, { g with n2 := m, x2 := ws' }, rfl, rfl, StQ.keep ⟨sp, ch ++ [c], hB', .idle h3 h4 h1 h5 h6⟩ (changed3 (Int.ofNat k) ws { g with n2 := m, x2 := ws' } nt xt (ch ++ [c]) hB'.deedy key a b what n c _ 0 _ _ _ _ _ (.inr ⟨rfl, hnn, by rw [he2]⟩) ?_ hx2b)⟩
        rw [if_pos (show Int.ofNat 0 = 0 from rfl)]
        show ws'.length = _
        rw [hws', List.length_append]; rfl
      · rcases List.mem_append.1 hd with h | h
        · exact hB.chf d h
        · rw [List.mem_singleton.1 h]; exact hf
      · rcases List.mem_append.1 hd with h | h
        · exact chks_mem hB.chk d h
        · rw [List.mem_singleton.1 h]; exact hc0.1
end Go.Proofs.YtegkojnngdlfaaaGreat
