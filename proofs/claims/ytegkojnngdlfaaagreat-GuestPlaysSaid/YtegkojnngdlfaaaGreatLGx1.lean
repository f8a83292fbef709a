/- Guest: the game: what is sent, answered as often as it should be. Conditions: on sizes. -/
import Derived.Test.YtegkojnngdlfaaaGreatLGw2
set_option maxRecDepth 100000
set_option maxHeartbeats 32000000
set_option linter.unusedSimpArgs false
set_option linter.unusedVariables false
namespace Go.Proofs.YtegkojnngdlfaaaGreat
open Go Go.Lx
open Go.Sx (vcIf)
abbrev fSend : FuncId := 42
theorem GmC.mono {f : FuncId} {args : List V} {c : Int} {ws : List PV} {g : Gq} {nt : Nat} {xt : List PV} {Q R : Gq → Nat → List PV → Prop} (h : GmC f args c ws g nt xt Q) (hQ : ∀ g nt xt, Q g nt xt → R g nt xt) : GmC f args c ws g nt xt R :=
  FnL.mono h (by rintro v own ⟨g', nt', xt', h1, h2⟩; exact ⟨g', nt', xt', hQ _ _ _ h1, h2⟩)
def Gq.vers (g : Gq) (tg : Int) : Gq := { g with wt := 0, dr := 30, ep := 9, sv := tg }
theorem sendV (c : Int) (ws : List PV) (g : Gq) (nt : Nat) (xt : List PV) (how : Int) (hw : g.wt = 1) (hdO : g.dO = 0) (hn6 : g.n6 = 1) {e0 tg : Int} (htg : 60 ≤ tg) {zs zs2 : List PV} (hx6 : g.x6 = [msP 1 100 tg e0 g.qn 1 0 (.sl zs2)]) (hzs : zs = [msP 1 100 tg e0 g.qn 1 0 (.sl zs2)]) :
    GmC fSend [.own 9 0, .p (.sl zs), .p (.int .i64 how)] c ws g nt xt fun g' nt' xt' => nt' = nt ∧ xt' = xt ∧ (how = 1 ∧ g' = g ∨ how ≠ 1 ∧ g' = g.vers tg) := by
  refine gmSend1 c ws g nt xt how hzs (Q1 := fun g' nt' xt' => nt' = nt ∧ xt' = xt ∧ g' = g.vers tg) (fun h => ⟨rfl, rfl, .inl ⟨h, rfl⟩⟩) (fun h => ?_) (fun h => ?_) (fun h h2 g' nt' xt' hq => ⟨hq.1, hq.2.1, .inr ⟨h, hq.2.2⟩⟩)
  · refine ansV c ws g nt xt 1 100 tg e0 g.qn 0 zs2 htg (gTakeV_spec g hw hdO hn6 hx6 9 30) ?_
    rintro v own ⟨rfl, rfl⟩
    exact ⟨_, g.vers tg, rfl, rfl, gmSendN _ _ _ _ _ 0 ⟨rfl, rfl, rfl⟩⟩
  · rintro g' nt' xt' ⟨rfl, rfl, rfl⟩
    refine ansV c ws (g.vers tg) _ _ 1 100 tg e0 g.qn 0 zs2 htg (gTake_stale (g.vers tg) g.qn (.inr rfl) tg 9 0 30 []) ?_
    rintro v own ⟨rfl, rfl⟩
    exact ⟨_, g.vers tg, rfl, rfl, gmSendN _ _ _ _ _ 0 ⟨rfl, rfl, .inr ⟨by omega, rfl⟩⟩⟩
def Gq.comm (g : Gq) : Gq := { g with wt := 0, dO := 1, dv := 40 }
theorem sendC (c : Int) (ws : List PV) (g : Gq) (nt : Nat) (xt : List PV) (how : Int) (hnt : nt = xt.length) (hntb : nt ≤ 900) (hw : g.wt = 3) (hn6 : g.n6 = 1) (hep : g.ep = 9) {tg : Int} (htg : 60 ≤ tg) (t : Tx) (ht : t.fit) (hok : t.okB = true) (hbl : (tEnc t).1.length < 9223372036854775807) (bd : List PV) (hbd : bd = bP (tEnc t).1) {zs : List PV} (hx6 : g.x6 = [msP 1 100 tg 9 g.qn 2 0 (.sl bd)]) (hzs : zs = [msP 1 100 tg 9 g.qn 2 0 (.sl bd)]) :
    GmC fSend [.own 9 0, .p (.sl zs), .p (.int .i64 how)] c ws g nt xt fun g' nt' xt' => (how = 1 ∧ g' = g ∧ nt' = nt ∧ xt' = xt) ∨ (how ≠ 1 ∧ g' = g.comm ∧ nt' = xt'.length ∧ nt < nt' ∧ nt' ≤ nt + 2 ∧ ∃ y, TxIs t y ∧ xt'[nt]? = some y) := by
  refine gmSend1 c ws g nt xt how hzs (Q1 := fun g' nt' xt' => g' = g.comm ∧ nt' = nt + 1 ∧ ∃ y, TxIs t y ∧ xt' = xt ++ [y]) (fun h => .inl ⟨h, rfl, rfl, rfl⟩) (fun h => ?_) (fun h => ?_) ?_
  · refine ansC c ws g nt xt hnt (by omega) 1 100 tg g.qn 0 t ht hok hbl bd hbd htg (gTakeC_spec g hw hn6 hx6 0 1 40) ?_
    rintro v own ⟨rfl, rfl⟩ nt' xt' y hy h1 h2
    exact ⟨_, g.comm, rfl, rfl, gmSendN _ _ _ _ _ 0 ⟨rfl, h1, y, hy, h2⟩⟩
  · rintro g' nt' xt' ⟨rfl, rfl, y, hy, rfl⟩
    refine ansC c ws g.comm (nt + 1) (xt ++ [y]) (by rw [hnt]; simp) (by omega) 1 100 tg g.qn 0 t ht hok hbl bd hbd htg (gTake_stale g.comm g.qn (.inr rfl) tg 0 1 40 []) ?_
    rintro v own ⟨rfl, rfl⟩ nt' xt' y2 hy2 h1 h2
    refine ⟨_, g.comm, rfl, rfl, gmSendN _ _ _ _ _ 0 (.inr ⟨by omega, rfl, ?_, by omega, by omega, y, hy, ?_⟩)⟩
    · rw [h1, h2, hnt]; simp
    · rw [h2, hnt]; simp
  · rintro h h2 g' nt' xt' ⟨rfl, rfl, y, hy, rfl⟩
    exact .inr ⟨h, rfl, by rw [hnt]; simp, by omega, by omega, y, hy, by rw [hnt]; simp⟩
structure Asks (k : Nat) (l : List Chg) (g : Gq) (i : Nat) (r : List Nat) (bd : List PV) : Prop where
  lo : g.lo.length ≤ 17
  hi : g.hi.length ≤ 17
  wt : g.wt = 2
  n6 : g.n6 = 1
  dr : g.dr = 30
  ask : ask k ⟨g.lo, g.hi⟩ = i :: r
  bod : bd = bP (encts [g.lo, g.hi])
  x6 : g.x6 = [msP 1 100 (40 + (i : Int)) g.ep g.qn 4 30 (.sl bd)]
  o4 : g.o4 = 0
  n4 : g.n4 = r.length + 1
  x4 : g.x4 = iP ((i :: r).map fun j : Nat => 40 + (j : Int))
  n5 : g.n5 = 0
  x5 : g.x5 = []
  qn0 : 0 ≤ g.qn
  qn1 : g.qn ≤ 10000
  x2 : g.x2 = cP l
  n2 : g.n2 = l.length
  n1 : g.n1 = g.x1.length
  n1b : g.n1 ≤ 30
  n3 : g.n3 = g.x3.length
  n3b : g.n3 ≤ 30
def seenP (lo hi : List UInt8) (l : List Chg) : List Pr := ones (P30.filter fun p => hs ⟨lo, hi⟩ p.key) (cutL ⟨lo, hi⟩ l)
theorem sendS (k : Nat) (hk : 1 ≤ k ∧ k ≤ 4) (ws : List PV) (hws : ws = rlP gmL) (g : Gq) (nt : Nat) (xt : List PV) (how : Int) (l : List Chg) (hl : l.length ≤ 48) (hlf : ∀ c ∈ l, c.fit) (hck : chks l = 0) {i : Nat} {r : List Nat} {bd : List PV} (ha : Asks k l g i r bd) {zs : List PV} (hzs : zs = [msP 1 100 (40 + (i : Int)) g.ep g.qn 4 30 (.sl bd)]) :
    GmC fSend [.own 9 0, .p (.sl zs), .p (.int .i64 how)] (Int.ofNat k) ws g nt xt fun g' nt' xt' => nt' = nt ∧ xt' = xt ∧ (how = 1 ∧ g' = g ∨ how ≠ 1 ∧ ∃ us, us = prP (seenP g.lo g.hi l) ∧ SawOf g g' us 4) := by
  have hlt : ∀ j ∈ i :: r, j < k := fun j hj => ask_lt (s := ⟨g.lo, g.hi⟩) (by rw [ha.ask]; exact hj)
  have hrl : r.length + 1 ≤ k := by have := ask_len k ⟨g.lo, g.hi⟩; rw [ha.ask] at this; exact this
  have hr4 : r.length ≤ 3 := by omega
  have hfl := P30_flt fun p => hs ⟨g.lo, g.hi⟩ p.key
  refine gmSend1 (Int.ofNat k) ws g nt xt how hzs (Q1 := fun g' nt' xt' => nt' = nt ∧ xt' = xt ∧ ∃ us, us = prP (seenP g.lo g.hi l) ∧ SawOf g g' us 4) (fun h => ⟨rfl, rfl, .inl ⟨h, rfl⟩⟩) (fun h => ?_) (fun h => ?_) (fun h h2 g' nt' xt' hq => ⟨hq.1, hq.2.1, .inr ⟨h, hq.2.2⟩⟩)
  · refine GmC.mono (chain k hk ws hws nt xt g.lo g.hi ha.lo ha.hi l hl hlf hck (P30.filter fun p => hs ⟨g.lo, g.hi⟩ p.key) hfl.1 (P30_snd _) hfl.2.2 (by omega) r i g [] bd hlt rfl rfl ha.wt ha.n6 ha.dr ha.bod ha.x6 ha.n4 (by rw [ha.o4, List.drop_zero]; exact ha.x4)
      (by rw [ha.n5, ha.x5]; rfl) ha.x5 (by rw [List.nil_append, ← ha.ask, fnd_ask k hk]) ha.qn0 (by have := ha.qn1; omega) ha.x2 ha.n2 ha.n1 ha.n1b ha.n3 ha.n3b) ?_
    rintro g' nt' xt' ⟨rfl, rfl, us, hus, h1, h2, h3, h4, h5⟩
    exact ⟨rfl, rfl, us, hus, h1, h2, h3, by omega, h5⟩
  · rintro g' nt' xt' ⟨rfl, rfl, us, hus, hsaw⟩
    refine ansS (Int.ofNat k) ws hws g' _ _ k i hk (hlt i (by simp)) rfl 1 100 (40 + (i : Int)) g.ep g.qn 4 rfl g.lo g.hi ha.lo ha.hi bd ha.bod (fun bd' _ => gTake_stale g' g.qn (.inr hsaw.2.2.2.2.1) (40 + (i : Int)) 0 0 0 bd') ?_
    rintro v own ⟨rfl, rfl⟩
    exact ⟨_, g', rfl, rfl, gmSendN _ _ _ _ _ 0 ⟨rfl, rfl, .inr ⟨by omega, us, hus, hsaw⟩⟩⟩
end Go.Proofs.YtegkojnngdlfaaaGreat
