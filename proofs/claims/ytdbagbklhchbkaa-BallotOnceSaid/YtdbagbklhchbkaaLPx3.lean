/- BallotOnce: what rows hold, and what a step makes of it. No conditions. -/
import Derived.Test.YtdbagbklhchbkaaLPx2
import Derived.Test.YtdbagbklhchbkaaLPxE
set_option maxRecDepth 100000
set_option maxHeartbeats 4000000
set_option linter.unusedSimpArgs false
set_option linter.unusedVariables false
namespace Go.Proofs.Ytdbagbklhchbkaa
open Go Go.Lx
open Go.Sx (vcIf)

/-- The node of a ballot's number. -/
def nd (p : Nat) : Int := if p = 0 then 0 else (((p - 1) % 2 : Nat) : Int)
theorem nd_succ (k : Nat) : nd (k + 1) = ((k % 2 : Nat) : Int) := by unfold nd; rw [if_neg (by omega)]; rfl
theorem blt_nd (p q : Nat) : blt (p : Int) (nd p) (q : Int) (nd q) = decide (p < q) := by
  unfold blt
  rw [Bool.eq_iff_iff, decide_eq_true_eq, decide_eq_true_eq]
  constructor
  · rintro (h | ⟨h1, h2⟩)
    · omega
    · have : p = q := by omega
      subst this; omega
  · intro h; exact .inl (by omega)
/-- A council's vow as it is kept. -/
def IsNv (s : Px) (c : Nat) (x : Nv) : Prop := x.pn = (s.p c : Int) ∧ x.pd = nd (s.p c) ∧ x.an = (s.a c : Int) ∧ x.ad = nd (s.a c) ∧ x.g = (s.g c : Int) ∧ x.e = (s.g c : Int)
def toldQ (x : Nv) : Int × Int × Int × Int := (x.an, x.ad, x.g, x.e)
def toldR (v : Nat × Nat) : Int × Int × Int × Int := ((v.1 : Int), nd v.1, (v.2 : Int), (v.2 : Int))
def bq : Int × Int × Int × Int → List (Int × Int × Int × Int) → Int × Int × Int × Int
  | b, [] => b
  | b, x :: r => bq (if blt b.1 b.2.1 x.1 x.2.1 = true then x else b) r
theorem bq_nv : ∀ (l : List Nv) (b : Nv), toldQ (bestN b l) = bq (toldQ b) (l.map toldQ)
  | [], b => rfl
  | x :: r, b => by
    show toldQ (bestN (if blt b.an b.ad x.an x.ad = true then x else b) r) = bq (if blt b.an b.ad x.an x.ad = true then toldQ x else toldQ b) (r.map toldQ)
    rw [bq_nv r]
    split <;> rfl
theorem bq_nat : ∀ (l : List (Nat × Nat)) (b : Nat × Nat), bq (toldR b) (l.map toldR) = toldR (bst b l)
  | [], b => rfl
  | x :: r, b => by
    show bq (if blt (b.1 : Int) (nd b.1) (x.1 : Int) (nd x.1) = true then toldR x else toldR b) (r.map toldR) = toldR (bst (if b.1 < x.1 then x else b) r)
    rw [blt_nd, ← bq_nat r]
    by_cases h : b.1 < x.1 <;> simp [h]
theorem best_of {tl : List Nv} {l : List (Nat × Nat)} (h : tl.map toldQ = l.map toldR) : (bestN zeroN tl).g = ((bst (0, 0) l).2 : Int) ∧ (bestN zeroN tl).e = ((bst (0, 0) l).2 : Int) := by
  have h1 := bq_nv tl zeroN
  rw [h] at h1
  have h2 := bq_nat l (0, 0)
  rw [show toldR (0, 0) = toldQ zeroN from rfl] at h2
  rw [h2] at h1
  unfold toldQ toldR at h1
  simp only [Prod.mk.injEq] at h1
  exact ⟨h1.2.2.1, h1.2.2.2⟩
/-- What the walk's loop is at. -/
structure Ix where
  i : Nat
  s : Px
  vs : List Nv
  vp : List PV
  ms : List PV
  A : Nat → List PV
  K : Nat → List PV
  tl : Nat → List Nv
  T : Nat → List PV
  L : Nat → Nat
  ch : Int
def IsRow (n : Nat) (l : List PV) (f : Nat → Bool) : Prop := l.length = n ∧ ∀ c, c < n → l[c]? = some (.bool (f c))
structure Rel (n : Nat) (x : Ix) : Prop where
  ok : x.s.Ok n
  vl : x.vs.length = n
  vp : x.vp = x.vs.map Nv.v
  v : ∀ c, c < n → ∃ y, x.vs[c]? = some y ∧ IsNv x.s c y
  ml : x.ms.length = 6
  m : ∀ k, k < 6 → x.ms[k]? = some (nsP (x.s.mine k) (x.s.mine k))
  a : ∀ k, k < 6 → IsRow n (x.A k) (x.s.asked k)
  k : ∀ k, k < 6 → IsRow n (x.K k) (x.s.took k)
  tl : ∀ k, k < 6 → (x.tl k).map toldQ = (x.s.told k).map toldR
  t : ∀ k, k < 6 → x.T k = (x.tl k).map Nv.v
  l : ∀ k, k < 6 → x.L k = (x.tl k).length
  ch : x.ch = (x.s.chosen : Int)
theorem IsRow.set {n : Nat} {l : List PV} {f : Nat → Bool} (h : IsRow n l f) {c : Nat} (hc : c < n) : IsRow n (l.set c (.bool true)) (fset f c true) := by
  refine ⟨by rw [List.length_set]; exact h.1, fun d hd => ?_⟩
  by_cases e : d = c
  · subst e; rw [List.getElem?_set_self (by rw [h.1]; exact hd), fset_at]
  · rw [List.getElem?_set_ne (fun h => e h.symm), fset_ne _ _ e]; exact h.2 d hd
theorem cnt_le (n : Nat) (f : Nat → Bool) : cnt n f ≤ n := by
  unfold cnt
  exact Nat.le_trans (List.length_filter_le _ _) (by rw [List.length_range]; exact Nat.le_refl _)
theorem Rel.tlen {n : Nat} {x : Ix} (h : Rel n x) {k : Nat} (hk : k < 6) : (x.tl k).length = cnt n (x.s.asked k) := by
  rw [← h.ok.len k]
  have := congrArg List.length (h.tl k hk)
  rwa [List.length_map, List.length_map] at this
theorem Rel.tfit {n : Nat} {x : Ix} (h : Rel n x) {k : Nat} (hk : k < 6) : x.L k ≤ n := by rw [h.l k hk, h.tlen hk]; exact cnt_le _ _
theorem IsNv.of_eq {s s' : Px} {c : Nat} {y : Nv} (h : IsNv s c y) (h1 : s'.p c = s.p c) (h2 : s'.a c = s.a c) (h3 : s'.g c = s.g c) : IsNv s' c y := by
  unfold IsNv at *; rw [h1, h2, h3]; exact h
/-- The next step begins. -/
def Ix.next (x : Ix) : Ix := { x with i := x.i + 1 }
theorem Rel.next {n : Nat} {x : Ix} (h : Rel n x) : Rel n x.next := ⟨h.ok, h.vl, h.vp, h.v, h.ml, h.m, h.a, h.k, h.tl, h.t, h.l, h.ch⟩
theorem vset {vs : List Nv} {vp : List PV} (h : vp = vs.map Nv.v) (c : Nat) (y : Nv) : vp.set c y.v = (vs.set c y).map Nv.v := by rw [h, List.map_set]
theorem vget {n : Nat} {vs : List Nv} {c : Nat} {y : Nv} {s s' : Px} (hl : vs.length = n) (h : ∀ d, d < n → ∃ z, vs[d]? = some z ∧ IsNv s d z) (hy : IsNv s' c y) (hs : ∀ d, d ≠ c → s'.p d = s.p d ∧ s'.a d = s.a d ∧ s'.g d = s.g d) :
    ∀ d, d < n → ∃ z, (vs.set c y)[d]? = some z ∧ IsNv s' d z := by
  intro d hd
  by_cases e : d = c
  · subst e; exact ⟨y, List.getElem?_set_self (by omega), hy⟩
  · obtain ⟨z, hz, hi⟩ := h d hd
    obtain ⟨h1, h2, h3⟩ := hs d e
    exact ⟨z, by rw [List.getElem?_set_ne (fun h => e h.symm)]; exact hz, hi.of_eq h1 h2 h3⟩
/-- A vow is kept as it was. -/
theorem Rel.same {n : Nat} {x : Ix} (h : Rel n x) {c : Nat} {y : Nv} (hc : c < n) (hy : x.vs[c]? = some y) : Rel n { x.next with vs := x.vs.set c y, vp := x.vp.set c y.v } := by
  obtain ⟨y', hy', hi⟩ := h.v c hc
  rw [hy] at hy'; cases hy'
  exact ⟨h.ok, by show (x.vs.set c y).length = n; rw [List.length_set]; exact h.vl, vset h.vp c y, vget h.vl h.v hi (fun d _ => ⟨rfl, rfl, rfl⟩), h.ml, h.m, h.a, h.k, h.tl, h.t, h.l, h.ch⟩
theorem promise_a {n : Nat} {s : Px} {k c : Nat} (hp : s.p c < k + 1) (ha : ¬ (s.asked k c = false ∧ s.mine k = 0)) : s.promise n k c = { s with p := fset s.p c (k + 1) } := by
  unfold Px.promise; rw [if_pos hp, if_neg ha]
theorem promise_b {n : Nat} {s : Px} {k c : Nat} (hp : s.p c < k + 1) (h1 : s.asked k c = false) (h2 : s.mine k = 0) : s.promise n k c = { s with p := fset s.p c (k + 1), told := fset s.told k (s.told k ++ [(s.a c, s.g c)]), asked := fset2 s.asked k c, mine := if n < 2 * (s.told k ++ [(s.a c, s.g c)]).length then fset s.mine k (if (bst (0, 0) (s.told k ++ [(s.a c, s.g c)])).2 = 0 then k + 1 else (bst (0, 0) (s.told k ++ [(s.a c, s.g c)])).2) else s.mine } := by
  unfold Px.promise; rw [if_pos hp, if_pos ⟨h1, h2⟩]
/-- A promise that is not told on. -/
theorem Rel.promA {n : Nat} {x : Ix} (h : Rel n x) {k c : Nat} {pn pd an ad g e a b : Int} (hc : c < n) (hy : x.vs[c]? = some ⟨pn, pd, an, ad, g, e⟩) (hp : x.s.p c < k + 1) (ha : ¬ (x.s.asked k c = false ∧ x.s.mine k = 0)) (h1 : a = ((k + 1 : Nat) : Int)) (h2 : b = nd (k + 1)) :
    Rel n { x.next with s := x.s.promise n k c, vs := x.vs.set c ⟨a, b, an, ad, g, e⟩, vp := x.vp.set c (nvP a b an ad g e) } := by
  have hok := h.ok.promise (k := k) hc
  rw [promise_a hp ha] at hok ⊢
  obtain ⟨y', hy', hi⟩ := h.v c hc
  rw [hy] at hy'; cases hy'
  obtain ⟨i1, i2, i3, i4, i5, i6⟩ := hi
  refine ⟨hok, by show (x.vs.set c _).length = n; rw [List.length_set]; exact h.vl, vset h.vp c ⟨a, b, an, ad, g, e⟩, vget h.vl h.v ⟨?_, ?_, i3, i4, i5, i6⟩ (fun d hd => ⟨fset_ne _ _ hd, rfl, rfl⟩), h.ml, h.m, h.a, h.k, h.tl, h.t, h.l, h.ch⟩
  · show a = ((fset x.s.p c (k + 1) c : Nat) : Int); rw [fset_at]; exact h1
  · show b = nd (fset x.s.p c (k + 1) c); rw [fset_at]; exact h2
/-- What a promise leaves that is told. -/
theorem Rel.promB {n : Nat} {x : Ix} (h : Rel n x) {k c : Nat} (hk : k < 6) {pn pd an ad g e a b : Int} (hc : c < n) (hy : x.vs[c]? = some ⟨pn, pd, an, ad, g, e⟩) (hp : x.s.p c < k + 1) (ha : x.s.asked k c = false) (hm : x.s.mine k = 0) (h1 : a = ((k + 1 : Nat) : Int)) (h2 : b = nd (k + 1))
    {ms : List PV} (hml : ms.length = 6) (hms : ∀ j, j < 6 → ms[j]? = some (nsP ((x.s.promise n k c).mine j) ((x.s.promise n k c).mine j))) :
    Rel n { x.next with s := x.s.promise n k c, vs := x.vs.set c ⟨a, b, an, ad, g, e⟩, vp := x.vp.set c (nvP a b an ad g e), A := fset x.A k ((x.A k).set c (.bool true)), tl := fset x.tl k (x.tl k ++ [⟨a, b, an, ad, g, e⟩]), T := fset x.T k (x.T k ++ [nvP a b an ad g e]), L := fset x.L k (x.L k + 1), ms := ms } := by
  have hok := h.ok.promise (k := k) hc
  obtain ⟨y', hy', hi⟩ := h.v c hc
  rw [hy] at hy'; cases hy'
  obtain ⟨i1, i2, i3, i4, i5, i6⟩ := hi
  have e0 := promise_b (n := n) hp ha hm
  have ep : (x.s.promise n k c).p = fset x.s.p c (k + 1) := by rw [e0]
  have ea : (x.s.promise n k c).a = x.s.a := by rw [e0]
  have eg : (x.s.promise n k c).g = x.s.g := by rw [e0]
  have et : (x.s.promise n k c).told = fset x.s.told k (x.s.told k ++ [(x.s.a c, x.s.g c)]) := by rw [e0]
  have eas : (x.s.promise n k c).asked = fset2 x.s.asked k c := by rw [e0]
  have etk : (x.s.promise n k c).took = x.s.took := by rw [e0]
  have ech : (x.s.promise n k c).chosen = x.s.chosen := by rw [e0]
  refine ⟨hok, by show (x.vs.set c _).length = n; rw [List.length_set]; exact h.vl, vset h.vp c ⟨a, b, an, ad, g, e⟩, vget h.vl h.v ⟨?_, ?_, ?_, ?_, ?_, ?_⟩ (fun d hd => ⟨?_, ?_, ?_⟩), hml, hms, ?_, ?_, ?_, ?_, ?_, ?_⟩
  · show a = (((x.s.promise n k c).p c : Nat) : Int); rw [ep, fset_at]; exact h1
  · show b = nd ((x.s.promise n k c).p c); rw [ep, fset_at]; exact h2
  · show an = (((x.s.promise n k c).a c : Nat) : Int); rw [ea]; exact i3
  · show ad = nd ((x.s.promise n k c).a c); rw [ea]; exact i4
  · show g = (((x.s.promise n k c).g c : Nat) : Int); rw [eg]; exact i5
  · show e = (((x.s.promise n k c).g c : Nat) : Int); rw [eg]; exact i6
  · show (x.s.promise n k c).p d = x.s.p d; rw [ep, fset_ne _ _ hd]
  · show (x.s.promise n k c).a d = x.s.a d; rw [ea]
  · show (x.s.promise n k c).g d = x.s.g d; rw [eg]
  · intro j hj
    show IsRow n (fset x.A k ((x.A k).set c (.bool true)) j) ((x.s.promise n k c).asked j)
    rw [eas]; unfold fset2
    by_cases ej : j = k
    · subst ej; rw [fset_at, fset_at]; exact (h.a j hj).set hc
    · rw [fset_ne _ _ ej, fset_ne _ _ ej]; exact h.a j hj
  · intro j hj
    show IsRow n (x.K j) ((x.s.promise n k c).took j)
    rw [etk]; exact h.k j hj
  · intro j hj
    show (fset x.tl k (x.tl k ++ [⟨a, b, an, ad, g, e⟩]) j).map toldQ = ((x.s.promise n k c).told j).map toldR
    rw [et]
    by_cases ej : j = k
    · subst ej; rw [fset_at, fset_at, List.map_append, List.map_append, h.tl j hj]
      simp [toldQ, toldR]
      exact ⟨i3, i4, i5, i6⟩
    · rw [fset_ne _ _ ej, fset_ne _ _ ej]; exact h.tl j hj
  · intro j hj
    show fset x.T k (x.T k ++ [nvP a b an ad g e]) j = (fset x.tl k (x.tl k ++ [⟨a, b, an, ad, g, e⟩]) j).map Nv.v
    by_cases ej : j = k
    · subst ej; rw [fset_at, fset_at, List.map_append, h.t j hj]; rfl
    · rw [fset_ne _ _ ej, fset_ne _ _ ej]; exact h.t j hj
  · intro j hj
    show fset x.L k (x.L k + 1) j = (fset x.tl k (x.tl k ++ [⟨a, b, an, ad, g, e⟩]) j).length
    by_cases ej : j = k
    · subst ej; rw [fset_at, fset_at, List.length_append, h.l j hj]; rfl
    · rw [fset_ne _ _ ej, fset_ne _ _ ej]; exact h.l j hj
  · show x.ch = (((x.s.promise n k c).chosen : Nat) : Int); rw [ech]; exact h.ch
theorem promB_few {n : Nat} {x : Ix} (h : Rel n x) {k c : Nat} (hk : k < 6) (hp : x.s.p c < k + 1) (ha : x.s.asked k c = false) (hm : x.s.mine k = 0) (hn : ¬ n < 2 * (x.L k + 1)) : ∀ j, j < 6 → x.ms[j]? = some (nsP ((x.s.promise n k c).mine j) ((x.s.promise n k c).mine j)) := by
  intro j hj
  have hl := congrArg List.length (h.tl k hk)
  rw [List.length_map, List.length_map, ← h.l k hk] at hl
  rw [promise_b hp ha hm]
  show x.ms[j]? = some (nsP _ _)
  simp only
  rw [List.length_append, ← hl, List.length_singleton, if_neg hn]
  exact h.m j hj
theorem promB_many {n : Nat} {x : Ix} (h : Rel n x) {k c : Nat} (hk : k < 6) (hp : x.s.p c < k + 1) (ha : x.s.asked k c = false) (hm : x.s.mine k = 0) (hn : n < 2 * (x.L k + 1)) {g : Int} (hg : g = (((if (bst (0, 0) (x.s.told k ++ [(x.s.a c, x.s.g c)])).2 = 0 then k + 1 else (bst (0, 0) (x.s.told k ++ [(x.s.a c, x.s.g c)])).2) : Nat) : Int)) :
    ∀ j, j < 6 → (x.ms.set k (nsP g g))[j]? = some (nsP ((x.s.promise n k c).mine j) ((x.s.promise n k c).mine j)) := by
  intro j hj
  have hl := congrArg List.length (h.tl k hk)
  rw [List.length_map, List.length_map, ← h.l k hk] at hl
  rw [promise_b hp ha hm]
  simp only
  rw [List.length_append, ← hl, List.length_singleton, if_pos hn]
  by_cases ej : j = k
  · subst ej
    rw [List.getElem?_set_self (by rw [h.ml]; exact hj), fset_at, hg]
  · rw [List.getElem?_set_ne (fun h => ej h.symm), fset_ne _ _ ej]; exact h.m j hj
theorem Rel.takeY {n : Nat} {x : Ix} (h : Rel n x) {k c : Nat} (hk : k < 6) {pn pd an ad g e a b g' : Int} (hc : c < n) (hy : x.vs[c]? = some ⟨pn, pd, an, ad, g, e⟩) (hp : ¬ k + 1 < x.s.p c) (hm : x.s.mine k ≠ 0) (h1 : a = ((k + 1 : Nat) : Int)) (h2 : b = nd (k + 1)) (hg : g' = (x.s.mine k : Int)) :
    Rel n { x.next with s := x.s.take k c, vs := x.vs.set c ⟨a, b, a, b, g', g'⟩, vp := x.vp.set c (nvP a b a b g' g'), K := fset x.K k ((x.K k).set c (.bool true)) } := by
  have hok := h.ok.take (c := c) hm
  have e0 : x.s.take k c = { x.s with p := fset x.s.p c (k + 1), a := fset x.s.a c (k + 1), g := fset x.s.g c (x.s.mine k), took := fset2 x.s.took k c } := by unfold Px.take; rw [if_neg hp]
  rw [e0] at hok ⊢
  refine ⟨hok, by show (x.vs.set c _).length = n; rw [List.length_set]; exact h.vl, vset h.vp c ⟨a, b, a, b, g', g'⟩, vget h.vl h.v ⟨?_, ?_, ?_, ?_, ?_, ?_⟩ (fun d hd => ⟨fset_ne _ _ hd, fset_ne _ _ hd, fset_ne _ _ hd⟩), h.ml, h.m, h.a, ?_, h.tl, h.t, h.l, h.ch⟩
  · show a = ((fset x.s.p c (k + 1) c : Nat) : Int); rw [fset_at]; exact h1
  · show b = nd (fset x.s.p c (k + 1) c); rw [fset_at]; exact h2
  · show a = ((fset x.s.a c (k + 1) c : Nat) : Int); rw [fset_at]; exact h1
  · show b = nd (fset x.s.a c (k + 1) c); rw [fset_at]; exact h2
  · show g' = ((fset x.s.g c (x.s.mine k) c : Nat) : Int); rw [fset_at]; exact hg
  · show g' = ((fset x.s.g c (x.s.mine k) c : Nat) : Int); rw [fset_at]; exact hg
  · intro j hj
    show IsRow n (fset x.K k ((x.K k).set c (.bool true)) j) (fset2 x.s.took k c j)
    unfold fset2
    by_cases ej : j = k
    · subst ej; rw [fset_at, fset_at]; exact (h.k j hj).set hc
    · rw [fset_ne _ _ ej, fset_ne _ _ ej]; exact h.k j hj
/-- What a majority took is chosen. -/
theorem Rel.choose {n : Nat} {x : Ix} (h : Rel n x) {k : Nat} (hc : n < 2 * cnt n (x.s.took k)) {g : Int} (hg : g = (x.s.mine k : Int)) : Rel n { x with s := { x.s with chosen := x.s.mine k }, ch := g } :=
  ⟨h.ok.choose hc, h.vl, h.vp, h.v, h.ml, h.m, h.a, h.k, h.tl, h.t, h.l, hg⟩
/-- The first ones counted. -/
def cntTo (f : Nat → Bool) (j : Nat) : Nat := cnt j f
theorem cntTo_succ (f : Nat → Bool) (j : Nat) : cntTo f (j + 1) = cntTo f j + if f j = true then 1 else 0 := by
  unfold cntTo cnt
  rw [List.range_succ, List.filter_append, List.length_append]
  cases h : f j <;> simp [h]
end Go.Proofs.Ytdbagbklhchbkaa
