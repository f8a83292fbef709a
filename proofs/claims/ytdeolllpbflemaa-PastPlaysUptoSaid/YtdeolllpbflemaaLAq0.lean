/- One change of pairs that are in order: the plain law. No program in sight. No conditions. -/
import Derived.Test.YtdeolllpbflemaaLAp3
set_option maxRecDepth 100000
set_option maxHeartbeats 4000000
set_option linter.unusedSimpArgs false
set_option linter.unusedVariables false
namespace Go.Proofs.Ytdeolllpbflemaa
open Go Go.Lx

theorem bl_snoc0 : ∀ (a k : List UInt8), bl k (a ++ [0]) = !(bl a k)
  | [], [] => rfl
  | [], x :: r => by
    have e1 : bl (x :: r) ([] ++ [0]) = (decide (x < 0) || (x == 0 && bl r [])) := rfl
    have e2 : bl [] (x :: r) = true := rfl
    have h0 : ¬ x < 0 := fun c => by have := UInt8.lt_iff_toNat_lt.1 c; simp at this
    rw [e1, e2, bl_nil]; simp [h0]
  | y :: s, [] => rfl
  | y :: s, x :: r => by
    have ih := bl_snoc0 s r
    have e1 : bl (x :: r) ((y :: s) ++ [0]) = (decide (x < y) || (x == y && bl r (s ++ [0]))) := rfl
    have e2 : bl (y :: s) (x :: r) = (decide (y < x) || (y == x && bl s r)) := rfl
    rw [e1, e2, ih]
    by_cases h : x = y
    · subst h; simp [UInt8.lt_irrefl]
    · have h' : ¬ y = x := fun c => h c.symm
      have h1 : (x == y) = false := by simpa using h
      have h2 : (y == x) = false := by simpa using h'
      rw [h1, h2]
      simp only [Bool.false_and, Bool.or_false]
      by_cases hlt : x < y
      · have : ¬ y < x := fun c => by
          have a1 := UInt8.lt_iff_toNat_lt.1 c; have a2 := UInt8.lt_iff_toNat_lt.1 hlt; omega
        simp [hlt, this]
      · have : y < x := by
          have a2 : ¬ x.toNat < y.toNat := fun c => hlt (UInt8.lt_iff_toNat_lt.2 c)
          have a3 : x.toNat ≠ y.toNat := fun c => h (UInt8.toNat_inj.1 c)
          exact UInt8.lt_iff_toNat_lt.2 (by omega)
        simp [hlt, this]
theorem hs_point (a k : List UInt8) : hs ⟨a, a ++ [0]⟩ k = true ↔ k = a := by
  unfold hs
  simp only [bl_snoc0]
  constructor
  · intro h
    rcases bl_tri k a with c | c | c
    · rw [c] at h; simp at h
    · exact c
    · rw [c] at h; simp at h
  · intro h; rw [h, bl_irrefl]; rfl
theorem hs_spn {c : Chg} (h : c.kind ≠ 3) (k : List UInt8) : hs (spn c) k = true ↔ k = c.key := by
  rw [spn, if_neg h]; exact hs_point c.key k

def lk : List Pr → List UInt8 → Option (List UInt8)
  | [], _ => none
  | p :: r, k => if p.key = k then some p.val else lk r k
def Srt (ps : List Pr) : Prop := ps.Pairwise fun a b => bl a.key b.key = true
theorem lk_none {ps : List Pr} {k : List UInt8} (h : ∀ p ∈ ps, p.key ≠ k) : lk ps k = none := by
  induction ps with
  | nil => rfl
  | cons p r ih => rw [lk, if_neg (h p (by simp)), ih fun q hq => h q (by simp [hq])]
theorem lk_some {ps : List Pr} {k v : List UInt8} (h : lk ps k = some v) : ∃ p ∈ ps, p.key = k ∧ p.val = v := by
  induction ps with
  | nil => cases h
  | cons p r ih =>
    rw [lk] at h
    split at h
    · rename_i hk; cases h; exact ⟨p, by simp, hk, rfl⟩
    · obtain ⟨q, h1, h2⟩ := ih h; exact ⟨q, by simp [h1], h2⟩
theorem srt_ext : ∀ {a b : List Pr}, Srt a → Srt b → (∀ k, lk a k = lk b k) → a = b
  | [], [], _, _, _ => rfl
  | [], q :: s, _, _, h => by have := h q.key; rw [lk, lk, if_pos rfl] at this; cases this
  | p :: r, [], _, _, h => by have := h p.key; rw [lk, lk, if_pos rfl] at this; cases this
  | p :: r, q :: s, ha, hb, h => by
    obtain ⟨ha1, ha2⟩ := List.pairwise_cons.1 ha
    obtain ⟨hb1, hb2⟩ := List.pairwise_cons.1 hb
    have hk : p.key = q.key := by
      have h1 := h p.key
      have h2 := h q.key
      rw [lk, if_pos rfl] at h1
      rw [show lk (q :: s) q.key = some q.val by rw [lk, if_pos rfl]] at h2
      by_cases e : q.key = p.key
      · exact e.symm
      · rw [lk, if_neg e] at h1
        rw [lk, if_neg (fun c => e c.symm)] at h2
        obtain ⟨x, hx, hxk, _⟩ := lk_some h1.symm
        obtain ⟨y, hy, hyk, _⟩ := lk_some h2
        have c1 := hb1 x hx
        have c2 := ha1 y hy
        rw [hxk] at c1; rw [hyk] at c2
        rw [bl_asymm c1] at c2; cases c2
    have hv : p.val = q.val := by
      have h1 := h p.key
      rw [lk, if_pos rfl, lk, if_pos hk.symm] at h1
      exact Option.some.inj h1
    have hpq : p = q := by cases p; cases q; simp only at hk hv; rw [hk, hv]
    subst hpq
    congr 1
    refine srt_ext ha2 hb2 fun k => ?_
    by_cases e : p.key = k
    · rw [lk_none fun x hx c => ?_, lk_none fun x hx c => ?_]
      · have := hb1 x hx; rw [c, ← e, bl_irrefl] at this; cases this
      · have := ha1 x hx; rw [c, ← e, bl_irrefl] at this; cases this
    · have := h k
      rwa [lk, if_neg e, lk, if_neg e] at this

def nh (c : Chg) (p : Pr) : Bool := !(hs (spn c) p.key)
theorem fold_put (c : Chg) : ∀ (ps ul : List Pr), ps.foldl (oneSt c) (ul, true) = (ul ++ ps.filter (nh c), true)
  | [], ul => by simp
  | p :: ps, ul => by
    rw [List.foldl_cons, oneSt_no c ul true p (.inl rfl)]
    by_cases h : hs (spn c) p.key = true
    · rw [if_pos h, fold_put c ps ul, List.filter_cons_of_neg (by simp [nh, h])]
    · rw [if_neg h, fold_put c ps (ul ++ [p]), List.filter_cons_of_pos (by simp [nh, h]), List.append_assoc]; rfl
def ins (c : Chg) : List Pr → List Pr
  | [] => [⟨c.key, c.val⟩]
  | p :: r => if Op.bytesLess p.key c.key = true then (if hs (spn c) p.key = true then [] else [p]) ++ ins c r else ⟨c.key, c.val⟩ :: (p :: r).filter (nh c)
theorem fold_ins (c : Chg) : ∀ (ps ul : List Pr), (if (ps.foldl (oneSt c) (ul, false)).2 = true then (ps.foldl (oneSt c) (ul, false)).1 else (ps.foldl (oneSt c) (ul, false)).1 ++ [⟨c.key, c.val⟩]) = ul ++ ins c ps
  | [], ul => by simp [ins]
  | p :: ps, ul => by
    rw [List.foldl_cons]
    by_cases hlt : Op.bytesLess p.key c.key = true
    · rw [oneSt_no c ul false p (.inr hlt), ins, if_pos hlt]
      by_cases h : hs (spn c) p.key = true
      · rw [if_pos h, fold_ins c ps ul, if_pos h]; rfl
      · rw [if_neg h, fold_ins c ps (ul ++ [p]), if_neg h, List.append_assoc]
    · have hlt' := Bool.eq_false_iff.2 hlt
      rw [oneSt_in c ul false p rfl hlt', ins, if_neg hlt]
      by_cases h : hs (spn c) p.key = true
      · rw [if_pos h, fold_put, if_pos rfl, List.filter_cons_of_neg (by simp [nh, h])]; simp
      · rw [if_neg h, fold_put, if_pos rfl, List.filter_cons_of_pos (by simp [nh, h])]; simp
theorem one_eq (ps : List Pr) (c : Chg) : one ps c = if c.kind = 1 then ins c ps else ps.filter (nh c) := by
  unfold one oneF
  by_cases h : c.kind = 1
  · rw [if_pos h, show decide (c.kind ≠ 1) = false by simp [h], fold_ins]; rfl
  · rw [if_neg h, show decide (c.kind ≠ 1) = true by simp [h], fold_put, if_pos rfl]; rfl
theorem lk_filter (c : Chg) (k : List UInt8) : ∀ ps : List Pr, lk (ps.filter (nh c)) k = if hs (spn c) k = true then none else lk ps k
  | [] => by simp [lk]
  | p :: r => by
    have ih := lk_filter c k r
    by_cases h : hs (spn c) p.key = true
    · rw [List.filter_cons_of_neg (by simp [nh, h]), ih]
      by_cases hk : hs (spn c) k = true
      · rw [if_pos hk, if_pos hk]
      · rw [if_neg hk, if_neg hk, lk, if_neg (fun e => hk (by rw [← e]; exact h))]
    · rw [List.filter_cons_of_pos (by simp [nh, h]), lk, ih]
      by_cases hk : hs (spn c) k = true
      · rw [if_pos hk, if_pos hk, if_neg (fun e => h (by rw [e]; exact hk))]
      · rw [if_neg hk, if_neg hk, lk]
theorem srt_filter {ps : List Pr} (h : Srt ps) (f : Pr → Bool) : Srt (ps.filter f) := List.Pairwise.filter f h
theorem ins_mem {c : Chg} : ∀ {ps : List Pr} {p : Pr}, p ∈ ins c ps → p = ⟨c.key, c.val⟩ ∨ p ∈ ps
  | [], p, h => by simp [ins] at h; exact .inl h
  | q :: r, p, h => by
    rw [ins] at h
    split at h
    · rcases List.mem_append.1 h with h | h
      · split at h
        · cases h
        · simp at h; exact .inr (by simp [h])
      · rcases ins_mem h with h | h
        · exact .inl h
        · exact .inr (by simp [h])
    · rcases List.mem_cons.1 h with h | h
      · exact .inl h
      · exact .inr (List.mem_filter.1 h).1
theorem ins_ok (c : Chg) (hc : c.kind = 1) : ∀ (ps : List Pr), Srt ps → Srt (ins c ps) ∧ ∀ k, lk (ins c ps) k = if k = c.key then some c.val else lk ps k
  | [], _ => by
    refine ⟨by simp [ins, Srt], fun k => ?_⟩
    show (if c.key = k then some c.val else none) = (if k = c.key then some c.val else none)
    by_cases e : c.key = k
    · rw [if_pos e, if_pos e.symm]
    · rw [if_neg e, if_neg (fun d => e d.symm)]
  | p :: r, h => by
    obtain ⟨h1, h2⟩ := List.pairwise_cons.1 h
    have h3 : c.kind ≠ 3 := by rw [hc]; decide
    rw [ins]
    by_cases hlt : Op.bytesLess p.key c.key = true
    · have hne : p.key ≠ c.key := bl_ne hlt
      have hnh : ¬ hs (spn c) p.key = true := fun d => hne ((hs_spn h3 p.key).1 d)
      obtain ⟨i1, i2⟩ := ins_ok c hc r h2
      rw [if_pos hlt, if_neg hnh]
      refine ⟨List.pairwise_cons.2 ⟨fun q hq => ?_, i1⟩, fun k => ?_⟩
      · rcases ins_mem hq with d | d
        · rw [d]; exact hlt
        · exact h1 q d
      · show lk (p :: ins c r) k = _
        rw [lk, i2, lk]
        by_cases e : p.key = k
        · rw [if_pos e, if_pos e, if_neg (fun d => hne (e.trans d))]
        · rw [if_neg e, if_neg e]
    · rw [if_neg hlt]
      refine ⟨List.pairwise_cons.2 ⟨fun q hq => ?_, srt_filter h _⟩, fun k => ?_⟩
      · obtain ⟨q1, q2⟩ := List.mem_filter.1 hq
        have hqk : q.key ≠ c.key := fun d => by
          have := (hs_spn h3 q.key).2 d
          rw [nh, this] at q2; cases q2
        have hge : bl q.key c.key = false := by
          rcases List.mem_cons.1 q1 with d | d
          · rw [d]; exact Bool.eq_false_iff.2 hlt
          · refine Bool.eq_false_iff.2 fun e => hlt (bl_trans (h1 q d) e)
        rcases bl_tri c.key q.key with d | d | d
        · exact d
        · exact absurd d.symm hqk
        · rw [hge] at d; cases d
      · rw [lk, lk_filter]
        by_cases e : c.key = k
        · rw [if_pos e, if_pos e.symm]
        · rw [if_neg e, if_neg (fun d : hs (spn c) k = true => e ((hs_spn h3 k).1 d).symm), if_neg (fun d : k = c.key => e d.symm)]
/-- What a change does to what a key has. -/
def eff (k : List UInt8) (o : Option (List UInt8)) (c : Chg) : Option (List UInt8) := if c.kind = 1 then (if k = c.key then some c.val else o) else if hs (spn c) k = true then none else o
theorem one_ok (c : Chg) (ps : List Pr) (h : Srt ps) : Srt (one ps c) ∧ ∀ k, lk (one ps c) k = eff k (lk ps k) c := by
  rw [one_eq]
  by_cases hc : c.kind = 1
  · obtain ⟨i1, i2⟩ := ins_ok c hc ps h
    rw [if_pos hc]
    exact ⟨i1, fun k => by rw [i2, eff, if_pos hc]⟩
  · rw [if_neg hc]
    exact ⟨srt_filter h _, fun k => by rw [lk_filter, eff, if_neg hc]⟩
end Go.Proofs.Ytdeolllpbflemaa
