/- Guest: the plain law of what is seen. No conditions. -/
import Derived.Test.YtegkojnngdlfaaaGreatLGv3
set_option maxRecDepth 100000
set_option maxHeartbeats 4000000
set_option linter.unusedSimpArgs false
set_option linter.unusedVariables false
namespace Go.Proofs.YtegkojnngdlfaaaGreat
open Go Go.Lx
open Go.Sx (vcIf)
abbrev FF : List UInt8 := [255, 255, 255, 255, 255, 255, 255, 255, 255, 255, 255, 255, 255, 255, 255, 255, 255]
theorem bl_ff : ∀ (n : Nat) (k : List UInt8), k.length < n → bl k (List.replicate n 255) = true
  | 0, k, h => by omega
  | n + 1, [], h => rfl
  | n + 1, x :: k, h => by
    have ih := bl_ff n k (by simp at h; omega)
    have e : bl (x :: k) (List.replicate (n + 1) 255) = (decide (x < 255) || (x == 255 && bl k (List.replicate n 255))) := rfl
    rw [e, ih]
    by_cases hx : x = 255
    · simp [hx]
    · have : x < 255 := by
        rw [UInt8.lt_iff_toNat_lt]
        have h1 := x.toNat_lt
        have h2 : x.toNat ≠ 255 := fun c => hx (UInt8.toNat_inj.1 c)
        show x.toNat < 255
        omega
      simp [this]
theorem bl_FF {k : List UInt8} (h : k.length ≤ 16) : bl k FF = true := bl_ff 17 k (by omega)
theorem eff_from (k : List UInt8) : ∀ (l : List Chg) (o : Option (List UInt8)) {v : List UInt8}, l.foldl (eff k) o = some v → o ≠ none ∨ ∃ c ∈ l, c.kind = 1 ∧ c.key = k
  | [], o, v, h => .inl (by rw [show o = some v from h]; simp)
  | c :: l, o, v, h => by
    rcases eff_from k l (eff k o c) h with h1 | ⟨d, hd, h2⟩
    · unfold eff at h1
      split at h1
      · rename_i h3
        split at h1
        · rename_i h4
          exact .inr ⟨c, by simp, h3, h4.symm⟩
        · exact .inl h1
      · split at h1
        · exact absurd rfl h1
        · exact .inl h1
    · exact .inr ⟨d, by simp [hd], h2⟩
theorem chk_key {c : Chg} (h : chk c = 0) (h1 : c.kind = 1) : c.key.length ≤ 16 := by
  unfold chk at h
  rw [if_neg (by omega), if_neg (by omega), if_pos h1] at h
  split at h
  · cases h
  · omega
theorem ones_key {ps : List Pr} (hS : Srt ps) (hk : ∀ p ∈ ps, p.key.length ≤ 16) {l : List Chg} (hl : chks l = 0) : ∀ p ∈ ones ps l, p.key.length ≤ 16 := by
  intro p hp
  obtain ⟨h1, h2⟩ := ones_ok l ps hS
  have h3 := lk_in h1 hp
  rw [h2] at h3
  rcases eff_from _ _ _ h3 with h4 | ⟨c, hc, h5, h6⟩
  · cases h7 : lk ps p.key with
    | none => exact absurd h7 h4
    | some v =>
      obtain ⟨q, hq, h8, -⟩ := lk_some h7
      rw [← h8]; exact hk q hq
  · rw [← h6]; exact chk_key (chks_mem hl c hc) h5
theorem saw_eq {ps : List Pr} (hS : Srt ps) (hk : ∀ p ∈ ps, p.key.length ≤ 16) {l : List Chg} (hl : chks l = 0) (s : Spn) :
    ones (ps.filter fun p => hs s p.key) (cutL s l) = (ones ps l).filter fun p => hs s p.key && bl p.key FF := by
  have e : ((ones ps l).filter fun p => hs s p.key && bl p.key FF) = (ones ps l).filter fun p => hs s p.key := by
    refine List.filter_congr fun p hp => ?_
    rw [bl_FF (ones_key hS hk hl p hp), Bool.and_true]
  rw [e]
  have hS2 : Srt (ps.filter fun p => hs s p.key) := srt_filter hS _
  obtain ⟨h1, h2⟩ := ones_ok (cutL s l) _ hS2
  obtain ⟨h3, h4⟩ := ones_ok l _ hS
  refine srt_ext h1 (srt_filter h3 _) fun k => ?_
  rw [h2, eff_cutL, lk_hs, lk_hs, h4]
  cases hs s k <;> simp
abbrev P30 : List Pr := [⟨[97], [49]⟩, ⟨[98], [52]⟩, ⟨[110], []⟩, ⟨[122], [51]⟩]
theorem gm30 : atR gmL 30 = P30 := rfl
theorem P30_srt : Srt P30 := .cons (by decide) (.cons (by decide) (.cons (by decide) (.cons (by simp) .nil)))
theorem P30_key : ∀ p ∈ P30, p.key.length ≤ 1 ∧ p.val.length ≤ 1 := by decide
abbrev pc (k i : Nat) : Spn := ⟨plo k i, phi k i⟩
theorem pc_eq (k i : Nat) (hk : 1 ≤ k ∧ k ≤ 4) (hi : i < k) : pcS k i = pc k i := by
  have : ∀ k, k < 5 → ∀ i, i < k → (pcS k i).lo = plo k i ∧ (pcS k i).hi = phi k i := by decide
  obtain ⟨h1, h2⟩ := this k (by omega) i hi
  cases h : pcS k i with
  | mk a b => rw [h] at h1 h2; simp only at h1 h2; rw [h1, h2]
def fnd (k : Nat) (s : Spn) (i : Nat) : List Pr := lst (atR gmL 30) (mt s (pc k i)) 1000
theorem fnd_eq (k : Nat) (s : Spn) (i : Nat) : fnd k s i = P30.filter fun p => hs s p.key && hs (pc k i) p.key := by
  unfold fnd
  rw [gm30, lst_all (by decide)]
  refine List.filter_congr fun p _ => ?_
  rw [hs_mt]
theorem hs_empty {s : Spn} (h : bl s.lo s.hi = false) (x : List UInt8) : hs s x = false := by
  unfold hs
  cases h2 : bl x s.hi with
  | false => simp
  | true => rw [bl_lt_le h2 h]; rfl
def ask (k : Nat) (s : Spn) : List Nat := (List.range k).filter fun i => bl (mt (pcS k i) s).lo (mt (pcS k i) s).hi
theorem tdo_ask (k : Nat) (s : Spn) : tdo k s k = (ask k s).map fun i : Nat => 40 + (i : Int) := rfl
theorem ask_lt {k : Nat} {s : Spn} {i : Nat} (h : i ∈ ask k s) : i < k := List.mem_range.1 (List.mem_filter.1 h).1
theorem ask_len (k : Nat) (s : Spn) : (ask k s).length ≤ k := Nat.le_trans (List.length_filter_le _ _) (by rw [List.length_range]; exact Nat.le_refl _)
theorem flat_filter {α β : Type} (f : α → Bool) (g : α → List β) : ∀ l : List α, (∀ i ∈ l, f i = false → g i = []) → (l.filter f).flatMap g = l.flatMap g
  | [], _ => rfl
  | a :: l, h => by
    have ih := flat_filter f g l fun i hi => h i (by simp [hi])
    rw [List.filter_cons, List.flatMap_cons]
    cases hf : f a with
    | true => rw [if_pos rfl, List.flatMap_cons, ih]
    | false => rw [if_neg (by decide), ih, h a (by simp) hf, List.nil_append]
theorem fnd_all (a b n z : Bool) (k : Nat) (hk : 1 ≤ k ∧ k ≤ 4) (f : List UInt8 → Bool) (h1 : f [97] = a) (h2 : f [98] = b) (h3 : f [110] = n) (h4 : f [122] = z) :
    ((List.range k).flatMap fun i => P30.filter fun p => f p.key && hs (pc k i) p.key) = P30.filter fun p => f p.key := by
  obtain ⟨g, hg⟩ : ∃ g : List UInt8 → Bool, g = fun x => if x = [97] then a else if x = [98] then b else if x = [110] then n else z := ⟨_, rfl⟩
  have hfg : ∀ p ∈ P30, f p.key = g p.key := fun p hp => by
    simp only [List.mem_cons, List.not_mem_nil, or_false] at hp
    rcases hp with rfl | rfl | rfl | rfl <;> rw [hg] <;> simp [h1, h2, h3, h4]
  have e1 : (P30.filter fun p => f p.key) = P30.filter fun p => g p.key := List.filter_congr hfg
  have e2 : ∀ i, (P30.filter fun p => f p.key && hs (pc k i) p.key) = P30.filter fun p => g p.key && hs (pc k i) p.key := fun i => List.filter_congr fun p hp => by rw [hfg p hp]
  simp only [e1, e2]
  rw [hg]
  obtain rfl | rfl | rfl | rfl : k = 1 ∨ k = 2 ∨ k = 3 ∨ k = 4 := by omega
  all_goals cases a <;> cases b <;> cases n <;> cases z <;> rfl
theorem fnd_ask (k : Nat) (hk : 1 ≤ k ∧ k ≤ 4) (s : Spn) : (ask k s).flatMap (fnd k s) = P30.filter fun p => hs s p.key := by
  unfold ask
  rw [flat_filter]
  · rw [← fnd_all _ _ _ _ k hk (hs s) rfl rfl rfl rfl]
    congr 1
    funext i
    exact fnd_eq k s i
  · intro i hi hf
    have hi := List.mem_range.1 hi
    rw [fnd_eq]
    refine List.filter_eq_nil_iff.2 fun p _ => ?_
    have := hs_empty hf p.key
    rw [hs_mt, pc_eq k i hk hi] at this
    rw [Bool.and_comm, this]; decide
theorem ask_nil {k : Nat} (hk : 1 ≤ k ∧ k ≤ 4) {s : Spn} (h : ask k s = []) : (P30.filter fun p => hs s p.key) = [] := by
  rw [← fnd_ask k hk s, h]; rfl
theorem P30_snd (f : List UInt8 → Bool) : sndP (P30.filter fun p => f p.key) = true := by
  obtain ⟨a, h1⟩ : ∃ a, f [97] = a := ⟨_, rfl⟩
  obtain ⟨b, h2⟩ : ∃ a, f [98] = a := ⟨_, rfl⟩
  obtain ⟨n, h3⟩ : ∃ a, f [110] = a := ⟨_, rfl⟩
  obtain ⟨z, h4⟩ : ∃ a, f [122] = a := ⟨_, rfl⟩
  obtain ⟨g, hg⟩ : ∃ g : List UInt8 → Bool, g = fun x => if x = [97] then a else if x = [98] then b else if x = [110] then n else z := ⟨_, rfl⟩
  have hfg : ∀ p ∈ P30, f p.key = g p.key := fun p hp => by
    simp only [List.mem_cons, List.not_mem_nil, or_false] at hp
    rcases hp with rfl | rfl | rfl | rfl <;> rw [hg] <;> simp [h1, h2, h3, h4]
  rw [show (P30.filter fun p => f p.key) = P30.filter fun p => g p.key from List.filter_congr hfg, hg]
  cases a <;> cases b <;> cases n <;> cases z <;> decide
theorem P30_flt (f : Pr → Bool) : Srt (P30.filter f) ∧ (P30.filter f).length ≤ 4 ∧ ∀ p ∈ P30.filter f, p.key.length ≤ 1 ∧ p.val.length ≤ 1 :=
  ⟨srt_filter P30_srt _, List.length_filter_le _ _, fun p hp => P30_key p (List.mem_filter.1 hp).1⟩
end Go.Proofs.YtegkojnngdlfaaaGreat
