/- A row's room cut off where a slot has the view; a row that is left as it is behind a call. No conditions. -/
import Derived.Test.YtegkojnngdlfaaaGreatLY9
set_option linter.unusedSimpArgs false
set_option linter.unusedVariables false
namespace Go.Lx
open Go
open Go.Sx (NP Keeps Hp)
theorem CallEv.frzR {B : Base} {P : Program} {f : FuncId} {args : List V} {X : Nat → Bool} {st : St} {k : V → St → Prop}
    (h : CallEv B P f args X st fun v st' => ∃ (j : Nat) (T : TypeId) (sz : Nat) (xs : List PV), st'.own[j]? = some (.arr T sz xs) ∧ B.own0.length ≤ j ∧
      ∀ g : Nat → Nat → List PV, (∀ off n, g off n = (xs.drop off).take n) → k (v.frzG j g) ⟨st'.n, frMap (V.frzG j g) st'.fr, (mapR (V.frzG j g) st'.own).set j .dead⟩) : CallEv B P f args X st k := by
  intro E F a w vals hI hd
  have conv : ∀ {x : Value} {w' : World}, PostS B st F a w X (fun v st' => ∃ (j : Nat) (T : TypeId) (sz : Nat) (xs : List PV), st'.own[j]? = some (.arr T sz xs) ∧ B.own0.length ≤ j ∧
      ∀ g : Nat → Nat → List PV, (∀ off n, g off n = (xs.drop off).take n) → k (v.frzG j g) ⟨st'.n, frMap (V.frzG j g) st'.fr, (mapR (V.frzG j g) st'.own).set j .dead⟩) x w' → PostS B st F a w X k x w' := by
    rintro x w' ⟨v, st', E', F', hn, hv, hI', hp, hdd, j, T, sz, xs, hj, hnl, hk⟩
    have hk := hk (fun off n => (xs.drop off).take n) (fun _ _ => rfl)
    rw [show V.frzG j (fun off n => (xs.drop off).take n) = V.frz j xs from funext (frzG_eq j xs), mapR_eq] at hk
    have hM : ∀ q, F' j q → ¬ nowM B (pushF F' j fun _ => False) q := fun q hq => by
      rintro (c | ⟨i, c⟩)
      · have h1 := hI'.bd q c
        rcases hI'.fresh j q hq with h2 | h2
        · exact hI'.low0 j hnl q h2
        · omega
      · by_cases hi : i = j
        · subst hi; rw [pushF_self] at c; exact c
        · rw [pushF_ne i hi] at c; exact hI'.apart i j hi q c hq
    have hf : ∀ i q, pushF F' j (fun _ => False) i q → F' i q ∨ w'.heap.size ≤ q := fun i q h => by
      by_cases hi : i = j
      · subst hi; rw [pushF_self] at h; exact h.elim
      · rw [pushF_ne i hi] at h; exact .inl h
    have hle := hI'.le (F' := pushF F' j fun _ => False) (keepsNone (Keeps.refl _ w')) hf
    have hdd2 : ∀ b, DD B F' X b → DD B (pushF F' j fun _ => False) X b := fun b hb => by
      rcases hb with hb | ⟨i, hi, hF⟩
      · refine .inl ?_
        rintro (c | ⟨i, c⟩)
        · exact hb (.inl c)
        · by_cases e : i = j
          · subst e; rw [pushF_self] at c; exact c
          · rw [pushF_ne i e] at c; exact hb (.inr ⟨i, c⟩)
      · by_cases e : i = j
        · subst e; exact .inl (hM b hF)
        · exact .inr ⟨i, hi, by rw [pushF_ne i e]; exact hF⟩
    exact ⟨v.frz j xs, ⟨st'.n, frMap (V.frz j xs) st'.fr, (st'.own.map (Res.map (V.frz j xs))).set j .dead⟩, E', _, hn, hv.frz hI' hj hle rfl hM, hI'.freeze hj hnl, hp, fun b hb hd => hdd2 b (hdd b hb hd), hk⟩
  rcases h E F a w vals hI hd with ⟨g1, g2⟩ | ⟨x, w', g1, g2⟩
  · exact .inl ⟨g1, Calls.mono g2 fun e w' ⟨x, hx, hp⟩ => ⟨x, hx, conv hp⟩⟩
  · exact .inr ⟨x, w', g1, conv g2⟩
end Go.Lx
