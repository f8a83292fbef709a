/- A row's room cut off where a slot has the view; a row that is left as it is behind a call. No conditions. -/
import Derived.Test.YtegkojnngdlfaaaGreatLY9
set_option linter.unusedSimpArgs false
set_option linter.unusedVariables false
namespace Go.Lx
open Go
open Go.Sx (NP Keeps Hp)

theorem ConvW.trimS {B : Base} {st : St} (t j : Nat) {T : TypeId} {sz n m : Nat} {xs : List PV} (ht : look st.fr t = some (.vw j sz 0 n (some m))) (hj : st.own[j]? = some (.arr T sz xs)) (hnm : n = m) (ht2 : t < st.n) :
    ConvW B st ⟨st.n, (t, .vw j sz 0 n none) :: frMap (V.kill j) st.fr, (st.own.map (Res.map (V.kill j))).set j (.arr T sz (xs.take n))⟩ := by
  subst hnm
  refine ⟨rfl, fun E F a w hI => ?_⟩
  have hjl := lt_of_some hj
  let E' : Ev := ⟨E.n, E.ρ, fun x => if x = j then n else E.κ x, E.nl, fun x => if x = j then (xs.take n).length else E.len x, E.sz⟩
  have hat : ∀ x, x ≠ j → E.At E' x := fun x hx => ⟨rfl, by simp only [E', if_neg hx], rfl, by simp only [E', if_neg hx], rfl⟩
  have hh := hI.held j _ hj
  obtain ⟨g0, g1, g2, g3, g4⟩ := hh
  have hd := hI.slot t _ ht
  obtain ⟨x, hxe⟩ : ∃ x, x = a.tmps.getD t undef := ⟨_, rfl⟩
  rw [← hxe] at hd
  have hnk : E.nl j = false → n ≤ E.κ j := by
    intro hnl
    cases hd with
    | vwn _ _ _ a h h0 hz hc => rw [hnl] at h0; cases h0
    | vw _ _ _ _ _ a c h h0 hc hk hln hx hz ha => omega
  have hle := hI.le (F' := F) (keepsNone (Keeps.refl _ w)) (fun i k h => .inl h)
  have hwf' : Wf sz (xs.take n) := g1.take
  have h1 := hI.set (E' := E') (F' := F) (f := V.kill j) (r := .arr T sz (xs.take n)) hjl (Keeps.refl _ w) rfl (fun x _ hx => hat x hx) (fun T c h _ => by rw [hj] at h; cases h) (fun _ _ => rfl) (fun k h => .inl h)
    (fun c v hc => V.Den.kill (E := E) (E' := E') hle (Nat.le_refl _) (fun i _ hi => hat i hi) hc) (by
      refine ⟨g0, hwf', by simp only [E', if_true], g3, ?_⟩
      rcases g4 with ⟨k1, k2, k3⟩ | ⟨k1, k2, k3, k4, c, k5, k6, val, k7⟩
      · exact .inl ⟨k1, by rw [k2]; simp, k3⟩
      · have hnk := hnk k1
        refine .inr ⟨k1, k2, by simp only [E', if_true]; simp; omega, by simp only [E', if_true]; exact Nat.le_trans hnk k4, c, k5, by simp only [E', if_true]; exact Nat.le_trans (Nat.mul_le_mul_right _ hnk) k6, val, fun j' u hu => ?_⟩
        rw [flat_take g1] at hu
        rw [List.getElem?_take] at hu
        split at hu
        · exact k7 j' u hu
        · cases hu)
  have hden : V.Den ⟨nowM B F, w⟩ E' (.vw j sz 0 n none) x := by
    cases hd with
    | vwn _ _ _ a h h0 hz hc => exact .vwn j sz none a h h0 hz rfl
    | vw _ _ _ _ _ a c h h0 hc hk hln hx2 hz ha =>
      have hcn : c = n := by simpa using hc
      exact .vw j sz 0 n none a c h h0 (by simp only [E', if_true, Option.getD_none]; omega) (by simp only [E', if_true]; omega) hln (by simp only [E', if_true]; simp; omega) hz ha
  refine ⟨E', F, ⟨h1.n, h1.en, fun s v hs => ?_, h1.defers, h1.held, h1.apart, h1.low, h1.keep, h1.fresh, h1.olen, h1.pin, h1.bd, h1.low0, h1.rc⟩⟩
  rw [look_cons] at hs
  split at hs
  · rename_i e; subst e; cases hs; rw [← hxe]; exact hden
  · exact h1.slot s v hs

/-- A row is left as it is behind a call: what is seen of it is told by g. -/
theorem CallEv.frzR {B : Base} {P : Program} {f : FuncId} {args : List V} {X : Nat → Bool} {st : St} {k : V → St → Prop}
    (h : CallEv B P f args X st fun v st' => ∃ (j : Nat) (T : TypeId) (sz : Nat) (xs : List PV), st'.own[j]? = some (.arr T sz xs) ∧ B.own0.length ≤ j ∧
      ∀ g : Nat → Nat → List PV, (∀ off n, g off n = (xs.drop off).take n) → k (v.frzG j g) ⟨st'.n, frMap (V.frzG j g) st'.fr, (mapR (V.frzG j g) st'.own).set j .dead⟩) : CallEv B P f args X st k := by
  intro E F a w vals hI hd
  have conv : ∀ {x : Value} {w' : World}, PostS B st F a w X (fun v st' => ∃ (j : Nat) (T : TypeId) (sz : Nat) (xs : List PV), st'.own[j]? = some (.arr T sz xs) ∧ B.own0.length ≤ j ∧
      ∀ g : Nat → Nat → List PV, (∀ off n, g off n = (xs.drop off).take n) → k (v.frzG j g) ⟨st'.n, frMap (V.frzG j g) st'.fr, (mapR (V.frzG j g) st'.own).set j .dead⟩) x w' → PostS B st F a w X k x w' := by
    rintro x w' ⟨v, st', E', F', hn, hv, hI', hp, hdd, j, T, sz, xs, hj, hnl, hk⟩
    have hk := hk (fun off n => (xs.drop off).take n) (fun _ _ => rfl)
    rw [show V.frzG j (fun off n => (xs.drop off).take n) = V.frz j xs from funext (frzG_eq j xs), mapR_eq] at hk
    have hM : ∀ q, F' j q → ¬ nowM B (pushF F' j fun _ => False) q := fun q hq => by
      rintro (c | ⟨i, c⟩)
      · have h1 := hI'.bd q c
        rcases hI'.fresh j q hq with h2 | h2
        · exact hI'.low0 j hnl q h2
        · omega
      · by_cases hi : i = j
        · subst hi; rw [pushF_self] at c; exact c
        · rw [pushF_ne i hi] at c; exact hI'.apart i j hi q c hq
    have hf : ∀ i q, pushF F' j (fun _ => False) i q → F' i q ∨ w'.heap.size ≤ q := fun i q h => by
      by_cases hi : i = j
      · subst hi; rw [pushF_self] at h; exact h.elim
      · rw [pushF_ne i hi] at h; exact .inl h
    have hle := hI'.le (F' := pushF F' j fun _ => False) (keepsNone (Keeps.refl _ w')) hf
    have hdd2 : ∀ b, DD B F' X b → DD B (pushF F' j fun _ => False) X b := fun b hb => by
      rcases hb with hb | ⟨i, hi, hF⟩
      · refine .inl ?_
        rintro (c | ⟨i, c⟩)
        · exact hb (.inl c)
        · by_cases e : i = j
          · subst e; rw [pushF_self] at c; exact c
          · rw [pushF_ne i e] at c; exact hb (.inr ⟨i, c⟩)
      · by_cases e : i = j
        · subst e; exact .inl (hM b hF)
        · exact .inr ⟨i, hi, by rw [pushF_ne i e]; exact hF⟩
    exact ⟨v.frz j xs, ⟨st'.n, frMap (V.frz j xs) st'.fr, (st'.own.map (Res.map (V.frz j xs))).set j .dead⟩, E', _, hn, hv.frz hI' hj hle rfl hM, hI'.freeze hj hnl, hp, fun b hb hd => hdd2 b (hdd b hb hd), hk⟩
  rcases h E F a w vals hI hd with ⟨g1, g2⟩ | ⟨x, w', g1, g2⟩
  · exact .inl ⟨g1, Calls.mono g2 fun e w' ⟨x, hx, hp⟩ => ⟨x, hx, conv hp⟩⟩
  · exact .inr ⟨x, w', g1, conv g2⟩
end Go.Lx
