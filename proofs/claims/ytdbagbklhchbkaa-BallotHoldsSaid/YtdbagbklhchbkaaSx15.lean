/- A calculus for walks: a loop whose rounds make things of their own, which the next round no longer knows. No conditions. -/
import Derived.Test.YtdbagbklhchbkaaSx14
set_option linter.unusedSimpArgs false
set_option linter.unusedVariables false
namespace Go.Sx
open Go

def vFit (n : Nat) : V → Bool
  | .own i _ => Nat.blt i n
  | _ => true
def frFit (n : Nat) (fr : List (Nat × V)) : Bool := fr.all fun p => vFit n p.2
def ownFit (n : Nat) (own : List Res) : Bool := own.all fun | .st _ c => c.all (vFit n) | _ => true

theorem vFit.ok {H : Hp} {m n : Nat} {v : V} (h : vFit n v = true) (k : VOk H m v) : VOk H n v := by
  cases v with
  | v x => trivial
  | own i o => exact Nat.le_of_ble_eq_true h
  | imm b off cs o => exact k

theorem look_mem {fr : List (Nat × V)} {t : Nat} {v : V} (h : look fr t = some v) : ∃ p ∈ fr, p.2 = v := by
  induction fr with
  | nil => cases h
  | cons p r ih =>
    obtain ⟨a, b⟩ := p
    unfold look at h
    split at h
    · exact ⟨(a, b), by simp, Option.some.inj h⟩
    · obtain ⟨q, h1, h2⟩ := ih h
      exact ⟨q, by simp [h1], h2⟩

theorem Inv.trim {B : Base} {n : Nat} {fr : List (Nat × V)} {own ex : List Res} {H : Hp} {ρ : Nat → Nat} {F : Nat → NP} {a : Act} {w : World} (hI : Inv B ⟨n, fr, own ++ ex, H⟩ ρ F a w)
    (h1 : frFit own.length fr = true) (h2 : ownFit own.length own = true) (hp : B.pin.length ≤ own.length) : Inv B ⟨n, fr, own, H⟩ ρ (fun i k => i < own.length ∧ F i k) a w := by
  have hget : ∀ (i : Nat) (r : Res), own[i]? = some r → (own ++ ex)[i]? = some r := fun i r hr => by
    rw [List.getElem?_append_left (List.getElem?_eq_some_iff.1 hr).1]; exact hr
  refine ⟨hI.n, fun t v ht => ?_, hI.defers, fun i r hr => ?_, fun i T c hr v hv => ?_, fun i j hij k c d => hI.apart i j hij k c.2 d.2, fun i hi k c => absurd c.1 (by simp only at hi; omega), ?_, hI.keep, fun i k c => hI.fresh i k c.2, fun i b hb => ?_, hI.bd⟩
  · have := hI.slot t v ht
    obtain ⟨p, hp, rfl⟩ := look_mem ht
    exact ⟨this.1, vFit.ok (List.all_eq_true.1 h1 p hp) this.2⟩
  · have hlt := (List.getElem?_eq_some_iff.1 hr).1
    exact (hI.held i r (hget i r hr)).congr rfl (fun k => ⟨fun c => c.2, fun c => ⟨hlt, c⟩⟩) (fun _ _ _ _ _ => rfl) fun _ _ => rfl
  · have := hI.okc i T c (hget i _ hr) v hv
    have hm := List.all_eq_true.1 h2 _ (List.mem_of_getElem? hr)
    exact vFit.ok (List.all_eq_true.1 hm v hv) this
  · refine ⟨hI.hp.os, hI.hp.tape, hI.hp.output, hI.hp.size, fun k hk hm => ?_⟩
    have := hI.hp.block k hk hm
    refine ⟨this.1, ?_⟩
    rintro (c | ⟨i, c⟩)
    · exact this.2 (.inl c)
    · exact this.2 (.inr ⟨i, c.2⟩)
  · have := (List.getElem?_eq_some_iff.1 hb).1
    exact ⟨by simp only; omega, (hI.pin i b hb).2⟩

/-- What a round hands on, with things left behind. -/
def RoundD {ι : Type} (n pn : Nat) (fr : ι → List (Nat × V)) (own : ι → List Res) (Iv : ι → Hp → Prop) (μ : ι → Nat) (i : ι) (st : St) : Prop :=
  ∃ j ex, μ j < μ i ∧ st.n = n ∧ FrLe st.fr (fr j) ∧ st.own = own j ++ ex ∧ frFit (own j).length (fr j) = true ∧ ownFit (own j).length (own j) = true ∧ pn ≤ (own j).length ∧ Iv j st.H

theorem CodeEv.loopD {B : Base} {P : Program} {E : TEnv} (hE : TOk P E) (hF : FOk P E) {st : St} {body : Code} {Q : Exit → St → Prop} {ι : Type} (fr : ι → List (Nat × V)) (own : ι → List Res) (Iv : ι → Hp → Prop) (μ : ι → Nat)
    (i0 : ι) (h0 : FrLe st.fr (fr i0) ∧ st.own = own i0 ∧ Iv i0 st.H)
    (round : ∀ i H, Iv i H → ∀ rd : St → Prop, (∀ st', RoundD st.n B.pin.length fr own Iv μ i st' → rd st') → VcAny B P E body ⟨st.n, fr i, own i, H⟩ (loopQ rd Q)) :
    CodeEv B P (.loop body) st Q := by
  intro ρ F a w hI
  refine wp_loop_ghost (fun n a' w' => ∃ i H ρ' F', μ i = n ∧ Iv i H ∧ Inv B ⟨st.n, fr i, own i, H⟩ ρ' F' a' w') (μ i0) ?_ ?_
  · refine ⟨i0, st.H, ρ, F, rfl, h0.2.2, ?_⟩
    have := hI.weaken (fr i0) h0.1.look
    obtain ⟨n, f, o, H⟩ := st
    have ho : o = own i0 := h0.2.1
    rw [← ho]; exact this
  · rintro n a' w' ⟨i, H, ρ', F', rfl, hiv, hI'⟩
    refine wp_mono ((round i H hiv _ (fun _ h => h)).ok hE hF ρ' F' a' w' hI') ?_
    rintro e a2 w2 ⟨st2, ρ2, F2, hI2, hq⟩
    cases e with
    | normal =>
      obtain ⟨j, ex, hlt, hn, hfr, hown, hf1, hf2, hpn, hjv⟩ := hq
      have := hI2.weaken (fr j) hfr.look
      obtain ⟨n2, f2, o2, H2⟩ := st2
      simp only at hown hn
      subst hown hn
      exact ⟨μ j, hlt, j, H2, ρ2, _, rfl, hjv, Inv.trim this hf1 hf2 hpn⟩
    | exit id => exact ⟨st2, ρ2, F2, hI2, hq⟩
    | goto l => exact ⟨st2, ρ2, F2, hI2, hq⟩
    | ret => exact ⟨st2, ρ2, F2, hI2, hq⟩
    | panic ch => exact ⟨st2, ρ2, F2, hI2, hq⟩
    | outgrown => exact ⟨st2, ρ2, F2, hI2, hq⟩
end Go.Sx
