/- A calculus of logical values, part 37: slices.overlaps of parts of two own rows; the entry is the model's own. No conditions. -/
import Derived.Test.YtdeolllpbflemaaLY6
import Derived.Lib.Overlaps
set_option linter.unusedSimpArgs false
set_option linter.unusedVariables false
namespace Go.Lx
open Go
open Go.Sx (NP Keeps Hp Keep0 TI TEnv TOk Kd resOf)

theorem CallEv.overlaps {B : Base} {P : Program} {TE : TEnv} (hE : TOk P TE) {f : FuncId} {fn : Func} {t e r : TypeId} {ti te : TI}
    (hf : P.funcs[f]? = some fn) (hname : (fn.name == "runtime.NumGoroutine") = false) (hb : fn.body.isNone = true) (hn : Extern.findNext fn = none) (he : Extern.find fn = some (Extern.SlicesOverlaps.overlaps #[t, t] #[r]))
    (hti : TE.get t = some ti) (hkd : ti.kd = .slice e) (hte : TE.get e = some te) {X : Nat → Bool} {st : St} {k : V → St → Prop} {i j o1 n1 o2 n2 : Nat} {c1 c2 : Option Nat} {T1 T2 : TypeId} {xs ys : List PV}
    (hi : st.own[i]? = some (.arr T1 te.size xs)) (hj : st.own[j]? = some (.arr T2 te.size ys)) (hij : i ≠ j) (h1 : 0 < n1) (h2 : 0 < n2)
    (hk : k (.p (.bool false)) st) : CallEv B P f [.vw i te.size o1 n1 c1, .vw j te.size o2 n2 c2] X st k := by
  intro E F a w vals hI hd
  obtain ⟨inf, d, his⟩ := hE.get hti
  have := kd_slice his hkd; subst this
  obtain ⟨inf', d', his'⟩ := hE.get hte
  have row : ∀ {i o1 n1 : Nat} {c1 : Option Nat} {T1 : TypeId} {xs : List PV} {sv : Value}, V.Den ⟨nowM B F, w⟩ E (.vw i te.size o1 n1 c1) sv → st.own[i]? = some (.arr T1 te.size xs) → 0 < n1 →
      ∃ c kk, sv = .slice (some ⟨E.ρ i, o1 * te.size, none⟩) n1 c ∧ F i (E.ρ i) ∧ w.shape? (E.ρ i) = some (T1, kk) ∧ kk ≠ 0 ∧ ∀ off, w.frozen? ⟨E.ρ i, off, none⟩ = false := by
    intro i o1 n1 c1 T1 xs sv hd hr hpos
    obtain ⟨g0, g1, g2, g3, g4⟩ := hI.held i _ hr
    cases hd with
    | vwn _ _ _ _ _ _ _ _ => omega
    | vw _ _ _ _ _ da c h hnl hc hkk hln hxx hz ha =>
      have hda : da = ⟨E.ρ i, o1 * te.size, none⟩ := ha.resolve_right (by omega)
      subst hda
      rcases g4 with ⟨k1, _, _⟩ | ⟨_, hF, hl1, hl2, cc, hcc, hcs, val, hval⟩
      · rw [hnl] at k1; cases k1
      have hpm : 0 < E.κ i * te.size := Nat.mul_pos (by omega) g0
      exact ⟨c, cc.size, rfl, (hF _).2 rfl, by simp [World.shape?, hcc], by omega, fun off => by simp [World.frozen?, hcc]⟩
  obtain ⟨x, s, rfl⟩ : ∃ x s, vals = [x, s] := by
    have := hd.1
    match vals, this with
    | [x, s], _ => exact ⟨x, s, rfl⟩
  have hdx := hd.2 0 _ _ rfl rfl
  have hds := hd.2 1 _ _ rfl rfl
  obtain ⟨ca, ka, e1, f1, sh1, z1, fz1⟩ := row hdx hi h1
  obtain ⟨cb, kb, e2, f2, sh2, z2, fz2⟩ := row hds hj h2
  have hne : E.ρ i ≠ E.ρ j := fun h => hI.apart i j hij _ f1 (by rw [h]; exact f2)
  have hz : ∀ w, (Go.sizeOf e).run P w = .ok te.size w := fun w => by simp [sizeOf, typeInfo, his'.info, his'.size]
  have hr := Lib.run_overlaps_apart (P := P) w t r e his.und te.size hz ⟨E.ρ i, o1 * te.size, none⟩ ⟨E.ρ j, o2 * te.size, none⟩ n1 ca n2 cb hne T1 T2 ka kb sh1 sh2 z2 (fz1 _) (fz1 _)
  have hc : (callFunc f #[.slice (some ⟨E.ρ i, o1 * te.size, none⟩) n1 ca, .slice (some ⟨E.ρ j, o2 * te.size, none⟩) n2 cb]).run P w = .ok (.value (.bool false)) w := by
    rw [run_callFunc_extern hf hname hb hn he, hr]; rfl
  refine .inr ⟨.bool false, w, by rw [e1, e2]; exact hc, ?_⟩
  exact (Post.of (k := fun v own f => k v ⟨st.n, frMap f st.fr, own⟩) (f := fun v => v) hI (by rw [frMap_id]; exact hI) (keepsNone (Keeps.refl _ w)) (fun i q h => .inl h) (fun i q _ h => h) V.Den.bool (by rw [frMap_id]; exact hk)).s
end Go.Lx
