/- A calculus for walks, part 7: loops, whole ends, calls that own what came in. No conditions. -/
import Derived.Test.YtdbagbklhchbkaaSx6
import Derived.Deep.LoopGhost
set_option linter.unusedSimpArgs false
set_option linter.unusedVariables false
namespace Go.Sx
open Go

def FrLe (fr : List (Nat × V)) : List (Nat × V) → Prop
  | [] => True
  | (t, v) :: r => look fr t = some v ∧ FrLe fr r
theorem FrLe.look {fr : List (Nat × V)} : ∀ {l : List (Nat × V)}, FrLe fr l → ∀ t v, look l t = some v → look fr t = some v
  | [], _, t, v, h => by simp [Sx.look] at h
  | (s, u) :: r, hl, t, v, h => by
    rw [look_cons] at h
    split at h
    · rename_i e; subst e; cases h; exact hl.1
    · exact FrLe.look hl.2 t v h

/-- The code read, whatever the words are, with any end. -/
def VcAny (B : Base) (P : Program) (E : TEnv) (c : Code) (st : St) (Q : Exit → St → Prop) : Prop :=
  ∀ add sub mul quo rem band bor bxor bclr shl shr ieq ilt ile seq slt beq bnot orb bcond iwrap iof ssz,
    ArEq add sub mul quo rem band bor bxor bclr shl shr ieq ilt ile seq slt beq bnot orb bcond iwrap iof ssz →
    ∀ op, (∀ o st k, OpEv B P anyPr o st k → op o st k) → ∀ code, (∀ c st Q, CodeEv B P c st Q → code c st Q) →
    vcC ⟨⟨add, sub, mul, quo, rem, band, bor, bxor, bclr, shl, shr, ieq, ilt, ile, seq, slt, beq, bnot, orb, bcond, iwrap, iof, ssz⟩, op, code⟩ E c st Q
theorem VcAny.ok {B : Base} {P : Program} {E : TEnv} (hE : TOk P E) (hF : FOk P E) {c : Code} {st : St} {Q : Exit → St → Prop} (h : VcAny B P E c st Q) : CodeEv B P c st Q :=
  vc_ok hE hF _ _ _ (h _ _ _ _ _ _ _ _ _ _ _ _ _ _ _ _ _ _ _ _ _ _ _ ArEq.std _ (fun _ _ _ h => h) _ (fun _ _ _ h => h))

/-- What a round hands on. -/
def Round {ι : Type} (n : Nat) (fr : ι → List (Nat × V)) (own : ι → List Res) (Iv : ι → Hp → Prop) (μ : ι → Nat) (i : ι) (st : St) : Prop :=
  ∃ j, μ j < μ i ∧ st.n = n ∧ FrLe st.fr (fr j) ∧ st.own = own j ∧ Iv j st.H
def loopQ (rd : St → Prop) (Q : Exit → St → Prop) (e : Exit) (st : St) : Prop :=
  match e with
  | .normal => rd st
  | .exit id => Q (.exit id) st
  | .goto l => Q (.goto l) st
  | .ret => Q .ret st
  | .panic ch => Q (.panic ch) st
  | .outgrown => Q .outgrown st

theorem CodeEv.loop {B : Base} {P : Program} {E : TEnv} (hE : TOk P E) (hF : FOk P E) {st : St} {body : Code} {Q : Exit → St → Prop} {ι : Type} (fr : ι → List (Nat × V)) (own : ι → List Res) (Iv : ι → Hp → Prop) (μ : ι → Nat)
    (i0 : ι) (h0 : FrLe st.fr (fr i0) ∧ st.own = own i0 ∧ Iv i0 st.H)
    (round : ∀ i H, Iv i H → ∀ rd : St → Prop, (∀ st', Round st.n fr own Iv μ i st' → rd st') → VcAny B P E body ⟨st.n, fr i, own i, H⟩ (loopQ rd Q)) :
    CodeEv B P (.loop body) st Q := by
  intro ρ F a w hI
  refine wp_loop_ghost (fun n a' w' => ∃ i H ρ' F', μ i = n ∧ Iv i H ∧ Inv B ⟨st.n, fr i, own i, H⟩ ρ' F' a' w') (μ i0) ?_ ?_
  · refine ⟨i0, st.H, ρ, F, rfl, h0.2.2, ?_⟩
    have := hI.weaken (fr i0) h0.1.look
    obtain ⟨n, f, o, H⟩ := st
    have ho : o = own i0 := h0.2.1
    rw [← ho]; exact this
  · rintro n a' w' ⟨i, H, ρ', F', rfl, hiv, hI'⟩
    refine wp_mono ((round i H hiv _ (fun _ h => h)).ok hE hF ρ' F' a' w' hI') ?_
    rintro e a2 w2 ⟨st2, ρ2, F2, hI2, hq⟩
    cases e with
    | normal =>
      obtain ⟨j, hlt, hn, hfr, hown, hjv⟩ := hq
      refine ⟨μ j, hlt, j, st2.H, ρ2, F2, rfl, hjv, ?_⟩
      have := hI2.weaken (fr j) hfr.look
      obtain ⟨n2, f2, o2, H2⟩ := st2
      simp only at hown hn
      subst hown hn
      exact this
    | exit id => exact ⟨st2, ρ2, F2, hI2, hq⟩
    | goto l => exact ⟨st2, ρ2, F2, hI2, hq⟩
    | ret => exact ⟨st2, ρ2, F2, hI2, hq⟩
    | panic ch => exact ⟨st2, ρ2, F2, hI2, hq⟩
    | outgrown => exact ⟨st2, ρ2, F2, hI2, hq⟩

/-- A call that takes one resource along: its own side. -/
theorem calls_of_vcR {P : Program} {E : TEnv} (hE : TOk P E) (hF : FOk P E) {f : FuncId} {fn : Func} {c : Code} (hf : P.funcs[f]? = some fn) (hb : fn.body = some c) {n : Nat} (hn : fn.ntmps = n)
    {args : List Value} (hl : Nat.ble args.length n = true) (H : Hp) (hM : H.Bd) {φ : NP → World → Prop} {F0 : NP} (hloc : Loc φ) (hφ : φ F0 H.w) (hFM : ∀ k, F0 k → H.M k) {R : Ending → World → Prop}
    (h : VcAll ⟨H.M, F0, H.w, []⟩ P E c ⟨n, zipArgs 0 (args.map .v), [.abs φ], H⟩ (fun st => RetEv ⟨H.M, F0, H.w, []⟩ P fn st R)) : Calls P f args.toArray H.w R := by
  subst hn
  have h0 := enter_inv (args := args) (n := fn.ntmps) (Nat.le_of_ble_eq_true hl) hM
  refine calls_of_ev (ρ := fun _ => 0) (F := fun i k => i = 0 ∧ F0 k) hf hb ?_ (h.ok hE hF)
  refine ⟨h0.n, fun t v ht => ?_, rfl, fun i r hr => ?_, fun i T c hr => ?_, fun i j hij k h1 h2 => hij (h1.1.trans h2.1.symm), fun i hi k hk => ?_, ?_, Keeps.refl _ _, fun i k hk => .inl hk.2, fun i b h => by simp at h, hM⟩
  · have := h0.slot t v ht
    exact ⟨this.1, this.2.mono (Hp.Le.refl _) (by simp)⟩
  · cases i with
    | zero =>
      simp at hr; subst hr
      exact ⟨hloc, by simpa using hφ⟩
    | succ i => simp at hr
  · cases i with
    | zero => simp at hr
    | succ i => simp at hr
  · simp at hi; omega
  · exact ⟨rfl, rfl, rfl, Nat.le_refl _, fun k hk hm => ⟨rfl, fun c => by
      rcases c with c | ⟨i, _, c⟩
      · exact hm c
      · exact hm (hFM k c)⟩⟩

/-- The end of such a call. -/
theorem RetEv.plainR {P : Program} {E : TEnv} (hE : TOk P E) {B : Base} {st : St} {fn : Func} {R : Ending → World → Prop} {xs : List Value} (h : resVs E st fn.results.toList = some xs)
    {j : Nat} {φ : NP → World → Prop} (hj : st.own[j]? = some (.abs φ))
    (hR : ∀ w G, φ G w → Loc φ → st.H.Le ⟨fun k => B.M0 k ∨ G k, w⟩ → Keeps B.S0 B.w0 w → (∀ k, G k → B.S0 k ∨ B.w0.heap.size ≤ k) → R (.returned (oneOf xs)) w) : RetEv B P fn st R := by
  intro ρ F a w hI
  obtain ⟨hl, hφ⟩ := hI.held j _ hj
  refine ⟨_, results_ok hE hI h, hR w (F j) hφ hl ?_ hI.keep (hI.fresh j)⟩
  exact ⟨hI.hp.os, hI.hp.tape, hI.hp.output, hI.hp.size, fun k hk hm => have := hI.hp.block k hk hm; ⟨this.1, fun c => by
    rcases c with c | c
    · exact this.2 (.inl c)
    · exact this.2 (.inr ⟨j, c⟩)⟩⟩
end Go.Sx
