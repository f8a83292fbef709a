/- A calculus for walks, part 11: contracts in one form each, and how they are met and used. No conditions. -/
import Derived.Test.YtdbagbklhchbkaaSx10
set_option linter.unusedSimpArgs false
set_option linter.unusedVariables false
namespace Go.Sx
open Go

/-- A call that turns nothing and hands back a value of which R holds. -/
def FnEnd (H : Hp) (R : Value → Hp → Prop) (e : Ending) (w' : World) : Prop := ∃ v H', e = .returned v ∧ H'.w = w' ∧ H.Nx H' ∧ R v H'
def FnV (P : Program) (f : FuncId) (args : List Value) (H : Hp) (R : Value → Hp → Prop) : Prop := Calls P f args.toArray H.w (FnEnd H R)
theorem FnV.mono {P : Program} {f : FuncId} {args : List Value} {H : Hp} {R R' : Value → Hp → Prop} (h : FnV P f args H R) (hr : ∀ v H', H.Le H' → R v H' → R' v H') : FnV P f args H R' :=
  Calls.mono h fun e w' ⟨v, H', h1, h2, h3, h4⟩ => ⟨v, H', h1, h2, h3, hr v H' h3.le h4⟩

theorem fn_of_vc {P : Program} {E : TEnv} (hE : TOk P E) (hF : FOk P E) {f : FuncId} {fn : Func} {c : Code} (hf : P.funcs[f]? = some fn) (hb : fn.body = some c) {n : Nat} (hn : fn.ntmps = n)
    {args : List Value} (hl : Nat.ble args.length n = true) {H : Hp} (hM : H.Bd) {R : Value → Hp → Prop}
    (h : VcAll ⟨H.M, none', H.w, []⟩ P E c ⟨n, zipArgs 0 (args.map .v), [], H⟩ (fun st => RetEv ⟨H.M, none', H.w, []⟩ P fn st (FnEnd H R))) : FnV P f args H R :=
  calls_of_vc hE hF hf hb hn hl H hM h

theorem RetEv.fn {P : Program} {E : TEnv} (hE : TOk P E) {H : Hp} {st : St} {fn : Func} {R : Value → Hp → Prop} {xs : List Value} (h : resVs E st fn.results.toList = some xs)
    (hR : ∀ H', st.H.Le H' → R (oneOf xs) H') : RetEv ⟨H.M, none', H.w, []⟩ P fn st (FnEnd H R) := by
  refine RetEv.plain hE h fun w hle hk hbd => ⟨oneOf xs, ⟨H.M, w⟩, rfl, rfl, ⟨rfl, hk⟩, hR _ hle⟩

theorem EEv.callF {B : Base} {P : Program} {o : Oper} {st : St} {k : V → List Res → Hp → Prop} {f : FuncId} {args : Array Operand} {ts : Array TypeId} {xs : List Value} {R : Value → Hp → Prop}
    (hfn : FnOk P f) (ho : o.op = .call { callee := .value (.func f), args := args, argTypes := ts }) (hx : evs st.fr args.toList = some xs)
    (hc : ∀ H : Hp, st.H.Le H → H.Bd → FnV P f xs H R) (h : ∀ v H', st.H.Le H' → H'.Bd → R v H' → k (.v v) st.own H') : EEv B P o st k :=
  EEv.call hfn ho hx fun H hle hbd => Calls.mono (hc H hle hbd) fun e w' ⟨v, H', h1, h2, h3, h4⟩ => ⟨v, H', h1, h2, h3, h v H' (hle.trans h3.le) (h3.bd hbd) h4⟩

/-- A call that hands back something of its own. -/
def FnNEnd (H : Hp) (R : Value → (NP → World → Prop) → Hp → Prop) (e : Ending) (w' : World) : Prop :=
  ∃ v φ G, e = .returned v ∧ Keep0 H.w w' ∧ Loc φ ∧ φ G w' ∧ (∀ k, G k → H.w.heap.size ≤ k) ∧ ∀ H' : Hp, H'.w = w' → H.Le H' → (∀ k, H'.M k → H.M k ∨ G k) → R v φ H'
def FnN (P : Program) (f : FuncId) (args : List Value) (H : Hp) (R : Value → (NP → World → Prop) → Hp → Prop) : Prop := Calls P f args.toArray H.w (FnNEnd H R)
theorem fnN_of_vc {P : Program} {E : TEnv} (hE : TOk P E) (hF : FOk P E) {f : FuncId} {fn : Func} {c : Code} (hf : P.funcs[f]? = some fn) (hb : fn.body = some c) {n : Nat} (hn : fn.ntmps = n)
    {args : List Value} (hl : Nat.ble args.length n = true) {H : Hp} (hM : H.Bd) {R : Value → (NP → World → Prop) → Hp → Prop}
    (h : VcAll ⟨H.M, none', H.w, []⟩ P E c ⟨n, zipArgs 0 (args.map .v), [], H⟩ (fun st => RetEv ⟨H.M, none', H.w, []⟩ P fn st (FnNEnd H R))) : FnN P f args H R :=
  calls_of_vc hE hF hf hb hn hl H hM h
theorem RetEv.fnN {P : Program} {E : TEnv} (hE : TOk P E) {H : Hp} {st : St} {fn : Func} {R : Value → (NP → World → Prop) → Hp → Prop} {xs : List Value} (h : resVs E st fn.results.toList = some xs)
    {j : Nat} {φ : NP → World → Prop} (hj : st.own[j]? = some (.abs φ)) (hR : ∀ H', st.H.Le H' → R (oneOf xs) φ H') : RetEv ⟨H.M, none', H.w, []⟩ P fn st (FnNEnd H R) := by
  refine RetEv.plainR hE h hj fun w G hφ hl hle hk hfr => ⟨oneOf xs, φ, G, rfl, hk, hl, hφ, fun k hk => (hfr k hk).resolve_left (fun c => c), fun H' hw hle' hM' => hR H' (hle.trans ?_)⟩
  subst hw
  exact ⟨rfl, rfl, rfl, Nat.le_refl _, fun k hk hm => ⟨rfl, fun c => hm (hM' k c)⟩⟩
theorem EEv.callFN {B : Base} {P : Program} {o : Oper} {st : St} {k : V → List Res → Hp → Prop} {f : FuncId} {args : Array Operand} {ts : Array TypeId} {xs : List Value} {R : Value → (NP → World → Prop) → Hp → Prop}
    (hfn : FnOk P f) (ho : o.op = .call { callee := .value (.func f), args := args, argTypes := ts }) (hx : evs st.fr args.toList = some xs)
    (hc : ∀ H : Hp, st.H.Le H → H.Bd → FnN P f xs H R) (h : ∀ v φ H', st.H.Le H' → H'.Bd → R v φ H' → k (.v v) (st.own ++ [.abs φ]) H') : EEv B P o st k :=
  EEv.callN hfn ho hx fun H hle hbd => Calls.mono (hc H hle hbd) fun e w' ⟨v, φ, G, h1, h2, h3, h4, h5, h6⟩ => ⟨v, φ, G, h1, h2, h3, h4, h5, fun H' hw hl hM hb => h v φ H' (hle.trans hl) hb (h6 H' hw hl hM)⟩

/-- A call that takes one resource along and hands it back turned. -/
def FnREnd (H : Hp) (F : NP) (R : Value → (NP → World → Prop) → Hp → Prop) (e : Ending) (w' : World) : Prop :=
  ∃ v φ G, e = .returned v ∧ Keeps F H.w w' ∧ Loc φ ∧ φ G w' ∧ (∀ k, G k → F k ∨ H.w.heap.size ≤ k) ∧ ∀ H' : Hp, H'.w = w' → H.Le H' → (∀ k, H'.M k → H.M k ∨ G k) → R v φ H'
def FnR (P : Program) (f : FuncId) (args : List Value) (H : Hp) (φ0 : NP → World → Prop) (R : Value → (NP → World → Prop) → Hp → Prop) : Prop :=
  ∀ F : NP, φ0 F H.w → (∀ k, F k → H.M k) → Calls P f args.toArray H.w (FnREnd H F R)
theorem fnR_of_vc {P : Program} {E : TEnv} (hE : TOk P E) (hF : FOk P E) {f : FuncId} {fn : Func} {c : Code} (hf : P.funcs[f]? = some fn) (hb : fn.body = some c) {n : Nat} (hn : fn.ntmps = n)
    {args : List Value} (hl : Nat.ble args.length n = true) {H : Hp} (hM : H.Bd) {φ0 : NP → World → Prop} (hloc : Loc φ0) {R : Value → (NP → World → Prop) → Hp → Prop}
    (h : ∀ F, φ0 F H.w → VcAll ⟨H.M, F, H.w, []⟩ P E c ⟨n, zipArgs 0 (args.map .v), [.abs φ0], H⟩ (fun st => RetEv ⟨H.M, F, H.w, []⟩ P fn st (FnREnd H F R))) : FnR P f args H φ0 R :=
  fun F hφ hFM => calls_of_vcR hE hF hf hb hn hl H hM hloc hφ hFM (h F hφ)
theorem RetEv.fnR {P : Program} {E : TEnv} (hE : TOk P E) {H : Hp} {F : NP} {st : St} {fn : Func} {R : Value → (NP → World → Prop) → Hp → Prop} {xs : List Value} (h : resVs E st fn.results.toList = some xs)
    {j : Nat} {φ : NP → World → Prop} (hj : st.own[j]? = some (.abs φ)) (hR : ∀ H', st.H.Le H' → R (oneOf xs) φ H') : RetEv ⟨H.M, F, H.w, []⟩ P fn st (FnREnd H F R) := by
  refine RetEv.plainR hE h hj fun w G hφ hl hle hk hfr => ⟨oneOf xs, φ, G, rfl, hk, hl, hφ, hfr, fun H' hw hle' hM' => hR H' (hle.trans ?_)⟩
  subst hw
  exact ⟨rfl, rfl, rfl, Nat.le_refl _, fun k hk hm => ⟨rfl, fun c => hm (hM' k c)⟩⟩
theorem EEv.callFR {B : Base} {P : Program} {o : Oper} {st : St} {k : V → List Res → Hp → Prop} {f : FuncId} {args : Array Operand} {ts : Array TypeId} {xs : List Value} {R : Value → (NP → World → Prop) → Hp → Prop}
    (hfn : FnOk P f) (ho : o.op = .call { callee := .value (.func f), args := args, argTypes := ts }) (hx : evs st.fr args.toList = some xs) (j : Nat) {φ : NP → World → Prop} (hj : st.own[j]? = some (.abs φ))
    (hc : ∀ H : Hp, st.H.Le H → H.Bd → FnR P f xs H φ R) (h : ∀ v φ' H', st.H.Le H' → H'.Bd → R v φ' H' → k (.v v) (st.own.set j (.abs φ')) H') : EEv B P o st k :=
  EEv.callR hfn ho hx j hj fun H F hle hbd hφ hFM => Calls.mono (hc H hle hbd F hφ hFM) fun e w' ⟨v, φ', G, h1, h2, h3, h4, h5, h6⟩ =>
    ⟨v, φ', G, h1, h2, h3, h4, h5, fun H' hw hl hM hb => h v φ' H' (hle.trans hl) hb (h6 H' hw hl hM)⟩
end Go.Sx
