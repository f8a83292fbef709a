/- A calculus for walks, part 8: regions that draw their order. No conditions. -/
import Derived.Test.YtdbagbklhchbkaaSx7
set_option linter.unusedSimpArgs false
set_option linter.unusedVariables false
namespace Go.Sx
open Go

/-- The blocks of D are as they were. -/
structure Prot (D : NP) (w w' : World) : Prop where
  os : w'.os = w.os
  tape : w'.tape = w.tape
  output : w'.output = w.output
  size : w.heap.size ≤ w'.heap.size
  block : ∀ k, k < w.heap.size → D k → w'.heap[k]? = w.heap[k]?
theorem Prot.refl (D : NP) (w : World) : Prot D w w := ⟨rfl, rfl, rfl, Nat.le_refl _, fun _ _ _ => rfl⟩
theorem Prot.trans {D D' : NP} {a b c : World} (h : Prot D a b) (k : Prot D' b c) (hd : ∀ i, i < a.heap.size → D i → D' i) : Prot D a c :=
  ⟨k.os.trans h.os, k.tape.trans h.tape, k.output.trans h.output, Nat.le_trans h.size k.size, fun i hi hD => (k.block i (Nat.lt_of_lt_of_le hi h.size) (hd i hi hD)).trans (h.block i hi hD)⟩

def stepD (P : Program) (ops : Array Oper) (o : Oper) (a : Act) (w : World) (K : Value → World → Prop) : Prop :=
  if Region.wanted o (yielded ops a.tmps) = true then resOf P o a w K else K undef w
theorem stepD.mono {P : Program} {ops : Array Oper} {o : Oper} {a : Act} {w : World} {K K' : Value → World → Prop} (h : stepD P ops o a w K) (hk : ∀ v w', K v w' → K' v w') : stepD P ops o a w K' := by
  unfold stepD at *
  split
  · rename_i hw; rw [if_pos hw] at h; exact h.mono hk
  · rename_i hw; rw [if_neg hw] at h; exact hk _ _ h
theorem stepD.put {P : Program} {ops : Array Oper} {oi oj : Oper} {a : Act} {w : World} {v : Value} {K : Value → World → Prop} (hsj : ∀ cs b, oj.op ≠ .select cs b) (h1 : ∀ d, oi.dst = some d → d ∉ oj.looksAt ops)
    (h : stepD P ops oj (a.put oi.dst v) w K) : stepD P ops oj a w K := by
  unfold stepD resOf at *
  rw [wanted_put oj a oi.dst v h1, execOp_put oj hsj a oi.dst v h1] at h
  exact h

/-- Whatever order is picked; what is protected stays. -/
def DA (P : Program) (ops : Array Oper) (Q : Act → World → Prop) : Nat → NP → Array Bool → Act → World → Prop
  | 0, _, listed, a, w => Region.ready .any ops listed = [] ∧ Q a w
  | fuel + 1, D, listed, a, w => (Region.ready .any ops listed = [] → Q a w) ∧
    ∀ i ∈ Region.ready .any ops listed, ∃ o, ops[i]? = some o ∧ stepD P ops o a w fun v w' => ∃ D', Prot D w w' ∧ (∀ k, k < w.heap.size → D k → D' k) ∧ DA P ops Q fuel D' (listed.setIfInBounds i true) (a.put o.dst v) w'

theorem DA.any {P : Program} {ops : Array Oper} {Q : Act → World → Prop} {Q' : Exit → Act → World → Prop} (hQ : ∀ a w, Q a w → Q' .normal a w) : ∀ (fuel : Nat) (D : NP) (listed : Array Bool) (a : Act) (w : World),
    DA P ops Q fuel D listed a w → wpAny P .any ops Q' fuel listed a w
  | 0, _, _, _, _, h => ⟨h.1, hQ _ _ h.2⟩
  | fuel + 1, D, listed, a, w, h => ⟨fun h0 => hQ _ _ (h.1 h0), fun i hi => by
    obtain ⟨o, ho, hs⟩ := h.2 i hi
    unfold wpOp
    simp only [ho]
    unfold stepD at hs
    split
    · rename_i hw
      rw [if_pos hw] at hs
      exact .inl (hs.wp fun v w' ⟨D', _, _, hd⟩ => DA.any hQ fuel D' _ _ _ hd)
    · rename_i hw
      rw [if_neg hw] at hs
      obtain ⟨D', _, _, hd⟩ := hs
      exact DA.any hQ fuel D' _ _ _ hd⟩

def YieldsD (P : Program) (ops : Array Oper) (D : NP) (o : Oper) (v : Value) (a : Act) (w : World) : Prop :=
  (Region.wanted o (yielded ops a.tmps) = true ∧ ∀ w', Prot D w w' → (execOp a.eval o).run P w' = .ok (.value v) w') ∨ (Region.wanted o (yielded ops a.tmps) = false ∧ v = undef)
theorem YieldsD.step {P : Program} {ops : Array Oper} {D : NP} {o : Oper} {v : Value} {a : Act} {w : World} (h : YieldsD P ops D o v a w) {K : Value → World → Prop} (hk : K v w) : stepD P ops o a w K := by
  unfold stepD resOf
  rcases h with ⟨hw, hr⟩ | ⟨hw, rfl⟩
  · rw [if_pos hw, hr w (Prot.refl _ _)]; exact hk
  · rw [if_neg (by rw [hw]; simp)]; exact hk

theorem DA.first {P : Program} {ops : Array Oper} {Q : Act → World → Prop} {i : Nat} {oi : Oper} {v : Value} (hi : ops[i]? = some oi) (hsel : ∀ (j : Nat) (o : Oper) cs b, ops[j]? = some o → o.op ≠ .select cs b) :
    ∀ (fuel : Nat) (D : NP) (listed : Array Bool) (a : Act) (w : World),
      (∀ j oj, ops[j]? = some oj → j ≠ i → listed.getD j true = false → (∀ e ∈ oj.after, Region.binds .any e = true → e.on ≠ i) → oi.apart ops oj = true) →
      i ∈ Region.ready .any ops listed → YieldsD P ops D oi v a w →
      DA P ops Q fuel D (listed.setIfInBounds i true) (a.put oi.dst v) w → DA P ops Q (fuel + 1) D listed a w := by
  intro fuel
  induction fuel with
  | zero =>
    intro D listed a w _ hr hy H
    refine ⟨fun h => (by rw [h] at hr; cases hr), fun j hj => ?_⟩
    by_cases hji : j = i
    · subst hji; exact ⟨oi, hi, hy.step ⟨D, Prot.refl _ _, fun _ _ h => h, H⟩⟩
    · have := ready_mono hj hji
      rw [H.1] at this
      cases this
  | succ fuel ih =>
    intro D listed a w hfree hr hy H
    refine ⟨fun h => (by rw [h] at hr; cases hr), fun j hj => ?_⟩
    by_cases hji : j = i
    · subst hji; exact ⟨oi, hi, hy.step ⟨D, Prot.refl _ _, fun _ _ h => h, H⟩⟩
    · obtain ⟨oj, hoj, h1⟩ := H.2 j (ready_mono hj hji)
      obtain ⟨hjun, oj', hoj', hall⟩ := mem_ready.1 hj
      rw [hoj] at hoj'; cases hoj'
      have hnot : ∀ e ∈ oj.after, Region.binds .any e = true → e.on ≠ i := fun e he hb heq => by
        have h1 := hall e he hb
        have h0 := (mem_ready.1 hr).1
        rw [heq] at h1
        rcases Nat.lt_or_ge i listed.size with h' | h'
        · simp [h'] at h0 h1; rw [h0] at h1; cases h1
        · simp [Array.getElem?_eq_none h'] at h1
      have hap := hfree j oj hoj hji hjun hnot
      obtain ⟨a1, a2, a3⟩ := Oper.apart_spec hap
      have hfree' : ∀ k ok, ops[k]? = some ok → k ≠ i → (listed.setIfInBounds j true).getD k true = false →
          (∀ e ∈ ok.after, Region.binds .any e = true → e.on ≠ i) → oi.apart ops ok = true := fun k ok hk hki hun hno => by
        refine hfree k ok hk hki ?_ hno
        by_cases hjk : j = k
        · subst hjk; exact hjun
        · rw [getD_set_ne true hjk] at hun; exact hun
      refine ⟨oj, hoj, (h1.put (fun cs b => hsel j oj cs b hoj) a1).mono ?_⟩
      rintro u w' ⟨D', hp, hd, h3⟩
      refine ⟨D', hp, hd, ih D' _ _ w' hfree' (ready_mono hr (Ne.symm hji)) ?_ ?_⟩
      · rcases hy with ⟨hw, hrun⟩ | ⟨hw, hv⟩
        · refine .inl ⟨by rw [wanted_put oi a oj.dst u a3]; exact hw, fun w2 hw2 => ?_⟩
          rw [execOp_put oi (fun cs b => hsel i oi cs b hi) a oj.dst u a3]
          exact hrun w2 (hp.trans hw2 hd)
        · exact .inr ⟨by rw [wanted_put oi a oj.dst u a3]; exact hw, hv⟩
      · rw [Array.setIfInBounds_comm _ _ hji, ← Act.put_comm a v u a2]
        exact h3

/-- What no operation of such a region turns. -/
def DD (st : St) (ρ : Nat → Nat) : NP := fun k => (k < st.H.w.heap.size ∧ ¬ st.H.M k) ∨ ∃ (i : Nat) (T : TypeId) (c : List V), st.own[i]? = some (.st T c) ∧ k = ρ i

/-- An operation that only reads what is protected. -/
def PEv (B : Base) (P : Program) (o : Oper) (st : St) (k : V → Prop) : Prop :=
  ∀ ρ F a w, Inv B st ρ F a w → ∃ v, (∀ w', Prot (DD st ρ) w w' → (execOp a.eval o).run P w' = .ok (.value (v.den ρ)) w') ∧ VOk st.H st.own.length v ∧ k v
/-- An operation that acts. -/
def EEv (B : Base) (P : Program) (o : Oper) (st : St) (k : V → List Res → Hp → Prop) : Prop :=
  ∀ ρ F a w, Inv B st ρ F a w → resOf P o a w fun x w' => ∃ v own' H' ρ' F', x = v.den ρ' ∧ VOk H' own'.length v ∧ Inv B { st with own := own', H := H' } ρ' F' a w' ∧ Prot (DD st ρ) w w' ∧
    (∀ b, b < w.heap.size → DD st ρ b → DD { st with own := own', H := H' } ρ' b) ∧ k v own' H'

def killAbs (own : List Res) : List Res := own.map fun | .st T c => .st T c | _ => .dead
theorem killAbs_get {own : List Res} {i : Nat} {T : TypeId} {c : List V} : (killAbs own)[i]? = some (.st T c) ↔ own[i]? = some (.st T c) := by
  unfold killAbs
  rw [List.getElem?_map]
  cases own[i]? with
  | none => simp
  | some r => cases r <;> simp
theorem killAbs_length (own : List Res) : (killAbs own).length = own.length := List.length_map _

theorem Inv.part {B : Base} {st : St} {ρ : Nat → Nat} {F : Nat → NP} {a : Act} {w w' : World} (hI : Inv B st ρ F a w) (hp : Prot (DD st ρ) w w') :
    Inv ⟨none', fun _ => True, w', []⟩ { st with own := killAbs st.own } ρ (fun i k => k = ρ i ∧ ∃ T c, st.own[i]? = some (.st T c)) a w' := by
  refine ⟨hI.n, fun t v ht => ?_, hI.defers, fun i r hr => ?_, fun i T c hr v hv => ?_, fun i j hij k h1 h2 => ?_, fun i hi k hk => ?_, ?_, Keeps.refl _ _, fun _ _ _ => .inl trivial, fun i b h => by simp at h, fun k h => h.elim⟩
  · rw [killAbs_length]; exact hI.slot t v ht
  · unfold killAbs at hr
    rw [List.getElem?_map] at hr
    cases ho : st.own[i]? with
    | none => simp [ho] at hr
    | some r0 =>
      cases r0 with
      | st T c =>
        simp [ho] at hr; subst hr
        obtain ⟨h1, h2⟩ := hI.held i _ ho
        refine ⟨fun k => ⟨fun h => h.1, fun h => ⟨h, T, c, ho⟩⟩, ?_⟩
        rw [hp.block (ρ i) (hI.foot_lt i _ ((h1 _).2 rfl)) (.inr ⟨i, T, c, ho, rfl⟩)]
        exact h2
      | abs φ => simp [ho] at hr; subst hr; rintro k ⟨_, T, c, h⟩; rw [ho] at h; cases h
      | dead => simp [ho] at hr; subst hr; rintro k ⟨_, T, c, h⟩; rw [ho] at h; cases h
  · rw [killAbs_length]; exact hI.okc i T c (killAbs_get.1 hr) v hv
  · obtain ⟨rfl, T, c, h⟩ := h1
    obtain ⟨h2, T', c', h'⟩ := h2
    exact hI.apart i j hij _ (((hI.held i _ h).1 _).2 rfl) (((hI.held j _ h').1 _).2 h2)
  · obtain ⟨_, T, c, h⟩ := hk
    rw [killAbs_length] at hi
    rw [List.getElem?_eq_none hi] at h; cases h
  · refine ⟨hp.os.trans hI.hp.os, hp.tape.trans hI.hp.tape, hp.output.trans hI.hp.output, Nat.le_trans hI.hp.size hp.size, fun k hk hm => ?_⟩
    have h1 := hI.hp.block k hk hm
    refine ⟨(hp.block k (Nat.lt_of_lt_of_le hk hI.hp.size) (.inl ⟨hk, hm⟩)).trans h1.1, ?_⟩
    rintro (c | ⟨i, rfl, T, c, h⟩)
    · exact c
    · exact h1.2 (.inr ⟨i, ((hI.held i _ h).1 _).2 rfl⟩)

def silentR (ar : Ar) (E : TEnv) (op : Op) (st : St) : Option V :=
  match isRead op with
  | true => match silent ar E op st with
    | some (v, _) => some v
    | none => none
  | false => none

theorem silent_kill {ar : Ar} {E : TEnv} {op : Op} {st : St} {v : V} {own' : List Res} (hr : isRead op = true) (h : silent ar E op st = some (v, own')) :
    own' = st.own ∧ silent ar E op { st with own := killAbs st.own } = some (v, killAbs st.own) := by
  cases op
  case alloc => simp [isRead] at hr
  case box => simp [isRead] at hr
  case store => simp [isRead] at hr
  case unOp op t x =>
    cases op <;> simp only [silent] at h ⊢
    all_goals
      (repeat' split at h)
      all_goals first
        | (cases h; done)
        | (cases h; refine ⟨rfl, ?_⟩; simp only [*])
        | (cases h; exact ⟨rfl, rfl⟩)
  case call c =>
    obtain ⟨callee, args, ts⟩ := c
    cases callee
    case builtin bn =>
      cases bn <;> simp only [silent] at h ⊢
      all_goals
        (repeat' split at h)
        all_goals first
          | (cases h; done)
          | (cases h; refine ⟨rfl, ?_⟩; simp only [*])
          | (cases h; exact ⟨rfl, rfl⟩)
    all_goals (simp only [silent] at h; cases h; done)
  all_goals simp only [silent] at h ⊢
  case load T x =>
    split at h
    · split at h
      · split at h
        · rename_i hi
          split at h
          · rename_i hv
            cases h
            refine ⟨rfl, ?_⟩
            simp only [killAbs_get.2 hi, hv]
          · cases h
        · cases h
      · split at h
        · cases h; exact ⟨rfl, rfl⟩
        · cases h
      · cases h
    · cases h
  all_goals
    (repeat' split at h)
    all_goals first
      | (cases h; done)
      | (cases h; refine ⟨rfl, ?_⟩; simp only [*])
      | (cases h; exact ⟨rfl, rfl⟩)

theorem Inv.len {B : Base} {st : St} {ρ : Nat → Nat} {F : Nat → NP} {a : Act} {w : World} (h : Inv B st ρ F a w) : a.tmps.size = st.n := h.n

theorem PEv.silent {B : Base} {P : Program} {E : TEnv} (hE : TOk P E) (hF : FOk P E) {o : Oper} {st : St} {v : V} (h : silentR .std E o.op st = some v) {k : V → Prop} (hk : k v) : PEv B P o st k := by
  unfold silentR at h
  split at h
  · rename_i hr
    split at h
    · rename_i v' own' hs
      cases h
      obtain ⟨rfl, hs'⟩ := silent_kill hr hs
      intro ρ F a w hI
      have key : ∀ w', Prot (DD st ρ) w w' → (execOp a.eval o).run P w' = .ok (.value (v.den ρ)) w' ∧ VOk st.H st.own.length v := by
        intro w' hp
        obtain ⟨h1, h2⟩ := silent_read hE hF hr hs' (hI.part hp)
        rw [killAbs_length] at h2
        exact ⟨h1, h2⟩
      exact ⟨v, fun w' hp => (key w' hp).1, (key w (Prot.refl _ _)).2, hk⟩
    · cases h
  · cases h


/-! ### The region read in one order -/
def vcGuard (ops : List Oper) (o : Oper) (st : St) (run skip : St → Prop) : Prop :=
  match o.guard with
  | none => run st
  | some (j, want) => match gslot ops j with
    | none => False
    | some d => match look st.fr d with
      | some (.v (.bool b)) => vcIf b
          (fun _ => match want with
            | true => run { st with fr := (d, .v (.bool true)) :: st.fr }
            | false => skip { st with fr := (d, .v (.bool true)) :: st.fr })
          (fun _ => match want with
            | true => skip { st with fr := (d, .v (.bool false)) :: st.fr }
            | false => run { st with fr := (d, .v (.bool false)) :: st.fr })
      | some (.v (.tuple _)) => skip st
      | _ => False

structure Wr where
  ar : Ar
  rd : Oper → St → (V → Prop) → Prop
  act : Oper → St → (V → List Res → Hp → Prop) → Prop

def vcRd (W : Wr) (E : TEnv) (o : Oper) (st : St) (k : V → Prop) : Prop :=
  match silentR W.ar E o.op st with
  | some v => k v
  | none => W.rd o st k

def vcDs (W : Wr) (E : TEnv) (ops : List Oper) (Q : St → Prop) : List (Nat × Bool) → St → Prop
  | [], st => Q st
  | (i, e) :: rest, st => match ops[i]? with
    | none => False
    | some o => match dstOk st.n o.dst with
      | false => False
      | true => vcGuard ops o st
        (fun st1 => match e with
          | false => vcRd W E o st1 fun v => vcDs W E ops Q rest (st1.upd o.dst v st1.own st1.H)
          | true => W.act o st1 fun v own H => vcDs W E ops Q rest (st1.upd o.dst v own H))
        (fun st1 => vcDs W E ops Q rest (st1.upd o.dst (.v undef) st1.own st1.H))

def Wr.std (B : Base) (P : Program) : Wr := ⟨Ar.std, PEv B P, EEv B P⟩

def schedOk (ops : Array Oper) : Array Bool → List (Nat × Bool) → Bool
  | listed, [] => (Region.ready .any ops listed).isEmpty
  | listed, (i, e) :: r => (Region.ready .any ops listed).contains i && (match e with
    | true => (Region.ready .any ops listed).all fun j => Nat.beq j i
    | false => Region.free .any ops listed i) && schedOk ops (listed.setIfInBounds i true) r

/-- What the guard says, and the frame behind it. -/
theorem vcGuard.ok {B : Base} {ops : Array Oper} {o : Oper} {st : St} {run skip : St → Prop} (h : vcGuard ops.toList o st run skip) {ρ : Nat → Nat} {F : Nat → NP} {a : Act} {w : World} (hI : Inv B st ρ F a w) :
    ∃ fr', Inv B { st with fr := fr' } ρ F a w ∧ ((Region.wanted o (yielded ops a.tmps) = true ∧ run { st with fr := fr' }) ∨ (Region.wanted o (yielded ops a.tmps) = false ∧ skip { st with fr := fr' })) := by
  unfold vcGuard at h
  split at h
  · rename_i hg
    exact ⟨st.fr, hI, .inl ⟨by simp [Region.wanted, hg], h⟩⟩
  · rename_i j want hg
    split at h
    · exact h.elim
    · rename_i d hgs
      split at h
      · rename_i b hl
        have hy := look_yielded hI hgs hl
        have hw : Region.wanted o (yielded ops a.tmps) = (b == want) := by
          simp [Region.wanted, hg, hy]
        unfold vcIf at h
        refine ⟨_, hI.lit hl, ?_⟩
        rw [hw]
        cases b <;> cases want <;> simp only at h
        · exact .inl ⟨rfl, h⟩
        · exact .inr ⟨rfl, h⟩
        · exact .inr ⟨rfl, h⟩
        · exact .inl ⟨rfl, h⟩
      · rename_i tt hl
        have hy := look_tuple hI hgs hl
        exact ⟨st.fr, hI, .inr ⟨by simp [Region.wanted, hg, hy], h⟩⟩
      · exact h.elim

theorem vcRd.ev {B : Base} {P : Program} {E : TEnv} (hE : TOk P E) (hF : FOk P E) {o : Oper} {st : St} {k : V → Prop} (h : vcRd (.std B P) E o st k) : PEv B P o st k := by
  unfold vcRd at h
  split at h
  · rename_i v hs; exact PEv.silent hE hF hs h
  · exact h

theorem vcDs.ok {B : Base} {P : Program} {E : TEnv} (hE : TOk P E) (hF : FOk P E) {ops : Array Oper} {Q : St → Prop} (hsel : Region.noSelect ops = true) : ∀ (l : List (Nat × Bool)) (listed : Array Bool) (st : St),
    schedOk ops listed l = true → vcDs (.std B P) E ops.toList Q l st → ∀ ρ F a w, Inv B st ρ F a w → DA P ops (fun a w => ∃ st ρ F, Inv B st ρ F a w ∧ Q st) l.length (DD st ρ) listed a w
  | [], listed, st, hs, h, ρ, F, a, w, hI => ⟨by simpa [schedOk] using hs, st, ρ, F, hI, h⟩
  | (i, e) :: rest, listed, st, hs, h, ρ, F, a, w, hI => by
    simp only [schedOk, Bool.and_eq_true] at hs
    obtain ⟨⟨hri, hse⟩, hsr⟩ := hs
    have hri : i ∈ Region.ready .any ops listed := by simpa using hri
    unfold vcDs at h
    split at h
    · exact h.elim
    · rename_i o ho
      have ho : ops[i]? = some o := by simpa using ho
      split at h
      · exact h.elim
      · rename_i hd
        obtain ⟨fr', hI1, hg⟩ := h.ok hI
        have hDD : ∀ fr, DD { st with fr := fr } ρ = DD st ρ := fun _ => rfl
        cases e with
        | false =>
          simp only at hse
          rcases hg with ⟨hw, hrun⟩ | ⟨hw, hskip⟩
          · obtain ⟨v, hv1, hv2, hk⟩ := vcRd.ev hE hF hrun ρ F a w hI1
            refine DA.first ho (Region.noSelect_spec hsel) _ _ listed a w (Region.free_spec ho hse) hri (.inl ⟨hw, fun w' hp => hv1 w' hp⟩) (v := v.den ρ) ?_
            exact vcDs.ok hE hF hsel rest _ _ hsr hk ρ F _ w (hI1.upd hv2 hd)
          · refine DA.first ho (Region.noSelect_spec hsel) _ _ listed a w (Region.free_spec ho hse) hri (.inr ⟨hw, rfl⟩) ?_
            exact vcDs.ok hE hF hsel rest _ _ hsr hskip ρ F _ w (hI1.upd (v := .v undef) trivial hd)
        | true =>
          simp only [List.all_eq_true] at hse
          refine ⟨(fun h0 => by rw [h0] at hri; cases hri), fun j hj => ?_⟩
          have hji : j = i := Nat.eq_of_beq_eq_true (hse j hj)
          subst hji
          refine ⟨o, ho, ?_⟩
          unfold stepD
          rcases hg with ⟨hw, hrun⟩ | ⟨hw, hskip⟩
          · rw [if_pos hw]
            refine (hrun ρ F a w hI1).mono ?_
            rintro x w' ⟨v, own', H', ρ', F', rfl, hv, hI', hp, hdd, hk⟩
            refine ⟨DD { st with own := own', H := H' } ρ', hp, hdd, ?_⟩
            exact vcDs.ok hE hF hsel rest _ _ hsr hk ρ' F' _ w' (hI'.upd (st := { st with fr := fr' }) hv hd)
          · rw [if_neg (by rw [hw]; simp)]
            exact ⟨DD st ρ, Prot.refl _ _, fun _ _ h => h, vcDs.ok hE hF hsel rest _ _ hsr hskip ρ F _ w (hI1.upd (v := .v undef) trivial hd)⟩

/-- The region read, whatever the words are. -/
def VcDraw (B : Base) (P : Program) (E : TEnv) (ops : List Oper) (l : List (Nat × Bool)) (st : St) (Q : St → Prop) : Prop :=
  ∀ add sub mul quo rem band bor bxor bclr shl shr ieq ilt ile seq slt beq bnot orb bcond iwrap iof ssz,
    ArEq add sub mul quo rem band bor bxor bclr shl shr ieq ilt ile seq slt beq bnot orb bcond iwrap iof ssz →
    ∀ rd, (∀ o st k, PEv B P o st k → rd o st k) → ∀ act, (∀ o st k, EEv B P o st k → act o st k) → ∀ q : St → Prop, (∀ st, Q st → q st) →
    vcDs ⟨⟨add, sub, mul, quo, rem, band, bor, bxor, bclr, shl, shr, ieq, ilt, ile, seq, slt, beq, bnot, orb, bcond, iwrap, iof, ssz⟩, rd, act⟩ E ops q l st

theorem CodeEv.draw {B : Base} {P : Program} {E : TEnv} (hE : TOk P E) (hF : FOk P E) {id : Nat} {ops : Array Oper} {st : St} {Q : Exit → St → Prop} (hm : P.follows .mixedOrders = true) (l : List (Nat × Bool))
    (hl : l.length = ops.size) (hsel : Region.noSelect ops = true) (hs : schedOk ops (Array.replicate ops.size false) l = true) (h : VcDraw B P E ops.toList l st (Q .normal)) : CodeEv B P (.region id ops true) st Q := by
  intro ρ F a w hI
  refine wp_region_any hm ?_
  have hI2 : Inv B st ρ F a { w with drawn := w.drawn + 1 } := by
    refine ⟨hI.n, hI.slot, hI.defers, fun i r hr => ?_, hI.okc, hI.apart, hI.low, hI.hp.trans (Hp.Le.keep0 ⟨rfl, rfl, rfl, Nat.le_refl _, fun _ _ _ => rfl⟩), hI.keep.trans ⟨rfl, rfl, rfl, Nat.le_refl _, fun _ _ _ => rfl⟩, hI.fresh, hI.pin, hI.bd⟩
    exact (hI.held i r hr).congr rfl (fun _ => Iff.rfl) (fun _ _ _ _ _ => rfl) fun _ _ => rfl
  refine DA.any (Q := fun a w => ∃ st ρ F, Inv B st ρ F a w ∧ Q .normal st) (fun a w h => h) _ (DD st ρ) _ _ _ ?_
  have hfin := vcDs.ok hE hF hsel l _ st hs (h _ _ _ _ _ _ _ _ _ _ _ _ _ _ _ _ _ _ _ _ _ _ _ ArEq.std _ (fun _ _ _ h => h) _ (fun _ _ _ h => h) _ (fun _ h => h)) ρ F a _ hI2
  rw [hl] at hfin
  exact hfin
end Go.Sx
