/- A calculus for walks, part 5: rules for slices that stay as they are, rows that grow, loops, and turns of what is known. No conditions. -/
import Derived.Test.YtdbagbklhchbkaaSx4
set_option linter.unusedSimpArgs false
set_option linter.unusedVariables false
namespace Go.Sx
open Go

theorem Inv.foot_lt {B : Base} {st : St} {ρ : Nat → Nat} {F : Nat → NP} {a : Act} {w : World} (hI : Inv B st ρ F a w) : ∀ i k, F i k → k < w.heap.size := by
  intro i k hk
  by_cases hi : i < st.own.length
  · exact (hI.held i _ (List.getElem?_eq_getElem hi)).lt k hk
  · exact (hI.low i (by omega) k hk).elim

/-- What is settled in a world whose mutable blocks are the call's own. -/
abbrev nowM (B : Base) (F : Nat → NP) : NP := fun k => B.M0 k ∨ ∃ i, F i k

/-- The world goes on; the call's own blocks are as they were. -/
theorem Inv.world {B : Base} {st : St} {ρ : Nat → Nat} {F : Nat → NP} {a : Act} {w w' : World} (hI : Inv B st ρ F a w) (hk : Keep0 w w') : Inv B { st with H := ⟨nowM B F, w'⟩ } ρ F a w' := by
  have hle : st.H.Le ⟨nowM B F, w'⟩ := hI.hp.trans (Hp.Le.keep0 hk)
  refine ⟨hI.n, fun t v ht => ?_, hI.defers, fun i r hr => ?_, fun i T c hr v hv => (hI.okc i T c hr v hv).mono hle (Nat.le_refl _), hI.apart, hI.low, Hp.Le.refl _, hI.keep.step hk (fun _ _ c => c.elim), hI.fresh, hI.pin, hI.bd⟩
  · have := hI.slot t v ht
    exact ⟨this.1, this.2.mono hle (Nat.le_refl _)⟩
  · exact (hI.held i r hr).congr rfl (fun _ => Iff.rfl) (fun _ _ _ _ _ => rfl) fun k hkk => hk.block k (hI.foot_lt i k hkk) (fun c => c)

theorem Inv.nowBd {B : Base} {st : St} {ρ : Nat → Nat} {F : Nat → NP} {a : Act} {w : World} (hI : Inv B st ρ F a w) : ∀ k, nowM B F k → k < w.heap.size := by
  rintro k (hk | ⟨i, hk⟩)
  · exact Nat.lt_of_lt_of_le (hI.bd k hk) hI.keep.size
  · exact hI.foot_lt i k hk
theorem Inv.now {B : Base} {st : St} {ρ : Nat → Nat} {F : Nat → NP} {a : Act} {w : World} (hI : Inv B st ρ F a w) : Inv B { st with H := ⟨nowM B F, w⟩ } ρ F a w := hI.world (Keeps.refl _ _)

/-! ### Slices that stay as they are -/
/-- The elements xs (each of size cells) lie at a, for good. -/
def Sl (H : Hp) (size : Nat) (a : Option Addr) (xs : List Value) : Prop :=
  xs = [] ∨ ∃ b off, a = some ⟨b, off, none⟩ ∧ ∀ i x, xs[i]? = some x → Imm H b (off + i * size) x.cells.toList
theorem Sl.mono {H H' : Hp} {size : Nat} {a : Option Addr} {xs : List Value} (h : Sl H size a xs) (hl : H.Le H') : Sl H' size a xs := by
  rcases h with h | ⟨b, off, ha, hx⟩
  · exact .inl h
  · exact .inr ⟨b, off, ha, fun i x hi => (hx i x hi).mono hl⟩
theorem Sl.nil (H : Hp) (size : Nat) (a : Option Addr) : Sl H size a [] := .inl rfl

theorem OpEv.index {B : Base} {P : Program} {E : TEnv} (hE : TOk P E) {pr : Pr} {o : Oper} {st : St} {k : V → List Res → Hp → Prop} {t e : TypeId} {x ix : Operand} {ti te : TI} {a : Option Addr} {n c : Nat} {kk : IntKind} {i : Int}
    (ho : o.op = .indexAddr t x ix) (hx : ev st.fr x = some (.v (.slice a n c))) (hix : ev st.fr ix = some (.v (.int kk i))) (ht : E.get t = some ti) (hk : ti.kd = .slice e) (he : E.get e = some te)
    {xs : List Value} (S : Sl st.H te.size a xs) (hn : xs.length = n) {y : Value} (hi : 0 ≤ i) (hy : xs[i.toNat]? = some y) (hpr : pr st.own st.own)
    (h : ∀ b off, k (.imm b off y.cells.toList 0) st.own st.H) : OpEv B P pr o st k := by
  intro ρ F ac w hI
  obtain ⟨inf, d, his⟩ := hE.get ht
  obtain ⟨inf', d', his'⟩ := hE.get he
  have hd : d = .slice e := by
    have := his.kd; rw [hk] at this
    cases d <;> simp [kdOf] at this
    subst this; rfl
  subst hd
  rcases S with rfl | ⟨b, off, rfl, hS⟩
  · simp at hy
  have himm := hS _ _ hy
  have hlt : i.toNat < xs.length := by
    rcases Nat.lt_or_ge i.toNat xs.length with h' | h'
    · exact h'
    · rw [List.getElem?_eq_none h'] at hy; cases hy
  have hcond : 0 ≤ i ∧ i < (n : Int) := ⟨hi, by omega⟩
  unfold resOf
  have hrun : (execOp ac.eval o).run P w = .ok (.value (.pointer (some ⟨b, off + i.toNat * te.size, none⟩))) w := by
    simp only [execOp, ho]
    refine run_v ?_
    have e1 : ac.eval x = .slice (some ⟨b, off, none⟩) n c := (hI.ev hx).1
    have e2 : ac.eval ix = .int kk i := (hI.ev hix).1
    rw [e1, e2]
    simp only [Instr.indexAt, run_underlying his.und, asIntOf, Sem.run_bind, Sem.run_pure, Result.andThen_ok, hcond, and_self, if_true, Is.run_sizeOf his', addr_add]
  rw [hrun]
  exact ⟨.imm b (off + i.toNat * te.size) y.cells.toList 0, st.own, st.H, ρ, F, by simp [V.den], himm, hI, hpr, h _ _⟩

/-- A literal slice. -/
def litCells (size len : Nat) (zero : List Value) (parts : List (Nat × Value)) : Option (List Value) :=
  fillC ((List.range len).map fun i => (i * size, 0, size, false)) ((List.range len).flatMap fun _ => zero) parts

theorem Imm.new {M : NP} {w : World} {cells : Array Value} {T : TypeId} {off : Nat} {cs : List Value} (hM : ∀ k, M k → k < w.heap.size) (hc : ∀ j x, cs[j]? = some x → cells[off + j]? = some x) :
    Imm ⟨M, w.alloc (.cells cells T)⟩ w.heap.size off cs :=
  ⟨fun c => Nat.lt_irrefl _ (hM _ c), by simp, cells, T, (0, 0), heap_alloc_new w _, hc⟩

theorem Keep0.alloc (w : World) (o : Obj) : Keep0 w (w.alloc o) := ⟨rfl, rfl, rfl, by simp, fun k hk _ => heap_alloc_old w o hk⟩

/-- A resource's index. -/
theorem lt_of_some {α : Type} {l : List α} {i : Nat} {x : α} (h : l[i]? = some x) : i < l.length := by
  rcases Nat.lt_or_ge i l.length with h' | h'
  · exact h'
  · rw [List.getElem?_eq_none h'] at h; cases h

/-- An operation on plain operands that looks at no memory. -/
theorem OpEv.bin {B : Base} {P : Program} {pr : Pr} {o : Oper} {st : St} {k : V → List Res → Hp → Prop} {op : BinOp} {t ty : TypeId} {x y : Operand} {u v r : Value}
    (ho : o.op = .binOp op t x y ty) (hx : ev st.fr x = some (.v u)) (hy : ev st.fr y = some (.v v)) (hr : ∀ w, (do eqGuard op t x y u v; binOp op t u v : Sem Value).run P w = .ok r w) (hpr : pr st.own st.own)
    (h : k (.v r) st.own st.H) : OpEv B P pr o st k := by
  intro ρ F ac w hI
  unfold resOf
  have e1 : ac.eval x = u := (hI.ev hx).1
  have e2 : ac.eval y = v := (hI.ev hy).1
  have hrun : (execOp ac.eval o).run P w = .ok (.value r) w := by
    simp only [execOp, ho, e1, e2]
    exact run_v (hr w)
  rw [hrun]
  exact ⟨.v r, st.own, st.H, ρ, F, rfl, trivial, hI, hpr, h⟩

theorem OpEv.builtin {B : Base} {P : Program} {pr : Pr} {o : Oper} {st : St} {k : V → List Res → Hp → Prop} {b : Builtin} {args : Array Operand} {ts : Array TypeId} {xs : List Value} {r : Value}
    (ho : o.op = .call { callee := .builtin b, args := args, argTypes := ts }) (hx : evs st.fr args.toList = some xs) (hr : ∀ ty cs w, (Go.builtin b ts ty cs xs.toArray).run P w = .ok (.value r) w) (hpr : pr st.own st.own)
    (h : k (.v r) st.own st.H) : OpEv B P pr o st k := by
  intro ρ F ac w hI
  unfold resOf
  have hargs : args.map ac.eval = xs.toArray := by
    apply Array.ext'
    rw [Array.toList_map]
    exact evs_ok hI hx
  have hrun : (execOp ac.eval o).run P w = .ok (.value r) w := by
    simp only [execOp, ho, resolve, hargs, Sem.run_bind, Sem.run_pure, Result.andThen_ok, invoke, hr]
  rw [hrun]
  exact ⟨.v r, st.own, st.H, ρ, F, rfl, trivial, hI, hpr, h⟩

/-- A turn of what is known, the world staying. -/
def Conv (B : Base) (st : St) (C : List Res → Hp → Prop) : Prop :=
  ∀ ρ F a w, Inv B st ρ F a w → ∃ own' H' ρ' F', Inv B { st with own := own', H := H' } ρ' F' a w ∧ C own' H'
theorem OpEv.conv {B : Base} {P : Program} {o : Oper} {st : St} {k : V → List Res → Hp → Prop} {C : List Res → Hp → Prop} (hc : Conv B st C) (h : ∀ own' H', C own' H' → OpEv B P anyPr o { st with own := own', H := H' } k) : OpEv B P anyPr o st k := by
  intro ρ F a w hI
  obtain ⟨own', H', ρ', F', hI', hC⟩ := hc ρ F a w hI
  exact (h own' H' hC ρ' F' a w hI').mono fun x w' ⟨v, o', h', r', f', h1, h2, h3, _, h5⟩ => ⟨v, o', h', r', f', h1, h2, h3, trivial, h5⟩
theorem CodeEv.conv {B : Base} {P : Program} {c : Code} {st : St} {Q : Exit → St → Prop} {C : List Res → Hp → Prop} (hc : Conv B st C) (h : ∀ own' H', C own' H' → CodeEv B P c { st with own := own', H := H' } Q) : CodeEv B P c st Q := by
  intro ρ F a w hI
  obtain ⟨own', H', ρ', F', hI', hC⟩ := hc ρ F a w hI
  exact h own' H' hC ρ' F' a w hI'
theorem RetEv.conv {B : Base} {P : Program} {fn : Func} {st : St} {R : Ending → World → Prop} {C : List Res → Hp → Prop} (hc : Conv B st C) (h : ∀ own' H', C own' H' → RetEv B P fn { st with own := own', H := H' } R) : RetEv B P fn st R := by
  intro ρ F a w hI
  obtain ⟨own', H', ρ', F', hI', hC⟩ := hc ρ F a w hI
  exact h own' H' hC ρ' F' a w hI'

/-! ### Rows that grow -/
/-- The slice value v of n elements is nil, or owns a row whose first cells are xs. -/
def Row (T : TypeId) (size : Nat) (v : Value) (n : Nat) (xs : List Value) (F : NP) (w : World) : Prop :=
  w.ownsRow 0 T size v n xs ∧ ∀ k, F k ↔ v.ownBlock = some k
theorem Row.loc (T : TypeId) (size : Nat) (v : Value) (n : Nat) (xs : List Value) : Loc (Row T size v n xs) := by
  constructor
  · rintro F w w' ⟨h1, h2⟩ hw
    refine ⟨⟨h1.1, ?_⟩, h2⟩
    rcases h1.2 with hn | ⟨g, cap, cur, rfl, hb, hg, rest⟩
    · exact .inl hn
    · exact .inr ⟨g, cap, cur, rfl, hb, (hw g ((h2 g).2 rfl)).trans hg, rest⟩
  · rintro F w ⟨h1, h2⟩ k hk
    exact (h1.lt k ((h2 k).1 hk)).2

/-- A resource more, that lies nowhere. -/
theorem Inv.more {B : Base} {st : St} {ρ : Nat → Nat} {F : Nat → NP} {a : Act} {w : World} (hI : Inv B st ρ F a w) {φ : NP → World → Prop} (hl : Loc φ) (h : ∀ G w, (∀ k, ¬ G k) → φ G w) :
    Inv B { st with own := st.own ++ [.abs φ] } ρ F a w := by
  refine ⟨hI.n, fun t v ht => ?_, hI.defers, fun i r hr => ?_, fun i T c hr v hv => ?_, hI.apart, fun i hi k => hI.low i (by simp at hi; omega) k, hI.hp, hI.keep, hI.fresh, fun i b hb => ⟨by have := (hI.pin i b hb).1; simp; omega, (hI.pin i b hb).2⟩, hI.bd⟩
  · have := hI.slot t v ht
    exact ⟨this.1, this.2.mono (Hp.Le.refl _) (by simp)⟩
  · by_cases hi : i < st.own.length
    · rw [List.getElem?_append_left hi] at hr
      exact hI.held i r hr
    · have hil := lt_of_some hr
      have hie : i = st.own.length := by simp at hil; omega
      subst hie
      simp at hr
      subst hr
      exact ⟨hl, h _ _ (hI.low _ (Nat.le_refl _))⟩
  · by_cases hi : i < st.own.length
    · rw [List.getElem?_append_left hi] at hr
      exact (hI.okc i T c hr v hv).mono (Hp.Le.refl _) (by simp)
    · have hil := lt_of_some hr
      have hie : i = st.own.length := by simp at hil; omega
      subst hie
      simp at hr

theorem Conv.nilRow (B : Base) (st : St) (T : TypeId) (size : Nat) : Conv B st fun own' H' => own' = st.own ++ [.abs (Row T size (.slice none 0 0) 0 [])] ∧ H' = st.H := by
  intro ρ F a w hI
  refine ⟨_, _, ρ, F, hI.more (Row.loc T size (.slice none 0 0) 0 []) ?_, rfl, rfl⟩
  intro G w hG
  exact ⟨World.ownsRow_nil w 0 T size, fun k => by simp [Value.ownBlock, hG k]⟩

/-- One resource turns, and the world with it. -/
theorem Inv.turn {B : Base} {st : St} {ρ : Nat → Nat} {F : Nat → NP} {a : Act} {w w' : World} (hI : Inv B st ρ F a w) {j : Nat} {φ φ' : NP → World → Prop} (hj : st.own[j]? = some (.abs φ)) (hl : Loc φ')
    {G : NP} (hk : Keeps (F j) w w') (hG : ∀ k, G k → F j k ∨ w.heap.size ≤ k) (hφ : φ' G w') :
    Inv B { st with own := st.own.set j (.abs φ'), H := ⟨nowM B (fun i => if i = j then G else F i), w'⟩ } ρ (fun i => if i = j then G else F i) a w' ∧ st.H.Le ⟨nowM B (fun i => if i = j then G else F i), w'⟩ := by
  have hjl := lt_of_some hj
  have hlt := hI.foot_lt
  have hle : st.H.Le ⟨nowM B (fun i => if i = j then G else F i), w'⟩ := by
    refine ⟨hk.os.trans hI.hp.os, hk.tape.trans hI.hp.tape, hk.output.trans hI.hp.output, Nat.le_trans hI.hp.size hk.size, fun k hkk hm => ?_⟩
    have h1 := hI.hp.block k hkk hm
    have h2 : k < w.heap.size := Nat.lt_of_lt_of_le hkk hI.hp.size
    refine ⟨(hk.block k h2 fun c => h1.2 (.inr ⟨j, c⟩)).trans h1.1, ?_⟩
    rintro (c | ⟨i, c⟩)
    · exact h1.2 (.inl c)
    · by_cases hij : i = j
      · rw [if_pos hij] at c
        rcases hG k c with c | c
        · exact h1.2 (.inr ⟨j, c⟩)
        · omega
      · rw [if_neg hij] at c
        exact h1.2 (.inr ⟨i, c⟩)
  refine ⟨?_, hle⟩
  refine ⟨hI.n, fun t v ht => ?_, hI.defers, fun i r hr => ?_, fun i T c hr v hv => ?_, ?_, ?_, Hp.Le.refl _, ?_, ?_, by simpa using hI.pin, hI.bd⟩
  · have := hI.slot t v ht
    exact ⟨this.1, this.2.mono hle (by simp)⟩
  · by_cases hij : i = j
    · subst hij
      simp [hjl] at hr
      subst hr
      simp only [Holds, if_true]
      exact ⟨hl, hφ⟩
    · have hr' : st.own[i]? = some r := by simpa [List.getElem?_set, Ne.symm hij] using hr
      refine (hI.held i r hr').congr rfl (fun k => by simp [hij]) (fun _ _ _ _ _ => rfl) fun k hkk => ?_
      exact hk.block k (hlt i k hkk) fun c => hI.apart i j hij k hkk c
  · by_cases hij : i = j
    · subst hij; simp [hjl] at hr
    · have hr' : st.own[i]? = some (Res.st T c) := by simpa [List.getElem?_set, Ne.symm hij] using hr
      exact (hI.okc i T c hr' v hv).mono hle (by simp)
  · intro i i' hii k hk1 hk2
    by_cases h1 : i = j
    · rw [if_pos h1] at hk1
      rw [if_neg (by rintro rfl; exact hii h1)] at hk2
      rcases hG k hk1 with c | c
      · exact hI.apart i i' hii k (h1 ▸ c) hk2
      · have := hlt i' k hk2; omega
    · rw [if_neg h1] at hk1
      by_cases h2 : i' = j
      · rw [if_pos h2] at hk2
        rcases hG k hk2 with c | c
        · exact hI.apart i i' hii k hk1 (h2 ▸ c)
        · have := hlt i k hk1; omega
      · rw [if_neg h2] at hk2
        exact hI.apart i i' hii k hk1 hk2
  · intro i hi k
    have hi' : st.own.length ≤ i := by simpa using hi
    rw [if_neg (by omega)]
    exact hI.low i hi' k
  · exact hI.keep.step hk fun i hi c => by
      rcases hI.fresh j i c with h | h
      · exact h
      · omega
  · intro i k hkk
    by_cases h1 : i = j
    · rw [if_pos h1] at hkk
      rcases hG k hkk with c | c
      · exact hI.fresh j k c
      · right; have := hI.keep.size; omega
    · rw [if_neg h1] at hkk
      exact hI.fresh i k hkk
end Go.Sx
