/- A calculus for walks, part 1: worlds that keep what is settled, symbolic frames, a call's own memory, and the operations that need no word of the prover. No program in sight; conditions: none. -/
import Derived.WalkKit
set_option linter.unusedSimpArgs false
set_option linter.unusedVariables false
namespace Go.Sx
open Go

abbrev NP := Nat → Prop

/-- All blocks that were there are as they were, but for those of S. -/
structure Keeps (S : NP) (w w' : World) : Prop where
  os : w'.os = w.os
  tape : w'.tape = w.tape
  output : w'.output = w.output
  size : w.heap.size ≤ w'.heap.size
  block : ∀ k, k < w.heap.size → ¬ S k → w'.heap[k]? = w.heap[k]?

theorem Keeps.refl (S : NP) (w : World) : Keeps S w w := ⟨rfl, rfl, rfl, Nat.le_refl _, fun _ _ _ => rfl⟩
theorem Keeps.trans {S : NP} {a b c : World} (h : Keeps S a b) (k : Keeps S b c) : Keeps S a c :=
  ⟨k.os.trans h.os, k.tape.trans h.tape, k.output.trans h.output, Nat.le_trans h.size k.size, fun i hi hs => (k.block i (Nat.lt_of_lt_of_le hi h.size) hs).trans (h.block i hi hs)⟩
theorem Keeps.mono {S S' : NP} {w w' : World} (h : Keeps S w w') (hs : ∀ k, k < w.heap.size → S k → S' k) : Keeps S' w w' :=
  ⟨h.os, h.tape, h.output, h.size, fun k hk hn => h.block k hk fun c => hn (hs k hk c)⟩
theorem Keeps.step {S S' : NP} {a b c : World} (h : Keeps S a b) (k : Keeps S' b c) (hs : ∀ i, i < a.heap.size → S' i → S i) : Keeps S a c :=
  ⟨k.os.trans h.os, k.tape.trans h.tape, k.output.trans h.output, Nat.le_trans h.size k.size, fun i hi hn => (k.block i (Nat.lt_of_lt_of_le hi h.size) fun c => hn (hs i hi c)).trans (h.block i hi hn)⟩
abbrev none' : NP := fun _ => False
abbrev Keep0 (w w' : World) : Prop := Keeps none' w w'

/-- A world, and which of its blocks may still turn. -/
structure Hp where
  M : NP
  w : World

/-- What is settled in H is so in H'. -/
structure Hp.Le (H H' : Hp) : Prop where
  os : H'.w.os = H.w.os
  tape : H'.w.tape = H.w.tape
  output : H'.w.output = H.w.output
  size : H.w.heap.size ≤ H'.w.heap.size
  block : ∀ k, k < H.w.heap.size → ¬ H.M k → H'.w.heap[k]? = H.w.heap[k]? ∧ ¬ H'.M k

theorem Hp.Le.refl (H : Hp) : H.Le H := ⟨rfl, rfl, rfl, Nat.le_refl _, fun _ _ h => ⟨rfl, h⟩⟩
theorem Hp.Le.trans {A B C : Hp} (h : A.Le B) (k : B.Le C) : A.Le C :=
  ⟨k.os.trans h.os, k.tape.trans h.tape, k.output.trans h.output, Nat.le_trans h.size k.size, fun i hi hm =>
    have h1 := h.block i hi hm
    have h2 := k.block i (Nat.lt_of_lt_of_le hi h.size) h1.2
    ⟨h2.1.trans h1.1, h2.2⟩⟩
theorem Hp.Le.keeps {M : NP} {w w' : World} (h : Keeps M w w') : Hp.Le ⟨M, w⟩ ⟨M, w'⟩ :=
  ⟨h.os, h.tape, h.output, h.size, fun k hk hm => ⟨h.block k hk hm, hm⟩⟩
theorem Hp.Le.keep0 {M : NP} {w w' : World} (h : Keep0 w w') : Hp.Le ⟨M, w⟩ ⟨M, w'⟩ := Hp.Le.keeps (h.mono fun _ _ c => c.elim)

/-- The blocks that may turn are there. -/
def Hp.Bd (H : Hp) : Prop := ∀ k, H.M k → k < H.w.heap.size
/-- The same blocks may turn; nothing has. -/
structure Hp.Nx (H H' : Hp) : Prop where
  M : H'.M = H.M
  keep : Keep0 H.w H'.w
theorem Hp.Nx.refl (H : Hp) : H.Nx H := ⟨rfl, Keeps.refl _ _⟩
theorem Hp.Nx.trans {A B C : Hp} (h : A.Nx B) (k : B.Nx C) : A.Nx C := ⟨k.M.trans h.M, h.keep.trans k.keep⟩
theorem Hp.Nx.le {H H' : Hp} (h : H.Nx H') : H.Le H' := by
  obtain ⟨M, w⟩ := H; obtain ⟨M', w'⟩ := H'; obtain ⟨rfl, hk⟩ := h; exact Hp.Le.keep0 hk
theorem Hp.Nx.bd {H H' : Hp} (h : H.Nx H') (hb : H.Bd) : H'.Bd := fun k hk => Nat.lt_of_lt_of_le (hb k (h.M ▸ hk)) h.keep.size

/-! ### Types -/
inductive Kd where
  | int (k : IntKind) | bool | str | slice (e : TypeId) | ptr | other
structure TI where
  kd : Kd
  agg : Bool
  size : Nat
  bytes : Nat
  zero : Option (List Value)
  flds : List (Nat × Nat × Nat × Bool)
def isAggD : TypeDesc → Bool
  | .struct _ | .array _ _ => true
  | _ => false
def kdOf : TypeDesc → Kd
  | .int k => .int k
  | .bool => .bool
  | .string => .str
  | .slice e => .slice e
  | .pointer _ => .ptr
  | _ => .other
def fldsOf (P : Program) : TypeDesc → List (Nat × Nat × Nat × Bool)
  | .struct fs => fs.toList.map fun f => (f.offset, f.type, ((P.info? f.type).map (·.size)).getD 0, ((P.underlying f.type).map isAggD).getD false)
  | _ => []
def mkTI (P : Program) (t : TypeId) : Option TI :=
  match P.info? t, P.underlying t with
  | some i, some d => some ⟨kdOf d, isAggD d, i.size, i.bytes, i.zero.map (·.cells.toList), fldsOf P d⟩
  | _, _ => none
abbrev TEnv := List (Nat × TI)
def TEnv.get : TEnv → Nat → Option TI
  | [], _ => none
  | (k, i) :: r, t => match Nat.beq k t with
    | true => some i
    | false => TEnv.get r t
def TOk (P : Program) (E : TEnv) : Prop := ∀ t i, E.get t = some i → mkTI P t = some i
theorem TOk.of {P : Program} : ∀ {E : TEnv}, E.map (fun p => mkTI P p.1) = E.map (fun p => some p.2) → TOk P E
  | [], _, _, _, h => by simp [TEnv.get] at h
  | (k, j) :: r, he, t, i, h => by
    simp only [List.map_cons, List.cons.injEq] at he
    simp only [TEnv.get] at h
    split at h
    · rename_i hk
      have : k = t := Nat.eq_of_beq_eq_true hk
      subst this
      cases h
      exact he.1
    · exact TOk.of he.2 t i h

structure TI.Is (P : Program) (t : TypeId) (i : TI) (inf : TypeInfo) (d : TypeDesc) : Prop where
  info : P.info? t = some inf
  und : P.underlying t = some d
  kd : i.kd = kdOf d
  agg : i.agg = isAggD d
  size : i.size = inf.size
  bytes : i.bytes = inf.bytes
  zero : i.zero = inf.zero.map (·.cells.toList)
  flds : i.flds = fldsOf P d
theorem TOk.get {P : Program} {E : TEnv} (hE : TOk P E) {t : TypeId} {i : TI} (h : E.get t = some i) : ∃ inf d, TI.Is P t i inf d := by
  have := hE t i h
  unfold mkTI at this
  split at this
  · rename_i inf d h1 h2
    cases this
    exact ⟨inf, d, h1, h2, rfl, rfl, rfl, rfl, rfl, rfl⟩
  · cases this

/-! ### Symbolic values, own memory, states -/
inductive V where
  | v (x : Value)
  | own (i off : Nat)
  | imm (b off : Nat) (cs : List Value) (o : Nat)

inductive Res where
  | st (T : TypeId) (cells : List V)
  | abs (φ : NP → World → Prop)
  | dead

structure St where
  n : Nat
  fr : List (Nat × V)
  own : List Res
  H : Hp

def look : List (Nat × V) → Nat → Option V
  | [], _ => none
  | (k, v) :: r, t => match Nat.beq k t with
    | true => some v
    | false => look r t

def ev (fr : List (Nat × V)) : Operand → Option V
  | .tmp t => look fr t
  | .const v => some (.v v)
  | .global g => some (.v (.pointer (some ⟨g, 0, none⟩)))
  | .func f => some (.v (.func (.func f) #[] #[]))

def V.den (ρ : Nat → Nat) : V → Value
  | .v x => x
  | .own i off => .pointer (some ⟨ρ i, off, none⟩)
  | .imm b off _ o => .pointer (some ⟨b, off + o, none⟩)

def Imm (H : Hp) (b off : Nat) (cs : List Value) : Prop :=
  ¬ H.M b ∧ b < H.w.heap.size ∧ ∃ c T fz, H.w.heap[b]? = some (.cells c T fz) ∧ ∀ j x, cs[j]? = some x → c[off + j]? = some x
theorem Imm.mono {H H' : Hp} {b off : Nat} {cs : List Value} (h : Imm H b off cs) (hl : H.Le H') : Imm H' b off cs := by
  obtain ⟨hm, hb, c, T, fz, hc, hj⟩ := h
  have := hl.block b hb hm
  exact ⟨this.2, Nat.lt_of_lt_of_le hb hl.size, c, T, fz, this.1.trans hc, hj⟩

def VOk (H : Hp) (n : Nat) : V → Prop
  | .v _ => True
  | .own i _ => i < n
  | .imm b off cs _ => Imm H b off cs
theorem VOk.mono {H H' : Hp} {n n' : Nat} {v : V} (h : VOk H n v) (hl : H.Le H') (hn : n ≤ n') : VOk H' n' v := by
  cases v with
  | v x => trivial
  | own i o => exact Nat.lt_of_lt_of_le h hn
  | imm b off cs o => exact Imm.mono h hl

/-- A resource's word: it hangs on the blocks F alone, and these are there. -/
structure Loc (φ : NP → World → Prop) : Prop where
  loc : ∀ F w w', φ F w → (∀ k, F k → w'.heap[k]? = w.heap[k]?) → φ F w'
  lt : ∀ F w, φ F w → ∀ k, F k → k < w.heap.size

def Holds (ρ : Nat → Nat) (F : Nat → NP) (i : Nat) (r : Res) (w : World) : Prop :=
  match r with
  | .st T cells => (∀ k, F i k ↔ k = ρ i) ∧ w.heap[ρ i]? = some (.cells (cells.map (V.den ρ)).toArray T (0, 0))
  | .abs φ => Loc φ ∧ φ (F i) w
  | .dead => ∀ k, ¬ F i k

structure Base where
  M0 : NP
  S0 : NP
  w0 : World
  pin : List Nat

structure Inv (B : Base) (st : St) (ρ : Nat → Nat) (F : Nat → NP) (a : Act) (w : World) : Prop where
  n : a.tmps.size = st.n
  slot : ∀ t v, look st.fr t = some v → a.tmps.getD t undef = v.den ρ ∧ VOk st.H st.own.length v
  defers : a.defers = []
  held : ∀ (i : Nat) (r : Res), st.own[i]? = some r → Holds ρ F i r w
  okc : ∀ (i : Nat) (T : TypeId) (cells : List V), st.own[i]? = some (Res.st T cells) → ∀ v ∈ cells, VOk st.H st.own.length v
  apart : ∀ i j, i ≠ j → ∀ k, F i k → ¬ F j k
  low : ∀ i, st.own.length ≤ i → ∀ k, ¬ F i k
  hp : st.H.Le ⟨fun k => B.M0 k ∨ ∃ i, F i k, w⟩
  keep : Keeps B.S0 B.w0 w
  fresh : ∀ i k, F i k → B.S0 k ∨ B.w0.heap.size ≤ k
  pin : ∀ (i b : Nat), B.pin[i]? = some b → i < st.own.length ∧ ρ i = b
  bd : ∀ k, B.M0 k → k < B.w0.heap.size

theorem Holds.lt {ρ : Nat → Nat} {F : Nat → NP} {i : Nat} {r : Res} {w : World} (h : Holds ρ F i r w) : ∀ k, F i k → k < w.heap.size := by
  intro k hk
  cases r with
  | st T cells =>
    obtain ⟨h1, h2⟩ := h
    have := (h1 k).1 hk
    subst this
    rcases Nat.lt_or_ge (ρ i) w.heap.size with h | h
    · exact h
    · rw [Array.getElem?_eq_none h] at h2; cases h2
  | abs φ => exact h.1.lt _ _ h.2 k hk
  | dead => exact (h k hk).elim

theorem den_congr {ρ ρ' : Nat → Nat} {H : Hp} {n : Nat} {v : V} (h : VOk H n v) (hr : ∀ i, i < n → ρ' i = ρ i) : v.den ρ' = v.den ρ := by
  cases v with
  | v x => rfl
  | own i o => simp only [V.den]; rw [hr i h]
  | imm b off cs o => rfl

theorem Holds.congr {ρ ρ' : Nat → Nat} {F F' : Nat → NP} {i : Nat} {r : Res} {w w' : World} (h : Holds ρ F i r w) (hr : ρ' i = ρ i) (hF : ∀ k, F' i k ↔ F i k)
    (hd : ∀ T cells, r = Res.st T cells → ∀ v ∈ cells, v.den ρ' = v.den ρ) (hw : ∀ k, F i k → w'.heap[k]? = w.heap[k]?) : Holds ρ' F' i r w' := by
  have hFe : F' i = F i := funext fun k => propext (hF k)
  cases r with
  | st T cells =>
    obtain ⟨h1, h2⟩ := h
    refine ⟨fun k => by rw [hFe, hr]; exact h1 k, ?_⟩
    rw [hr, hw _ ((h1 _).2 rfl), h2]
    congr 3
    exact (List.map_congr_left fun v hv => hd T cells rfl v hv).symm
  | abs φ => rw [Holds, hFe]; exact ⟨h.1, h.1.loc _ _ _ h.2 hw⟩
  | dead => intro k hk; exact h k ((hF k).1 hk)

/-- The frame takes a value. -/
theorem look_cons (d : Nat) (v : V) (fr : List (Nat × V)) (t : Nat) : look ((d, v) :: fr) t = if t = d then some v else look fr t := by
  simp only [look]
  split
  · rename_i h; have := Nat.eq_of_beq_eq_true h; subst this; simp
  · rename_i h
    rw [if_neg]; rintro rfl; simp at h

theorem Inv.put {B : Base} {st : St} {ρ : Nat → Nat} {F : Nat → NP} {a : Act} {w : World} (h : Inv B st ρ F a w) {d : Nat} {v : V} (hv : VOk st.H st.own.length v) (hd : d < st.n) :
    Inv B { st with fr := (d, v) :: st.fr } ρ F (a.put (some d) (v.den ρ)) w := by
  refine ⟨by simp [Act.put, h.n], fun t u hu => ?_, h.defers, h.held, h.okc, h.apart, h.low, h.hp, h.keep, h.fresh, h.pin, h.bd⟩
  rw [look_cons] at hu
  have hd' : d < a.tmps.size := by rw [h.n]; exact hd
  split at hu
  · rename_i e; subst e; cases hu
    exact ⟨by simp [Act.put, hd'], hv⟩
  · rename_i e
    refine ⟨?_, (h.slot t u hu).2⟩
    rw [← (h.slot t u hu).1]
    simp [Act.put, Ne.symm e]

/-- Fewer known slots. -/
theorem Inv.weaken {B : Base} {st : St} {ρ : Nat → Nat} {F : Nat → NP} {a : Act} {w : World} (h : Inv B st ρ F a w) (fr : List (Nat × V)) (hf : ∀ t v, look fr t = some v → look st.fr t = some v) :
    Inv B { st with fr := fr } ρ F a w :=
  ⟨h.n, fun t v ht => h.slot t v (hf t v ht), h.defers, h.held, h.okc, h.apart, h.low, h.hp, h.keep, h.fresh, h.pin, h.bd⟩

theorem Inv.ev {B : Base} {st : St} {ρ : Nat → Nat} {F : Nat → NP} {a : Act} {w : World} (h : Inv B st ρ F a w) {x : Operand} {v : V} (hx : ev st.fr x = some v) :
    a.eval x = v.den ρ ∧ VOk st.H st.own.length v := by
  cases x with
  | tmp t => exact h.slot t v hx
  | const c => cases hx; exact ⟨rfl, trivial⟩
  | global g => cases hx; exact ⟨rfl, trivial⟩
  | func f => cases hx; exact ⟨rfl, trivial⟩

/-- A new block of the call's own. -/
theorem Inv.alloc {B : Base} {st : St} {ρ : Nat → Nat} {F : Nat → NP} {a : Act} {w : World} (h : Inv B st ρ F a w) (T : TypeId) (cells : List V) (hc : ∀ v ∈ cells, VOk st.H st.own.length v) :
    ∃ ρ' F', (∀ i, i < st.own.length → ρ' i = ρ i) ∧ ρ' st.own.length = w.heap.size ∧
      Inv B { st with own := st.own ++ [.st T cells] } ρ' F' a (w.alloc (.cells (cells.map (V.den ρ)).toArray T)) := by
  refine ⟨fun i => if i = st.own.length then w.heap.size else ρ i, fun i k => if i = st.own.length then k = w.heap.size else F i k, fun i hi => by simp; omega, by simp, ?_⟩
  have hlt : ∀ i k, F i k → k < w.heap.size := by
    intro i k hk
    by_cases hi : i < st.own.length
    · exact (h.held i _ (List.getElem?_eq_getElem hi)).lt k hk
    · exact (h.low i (by omega) k hk).elim
  have hρ : ∀ i, i < st.own.length → (fun i => if i = st.own.length then w.heap.size else ρ i) i = ρ i := fun i hi => by simp; omega
  refine ⟨h.n, ?_, h.defers, ?_, ?_, ?_, ?_, ?_, ?_, ?_, fun i b hb => ⟨by have := (h.pin i b hb).1; simp; omega, by have := h.pin i b hb; rw [if_neg (by omega)]; exact this.2⟩, h.bd⟩
  · intro t v hv
    have := h.slot t v hv
    exact ⟨by rw [this.1, den_congr this.2 hρ], this.2.mono (Hp.Le.refl _) (by simp)⟩
  · intro i r hr
    by_cases hi : i < st.own.length
    · have hr' : st.own[i]? = some r := by rwa [List.getElem?_append_left hi] at hr
      refine (h.held i r hr').congr (hρ i hi) (fun k => by simp; omega) ?_ ?_
      · rintro T' cells' rfl v hv
        exact den_congr (h.okc i T' cells' hr' v hv) hρ
      · intro k hk
        exact heap_alloc_old w _ (hlt i k hk)
    · have hie : i = st.own.length := by
        rcases Nat.lt_or_ge i (st.own ++ [Res.st T cells]).length with h' | h'
        · simp at h'; omega
        · rw [List.getElem?_eq_none h'] at hr; cases hr
      subst hie
      simp at hr
      subst hr
      refine ⟨fun k => by simp, ?_⟩
      simp only [if_true]
      rw [heap_alloc_new]
      congr 3
      exact List.map_congr_left fun v hv => (den_congr (hc v hv) hρ).symm
  · intro i T' cells' hr v hv
    by_cases hi : i < st.own.length
    · have hr' : st.own[i]? = some (.st T' cells') := by rwa [List.getElem?_append_left hi] at hr
      exact (h.okc i T' cells' hr' v hv).mono (Hp.Le.refl _) (by simp)
    · have hie : i = st.own.length := by
        rcases Nat.lt_or_ge i (st.own ++ [Res.st T cells]).length with h' | h'
        · simp at h'; omega
        · rw [List.getElem?_eq_none h'] at hr; cases hr
      subst hie
      simp at hr
      obtain ⟨rfl, rfl⟩ := hr
      exact (hc v hv).mono (Hp.Le.refl _) (by simp)
  · intro i j hij k hk hk'
    split at hk <;> split at hk'
    · omega
    · have := hlt j k hk'; omega
    · have := hlt i k hk; omega
    · exact h.apart i j hij k hk hk'
  · intro i hi k
    simp at hi ⊢
    rw [if_neg (by omega)]
    exact h.low i (by omega) k
  · refine ⟨h.hp.os, h.hp.tape, h.hp.output, Nat.le_trans h.hp.size (by simp), fun k hk hm => ?_⟩
    have := h.hp.block k hk hm
    have hk2 : k < w.heap.size := Nat.lt_of_lt_of_le hk h.hp.size
    refine ⟨(heap_alloc_old w _ hk2).trans this.1, ?_⟩
    rintro (hb | ⟨i, hi⟩)
    · exact this.2 (.inl hb)
    · split at hi
      · omega
      · exact this.2 (.inr ⟨i, hi⟩)
  · refine h.keep.trans ⟨rfl, rfl, rfl, by simp, fun k hk _ => heap_alloc_old w _ hk⟩
  · intro i k hk
    split at hk
    · right; have := h.keep.size; omega
    · exact h.fresh i k hk

/-- A store into a block of the call's own. -/
theorem Inv.store {B : Base} {st : St} {ρ : Nat → Nat} {F : Nat → NP} {a : Act} {w : World} (h : Inv B st ρ F a w) {i : Nat} {T : TypeId} {cells : List V} (hi : st.own[i]? = some (.st T cells))
    (cells' : List V) (hc : ∀ v ∈ cells', VOk st.H st.own.length v) :
    Inv B { st with own := st.own.set i (.st T cells') } ρ F a (w.setRow (ρ i) (cells'.map (V.den ρ)).toArray) := by
  have hg := (h.held i _ hi).2
  have hFi := (h.held i _ hi).1
  have hil : i < st.own.length := by
    rcases Nat.lt_or_ge i st.own.length with h' | h'
    · exact h'
    · rw [List.getElem?_eq_none h'] at hi; cases hi
  refine ⟨h.n, ?_, h.defers, ?_, ?_, h.apart, by simpa using h.low, ?_, ?_, h.fresh, by simpa using h.pin, h.bd⟩
  · intro t v hv
    have := h.slot t v hv
    exact ⟨this.1, this.2.mono (Hp.Le.refl _) (by simp)⟩
  · intro j r hr
    by_cases hij : i = j
    · subst hij
      simp [hil] at hr
      subst hr
      exact ⟨hFi, setRow_heap w _ _ _ T _ hg⟩
    · have hr' : st.own[j]? = some r := by simpa [List.getElem?_set, hij] using hr
      refine (h.held j r hr').congr rfl (fun _ => Iff.rfl) (fun _ _ _ _ _ => rfl) fun k hk => ?_
      refine setRow_other w _ k _ ?_
      rintro rfl
      exact h.apart j i (Ne.symm hij) _ hk ((hFi _).2 rfl)
  · intro j T' c hr v hv
    by_cases hij : i = j
    · subst hij
      simp [hil] at hr
      obtain ⟨rfl, rfl⟩ := hr
      exact (hc v hv).mono (Hp.Le.refl _) (by simp)
    · have hr' : st.own[j]? = some (.st T' c) := by simpa [List.getElem?_set, hij] using hr
      exact (h.okc j T' c hr' v hv).mono (Hp.Le.refl _) (by simp)
  · refine ⟨by simpa using h.hp.os, by simpa using h.hp.tape, by simpa using h.hp.output, by simpa using h.hp.size, fun k hk hm => ?_⟩
    have := h.hp.block k hk hm
    refine ⟨(setRow_other w _ k _ ?_).trans this.1, this.2⟩
    rintro rfl
    exact this.2 (.inr ⟨i, (hFi _).2 rfl⟩)
  · refine h.keep.step (S' := fun k => k = ρ i) ⟨by simp, by simp, by simp, by simp, fun k hk hn => setRow_other w _ k _ hn⟩ ?_
    intro k hk he
    have := h.fresh i k ((hFi k).2 he)
    rcases this with h' | h'
    · exact h'
    · omega

/-! ### The operations that run without a word -/
def plain : V → Option Value
  | .v x => some x
  | _ => none
def plains : List V → Option (List Value)
  | [] => some []
  | x :: r => match plain x, plains r with
    | some y, some l => some (y :: l)
    | _, _ => none
theorem plains_den {ρ : Nat → Nat} : ∀ {l : List V} {xs : List Value}, plains l = some xs → l.map (V.den ρ) = xs
  | [], xs, h => by simp [plains] at h; subst h; rfl
  | x :: r, xs, h => by
    simp only [plains] at h
    split at h
    · rename_i y l h1 h2
      cases h
      cases x <;> simp [plain] at h1
      subst h1
      simp [V.den, plains_den h2]
    · cases h
def evs (fr : List (Nat × V)) : List Operand → Option (List Value)
  | [] => some []
  | x :: r => match ev fr x with
    | some (.v y) => match evs fr r with
      | some l => some (y :: l)
      | none => none
    | _ => none

def loadC (agg : Bool) (size : Nat) (cells : List V) (off : Nat) : Option V :=
  match agg with
  | true => match Nat.ble (off + size) cells.length with
    | true => match plains ((cells.drop off).take size) with
      | some l => some (.v (.agg l.toArray))
      | none => none
    | false => none
  | false => cells[off]?
def loadI (agg : Bool) (size : Nat) (cells : List Value) (off : Nat) : Option V :=
  match agg with
  | true => match Nat.ble (off + size) cells.length with
    | true => some (.v (.agg ((cells.drop off).take size).toArray))
    | false => none
  | false => match cells[off]? with
    | some x => some (.v x)
    | none => none
def storeC (agg : Bool) (size : Nat) (cells : List V) (off : Nat) (x : V) : Option (List V) :=
  match agg with
  | true => match x with
    | .v (.agg cs) => match Nat.beq cs.toList.length size, Nat.ble (off + size) cells.length, cs.toList.all Value.oneCell' with
      | true, true, true => some (cells.take off ++ (cs.toList.map .v ++ cells.drop (off + size)))
      | _, _, _ => none
    | _ => none
  | false => match Nat.beq size 1, Nat.blt off cells.length with
    | true, true => match x with
      | .v y => match y.oneCell' with
        | true => some (cells.set off x)
        | false => none
      | _ => some (cells.set off x)
    | _, _ => none

def kdInt : Kd → Option IntKind
  | .int k => some k
  | _ => none
def ikEq : IntKind → IntKind → Bool
  | .i8, .i8 | .i16, .i16 | .i32, .i32 | .i64, .i64 | .u8, .u8 | .u16, .u16 | .u32, .u32 | .u64, .u64 => true
  | _, _ => false
theorem ikEq_eq {a b : IntKind} (h : ikEq a b = true) : a = b := by cases a <;> cases b <;> first | rfl | cases h

def litOf : Operand → Option Int
  | .const (.int _ n) => some n
  | _ => none

/-- The arithmetic, under names that no reckoning opens. -/
structure Ar where
  add : IntKind → Int → Int → Int
  sub : IntKind → Int → Int → Int
  mul : IntKind → Int → Int → Int
  quo : IntKind → Int → Int → Int
  rem : Int → Int → Int
  and : IntKind → Int → Int → Int
  or : IntKind → Int → Int → Int
  xor : IntKind → Int → Int → Int
  andNot : IntKind → Int → Int → Int
  shl : IntKind → Int → Nat → Int
  shr : IntKind → Int → Nat → Int
  eq : Int → Int → Bool
  lt : Int → Int → Bool
  le : Int → Int → Bool
  seq : ByteArray → ByteArray → Bool
  slt : ByteArray → ByteArray → Bool
  beq : Bool → Bool → Bool
  not : Bool → Bool
  orb : Bool → Bool → Bool
  cond : Bool → Bool → Bool → Bool
  wrap : IntKind → Int → Int
  ofNat : Nat → Int
  ssize : ByteArray → Nat
def Ar.std : Ar where
  add k a b := k.wrap (a + b)
  sub k a b := k.wrap (a - b)
  mul k a b := k.wrap (a * b)
  quo k a b := k.wrap (a.tdiv b)
  rem a b := a.tmod b
  and k a b := bits .and k a b
  or k a b := bits .or k a b
  xor k a b := bits .xor k a b
  andNot k a b := bits .andNot k a b
  shl k a n := k.wrap (a * 2 ^ (min n k.bits))
  shr k a n := a.fdiv (2 ^ (min n k.bits))
  eq a b := a == b
  lt a b := decide (a < b)
  le a b := decide (a ≤ b)
  seq a b := a.toList == b.toList
  slt a b := Op.bytesLess a.toList b.toList
  beq a b := a == b
  not a := !a
  orb a b := a || b
  cond c a b := _root_.cond c a b
  wrap k a := k.wrap a
  ofNat n := n
  ssize s := s.size

def binI (ar : Ar) (op : BinOp) (k : IntKind) (a b : Int) (y : Operand) : Option Value :=
  match op with
  | .add => some (.int k (ar.add k a b))
  | .sub => some (.int k (ar.sub k a b))
  | .mul => some (.int k (ar.mul k a b))
  | .and => some (.int k (ar.and k a b))
  | .or => some (.int k (ar.or k a b))
  | .xor => some (.int k (ar.xor k a b))
  | .andNot => some (.int k (ar.andNot k a b))
  | .eql => some (.bool (ar.eq a b))
  | .neq => some (.bool (ar.not (ar.eq a b)))
  | .lss => some (.bool (ar.lt a b))
  | .leq => some (.bool (ar.le a b))
  | .gtr => some (.bool (ar.lt b a))
  | .geq => some (.bool (ar.le b a))
  | .quo => match litOf y with
    | some (.ofNat (n + 1)) => some (.int k (ar.quo k a (.ofNat (n + 1))))
    | _ => none
  | .rem => match litOf y with
    | some (.ofNat (n + 1)) => some (.int k (ar.rem a (.ofNat (n + 1))))
    | _ => none
  | _ => none
def binS (ar : Ar) (op : BinOp) (k : IntKind) (a : Int) (y : Operand) : Option Value :=
  match op, litOf y with
  | .shl, some (.ofNat n) => some (.int k (ar.shl k a n))
  | .shr, some (.ofNat n) => some (.int k (ar.shr k a n))
  | _, _ => none
def isShift : BinOp → Bool
  | .shl | .shr => true
  | _ => false
def binV (ar : Ar) (E : TEnv) (op : BinOp) (t : TypeId) (x y : V) (oy : Operand) : Option Value :=
  match x, y with
  | .v (.int k a), .v (.int k' b) => match isShift op with
    | true => binS ar op k a oy
    | false => match ikEq k k' with
      | true => binI ar op k a b oy
      | false => none
  | .v (.bool a), .v (.bool b) => match E.get t with
    | some i => match i.kd with
      | .bool => match op with
        | .eql => some (.bool (ar.beq a b))
        | .neq => some (.bool (ar.not (ar.beq a b)))
        | _ => none
      | _ => none
    | none => none
  | .v (.string a), .v (.string b) => match op with
    | .eql => some (.bool (ar.seq a b))
    | .neq => some (.bool (ar.not (ar.seq a b)))
    | .lss => some (.bool (ar.slt a b))
    | .leq => some (.bool (ar.orb (ar.slt a b) (ar.seq a b)))
    | .gtr => some (.bool (ar.not (ar.orb (ar.slt a b) (ar.seq a b))))
    | .geq => some (.bool (ar.not (ar.slt a b)))
    | _ => none
  | _, _ => none

def pickV (ar : Ar) (t : Bool) (x y : V) : V :=
  match x, y with
  | .v (.bool a), .v (.bool b) => .v (.bool (ar.cond t a b))
  | x, y => match t with
    | true => x
    | false => y

/-- The parts of a struct laid over its zero cells. -/
def fillC (flds : List (Nat × Nat × Nat × Bool)) (cells : List Value) : List (Nat × Value) → Option (List Value)
  | [] => some cells
  | (i, x) :: r => match flds[i]? with
    | some (off, _, size, _) => match Nat.beq x.cells.toList.length size, Nat.ble (off + size) cells.length with
      | true, true => fillC flds (cells.take off ++ (x.cells.toList ++ cells.drop (off + size))) r
      | _, _ => none
    | none => none
def evParts (fr : List (Nat × V)) : List (Nat × Operand) → Option (List (Nat × Value))
  | [] => some []
  | (i, x) :: r => match ev fr x with
    | some (.v y) => match evParts fr r with
      | some l => some ((i, y) :: l)
      | none => none
    | _ => none

def silent (ar : Ar) (E : TEnv) (op : Op) (st : St) : Option (V × List Res) :=
  match op with
  | .move x | .assign x => match ev st.fr x with
    | some v => some (v, st.own)
    | none => none
  | .pick c a b => match ev st.fr c, ev st.fr a, ev st.fr b with
    | some (.v (.bool t)), some x, some y => some (pickV ar t x y, st.own)
    | _, _, _ => none
  | .alloc T => match E.get T with
    | some i => match i.zero with
      | some z => some (.own st.own.length 0, st.own ++ [.st T (z.map .v)])
      | none => none
    | none => none
  | .box T x => match ev st.fr x with
    | some (.v y) => some (.own st.own.length 0, st.own ++ [.st T (y.cells.toList.map .v)])
    | some v => some (.own st.own.length 0, st.own ++ [.st T [v]])
    | none => none
  | .load T x => match E.get T with
    | some ti => match ev st.fr x with
      | some (.own i off) => match st.own[i]? with
        | some (.st _ cells) => match loadC ti.agg ti.size cells off with
          | some v => some (v, st.own)
          | none => none
        | _ => none
      | some (.imm _ _ cs o) => match loadI ti.agg ti.size cs o with
        | some v => some (v, st.own)
        | none => none
      | _ => none
    | none => none
  | .store T x y => match E.get T with
    | some ti => match ev st.fr x, ev st.fr y with
      | some (.own i off), some v => match st.own[i]? with
        | some (.st T' cells) => match storeC ti.agg ti.size cells off v with
          | some cells' => some (.v undef, st.own.set i (.st T' cells'))
          | none => none
        | _ => none
      | _, _ => none
    | none => none
  | .fieldAddr T x f => match E.get T with
    | some ti => match ti.flds[f]? with
      | some (fo, _, fs, _) => match Nat.beq fs 0 with
        | true => none
        | false => match ev st.fr x with
          | some (.own i off) => some (.own i (off + fo), st.own)
          | some (.imm b off cs o) => some (.imm b off cs (o + fo), st.own)
          | _ => none
      | none => none
    | none => none
  | .field T x f => match E.get T with
    | some ti => match ti.flds[f]? with
      | some (fo, _, fs, fa) => match ev st.fr x with
        | some (.v (.agg cs)) => match loadI fa fs cs.toList fo with
          | some v => some (v, st.own)
          | none => none
        | _ => none
      | none => none
    | none => none
  | .extract x i => match ev st.fr x with
    | some (.v (.tuple vs)) => match vs.toList[i]? with
      | some v => some (.v v, st.own)
      | none => none
    | _ => none
  | .build T parts => match E.get T with
    | some ti => match ti.flds, ti.zero, evParts st.fr parts.toList with
      | f :: fs, some z, some l => match fillC (f :: fs) z l with
        | some cs => some (.v (.agg cs.toArray), st.own)
        | none => none
      | _, _, _ => none
    | none => none
  | .binOp op t x y _ => match ev st.fr x, ev st.fr y with
    | some a, some b => match binV ar E op t a b y with
      | some v => some (.v v, st.own)
      | none => none
    | _, _ => none
  | .unOp .not _ x => match ev st.fr x with
    | some (.v (.bool b)) => some (.v (.bool (ar.not b)), st.own)
    | _ => none
  | .unOp .neg _ x => match ev st.fr x with
    | some (.v (.int k n)) => some (.v (.int k (ar.sub k 0 n)), st.own)
    | _ => none
  | .convert src dst x => match ev st.fr x with
    | some (.v (.int _ n)) => match E.get src, E.get dst with
      | some _, some ti => match kdInt ti.kd with
        | some k => some (.v (.int k (ar.wrap k n)), st.own)
        | none => none
      | _, _ => none
    | _ => none
  | .nilCheck x => match ev st.fr x with
    | some (.own i o) => some (.own i o, st.own)
    | some (.imm b off cs o) => some (.imm b off cs o, st.own)
    | some (.v (.pointer (some p))) => some (.v (.pointer (some p)), st.own)
    | _ => none
  | .call { callee := .builtin .len, args := args, argTypes := ts } => match args.toList, ts.toList with
    | [x], t :: _ => match E.get t with
      | some ti => match ev st.fr x with
        | some (.v (.slice _ n _)) => match ti.kd with
          | .slice _ => some (.v (.int .i64 (ar.ofNat n)), st.own)
          | _ => none
        | some (.v (.string s)) => match ti.kd with
          | .str => some (.v (.int .i64 (ar.ofNat (ar.ssize s))), st.own)
          | _ => none
        | _ => none
      | none => none
    | _, _ => none
  | _ => none
end Go.Sx
