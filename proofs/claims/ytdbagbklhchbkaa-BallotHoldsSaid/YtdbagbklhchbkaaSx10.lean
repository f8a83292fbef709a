/- A calculus for walks, part 10: rules for strings, bytes and slices. No conditions. -/
import Derived.Test.YtdbagbklhchbkaaSx9
import Derived.Test.YtdbagbklhchbkaaPl1
import Derived.Laws.Cover3
set_option linter.unusedSimpArgs false
set_option linter.unusedVariables false
namespace Go.Sx
open Go

theorem kd_slice {P : Program} {t e : TypeId} {ti : TI} {inf : TypeInfo} {d : TypeDesc} (h : TI.Is P t ti inf d) (hk : ti.kd = .slice e) : d = .slice e := by
  have := h.kd; rw [hk] at this
  cases d <;> simp [kdOf] at this
  subst this; rfl
theorem kd_int {P : Program} {t : TypeId} {ti : TI} {inf : TypeInfo} {d : TypeDesc} {k : IntKind} (h : TI.Is P t ti inf d) (hk : ti.kd = .int k) : d = .int k := by
  have := h.kd; rw [hk] at this
  cases d <;> simp [kdOf] at this
  subst this; rfl
theorem kd_str {P : Program} {t : TypeId} {ti : TI} {inf : TypeInfo} {d : TypeDesc} (h : TI.Is P t ti inf d) (hk : ti.kd = .str) : d = .string := by
  have := h.kd; rw [hk] at this
  cases d <;> simp [kdOf] at this
  rfl

/-- What is protected holds what is settled. -/
theorem Imm.prot {st : St} {ρ : Nat → Nat} {B : Base} {F : Nat → NP} {a : Act} {w w' : World} (hI : Inv B st ρ F a w) (hp : Prot (DD st ρ) w w') {b off : Nat} {cs : List Value} (h : Imm st.H b off cs) :
    ∃ c T fz, w'.heap[b]? = some (.cells c T fz) ∧ ∀ j x, cs[j]? = some x → c[off + j]? = some x := by
  obtain ⟨hm, hb, c, T, fz, hc, hj⟩ := h
  exact ⟨c, T, fz, (hp.block b (Nat.lt_of_lt_of_le hb hI.hp.size) (.inl ⟨hb, hm⟩)).trans ((hI.hp.block b hb hm).1.trans hc), hj⟩

theorem PEv.index {B : Base} {P : Program} {E : TEnv} (hE : TOk P E) {o : Oper} {st : St} {k : V → Prop} {t e : TypeId} {x ix : Operand} {ti te : TI} {a : Option Addr} {n c : Nat} {kk : IntKind} {i : Int}
    (ho : o.op = .indexAddr t x ix) (hx : ev st.fr x = some (.v (.slice a n c))) (hix : ev st.fr ix = some (.v (.int kk i))) (ht : E.get t = some ti) (hk : ti.kd = .slice e) (he : E.get e = some te)
    {xs : List Value} (S : Sl st.H te.size a xs) (hn : xs.length = n) {y : Value} (hi : 0 ≤ i) (hy : xs[i.toNat]? = some y)
    (h : ∀ b off, k (.imm b off y.cells.toList 0)) : PEv B P o st k := by
  intro ρ F ac w hI
  obtain ⟨inf, d, his⟩ := hE.get ht
  obtain ⟨inf', d', his'⟩ := hE.get he
  have hd := kd_slice his hk
  subst hd
  rcases S with rfl | ⟨b, off, rfl, hS⟩
  · simp at hy
  have himm := hS _ _ hy
  have hlt := lt_of_some hy
  have hcond : 0 ≤ i ∧ i < (n : Int) := ⟨hi, by omega⟩
  refine ⟨.imm b (off + i.toNat * te.size) y.cells.toList 0, fun w' _ => ?_, himm, h _ _⟩
  simp only [execOp, ho]
  refine run_v ?_
  have e1 : ac.eval x = .slice (some ⟨b, off, none⟩) n c := (hI.ev hx).1
  have e2 : ac.eval ix = .int kk i := (hI.ev hix).1
  rw [e1, e2]
  simp only [Instr.indexAt, run_underlying his.und, asIntOf, Sem.run_bind, Sem.run_pure, Result.andThen_ok, hcond, and_self, if_true, Is.run_sizeOf his', addr_add, V.den, Nat.add_zero]

/-- An operation on plain operands that looks at no memory. -/
theorem PEv.bin {B : Base} {P : Program} {o : Oper} {st : St} {k : V → Prop} {op : BinOp} {t ty : TypeId} {x y : Operand} {u v r : Value}
    (ho : o.op = .binOp op t x y ty) (hx : ev st.fr x = some (.v u)) (hy : ev st.fr y = some (.v v)) (hr : ∀ w, (do eqGuard op t x y u v; binOp op t u v : Sem Value).run P w = .ok r w) (h : k (.v r)) : PEv B P o st k := by
  intro ρ F ac w hI
  have e1 : ac.eval x = u := (hI.ev hx).1
  have e2 : ac.eval y = v := (hI.ev hy).1
  refine ⟨.v r, fun w' _ => ?_, trivial, h⟩
  simp only [execOp, ho, e1, e2]
  exact run_v (hr w')

theorem PEv.builtin {B : Base} {P : Program} {o : Oper} {st : St} {k : V → Prop} {b : Builtin} {args : Array Operand} {ts : Array TypeId} {xs : List Value} {r : Value}
    (ho : o.op = .call { callee := .builtin b, args := args, argTypes := ts }) (hx : evs st.fr args.toList = some xs) (hr : ∀ ty cs w, (Go.builtin b ts ty cs xs.toArray).run P w = .ok (.value r) w) (h : k (.v r)) : PEv B P o st k := by
  intro ρ F ac w hI
  have hargs : args.map ac.eval = xs.toArray := by
    apply Array.ext'
    rw [Array.toList_map]
    exact evs_ok hI hx
  refine ⟨.v r, fun w' _ => ?_, trivial, h⟩
  simp only [execOp, ho, resolve, hargs, Sem.run_bind, Sem.run_pure, Result.andThen_ok, invoke, hr]
  rfl

/-- A slice held against nil. -/
theorem run_nil_eql {P : Program} {E : TEnv} (hE : TOk P E) {t e : TypeId} {ti : TI} (ht : E.get t = some ti) (hk : ti.kd = .slice e) (a : Option Addr) (n c : Nat) (x y : Operand) (w : World) :
    (do eqGuard .eql t x y (.slice a n c) (.slice none 0 0); binOp .eql t (.slice a n c) (.slice none 0 0) : Sem Value).run P w = .ok (.bool a.isNone) w := by
  obtain ⟨inf, d, his⟩ := hE.get ht
  have hd := kd_slice his hk
  subst hd
  rw [Sem.run_bind, eqGuard_at_slice]
  simp only [Sem.run_pure, Result.andThen_ok]
  show (do pure (.bool (← Op.equal t (.slice a n c) (.slice none 0 0))) : Sem Value).run P w = _
  rw [Sem.run_bind, run_equal_slice_nil w t e a n c his.und]; rfl
theorem run_nil_neq {P : Program} {E : TEnv} (hE : TOk P E) {t e : TypeId} {ti : TI} (ht : E.get t = some ti) (hk : ti.kd = .slice e) (a : Option Addr) (n c : Nat) (x y : Operand) (w : World) :
    (do eqGuard .neq t x y (.slice a n c) (.slice none 0 0); binOp .neq t (.slice a n c) (.slice none 0 0) : Sem Value).run P w = .ok (.bool !a.isNone) w := by
  obtain ⟨inf, d, his⟩ := hE.get ht
  have hd := kd_slice his hk
  subst hd
  rw [Sem.run_bind, eqGuard_at_slice]
  simp only [Sem.run_pure, Result.andThen_ok]
  show (do pure (.bool (!(← Op.equal t (.slice a n c) (.slice none 0 0)))) : Sem Value).run P w = _
  rw [Sem.run_bind, run_equal_slice_nil w t e a n c his.und]; rfl

theorem push_all (l : List UInt8) : ∀ r : ByteArray, (l.map fun b => (b.toNat : Int)).foldl (fun r n => r.push (UInt8.ofNat n.toNat)) r = ⟨r.data ++ l.toArray⟩ := by
  induction l with
  | nil => intro r; simp
  | cons x l ih =>
    intro r
    simp only [List.map_cons, List.foldl_cons, ih]
    congr 1
    apply Array.ext'
    simp [ByteArray.push]

/-- A slice value that stays: its elements are xs. -/
structure SlV (H : Hp) (size : Nat) (a : Option Addr) (n c : Nat) (xs : List Value) : Prop where
  sl : Sl H size a xs
  len : xs.length = n
  nil : a = none → n = 0 ∧ c = 0
  cap : n ≤ c
theorem SlV.mono {H H' : Hp} {size : Nat} {a : Option Addr} {n c : Nat} {xs : List Value} (h : SlV H size a n c xs) (hl : H.Le H') : SlV H' size a n c xs := ⟨h.sl.mono hl, h.len, h.nil, h.cap⟩
theorem SlV.none {H : Hp} {size : Nat} : SlV H size none 0 0 [] := ⟨.inl rfl, rfl, fun _ => ⟨rfl, rfl⟩, Nat.le_refl _⟩
abbrev Bs (H : Hp) (a : Option Addr) (n c : Nat) (l : List UInt8) : Prop := SlV H 1 a n c (byteV l)
theorem Bs.length {H : Hp} {a : Option Addr} {n c : Nat} {l : List UInt8} (h : Bs H a n c l) : l.length = n := by have := h.len; rwa [byteV_length] at this

/-- Bytes as a string. -/
theorem PEv.str {B : Base} {P : Program} {E : TEnv} (hE : TOk P E) {o : Oper} {st : St} {k : V → Prop} {src dst e : TypeId} {x : Operand} {ts td te : TI} {a : Option Addr} {n c : Nat} {l : List UInt8}
    (ho : o.op = .convert src dst x) (hx : ev st.fr x = some (.v (.slice a n c))) (hs : E.get src = some ts) (hks : ts.kd = .slice e) (he : E.get e = some te) (hke : te.kd = .int .u8) (hd : E.get dst = some td) (hkd : td.kd = .str)
    (S : Sl st.H 1 a (byteV l)) (hn : l.length = n) (h : k (.v (.string ⟨l.toArray⟩))) : PEv B P o st k := by
  intro ρ F ac w hI
  obtain ⟨i1, d1, h1⟩ := hE.get hs
  obtain ⟨i2, d2, h2⟩ := hE.get he
  obtain ⟨i3, d3, h3⟩ := hE.get hd
  have hd1 := kd_slice h1 hks
  have hd2 := kd_int h2 hke
  have hd3 := kd_str h3 hkd
  subst hd1 hd2 hd3
  have e1 : ac.eval x = .slice a n c := (hI.ev hx).1
  refine ⟨.v (.string ⟨l.toArray⟩), fun w' hp => ?_, trivial, h⟩
  simp only [execOp, ho]
  refine run_v ?_
  rw [e1]
  cases a with
  | none =>
    have hl : l = [] := by
      rcases S with h | ⟨b, off, h, _⟩
      · simpa [byteV] using h
      · cases h
    subst hl
    rw [run_convert_bytes_nil w' src e h1.und h2.und n c dst h3.und]
    rfl
  | some ad =>
    rw [run_convert_bytes_string w' src dst e (some ad) n c h1.und h2.und h3.und]
    have hload : (loadCells ad n).run P w' = .ok (byteV l).toArray w' := by
      rw [← hn, ← byteV_length]
      refine run_loadCells_list (P := P) w' ad (byteV l) fun j u hu => ?_
      rcases S with h | ⟨b, off, hb, hS⟩
      · rw [h] at hu; simp at hu
      · cases hb
        obtain ⟨cc, T, fz, hc, hj⟩ := Imm.prot hI hp (hS j u hu)
        have hu2 : u.cells.toList[0]? = some u := by
          obtain ⟨b, _, rfl⟩ := List.mem_map.1 (List.mem_of_getElem? hu); rfl
        rw [addr_add, cell_of_row w' b _ cc T fz hc]
        have := hj 0 u hu2
        simpa using this
    have hload' : (loadCells ad n).run P w' = .ok ((l.map fun b => (b.toNat : Int)).map (Value.int .u8)).toArray w' := by
      rw [hload]; congr 2; simp [byteV]
    rw [run_bytesToString w' ad n c _ hload', push_all]
    simp [V.den]
end Go.Sx
