/-
  A calculus of logical values for walks through a program, part 1 of 3: values, worlds and operations. No conditions.
-/
import Derived.WalkKit
import Derived.Laws.Cover3
set_option linter.unusedSimpArgs false
set_option linter.unusedVariables false
namespace Go.Sx
open Go
abbrev NP := Nat → Prop
structure Keeps (S : NP) (w w' : World) : Prop where
  os : w'.os = w.os
  tape : w'.tape = w.tape
  output : w'.output = w.output
  size : w.heap.size ≤ w'.heap.size
  block : ∀ k, k < w.heap.size → ¬ S k → w'.heap[k]? = w.heap[k]?
theorem Keeps.refl (S : NP) (w : World) : Keeps S w w := ⟨rfl, rfl, rfl, Nat.le_refl _, fun _ _ _ => rfl⟩
theorem Keeps.mono {S S' : NP} {w w' : World} (h : Keeps S w w') (hs : ∀ k, k < w.heap.size → S k → S' k) : Keeps S' w w' :=
  ⟨h.os, h.tape, h.output, h.size, fun k hk hn => h.block k hk fun c => hn (hs k hk c)⟩
theorem Keeps.step {S S' : NP} {a b c : World} (h : Keeps S a b) (k : Keeps S' b c) (hs : ∀ i, i < a.heap.size → S' i → S i) : Keeps S a c :=
  ⟨k.os.trans h.os, k.tape.trans h.tape, k.output.trans h.output, Nat.le_trans h.size k.size, fun i hi hn => (k.block i (Nat.lt_of_lt_of_le hi h.size) fun c => hn (hs i hi c)).trans (h.block i hi hn)⟩
abbrev none' : NP := fun _ => False
abbrev Keep0 (w w' : World) : Prop := Keeps none' w w'
structure Hp where
  M : NP
  w : World
def CellAt (w : World) (k : Nat) : Prop := ∃ c T fz, w.heap[k]? = some (.cells c T fz)
theorem CellAt.lt {w : World} {k : Nat} (h : CellAt w k) : k < w.heap.size := by obtain ⟨c, T, fz, h⟩ := h; exact (Array.getElem?_eq_some_iff.1 h).1
structure Hp.Le (H H' : Hp) : Prop where
  os : H'.w.os = H.w.os
  tape : H'.w.tape = H.w.tape
  output : H'.w.output = H.w.output
  size : H.w.heap.size ≤ H'.w.heap.size
  block : ∀ k, CellAt H.w k → ¬ H.M k → H'.w.heap[k]? = H.w.heap[k]? ∧ ¬ H'.M k
theorem Hp.Le.refl (H : Hp) : H.Le H := ⟨rfl, rfl, rfl, Nat.le_refl _, fun _ _ h => ⟨rfl, h⟩⟩
theorem Hp.Le.keeps {M : NP} {w w' : World} (h : Keeps M w w') : Hp.Le ⟨M, w⟩ ⟨M, w'⟩ :=
  ⟨h.os, h.tape, h.output, h.size, fun k hk hm => ⟨h.block k hk.lt hm, hm⟩⟩
theorem Hp.Le.keep0 {M : NP} {w w' : World} (h : Keep0 w w') : Hp.Le ⟨M, w⟩ ⟨M, w'⟩ := Hp.Le.keeps (h.mono fun _ _ c => c.elim)
def Hp.Bd (H : Hp) : Prop := ∀ k, H.M k → k < H.w.heap.size
/-! ### Types -/
inductive Kd where
  | int (k : IntKind) | bool | str | slice (e : TypeId) | ptr | other
structure TI where
  kd : Kd
  agg : Bool
  size : Nat
  bytes : Nat
  zero : Option (List Value)
  flds : List (Nat × Nat × Nat × Bool)
def isAggD : TypeDesc → Bool
  | .struct _ | .array _ _ => true
  | _ => false
def kdOf : TypeDesc → Kd
  | .int k => .int k
  | .bool => .bool
  | .string => .str
  | .slice e => .slice e
  | .pointer _ => .ptr
  | _ => .other
def fldsOf (P : Program) : TypeDesc → List (Nat × Nat × Nat × Bool)
  | .struct fs => fs.toList.map fun f => (f.offset, f.type, ((P.info? f.type).map (·.size)).getD 0, ((P.underlying f.type).map isAggD).getD false)
  | _ => []
def mkTI (P : Program) (t : TypeId) : Option TI :=
  match P.info? t, P.underlying t with
  | some i, some d => some ⟨kdOf d, isAggD d, i.size, i.bytes, i.zero.map (·.cells.toList), fldsOf P d⟩
  | _, _ => none
abbrev TEnv := List (Nat × TI)
def TEnv.get : TEnv → Nat → Option TI
  | [], _ => none
  | (k, i) :: r, t => match Nat.beq k t with
    | true => some i
    | false => TEnv.get r t
def TOk (P : Program) (E : TEnv) : Prop := ∀ t i, E.get t = some i → mkTI P t = some i
theorem TOk.of {P : Program} : ∀ {E : TEnv}, E.map (fun p => mkTI P p.1) = E.map (fun p => some p.2) → TOk P E
  | [], _, _, _, h => by simp [TEnv.get] at h
  | (k, j) :: r, he, t, i, h => by
    simp only [List.map_cons, List.cons.injEq] at he
    simp only [TEnv.get] at h
    split at h
    · rename_i hk
      have : k = t := Nat.eq_of_beq_eq_true hk
      subst this
      cases h
      exact he.1
    · exact TOk.of he.2 t i h
structure TI.Is (P : Program) (t : TypeId) (i : TI) (inf : TypeInfo) (d : TypeDesc) : Prop where
  info : P.info? t = some inf
  und : P.underlying t = some d
  kd : i.kd = kdOf d
  agg : i.agg = isAggD d
  size : i.size = inf.size
  bytes : i.bytes = inf.bytes
  zero : i.zero = inf.zero.map (·.cells.toList)
  flds : i.flds = fldsOf P d
theorem TOk.get {P : Program} {E : TEnv} (hE : TOk P E) {t : TypeId} {i : TI} (h : E.get t = some i) : ∃ inf d, TI.Is P t i inf d := by
  have := hE t i h
  unfold mkTI at this
  split at this
  · rename_i inf d h1 h2
    cases this
    exact ⟨inf, d, h1, h2, rfl, rfl, rfl, rfl, rfl, rfl⟩
  · cases this
/-! ### Symbolic values, own memory, states -/
/-! ### The operations that run without a word -/
def kdInt : Kd → Option IntKind
  | .int k => some k
  | _ => none
def ikEq : IntKind → IntKind → Bool
  | .i8, .i8 | .i16, .i16 | .i32, .i32 | .i64, .i64 | .u8, .u8 | .u16, .u16 | .u32, .u32 | .u64, .u64 => true
  | _, _ => false
theorem ikEq_eq {a b : IntKind} (h : ikEq a b = true) : a = b := by cases a <;> cases b <;> first | rfl | cases h
def litOf : Operand → Option Int
  | .const (.int _ n) => some n
  | _ => none
structure Ar where
  add : IntKind → Int → Int → Int
  sub : IntKind → Int → Int → Int
  mul : IntKind → Int → Int → Int
  quo : IntKind → Int → Int → Int
  rem : Int → Int → Int
  and : IntKind → Int → Int → Int
  or : IntKind → Int → Int → Int
  xor : IntKind → Int → Int → Int
  andNot : IntKind → Int → Int → Int
  shl : IntKind → Int → Nat → Int
  shr : IntKind → Int → Nat → Int
  eq : Int → Int → Bool
  lt : Int → Int → Bool
  le : Int → Int → Bool
  seq : ByteArray → ByteArray → Bool
  slt : ByteArray → ByteArray → Bool
  beq : Bool → Bool → Bool
  not : Bool → Bool
  orb : Bool → Bool → Bool
  cond : Bool → Bool → Bool → Bool
  wrap : IntKind → Int → Int
  ofNat : Nat → Int
  ssize : ByteArray → Nat
def Ar.std : Ar where
  add k a b := k.wrap (a + b)
  sub k a b := k.wrap (a - b)
  mul k a b := k.wrap (a * b)
  quo k a b := k.wrap (a.tdiv b)
  rem a b := a.tmod b
  and k a b := bits .and k a b
  or k a b := bits .or k a b
  xor k a b := bits .xor k a b
  andNot k a b := bits .andNot k a b
  shl k a n := k.wrap (a * 2 ^ (min n k.bits))
  shr k a n := a.fdiv (2 ^ (min n k.bits))
  eq a b := a == b
  lt a b := decide (a < b)
  le a b := decide (a ≤ b)
  seq a b := a.toList == b.toList
  slt a b := Op.bytesLess a.toList b.toList
  beq a b := a == b
  not a := !a
  orb a b := a || b
  cond c a b := _root_.cond c a b
  wrap k a := k.wrap a
  ofNat n := n
  ssize s := s.size
def binI (ar : Ar) (op : BinOp) (k : IntKind) (a b : Int) (y : Operand) : Option Value :=
  match op with
  | .add => some (.int k (ar.add k a b))
  | .sub => some (.int k (ar.sub k a b))
  | .mul => some (.int k (ar.mul k a b))
  | .and => some (.int k (ar.and k a b))
  | .or => some (.int k (ar.or k a b))
  | .xor => some (.int k (ar.xor k a b))
  | .andNot => some (.int k (ar.andNot k a b))
  | .eql => some (.bool (ar.eq a b))
  | .neq => some (.bool (ar.not (ar.eq a b)))
  | .lss => some (.bool (ar.lt a b))
  | .leq => some (.bool (ar.le a b))
  | .gtr => some (.bool (ar.lt b a))
  | .geq => some (.bool (ar.le b a))
  | .quo => match litOf y with
    | some (.ofNat (n + 1)) => some (.int k (ar.quo k a (.ofNat (n + 1))))
    | _ => none
  | .rem => match litOf y with
    | some (.ofNat (n + 1)) => some (.int k (ar.rem a (.ofNat (n + 1))))
    | _ => none
  | _ => none
def isShift : BinOp → Bool
  | .shl | .shr => true
  | _ => false
def fillC (flds : List (Nat × Nat × Nat × Bool)) (cells : List Value) : List (Nat × Value) → Option (List Value)
  | [] => some cells
  | (i, x) :: r => match flds[i]? with
    | some (off, _, size, _) => match Nat.beq x.cells.toList.length size, Nat.ble (off + size) cells.length with
      | true, true => fillC flds (cells.take off ++ (x.cells.toList ++ cells.drop (off + size))) r
      | _, _ => none
    | none => none
end Go.Sx
set_option linter.unusedSimpArgs false
set_option linter.unusedVariables false
namespace Go.Sx
open Go
section
variable {P : Program} {E : TEnv}
theorem Is.run_isAgg {t : TypeId} {i : TI} {inf : TypeInfo} {d : TypeDesc} (h : TI.Is P t i inf d) (w : World) : (isAgg t).run P w = .ok i.agg w := by
  unfold isAgg
  rw [Sem.run_bind, run_underlying h.und w, h.agg]
  cases d <;> rfl
theorem Is.run_info {t : TypeId} {i : TI} {inf : TypeInfo} {d : TypeDesc} (h : TI.Is P t i inf d) (w : World) : (typeInfo t).run P w = .ok inf w := by
  simp [typeInfo, h.info]
theorem Is.run_sizeOf {t : TypeId} {i : TI} {inf : TypeInfo} {d : TypeDesc} (h : TI.Is P t i inf d) (w : World) : (sizeOf t).run P w = .ok i.size w := by
  simp [sizeOf, typeInfo, h.info, h.size]
theorem addr_add (g o j : Nat) : (⟨g, o, none⟩ : Addr).add j = ⟨g, o + j, none⟩ := by
  unfold Addr.add; split <;> simp_all
theorem run_loadVar_agg {t : TypeId} {i : TI} {inf : TypeInfo} {d : TypeDesc} (h : TI.Is P t i inf d) (ha : i.agg = true) {w : World} {g o : Nat} {c : Array Value} {T : TypeId} {fz : Nat × Nat}
    (hg : w.heap[g]? = some (.cells c T fz)) (cs : List Value) (hl : cs.length = i.size) (hc : ∀ j x, cs[j]? = some x → c[o + j]? = some x) :
    (loadVar t ⟨g, o, none⟩).run P w = .ok (.agg cs.toArray) w := by
  have hlc : (loadCells ⟨g, o, none⟩ cs.length).run P w = .ok cs.toArray w :=
    run_loadCells_list (P := P) w ⟨g, o, none⟩ cs fun j v hv => by
      rw [addr_add, cell_of_row w g _ c T fz hg]; exact hc j v hv
  unfold loadVar
  rw [Sem.run_bind, Is.run_isAgg h, ha]
  simp only [Result.andThen_ok, if_true, Sem.run_bind, Is.run_sizeOf h, ← hl, hlc, Sem.run_pure]
theorem run_loadVar_one {t : TypeId} {i : TI} {inf : TypeInfo} {d : TypeDesc} (h : TI.Is P t i inf d) (ha : i.agg = false) {w : World} {g o : Nat} {c : Array Value} {T : TypeId} {fz : Nat × Nat}
    (hg : w.heap[g]? = some (.cells c T fz)) {x : Value} (hc : c[o]? = some x) : (loadVar t ⟨g, o, none⟩).run P w = .ok x w := by
  unfold loadVar
  rw [Sem.run_bind, Is.run_isAgg h, ha]
  simp only [Result.andThen_ok, Bool.false_eq_true, if_false, run_load, cell_of_row w g _ c T fz hg, hc]
theorem run_storeVar {t : TypeId} {i : TI} {inf : TypeInfo} {d : TypeDesc} (h : TI.Is P t i inf d) {w : World} {g o : Nat} {c : Array Value} {T : TypeId}
    (hg : w.heap[g]? = some (.cells c T (0, 0))) (v : Value) (hs : v.cells.toList.length = i.size) (hb : o + i.size ≤ c.size) (h1 : ∀ u ∈ v.cells.toList, u.oneCell' = true) :
    (storeVar t ⟨g, o, none⟩ v).run P w = .ok () (w.setRow g (c.toList.take o ++ (v.cells.toList ++ c.toList.drop (o + i.size))).toArray) := by
  unfold storeVar
  have hs' : v.cells.size = i.size := by simpa using hs
  simp only [Sem.run_bind, Is.run_sizeOf h, Result.andThen_ok, hs', ne_eq, not_true_eq_false, if_false]
  have := run_storeCells_at (P := P) g o T v.cells.toList 0 c w hg (by rw [hs]; omega) h1
  rw [this, hs]
  simp [List.append_assoc]
end
theorem run_v {P : Program} {s : Sem Value} {w w' : World} {x : Value} (h : s.run P w = .ok x w') : ((do pure (.value (← s)) : Sem Next)).run P w = .ok (.value x) w' := by
  rw [Sem.run_bind, h]; rfl
theorem litOf_eval {a : Act} {y : Operand} {n : Int} (h : litOf y = some n) : ∃ k, a.eval y = .int k n := by
  unfold litOf at h
  split at h
  · cases h; exact ⟨_, rfl⟩
  · cases h
theorem binI_run {P : Program} {w : World} {op : BinOp} {t : TypeId} {k : IntKind} {a b : Int} {y : Operand} {v : Value} (hs : isShift op = false) (h : binI .std op k a b y = some v)
    (hy : ∀ n, litOf y = some n → b = n) : (binOp op t (.int k a) (.int k b)).run P w = .ok v w := by
  cases op <;> simp only [binI, Ar.std] at h <;> first
    | (cases hs; done)
    | (cases h; first | simp [go_sem]; done)
    | skip
  all_goals first
    | (cases h; simp [go_sem, Op.intArith, Op.intCmp]; done)
    | (cases h; simp [go_sem, Op.intArith, Op.intCmp, bne]; done)
    | skip
  all_goals
    split at h
    · rename_i n hn
      cases h
      have := hy _ hn
      subst this
      have hz : ¬ ((n : Int) + 1 = 0) := by omega
      simp [go_sem, Op.intDiv, hz]
    · cases h
theorem run_equalIn_bool {P : Program} {w : World} {t : TypeId} {a b : Bool} (d : Nat) (h : P.underlying t = some .bool) : (Op.equalIn (d + 1) t (.bool a) (.bool b)).run P w = .ok (a == b) w := by
  simp [Op.equalIn, run_underlying h]
theorem run_equal_bool {P : Program} {w : World} {t : TypeId} {a b : Bool} (h : P.underlying t = some .bool) : (Op.equal t (.bool a) (.bool b)).run P w = .ok (a == b) w := run_equalIn_bool 9999 h
end Go.Sx
set_option linter.unusedSimpArgs false
set_option linter.unusedVariables false
namespace Go.Sx
open Go
theorem foldl_sets (off : Nat) : ∀ (l : List Value) (k : Nat) (arr : Array Value), off + k + l.length ≤ arr.size →
    (l.zipIdx k).foldl (fun cs (p : Value × Nat) => cs.setIfInBounds (off + p.2) p.1) arr = (arr.toList.take (off + k) ++ (l ++ arr.toList.drop (off + k + l.length))).toArray
  | [], k, arr, _ => by simp
  | x :: l, k, arr, h => by
    simp only [List.zipIdx_cons, List.foldl_cons]
    simp only [List.length_cons] at h
    rw [foldl_sets off l (k + 1) _ (by simp; omega)]
    congr 1
    have e := list_seg_step arr.toList (off + k) x l (by simp; omega)
    simp only [Array.toList_setIfInBounds]
    rw [show off + (k + 1) = off + k + 1 from rfl]
    rw [← List.append_assoc, e]
    simp
theorem fill_fillC {place : Nat → Option (Nat × Nat)} {flds : List (Nat × Nat × Nat × Bool)} (hp : ∀ i, place i = (flds[i]?).map fun f => (f.1, f.2.2.1)) :
    ∀ (parts : List (Nat × Value)) (cells : List Value) (cs : List Value), fillC flds cells parts = some cs → Instr.fill place cells.toArray parts = some cs.toArray
  | [], cells, cs, h => by simp [fillC] at h; subst h; rfl
  | (i, x) :: r, cells, cs, h => by
    simp only [fillC] at h
    split at h
    · rename_i off t size ag hf
      split at h
      · rename_i h1 h2
        have h1 := Nat.eq_of_beq_eq_true h1
        have h2 := Nat.le_of_ble_eq_true h2
        have hpi : place i = some (off, size) := by rw [hp, hf]; rfl
        simp only [Instr.fill, hpi]
        have hsz : x.cells.size = size := by simpa using h1
        have hcond : ¬ ((x.cells.size ≠ size || decide (off + x.cells.size > cells.toArray.size)) = true) := by
          simp [hsz]; omega
        rw [if_neg hcond]
        have hfold : x.cells.zipIdx.foldl (fun cs (p : Value × Nat) => cs.setIfInBounds (off + p.2) p.1) cells.toArray = (cells.take off ++ (x.cells.toList ++ cells.drop (off + size))).toArray := by
          have := foldl_sets off x.cells.toList 0 cells.toArray (by simp [hsz]; omega)
          rw [← Array.foldl_toList, Array.toList_zipIdx, this]
          simp [hsz]
        have ih := fill_fillC hp r _ cs h
        rw [← hfold] at ih
        exact ih
      · cases h
    · cases h
theorem mapM_places {P : Program} : ∀ (fs : List Field), (∀ f ∈ fs, (P.info? f.type).isSome = true) →
    fs.mapM (fun f => (P.info? f.type).map fun i => (f.offset, i.size)) = some (fs.map fun f => (f.offset, ((P.info? f.type).map (·.size)).getD 0))
  | [], _ => rfl
  | f :: fs, h => by
    obtain ⟨i, hi⟩ := Option.isSome_iff_exists.1 (h f (by simp))
    simp [List.mapM_cons, mapM_places fs (fun g hg => h g (by simp [hg])), hi]
def fieldsIn (P : Program) (t : TypeId) : Bool :=
  match P.underlying t with
  | some (.struct fs) => fs.toList.all fun f => (P.info? f.type).isSome && (P.underlying f.type).isSome
  | _ => true
def FOk (P : Program) (E : TEnv) : Prop := ∀ t i, E.get t = some i → fieldsIn P t = true
theorem FOk.of {P : Program} : ∀ {E : TEnv}, (E.map fun p => fieldsIn P p.1).all id = true → FOk P E
  | [], _, _, _, h => by simp [TEnv.get] at h
  | (k, j) :: r, he, t, i, h => by
    simp only [List.map_cons, List.all_cons, Bool.and_eq_true, id] at he
    simp only [TEnv.get] at h
    split at h
    · rename_i hk
      have : k = t := Nat.eq_of_beq_eq_true hk
      subst this
      exact he.1
    · exact FOk.of he.2 t i h
theorem Is.struct {P : Program} {t : TypeId} {ti : TI} {inf : TypeInfo} {d : TypeDesc} (h : TI.Is P t ti inf d) (hF : fieldsIn P t = true) {f : Nat} {x : Nat × Nat × Nat × Bool} (hf : ti.flds[f]? = some x) :
    ∃ fs : Array Field, d = .struct fs ∧ ∃ fd fi fdd, fs[f]? = some fd ∧ P.info? fd.type = some fi ∧ P.underlying fd.type = some fdd ∧ x = (fd.offset, fd.type, fi.size, isAggD fdd) := by
  rw [h.flds] at hf
  cases d <;> simp [fldsOf] at hf
  rename_i fs
  obtain ⟨fd, hfd, hx⟩ := hf
  have := h.und
  simp only [fieldsIn, this, List.all_eq_true, Bool.and_eq_true] at hF
  have hm := hF fd (by simpa using Array.mem_of_getElem? hfd)
  obtain ⟨fi, hfi⟩ := Option.isSome_iff_exists.1 hm.1
  obtain ⟨fdd, hfdd⟩ := Option.isSome_iff_exists.1 hm.2
  refine ⟨fs, rfl, fd, fi, fdd, hfd, hfi, hfdd, ?_⟩
  rw [← hx]; simp [hfi, hfdd]
end Go.Sx
set_option linter.unusedSimpArgs false
set_option linter.unusedVariables false
namespace Go.Sx
open Go
/-! ### What an operation yields -/
def resUpon (P : Program) (R : Value → World → Prop) : Result Next → Prop
  | .ok (.value v) w' => R v w'
  | .ok .skip w' => R undef w'
  | .ok (.enter f args) w' => Calls P f args w' fun e w'' => ∃ v, e = .returned v ∧ R v w''
  | _ => False
def resOf (P : Program) (o : Oper) (a : Act) (w : World) (R : Value → World → Prop) : Prop := resUpon P R ((execOp a.eval o).run P w)
theorem resOf.mono {P : Program} {o : Oper} {a : Act} {w : World} {R R' : Value → World → Prop} (h : resOf P o a w R) (hr : ∀ v w', R v w' → R' v w') : resOf P o a w R' := by
  unfold resOf at *
  generalize (execOp a.eval o).run P w = r at *
  cases r with
  | ok n w' =>
    cases n <;> simp only [resUpon] at h ⊢
    case value v => exact hr _ _ h
    case skip => exact hr _ _ h
    case enter f args => exact h.mono fun e w'' ⟨v, he, hv⟩ => ⟨v, he, hr _ _ hv⟩
  | halt x w' => simp only [resUpon] at h
def vcIf (b : Bool) (T F : Unit → Prop) : Prop :=
  (match b with
  | true => T
  | false => F) ()
theorem vcIf.yes {b : Bool} {T F : Unit → Prop} (hb : b = true) (ht : T ()) : vcIf b T F := by subst hb; exact ht
theorem vcIf.no {b : Bool} {T F : Unit → Prop} (hb : b = false) (hf : F ()) : vcIf b T F := by subst hb; exact hf
def dstOk (n : Nat) : Option Tmp → Bool
  | none => true
  | some d => Nat.blt d n
def gslot (ops : List Oper) (j : Nat) : Option Tmp :=
  match ops[j]? with
  | some o => o.dst
  | none => none
structure ArEq (add sub mul quo : IntKind → Int → Int → Int) (rem : Int → Int → Int) (band bor bxor bclr : IntKind → Int → Int → Int) (shl shr : IntKind → Int → Nat → Int)
    (ieq ilt ile : Int → Int → Bool) (seq slt : ByteArray → ByteArray → Bool) (beq : Bool → Bool → Bool) (bnot : Bool → Bool) (orb : Bool → Bool → Bool) (bcond : Bool → Bool → Bool → Bool)
    (iwrap : IntKind → Int → Int) (iof : Nat → Int) (ssz : ByteArray → Nat) : Prop where
  add : ∀ k a b, add k a b = k.wrap (a + b)
  sub : ∀ k a b, sub k a b = k.wrap (a - b)
  mul : ∀ k a b, mul k a b = k.wrap (a * b)
  quo : ∀ k a b, quo k a b = k.wrap (a.tdiv b)
  rem : ∀ a b, rem a b = a.tmod b
  and : ∀ k a b, band k a b = bits .and k a b
  or : ∀ k a b, bor k a b = bits .or k a b
  xor : ∀ k a b, bxor k a b = bits .xor k a b
  clr : ∀ k a b, bclr k a b = bits .andNot k a b
  shl : ∀ k a n, shl k a n = k.wrap (a * 2 ^ (min n k.bits))
  shr : ∀ (k : IntKind) (a : Int) (n : Nat), shr k a n = a.fdiv (2 ^ (min n k.bits))
  eq : ∀ a b, ieq a b = (a == b)
  lt : ∀ a b, ilt a b = decide (a < b)
  le : ∀ a b, ile a b = decide (a ≤ b)
  seq : ∀ a b, seq a b = (a.toList == b.toList)
  slt : ∀ a b, slt a b = Op.bytesLess a.toList b.toList
  beq : ∀ a b, beq a b = (a == b)
  not : ∀ a, bnot a = !a
  orb : ∀ a b, orb a b = (a || b)
  cond : ∀ c a b, bcond c a b = cond c a b
  wrap : ∀ (k : IntKind) (a : Int), iwrap k a = k.wrap a
  ofNat : ∀ n, iof n = n
  ssize : ∀ s, ssz s = s.size
theorem ArEq.std : ArEq Ar.std.add Ar.std.sub Ar.std.mul Ar.std.quo Ar.std.rem Ar.std.and Ar.std.or Ar.std.xor Ar.std.andNot Ar.std.shl Ar.std.shr Ar.std.eq Ar.std.lt Ar.std.le Ar.std.seq Ar.std.slt
    Ar.std.beq Ar.std.not Ar.std.orb Ar.std.cond Ar.std.wrap Ar.std.ofNat Ar.std.ssize := by
  constructor <;> intros <;> rfl
/-! ### A whole call -/
def resSem (tmps : Array Value) : ResultVar → Sem Value
  | .tmp t => pure (tmps.getD t undef)
  | .cell c t => do loadVar t (← asAddr (tmps.getD c undef))
/-! ### Rules -/
def FnOk (P : Program) (f : FuncId) : Prop := ∃ fn, P.funcs[f]? = some fn ∧ (fn.body.isSome && !(fn.name == "runtime.NumGoroutine")) = true
theorem FnOk.run {P : Program} {f : FuncId} (h : FnOk P f) (xs : Array Value) (w : World) : (callFunc f xs).run P w = .ok (.enter f xs) w := by
  obtain ⟨fn, h1, h2⟩ := h
  simp only [Bool.and_eq_true, Bool.not_eq_true'] at h2
  have hn : ¬ fn.name = "runtime.NumGoroutine" := by simpa using h2.2
  simp [callFunc, h1, hn, Option.isSome_iff_ne_none.1 h2.1]
end Go.Sx
set_option linter.unusedSimpArgs false
set_option linter.unusedVariables false
namespace Go.Lx
open Go
open Go.Sx (NP Keeps Hp Keep0 TI TEnv TOk)
inductive PV where
  | int (k : IntKind) (n : Int)
  | bool (b : Bool)
  | str (s : List UInt8)
  | agg (cs : List PV)
  | sl (xs : List PV)
  | nils
  | e0
  | nilp
  | fn (f : FuncId)
  | tup (vs : List PV)
def PV.cells : PV → List PV
  | .agg cs => cs
  | x => [x]
def PV.one : PV → Bool
  | .agg _ => false
  | .tup _ => false
  | _ => true
def PV.isAgg : PV → Bool
  | .agg _ => true
  | _ => false
def flat : List PV → List PV
  | [] => []
  | x :: r => x.cells ++ flat r
theorem flat_eq (xs : List PV) : flat xs = xs.flatMap PV.cells := by
  induction xs with
  | nil => rfl
  | cons x r ih => simp [flat, ih]
def PV.wf (sz : Nat) (x : PV) : Prop := x.cells.length = sz ∧ ∀ u ∈ x.cells, u.one = true
def Wf (sz : Nat) (xs : List PV) : Prop := ∀ x ∈ xs, x.wf sz
theorem lt_of_some {α : Type} {l : List α} {i : Nat} {x : α} (h : l[i]? = some x) : i < l.length := (List.getElem?_eq_some_iff.1 h).1
theorem Wf.nil {sz : Nat} : Wf sz [] := fun _ h => by cases h
theorem Wf.append {sz : Nat} {xs ys : List PV} (h : Wf sz xs) (k : Wf sz ys) : Wf sz (xs ++ ys) := fun x hx => by
  rcases List.mem_append.1 hx with c | c
  · exact h x c
  · exact k x c
theorem Wf.take {sz n : Nat} {xs : List PV} (h : Wf sz xs) : Wf sz (xs.take n) := fun x hx => h x (List.mem_of_mem_take hx)
theorem Wf.drop {sz n : Nat} {xs : List PV} (h : Wf sz xs) : Wf sz (xs.drop n) := fun x hx => h x (List.mem_of_mem_drop hx)
theorem Wf.set {sz n : Nat} {xs : List PV} {y : PV} (h : Wf sz xs) (hy : y.wf sz) : Wf sz (xs.set n y) := fun x hx => by
  rcases List.mem_or_eq_of_mem_set hx with c | c
  · exact h x c
  · exact c ▸ hy
theorem flat_append (a b : List PV) : flat (a ++ b) = flat a ++ flat b := by simp [flat_eq]
theorem flat_length {sz : Nat} : ∀ {xs : List PV}, Wf sz xs → (flat xs).length = xs.length * sz
  | [], _ => by simp [flat]
  | x :: r, h => by
    have h1 := (h x (by simp)).1
    have h2 := flat_length (xs := r) fun y hy => h y (by simp [hy])
    simp only [flat, List.length_append, h1, h2, List.length_cons, Nat.succ_mul]; omega
theorem flat_drop {sz : Nat} : ∀ {xs : List PV}, Wf sz xs → ∀ n, flat (xs.drop n) = (flat xs).drop (n * sz)
  | [], _, n => by simp [flat]
  | x :: r, h, 0 => by simp
  | x :: r, h, n + 1 => by
    have h1 := (h x (by simp)).1
    rw [List.drop_succ_cons, flat_drop (xs := r) (fun y hy => h y (by simp [hy])) n, show flat (x :: r) = x.cells ++ flat r from rfl, Nat.succ_mul, List.drop_append]
    rw [List.drop_eq_nil_of_le (as := x.cells) (by omega), List.nil_append, show n * sz + sz - x.cells.length = n * sz by omega]
theorem flat_take {sz : Nat} : ∀ {xs : List PV}, Wf sz xs → ∀ n, flat (xs.take n) = (flat xs).take (n * sz)
  | [], _, n => by simp [flat]
  | x :: r, h, 0 => by simp [flat]
  | x :: r, h, n + 1 => by
    have h1 := (h x (by simp)).1
    rw [List.take_succ_cons, show flat (x :: r) = x.cells ++ flat r from rfl, show flat (x :: r.take n) = x.cells ++ flat (r.take n) from rfl, flat_take (xs := r) (fun y hy => h y (by simp [hy])) n, Nat.succ_mul, List.take_append]
    rw [List.take_of_length_le (l := x.cells) (by omega), show n * sz + sz - x.cells.length = n * sz by omega]
theorem flat_get {sz : Nat} {xs : List PV} (h : Wf sz xs) {i r : Nat} {y u : PV} (hy : xs[i]? = some y) (hr : y.cells[r]? = some u) : (flat xs)[i * sz + r]? = some u := by
  have h1 : (flat xs).drop (i * sz) = y.cells ++ flat (xs.drop (i + 1)) := by
    rw [← flat_drop h, ]
    obtain ⟨hlt, he⟩ := List.getElem?_eq_some_iff.1 hy
    rw [List.drop_eq_getElem_cons hlt, he]; rfl
  have h2 : ((flat xs).drop (i * sz))[r]? = some u := by
    rw [h1, List.getElem?_append_left (List.getElem?_eq_some_iff.1 hr).1]; exact hr
  rwa [List.getElem?_drop] at h2
theorem flat_one {sz : Nat} {xs : List PV} (h : Wf sz xs) : ∀ u ∈ flat xs, u.one = true := by
  intro u hu
  rw [flat_eq] at hu
  obtain ⟨y, hy, hu⟩ := List.mem_flatMap.1 hu
  exact (h y hy).2 u hu
def SetAt (H : Hp) (b off : Nat) (cs : List PV) (val : Nat → Value) : Prop :=
  ¬ H.M b ∧ b < H.w.heap.size ∧ ∃ c T fz, H.w.heap[b]? = some (.cells c T fz) ∧ ∀ j u, cs[j]? = some u → c[off + j]? = some (val j)
theorem SetAt.mono {H H' : Hp} {b off : Nat} {cs : List PV} {val : Nat → Value} (h : SetAt H b off cs val) (hl : H.Le H') : SetAt H' b off cs val := by
  obtain ⟨hm, hb, c, T, fz, hc, hj⟩ := h
  have := hl.block b ⟨c, T, fz, hc⟩ hm
  exact ⟨this.2, Nat.lt_of_lt_of_le hb hl.size, c, T, fz, this.1.trans hc, hj⟩
inductive PV.Den (H : Hp) : PV → Value → Prop
  | int (k : IntKind) (n : Int) : PV.Den H (.int k n) (.int k n)
  | bool (b : Bool) : PV.Den H (.bool b) (.bool b)
  | str (s : List UInt8) : PV.Den H (.str s) (.string ⟨s.toArray⟩)
  | agg (cs : List PV) (xs : Array Value) (hl : xs.size = cs.length) (h : ∀ (i : Nat) (c : PV) (v : Value), cs[i]? = some c → xs[i]? = some v → PV.Den H c v) : PV.Den H (.agg cs) (.agg xs)
  | sle (a : Option Addr) (c : Nat) (h : a = none → c = 0) : PV.Den H (.sl []) (.slice a 0 c)
  | sl (xs : List PV) (b off sz c : Nat) (val : Nat → Value) (hw : Wf sz xs) (hc : xs.length ≤ c ∧ c ≤ maxLen) (hs : SetAt H b off (flat xs) val) (hd : ∀ (j : Nat) (u : PV), (flat xs)[j]? = some u → PV.Den H u (val j)) :
      PV.Den H (.sl xs) (.slice (some ⟨b, off, none⟩) xs.length c)
  | nils : PV.Den H .nils (.slice none 0 0)
  | e0 (a : Option Addr) : PV.Den H .e0 (.slice a 0 0)
  | nilp : PV.Den H .nilp (.pointer none)
  | fn (f : FuncId) : PV.Den H (.fn f) (.func (.func f) #[] #[])
  | tup (vs : List PV) (xs : Array Value) (hl : xs.size = vs.length) (h : ∀ (i : Nat) (c : PV) (v : Value), vs[i]? = some c → xs[i]? = some v → PV.Den H c v) : PV.Den H (.tup vs) (.tuple xs)
theorem PV.Den.mono {H H' : Hp} {x : PV} {v : Value} (h : PV.Den H x v) (hl : H.Le H') : PV.Den H' x v := by
  induction h with
  | int k n => exact .int k n
  | bool b => exact .bool b
  | str s => exact .str s
  | agg cs xs h1 _ ih => exact .agg cs xs h1 ih
  | sle a c h => exact .sle a c h
  | sl xs b off sz c val hw hc hs _ ih => exact .sl xs b off sz c val hw hc (hs.mono hl) ih
  | nils => exact .nils
  | e0 a => exact .e0 a
  | nilp => exact .nilp
  | fn f => exact .fn f
  | tup vs xs h1 _ ih => exact .tup vs xs h1 ih
theorem PV.Den.one {H : Hp} {x : PV} {v : Value} (h : PV.Den H x v) (ho : x.one = true) : v.oneCell' = true ∧ v.cells = #[v] := by
  cases h <;> first | (exact ⟨rfl, rfl⟩) | cases ho
inductive V where
  | p (x : PV)
  | any
  | raw (v : Value)
  | own (i off : Nat)
  | ap (i sz k o : Nat)
  | imm (sz : Nat) (y : PV) (o : Nat)
  | vw (i sz off n : Nat) (cap : Option Nat)
  | agg (cs : List V)
  | fn (f : FuncId) (caps : List V)
  | tup (vs : List V)
structure Ev where
  n : Nat
  ρ : Nat → Nat
  κ : Nat → Nat
  nl : Nat → Bool
  len : Nat → Nat
  sz : Nat → Nat
structure Ev.At (E E' : Ev) (i : Nat) : Prop where
  ρ : E'.ρ i = E.ρ i
  κ : E'.κ i = E.κ i
  nl : E'.nl i = E.nl i
  len : E'.len i = E.len i
  sz : E'.sz i = E.sz i
theorem Ev.At.refl (E : Ev) (i : Nat) : E.At E i := ⟨rfl, rfl, rfl, rfl, rfl⟩
structure Ev.Le (E E' : Ev) : Prop where
  n : E.n ≤ E'.n
  at' : ∀ i, i < E.n → E.At E' i
theorem Ev.Le.refl (E : Ev) : E.Le E := ⟨Nat.le_refl _, fun i _ => .refl E i⟩
inductive V.Den (H : Hp) (E : Ev) : V → Value → Prop
  | p (x : PV) (v : Value) (h : PV.Den H x v) : V.Den H E (.p x) v
  | any (v : Value) : V.Den H E .any v
  | raw (v : Value) : V.Den H E (.raw v) v
  | own (i off : Nat) (h : i < E.n) : V.Den H E (.own i off) (.pointer (some ⟨E.ρ i, off, none⟩))
  | ap (i sz k o : Nat) (h : i < E.n) (hn : E.nl i = false) (hz : E.sz i = sz) : V.Den H E (.ap i sz k o) (.pointer (some ⟨E.ρ i, k * sz + o, none⟩))
  | imm (sz : Nat) (y : PV) (o b off : Nat) (val : Nat → Value) (hw : y.wf sz) (hs : SetAt H b off y.cells val) (hd : ∀ (j : Nat) (u : PV), y.cells[j]? = some u → PV.Den H u (val j)) : V.Den H E (.imm sz y o) (.pointer (some ⟨b, off + o, none⟩))
  | vwn (i sz : Nat) (cap : Option Nat) (a : Option Addr) (h : i < E.n) (hn : E.nl i = true) (hz : E.sz i = sz) (hc : cap.getD 0 = 0) : V.Den H E (.vw i sz 0 0 cap) (.slice a 0 0)
  | vw (i sz off n : Nat) (cap : Option Nat) (a : Addr) (c : Nat) (h : i < E.n) (hn : E.nl i = false) (hc : off + c = cap.getD (E.κ i)) (hk : off + c ≤ E.κ i) (hl : n ≤ c) (hx : off + n ≤ E.len i) (hz : E.sz i = sz) (ha : a = ⟨E.ρ i, off * sz, none⟩ ∨ c = 0) :
      V.Den H E (.vw i sz off n cap) (.slice (some a) n c)
  | agg (cs : List V) (xs : Array Value) (hl : xs.size = cs.length) (h : ∀ (i : Nat) (c : V) (v : Value), cs[i]? = some c → xs[i]? = some v → V.Den H E c v) : V.Den H E (.agg cs) (.agg xs)
  | fn (f : FuncId) (cs : List V) (xs : Array Value) (hl : xs.size = cs.length) (h : ∀ (i : Nat) (c : V) (v : Value), cs[i]? = some c → xs[i]? = some v → V.Den H E c v) : V.Den H E (.fn f cs) (.func (.func f) #[] xs)
  | tup (cs : List V) (xs : Array Value) (hl : xs.size = cs.length) (h : ∀ (i : Nat) (c : V) (v : Value), cs[i]? = some c → xs[i]? = some v → V.Den H E c v) : V.Den H E (.tup cs) (.tuple xs)
theorem V.Den.mono {H H' : Hp} {E E' : Ev} {x : V} {v : Value} (h : V.Den H E x v) (hl : H.Le H') (he : E.Le E') : V.Den H' E' x v := by
  induction h with
  | p x v h => exact .p x v (h.mono hl)
  | any v => exact .any v
  | raw v => exact .raw v
  | own i off h => rw [← (he.at' i h).ρ]; exact .own i off (Nat.lt_of_lt_of_le h he.n)
  | ap i sz k o h hn hz => rw [← (he.at' i h).ρ]; exact .ap i sz k o (Nat.lt_of_lt_of_le h he.n) ((he.at' i h).nl.trans hn) ((he.at' i h).sz.trans hz)
  | imm sz y o b off val hw hs hd => exact .imm sz y o b off val hw (hs.mono hl) fun j u hj => (hd j u hj).mono hl
  | vwn i sz cap a h hn hz hc => exact .vwn i sz cap a (Nat.lt_of_lt_of_le h he.n) ((he.at' i h).nl.trans hn) ((he.at' i h).sz.trans hz) hc
  | vw i sz off n cap a c h hn hc hk hln hx hz ha =>
    have e := he.at' i h
    exact .vw i sz off n cap a c (Nat.lt_of_lt_of_le h he.n) (e.nl.trans hn) (by rw [e.κ]; exact hc) (by rw [e.κ]; exact hk) hln (by rw [e.len]; exact hx) (e.sz.trans hz) (by rw [e.ρ]; exact ha)
  | agg cs xs h1 _ ih => exact .agg cs xs h1 ih
  | fn f cs xs h1 _ ih => exact .fn f cs xs h1 ih
  | tup cs xs h1 _ ih => exact .tup cs xs h1 ih
def DenL (H : Hp) (E : Ev) (cs : List V) (vs : List Value) : Prop := vs.length = cs.length ∧ ∀ (i : Nat) (c : V) (v : Value), cs[i]? = some c → vs[i]? = some v → V.Den H E c v
theorem DenL.mono {H H' : Hp} {E E' : Ev} {cs : List V} {vs : List Value} (h : DenL H E cs vs) (hl : H.Le H') (he : E.Le E') : DenL H' E' cs vs := ⟨h.1, fun i c v h1 h2 => (h.2 i c v h1 h2).mono hl he⟩
theorem DenL.get {H : Hp} {E : Ev} {cs : List V} {vs : List Value} (h : DenL H E cs vs) {i : Nat} {c : V} (hc : cs[i]? = some c) : ∃ v, vs[i]? = some v ∧ V.Den H E c v := by
  have hlt := (List.getElem?_eq_some_iff.1 hc).1
  have hlt' : i < vs.length := by rw [h.1]; exact hlt
  exact ⟨vs[i], List.getElem?_eq_getElem hlt', h.2 i c _ hc (List.getElem?_eq_getElem hlt')⟩
theorem DenL.nil {H : Hp} {E : Ev} : DenL H E [] [] := ⟨rfl, fun i c v h => by simp at h⟩
theorem DenL.cons {H : Hp} {E : Ev} {c : V} {v : Value} {cs : List V} {vs : List Value} (h : V.Den H E c v) (k : DenL H E cs vs) : DenL H E (c :: cs) (v :: vs) := by
  refine ⟨by simp [k.1], fun i c' v' h1 h2 => ?_⟩
  cases i with
  | zero => simp at h1 h2; subst h1 h2; exact h
  | succ i => exact k.2 i c' v' (by simpa using h1) (by simpa using h2)
theorem DenL.append {H : Hp} {E : Ev} {cs cs' : List V} {vs vs' : List Value} (h : DenL H E cs vs) (k : DenL H E cs' vs') : DenL H E (cs ++ cs') (vs ++ vs') := by
  refine ⟨by simp [h.1, k.1], fun i c v h1 h2 => ?_⟩
  by_cases hi : i < cs.length
  · rw [List.getElem?_append_left hi] at h1
    rw [List.getElem?_append_left (by rw [h.1]; exact hi)] at h2
    exact h.2 i c v h1 h2
  · rw [List.getElem?_append_right (by omega)] at h1
    rw [List.getElem?_append_right (by rw [h.1]; omega), h.1] at h2
    exact k.2 _ c v h1 h2
theorem DenL.take {H : Hp} {E : Ev} {cs : List V} {vs : List Value} (h : DenL H E cs vs) (n : Nat) : DenL H E (cs.take n) (vs.take n) := by
  refine ⟨by simp [h.1], fun i c v h1 h2 => ?_⟩
  rw [List.getElem?_take] at h1 h2
  split at h1
  · rename_i hi; rw [if_pos hi] at h2; exact h.2 i c v h1 h2
  · cases h1
theorem DenL.drop {H : Hp} {E : Ev} {cs : List V} {vs : List Value} (h : DenL H E cs vs) (n : Nat) : DenL H E (cs.drop n) (vs.drop n) := by
  refine ⟨by simp [h.1], fun i c v h1 h2 => ?_⟩
  rw [List.getElem?_drop] at h1 h2
  exact h.2 _ c v h1 h2
theorem DenL.set {H : Hp} {E : Ev} {cs : List V} {vs : List Value} {c : V} {v : Value} (h : DenL H E cs vs) (k : V.Den H E c v) (n : Nat) : DenL H E (cs.set n c) (vs.set n v) := by
  refine ⟨by simp [h.1], fun i c' v' h1 h2 => ?_⟩
  rw [List.getElem?_set] at h1 h2
  split at h1
  · rename_i hi; subst hi
    split at h1
    · rename_i hlt; rw [if_pos rfl, if_pos (by rw [h.1]; exact hlt)] at h2; cases h1; cases h2; exact k
    · cases h1
  · rename_i hi; rw [if_neg hi] at h2; exact h.2 i c' v' h1 h2
theorem DenL.map {H H' : Hp} {E E' : Ev} {f : V → V} (hf : ∀ c v, V.Den H E c v → V.Den H' E' (f c) v) {cs : List V} {vs : List Value} (h : DenL H E cs vs) : DenL H' E' (cs.map f) vs := by
  refine ⟨by simp [h.1], fun i c v h1 h2 => ?_⟩
  rw [List.getElem?_map] at h1
  cases hc : cs[i]? with
  | none => rw [hc] at h1; cases h1
  | some c0 => rw [hc] at h1; cases h1; exact hf _ _ (h.2 i c0 v hc h2)
def plain : V → Option PV
  | .p x => some x
  | _ => none
def plains : List V → Option (List PV)
  | [] => some []
  | x :: r => match plain x, plains r with
    | some y, some l => some (y :: l)
    | _, _ => none
theorem plains_eq : ∀ {l : List V} {xs : List PV}, plains l = some xs → l = xs.map .p
  | [], xs, h => by simp [plains] at h; subst h; rfl
  | x :: r, xs, h => by
    simp only [plains] at h
    split at h
    · rename_i y l h1 h2
      cases h
      cases x <;> simp [plain] at h1
      subst h1
      simp [plains_eq h2]
    · cases h
theorem DenL.plain {H : Hp} {E : Ev} {l : List PV} {vs : List Value} (h : DenL H E (l.map .p) vs) : vs.length = l.length ∧ ∀ (i : Nat) (c : PV) (v : Value), l[i]? = some c → vs[i]? = some v → PV.Den H c v := by
  refine ⟨by simpa using h.1, fun i c v hc hv => ?_⟩
  cases h.2 i (.p c) v (by simp [hc]) hv
  assumption
def mkAgg (cs : List V) : V :=
  match plains cs with
  | some l => .p (.agg l)
  | none => .agg cs
theorem mkAgg_den {H : Hp} {E : Ev} {cs : List V} {vs : List Value} (h : DenL H E cs vs) : V.Den H E (mkAgg cs) (.agg vs.toArray) := by
  unfold mkAgg
  split
  · rename_i l hl
    rw [plains_eq hl] at h
    obtain ⟨h1, h2⟩ := h.plain
    exact .p _ _ (.agg _ _ (by simpa using h1) fun i c v hc hv => h2 i c v hc (by simpa using hv))
  · exact .agg _ _ (by simpa using h.1) fun i c v hc hv => h.2 i c v hc (by simpa using hv)
def mkTup (cs : List V) : V :=
  match plains cs with
  | some l => .p (.tup l)
  | none => .tup cs
theorem mkTup_den {H : Hp} {E : Ev} {cs : List V} {vs : List Value} (h : DenL H E cs vs) : V.Den H E (mkTup cs) (.tuple vs.toArray) := by
  unfold mkTup
  split
  · rename_i l hl
    rw [plains_eq hl] at h
    obtain ⟨h1, h2⟩ := h.plain
    exact .p _ _ (.tup _ _ (by simpa using h1) fun i c v hc hv => h2 i c v hc (by simpa using hv))
  · exact .tup _ _ (by simpa using h.1) fun i c v hc hv => h.2 i c v hc (by simpa using hv)
/-! ### What a call owns -/
inductive Res where
  | st (T : TypeId) (cells : List V)
  | arr (T : TypeId) (sz : Nat) (xs : List PV)
  | dead
def ArrAt (H : Hp) (b κ : Nat) (T : TypeId) (sz : Nat) (xs : List PV) : Prop :=
  xs.length ≤ κ ∧ κ ≤ maxLen ∧ ∃ c, H.w.heap[b]? = some (.cells c T (0, 0)) ∧ κ * sz ≤ c.size ∧ ∃ val : Nat → Value, ∀ j u, (flat xs)[j]? = some u → c[j]? = some (val j) ∧ PV.Den H u (val j)
def Holds (H : Hp) (E : Ev) (F : Nat → NP) (i : Nat) (r : Res) : Prop :=
  match r with
  | .st T cells => E.nl i = false ∧ (∀ k, F i k ↔ k = E.ρ i) ∧ ∃ vals : List Value, H.w.heap[E.ρ i]? = some (.cells vals.toArray T (0, 0)) ∧ DenL H E cells vals
  | .arr T sz xs => 0 < sz ∧ Wf sz xs ∧ E.len i = xs.length ∧ E.sz i = sz ∧ ((E.nl i = true ∧ xs = [] ∧ ∀ k, ¬ F i k) ∨ (E.nl i = false ∧ (∀ k, F i k ↔ k = E.ρ i) ∧ ArrAt H (E.ρ i) (E.κ i) T sz xs))
  | .dead => ∀ k, ¬ F i k
theorem Holds.lt {H : Hp} {E : Ev} {F : Nat → NP} {i : Nat} {r : Res} (h : Holds H E F i r) : ∀ k, F i k → k < H.w.heap.size := by
  have key : ∀ {b : Nat} {o : Obj}, H.w.heap[b]? = some o → b < H.w.heap.size := fun {b o} hb => (Array.getElem?_eq_some_iff.1 hb).1
  intro k hk
  cases r with
  | st T cells => obtain ⟨_, h1, vals, h2, _⟩ := h; rw [(h1 k).1 hk]; exact key h2
  | arr T sz xs =>
    obtain ⟨_, _, _, _, ⟨_, _, h1⟩ | ⟨_, h1, _, _, c, h2, _⟩⟩ := h
    · exact (h1 k hk).elim
    · rw [(h1 k).1 hk]; exact key h2
  | dead => exact (h k hk).elim
theorem Holds.cellAt {H : Hp} {E : Ev} {F : Nat → NP} {i : Nat} {r : Res} (h : Holds H E F i r) : ∀ k, F i k → Sx.CellAt H.w k := by
  intro k hk
  cases r with
  | st T cells => obtain ⟨_, h1, vals, h2, _⟩ := h; rw [(h1 k).1 hk]; exact ⟨_, _, _, h2⟩
  | arr T sz xs =>
    obtain ⟨_, _, _, _, ⟨_, _, h1⟩ | ⟨_, h1, _, _, c, h2, _⟩⟩ := h
    · exact (h1 k hk).elim
    · rw [(h1 k).1 hk]; exact ⟨_, _, _, h2⟩
  | dead => exact (h k hk).elim
def Res.map (f : V → V) : Res → Res
  | .st T cells => .st T (cells.map f)
  | .arr T sz xs => .arr T sz xs
  | .dead => .dead
theorem Holds.stay {H H' : Hp} {E E' : Ev} {F F' : Nat → NP} {f : V → V} {i : Nat} {r : Res} (h : Holds H E F i r) (hl : H.Le H') (ha : E.At E' i) (hf : ∀ c v, V.Den H E c v → V.Den H' E' (f c) v)
    (hF : F' i = F i) (hw : ∀ k, F i k → H'.w.heap[k]? = H.w.heap[k]?) : Holds H' E' F' i (r.map f) := by
  cases r with
  | st T cells =>
    obtain ⟨h0, h1, vals, h2, h3⟩ := h
    exact ⟨ha.nl.trans h0, fun k => by rw [hF, ha.ρ]; exact h1 k, vals, by rw [ha.ρ, hw _ ((h1 _).2 rfl)]; exact h2, h3.map hf⟩
  | arr T sz xs =>
    obtain ⟨hp, hwf, hln, hz, h⟩ := h
    refine ⟨hp, hwf, ha.len.trans hln, ha.sz.trans hz, ?_⟩
    rcases h with ⟨h0, h1, h2⟩ | ⟨h0, h1, h2, h3, c, h4, h5, val, h6⟩
    · exact .inl ⟨ha.nl.trans h0, h1, fun k => by rw [hF]; exact h2 k⟩
    · refine .inr ⟨ha.nl.trans h0, fun k => by rw [hF, ha.ρ]; exact h1 k, by rw [ha.κ]; exact h2, by rw [ha.κ]; exact h3, c, ?_, by rw [ha.κ]; exact h5, val, fun j u hj => ⟨(h6 j u hj).1, (h6 j u hj).2.mono hl⟩⟩
      rw [ha.ρ, hw _ ((h1 _).2 rfl)]; exact h4
  | dead => intro k; rw [hF]; exact h k
structure Base where
  M0 : NP
  w0 : World
  E0 : Ev
  F0 : Nat → NP
  own0 : List Res
  dfr : List Deferred
  marks : Bool
  X0 : NP
  rec' : Option (Nat × Loop)
abbrev Base.S0 (B : Base) : NP := fun k => (∃ i, B.F0 i k) ∨ B.X0 k
abbrev Base.rn (B : Base) : Option Nat := B.rec'.map Prod.fst
structure St where
  n : Nat
  fr : List (Nat × V)
  own : List Res
def look : List (Nat × V) → Nat → Option V
  | [], _ => none
  | (k, v) :: r, t => match Nat.beq k t with
    | true => some v
    | false => look r t
theorem look_cons (d : Nat) (v : V) (fr : List (Nat × V)) (t : Nat) : look ((d, v) :: fr) t = if t = d then some v else look fr t := by
  simp only [look]
  split
  · rename_i h; have := Nat.eq_of_beq_eq_true h; subst this; simp
  · rename_i h
    rw [if_neg]; rintro rfl; simp at h
def frMap (f : V → V) : List (Nat × V) → List (Nat × V)
  | [] => []
  | (k, v) :: r => (k, f v) :: frMap f r
theorem look_frMap (f : V → V) : ∀ (fr : List (Nat × V)) (t : Nat), look (frMap f fr) t = (look fr t).map f
  | [], t => rfl
  | (k, v) :: r, t => by
    rw [frMap, look_cons, look_cons, look_frMap f r t]
    split <;> simp
abbrev nowM (B : Base) (F : Nat → NP) : NP := fun k => B.M0 k ∨ ∃ i, F i k
def mark (D : Nat) : Deferred := { target := .collected D, args := #[] }
def DfOk (B : Base) (F : Nat → NP) (ds : List Deferred) (w : World) : Prop :=
  ∃ ms : List Nat, ds = ms.map mark ++ B.dfr ∧ (B.marks = false → ms = []) ∧ ms.Nodup ∧ ∀ D ∈ ms, B.w0.heap.size ≤ D ∧ (∀ i, ¬ F i D) ∧ w.heap[D]? = some (.deferred (some []))
theorem DfOk.step {B : Base} {F F' : Nat → NP} {ds : List Deferred} {w w' : World} (h : DfOk B F ds w) (hk : Keeps (fun k => ∃ i, F i k) w w') (hf : ∀ i k, F' i k → (∃ j, F j k) ∨ w.heap.size ≤ k) : DfOk B F' ds w' := by
  obtain ⟨ms, h1, h0, h2, h3⟩ := h
  refine ⟨ms, h1, h0, h2, fun D hD => ?_⟩
  obtain ⟨g1, g2, g3⟩ := h3 D hD
  have hlt := (Array.getElem?_eq_some_iff.1 g3).1
  refine ⟨g1, fun i c => ?_, (hk.block D hlt fun ⟨i, c⟩ => g2 i c).trans g3⟩
  rcases hf i D c with ⟨j, c⟩ | c
  · exact g2 j c
  · omega
theorem DfOk.sub {B : Base} {F F' : Nat → NP} {ds : List Deferred} {w : World} (h : DfOk B F ds w) (hf : ∀ i k, F' i k → ∃ j, F j k) : DfOk B F' ds w := h.step (Keeps.refl _ _) fun i k c => .inl (hf i k c)
structure Inv (B : Base) (st : St) (E : Ev) (F : Nat → NP) (a : Act) (w : World) : Prop where
  n : a.tmps.size = st.n
  en : E.n = st.own.length
  slot : ∀ t v, look st.fr t = some v → V.Den ⟨nowM B F, w⟩ E v (a.tmps.getD t undef)
  defers : DfOk B F a.defers w
  held : ∀ (i : Nat) (r : Res), st.own[i]? = some r → Holds ⟨nowM B F, w⟩ E F i r
  apart : ∀ i j, i ≠ j → ∀ k, F i k → ¬ F j k
  low : ∀ i, st.own.length ≤ i → ∀ k, ¬ F i k
  keep : Keeps B.S0 B.w0 w
  fresh : ∀ i k, F i k → B.F0 i k ∨ B.w0.heap.size ≤ k
  olen : B.own0.length ≤ st.own.length
  pin : ∀ (i : Nat) (T : TypeId) (c : List V), B.own0[i]? = some (.st T c) → E.ρ i = B.E0.ρ i ∧ ∃ c', st.own[i]? = some (.st T c')
  bd : ∀ k, B.M0 k → k < B.w0.heap.size
  low0 : ∀ i, B.own0.length ≤ i → ∀ k, ¬ B.F0 i k
  rc : ∀ l r, B.rec' = some (l, r) → w.heap[l]? = some (.loop r)
theorem Inv.foot_lt {B : Base} {st : St} {E : Ev} {F : Nat → NP} {a : Act} {w : World} (hI : Inv B st E F a w) : ∀ i k, F i k → k < w.heap.size := by
  intro i k hk
  by_cases hi : i < st.own.length
  · exact (hI.held i _ (List.getElem?_eq_getElem hi)).lt k hk
  · exact (hI.low i (by omega) k hk).elim
theorem Inv.footCell {B : Base} {st : St} {E : Ev} {F : Nat → NP} {a : Act} {w : World} (hI : Inv B st E F a w) : ∀ i k, F i k → Sx.CellAt w k := by
  intro i k hk
  by_cases hi : i < st.own.length
  · exact (hI.held i _ (List.getElem?_eq_getElem hi)).cellAt k hk
  · exact (hI.low i (by omega) k hk).elim
theorem Inv.nowBd {B : Base} {st : St} {E : Ev} {F : Nat → NP} {a : Act} {w : World} (hI : Inv B st E F a w) : ∀ k, nowM B F k → k < w.heap.size := by
  rintro k (hk | ⟨i, hk⟩)
  · exact Nat.lt_of_lt_of_le (hI.bd k hk) hI.keep.size
  · exact hI.foot_lt i k hk
theorem Res.map_id (r : Res) : r.map (fun v => v) = r := by cases r <;> simp [Res.map]
theorem Inv.book {B : Base} {st : St} {E : Ev} {F : Nat → NP} {a a' : Act} {w w' : World} (hI : Inv B st E F a w) (ho : w'.os = w.os) (ht : w'.tape = w.tape) (hp : w'.output = w.output) (hs : w.heap.size ≤ w'.heap.size)
    (hc : ∀ k, Sx.CellAt w k → w'.heap[k]? = w.heap[k]?) (hl : ∀ k, k < B.w0.heap.size → ¬ B.X0 k → w'.heap[k]? = w.heap[k]?) (hrc : ∀ l r, B.rec' = some (l, r) → w'.heap[l]? = some (.loop r)) (hm : a'.tmps = a.tmps) (hd : DfOk B F a'.defers w') : Inv B st E F a' w' := by
  have hle : Hp.Le ⟨nowM B F, w⟩ ⟨nowM B F, w'⟩ := ⟨ho, ht, hp, hs, fun k hk hm => ⟨hc k hk, hm⟩⟩
  refine ⟨by rw [hm]; exact hI.n, hI.en, fun t v hv => by rw [hm]; exact (hI.slot t v hv).mono hle (.refl E), hd, fun i r hr => by
    have := (hI.held i r hr).stay (f := fun v => v) hle (.refl E i) (fun c v h => h.mono hle (.refl E)) rfl (fun k hk => hc k ((hI.held i r hr).cellAt k hk))
    rwa [Res.map_id] at this, hI.apart, hI.low, ⟨ho.trans hI.keep.os, ht.trans hI.keep.tape, hp.trans hI.keep.output, Nat.le_trans hI.keep.size hs, fun k hk hn => (hl k hk fun c => hn (.inr c)).trans (hI.keep.block k hk hn)⟩, hI.fresh, hI.olen, hI.pin, hI.bd, hI.low0, hrc⟩
theorem Inv.put {B : Base} {st : St} {E : Ev} {F : Nat → NP} {a : Act} {w : World} (h : Inv B st E F a w) {d : Nat} {v : V} {x : Value} (hv : V.Den ⟨nowM B F, w⟩ E v x) (hd : d < st.n) :
    Inv B { st with fr := (d, v) :: st.fr } E F (a.put (some d) x) w := by
  refine ⟨by simp [Act.put, h.n], h.en, fun t u hu => ?_, h.defers, h.held, h.apart, h.low, h.keep, h.fresh, h.olen, h.pin, h.bd, h.low0, h.rc⟩
  rw [look_cons] at hu
  have hd' : d < a.tmps.size := by rw [h.n]; exact hd
  split at hu
  · rename_i e; subst e; cases hu
    simpa [Act.put, hd'] using hv
  · rename_i e
    have := h.slot t u hu
    have e2 : (a.put (some d) x).tmps.getD t undef = a.tmps.getD t undef := by simp [Act.put, Ne.symm e]
    rw [e2]; exact this
theorem Inv.weaken {B : Base} {st : St} {E : Ev} {F : Nat → NP} {a : Act} {w : World} (h : Inv B st E F a w) (fr : List (Nat × V)) (hf : ∀ t v, look fr t = some v → look st.fr t = some v) : Inv B { st with fr := fr } E F a w :=
  ⟨h.n, h.en, fun t v ht => h.slot t v (hf t v ht), h.defers, h.held, h.apart, h.low, h.keep, h.fresh, h.olen, h.pin, h.bd, h.low0, h.rc⟩
/-! ### Steps -/
theorem Inv.le {B : Base} {st : St} {E : Ev} {F F' : Nat → NP} {a : Act} {w w' : World} (hI : Inv B st E F a w) (hk : Keeps (fun k => ∃ i, F i k) w w') (hf : ∀ i k, F' i k → F i k ∨ w.heap.size ≤ k) :
    Hp.Le ⟨nowM B F, w⟩ ⟨nowM B F', w'⟩ := by
  refine ⟨hk.os, hk.tape, hk.output, hk.size, fun k hkk hm => ?_⟩
  refine ⟨hk.block k hkk.lt fun c => hm (.inr c), ?_⟩
  rintro (c | ⟨i, c⟩)
  · exact hm (.inl c)
  · rcases hf i k c with c | c
    · exact hm (.inr ⟨i, c⟩)
    · have : k < w.heap.size := hkk.lt
      omega
theorem Inv.step {B : Base} {st : St} {E E' : Ev} {F F' : Nat → NP} {a : Act} {w w' : World} (hI : Inv B st E F a w) {f : V → V} {own' : List Res} (hk : Keeps (fun k => ∃ i, F i k) w w')
    (hf : ∀ i k, F' i k → F i k ∨ w.heap.size ≤ k) (hden : ∀ c v, V.Den ⟨nowM B F, w⟩ E c v → V.Den ⟨nowM B F', w'⟩ E' (f c) v) (hn : E'.n = own'.length) (hol : B.own0.length ≤ own'.length)
    (held : ∀ (i : Nat) (r : Res), own'[i]? = some r → Holds ⟨nowM B F', w'⟩ E' F' i r) (apart : ∀ i j, i ≠ j → ∀ k, F' i k → ¬ F' j k) (low : ∀ i, own'.length ≤ i → ∀ k, ¬ F' i k)
    (hp : ∀ (i : Nat) (T : TypeId) (c : List V), st.own[i]? = some (.st T c) → i < B.own0.length → E'.ρ i = E.ρ i ∧ ∃ c', own'[i]? = some (.st T c')) : Inv B ⟨st.n, frMap f st.fr, own'⟩ E' F' a w' := by
  refine ⟨hI.n, hn, fun t v ht => ?_, hI.defers.step hk (fun i k c => (hf i k c).imp (fun c => ⟨i, c⟩) id), held, apart, low, ?_, fun i k hkk => ?_, hol, fun i T c hb => by
      obtain ⟨h1, c', h2⟩ := hI.pin i T c hb
      obtain ⟨h3, h4⟩ := hp i T c' h2 (lt_of_some hb)
      exact ⟨h3.trans h1, h4⟩, hI.bd, hI.low0, fun l r hl => by
      have h1 := hI.rc l r hl
      refine (hk.block l (Array.getElem?_eq_some_iff.1 h1).1 fun ⟨i, c⟩ => ?_).trans h1
      obtain ⟨c2, T, fz, h2⟩ := hI.footCell i l c
      rw [h1] at h2; cases h2⟩
  · rw [look_frMap] at ht
    cases hl : look st.fr t with
    | none => rw [hl] at ht; cases ht
    | some u => rw [hl] at ht; cases ht; exact hden _ _ (hI.slot t u hl)
  · exact hI.keep.step hk fun i hi ⟨j, c⟩ => by
      rcases hI.fresh j i c with h | h
      · exact .inl ⟨j, h⟩
      · omega
  · rcases hf i k hkk with c | c
    · exact hI.fresh i k c
    · right; have := hI.keep.size; omega
theorem apart_of {F F' : Nat → NP} {N j : Nat} (ha : ∀ i j, i ≠ j → ∀ k, F i k → ¬ F j k) (hlt : ∀ i k, F i k → k < N) (hj : ∀ k, F' j k → F j k ∨ N ≤ k) (ho : ∀ i, i ≠ j → F' i = F i) : ∀ i i', i ≠ i' → ∀ k, F' i k → ¬ F' i' k := by
  intro i i' hii k h1 h2
  by_cases e1 : i = j
  · subst e1
    rw [ho i' (Ne.symm hii)] at h2
    rcases hj k h1 with c | c
    · exact ha i i' hii k c h2
    · have := hlt i' k h2; omega
  · rw [ho i e1] at h1
    by_cases e2 : i' = j
    · subst e2
      rcases hj k h2 with c | c
      · exact ha i i' hii k h1 c
      · have := hlt i k h1; omega
    · rw [ho i' e2] at h2
      exact ha i i' hii k h1 h2
theorem frMap_id : ∀ fr : List (Nat × V), frMap (fun v => v) fr = fr
  | [] => rfl
  | (k, v) :: r => by rw [frMap, frMap_id r]
mutual
/-- What hung on a row that may have moved is not known any more. -/
def V.kill (j : Nat) : V → V
  | .own i off => match Nat.beq i j with | true => .any | false => .own i off
  | .ap i sz k o => match Nat.beq i j with | true => .any | false => .ap i sz k o
  | .vw i sz off n cap => match Nat.beq i j with | true => .any | false => .vw i sz off n cap
  | .agg cs => .agg (V.kills j cs)
  | .fn f cs => .fn f (V.kills j cs)
  | .tup cs => .tup (V.kills j cs)
  | .p x => .p x
  | .any => .any
  | .raw v => .raw v
  | .imm sz y o => .imm sz y o
def V.kills (j : Nat) : List V → List V
  | [] => []
  | c :: r => V.kill j c :: V.kills j r
end
theorem V.kills_eq (j : Nat) : ∀ cs : List V, V.kills j cs = cs.map (V.kill j)
  | [] => rfl
  | c :: r => by rw [V.kills, V.kills_eq j r]; rfl
theorem beq_ne {i j : Nat} (h : Nat.beq i j = false) : i ≠ j := by rintro rfl; simp at h
theorem V.Den.kill {H H' : Hp} {E E' : Ev} {j : Nat} (hl : H.Le H') (hn : E.n ≤ E'.n) (he : ∀ i, i < E.n → i ≠ j → E.At E' i) {x : V} {v : Value} (h : V.Den H E x v) : V.Den H' E' (x.kill j) v := by
  induction h with
  | p x v h => exact .p x v (h.mono hl)
  | any v => exact .any v
  | raw v => exact .raw v
  | own i off h =>
    simp only [V.kill]; split
    · exact .any _
    · rename_i hb; rw [← (he i h (beq_ne hb)).ρ]; exact .own i off (Nat.lt_of_lt_of_le h hn)
  | ap i sz k o h h0 hz =>
    simp only [V.kill]; split
    · exact .any _
    · rename_i hb; rw [← (he i h (beq_ne hb)).ρ]; exact .ap i sz k o (Nat.lt_of_lt_of_le h hn) ((he i h (beq_ne hb)).nl.trans h0) ((he i h (beq_ne hb)).sz.trans hz)
  | imm sz y o b off val hw hs hd => exact .imm sz y o b off val hw (hs.mono hl) fun j u hj => (hd j u hj).mono hl
  | vwn i sz cap a h h0 hz hc =>
    simp only [V.kill]; split
    · exact .any _
    · rename_i hb; exact .vwn i sz cap a (Nat.lt_of_lt_of_le h hn) ((he i h (beq_ne hb)).nl.trans h0) ((he i h (beq_ne hb)).sz.trans hz) hc
  | vw i sz off n cap a c h h0 hc hk hln hx hz ha =>
    simp only [V.kill]; split
    · exact .any _
    · rename_i hb
      have e := he i h (beq_ne hb)
      exact .vw i sz off n cap a c (Nat.lt_of_lt_of_le h hn) (e.nl.trans h0) (by rw [e.κ]; exact hc) (by rw [e.κ]; exact hk) hln (by rw [e.len]; exact hx) (e.sz.trans hz) (by rw [e.ρ]; exact ha)
  | agg cs xs h1 _ ih =>
    rw [V.kill, V.kills_eq]
    refine .agg _ xs (by simp [h1]) fun i c v hc hv => ?_
    rw [List.getElem?_map] at hc
    cases hcs : cs[i]? with
    | none => rw [hcs] at hc; cases hc
    | some c0 => rw [hcs] at hc; cases hc; exact ih i c0 v hcs hv
  | fn f cs xs h1 _ ih =>
    rw [V.kill, V.kills_eq]
    refine .fn f _ xs (by simp [h1]) fun i c v hc hv => ?_
    rw [List.getElem?_map] at hc
    cases hcs : cs[i]? with
    | none => rw [hcs] at hc; cases hc
    | some c0 => rw [hcs] at hc; cases hc; exact ih i c0 v hcs hv
  | tup cs xs h1 _ ih =>
    rw [V.kill, V.kills_eq]
    refine .tup _ xs (by simp [h1]) fun i c v hc hv => ?_
    rw [List.getElem?_map] at hc
    cases hcs : cs[i]? with
    | none => rw [hcs] at hc; cases hc
    | some c0 => rw [hcs] at hc; cases hc; exact ih i c0 v hcs hv
end Go.Lx
set_option linter.unusedSimpArgs false
set_option linter.unusedVariables false
namespace Go.Lx
open Go
open Go.Sx (NP Keeps Hp Keep0 TI TEnv TOk)
structure Prot (D : NP) (w w' : World) : Prop where
  os : w'.os = w.os
  tape : w'.tape = w.tape
  output : w'.output = w.output
  size : w.heap.size ≤ w'.heap.size
  block : ∀ k, k < w.heap.size → D k → w'.heap[k]? = w.heap[k]?
theorem Prot.refl (D : NP) (w : World) : Prot D w w := ⟨rfl, rfl, rfl, Nat.le_refl _, fun _ _ _ => rfl⟩
theorem Prot.trans {D D' : NP} {a b c : World} (h : Prot D a b) (k : Prot D' b c) (hd : ∀ i, i < a.heap.size → D i → D' i) : Prot D a c :=
  ⟨k.os.trans h.os, k.tape.trans h.tape, k.output.trans h.output, Nat.le_trans h.size k.size, fun i hi hD => (k.block i (Nat.lt_of_lt_of_le hi h.size) (hd i hi hD)).trans (h.block i hi hD)⟩
def DD (B : Base) (F : Nat → NP) (X : Nat → Bool) : NP := fun b => ¬ nowM B F b ∨ ∃ i, X i = false ∧ F i b
def Post (B : Base) (st : St) (F : Nat → NP) (a : Act) (w : World) (X : Nat → Bool) (k : V → List Res → (V → V) → Prop) (x : Value) (w' : World) : Prop :=
  ∃ v own' f E' F', V.Den ⟨nowM B F', w'⟩ E' v x ∧ Inv B ⟨st.n, frMap f st.fr, own'⟩ E' F' a w' ∧ Prot (DD B F X) w w' ∧ (∀ b, b < w.heap.size → DD B F X b → DD B F' X b) ∧ k v own' f
theorem Post.of {B : Base} {st : St} {E E' : Ev} {F F' : Nat → NP} {a : Act} {w w' : World} {X : Nat → Bool} {k : V → List Res → (V → V) → Prop} {x : Value} {v : V} {own' : List Res} {f : V → V} (hI : Inv B st E F a w)
    (hI' : Inv B ⟨st.n, frMap f st.fr, own'⟩ E' F' a w') (hk : Keeps (fun k => ∃ i, X i = true ∧ F i k) w w') (hf : ∀ i k, F' i k → F i k ∨ w.heap.size ≤ k) (hX : ∀ i k, X i = false → F i k → F' i k)
    (hv : V.Den ⟨nowM B F', w'⟩ E' v x) (h : k v own' f) : Post B st F a w X k x w' := by
  refine ⟨v, own', f, E', F', hv, hI', ⟨hk.os, hk.tape, hk.output, hk.size, fun b hb hd => hk.block b hb ?_⟩, fun b hb hd => ?_, h⟩
  · rintro ⟨i, hi, hF⟩
    rcases hd with hd | ⟨j, hj, hF'⟩
    · exact hd (.inr ⟨i, hF⟩)
    · exact hI.apart i j (by rintro rfl; rw [hi] at hj; cases hj) b hF hF'
  · rcases hd with hd | ⟨j, hj, hF'⟩
    · refine .inl ?_
      rintro (c | ⟨i, c⟩)
      · exact hd (.inl c)
      · rcases hf i b c with c | c
        · exact hd (.inr ⟨i, c⟩)
        · omega
    · exact .inr ⟨j, hj, hX j b hj hF'⟩
theorem touch {F : Nat → NP} {w w' : World} {i : Nat} (h : Keeps (F i) w w') : Keeps (fun k => ∃ i, F i k) w w' := h.mono fun k _ c => ⟨i, c⟩
theorem keepsNone {S : NP} {w w' : World} (h : Keep0 w w') : Keeps S w w' := h.mono fun k _ c => c.elim
theorem Inv.world {B : Base} {st : St} {E : Ev} {F : Nat → NP} {a : Act} {w w' : World} (hI : Inv B st E F a w) (hk : Keep0 w w') : Inv B st E F a w' := by
  have hle := hI.le (F' := F) (keepsNone hk) (fun i k h => .inl h)
  have := hI.step (f := fun v => v) (own' := st.own) (E' := E) (F' := F) (keepsNone hk) (fun i k h => .inl h) (fun c v h => h.mono hle (.refl E)) hI.en hI.olen
    (fun i r hr => by
      have := (hI.held i r hr).stay (f := fun v => v) hle (.refl E i) (fun c v h => h.mono hle (.refl E)) rfl (fun k hk' => hk.block k (hI.foot_lt i k hk') fun c => c)
      have e : r.map (fun v => v) = r := by cases r <;> simp [Res.map]
      rwa [e] at this) hI.apart hI.low (fun i T c h _ => ⟨rfl, c, h⟩)
  rwa [frMap_id] at this
theorem Inv.new {B : Base} {st : St} {E E' : Ev} {F F' : Nat → NP} {a : Act} {w w' : World} (hI : Inv B st E F a w) (hk : Keep0 w w') {r : Res} (hE : E.Le E') (hn : E'.n = st.own.length + 1)
    (hF : ∀ i, i ≠ st.own.length → F' i = F i) (hG : ∀ k, F' st.own.length k → w.heap.size ≤ k) (hr : Holds ⟨nowM B F', w'⟩ E' F' st.own.length r) :
    Inv B { st with own := st.own ++ [r] } E' F' a w' := by
  have hf : ∀ i k, F' i k → F i k ∨ w.heap.size ≤ k := fun i k h => by
    by_cases hi : i = st.own.length
    · subst hi; exact .inr (hG k h)
    · rw [hF i hi] at h; exact .inl h
  have hle := hI.le (F' := F') (keepsNone hk) hf
  have := hI.step (f := fun v => v) (own' := st.own ++ [r]) (E' := E') (F' := F') (keepsNone hk) hf (fun c v h => h.mono hle hE) (by simp [hn]) (by have := hI.olen; simp; omega)
    (fun i r' hr' => by
      by_cases hi : i < st.own.length
      · rw [List.getElem?_append_left hi] at hr'
        have := (hI.held i r' hr').stay (f := fun v => v) hle (hE.at' i (by rw [hI.en]; exact hi)) (fun c v h => h.mono hle hE) (hF i (by omega)) (fun k hk' => hk.block k (hI.foot_lt i k hk') fun c => c)
        have e : r'.map (fun v => v) = r' := by cases r' <;> simp [Res.map]
        rwa [e] at this
      · have hil := lt_of_some hr'
        have hie : i = st.own.length := by simp at hil; omega
        subst hie
        simp at hr'; subst hr'; exact hr)
    (apart_of hI.apart hI.foot_lt (j := st.own.length) (fun k h => .inr (hG k h)) hF)
    (fun i hi k h => by simp at hi; rw [hF i (by omega)] at h; exact hI.low i (by omega) k h)
    (fun i T c h _ => ⟨(hE.at' i (by rw [hI.en]; exact lt_of_some h)).ρ, c, by rw [List.getElem?_append_left (lt_of_some h)]; exact h⟩)
  rwa [frMap_id] at this
theorem Inv.set {B : Base} {st : St} {E E' : Ev} {F F' : Nat → NP} {a : Act} {w w' : World} (hI : Inv B st E F a w) {j : Nat} (hj : j < st.own.length) (hk : Keeps (F j) w w') {r : Res} {f : V → V} (hn : E'.n = E.n)
    (hE : ∀ i, i < E.n → i ≠ j → E.At E' i) (hp : ∀ T c, st.own[j]? = some (.st T c) → j < B.own0.length → E'.ρ j = E.ρ j ∧ ∃ c', r = .st T c')
    (hF : ∀ i, i ≠ j → F' i = F i) (hG : ∀ k, F' j k → F j k ∨ w.heap.size ≤ k) (hf : ∀ c v, V.Den ⟨nowM B F, w⟩ E c v → V.Den ⟨nowM B F', w'⟩ E' (f c) v) (hr : Holds ⟨nowM B F', w'⟩ E' F' j r) :
    Inv B ⟨st.n, frMap f st.fr, (st.own.map (Res.map f)).set j r⟩ E' F' a w' := by
  have hf' : ∀ i k, F' i k → F i k ∨ w.heap.size ≤ k := fun i k h => by
    by_cases hi : i = j
    · subst hi; exact hG k h
    · rw [hF i hi] at h; exact .inl h
  have hle := hI.le (F' := F') (touch hk) hf'
  refine hI.step (touch hk) hf' hf (by simp [hn, hI.en]) (by simpa using hI.olen) (fun i r' hr' => ?_) (apart_of hI.apart hI.foot_lt hG hF) (fun i hi k h => ?_) (fun i T c h hi0 => ?_)
  · by_cases hi : i = j
    · subst hi
      rw [List.getElem?_set_self (by simpa using hj)] at hr'
      cases hr'; exact hr
    · rw [List.getElem?_set_ne (Ne.symm hi), List.getElem?_map] at hr'
      cases ho : st.own[i]? with
      | none => rw [ho] at hr'; cases hr'
      | some r0 =>
        rw [ho] at hr'; cases hr'
        exact (hI.held i r0 ho).stay hle (hE i (by rw [hI.en]; exact lt_of_some ho) hi) hf (hF i hi) (fun k hk' => hk.block k (hI.foot_lt i k hk') fun c => hI.apart i j hi k hk' c)
  · simp at hi
    rw [hF i (by omega)] at h; exact hI.low i hi k h
  · by_cases hi : i = j
    · subst hi
      obtain ⟨h1, c', h2⟩ := hp T c h hi0
      exact ⟨h1, c', by rw [List.getElem?_set_self (by simpa using hj), h2]⟩
    · refine ⟨(hE i (by rw [hI.en]; exact lt_of_some h) hi).ρ, c.map f, ?_⟩
      rw [List.getElem?_set_ne (Ne.symm hi), List.getElem?_map, h]; rfl
theorem resMap_id (own : List Res) : own.map (Res.map fun v => v) = own := by
  have : (Res.map fun v => v) = id := funext fun r => by cases r <;> simp [Res.map]
  rw [this]; simp
theorem Inv.set1 {B : Base} {st : St} {E : Ev} {F : Nat → NP} {a : Act} {w w' : World} (hI : Inv B st E F a w) {j : Nat} (hj : j < st.own.length) (hk : Keeps (F j) w w') {r : Res}
    (hr : Holds ⟨nowM B F, w'⟩ E F j r) (hk' : ∀ T c, st.own[j]? = some (.st T c) → ∃ c', r = .st T c') : Inv B { st with own := st.own.set j r } E F a w' := by
  have hle := hI.le (F' := F) (touch hk) (fun i k h => .inl h)
  have := hI.set (f := fun v => v) (E' := E) (F' := F) hj hk rfl (fun i _ _ => .refl E i) (fun T c h _ => ⟨rfl, hk' T c h⟩) (fun _ _ => rfl) (fun k h => .inl h) (fun c v h => h.mono hle (.refl E)) hr
  rwa [frMap_id, resMap_id] at this
theorem Keep0.alloc (w : World) (o : Obj) : Keep0 w (w.alloc o) := ⟨rfl, rfl, rfl, by simp, fun k hk _ => heap_alloc_old w o hk⟩
theorem Keep0.drewAlloc (w : World) (o : Obj) : Keep0 w (w.drew.alloc o) := ⟨rfl, rfl, rfl, by show w.heap.size ≤ (w.heap.push o).size; simp, fun k hk _ => heap_alloc_old w.drew o hk⟩
theorem Keep0.drew (w : World) : Keep0 w w.drew := ⟨rfl, rfl, rfl, Nat.le_refl _, fun k hk _ => rfl⟩
def Ev.push (E : Ev) (b κ len sz : Nat) (nl : Bool) : Ev := ⟨E.n + 1, fun i => if i = E.n then b else E.ρ i, fun i => if i = E.n then κ else E.κ i, fun i => if i = E.n then nl else E.nl i, fun i => if i = E.n then len else E.len i, fun i => if i = E.n then sz else E.sz i⟩
theorem Ev.push_le (E : Ev) (b κ len sz : Nat) (nl : Bool) : E.Le (E.push b κ len sz nl) :=
  ⟨Nat.le_succ _, fun i hi => ⟨by simp [Ev.push]; omega, by simp [Ev.push]; omega, by simp [Ev.push, show i ≠ E.n by omega], by simp [Ev.push]; omega, by simp [Ev.push]; omega⟩⟩
def pushF (F : Nat → NP) (n : Nat) (G : NP) : Nat → NP := fun i => if i = n then G else F i
theorem pushF_ne {F : Nat → NP} {n : Nat} {G : NP} : ∀ i, i ≠ n → pushF F n G i = F i := fun i h => by simp [pushF, h]
theorem pushF_self {F : Nat → NP} {n : Nat} {G : NP} : pushF F n G n = G := by simp [pushF]
theorem Inv.newSt {B : Base} {st : St} {E : Ev} {F : Nat → NP} {a : Act} {w : World} (hI : Inv B st E F a w) (T : TypeId) {cells : List V} {vals : List Value} (h : DenL ⟨nowM B F, w⟩ E cells vals) :
    Inv B { st with own := st.own ++ [.st T cells] } (E.push w.heap.size 0 0 0 false) (pushF F st.own.length fun k => k = w.heap.size) a (w.alloc (.cells vals.toArray T)) := by
  have hle := hI.le (F' := pushF F st.own.length fun k => k = w.heap.size) (keepsNone (Keep0.alloc w (.cells vals.toArray T))) (fun i k h => by
    by_cases hi : i = st.own.length
    · subst hi; rw [pushF_self] at h; exact .inr (Nat.le_of_eq h.symm)
    · rw [pushF_ne i hi] at h; exact .inl h)
  refine hI.new (Keep0.alloc w _) (E.push_le _ _ _ _ _) (by simp [Ev.push, hI.en]) pushF_ne (fun k h => by rw [pushF_self] at h; exact Nat.le_of_eq h.symm) ?_
  have e : (E.push w.heap.size 0 0 0 false).ρ st.own.length = w.heap.size := by simp [Ev.push, hI.en]
  refine ⟨by simp [Ev.push, hI.en], fun k => by rw [pushF_self, e], vals, ?_, h.mono hle (E.push_le _ _ _ _ _)⟩
  rw [e]; exact heap_alloc_new w _
theorem Inv.newArr {B : Base} {st : St} {E : Ev} {F : Nat → NP} {a : Act} {w w' : World} (hI : Inv B st E F a w) (hk : Keep0 w w') {T : TypeId} {sz : Nat} {xs : List PV} {b κ : Nat} (hb : w.heap.size ≤ b) (hsz : 0 < sz) (hw : Wf sz xs)
    (h : ∀ M, (∀ k, M k → nowM B F k ∨ w.heap.size ≤ k) → ArrAt ⟨M, w'⟩ b κ T sz xs) :
    Inv B { st with own := st.own ++ [.arr T sz xs] } (E.push b κ xs.length sz false) (pushF F st.own.length fun k => k = b) a w' := by
  refine hI.new hk (E.push_le _ _ _ _ _) (by simp [Ev.push, hI.en]) pushF_ne (fun k h => by rw [pushF_self] at h; rw [h]; exact hb) ?_
  refine ⟨hsz, hw, by simp [Ev.push, hI.en], by simp [Ev.push, hI.en], .inr ⟨by simp [Ev.push, hI.en], fun k => by rw [pushF_self]; simp [Ev.push, hI.en], ?_⟩⟩
  have e1 : (E.push b κ xs.length sz false).ρ st.own.length = b := by simp [Ev.push, hI.en]
  have e2 : (E.push b κ xs.length sz false).κ st.own.length = κ := by simp [Ev.push, hI.en]
  rw [e1, e2]
  refine h _ fun k hk => ?_
  rcases hk with c | ⟨i, c⟩
  · exact .inl (.inl c)
  · by_cases hi : i = st.own.length
    · subst hi; rw [pushF_self] at c; rw [c]; exact .inr hb
    · rw [pushF_ne i hi] at c; exact .inl (.inr ⟨i, c⟩)
theorem Inv.newHollow {B : Base} {st : St} {E : Ev} {F : Nat → NP} {a : Act} {w w' : World} (hI : Inv B st E F a w) (hk : Keep0 w w') (T : TypeId) {sz : Nat} (hsz : 0 < sz) :
    Inv B { st with own := st.own ++ [.arr T sz []] } (E.push 0 0 0 sz true) F a w' := by
  refine hI.new hk (E.push_le _ _ _ _ _) (by simp [Ev.push, hI.en]) (fun _ _ => rfl) (fun k h => (hI.low _ (Nat.le_refl _) k h).elim) ?_
  exact ⟨hsz, Wf.nil, by simp [Ev.push, hI.en], by simp [Ev.push, hI.en], .inl ⟨by simp [Ev.push, hI.en], rfl, hI.low _ (Nat.le_refl _)⟩⟩
def Ev.put (E : Ev) (j b κ len sz : Nat) (nl : Bool) : Ev := ⟨E.n, fun i => if i = j then b else E.ρ i, fun i => if i = j then κ else E.κ i, fun i => if i = j then nl else E.nl i, fun i => if i = j then len else E.len i, fun i => if i = j then sz else E.sz i⟩
theorem Ev.put_at {E : Ev} {j b κ len sz : Nat} {nl : Bool} {i : Nat} (h : i ≠ j) : E.At (E.put j b κ len sz nl) i := ⟨by simp [Ev.put, h], by simp [Ev.put, h], by simp [Ev.put, h], by simp [Ev.put, h], by simp [Ev.put, h]⟩
theorem Inv.moveArr {B : Base} {st : St} {E : Ev} {F : Nat → NP} {a : Act} {w w' : World} (hI : Inv B st E F a w) {j : Nat} (hj : j < st.own.length) (hnp : ∀ T c, st.own[j]? ≠ some (.st T c)) (hk : Keeps (F j) w w') {T : TypeId} {sz : Nat} {xs : List PV} {b κ : Nat}
    (hb : F j b ∨ w.heap.size ≤ b) (hsz : 0 < sz) (hw : Wf sz xs) (h : ∀ M, Hp.Le ⟨nowM B F, w⟩ ⟨M, w'⟩ → ArrAt ⟨M, w'⟩ b κ T sz xs) :
    Inv B ⟨st.n, frMap (V.kill j) st.fr, (st.own.map (Res.map (V.kill j))).set j (.arr T sz xs)⟩ (E.put j b κ xs.length sz false) (pushF F j fun k => k = b) a w' := by
  have hf : ∀ i k, pushF F j (fun k => k = b) i k → F i k ∨ w.heap.size ≤ k := fun i k h => by
    by_cases hi : i = j
    · subst hi; rw [pushF_self] at h; rw [h]; exact hb
    · rw [pushF_ne i hi] at h; exact .inl h
  have hle := hI.le (F' := pushF F j fun k => k = b) (touch hk) hf
  refine hI.set (E' := E.put j b κ xs.length sz false) (F' := pushF F j fun k => k = b) (f := V.kill j) hj hk rfl (fun i _ hi => Ev.put_at hi) (fun T c h _ => (hnp T c h).elim) pushF_ne (fun k h => by rw [pushF_self] at h; rw [h]; exact hb)
    (fun c v hc => V.Den.kill (E := E) (E' := E.put j b κ xs.length sz false) hle (show E.n ≤ E.n from Nat.le_refl _) (fun i _ hi => Ev.put_at hi) hc) ?_
  refine ⟨hsz, hw, by simp [Ev.put], by simp [Ev.put], .inr ⟨by simp [Ev.put], fun k => by rw [pushF_self]; simp [Ev.put], ?_⟩⟩
  have e1 : (E.put j b κ xs.length sz false).ρ j = b := by simp [Ev.put]
  have e2 : (E.put j b κ xs.length sz false).κ j = κ := by simp [Ev.put]
  rw [e1, e2]
  exact h _ hle
mutual
/-- What hung on a row that is left as it is. -/
def V.frz (j : Nat) (xs : List PV) : V → V
  | .own i off => match Nat.beq i j with | true => .any | false => .own i off
  | .ap i sz k o => match Nat.beq i j with | true => .any | false => .ap i sz k o
  | .vw i sz off n cap => match Nat.beq i j with | true => .p (.sl ((xs.drop off).take n)) | false => .vw i sz off n cap
  | .agg cs => mkAgg (V.frzs j xs cs)
  | .fn f cs => .fn f (V.frzs j xs cs)
  | .tup cs => mkTup (V.frzs j xs cs)
  | .p x => .p x
  | .any => .any
  | .raw v => .raw v
  | .imm sz y o => .imm sz y o
def V.frzs (j : Nat) (xs : List PV) : List V → List V
  | [] => []
  | c :: r => V.frz j xs c :: V.frzs j xs r
end
theorem V.frzs_eq (j : Nat) (xs : List PV) : ∀ cs : List V, V.frzs j xs cs = cs.map (V.frz j xs)
  | [] => rfl
  | c :: r => by rw [V.frzs, V.frzs_eq j xs r]; rfl
theorem V.Den.frz {B : Base} {st : St} {E : Ev} {F : Nat → NP} {a : Act} {w : World} (hI : Inv B st E F a w) {j : Nat} {T : TypeId} {sz : Nat} {xs : List PV} (hj : st.own[j]? = some (.arr T sz xs)) {H' : Hp} (hle : Hp.Le ⟨nowM B F, w⟩ H') (hw : H'.w = w)
    (hM : ∀ k, F j k → ¬ H'.M k) {x : V} {v : Value} (h : V.Den ⟨nowM B F, w⟩ E x v) : V.Den H' E (x.frz j xs) v := by
  obtain ⟨hsz, hwf, hlen, hez, hrow⟩ := hI.held j _ hj
  induction h with
  | p x v h => exact .p x v (h.mono hle)
  | any v => exact .any v
  | raw v => exact .raw v
  | own i off h =>
    simp only [V.frz]; split
    · exact .any _
    · exact .own i off h
  | ap i sz k o h h0 hz =>
    simp only [V.frz]; split
    · exact .any _
    · exact .ap i sz k o h h0 hz
  | imm sz y o b off val hw hs hd => exact .imm sz y o b off val hw (hs.mono hle) fun j u hj => (hd j u hj).mono hle
  | vwn i sz cap a h h0 hz hc =>
    simp only [V.frz]; split
    · simp only [List.take_zero]; exact .p _ _ (.sle a 0 fun _ => rfl)
    · exact .vwn i sz cap a h h0 hz hc
  | vw i sz2 off n cap a c h h0 hc hk hln hx hz ha =>
    simp only [V.frz]; split
    · rename_i hb
      have := Nat.eq_of_beq_eq_true hb
      subst this
      refine .p _ _ ?_
      rcases hrow with ⟨h1, _, _⟩ | ⟨_, hF, hl1, hl2, cc, hcc, hcs, val, hval⟩
      · rw [h0] at h1; cases h1
      · by_cases hn : n = 0
        · subst hn; rw [List.take_zero]; exact .sle _ _ fun h => by cases h
        · have ha : a = ⟨E.ρ i, off * sz2, none⟩ := ha.resolve_right (by omega)
          have hlx : ((xs.drop off).take n).length = n := by simp; omega
          have e2 : sz2 = sz := hz.symm.trans hez
          subst e2
          have hfl : flat ((xs.drop off).take n) = ((flat xs).drop (off * sz2)).take (n * sz2) := by rw [flat_take hwf.drop, flat_drop hwf]
          have hpt : ∀ j u, (flat ((xs.drop off).take n))[j]? = some u → (flat xs)[off * sz2 + j]? = some u := by
            intro j u hj
            rw [hfl, List.getElem?_take] at hj
            split at hj
            · rwa [List.getElem?_drop] at hj
            · cases hj
          have hFb : F i (E.ρ i) := (hF _).2 rfl
          have key := PV.Den.sl (H := H') ((xs.drop off).take n) (E.ρ i) (off * sz2) sz2 c (fun j => val (off * sz2 + j)) hwf.drop.take ⟨by omega, by omega⟩
            ⟨hM _ hFb, by rw [hw]; exact hI.foot_lt i _ hFb, cc, T, (0, 0), by rw [hw]; exact hcc, fun j u hj => (hval _ u (hpt j u hj)).1⟩ (fun j u hj => (hval _ u (hpt j u hj)).2.mono hle)
          rw [hlx] at key
          rw [ha]; exact key
    · exact .vw i sz2 off n cap a c h h0 hc hk hln hx hz ha
  | agg cs xs' h1 _ ih =>
    rw [V.frz, V.frzs_eq]
    have hd : DenL H' E (cs.map (V.frz j xs)) xs'.toList := by
      refine ⟨by simp [h1], fun i c v hc hv => ?_⟩
      rw [List.getElem?_map] at hc
      cases hcs : cs[i]? with
      | none => rw [hcs] at hc; cases hc
      | some c0 => rw [hcs] at hc; cases hc; exact ih i c0 v hcs (by simpa using hv)
    exact mkAgg_den hd
  | fn f cs xs' h1 _ ih =>
    rw [V.frz, V.frzs_eq]
    refine .fn f _ xs' (by simp [h1]) fun i c v hc hv => ?_
    rw [List.getElem?_map] at hc
    cases hcs : cs[i]? with
    | none => rw [hcs] at hc; cases hc
    | some c0 => rw [hcs] at hc; cases hc; exact ih i c0 v hcs hv
  | tup cs xs' h1 _ ih =>
    rw [V.frz, V.frzs_eq]
    have hd : DenL H' E (cs.map (V.frz j xs)) xs'.toList := by
      refine ⟨by simp [h1], fun i c v hc hv => ?_⟩
      rw [List.getElem?_map] at hc
      cases hcs : cs[i]? with
      | none => rw [hcs] at hc; cases hc
      | some c0 => rw [hcs] at hc; cases hc; exact ih i c0 v hcs (by simpa using hv)
    exact mkTup_den hd
theorem Inv.freeze {B : Base} {st : St} {E : Ev} {F : Nat → NP} {a : Act} {w : World} (hI : Inv B st E F a w) {j : Nat} {T : TypeId} {sz : Nat} {xs : List PV} (hj : st.own[j]? = some (.arr T sz xs)) (hnl : B.own0.length ≤ j) :
    Inv B ⟨st.n, frMap (V.frz j xs) st.fr, (st.own.map (Res.map (V.frz j xs))).set j .dead⟩ E (pushF F j fun _ => False) a w := by
  have hjl := lt_of_some hj
  have hf : ∀ i k, pushF F j (fun _ => False) i k → F i k ∨ w.heap.size ≤ k := fun i k h => by
    by_cases hi : i = j
    · subst hi; rw [pushF_self] at h; exact h.elim
    · rw [pushF_ne i hi] at h; exact .inl h
  have hle := hI.le (F' := pushF F j fun _ => False) (keepsNone (Keeps.refl _ w)) hf
  refine hI.set (E' := E) (F' := pushF F j fun _ => False) (f := V.frz j xs) hjl (Keeps.refl _ w) rfl (fun i _ hi => .refl E i) (fun T c h _ => by rw [hj] at h; cases h) pushF_ne (fun k h => by rw [pushF_self] at h; exact h.elim)
    (fun c v hc => hc.frz hI hj hle rfl fun k hk => ?_) ?_
  · rintro (c | ⟨i, c⟩)
    · have h1 := hI.bd k c
      rcases hI.fresh j k hk with h2 | h2
      · exact hI.low0 j hnl k h2
      · omega
    · by_cases hi : i = j
      · subst hi; rw [pushF_self] at c; exact c
      · rw [pushF_ne i hi] at c; exact hI.apart i j hi k c hk
  · intro k; rw [pushF_self]; exact fun h => h
end Go.Lx
set_option linter.unusedSimpArgs false
set_option linter.unusedVariables false
namespace Go.Lx
open Go
open Go.Sx (NP Keeps Hp Keep0 TI TEnv TOk Kd Ar ArEq binI isShift ikEq litOf kdInt)
structure Lr where
  a : Ar
  cat : List UInt8 → List UInt8 → List UInt8
  sq : List UInt8 → List UInt8 → Bool
  sl : List UInt8 → List UInt8 → Bool
  imin : Int → Int → Int
  imax : Int → Int → Int
  smin : List UInt8 → List UInt8 → List UInt8
  smax : List UInt8 → List UInt8 → List UInt8
  len : List PV → Int
  slen : List UInt8 → Int
  u8 : UInt8 → Int
structure LrEq (cat : List UInt8 → List UInt8 → List UInt8) (sq sl : List UInt8 → List UInt8 → Bool) (imin imax : Int → Int → Int) (smin smax : List UInt8 → List UInt8 → List UInt8) (len : List PV → Int) (slen : List UInt8 → Int) (u8 : UInt8 → Int) : Prop where
  cat : ∀ a b, cat a b = a ++ b
  sq : ∀ a b, sq a b = decide (a = b)
  sl : ∀ a b, sl a b = Op.bytesLess a b
  imin : ∀ a b, imin a b = if b < a then b else a
  imax : ∀ a b, imax a b = if b > a then b else a
  smin : ∀ a b, smin a b = if Op.bytesLess a b || decide (a = b) then a else b
  smax : ∀ a b, smax a b = if Op.bytesLess a b then b else a
  len : ∀ xs, len xs = xs.length
  slen : ∀ xs, slen xs = xs.length
  u8 : ∀ b, u8 b = b.toNat
def pv1 : Value → Option PV
  | .int k n => some (.int k n)
  | .bool b => some (.bool b)
  | .string s => some (.str s.data.toList)
  | .slice none n c => match Nat.beq n 0, Nat.beq c 0 with
    | true, true => some .nils
    | _, _ => none
  | .pointer none => some .nilp
  | .func (.func f) a b => match a.toList, b.toList with
    | [], [] => some (.fn f)
    | _, _ => none
  | _ => none
def pvs : List Value → Option (List PV)
  | [] => some []
  | v :: r => match pv1 v, pvs r with
    | some x, some l => some (x :: l)
    | _, _ => none
def pvC : Value → Option PV
  | .agg cs => match pvs cs.toList with
    | some l => some (.agg l)
    | none => none
  | .tuple cs => match pvs cs.toList with
    | some l => some (.tup l)
    | none => none
  | v => pv1 v
theorem pv1_den {H : Hp} {v : Value} {x : PV} (h : pv1 v = some x) : PV.Den H x v ∧ x.one = true := by
  unfold pv1 at h
  split at h
  · cases h; exact ⟨.int _ _, rfl⟩
  · cases h; exact ⟨.bool _, rfl⟩
  · rename_i s; cases h
    have := PV.Den.str (H := H) s.data.toList
    simp only [Array.toArray_toList] at this
    exact ⟨this, rfl⟩
  · split at h
    · rename_i h1 h2
      cases h
      rw [Nat.eq_of_beq_eq_true h1, Nat.eq_of_beq_eq_true h2]
      exact ⟨.nils, rfl⟩
    · cases h
  · cases h; exact ⟨.nilp, rfl⟩
  · split at h
    · rename_i h1 h2
      cases h
      rw [show _ = (#[] : Array Value) from Array.toList_inj.1 h1, show _ = (#[] : Array Value) from Array.toList_inj.1 h2]
      exact ⟨.fn _, rfl⟩
    · cases h
  · cases h
theorem pvs_den {H : Hp} : ∀ {vs : List Value} {l : List PV}, pvs vs = some l → vs.length = l.length ∧ ∀ (i : Nat) (c : PV) (v : Value), l[i]? = some c → vs[i]? = some v → PV.Den H c v
  | [], l, h => by simp [pvs] at h; subst h; exact ⟨rfl, fun i c v h => by simp at h⟩
  | v :: r, l, h => by
    simp only [pvs] at h
    split at h
    · rename_i x l' h1 h2
      cases h
      obtain ⟨h3, h4⟩ := pvs_den (H := H) h2
      refine ⟨by simp [h3], fun i c u hc hu => ?_⟩
      cases i with
      | zero => simp at hc hu; subst hc hu; exact (pv1_den h1).1
      | succ i => exact h4 i c u (by simpa using hc) (by simpa using hu)
    · cases h
theorem pvs_one : ∀ {vs : List Value} {l : List PV}, pvs vs = some l → ∀ u ∈ l, u.one = true
  | [], l, h => by simp [pvs] at h; subst h; simp
  | v :: r, l, h => by
    simp only [pvs] at h
    split at h
    · rename_i x l' h1 h2
      cases h
      intro u hu
      rcases List.mem_cons.1 hu with c | c
      · rw [c]; exact (pv1_den (H := ⟨fun _ => False, default⟩) h1).2
      · exact pvs_one h2 u c
    · cases h
theorem pvC_den {H : Hp} {v : Value} {x : PV} (h : pvC v = some x) : PV.Den H x v := by
  unfold pvC at h
  split at h
  · rename_i cs
    split at h
    · rename_i l hl
      cases h
      obtain ⟨h1, h2⟩ := pvs_den (H := H) hl
      exact .agg _ _ (by simpa using h1) fun i c v hc hv => h2 i c v hc (by simpa using hv)
    · cases h
  · rename_i cs
    split at h
    · rename_i l hl
      cases h
      obtain ⟨h1, h2⟩ := pvs_den (H := H) hl
      exact .tup _ _ (by simpa using h1) fun i c v hc hv => h2 i c v hc (by simpa using hv)
    · cases h
  · exact (pv1_den h).1
def ev (fr : List (Nat × V)) : Operand → Option V
  | .tmp t => look fr t
  | .const v => match pvC v with
    | some x => some (.p x)
    | none => none
  | .func f => some (.p (.fn f))
  | .global _ => none
theorem Inv.ev {B : Base} {st : St} {E : Ev} {F : Nat → NP} {a : Act} {w : World} (hI : Inv B st E F a w) {x : Operand} {v : V} (hx : ev st.fr x = some v) : V.Den ⟨nowM B F, w⟩ E v (a.eval x) := by
  cases x with
  | tmp t => exact hI.slot t v hx
  | const c =>
    simp only [Lx.ev] at hx
    split at hx
    · rename_i y hy; cases hx; exact .p _ _ (pvC_den hy)
    · cases hx
  | global g => cases hx
  | func f => cases hx; exact .p _ _ (.fn f)
def evs (fr : List (Nat × V)) : List Operand → Option (List V)
  | [] => some []
  | x :: r => match ev fr x, evs fr r with
    | some y, some l => some (y :: l)
    | _, _ => none
theorem evs_ok {B : Base} {st : St} {E : Ev} {F : Nat → NP} {a : Act} {w : World} (hI : Inv B st E F a w) : ∀ {l : List Operand} {xs : List V}, evs st.fr l = some xs → DenL ⟨nowM B F, w⟩ E xs (l.map a.eval)
  | [], xs, h => by simp [evs] at h; subst h; exact DenL.nil
  | x :: r, xs, h => by
    simp only [evs] at h
    split at h
    · rename_i y l h1 h2
      cases h
      exact DenL.cons (hI.ev h1) (evs_ok hI h2)
    · cases h
def mapP : List PV → List V
  | [] => []
  | x :: r => .p x :: mapP r
theorem mapP_eq (l : List PV) : mapP l = l.map .p := by
  induction l with
  | nil => rfl
  | cons x r ih => simp [mapP, ih]
def V.cells : V → List V
  | .p (.agg cs) => mapP cs
  | .agg cs => cs
  | v => [v]
def V.one : V → Bool
  | .p x => x.one
  | .any => false
  | .raw _ => false
  | .agg _ => false
  | .tup _ => false
  | _ => true
def allOne : List V → Bool
  | [] => true
  | v :: r => match v.one with
    | true => allOne r
    | false => false
theorem allOne_mem : ∀ {l : List V}, allOne l = true → ∀ v ∈ l, v.one = true
  | [], _, v, hv => by cases hv
  | x :: r, h, v, hv => by
    simp only [allOne] at h
    split at h
    · rename_i hx
      rcases List.mem_cons.1 hv with c | c
      · rw [c]; exact hx
      · exact allOne_mem h v c
    · cases h
theorem V.Den.one {H : Hp} {E : Ev} {x : V} {v : Value} (h : V.Den H E x v) (ho : x.one = true) : v.oneCell' = true ∧ v.cells = #[v] := by
  cases h <;> first | (exact ⟨rfl, rfl⟩) | (cases ho; done) | skip
  rename_i h
  exact h.one ho
theorem V.Den.cells {H : Hp} {E : Ev} {x : V} {v : Value} (h : V.Den H E x v) (ho : allOne x.cells = true) : DenL H E x.cells v.cells.toList ∧ ∀ u ∈ v.cells.toList, u.oneCell' = true := by
  have key : ∀ {l : List V} {vs : List Value}, DenL H E l vs → allOne l = true → ∀ u ∈ vs, u.oneCell' = true := by
    intro l vs hd ha u hu
    obtain ⟨i, hi, rfl⟩ := List.mem_iff_getElem.1 hu
    have hil : i < l.length := by rw [← hd.1]; exact hi
    exact ((hd.2 i l[i] vs[i] (List.getElem?_eq_getElem hil) (List.getElem?_eq_getElem hi)).one (allOne_mem ha _ (List.getElem_mem hil))).1
  have sing : x.one = true → x.cells = [x] → DenL H E x.cells v.cells.toList ∧ ∀ u ∈ v.cells.toList, u.oneCell' = true := by
    intro h1 h2
    obtain ⟨h3, h4⟩ := h.one h1
    rw [h2, h4]
    exact ⟨DenL.cons h DenL.nil, by simpa using h3⟩
  cases x with
  | p y =>
    cases y with
    | agg cs =>
      cases h with
      | p _ _ h =>
        cases h with
        | agg _ xs hl hh =>
          have hd : DenL H E (mapP cs) xs.toList := by
            rw [mapP_eq]
            refine ⟨by simpa using hl, fun i c v hc hv => ?_⟩
            rw [List.getElem?_map] at hc
            cases hcs : cs[i]? with
            | none => rw [hcs] at hc; cases hc
            | some c0 => rw [hcs] at hc; cases hc; exact .p _ _ (hh i c0 v hcs (by simpa using hv))
          exact ⟨hd, key hd ho⟩
    | tup vs => cases ho
    | _ => exact sing rfl rfl
  | any => cases ho
  | raw v => cases ho
  | tup cs => cases ho
  | agg cs =>
    cases h with
    | agg _ xs hl hh =>
      have hd : DenL H E cs xs.toList := ⟨by simpa using hl, fun i c v hc hv => hh i c v hc (by simpa using hv)⟩
      exact ⟨hd, key hd ho⟩
  | _ => exact sing rfl rfl
def loadC (agg : Bool) (size : Nat) (cells : List V) (off : Nat) : Option V :=
  match agg with
  | true => match Nat.ble (off + size) cells.length with
    | true => some (mkAgg ((cells.drop off).take size))
    | false => none
  | false => cells[off]?
def loadP (agg : Bool) (size sz : Nat) (y : PV) (o : Nat) (k : V → Prop) : Prop :=
  match Nat.beq o 0, Nat.beq size sz, agg with
  | true, true, true => match y.isAgg with
    | true => k (.p y)
    | false => False
  | true, true, false => match y.one with
    | true => k (.p y)
    | false => False
  | _, _, true => match Nat.ble (o + size) y.cells.length with
    | true => k (.p (.agg ((y.cells.drop o).take size)))
    | false => False
  | _, _, false => match y.cells[o]? with
    | some x => k (.p x)
    | none => False
theorem loadC_run {P : Program} {t : TypeId} {i : TI} {inf : TypeInfo} {d : TypeDesc} (h : TI.Is P t i inf d) {w : World} {H : Hp} {E : Ev} {g off : Nat} {cells : List V} {vals : List Value} {T : TypeId} {fz : Nat × Nat}
    (hg : w.heap[g]? = some (.cells vals.toArray T fz)) (hd : DenL H E cells vals) {v : V} (hv : loadC i.agg i.size cells off = some v) :
    ∃ x, (∀ w' : World, w'.heap[g]? = w.heap[g]? → (loadVar t ⟨g, off, none⟩).run P w' = .ok x w') ∧ V.Den H E v x := by
  unfold loadC at hv
  split at hv
  · rename_i ha
    split at hv
    · rename_i hb
      have hb := Nat.le_of_ble_eq_true hb
      cases hv
      have hd' := (hd.drop off).take i.size
      refine ⟨_, fun w' hw' => Sx.run_loadVar_agg h ha (hw'.trans hg) ((vals.drop off).take i.size) (by rw [hd'.1]; simp; omega) fun j x hx => ?_, mkAgg_den hd'⟩
      rw [List.getElem?_take] at hx
      split at hx
      · rw [List.getElem?_drop] at hx; simpa using hx
      · cases hx
    · cases hv
  · rename_i ha
    obtain ⟨x, hx, hden⟩ := hd.get hv
    exact ⟨x, fun w' hw' => Sx.run_loadVar_one h ha (hw'.trans hg) (by simpa using hx), hden⟩
theorem loadP_run {P : Program} {t : TypeId} {i : TI} {inf : TypeInfo} {d : TypeDesc} (h : TI.Is P t i inf d) {w : World} {H : Hp} {b off o sz : Nat} {y : PV} (hw : y.wf sz) (hc : ∃ (c : Array Value) (val : Nat → Value), (∃ T fz, w.heap[b]? = some (.cells c T fz)) ∧ ∀ j u, y.cells[j]? = some u → c[off + j]? = some (val j) ∧ PV.Den H u (val j)) {k : V → Prop}
    (hk : loadP i.agg i.size sz y o k) : ∃ v x, (∀ w' : World, w'.heap[b]? = w.heap[b]? → (loadVar t ⟨b, off + o, none⟩).run P w' = .ok x w') ∧ PV.Den H v x ∧ k (.p v) := by
  obtain ⟨c, val, ⟨T, fz, hg⟩, hj⟩ := hc
  have part : ∀ n, o + n ≤ y.cells.length → ∃ xs : List Value, xs.length = n ∧ (∀ j x, xs[j]? = some x → c[off + o + j]? = some x) ∧ ∀ (j : Nat) (u : PV) (x : Value), ((y.cells.drop o).take n)[j]? = some u → xs[j]? = some x → PV.Den H u x := by
    intro n hn
    refine ⟨(List.range n).map fun j => val (o + j), by simp, fun j x hx => ?_, fun j u x hu hx => ?_⟩
    · have hjn : j < n := by have := lt_of_some hx; simpa using this
      have hx : val (o + j) = x := by simpa [hjn] using hx
      subst hx
      have hlt : o + j < y.cells.length := by omega
      rw [Nat.add_assoc]; exact (hj (o + j) y.cells[o + j] (List.getElem?_eq_getElem hlt)).1
    · have hjn : j < n := by have := lt_of_some hx; simpa using this
      have hx : val (o + j) = x := by simpa [hjn] using hx
      subst hx
      rw [List.getElem?_take, if_pos hjn, List.getElem?_drop] at hu
      exact (hj (o + j) u hu).2
  have one : ∀ u, y.cells[o]? = some u → i.agg = false → ∃ x, (∀ w' : World, w'.heap[b]? = w.heap[b]? → (loadVar t ⟨b, off + o, none⟩).run P w' = .ok x w') ∧ PV.Den H u x := fun u hu ha =>
    ⟨val o, fun w' hw' => Sx.run_loadVar_one h ha (hw'.trans hg) (hj o u hu).1, (hj o u hu).2⟩
  unfold loadP at hk
  split at hk
  · rename_i h1 h2 h3
    have h1 := Nat.eq_of_beq_eq_true h1
    have h2 := Nat.eq_of_beq_eq_true h2
    subst h1
    split at hk
    · rename_i hag
      cases y <;> cases hag
      rename_i cs
      have hl : cs.length = i.size := by rw [h2]; exact hw.1
      obtain ⟨xs, e1, e2, e3⟩ := part i.size (by show 0 + i.size ≤ cs.length; omega)
      refine ⟨_, _, fun w' hw' => Sx.run_loadVar_agg h h3 (hw'.trans hg) xs e1 e2, .agg cs xs.toArray (by simp [e1, hl]) (fun j u x hu hx => ?_), hk⟩
      refine e3 j u x ?_ (by simpa using hx)
      show ((cs.drop 0).take i.size)[j]? = some u
      rw [List.drop_zero, ← hl, List.take_length]; exact hu
    · exact hk.elim
  · rename_i h1 h2 h3
    have h1 := Nat.eq_of_beq_eq_true h1
    subst h1
    split at hk
    · rename_i hon
      have hc : y.cells = [y] := by cases y <;> first | rfl | cases hon
      obtain ⟨x, e1, e2⟩ := one y (by rw [hc]; rfl) h3
      exact ⟨_, _, e1, e2, hk⟩
    · exact hk.elim
  · rename_i h3 _ _ _
    split at hk
    · rename_i hb
      have hb := Nat.le_of_ble_eq_true hb
      obtain ⟨xs, e1, e2, e3⟩ := part i.size hb
      refine ⟨_, _, fun w' hw' => Sx.run_loadVar_agg h (by assumption) (hw'.trans hg) xs e1 e2, .agg _ xs.toArray (by simp [e1]; omega) (fun j u x hu hx => e3 j u x hu (by simpa using hx)), hk⟩
    · exact hk.elim
  · split at hk
    · rename_i x hx
      obtain ⟨v, e1, e2⟩ := one x hx (by assumption)
      exact ⟨_, _, e1, e2, hk⟩
    · exact hk.elim
end Go.Lx
set_option linter.unusedSimpArgs false
set_option linter.unusedVariables false
namespace Go.Lx
open Go
open Go.Sx (NP Keeps Hp Keep0 TI TEnv TOk Kd Ar ArEq binI isShift ikEq litOf kdInt vcIf FOk kdOf)
def RdOk (P : Program) (B : Base) (st : St) (E : Ev) (F : Nat → NP) (a : Act) (w : World) (X : Nat → Bool) (o : Oper) (k : V → Prop) : Prop :=
  ∃ v x, (∀ w', Prot (DD B F X) w w' → (execOp a.eval o).run P w' = .ok (.value x) w') ∧ V.Den ⟨nowM B F, w⟩ E v x ∧ k v
theorem RdOk.all {P : Program} {B : Base} {st : St} {E : Ev} {F : Nat → NP} {a : Act} {w : World} {X : Nat → Bool} {o : Oper} {k : V → Prop} {v : V} {x : Value} (h : ∀ w', (execOp a.eval o).run P w' = .ok (.value x) w') (hd : V.Den ⟨nowM B F, w⟩ E v x) (hk : k v) : RdOk P B st E F a w X o k :=
  ⟨v, x, fun w' _ => h w', hd, hk⟩
theorem RdOk.op {P : Program} {B : Base} {st : St} {E : Ev} {F : Nat → NP} {a : Act} {w : World} {X : Nat → Bool} {o : Oper} {k : V → Prop} {v : V} {x : Value} (s : Sem Value) (he : execOp a.eval o = (do pure (.value (← s)))) (h : ∀ w', Prot (DD B F X) w w' → s.run P w' = .ok x w') (hd : V.Den ⟨nowM B F, w⟩ E v x) (hk : k v) : RdOk P B st E F a w X o k :=
  ⟨v, x, fun w' hw => by rw [he]; exact Sx.run_v (h w' hw), hd, hk⟩
theorem Inv.prot {B : Base} {st : St} {E : Ev} {F : Nat → NP} {a : Act} {w w' : World} {X : Nat → Bool} (hI : Inv B st E F a w) (hp : Prot (DD B F X) w w') {i k : Nat} (hX : X i = false) (hk : F i k) : w'.heap[k]? = w.heap[k]? :=
  hp.block k (hI.foot_lt i k hk) (.inr ⟨i, hX, hk⟩)
theorem SetAt.prot {B : Base} {F : Nat → NP} {w w' : World} {X : Nat → Bool} (hp : Prot (DD B F X) w w') {b off : Nat} {cs : List PV} {val : Nat → Value} (h : SetAt ⟨nowM B F, w⟩ b off cs val) : w'.heap[b]? = w.heap[b]? :=
  hp.block b h.2.1 (.inl h.1)
/-! Loads -/
def rdLoad (E : TEnv) (X : Nat → Bool) (T : TypeId) (x : Operand) (st : St) (k : V → Prop) : Option Prop :=
  match E.get T, ev st.fr x with
  | some ti, some (.own i off) => match X i, st.own[i]? with
    | false, some (.st _ cells) => match loadC ti.agg ti.size cells off with
      | some v => some (k v)
      | none => none
    | _, _ => none
  | some ti, some (.imm sz y o) => some (loadP ti.agg ti.size sz y o k)
  | some ti, some (.ap i sz q o) => match X i, st.own[i]? with
    | false, some (.arr _ _ xs) => some (∃ y, xs[q]? = some y ∧ loadP ti.agg ti.size sz y o k)
    | _, _ => none
  | _, _ => none
theorem rdLoad_ok {P : Program} {TE : TEnv} (hE : TOk P TE) {X : Nat → Bool} {T : TypeId} {x : Operand} {st : St} {k : V → Prop} {φ : Prop} (h : rdLoad TE X T x st k = some φ) (hφ : φ)
    {B : Base} {E : Ev} {F : Nat → NP} {a : Act} {w : World} (hI : Inv B st E F a w) {o : Oper} (ho : o.op = .load T x) : RdOk P B st E F a w X o k := by
  have he : execOp a.eval o = (do pure (.value (← Instr.loadAt T (a.eval x)))) := by simp only [execOp, ho]
  unfold rdLoad at h
  split at h
  · rename_i ti i off hti hx
    obtain ⟨inf, d, his⟩ := hE.get hti
    split at h
    · rename_i T' cells hX hi
      split at h
      · rename_i v hv
        cases h
        obtain ⟨_, hF, vals, hg, hd⟩ := hI.held i _ hi
        obtain ⟨y, hy, hden⟩ := loadC_run his hg hd hv
        refine RdOk.op _ he (fun w' hp => ?_) hden hφ
        have hh := hI.prot hp hX ((hF _).2 rfl)
        have hax := hI.ev hx
        generalize a.eval x = ax at hax ⊢
        cases hax
        simp only [Instr.loadAt, Instr.sureAddr, Sem.run_bind, Sem.run_pure, Result.andThen_ok]
        exact hy w' hh
      · cases h
    · cases h
  · rename_i ti sz y o' hti hx
    obtain ⟨inf, d, his⟩ := hE.get hti
    cases h
    have hax := hI.ev hx
    generalize hg : a.eval x = ax at hax
    cases hax with
    | imm _ _ _ b off val hw hs hd =>
      obtain ⟨hm, hb, c, T', fz, hc, hj⟩ := hs
      obtain ⟨v, x', h1, h2, h3⟩ := loadP_run his hw ⟨c, val, ⟨T', fz, hc⟩, fun j u hu => ⟨hj j u hu, hd j u hu⟩⟩ hφ
      refine RdOk.op _ he (fun w' hp => ?_) (.p _ _ h2) h3
      rw [hg]
      simp only [Instr.loadAt, Instr.sureAddr, Sem.run_bind, Sem.run_pure, Result.andThen_ok]
      exact h1 w' (hp.block b hb (.inl hm))
  · rename_i ti i sz q o' hti hx
    obtain ⟨inf, d, his⟩ := hE.get hti
    split at h
    · rename_i T' sz' xs hX hi
      cases h
      obtain ⟨y, hy, hφ⟩ := hφ
      obtain ⟨_, hwf, hlen, hez, hrow⟩ := hI.held i _ hi
      have hax := hI.ev hx
      generalize hg : a.eval x = ax at hax
      cases hax with
      | ap _ _ _ _ hin hnl hz =>
        have : sz' = sz := hez.symm.trans hz
        subst this
        rcases hrow with ⟨h1, _, _⟩ | ⟨_, hF, hl1, hl2, cc, hcc, hcs, val, hval⟩
        · rw [hnl] at h1; cases h1
        obtain ⟨v, x', h1, h2, h3⟩ := loadP_run (off := q * sz') his (hwf y (List.mem_of_getElem? hy)) ⟨cc, fun j => val (q * sz' + j), ⟨T', (0, 0), hcc⟩, fun j u hu => hval _ _ (flat_get hwf hy hu)⟩ hφ
        refine RdOk.op _ he (fun w' hp => ?_) (.p _ _ h2) h3
        rw [hg]
        simp only [Instr.loadAt, Instr.sureAddr, Sem.run_bind, Sem.run_pure, Result.andThen_ok]
        exact h1 w' (hI.prot hp hX ((hF _).2 rfl))
    · cases h
  · cases h
/-! Fields -/
def rdFA (E : TEnv) (T : TypeId) (x : Operand) (f : Nat) (st : St) (k : V → Prop) : Option Prop :=
  match E.get T with
  | some ti => match ti.flds[f]? with
    | some (fo, _, fs, _) => match Nat.beq fs 0 with
      | true => none
      | false => match ev st.fr x with
        | some (.own i off) => some (k (.own i (off + fo)))
        | some (.imm sz y o) => some (k (.imm sz y (o + fo)))
        | some (.ap i sz q o) => some (k (.ap i sz q (o + fo)))
        | _ => none
    | none => none
  | none => none
theorem rdFA_ok {P : Program} {TE : TEnv} (hE : TOk P TE) (hFO : FOk P TE) {X : Nat → Bool} {T : TypeId} {x : Operand} {f : Nat} {st : St} {k : V → Prop} {φ : Prop} (h : rdFA TE T x f st k = some φ) (hφ : φ)
    {B : Base} {E : Ev} {F : Nat → NP} {a : Act} {w : World} (hI : Inv B st E F a w) {o : Oper} (ho : o.op = .fieldAddr T x f) : RdOk P B st E F a w X o k := by
  have he : execOp a.eval o = (do pure (.value (← Instr.fieldAt T (a.eval x) f))) := by simp only [execOp, ho]
  unfold rdFA at h
  split at h
  · rename_i ti hti
    obtain ⟨inf, d, his⟩ := hE.get hti
    split at h
    · rename_i fo ft fs fa hf
      obtain ⟨fds, rfl, fd, fi, fdd, hfd, hfi, hfdd, hxe⟩ := Sx.Is.struct his (hFO T ti hti) hf
      simp only [Prod.mk.injEq] at hxe
      obtain ⟨rfl, rfl, rfl, rfl⟩ := hxe
      split at h
      · cases h
      · rename_i hnz
        have hnz : ¬ fi.size = 0 := fun c => by rw [c] at hnz; cases hnz
        have key : ∀ b q, a.eval x = .pointer (some ⟨b, q, none⟩) → ∀ w', (Instr.fieldAt T (a.eval x) f).run P w' = .ok (.pointer (some ⟨b, q + fd.offset, none⟩)) w' := by
          intro b q hx w'
          simp only [Instr.fieldAt, Sem.run_bind, run_underlying his.und, Result.andThen_ok, hfd, hx, Instr.sureAddr, Sem.run_pure, fieldPlace, sizeOf, typeInfo, run_program, hfi, hnz, if_false, Sx.addr_add]
        split at h
        · rename_i i off hx
          cases h
          have hax := hI.ev hx
          generalize hg : a.eval x = ax at hax
          cases hax with
          | own _ _ hi => exact RdOk.op _ he (fun w' _ => key _ _ hg w') (.own i _ hi) hφ
        · rename_i sz y o' hx
          cases h
          have hax := hI.ev hx
          generalize hg : a.eval x = ax at hax
          cases hax with
          | imm _ _ _ b off val hw hs hd =>
            refine RdOk.op _ he (fun w' _ => key _ _ hg w') ?_ hφ
            rw [Nat.add_assoc]
            exact .imm sz y _ b off val hw hs hd
        · rename_i i sz q o' hx
          cases h
          have hax := hI.ev hx
          generalize hg : a.eval x = ax at hax
          cases hax with
          | ap _ _ _ _ hin hnl hz =>
            refine RdOk.op _ he (fun w' _ => key _ _ hg w') ?_ hφ
            rw [Nat.add_assoc]
            exact .ap i sz q _ hin hnl hz
        · cases h
    · cases h
  · cases h
theorem run_part {P : Program} {w : World} {t : TypeId} {fi : TypeInfo} {fdd : TypeDesc} (h1 : P.info? t = some fi) (h2 : P.underlying t = some fdd) {H : Hp} {E : Ev} {cells : List V} {vals : List Value} (hd : DenL H E cells vals) {o : Nat} {v : V}
    (hv : loadC (Sx.isAggD fdd) fi.size cells o = some v) : ∃ x, (∀ w, (part t vals.toArray o).run P w = .ok x w) ∧ V.Den H E v x := by
  have hagg : ∀ w, (isAgg t).run P w = .ok (Sx.isAggD fdd) w := by
    intro w; unfold isAgg; rw [Sem.run_bind, run_underlying h2 w]; cases fdd <;> rfl
  have hsz : ∀ w, (sizeOf t).run P w = .ok fi.size w := by intro w; simp [sizeOf, typeInfo, h1]
  unfold part
  unfold loadC at hv
  split at hv
  · split at hv
    · rename_i hb
      have hb := Nat.le_of_ble_eq_true hb
      cases hv
      refine ⟨_, fun w => ?_, mkAgg_den ((hd.drop o).take fi.size)⟩
      rw [Sem.run_bind, hagg]
      simp only [Result.andThen_ok, if_true, Sem.run_bind, hsz, Sem.run_pure, ‹Sx.isAggD fdd = true›]
      congr 2
      apply Array.ext'
      simp [Array.toList_extract, List.extract]
    · cases hv
  · obtain ⟨x, hx, hden⟩ := hd.get hv
    refine ⟨x, fun w => ?_, hden⟩
    rw [Sem.run_bind, hagg]
    have hx' : vals.toArray[o]? = some x := by simpa using hx
    simp [hx', ‹Sx.isAggD fdd = false›]
def rdField (E : TEnv) (T : TypeId) (x : Operand) (f : Nat) (st : St) (k : V → Prop) : Option Prop :=
  match E.get T with
  | some ti => match ti.flds[f]? with
    | some (fo, _, fs, fa) => match ev st.fr x with
      | some (.p (.agg cs)) => match loadC fa fs (mapP cs) fo with
        | some v => some (k v)
        | none => none
      | some (.agg cs) => match loadC fa fs cs fo with
        | some v => some (k v)
        | none => none
      | _ => none
    | none => none
  | none => none
theorem V.Den.aggs {H : Hp} {E : Ev} {x : V} {v : Value} {cs : List V} (h : V.Den H E x v) (hc : x = .agg cs ∨ ∃ l, x = .p (.agg l) ∧ cs = mapP l) : ∃ vals : List Value, v = .agg vals.toArray ∧ DenL H E cs vals := by
  rcases hc with rfl | ⟨l, rfl, rfl⟩
  · cases h with
    | agg _ xs hl hh => exact ⟨xs.toList, by simp, by simpa using hl, fun i c v hc hv => hh i c v hc (by simpa using hv)⟩
  · cases h with
    | p _ _ h =>
      cases h with
      | agg _ xs hl hh =>
        refine ⟨xs.toList, by simp, ?_⟩
        rw [mapP_eq]
        refine ⟨by simpa using hl, fun i c v hc hv => ?_⟩
        rw [List.getElem?_map] at hc
        cases hcs : l[i]? with
        | none => rw [hcs] at hc; cases hc
        | some c0 => rw [hcs] at hc; cases hc; exact .p _ _ (hh i c0 v hcs (by simpa using hv))
theorem rdField_ok {P : Program} {TE : TEnv} (hE : TOk P TE) (hFO : FOk P TE) {X : Nat → Bool} {T : TypeId} {x : Operand} {f : Nat} {st : St} {k : V → Prop} {φ : Prop} (h : rdField TE T x f st k = some φ) (hφ : φ)
    {B : Base} {E : Ev} {F : Nat → NP} {a : Act} {w : World} (hI : Inv B st E F a w) {o : Oper} (ho : o.op = .field T x f) : RdOk P B st E F a w X o k := by
  have he : execOp a.eval o = (do pure (.value (← Instr.field T (a.eval x) f))) := by simp only [execOp, ho]
  unfold rdField at h
  split at h
  · rename_i ti hti
    obtain ⟨inf, d, his⟩ := hE.get hti
    split at h
    · rename_i fo ft fs fa hf
      obtain ⟨fds, rfl, fd, fi, fdd, hfd, hfi, hfdd, hxe⟩ := Sx.Is.struct his (hFO T ti hti) hf
      simp only [Prod.mk.injEq] at hxe
      obtain ⟨rfl, rfl, rfl, rfl⟩ := hxe
      have key : ∀ {y : V} {cs : List V} {v : V}, ev st.fr x = some y → (y = .agg cs ∨ ∃ l, y = .p (.agg l) ∧ cs = mapP l) → loadC (Sx.isAggD fdd) fi.size cs fd.offset = some v → k v → RdOk P B st E F a w X o k := by
        intro y cs v hx hy hv hk
        obtain ⟨vals, hval, hd⟩ := (hI.ev hx).aggs hy
        obtain ⟨u, h1, h2⟩ := run_part (w := w) hfi hfdd hd hv
        refine RdOk.op _ he (fun w' _ => ?_) h2 hk
        simp only [Instr.field, Sem.run_bind, run_underlying his.und, Result.andThen_ok, hfd, hval, asAgg, Sem.run_pure]
        exact h1 w'
      split at h
      · rename_i cs hx
        split at h
        · rename_i v hv
          cases h
          exact key hx (.inr ⟨cs, rfl, rfl⟩) hv hφ
        · cases h
      · rename_i cs hx
        split at h
        · rename_i v hv
          cases h
          exact key hx (.inl rfl) hv hφ
        · cases h
      · cases h
    · cases h
  · cases h
end Go.Lx
set_option linter.unusedSimpArgs false
set_option linter.unusedVariables false
namespace Go.Lx
open Go
open Go.Sx (NP Keeps Hp Keep0 TI TEnv TOk Kd Ar ArEq binI binI_run isShift ikEq litOf kdInt vcIf FOk kdOf)
theorem str_toList (s : List UInt8) : (⟨s.toArray⟩ : ByteArray).toList = s := by rw [ByteArray.toList_eq]
theorem str_cat (a b : List UInt8) : ((⟨a.toArray⟩ : ByteArray) ++ ⟨b.toArray⟩) = ⟨(a ++ b).toArray⟩ := by
  have h : ((⟨a.toArray⟩ : ByteArray) ++ ⟨b.toArray⟩).data = a.toArray ++ b.toArray := by simp
  cases hh : ((⟨a.toArray⟩ : ByteArray) ++ ⟨b.toArray⟩) with
  | mk d => rw [hh] at h; simp only at h; rw [h]; simp
theorem str_size (s : List UInt8) : (⟨s.toArray⟩ : ByteArray).size = s.length := by simp [ByteArray.size]
theorem PV.Den.int_inv {H : Hp} {k : IntKind} {n : Int} {v : Value} (h : PV.Den H (.int k n) v) : v = .int k n := by cases h; rfl
theorem PV.Den.bool_inv {H : Hp} {b : Bool} {v : Value} (h : PV.Den H (.bool b) v) : v = .bool b := by cases h; rfl
theorem PV.Den.str_inv {H : Hp} {s : List UInt8} {v : Value} (h : PV.Den H (.str s) v) : v = .string ⟨s.toArray⟩ := by cases h; rfl
theorem V.Den.int_inv {H : Hp} {E : Ev} {k : IntKind} {n : Int} {v : Value} (h : V.Den H E (.p (.int k n)) v) : v = .int k n := by cases h with | p _ _ h => exact h.int_inv
theorem V.Den.bool_inv {H : Hp} {E : Ev} {b : Bool} {v : Value} (h : V.Den H E (.p (.bool b)) v) : v = .bool b := by cases h with | p _ _ h => exact h.bool_inv
theorem V.Den.str_inv {H : Hp} {E : Ev} {s : List UInt8} {v : Value} (h : V.Den H E (.p (.str s)) v) : v = .string ⟨s.toArray⟩ := by cases h with | p _ _ h => exact h.str_inv
theorem V.Den.int {H : Hp} {E : Ev} {k : IntKind} {n : Int} : V.Den H E (.p (.int k n)) (.int k n) := .p _ _ (.int _ _)
theorem V.Den.bool {H : Hp} {E : Ev} {b : Bool} : V.Den H E (.p (.bool b)) (.bool b) := .p _ _ (.bool _)
theorem V.Den.str {H : Hp} {E : Ev} {s : List UInt8} : V.Den H E (.p (.str s)) (.string ⟨s.toArray⟩) := .p _ _ (.str _)
def Lr.std : Lr where
  a := Ar.std
  cat a b := a ++ b
  sq a b := decide (a = b)
  sl a b := Op.bytesLess a b
  imin a b := if b < a then b else a
  imax a b := if b > a then b else a
  smin a b := if Op.bytesLess a b || decide (a = b) then a else b
  smax a b := if Op.bytesLess a b then b else a
  len xs := xs.length
  slen xs := xs.length
  u8 b := b.toNat
theorem LrEq.std : LrEq Lr.std.cat Lr.std.sq Lr.std.sl Lr.std.imin Lr.std.imax Lr.std.smin Lr.std.smax Lr.std.len Lr.std.slen Lr.std.u8 := by
  constructor <;> intros <;> rfl
/-! Comparisons with nothing -/
inductive Nn where | yes | no | perhaps (xs : List PV) | maybe (n : Nat)
def nilP : V → Option Nn
  | .p .nilp => some .yes
  | .own _ _ | .ap _ _ _ _ | .imm _ _ _ => some .no
  | _ => none
def nilS : V → Option Nn
  | .p .nils => some .yes
  | .p (.sl xs) => some (.perhaps xs)
  | .p .e0 => some (.maybe 0)
  | .vw _ _ _ n _ => some (.maybe n)
  | _ => none
def Nn.wp (q : Nn) (k : Bool → Prop) : Prop :=
  match q with
  | .yes => k true
  | .no => k false
  | .perhaps xs => ∀ b : Bool, (b = true → xs = []) → k b
  | .maybe n => ∀ b : Bool, (b = true → n = 0) → k b
def nnOp (L : Lr) (op : BinOp) (q : Nn) (k : V → Prop) : Option Prop :=
  match op with
  | .eql => some (q.wp fun b => k (.p (.bool b)))
  | .neq => some (q.wp fun b => k (.p (.bool (L.a.not b))))
  | _ => none
def binN (L : Lr) (kd : Kd) (op : BinOp) (x y : V) (k : V → Prop) : Option Prop :=
  match kd with
  | .ptr => match y with
    | .p .nilp => match nilP x with
      | some q => nnOp L op q k
      | none => none
    | y => match x with
      | .p .nilp => match nilP y with
        | some q => nnOp L op q k
        | none => none
      | _ => none
  | .slice _ => match y with
    | .p .nils => match nilS x with
      | some q => nnOp L op q k
      | none => none
    | _ => none
  | _ => none
def binP (L : Lr) (E : TEnv) (op : BinOp) (t : TypeId) (x y : V) (oy : Operand) (k : V → Prop) : Option Prop :=
  match x, y with
  | .p (.int ka a), .p (.int kb b) => match isShift op with
    | true => match op with
      | .shl => match litOf oy with
        | some (.ofNat n) => some (k (.p (.int ka (L.a.shl ka a n))))
        | _ => some (∃ m : Nat, b = m ∧ k (.p (.int ka (L.a.shl ka a m))))
      | .shr => match litOf oy with
        | some (.ofNat n) => some (k (.p (.int ka (L.a.shr ka a n))))
        | _ => some (∃ m : Nat, b = m ∧ k (.p (.int ka (L.a.shr ka a m))))
      | _ => none
    | false => match ikEq ka kb with
      | true => match binI L.a op ka a b oy with
        | some v => match pv1 v with
          | some r => some (k (.p r))
          | none => none
        | none => match op with
          | .quo => some (∃ _ : Unit, b ≠ 0 ∧ k (.p (.int ka (L.a.quo ka a b))))
          | .rem => some (∃ _ : Unit, b ≠ 0 ∧ k (.p (.int ka (L.a.rem a b))))
          | _ => none
      | false => none
  | .p (.bool a), .p (.bool b) => match E.get t with
    | some i => match i.kd with
      | .bool => match op with
        | .eql => some (k (.p (.bool (L.a.beq a b))))
        | .neq => some (k (.p (.bool (L.a.not (L.a.beq a b)))))
        | _ => none
      | _ => none
    | none => none
  | .p (.str a), .p (.str b) => match op with
    | .eql => some (k (.p (.bool (L.sq a b))))
    | .neq => some (k (.p (.bool (L.a.not (L.sq a b)))))
    | .lss => some (k (.p (.bool (L.sl a b))))
    | .leq => some (k (.p (.bool (L.a.orb (L.sl a b) (L.sq a b)))))
    | .gtr => some (k (.p (.bool (L.a.not (L.a.orb (L.sl a b) (L.sq a b))))))
    | .geq => some (k (.p (.bool (L.a.not (L.sl a b)))))
    | .add => some (∃ _ : Unit, a.length + b.length ≤ 9223372036854775807 ∧ k (.p (.str (L.cat a b))))
    | _ => none
  | x, y => match E.get t with
    | some ti => binN L ti.kd op x y k
    | none => none
theorem run_shift {P : Program} {t : TypeId} {k yk : IntKind} {a : Int} (m : Nat) (w : World) (op : BinOp) (hop : op = .shl ∨ op = .shr) :
    (binOp op t (.int k a) (.int yk m)).run P w = .ok (.int k (if op = .shl then k.wrap (a * 2 ^ (min m k.bits)) else a.fdiv (2 ^ (min m k.bits)))) w := by
  have hn : ¬ ((m : Int) < 0) := by omega
  rcases hop with rfl | rfl <;> simp [binOp, Op.shift, hn]
theorem nn_ptr {P : Program} {TE : TEnv} {t : TypeId} {ti : TI} (hE : TOk P TE) (ht : TE.get t = some ti) (hk : ti.kd = .ptr) {H : Hp} {E : Ev} {x : V} {v : Value} (h : V.Den H E x v) {q : Nn} (hq : nilP x = some q) :
    ∃ b : Bool, (∀ w, (Op.equal t v (.pointer none)).run P w = .ok b w) ∧ (∀ w, (Op.equal t (.pointer none) v).run P w = .ok b w) ∧ (∃ p, v = .pointer p) ∧ ∀ K : Bool → Prop, q.wp K → K b := by
  obtain ⟨inf, d, his⟩ := hE.get ht
  have hd : ∃ e, d = .pointer e := by
    have := his.kd; rw [hk] at this
    cases d <;> simp [kdOf] at this
    exact ⟨_, rfl⟩
  obtain ⟨e, rfl⟩ := hd
  have g1 : ∀ d p w, (Op.equalIn (d + 1) t (.pointer p) (.pointer none)).run P w = .ok p.isNone w := by
    intro d p w; cases p <;> simp [Op.equalIn, run_underlying his.und]
  have g2 : ∀ d p w, (Op.equalIn (d + 1) t (.pointer none) (.pointer p)).run P w = .ok p.isNone w := by
    intro d p w; cases p <;> simp [Op.equalIn, run_underlying his.und]
  have h1 : ∀ p w, (Op.equal t (.pointer p) (.pointer none)).run P w = .ok p.isNone w := g1 9999
  have h2 : ∀ p w, (Op.equal t (.pointer none) (.pointer p)).run P w = .ok p.isNone w := g2 9999
  unfold nilP at hq
  split at hq
  · cases hq
    cases h with
    | p _ _ h => cases h; exact ⟨true, h1 none, h2 none, ⟨_, rfl⟩, fun K h => h⟩
  · cases hq; cases h; exact ⟨false, h1 (some _), h2 (some _), ⟨_, rfl⟩, fun K h => h⟩
  · cases hq; cases h; exact ⟨false, h1 (some _), h2 (some _), ⟨_, rfl⟩, fun K h => h⟩
  · cases hq; cases h; exact ⟨false, h1 (some _), h2 (some _), ⟨_, rfl⟩, fun K h => h⟩
  · cases hq
theorem nn_slice {P : Program} {TE : TEnv} {t e : TypeId} {ti : TI} (hE : TOk P TE) (ht : TE.get t = some ti) (hk : ti.kd = .slice e) {H : Hp} {E : Ev} {x : V} {v : Value} (h : V.Den H E x v) {q : Nn} (hq : nilS x = some q) :
    ∃ b : Bool, (∀ w, (Op.equal t v (.slice none 0 0)).run P w = .ok b w) ∧ (∃ p n c, v = .slice p n c) ∧ ∀ K : Bool → Prop, q.wp K → K b := by
  obtain ⟨inf, d, his⟩ := hE.get ht
  have hd : d = .slice e := by
    have := his.kd; rw [hk] at this
    cases d <;> simp [kdOf] at this
    subst this; rfl
  subst hd
  have h1 : ∀ a n c w, (Op.equal t (.slice a n c) (.slice none 0 0)).run P w = .ok a.isNone w := fun a n c w => run_equal_slice_nil w t e a n c his.und
  unfold nilS at hq
  split at hq
  · cases hq
    cases h with
    | p _ _ h => cases h; exact ⟨true, h1 none 0 0, ⟨_, _, _, rfl⟩, fun K h => h⟩
  · cases hq
    cases h with
    | p _ _ h =>
      cases h with
      | sle a c hc => exact ⟨a.isNone, h1 a 0 c, ⟨_, _, _, rfl⟩, fun K h => h _ fun _ => rfl⟩
      | sl xs b off sz c val hw hc hs hd => exact ⟨false, h1 _ _ _, ⟨_, _, _, rfl⟩, fun K h => h _ fun c => by cases c⟩
  · cases hq
    cases h with
    | p _ _ h => cases h with | e0 a => exact ⟨a.isNone, h1 a 0 0, ⟨_, _, _, rfl⟩, fun K h => h _ fun _ => rfl⟩
  · cases hq
    cases h with
    | vwn i sz cap a hi hn hz hc => exact ⟨a.isNone, h1 a 0 0, ⟨_, _, _, rfl⟩, fun K h => h _ fun _ => rfl⟩
    | vw i sz off n cap a c hi hn hc hk hl hx hz ha => exact ⟨false, h1 _ _ _, ⟨_, _, _, rfl⟩, fun K h => h _ fun c => by cases c⟩
  · cases hq
theorem nnOp_ok {L : Lr} {op : BinOp} {q : Nn} {k : V → Prop} {φ : Prop} (hL : L.a.not = fun b => !b) (h : nnOp L op q k = some φ) (hφ : φ) {b : Bool} (hb : ∀ K : Bool → Prop, q.wp K → K b) :
    (op = .eql ∧ k (.p (.bool b))) ∨ (op = .neq ∧ k (.p (.bool !b))) := by
  unfold nnOp at h
  split at h
  · cases h; exact .inl ⟨rfl, hb _ hφ⟩
  · cases h; exact .inr ⟨rfl, by have := hb _ hφ; rw [hL] at this; exact this⟩
  · cases h
theorem V.Den.nilp_inv {H : Hp} {E : Ev} {v : Value} (h : V.Den H E (.p .nilp) v) : v = .pointer none := by cases h with | p _ _ h => cases h; rfl
theorem V.Den.nils_inv {H : Hp} {E : Ev} {v : Value} (h : V.Den H E (.p .nils) v) : v = .slice none 0 0 := by cases h with | p _ _ h => cases h; rfl
theorem binN_run {P : Program} {TE : TEnv} (hE : TOk P TE) {op : BinOp} {t : TypeId} {ti : TI} (ht : TE.get t = some ti) {x y : V} {k : V → Prop} {φ : Prop} (h : binN .std ti.kd op x y k = some φ) (hφ : φ) {H : Hp} {E : Ev} {u v : Value} (hu : V.Den H E x u) (hv : V.Den H E y v) (ox oy : Operand) :
    ∃ r z, (∀ w, (do eqGuard op t ox oy u v; binOp op t u v : Sem Value).run P w = .ok z w) ∧ V.Den H E r z ∧ k r := by
  have fin : ∀ {b : Bool}, (∀ w, (Op.equal t u v).run P w = .ok b w) → ((∃ p, u = .pointer p ∧ ∃ q, v = .pointer q) ∨ (∃ p n c, u = .slice p n c ∧ ∃ p' n' c', v = .slice p' n' c')) → ((op = .eql ∧ k (.p (.bool b))) ∨ (op = .neq ∧ k (.p (.bool !b)))) →
      ∃ r z, (∀ w, (do eqGuard op t ox oy u v; binOp op t u v : Sem Value).run P w = .ok z w) ∧ V.Den H E r z ∧ k r := by
    rintro b he hs (⟨rfl, hk⟩ | ⟨rfl, hk⟩)
    · refine ⟨_, .bool b, fun w => ?_, V.Den.bool, hk⟩
      rcases hs with ⟨p, rfl, q, rfl⟩ | ⟨p, n, c, rfl, p', n', c', rfl⟩
      · rw [Sem.run_bind, eqGuard_at_pointer]
        simp only [Sem.run_pure, Result.andThen_ok]
        show (do pure (.bool (← Op.equal t (.pointer p) (.pointer q))) : Sem Value).run P w = _
        rw [Sem.run_bind, he]; rfl
      · rw [Sem.run_bind, eqGuard_at_slice]
        simp only [Sem.run_pure, Result.andThen_ok]
        show (do pure (.bool (← Op.equal t (.slice p n c) (.slice p' n' c'))) : Sem Value).run P w = _
        rw [Sem.run_bind, he]; rfl
    · refine ⟨_, .bool (!b), fun w => ?_, V.Den.bool, hk⟩
      rcases hs with ⟨p, rfl, q, rfl⟩ | ⟨p, n, c, rfl, p', n', c', rfl⟩
      · rw [Sem.run_bind, eqGuard_at_pointer]
        simp only [Sem.run_pure, Result.andThen_ok]
        show (do pure (.bool (!(← Op.equal t (.pointer p) (.pointer q)))) : Sem Value).run P w = _
        rw [Sem.run_bind, he]; rfl
      · rw [Sem.run_bind, eqGuard_at_slice]
        simp only [Sem.run_pure, Result.andThen_ok]
        show (do pure (.bool (!(← Op.equal t (.slice p n c) (.slice p' n' c')))) : Sem Value).run P w = _
        rw [Sem.run_bind, he]; rfl
  unfold binN at h
  split at h
  · rename_i hkd
    split at h
    · split at h
      · rename_i q hq
        obtain ⟨b, h1, h2, ⟨p, rfl⟩, h3⟩ := nn_ptr hE ht hkd hu hq
        have := hv.nilp_inv; subst this
        exact fin h1 (.inl ⟨_, rfl, _, rfl⟩) (nnOp_ok rfl h hφ h3)
      · cases h
    · split at h
      · split at h
        · rename_i q hq
          obtain ⟨b, h1, h2, ⟨p, rfl⟩, h3⟩ := nn_ptr hE ht hkd hv hq
          have := hu.nilp_inv; subst this
          exact fin h2 (.inl ⟨_, rfl, _, rfl⟩) (nnOp_ok rfl h hφ h3)
        · cases h
      · cases h
  · rename_i e hkd
    split at h
    · split at h
      · rename_i q hq
        obtain ⟨b, h1, ⟨p, n, c, rfl⟩, h3⟩ := nn_slice hE ht hkd hu hq
        have := hv.nils_inv; subst this
        exact fin h1 (.inr ⟨_, _, _, rfl, _, _, _, rfl⟩) (nnOp_ok rfl h hφ h3)
      · cases h
    · cases h
  · cases h
theorem lit_int {a : Act} {y : Operand} {n : Int} (h : litOf y = some n) {H : Hp} {E : Ev} {k : IntKind} {b : Int} (hd : V.Den H E (.p (.int k b)) (a.eval y)) : b = n := by
  obtain ⟨k', h'⟩ := Sx.litOf_eval (a := a) h
  have := hd.int_inv
  rw [h'] at this
  cases this; rfl
theorem binP_run {P : Program} {TE : TEnv} (hE : TOk P TE) {op : BinOp} {t : TypeId} {x y : V} {k : V → Prop} {φ : Prop} {a : Act} {ox oy : Operand} (h : binP .std TE op t x y oy k = some φ) (hφ : φ) {H : Hp} {E : Ev} (hu : V.Den H E x (a.eval ox)) (hv : V.Den H E y (a.eval oy)) :
    ∃ r z, (∀ w, (do eqGuard op t ox oy (a.eval ox) (a.eval oy); binOp op t (a.eval ox) (a.eval oy) : Sem Value).run P w = .ok z w) ∧ V.Den H E r z ∧ k r := by
  unfold binP at h
  split at h
  · rename_i ka a' kb b
    have hlit : ∀ n, litOf oy = some n → b = n := fun n hn => lit_int hn hv
    rw [hu.int_inv, hv.int_inv]
    simp only [Sem.run_bind, eqGuard_at_int, Sem.run_pure, Result.andThen_ok]
    split at h
    · split at h
      · split at h
        · rename_i n hn
          cases h
          have := hlit _ hn; subst this
          exact ⟨_, _, fun w => run_shift n w .shl (.inl rfl), V.Den.int, hφ⟩
        · cases h
          obtain ⟨m, rfl, hφ⟩ := hφ
          exact ⟨_, _, fun w => run_shift m w .shl (.inl rfl), V.Den.int, hφ⟩
      · split at h
        · rename_i n hn
          cases h
          have := hlit _ hn; subst this
          exact ⟨_, _, fun w => run_shift n w .shr (.inr rfl), V.Den.int, hφ⟩
        · cases h
          obtain ⟨m, rfl, hφ⟩ := hφ
          exact ⟨_, _, fun w => run_shift m w .shr (.inr rfl), V.Den.int, hφ⟩
      · cases h
    · rename_i hs
      split at h
      · rename_i hk
        have := Sx.ikEq_eq hk
        subst this
        split at h
        · rename_i v hv
          split at h
          · rename_i r hr
            cases h
            exact ⟨_, _, fun w => binI_run hs hv hlit, .p _ _ (pv1_den hr).1, hφ⟩
          · cases h
        · split at h
          · cases h
            obtain ⟨_, h0, hφ⟩ := hφ
            exact ⟨_, .int ka (ka.wrap (a'.tdiv b)), fun w => by simp [binOp, Op.intDiv, h0], V.Den.int, hφ⟩
          · cases h
            obtain ⟨_, h0, hφ⟩ := hφ
            exact ⟨_, .int ka (a'.tmod b), fun w => by simp [binOp, Op.intDiv, h0], V.Den.int, hφ⟩
          · cases h
      · cases h
  · rename_i a' b
    rw [hu.bool_inv, hv.bool_inv]
    split at h
    · rename_i i hi
      obtain ⟨inf, d, his⟩ := hE.get hi
      split at h
      · rename_i hkd
        have hd : d = .bool := by
          have := his.kd; rw [hkd] at this
          cases d <;> first | rfl | (simp [kdOf] at this; done)
        subst hd
        simp only [Sem.run_bind, eqGuard_at_bool, Sem.run_pure, Result.andThen_ok]
        split at h
        · cases h
          refine ⟨_, .bool (a' == b), fun w => ?_, V.Den.bool, hφ⟩
          show (do pure (.bool (← Op.equal t (.bool a') (.bool b))) : Sem Value).run P w = _
          rw [Sem.run_bind, Sx.run_equal_bool his.und]; rfl
        · cases h
          refine ⟨_, .bool (!(a' == b)), fun w => ?_, V.Den.bool, hφ⟩
          show (do pure (.bool (!(← Op.equal t (.bool a') (.bool b)))) : Sem Value).run P w = _
          rw [Sem.run_bind, Sx.run_equal_bool his.und]; rfl
        · cases h
      · cases h
    · cases h
  · rename_i s u
    rw [hu.str_inv, hv.str_inv]
    simp only [Sem.run_bind, eqGuard_at_string, Sem.run_pure, Result.andThen_ok]
    have hb : (s == u) = decide (s = u) := by rw [Bool.eq_iff_iff]; simp
    split at h
    · cases h; exact ⟨_, .bool (decide (s = u)), fun w => by simp [binOp, Op.stringOp, str_toList, hb], V.Den.bool, hφ⟩
    · cases h; exact ⟨_, .bool (!decide (s = u)), fun w => by simp [binOp, Op.stringOp, str_toList, hb], V.Den.bool, hφ⟩
    · cases h; exact ⟨_, .bool (Op.bytesLess s u), fun w => by simp [binOp, Op.stringOp, str_toList], V.Den.bool, hφ⟩
    · cases h; exact ⟨_, .bool (Op.bytesLess s u || decide (s = u)), fun w => by simp [binOp, Op.stringOp, str_toList, hb], V.Den.bool, hφ⟩
    · cases h; exact ⟨_, .bool (!(Op.bytesLess s u || decide (s = u))), fun w => by simp [binOp, Op.stringOp, str_toList, hb], V.Den.bool, hφ⟩
    · cases h; exact ⟨_, .bool (!Op.bytesLess s u), fun w => by simp [binOp, Op.stringOp, str_toList], V.Den.bool, hφ⟩
    · cases h
      obtain ⟨_, hl, hφ⟩ := hφ
      refine ⟨_, .string ⟨(s ++ u).toArray⟩, fun w => ?_, V.Den.str, hφ⟩
      have : ¬ ((((⟨s.toArray⟩ : ByteArray).size + (⟨u.toArray⟩ : ByteArray).size : Nat) : Int) > IntKind.i64.max) := by
        rw [str_size, str_size]; simp only [IntKind.max, IntKind.bits, IntKind.signed]; simp; omega
      simp only [binOp, Op.stringOp]
      rw [if_neg this, str_cat]; rfl
    · cases h
  · split at h
    · rename_i ti hti
      exact binN_run hE hti h hφ hu hv ox oy
    · cases h
end Go.Lx
set_option linter.unusedSimpArgs false
set_option linter.unusedVariables false
namespace Go.Lx
open Go
open Go.Sx (NP Keeps Hp Keep0 TI TEnv TOk Kd Ar ArEq kdInt vcIf FOk kdOf fillC)
/-! Building -/
def evParts (fr : List (Nat × V)) : List (Nat × Operand) → Option (List (Nat × V))
  | [] => some []
  | (i, x) :: r => match ev fr x, evParts fr r with
    | some y, some l => some ((i, y) :: l)
    | _, _ => none
inductive DenP (H : Hp) (E : Ev) : List (Nat × V) → List (Nat × Value) → Prop
  | nil : DenP H E [] []
  | cons {i : Nat} {x : V} {v : Value} {l : List (Nat × V)} {m : List (Nat × Value)} (h : V.Den H E x v) (k : DenP H E l m) : DenP H E ((i, x) :: l) ((i, v) :: m)
theorem evParts_ok {B : Base} {st : St} {E : Ev} {F : Nat → NP} {a : Act} {w : World} (hI : Inv B st E F a w) : ∀ {l : List (Nat × Operand)} {xs : List (Nat × V)}, evParts st.fr l = some xs → DenP ⟨nowM B F, w⟩ E xs (l.map fun (i, x) => (i, a.eval x))
  | [], xs, h => by simp [evParts] at h; subst h; exact .nil
  | (i, x) :: r, xs, h => by
    simp only [evParts] at h
    split at h
    · rename_i y l h1 h2
      cases h
      exact .cons (hI.ev h1) (evParts_ok hI h2)
    · cases h
def fillV (flds : List (Nat × Nat × Nat × Bool)) (cells : List V) : List (Nat × V) → Option (List V)
  | [] => some cells
  | (i, x) :: r => match flds[i]? with
    | some (off, _, size, _) => match Nat.beq x.cells.length size, Nat.ble (off + size) cells.length, allOne x.cells with
      | true, true, true => fillV flds (cells.take off ++ (x.cells ++ cells.drop (off + size))) r
      | _, _, _ => none
    | none => none
theorem fillV_ok {H : Hp} {E : Ev} {flds : List (Nat × Nat × Nat × Bool)} : ∀ {parts : List (Nat × V)} {px : List (Nat × Value)} {cells cs : List V} {vals : List Value}, DenP H E parts px → DenL H E cells vals → fillV flds cells parts = some cs →
    ∃ vals', fillC flds vals px = some vals' ∧ DenL H E cs vals'
  | [], _, cells, cs, vals, hp, hd, h => by cases hp; simp [fillV] at h; subst h; exact ⟨vals, rfl, hd⟩
  | (i, x) :: r, _, cells, cs, vals, .cons (v := v) hx hp, hd, h => by
    simp only [fillV] at h
    split at h
    · rename_i off t size ag hf
      split at h
      · rename_i h1 h2 h3
        obtain ⟨hc, _⟩ := hx.cells h3
        have e1 := Nat.eq_of_beq_eq_true h1
        have e2 := Nat.le_of_ble_eq_true h2
        obtain ⟨vals', h4, h5⟩ := fillV_ok hp ((hd.take off).append (hc.append (hd.drop (off + size)))) h
        refine ⟨vals', ?_, h5⟩
        simp only [fillC, hf]
        have b1 : Nat.beq v.cells.toList.length size = true := by rw [hc.1]; exact h1
        have b2 : Nat.ble (off + size) vals.length = true := by rw [hd.1]; exact h2
        rw [b1, b2]
        exact h4
      · cases h
    · cases h
def zeroV (ti : TI) : Option (List V) :=
  match ti.zero with
  | some z => match pvs z with
    | some l => some (mapP l)
    | none => none
  | none => none
theorem zeroV_den {ti : TI} {cells : List V} (h : zeroV ti = some cells) {H : Hp} {E : Ev} : ∃ z, ti.zero = some z ∧ DenL H E cells z := by
  unfold zeroV at h
  split at h
  · rename_i z hz
    split at h
    · rename_i l hl
      cases h
      refine ⟨z, hz, ?_⟩
      obtain ⟨h1, h2⟩ := pvs_den (H := H) hl
      rw [mapP_eq]
      refine ⟨by simpa using h1, fun i c v hc hv => ?_⟩
      rw [List.getElem?_map] at hc
      cases hcs : l[i]? with
      | none => rw [hcs] at hc; cases hc
      | some c0 => rw [hcs] at hc; cases hc; exact .p _ _ (h2 i c0 v hcs hv)
    · cases h
  · cases h
def rdBuild (E : TEnv) (T : TypeId) (parts : Array (Nat × Operand)) (st : St) (k : V → Prop) : Option Prop :=
  match E.get T with
  | some ti => match ti.flds, zeroV ti, evParts st.fr parts.toList with
    | f :: fs, some z, some l => match fillV (f :: fs) z l with
      | some cs => some (k (mkAgg cs))
      | none => none
    | _, _, _ => none
  | none => none
theorem rdBuild_ok {P : Program} {TE : TEnv} (hE : TOk P TE) (hFO : FOk P TE) {X : Nat → Bool} {T : TypeId} {parts : Array (Nat × Operand)} {st : St} {k : V → Prop} {φ : Prop} (h : rdBuild TE T parts st k = some φ) (hφ : φ)
    {B : Base} {E : Ev} {F : Nat → NP} {a : Act} {w : World} (hI : Inv B st E F a w) {o : Oper} (ho : o.op = .build T parts) : RdOk P B st E F a w X o k := by
  have he : execOp a.eval o = (do pure (.value (← Instr.build T (parts.map fun (i, x) => (i, a.eval x))))) := by simp only [execOp, ho]
  unfold rdBuild at h
  split at h
  · rename_i ti hti
    obtain ⟨inf, d, his⟩ := hE.get hti
    split at h
    · rename_i f0 fr0 z l hfl hz hl
      split at h
      · rename_i cs hcs
        cases h
        obtain ⟨fds, rfl, _⟩ := Sx.Is.struct his (hFO T ti hti) (f := 0) (x := f0) (by rw [hfl]; rfl)
        obtain ⟨zl, hzl, hzd⟩ := zeroV_den (H := ⟨nowM B F, w⟩) (E := E) hz
        have hzv : ∃ zv, inf.zero = some zv ∧ zl = zv.cells.toList := by
          have := his.zero; rw [hzl] at this
          cases hh : inf.zero <;> simp [hh] at this
          exact ⟨_, rfl, this⟩
        obtain ⟨zv, hzv, rfl⟩ := hzv
        have hparts : DenP ⟨nowM B F, w⟩ E l (parts.map fun (i, x) => (i, a.eval x)).toList := by
          rw [Array.toList_map]; exact evParts_ok hI hl
        obtain ⟨vals, hv1, hv2⟩ := fillV_ok hparts hzd hcs
        refine RdOk.op _ he (fun w' _ => ?_) (mkAgg_den hv2) hφ
        refine run_build w' T _ vals.toArray ?_
        have hin := hFO T ti hti
        simp only [Sx.fieldsIn, his.und, List.all_eq_true, Bool.and_eq_true] at hin
        unfold Program.built
        simp only [his.info, his.und, hzv, Sx.mapM_places fds.toList (fun f hf => (hin f hf).1)]
        have := Sx.fill_fillC (place := fun i => ((fds.toList.map fun f => (f.offset, ((P.info? f.type).map (·.size)).getD 0)).toArray)[i]?) (flds := f0 :: fr0) ?_ _ zv.cells.toList vals hv1
        · simpa using this
        · intro i
          rw [← hfl, his.flds]
          simp [Sx.fldsOf, Function.comp_def]
      · cases h
    · cases h
  · cases h
/-! Small ones -/
def getV : V → Nat → Option V
  | .p (.tup vs), i => match vs[i]? with
    | some x => some (.p x)
    | none => none
  | .tup vs, i => vs[i]?
  | _, _ => none
def rdSmall (L : Lr) (E : TEnv) (op : Op) (st : St) (k : V → Prop) : Option Prop :=
  match op with
  | .move x | .assign x => match ev st.fr x with
    | some v => some (k v)
    | none => none
  | .pick c a b => match ev st.fr c, ev st.fr a, ev st.fr b with
    | some (.p (.bool t)), some (.p (.bool x)), some (.p (.bool y)) => some (k (.p (.bool (L.a.cond t x y))))
    | some (.p (.bool t)), some x, some y => some (vcIf t (fun _ => k x) (fun _ => k y))
    | _, _, _ => none
  | .extract x i => match ev st.fr x with
    | some v => match getV v i with
      | some u => some (k u)
      | none => none
    | none => none
  | .binOp op t x y _ => match ev st.fr x, ev st.fr y with
    | some a, some b => binP L E op t a b y k
    | _, _ => none
  | .unOp .not _ x => match ev st.fr x with
    | some (.p (.bool b)) => some (k (.p (.bool (L.a.not b))))
    | _ => none
  | .unOp .neg _ x => match ev st.fr x with
    | some (.p (.int kk n)) => some (k (.p (.int kk (L.a.sub kk 0 n))))
    | _ => none
  | .unOp .xor _ x => match ev st.fr x with
    | some (.p (.int .u32 n)) => some (k (.p (.int .u32 (L.a.xor .u32 4294967295 n))))
    | _ => none
  | .nilCheck x => match ev st.fr x with
    | some (.own i o) => some (k (.own i o))
    | some (.ap i sz q o) => some (k (.ap i sz q o))
    | some (.imm sz y o) => some (k (.imm sz y o))
    | some (.p (.fn f)) => some (k (.p (.fn f)))
    | some (.fn f cs) => some (k (.fn f cs))
    | _ => none
  | .makeFunc (.func f) fi cap => match fi.toList, evs st.fr cap.toList with
    | [], some [] => some (k (.p (.fn f)))
    | [], some (c :: cs) => some (k (.fn f (c :: cs)))
    | _, _ => none
  | _ => none
theorem rdSmall_ok {P : Program} {TE : TEnv} (hE : TOk P TE) {X : Nat → Bool} {st : St} {k : V → Prop} {φ : Prop} {o : Oper} (h : rdSmall .std TE o.op st k = some φ) (hφ : φ)
    {B : Base} {E : Ev} {F : Nat → NP} {a : Act} {w : World} (hI : Inv B st E F a w) : RdOk P B st E F a w X o k := by
  cases ho : o.op <;> rw [ho] at h <;> simp only [rdSmall] at h
  case move x =>
    split at h
    · rename_i v hv; cases h
      exact RdOk.all (x := a.eval x) (fun w' => by simp only [execOp, ho]; rfl) (hI.ev hv) hφ
    · cases h
  case assign x =>
    split at h
    · rename_i v hv; cases h
      exact RdOk.all (x := a.eval x) (fun w' => by simp only [execOp, ho]; rfl) (hI.ev hv) hφ
    · cases h
  case pick c x y =>
    split at h
    · rename_i t u v hc hx hy
      cases h
      refine RdOk.all (x := .bool (cond t u v)) (fun w' => ?_) V.Den.bool hφ
      simp only [execOp, ho, (hI.ev hc).bool_inv, (hI.ev hx).bool_inv, (hI.ev hy).bool_inv, asBool, Sem.run_bind, Sem.run_pure, Result.andThen_ok]
      cases t <;> rfl
    · rename_i t u v _ hc hx hy
      cases h
      unfold vcIf at hφ
      cases t with
      | true => exact RdOk.all (x := a.eval x) (fun w' => by simp only [execOp, ho, (hI.ev hc).bool_inv, asBool, Sem.run_bind, Sem.run_pure, Result.andThen_ok]; rfl) (hI.ev hx) hφ
      | false => exact RdOk.all (x := a.eval y) (fun w' => by simp only [execOp, ho, (hI.ev hc).bool_inv, asBool, Sem.run_bind, Sem.run_pure, Result.andThen_ok]; rfl) (hI.ev hy) hφ
    · cases h
  case extract x i =>
    split at h
    · rename_i v hv
      split at h
      · rename_i u hu
        cases h
        have hd := hI.ev hv
        have : ∃ xs z, a.eval x = .tuple xs ∧ xs[i]? = some z ∧ V.Den ⟨nowM B F, w⟩ E u z := by
          unfold getV at hu
          split at hu
          · split at hu
            · rename_i y hy
              cases hu
              generalize a.eval x = ax at hd
              cases hd with
              | p _ _ hd =>
                cases hd with
                | tup _ xs hl hh =>
                  have hlt : i < xs.size := by rw [hl]; exact lt_of_some hy
                  exact ⟨xs, xs[i], rfl, by simp [hlt], .p _ _ (hh i y _ hy (by simp [hlt]))⟩
            · cases hu
          · generalize a.eval x = ax at hd
            cases hd with
            | tup _ xs hl hh =>
              have hlt : i < xs.size := by rw [hl]; exact lt_of_some hu
              exact ⟨xs, xs[i], rfl, by simp [hlt], hh i u _ hu (by simp [hlt])⟩
          · cases hu
        obtain ⟨xs, z, h1, h2, h3⟩ := this
        refine RdOk.op (Instr.extract (a.eval x) i) (by simp only [execOp, ho]) (fun w' _ => ?_) h3 hφ
        simp only [h1, Instr.extract, h2]; rfl
      · cases h
    · cases h
  case binOp op t x y ty =>
    split at h
    · rename_i u v hx hy
      obtain ⟨r, z, h1, h2, h3⟩ := binP_run hE h hφ (hI.ev hx) (hI.ev hy)
      exact RdOk.op _ (by simp only [execOp, ho]) (fun w' _ => h1 w') h2 h3
    · cases h
  case unOp op t x =>
    cases op <;> simp only at h <;> first | (cases h; done) | skip
    · split at h
      · rename_i kk n hx
        cases h
        exact RdOk.op (Op.unary .neg (a.eval x)) (by simp only [execOp, ho]) (fun w' _ => by rw [(hI.ev hx).int_inv]; rfl) V.Den.int hφ
      · cases h
    · split at h
      · rename_i n hx
        cases h
        exact RdOk.op (Op.unary .xor (a.eval x)) (by simp only [execOp, ho]) (fun w' _ => by rw [(hI.ev hx).int_inv]; rfl) V.Den.int hφ
      · cases h
    · split at h
      · rename_i b hx
        cases h
        exact RdOk.op (Op.unary .not (a.eval x)) (by simp only [execOp, ho]) (fun w' _ => by rw [(hI.ev hx).bool_inv]; rfl) V.Den.bool hφ
      · cases h
  case nilCheck x =>
    have key : ∀ {u : V}, ev st.fr x = some u → (∃ p, a.eval x = .pointer (some p)) ∨ (∃ f cs, a.eval x = .func (.func f) #[] cs) → k u → RdOk P B st E F a w X o k := by
      rintro u hu (⟨p, hp⟩ | ⟨f, cs, hp⟩) hk
      · exact RdOk.all (x := a.eval x) (fun w' => by simp only [execOp, ho, hp]; rfl) (hI.ev hu) hk
      · exact RdOk.all (x := a.eval x) (fun w' => by simp only [execOp, ho, hp]; rfl) (hI.ev hu) hk
    split at h
    · rename_i i q hx
      cases h
      refine key hx (.inl ?_) hφ
      have := hI.ev hx
      generalize a.eval x = ax at this
      cases this; exact ⟨_, rfl⟩
    · rename_i hx
      cases h
      refine key hx (.inl ?_) hφ
      have := hI.ev hx
      generalize a.eval x = ax at this
      cases this; exact ⟨_, rfl⟩
    · rename_i hx
      cases h
      refine key hx (.inl ?_) hφ
      have := hI.ev hx
      generalize a.eval x = ax at this
      cases this; exact ⟨_, rfl⟩
    · rename_i hx
      cases h
      refine key hx (.inr ?_) hφ
      have := hI.ev hx
      generalize a.eval x = ax at this
      cases this with
      | p _ _ h => cases h; exact ⟨_, _, rfl⟩
    · rename_i hx
      cases h
      refine key hx (.inr ?_) hφ
      have := hI.ev hx
      generalize a.eval x = ax at this
      cases this; exact ⟨_, _, rfl⟩
    · cases h
  case makeFunc fn fi cap =>
    cases fn <;> simp only at h <;> first | (cases h; done) | skip
    rename_i f
    have he : execOp a.eval o = (do pure (.value (← Instr.makeFunc (.func f) (fi.map a.eval) (cap.map a.eval)))) := by simp only [execOp, ho]
    split at h
    · rename_i hfi hcap
      cases h
      have e1 : fi = #[] := Array.toList_inj.1 hfi
      have e2 := evs_ok hI hcap
      have e3 : cap.map a.eval = #[] := by
        apply Array.toList_inj.1
        rw [Array.toList_map]; exact List.eq_nil_of_length_eq_zero e2.1
      exact RdOk.op _ he (fun w' _ => by rw [e1, e3]; simp [Instr.makeFunc]) (.p _ _ (.fn f)) hφ
    · rename_i c cs hfi hcap
      cases h
      have e1 : fi = #[] := Array.toList_inj.1 hfi
      have e2 := evs_ok hI hcap
      refine RdOk.op _ he (fun w' _ => by rw [e1]; simp [Instr.makeFunc]) (.fn f (c :: cs) (cap.map a.eval) ?_ ?_) hφ
      · have := e2.1; simpa using this
      · intro i c v hc hv
        exact e2.2 i c v hc (by rw [← Array.toList_map]; simpa using hv)
    · cases h
  all_goals (cases h; done)
end Go.Lx
set_option linter.unusedSimpArgs false
set_option linter.unusedVariables false
namespace Go.Lx
open Go
open Go.Sx (NP Keeps Hp Keep0 TI TEnv TOk Kd Ar ArEq kdInt vcIf FOk kdOf kdInt)
theorem kd_slice {P : Program} {t e : TypeId} {ti : TI} {inf : TypeInfo} {d : TypeDesc} (h : TI.Is P t ti inf d) (hk : ti.kd = .slice e) : d = .slice e := by
  have := h.kd; rw [hk] at this
  cases d <;> simp [kdOf] at this
  subst this; rfl
theorem kd_int {P : Program} {t : TypeId} {ti : TI} {inf : TypeInfo} {d : TypeDesc} {k : IntKind} (h : TI.Is P t ti inf d) (hk : ti.kd = .int k) : d = .int k := by
  have := h.kd; rw [hk] at this
  cases d <;> simp [kdOf] at this
  subst this; rfl
theorem kd_str {P : Program} {t : TypeId} {ti : TI} {inf : TypeInfo} {d : TypeDesc} (h : TI.Is P t ti inf d) (hk : ti.kd = .str) : d = .string := by
  have := h.kd; rw [hk] at this
  cases d <;> simp [kdOf] at this
  rfl
def bP : List UInt8 → List PV
  | [] => []
  | b :: r => .int .u8 b.toNat :: bP r
theorem bP_eq (l : List UInt8) : bP l = l.map fun b => .int .u8 b.toNat := by
  induction l with
  | nil => rfl
  | cons b r ih => simp [bP, ih]
theorem bP_length (l : List UInt8) : (bP l).length = l.length := by simp [bP_eq]
theorem bP_wf (l : List UInt8) : Wf 1 (bP l) := by
  intro x hx
  rw [bP_eq] at hx
  obtain ⟨b, _, rfl⟩ := List.mem_map.1 hx
  exact ⟨rfl, fun u hu => by simp [PV.cells] at hu; subst hu; rfl⟩
theorem bP_flat (l : List UInt8) : flat (bP l) = bP l := by
  induction l with
  | nil => rfl
  | cons b r ih => simp [bP, flat, ih, PV.cells]
def SlAt (B : Base) (F : Nat → NP) (X : Nat → Bool) (w : World) (a : Option Addr) (xs : List PV) : Prop :=
  flat xs = [] ∨ ∃ (b off : Nat) (val : Nat → Value), a = some ⟨b, off, none⟩ ∧ (∀ w', Prot (DD B F X) w w' → w'.heap[b]? = w.heap[b]?) ∧ (∃ c T fz, w.heap[b]? = some (.cells c T fz) ∧ ∀ j u, (flat xs)[j]? = some u → c[off + j]? = some (val j)) ∧
    ∀ (j : Nat) (u : PV), (flat xs)[j]? = some u → PV.Den ⟨nowM B F, w⟩ u (val j)
inductive Sq where
  | l (xs : List PV)
  | t (s : List UInt8)
  | c (xs : List PV) (off n : Nat)
def Sq.get : Sq → List PV
  | .l xs => xs
  | .t s => bP s
  | .c xs off n => (xs.drop off).take n
def seen (X : Nat → Bool) (own : List Res) : V → Option Sq
  | .p (.sl xs) => some (.l xs)
  | .p .nils => some (.l [])
  | .p .e0 => some (.l [])
  | .vw i _ off n _ => match X i, own[i]? with
    | false, some (.arr _ _ xs) => some (.c xs off n)
    | _, _ => none
  | _ => none
theorem seen_ok {B : Base} {st : St} {E : Ev} {F : Nat → NP} {a : Act} {w : World} {X : Nat → Bool} (hI : Inv B st E F a w) {x : V} {v : Value} (hd : V.Den ⟨nowM B F, w⟩ E x v) {q : Sq} (h : seen X st.own x = some q) {xs : List PV} (hq : q.get = xs) :
    ∃ ad c, v = .slice ad xs.length c ∧ (ad = none → xs = [] ∧ c = 0) ∧ SlAt B F X w ad xs ∧ xs.length ≤ c ∧ ∃ sz, Wf sz xs := by
  subst hq
  unfold seen at h
  split at h
  · cases h
    cases hd with
    | p _ _ hd =>
      cases hd with
      | sle ad c hc => exact ⟨ad, c, rfl, fun h => ⟨rfl, hc h⟩, .inl rfl, Nat.zero_le _, 0, Wf.nil⟩
      | sl _ b off sz c val hw hc hs hd =>
        refine ⟨_, c, rfl, (fun h => by cases h), .inr ⟨b, off, val, rfl, fun w' hp => hs.prot hp, ?_, hd⟩, hc.1, sz, hw⟩
        obtain ⟨_, _, cc, T, fz, h1, h2⟩ := hs
        exact ⟨cc, T, fz, h1, h2⟩
  · cases h
    cases hd with
    | p _ _ hd => cases hd; exact ⟨none, 0, rfl, fun _ => ⟨rfl, rfl⟩, .inl rfl, Nat.zero_le _, 0, Wf.nil⟩
  · cases h
    cases hd with
    | p _ _ hd => cases hd with | e0 ad => exact ⟨ad, 0, rfl, fun _ => ⟨rfl, rfl⟩, .inl rfl, Nat.zero_le _, 0, Wf.nil⟩
  · rename_i i sz off n cap
    split at h
    · rename_i T sz' zs hX hi
      cases h
      simp only [Sq.get]
      obtain ⟨hsz, hwf, hlen, hez, hrow⟩ := hI.held i _ hi
      cases hd with
      | vwn _ _ _ ad hin hnl hz hc => exact ⟨ad, 0, by simp, fun _ => ⟨by simp, rfl⟩, .inl (by simp [flat]), by simp, 0, by simpa using Wf.nil⟩
      | vw _ _ _ _ _ ad c hin hnl hc hk hl hx hz ha =>
        rcases hrow with ⟨h1, _, _⟩ | ⟨_, hF, hl1, hl2, cc, hcc, hcs, val, hval⟩
        · rw [hnl] at h1; cases h1
        have hlx : ((zs.drop off).take n).length = n := by simp; omega
        refine ⟨some ad, c, by rw [hlx], (fun h => by cases h), ?_, by omega, sz', hwf.drop.take⟩
        by_cases hn0 : n = 0
        · subst hn0; left; simp [flat]
        have ha : ad = ⟨E.ρ i, off * sz, none⟩ := ha.resolve_right (by omega)
        have e2 : sz = sz' := hz.symm.trans hez
        subst e2
        right
        have hfl : flat ((zs.drop off).take n) = ((flat zs).drop (off * sz)).take (n * sz) := by rw [flat_take hwf.drop, flat_drop hwf]
        have hpt : ∀ j u, (flat ((zs.drop off).take n))[j]? = some u → (flat zs)[off * sz + j]? = some u := by
          intro j u hj
          rw [hfl, List.getElem?_take] at hj
          split at hj
          · rwa [List.getElem?_drop] at hj
          · cases hj
        exact ⟨E.ρ i, off * sz, fun j => val (off * sz + j), by rw [ha], fun w' hp => hI.prot hp hX ((hF _).2 rfl), ⟨cc, T, (0, 0), hcc, fun j u hj => (hval _ u (hpt j u hj)).1⟩, fun j u hj => (hval _ u (hpt j u hj)).2⟩
    · cases h
  · cases h
theorem SlAt.cells {B : Base} {F : Nat → NP} {X : Nat → Bool} {w : World} {a : Addr} {xs : List PV} (h : SlAt B F X w (some a) xs) : ∃ vs : List Value, vs.length = (flat xs).length ∧ (∀ w', Prot (DD B F X) w w' → ∀ j v, vs[j]? = some v → w'.cell? (a.add j) = some v) ∧
    ∀ (j : Nat) (u : PV) (v : Value), (flat xs)[j]? = some u → vs[j]? = some v → PV.Den ⟨nowM B F, w⟩ u v := by
  rcases h with h | ⟨b, off, val, ha, hp, ⟨c, T, fz, hc, hj⟩, hd⟩
  · exact ⟨[], by simp [h], fun _ _ j v hv => by simp at hv, fun j u v _ hv => by simp at hv⟩
  · cases ha
    refine ⟨(List.range (flat xs).length).map val, by simp, fun w' hw j v hv => ?_, fun j u v hu hv => ?_⟩
    · have hlt : j < (flat xs).length := by have := lt_of_some hv; simpa using this
      have : val j = v := by simpa [hlt] using hv
      subst this
      rw [Sx.addr_add, cell_of_row w' b _ c T fz ((hp w' hw).trans hc)]
      exact hj j _ (List.getElem?_eq_getElem hlt)
    · have hlt : j < (flat xs).length := by have := lt_of_some hv; simpa using this
      have : val j = v := by simpa [hlt] using hv
      subst this
      exact hd j u hu
/-! Conversions and lengths -/
def rdConv (L : Lr) (E : TEnv) (X : Nat → Bool) (src dst : TypeId) (x : Operand) (st : St) (k : V → Prop) : Option Prop :=
  match E.get src, E.get dst, ev st.fr x with
  | some ts, some td, some v => match v with
    | .p (.int _ n) => match kdInt td.kd with
      | some kk => some (k (.p (.int kk (L.a.wrap kk n))))
      | none => none
    | .p (.str s) => match td.kd with
      | .str => some (k (.p (.str s)))
      | _ => none
    | v => match ts.kd, td.kd with
      | .slice e, .str => match E.get e with
        | some te => match te.kd with
          | .int .u8 => match seen X st.own v with
            | some q => some (∃ l, q.get = bP l ∧ k (.p (.str l)))
            | none => none
          | _ => none
        | none => none
      | _, _ => none
  | _, _, _ => none
theorem push_all (l : List UInt8) : ∀ r : ByteArray, (l.map fun b => (b.toNat : Int)).foldl (fun r n => r.push (UInt8.ofNat n.toNat)) r = ⟨r.data ++ l.toArray⟩ := by
  induction l with
  | nil => intro r; simp
  | cons x l ih =>
    intro r
    simp only [List.map_cons, List.foldl_cons, ih]
    congr 1
    apply Array.ext'
    simp [ByteArray.push]
theorem rdConv_ok {P : Program} {TE : TEnv} (hE : TOk P TE) {X : Nat → Bool} {src dst : TypeId} {x : Operand} {st : St} {k : V → Prop} {φ : Prop} (h : rdConv .std TE X src dst x st k = some φ) (hφ : φ)
    {B : Base} {E : Ev} {F : Nat → NP} {a : Act} {w : World} (hI : Inv B st E F a w) {o : Oper} (ho : o.op = .convert src dst x) : RdOk P B st E F a w X o k := by
  have he : execOp a.eval o = (do pure (.value (← convert src dst (a.eval x)))) := by simp only [execOp, ho]
  unfold rdConv at h
  split at h
  · rename_i ts td v hs hd hx
    obtain ⟨i1, d1, h1⟩ := hE.get hs
    obtain ⟨i3, d3, h3⟩ := hE.get hd
    split at h
    · rename_i k' n
      split at h
      · rename_i kk hkk
        cases h
        have hd3 : d3 = .int kk := by
          have := h3.kd
          cases d3 <;> simp [kdOf] at this <;> rw [this] at hkk <;> simp [kdInt] at hkk
          subst hkk; rfl
        subst hd3
        refine RdOk.op _ he (fun w' _ => ?_) V.Den.int hφ
        have hik : P.intKind dst = kk := by simp [Program.intKind, h3.und]
        have := run_convert_int (P := P) w' src dst k' n (by simp [h1.und]) (by rw [hik]; exact h3.und)
        rw [hik] at this
        rw [(hI.ev hx).int_inv]
        exact this
      · cases h
    · rename_i s
      split at h
      · rename_i hkd
        cases h
        have := kd_str h3 hkd; subst this
        refine RdOk.op _ he (fun w' _ => ?_) V.Den.str hφ
        rw [(hI.ev hx).str_inv]
        unfold convert
        rw [Sem.run_bind, run_underlying h1.und]
        simp only [Result.andThen_ok]
        rw [Sem.run_bind, run_underlying h3.und]
        simp only [Result.andThen_ok]
        cases d1 <;> rfl
      · cases h
    · split at h
      · rename_i e hks hkd
        split at h
        · rename_i te hte
          obtain ⟨i2, d2, h2⟩ := hE.get hte
          split at h
          · rename_i hke
            split at h
            · rename_i xs hxs
              cases h
              obtain ⟨l, hql, hφ⟩ := hφ
              have hd1 := kd_slice h1 hks
              have hd2 := kd_int h2 hke
              have hd3 := kd_str h3 hkd
              subst hd1 hd2 hd3
              obtain ⟨ad, c, hv, hnil, hat, hlc, _⟩ := seen_ok hI (hI.ev hx) hxs hql
              refine RdOk.op _ he (fun w' hp => ?_) V.Den.str hφ
              rw [hv]
              cases ad with
              | none =>
                obtain ⟨hl, rfl⟩ := hnil rfl
                have hl : l = [] := by cases l <;> first | rfl | cases hl
                subst hl
                rw [run_convert_bytes_nil w' src e h1.und h2.und _ _ dst h3.und]
                rfl
              | some ad =>
                rw [run_convert_bytes_string w' src dst e (some ad) _ _ h1.und h2.und h3.und]
                obtain ⟨vs, g1, g2, g3⟩ := hat.cells
                rw [bP_flat] at g1 g3
                have hvs : vs = (l.map fun b => (b.toNat : Int)).map (Value.int .u8) := by
                  apply List.ext_getElem?
                  intro j
                  by_cases hj : j < l.length
                  · have hj2 : j < vs.length := by rw [g1, bP_length]; exact hj
                    have hb : (bP l)[j]? = some (.int .u8 (l[j].toNat : Nat)) := by rw [bP_eq]; simp [hj]
                    have := g3 j _ vs[j] hb (List.getElem?_eq_getElem hj2)
                    rw [List.getElem?_eq_getElem hj2, this.int_inv]
                    simp [hj]
                  · rw [List.getElem?_eq_none (by rw [g1, bP_length]; omega), List.getElem?_eq_none (by simp; omega)]
                have hload : (loadCells ad (bP l).length).run P w' = .ok ((l.map fun b => (b.toNat : Int)).map (Value.int .u8)).toArray w' := by
                  have := run_loadCells_list (P := P) w' ad vs (g2 w' hp)
                  rw [g1] at this
                  rw [this, hvs]
                rw [run_bytesToString w' ad _ c _ hload, push_all]
                simp
            · cases h
          · cases h
        · cases h
      · cases h
  · cases h
def mmFold (f : Int → Int → Int) (g : List UInt8 → List UInt8 → List UInt8) : PV → List V → Option PV
  | x, [] => some x
  | .int k a, .p (.int _ b) :: r => mmFold f g (.int k (f a b)) r
  | .str a, .p (.str b) :: r => mmFold f g (.str (g a b)) r
  | _, _ => none
def rdLen (L : Lr) (E : TEnv) (c : Call) (st : St) (k : V → Prop) : Option Prop :=
  match c.callee, evs st.fr c.args.toList with
  | .builtin .len, some [v] => match c.argTypes.toList with
    | [t] => match E.get t with
      | some ti => match ti.kd, v with
        | .slice _, .p (.sl xs) => some (k (.p (.int .i64 (L.len xs))))
        | .slice _, .p .nils => some (k (.p (.int .i64 0)))
        | .slice _, .p .e0 => some (k (.p (.int .i64 0)))
        | .slice _, .vw _ _ _ n _ => some (k (.p (.int .i64 (L.a.ofNat n))))
        | .str, .p (.str s) => some (k (.p (.int .i64 (L.slen s))))
        | _, _ => none
      | none => none
    | _ => none
  | .builtin .max, some (.p x :: r) => match mmFold L.imax L.smax x r with
    | some y => some (k (.p y))
    | none => none
  | .builtin .min, some (.p x :: r) => match mmFold L.imin L.smin x r with
    | some y => some (k (.p y))
    | none => none
  | _, _ => none
theorem max2_run {P : Program} {H : Hp} {E : Ev} : ∀ {r : List V} {vs : List Value} {x y : PV} {v : Value}, DenL H E r vs → PV.Den H x v → mmFold Lr.std.imax Lr.std.smax x r = some y → ∃ z, (∀ w, (vs.foldlM Builtin.max2 v).run P w = .ok z w) ∧ PV.Den H y z
  | [], vs, x, y, v, hd, hx, h => by
    have : vs = [] := List.eq_nil_of_length_eq_zero hd.1
    subst this
    have : x = y := by cases x <;> simpa [mmFold] using h
    subst this
    exact ⟨v, fun w => rfl, hx⟩
  | c :: r, [], x, y, v, hd, hx, h => by have := hd.1; simp at this
  | c :: r, u :: vs, x, y, v, hd, hx, h => by
    have hc : V.Den H E c u := hd.2 0 c u rfl rfl
    have hr : DenL H E r vs := ⟨by have := hd.1; simpa using this, fun i c v h1 h2 => hd.2 (i + 1) c v (by simpa using h1) (by simpa using h2)⟩
    unfold mmFold at h
    split at h
    · rename_i heq; cases heq
    · rename_i k a k' b _ heq
      cases heq
      have := hc.int_inv; subst this
      have := hx.int_inv; subst this
      obtain ⟨z, h1, h2⟩ := max2_run (P := P) hr (.int k (if b > a then b else a)) h
      refine ⟨z, fun w => ?_, h2⟩
      rw [List.foldlM_cons, Sem.run_bind]
      simp only [Builtin.max2, Sem.run_pure, Result.andThen_ok]
      exact h1 w
    · rename_i a b _ heq
      cases heq
      have := hc.str_inv; subst this
      have := hx.str_inv; subst this
      obtain ⟨z, h1, h2⟩ := max2_run (P := P) hr (.str (if Op.bytesLess a b then b else a)) h
      refine ⟨z, fun w => ?_, h2⟩
      rw [List.foldlM_cons, Sem.run_bind]
      have hm : (Builtin.max2 (.string ⟨a.toArray⟩) (.string ⟨b.toArray⟩)).run P w = .ok (.string ⟨(if Op.bytesLess a b then b else a).toArray⟩) w := by
        simp only [Builtin.max2, Op.stringOp, str_toList, Sem.run_bind, Sem.run_pure, Result.andThen_ok, asBool]
        cases Op.bytesLess a b <;> rfl
      rw [hm]
      exact h1 w
    · cases h
theorem min2_run {P : Program} {H : Hp} {E : Ev} : ∀ {r : List V} {vs : List Value} {x y : PV} {v : Value}, DenL H E r vs → PV.Den H x v → mmFold Lr.std.imin Lr.std.smin x r = some y → ∃ z, (∀ w, (vs.foldlM Builtin.min2 v).run P w = .ok z w) ∧ PV.Den H y z
  | [], vs, x, y, v, hd, hx, h => by
    have : vs = [] := List.eq_nil_of_length_eq_zero hd.1
    subst this
    have : x = y := by cases x <;> simpa [mmFold] using h
    subst this
    exact ⟨v, fun w => rfl, hx⟩
  | c :: r, [], x, y, v, hd, hx, h => by have := hd.1; simp at this
  | c :: r, u :: vs, x, y, v, hd, hx, h => by
    have hc : V.Den H E c u := hd.2 0 c u rfl rfl
    have hr : DenL H E r vs := ⟨by have := hd.1; simpa using this, fun i c v h1 h2 => hd.2 (i + 1) c v (by simpa using h1) (by simpa using h2)⟩
    unfold mmFold at h
    split at h
    · rename_i heq; cases heq
    · rename_i k a k' b _ heq
      cases heq
      have := hc.int_inv; subst this
      have := hx.int_inv; subst this
      obtain ⟨z, h1, h2⟩ := min2_run (P := P) hr (.int k (if b < a then b else a)) h
      refine ⟨z, fun w => ?_, h2⟩
      rw [List.foldlM_cons, Sem.run_bind]
      simp only [Builtin.min2, Sem.run_pure, Result.andThen_ok]
      exact h1 w
    · rename_i a b _ heq
      cases heq
      have := hc.str_inv; subst this
      have := hx.str_inv; subst this
      obtain ⟨z, h1, h2⟩ := min2_run (P := P) hr (.str (if Op.bytesLess a b || decide (a = b) then a else b)) h
      refine ⟨z, fun w => ?_, h2⟩
      rw [List.foldlM_cons, Sem.run_bind]
      have hb : (a == b) = decide (a = b) := by rw [Bool.eq_iff_iff]; simp
      have hm : (Builtin.min2 (.string ⟨a.toArray⟩) (.string ⟨b.toArray⟩)).run P w = .ok (.string ⟨(if Op.bytesLess a b || decide (a = b) then a else b).toArray⟩) w := by
        simp only [Builtin.min2, Op.stringOp, str_toList, Sem.run_bind, Sem.run_pure, Result.andThen_ok, asBool, hb]
        cases (Op.bytesLess a b || decide (a = b)) <;> rfl
      rw [hm]
      exact h1 w
    · cases h
theorem rdLen_ok {P : Program} {TE : TEnv} (hE : TOk P TE) {X : Nat → Bool} {c : Call} {st : St} {k : V → Prop} {φ : Prop} (h : rdLen .std TE c st k = some φ) (hφ : φ)
    {B : Base} {E : Ev} {F : Nat → NP} {a : Act} {w : World} (hI : Inv B st E F a w) {o : Oper} (ho : o.op = .call c) : RdOk P B st E F a w X o k := by
  obtain ⟨callee, args, ts⟩ := c
  unfold rdLen at h
  simp only at h
  split at h
  · rename_i v hargs
    have hd := evs_ok hI hargs
    have hargs' : ∃ y, args = #[y] ∧ V.Den ⟨nowM B F, w⟩ E v (a.eval y) := by
      have h1 := hd.1
      match hal : args.toList, h1 with
      | [y], _ =>
        rw [hal] at hd
        exact ⟨y, Array.toList_inj.1 hal, hd.2 0 v _ rfl rfl⟩
      | [], h1 => simp at h1
      | _ :: _ :: _, h1 => simp at h1
    obtain ⟨y, rfl, hv⟩ := hargs'
    split at h
    · rename_i t hts
      have hts' : ts = #[t] := Array.toList_inj.1 hts
      subst hts'
      split at h
      · rename_i ti hti
        obtain ⟨inf, d, his⟩ := hE.get hti
        have slc : ∀ {e : TypeId} {p : Option Addr} {n c : Nat} {u : V}, ti.kd = .slice e → a.eval y = .slice p n c → u = .p (.int .i64 n) → k u → RdOk P B st E F a w X o k := by
          rintro e p n c u hkd hy rfl hk
          have := kd_slice his hkd; subst this
          refine RdOk.all (fun w' => ?_) V.Den.int hk
          simp [execOp, ho, resolve, invoke, builtin, Builtin.len_, hy, run_underlying his.und, goInt]
        split at h
        · rename_i e xs hkd
          cases h
          have : ∃ p c, a.eval y = .slice p xs.length c := by
            generalize a.eval y = ay at hv
            cases hv with
            | p _ _ hv => cases hv <;> exact ⟨_, _, rfl⟩
          obtain ⟨p, c, hy⟩ := this
          exact slc hkd hy rfl hφ
        · rename_i e hkd
          cases h
          exact slc hkd hv.nils_inv rfl hφ
        · rename_i e hkd
          cases h
          have : ∃ p, a.eval y = .slice p 0 0 := by
            generalize a.eval y = ay at hv
            cases hv with
            | p _ _ hv => cases hv; exact ⟨_, rfl⟩
          obtain ⟨p, hy⟩ := this
          exact slc hkd hy rfl hφ
        · rename_i e i sz off n cap hkd
          cases h
          have : ∃ p c, a.eval y = .slice p n c := by
            generalize a.eval y = ay at hv
            cases hv <;> exact ⟨_, _, rfl⟩
          obtain ⟨p, c, hy⟩ := this
          exact slc hkd hy rfl hφ
        · rename_i s hkd
          cases h
          have := kd_str his hkd; subst this
          refine RdOk.all (x := .int .i64 s.length) (fun w' => ?_) V.Den.int hφ
          simp [execOp, ho, resolve, invoke, builtin, Builtin.len_, hv.str_inv, run_underlying his.und, goInt, str_size]
        · cases h
      · cases h
    · cases h
  · rename_i x r hargs
    split at h
    · rename_i y hy
      cases h
      have hd := evs_ok hI hargs
      have hne : ∃ v vs, (args.map a.eval).toList = v :: vs ∧ PV.Den ⟨nowM B F, w⟩ x v ∧ DenL ⟨nowM B F, w⟩ E r vs := by
        rw [Array.toList_map]
        match hal : args.toList.map a.eval, hd with
        | [], hd => have := hd.1; simp at this
        | v :: vs, hd =>
          refine ⟨v, vs, rfl, ?_, ⟨by have := hd.1; simpa using this, fun i c v h1 h2 => hd.2 (i + 1) c v (by simpa using h1) (by simpa using h2)⟩⟩
          cases hd.2 0 _ v rfl rfl; assumption
      obtain ⟨v, vs, e1, e2, e3⟩ := hne
      obtain ⟨z, g1, g2⟩ := max2_run (P := P) e3 e2 hy
      refine RdOk.all (fun w' => ?_) (.p _ _ g2) hφ
      simp only [execOp, ho, resolve, invoke, builtin, Builtin.max_, Sem.run_bind, Sem.run_pure, Result.andThen_ok]
      rw [e1]
      simp only [g1]; rfl
    · cases h
  · rename_i x r hargs
    split at h
    · rename_i y hy
      cases h
      have hd := evs_ok hI hargs
      have hne : ∃ v vs, (args.map a.eval).toList = v :: vs ∧ PV.Den ⟨nowM B F, w⟩ x v ∧ DenL ⟨nowM B F, w⟩ E r vs := by
        rw [Array.toList_map]
        match hal : args.toList.map a.eval, hd with
        | [], hd => have := hd.1; simp at this
        | v :: vs, hd =>
          refine ⟨v, vs, rfl, ?_, ⟨by have := hd.1; simpa using this, fun i c v h1 h2 => hd.2 (i + 1) c v (by simpa using h1) (by simpa using h2)⟩⟩
          cases hd.2 0 _ v rfl rfl; assumption
      obtain ⟨v, vs, e1, e2, e3⟩ := hne
      obtain ⟨z, g1, g2⟩ := min2_run (P := P) e3 e2 hy
      refine RdOk.all (fun w' => ?_) (.p _ _ g2) hφ
      simp only [execOp, ho, resolve, invoke, builtin, Builtin.min_, Sem.run_bind, Sem.run_pure, Result.andThen_ok]
      rw [e1]
      simp only [g1]; rfl
    · cases h
  · cases h
end Go.Lx
set_option linter.unusedSimpArgs false
set_option linter.unusedVariables false
namespace Go.Lx
open Go
open Go.Sx (NP Keeps Hp Keep0 TI TEnv TOk Kd Ar ArEq kdInt vcIf FOk kdOf kdInt)
def rdIdxA (E : TEnv) (t : TypeId) (x ix : Operand) (st : St) (k : V → Prop) : Option Prop :=
  match E.get t with
  | some ti => match ti.kd with
    | .slice e => match E.get e with
      | some te => match ev st.fr ix, ev st.fr x with
        | some (.p (.int _ i)), some (.p (.sl xs)) => some (∃ (j : Nat) (y : PV), i = j ∧ xs[j]? = some y ∧ y.cells.length = te.size ∧ k (.imm te.size y 0))
        | some (.p (.int _ i)), some (.vw r sz off n _) => match Nat.beq sz te.size with
          | true => some (∃ j : Nat, i = j ∧ j < n ∧ ∀ q, q = off + j → k (.ap r sz q 0))
          | false => none
        | _, _ => none
      | none => none
    | _ => none
  | none => none
theorem rdIdxA_ok {P : Program} {TE : TEnv} (hE : TOk P TE) {X : Nat → Bool} {t : TypeId} {x ix : Operand} {st : St} {k : V → Prop} {φ : Prop} (h : rdIdxA TE t x ix st k = some φ) (hφ : φ)
    {B : Base} {E : Ev} {F : Nat → NP} {a : Act} {w : World} (hI : Inv B st E F a w) {o : Oper} (ho : o.op = .indexAddr t x ix) : RdOk P B st E F a w X o k := by
  have he : execOp a.eval o = (do pure (.value (← Instr.indexAt t (a.eval x) (a.eval ix)))) := by simp only [execOp, ho]
  unfold rdIdxA at h
  split at h
  · rename_i ti hti
    obtain ⟨inf, d, his⟩ := hE.get hti
    split at h
    · rename_i e hkd
      have := kd_slice his hkd; subst this
      split at h
      · rename_i te hte
        obtain ⟨inf', d', his'⟩ := hE.get hte
        have run : ∀ {kk : IntKind} {j n c : Nat} {ad : Addr} w', j < n → (Instr.indexAt t (.slice (some ad) n c) (.int kk j)).run P w' = .ok (.pointer (some (ad.add (j * te.size)))) w' := by
          intro kk j n c ad w' hj
          have hcond : (0 : Int) ≤ (j : Int) ∧ (j : Int) < (n : Int) := ⟨by omega, by omega⟩
          simp only [Instr.indexAt, run_underlying his.und, asIntOf, Sem.run_bind, Sem.run_pure, Result.andThen_ok, hcond, and_self, if_true, Sx.Is.run_sizeOf his', Int.toNat_natCast]
        split at h
        · rename_i kk i xs hix hx
          cases h
          obtain ⟨j, y, rfl, hy, hyl, hφ⟩ := hφ
          have hlt := lt_of_some hy
          have hax := hI.ev hx
          generalize hg : a.eval x = ax at hax
          cases hax with
          | p _ _ hax =>
            cases hax with
            | sle ad c hc => simp at hy
            | sl _ b off sz c val hw hc hs hd =>
              have hyw := hw y (List.mem_of_getElem? hy)
              have : sz = te.size := hyw.1.symm.trans hyl
              subst this
              obtain ⟨h1, h2, cc, T, fz, h3, h4⟩ := hs
              refine RdOk.op _ he (fun w' _ => by rw [hg, (hI.ev hix).int_inv]; exact run w' hlt) ?_ hφ
              rw [Sx.addr_add]
              exact .imm _ y 0 b (off + j * te.size) (fun q => val (j * te.size + q)) hyw ⟨h1, h2, cc, T, fz, h3, fun q u hu => by rw [Nat.add_assoc]; exact h4 _ u (flat_get hw hy hu)⟩ (fun q u hu => hd _ u (flat_get hw hy hu))
        · rename_i kk i r sz off n cap hix hx
          split at h
          · rename_i hsz
            have hsz := Nat.eq_of_beq_eq_true hsz
            cases h
            obtain ⟨j, rfl, hj, hφ⟩ := hφ
            have hax := hI.ev hx
            generalize hg : a.eval x = ax at hax
            cases hax with
            | vwn _ _ _ ad hin hnl hz hc => omega
            | vw _ _ _ _ _ ad c hin hnl hc hk hl hx' hz ha =>
              have ha : ad = ⟨E.ρ r, off * sz, none⟩ := ha.resolve_right (by omega)
              refine RdOk.op _ he (fun w' _ => by rw [hg, (hI.ev hix).int_inv]; exact run w' hj) ?_ (hφ _ rfl)
              rw [ha, Sx.addr_add, ← hsz, ← Nat.add_mul]
              exact .ap r sz (off + j) 0 hin hnl hz
          · cases h
        · cases h
      · cases h
    · cases h
  · cases h
def rdIdx (L : Lr) (E : TEnv) (t : TypeId) (x ix : Operand) (st : St) (k : V → Prop) : Option Prop :=
  match E.get t with
  | some ti => match ti.kd with
    | .str => match ev st.fr ix, ev st.fr x with
      | some (.p (.int _ i)), some (.p (.str s)) => some (∃ (j : Nat) (b : UInt8), i = j ∧ s[j]? = some b ∧ k (.p (.int .u8 (L.u8 b))))
      | _, _ => none
    | _ => none
  | none => none
theorem rdIdx_ok {P : Program} {TE : TEnv} (hE : TOk P TE) {X : Nat → Bool} {t : TypeId} {x ix : Operand} {st : St} {k : V → Prop} {φ : Prop} (h : rdIdx .std TE t x ix st k = some φ) (hφ : φ)
    {B : Base} {E : Ev} {F : Nat → NP} {a : Act} {w : World} (hI : Inv B st E F a w) {o : Oper} (ho : o.op = .index t x ix) : RdOk P B st E F a w X o k := by
  have he : execOp a.eval o = (do pure (.value (← Instr.index t (a.eval x) (a.eval ix)))) := by simp only [execOp, ho]
  unfold rdIdx at h
  split at h
  · rename_i ti hti
    obtain ⟨inf, d, his⟩ := hE.get hti
    split at h
    · rename_i hkd
      have := kd_str his hkd; subst this
      split at h
      · rename_i kk i s hix hx
        cases h
        obtain ⟨j, b, rfl, hb, hφ⟩ := hφ
        refine RdOk.op _ he (fun w' _ => ?_) V.Den.int hφ
        rw [(hI.ev hix).int_inv, (hI.ev hx).str_inv]
        have h1 : (⟨s.toArray⟩ : ByteArray)[j]? = some b := by
          have hlt := lt_of_some hb
          have : j < (⟨s.toArray⟩ : ByteArray).size := by rw [str_size]; exact hlt
          rw [getElem?_pos (⟨s.toArray⟩ : ByteArray) j this]
          congr 1
          have h2 : s[j] = b := by rw [List.getElem?_eq_getElem hlt] at hb; exact Option.some.inj hb
          rw [← h2]; rfl
        simp [Instr.index, asIntOf, run_underlying his.und, h1]
        rfl
      · cases h
    · cases h
  · cases h
/-! Cuts -/
def bnd (fr : List (Nat × V)) : Option Operand → Option (Option Int)
  | none => some none
  | some x => match ev fr x with
    | some (.p (.int _ z)) => some (some z)
    | _ => none
def Bd (o : Option Int) (l d : Nat) : Prop := match o with | none => l = d | some z => z = (l : Int)
def isZero : Option Int → Bool
  | some (.ofNat 0) => true
  | _ => false
def BdM (o : Option Int) (m : Nat) (none' : Prop) : Prop := match o with | none => none' | some z => z = (m : Int)
def hiOk : Option Operand → Option Operand → Bool
  | none, some _ => false
  | _, _ => true
def rdSlice (E : TEnv) (t : TypeId) (x : Operand) (lo hi mx : Option Operand) (st : St) (k : V → Prop) : Option Prop :=
  match E.get t with
  | some ti => match bnd st.fr lo, bnd st.fr hi, bnd st.fr mx with
    | some lo', some hi', some mx' => match ti.kd, ev st.fr x with
      | .str, some (.p (.str s)) => match mx' with
        | none => some (∃ l h : Nat, Bd lo' l 0 ∧ Bd hi' h s.length ∧ l ≤ h ∧ h ≤ s.length ∧ ∀ u, u = (s.drop l).take (h - l) → k (.p (.str u)))
        | some _ => none
      | .slice e, some v => match E.get e, hiOk hi mx with
        | some te, true => match v with
          | .vw r sz off n cap => match st.own[r]?, Nat.beq sz te.size with
            | some (.arr _ _ xs), true => match mx' with
              | none => some (∃ l h : Nat, Bd lo' l 0 ∧ Bd hi' h n ∧ l ≤ h ∧ off + h ≤ xs.length ∧ (∀ c, cap = some c → off + h ≤ c) ∧ ∀ o' n', o' = off + l → n' = h - l → k (.vw r sz o' n' cap))
              | some m' => some (∃ l h m : Nat, Bd lo' l 0 ∧ Bd hi' h n ∧ m' = m ∧ l ≤ h ∧ h ≤ m ∧ off + m ≤ xs.length ∧ (∀ c, cap = some c → off + m ≤ c) ∧ ∀ o' n' c', o' = off + l → n' = h - l → c' = off + m → k (.vw r sz o' n' (some c')))
            | _, _ => none
          | .p (.sl xs) => match isZero mx' with
            | true => some (∃ _ : Unit, Bd lo' 0 0 ∧ Bd hi' 0 0 ∧ k (.p .e0))
            | false => some (∃ l h m : Nat, Bd lo' l 0 ∧ Bd hi' h xs.length ∧ BdM mx' m (m = xs.length) ∧ l ≤ h ∧ h ≤ m ∧ m ≤ xs.length ∧ (∀ y ∈ xs, y.cells.length = te.size) ∧ ∀ u, u = (xs.drop l).take (h - l) → k (.p (.sl u)))
          | .p .nils => some (∃ _ : Unit, Bd lo' 0 0 ∧ Bd hi' 0 0 ∧ (match mx' with | none => True | some z => z = 0) ∧ k (.p .nils))
          | _ => none
        | _, _ => none
      | _, _ => none
    | _, _, _ => none
  | none => none
theorem bnd_ok {B : Base} {st : St} {E : Ev} {F : Nat → NP} {a : Act} {w : World} (hI : Inv B st E F a w) {o : Option Operand} {z : Option Int} (h : bnd st.fr o = some z) :
    (o = none ∧ z = none) ∨ ∃ y kk zz, o = some y ∧ z = some zz ∧ a.eval y = .int kk zz := by
  unfold bnd at h
  split at h
  · cases h; exact .inl ⟨rfl, rfl⟩
  · split at h
    · rename_i kk zz hx
      cases h
      exact .inr ⟨_, kk, zz, rfl, rfl, (hI.ev hx).int_inv⟩
    · cases h
theorem run_bounds {P : Program} {B : Base} {st : St} {E : Ev} {F : Nat → NP} {a : Act} {w : World} (hI : Inv B st E F a w) {lo hi mx : Option Operand} {lo' hi' mx' : Option Int} (hlo : bnd st.fr lo = some lo') (hhi : bnd st.fr hi = some hi') (hmx : bnd st.fr mx = some mx')
    {isS : Bool} {len cap l h m : Nat} (h1 : Bd lo' l 0) (h2 : Bd hi' h len) (h3 : BdM mx' m (m = cap)) (hlh : l ≤ h) (hhm : h ≤ m) (hmc : m ≤ cap) (hn : mx' = none ∨ hi' ≠ none) (w' : World) :
    (Instr.sliceBounds isS len cap (lo.map a.eval) (hi.map a.eval) (mx.map a.eval)).run P w' = .ok (l, h, m) w' := by
  have key : ∀ (kk : IntKind) (v b : Nat) (c : BoundsCode), v ≤ b → (Instr.sliceBound (.int kk (v : Int)) b c).run P w' = .ok v w' := by
    intro kk v b c hv
    rw [run_sliceBound w' kk _ b c (by omega) (by omega)]; simp
  rcases bnd_ok hI hlo with ⟨rfl, rfl⟩ | ⟨y1, k1, z1, rfl, rfl, e1⟩ <;> rcases bnd_ok hI hhi with ⟨rfl, rfl⟩ | ⟨y2, k2, z2, rfl, rfl, e2⟩ <;> rcases bnd_ok hI hmx with ⟨rfl, rfl⟩ | ⟨y3, k3, z3, rfl, rfl, e3⟩ <;> simp only [Bd, BdM] at h1 h2 h3
  all_goals (try subst h1) <;> (try subst h2) <;> (try subst h3)
  · simp [Instr.sliceBounds]
  · exact absurd (hn.resolve_left (by simp)) (by simp)
  · simp [Instr.sliceBounds, e2, key _ _ _ _ hhm]
  · simp [Instr.sliceBounds, e2, e3, key _ _ _ _ hhm, key _ _ _ _ hmc]
  · simp [Instr.sliceBounds, e1, key _ _ _ _ hlh]
  · exact absurd (hn.resolve_left (by simp)) (by simp)
  · simp [Instr.sliceBounds, e1, e2, key _ _ _ _ hhm, key _ _ _ _ hlh]
  · simp [Instr.sliceBounds, e1, e2, e3, key _ _ _ _ hhm, key _ _ _ _ hmc, key _ _ _ _ hlh]
theorem rdSlice_ok {P : Program} {TE : TEnv} (hE : TOk P TE) {X : Nat → Bool} {t : TypeId} {x : Operand} {lo hi mx : Option Operand} {st : St} {k : V → Prop} {φ : Prop} (h : rdSlice TE t x lo hi mx st k = some φ) (hφ : φ)
    {B : Base} {E : Ev} {F : Nat → NP} {a : Act} {w : World} (hI : Inv B st E F a w) {o : Oper} (ho : o.op = .slice t x lo hi mx) : RdOk P B st E F a w X o k := by
  have he : execOp a.eval o = (do pure (.value (← Instr.sliceAt t (a.eval x) (lo.map a.eval) (hi.map a.eval) (mx.map a.eval)))) := by simp only [execOp, ho]
  unfold rdSlice at h
  split at h
  · rename_i ti hti
    obtain ⟨inf, d, his⟩ := hE.get hti
    split at h
    · rename_i lo' hi' mx' hlo hhi hmx
      split at h
      · rename_i s hkd hx
        have := kd_str his hkd; subst this
        split at h
        · cases h
          obtain ⟨l, h', h1, h2, h3, h4, hφ⟩ := hφ
          refine RdOk.op _ he (fun w' _ => ?_) V.Den.str (hφ _ rfl)
          rw [(hI.ev hx).str_inv]
          have hmx0 : mx = none := by
            rcases bnd_ok hI hmx with ⟨rfl, _⟩ | ⟨_, _, _, _, hz, _⟩
            · rfl
            · cases hz
          subst hmx0
          have hb := run_bounds (P := P) hI hlo hhi hmx (isS := false) (len := s.length) (cap := s.length) (m := s.length) h1 h2 rfl h3 h4 (Nat.le_refl _) (.inl rfl) w'
          simp only [Instr.sliceAt, Instr.slice, Sem.run_bind, run_underlying his.und, Result.andThen_ok, Option.isSome_none, Bool.false_eq_true, if_false, Sem.run_pure, str_size, Option.map_none] at hb ⊢
          rw [hb]
          simp only [Result.andThen_ok]
          have : (⟨s.toArray⟩ : ByteArray).extract l h' = ⟨((s.drop l).take (h' - l)).toArray⟩ := by
            apply ByteArray.ext
            rw [ByteArray.data_extract]
            apply Array.ext'
            simp [List.extract]
          rw [this]
        · cases h
      · rename_i e v hkd hx
        have := kd_slice his hkd; subst this
        split at h
        · rename_i te hte hik
          obtain ⟨inf', d', his'⟩ := hE.get hte
          have hmh : mx' ≠ none → hi' = none → False := by
            rintro h1 rfl
            rcases bnd_ok hI hhi with ⟨rfl, _⟩ | ⟨_, _, _, _, hz, _⟩
            · rcases bnd_ok hI hmx with ⟨rfl, rfl⟩ | ⟨_, _, _, rfl, rfl, _⟩
              · exact h1 rfl
              · cases hik
            · cases hz
          have hhi1 : hi' = none → mx' = none := fun h => by
            by_cases hq : mx' = none
            · exact hq
            · exact (hmh hq h).elim
          have run : ∀ {ad : Option Addr} {len cap l h' m : Nat} w', (Instr.sliceBounds true len cap (lo.map a.eval) (hi.map a.eval) (mx.map a.eval)).run P w' = .ok (l, h', m) w' →
              (Instr.sliceAt t (.slice ad len cap) (lo.map a.eval) (hi.map a.eval) (mx.map a.eval)).run P w' = .ok (.slice (if m = l then ad else ad.map (·.add (l * te.size))) (h' - l) (m - l)) w' := by
            intro ad len cap l h' m w' hb
            simp only [Instr.sliceAt, Instr.slice, Sem.run_bind, run_underlying his.und, Result.andThen_ok, hb, Sx.Is.run_sizeOf his', Sem.run_pure]
          split at h
          · rename_i r sz off n cap
            split at h
            · rename_i T' sz' xs hr hsz
              have hsz := Nat.eq_of_beq_eq_true hsz
              obtain ⟨hs0, hwf, hlen, hez, hrow⟩ := hI.held r _ hr
              have hax := hI.ev hx
              have hin : r < E.n := by rw [hI.en]; exact lt_of_some hr
              have hcx : xs.length ≤ E.κ r ∨ E.nl r = true := by
                rcases hrow with ⟨h1, _, _⟩ | ⟨_, _, hl1, _⟩
                · exact .inr h1
                · exact .inl hl1
              split at h
              · cases h
                obtain ⟨l, h', h1, h2, h3, h4, h5, hφ⟩ := hφ
                have hφ := hφ _ _ rfl rfl
                have hmx0 : mx = none := by
                  rcases bnd_ok hI hmx with ⟨rfl, _⟩ | ⟨_, _, _, _, hz, _⟩
                  · rfl
                  · cases hz
                generalize hg : a.eval x = ax at hax
                cases hax with
                | vwn _ _ _ ad _ hnl hz hc =>
                  have hx0 : xs = [] := by
                    rcases hrow with ⟨_, h, _⟩ | ⟨h, _⟩
                    · exact h
                    · rw [hnl] at h; cases h
                  subst hx0
                  simp at h4
                  obtain ⟨rfl⟩ : h' = 0 := h4
                  obtain ⟨rfl⟩ : l = 0 := by omega
                  refine RdOk.op _ he (fun w' _ => by rw [hg]; exact run w' (run_bounds hI hlo hhi hmx h1 h2 (m := 0) (by subst hmx0; cases hmx; rfl) (Nat.le_refl _) (Nat.le_refl _) (Nat.le_refl _) (by subst hmx0; cases hmx; exact .inl rfl) w')) ?_ hφ
                  exact .vwn r sz cap _ hin hnl hz hc
                | vw _ _ _ _ _ ad c _ hnl hc hk hl hxl hz ha =>
                  have hlc : off + h' ≤ off + c := by
                    rw [hc]
                    cases cap with
                    | none => rcases hcx with h | h; · exact Nat.le_trans h4 h
                              · rw [hnl] at h; cases h
                    | some cc => exact h5 cc rfl
                  refine RdOk.op _ he (fun w' _ => by rw [hg]; exact run w' (run_bounds hI hlo hhi hmx h1 h2 (m := c) (by subst hmx0; cases hmx; rfl) h3 (by omega) (Nat.le_refl _) (by subst hmx0; cases hmx; exact .inl rfl) w')) ?_ hφ
                  have e1 : (if c = l then some ad else (some ad).map (·.add (l * te.size))) = some (if c = l then ad else ad.add (l * te.size)) := by split <;> rfl
                  rw [e1]
                  refine .vw r sz (off + l) (h' - l) cap _ (c - l) hin hnl (by rw [← hc]; omega) (by omega) (by omega) (by rw [hlen]; omega) hz ?_
                  by_cases hcl : c = l
                  · right; omega
                  · left
                    rw [if_neg hcl]
                    have ha : ad = ⟨E.ρ r, off * sz, none⟩ := ha.resolve_right (by omega)
                    rw [ha, Sx.addr_add, ← hsz, ← Nat.add_mul]
              · cases h
                obtain ⟨l, h', m, h1, h2, rfl, h3, h3', h4, h5, hφ⟩ := hφ
                have hφ := hφ _ _ _ rfl rfl rfl
                have hbm : BdM (some (m : Int)) m (m = 0) := rfl
                have hhn : hi' ≠ none := by
                  intro hn
                  exact hmh (by simp) hn
                generalize hg : a.eval x = ax at hax
                cases hax with
                | vwn _ _ _ ad _ hnl hz hc =>
                  have hx0 : xs = [] := by
                    rcases hrow with ⟨_, h, _⟩ | ⟨h, _⟩
                    · exact h
                    · rw [hnl] at h; cases h
                  subst hx0
                  simp at h4
                  obtain ⟨rfl⟩ : m = 0 := h4
                  obtain ⟨rfl⟩ : h' = 0 := by omega
                  obtain ⟨rfl⟩ : l = 0 := by omega
                  refine RdOk.op _ he (fun w' _ => by rw [hg]; exact run w' (run_bounds hI hlo hhi hmx h1 h2 (m := 0) rfl (Nat.le_refl _) (Nat.le_refl _) (Nat.le_refl _) (.inr hhn) w')) ?_ hφ
                  exact .vwn r sz (some (0 + 0)) _ hin hnl hz rfl
                | vw _ _ _ _ _ ad c _ hnl hc hk hl hxl hz ha =>
                  have hlc : off + m ≤ off + c := by
                    rw [hc]
                    cases cap with
                    | none => rcases hcx with h | h; · exact Nat.le_trans h4 h
                              · rw [hnl] at h; cases h
                    | some cc => exact h5 cc rfl
                  refine RdOk.op _ he (fun w' _ => by rw [hg]; exact run w' (run_bounds hI hlo hhi hmx h1 h2 (m := m) rfl h3 h3' (by omega) (.inr hhn) w')) ?_ hφ
                  have e1 : (if m = l then some ad else (some ad).map (·.add (l * te.size))) = some (if m = l then ad else ad.add (l * te.size)) := by split <;> rfl
                  rw [e1]
                  refine .vw r sz (off + l) (h' - l) (some (off + m)) _ (m - l) hin hnl (by show off + l + (m - l) = off + m; omega) (by omega) (by omega) (by rw [hlen]; omega) hz ?_
                  by_cases hcl : m = l
                  · right; omega
                  · left
                    rw [if_neg hcl]
                    have ha : ad = ⟨E.ρ r, off * sz, none⟩ := ha.resolve_right (by omega)
                    rw [ha, Sx.addr_add, ← hsz, ← Nat.add_mul]
            · cases h
          · rename_i xs
            have hax := hI.ev hx
            split at h
            · rename_i hz
              cases h
              obtain ⟨_, h1, h2, hφ⟩ := hφ
              have hm0 : BdM mx' 0 False := by
                unfold isZero at hz
                split at hz
                · rfl
                · cases hz
              have hhn : hi' ≠ none := by
                rintro rfl
                rcases bnd_ok hI hmx with ⟨rfl, rfl⟩ | ⟨y, kk, zz, rfl, rfl, _⟩
                · exact hm0.elim
                · exact hmh (by simp) rfl
              generalize hg : a.eval x = ax at hax
              have hshape : ∃ ad n c, ax = .slice ad n c := by cases hax with | p _ _ hax => cases hax <;> exact ⟨_, _, _, rfl⟩
              obtain ⟨ad, n, c, rfl⟩ := hshape
              have hh0 : Bd hi' 0 n := by
                cases hi' with
                | none => exact (hhn rfl).elim
                | some z => exact h2
              refine RdOk.op _ he (fun w' _ => by rw [hg]; exact run w' (run_bounds hI hlo hhi hmx h1 hh0 (m := 0) (by cases mx' with | none => exact hm0.elim | some z => exact hm0) (Nat.le_refl _) (Nat.le_refl _) (Nat.zero_le _) (.inr hhn) w')) (.p _ _ (.e0 _)) hφ
            · cases h
              obtain ⟨l, h', m, h1, h2, h3, h4, h5, h6, h7, hφ⟩ := hφ
              have hφ := hφ _ rfl
              generalize hg : a.eval x = ax at hax
              have hmc : ∀ c, xs.length ≤ c → BdM mx' (if mx' = none then c else m) ((if mx' = none then c else m) = c) := by
                intro c hc
                cases mx' with
                | none => simp [BdM]
                | some z => simpa [BdM] using h3
              have hmm : ∀ c, xs.length ≤ c → h' ≤ (if mx' = none then c else m) ∧ (if mx' = none then c else m) ≤ c := by
                intro c hc
                split <;> omega
              have hhn : mx' = none ∨ hi' ≠ none := by
                by_cases hq : mx' = none
                · exact .inl hq
                · exact .inr fun hn => hmh hq hn
              cases hax with
              | p _ _ hax =>
                cases hax with
                | sle ad c hc =>
                  simp at h6
                  obtain ⟨rfl⟩ : m = 0 := h6
                  obtain ⟨rfl⟩ : h' = 0 := by omega
                  obtain ⟨rfl⟩ : l = 0 := by omega
                  refine RdOk.op _ he (fun w' _ => by rw [hg]; exact run w' (run_bounds hI hlo hhi hmx h1 h2 (hmc c (Nat.zero_le _)) (Nat.le_refl _) (hmm c (Nat.zero_le _)).1 (hmm c (Nat.zero_le _)).2 hhn w')) (.p _ _ ?_) hφ
                  have had : ∀ q, (if q = 0 then ad else ad.map (·.add (0 * te.size))) = none → ad = none := by
                    intro q hq; split at hq
                    · exact hq
                    · cases ad with
                      | none => rfl
                      | some ad => cases hq
                  refine .sle _ _ fun hn => ?_
                  have := hc (had _ hn)
                  subst this
                  show (if mx' = none then 0 else 0) - 0 = 0
                  split <;> rfl
                | sl _ b off sz c val hw hc hs hd =>
                  have hMc := hmm c hc.1
                  refine RdOk.op _ he (fun w' _ => by rw [hg]; exact run w' (run_bounds hI hlo hhi hmx h1 h2 (hmc c hc.1) h4 hMc.1 hMc.2 hhn w')) (.p _ _ ?_) hφ
                  generalize (if mx' = none then c else m) = M at hMc
                  by_cases hz0 : h' - l = 0
                  · rw [hz0, List.take_zero]
                    refine .sle _ _ fun hn => ?_
                    split at hn <;> cases hn
                  · have hml : ¬ M = l := by omega
                    rw [if_neg hml]
                    simp only [Option.map_some, Sx.addr_add]
                    have hln : ((xs.drop l).take (h' - l)).length = h' - l := by simp; omega
                    have hsz : sz = te.size := by
                      cases xs with
                      | nil => simp at h6; omega
                      | cons y ys => exact (hw y (by simp)).1.symm.trans (h7 y (by simp))
                    subst hsz
                    have hfl : flat ((xs.drop l).take (h' - l)) = ((flat xs).drop (l * te.size)).take ((h' - l) * te.size) := by rw [flat_take hw.drop, flat_drop hw]
                    have hpt : ∀ j u, (flat ((xs.drop l).take (h' - l)))[j]? = some u → (flat xs)[l * te.size + j]? = some u := by
                      intro j u hj
                      rw [hfl, List.getElem?_take] at hj
                      split at hj
                      · rwa [List.getElem?_drop] at hj
                      · cases hj
                    obtain ⟨g1, g2, cc, T, fz, g3, g4⟩ := hs
                    have key := PV.Den.sl (H := ⟨nowM B F, w⟩) ((xs.drop l).take (h' - l)) b (off + l * te.size) te.size (M - l) (fun j => val (l * te.size + j)) hw.drop.take ⟨by omega, by omega⟩
                      ⟨g1, g2, cc, T, fz, g3, fun j u hj => by rw [Nat.add_assoc]; exact g4 _ u (hpt j u hj)⟩ (fun j u hj => hd _ u (hpt j u hj))
                    rw [hln] at key
                    exact key
          · cases h
            obtain ⟨_, h1, h2, h3, hφ⟩ := hφ
            have hhn : mx' = none ∨ hi' ≠ none := by
              by_cases hq : mx' = none
              · exact .inl hq
              · exact .inr fun hn => hmh hq hn
            have hm0 : BdM mx' 0 (0 = 0) := by
              cases mx' with
              | none => rfl
              | some z => exact h3
            refine RdOk.op _ he (fun w' _ => by rw [(hI.ev hx).nils_inv]; exact run w' (run_bounds hI hlo hhi hmx h1 (by cases hi' with | none => rfl | some z => exact h2) hm0 (Nat.le_refl _) (Nat.le_refl _) (Nat.le_refl _) hhn w')) (.p _ _ ?_) hφ
            simpa using PV.Den.nils
          · cases h
        · cases h
      · cases h
    · cases h
  · cases h
end Go.Lx
