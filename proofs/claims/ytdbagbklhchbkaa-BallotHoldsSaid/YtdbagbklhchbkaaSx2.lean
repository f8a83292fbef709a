/- A calculus for walks, part 2: the operations that run without a word do what is said of them. No conditions. -/
import Derived.Test.YtdbagbklhchbkaaSx1
set_option linter.unusedSimpArgs false
set_option linter.unusedVariables false
namespace Go.Sx
open Go

section
variable {P : Program} {E : TEnv}

theorem Is.run_isAgg {t : TypeId} {i : TI} {inf : TypeInfo} {d : TypeDesc} (h : TI.Is P t i inf d) (w : World) : (isAgg t).run P w = .ok i.agg w := by
  unfold isAgg
  rw [Sem.run_bind, run_underlying h.und w, h.agg]
  cases d <;> rfl
theorem Is.run_info {t : TypeId} {i : TI} {inf : TypeInfo} {d : TypeDesc} (h : TI.Is P t i inf d) (w : World) : (typeInfo t).run P w = .ok inf w := by
  simp [typeInfo, h.info]
theorem Is.run_sizeOf {t : TypeId} {i : TI} {inf : TypeInfo} {d : TypeDesc} (h : TI.Is P t i inf d) (w : World) : (sizeOf t).run P w = .ok i.size w := by
  simp [sizeOf, typeInfo, h.info, h.size]

theorem addr_add (g o j : Nat) : (⟨g, o, none⟩ : Addr).add j = ⟨g, o + j, none⟩ := by
  unfold Addr.add; split <;> simp_all

theorem run_loadVar_agg {t : TypeId} {i : TI} {inf : TypeInfo} {d : TypeDesc} (h : TI.Is P t i inf d) (ha : i.agg = true) {w : World} {g o : Nat} {c : Array Value} {T : TypeId} {fz : Nat × Nat}
    (hg : w.heap[g]? = some (.cells c T fz)) (cs : List Value) (hl : cs.length = i.size) (hc : ∀ j x, cs[j]? = some x → c[o + j]? = some x) :
    (loadVar t ⟨g, o, none⟩).run P w = .ok (.agg cs.toArray) w := by
  have hlc : (loadCells ⟨g, o, none⟩ cs.length).run P w = .ok cs.toArray w :=
    run_loadCells_list (P := P) w ⟨g, o, none⟩ cs fun j v hv => by
      rw [addr_add, cell_of_row w g _ c T fz hg]; exact hc j v hv
  unfold loadVar
  rw [Sem.run_bind, Is.run_isAgg h, ha]
  simp only [Result.andThen_ok, if_true, Sem.run_bind, Is.run_sizeOf h, ← hl, hlc, Sem.run_pure]
theorem run_loadVar_one {t : TypeId} {i : TI} {inf : TypeInfo} {d : TypeDesc} (h : TI.Is P t i inf d) (ha : i.agg = false) {w : World} {g o : Nat} {c : Array Value} {T : TypeId} {fz : Nat × Nat}
    (hg : w.heap[g]? = some (.cells c T fz)) {x : Value} (hc : c[o]? = some x) : (loadVar t ⟨g, o, none⟩).run P w = .ok x w := by
  unfold loadVar
  rw [Sem.run_bind, Is.run_isAgg h, ha]
  simp only [Result.andThen_ok, Bool.false_eq_true, if_false, run_load, cell_of_row w g _ c T fz hg, hc]

theorem plains_take {ρ : Nat → Nat} {cells : List V} {l : List Value} {off n : Nat} (h : plains ((cells.drop off).take n) = some l) (hb : off + n ≤ cells.length) :
    l.length = n ∧ ∀ j x, l[j]? = some x → (cells.map (V.den ρ)).toArray[off + j]? = some x := by
  have hd := plains_den (ρ := ρ) h
  have hlen : l.length = n := by rw [← hd]; simp; omega
  refine ⟨hlen, fun j x hx => ?_⟩
  rw [← hd] at hx
  simp only [List.getElem?_toArray]
  rw [List.map_take, List.getElem?_take] at hx
  split at hx
  · rw [List.map_drop, List.getElem?_drop] at hx; exact hx
  · cases hx

theorem loadC_run {t : TypeId} {i : TI} {inf : TypeInfo} {d : TypeDesc} (h : TI.Is P t i inf d) {w : World} {ρ : Nat → Nat} {g off : Nat} {cells : List V} {T : TypeId}
    (hg : w.heap[g]? = some (.cells (cells.map (V.den ρ)).toArray T (0, 0))) {v : V} (hv : loadC i.agg i.size cells off = some v) :
    (loadVar t ⟨g, off, none⟩).run P w = .ok (v.den ρ) w ∧ (v ∈ cells ∨ ∃ x, v = .v x) := by
  unfold loadC at hv
  split at hv
  · rename_i ha
    split at hv
    · rename_i hb
      have hb := Nat.le_of_ble_eq_true hb
      split at hv
      · rename_i l hl
        cases hv
        obtain ⟨h1, h2⟩ := plains_take (ρ := ρ) hl hb
        exact ⟨run_loadVar_agg h ha hg l h1 h2, .inr ⟨_, rfl⟩⟩
      · cases hv
    · cases hv
  · rename_i ha
    refine ⟨run_loadVar_one h ha hg ?_, .inl (List.mem_of_getElem? hv)⟩
    simp [List.getElem?_map, hv]
theorem loadI_run {t : TypeId} {i : TI} {inf : TypeInfo} {d : TypeDesc} (h : TI.Is P t i inf d) {w : World} {ρ : Nat → Nat} {b off o : Nat} {cs : List Value} {c : Array Value} {T : TypeId} {fz : Nat × Nat}
    (hg : w.heap[b]? = some (.cells c T fz)) (hc : ∀ j x, cs[j]? = some x → c[off + j]? = some x) {v : V} (hv : loadI i.agg i.size cs o = some v) :
    (loadVar t ⟨b, off + o, none⟩).run P w = .ok (v.den ρ) w ∧ ∃ x, v = .v x := by
  unfold loadI at hv
  split at hv
  · rename_i ha
    split at hv
    · rename_i hb
      have hb := Nat.le_of_ble_eq_true hb
      cases hv
      refine ⟨run_loadVar_agg h ha hg _ (by simp; omega) fun j x hx => ?_, _, rfl⟩
      rw [List.getElem?_take] at hx
      split at hx
      · rw [List.getElem?_drop] at hx; rw [Nat.add_assoc]; exact hc _ _ hx
      · cases hx
    · cases hv
  · rename_i ha
    split at hv
    · rename_i x hx
      cases hv
      exact ⟨run_loadVar_one h ha hg (hc _ _ hx), _, rfl⟩
    · cases hv

theorem run_storeVar {t : TypeId} {i : TI} {inf : TypeInfo} {d : TypeDesc} (h : TI.Is P t i inf d) {w : World} {g o : Nat} {c : Array Value} {T : TypeId}
    (hg : w.heap[g]? = some (.cells c T (0, 0))) (v : Value) (hs : v.cells.toList.length = i.size) (hb : o + i.size ≤ c.size) (h1 : ∀ u ∈ v.cells.toList, u.oneCell' = true) :
    (storeVar t ⟨g, o, none⟩ v).run P w = .ok () (w.setRow g (c.toList.take o ++ (v.cells.toList ++ c.toList.drop (o + i.size))).toArray) := by
  unfold storeVar
  have hs' : v.cells.size = i.size := by simpa using hs
  simp only [Sem.run_bind, Is.run_sizeOf h, Result.andThen_ok, hs', ne_eq, not_true_eq_false, if_false]
  have := run_storeCells_at (P := P) g o T v.cells.toList 0 c w hg (by rw [hs]; omega) h1
  rw [this, hs]
  simp [List.append_assoc]

theorem storeC_run {t : TypeId} {i : TI} {inf : TypeInfo} {d : TypeDesc} (h : TI.Is P t i inf d) {w : World} {ρ : Nat → Nat} {g off : Nat} {cells cells' : List V} {T : TypeId}
    (hg : w.heap[g]? = some (.cells (cells.map (V.den ρ)).toArray T (0, 0))) {x : V} (hv : storeC i.agg i.size cells off x = some cells') :
    (storeVar t ⟨g, off, none⟩ (x.den ρ)).run P w = .ok () (w.setRow g (cells'.map (V.den ρ)).toArray) ∧ ∀ v ∈ cells', v ∈ cells ∨ v = x ∨ ∃ y, v = .v y := by
  unfold storeC at hv
  split at hv
  · split at hv
    · rename_i cs
      split at hv
      · rename_i h1 h2 h3
        have h1 := Nat.eq_of_beq_eq_true h1
        have h2 := Nat.le_of_ble_eq_true h2
        cases hv
        have := run_storeVar h hg (.agg cs) (o := off) h1 (by simpa using h2) (fun u hu => List.all_eq_true.1 h3 u hu)
        refine ⟨?_, ?_⟩
        · simp only [V.den]
          rw [this]
          congr 2
          simp [Value.cells, List.map_take, List.map_drop, V.den, Function.comp_def]
        · intro v hv
          simp only [List.mem_append, List.mem_map] at hv
          rcases hv with hv | ⟨y, _, rfl⟩ | hv
          · exact .inl (List.mem_of_mem_take hv)
          · exact .inr (.inr ⟨_, rfl⟩)
          · exact .inl (List.mem_of_mem_drop hv)
      · cases hv
    · cases hv
  · split at hv
    · rename_i h1 h2
      have h1 := Nat.eq_of_beq_eq_true h1
      have h2 : off < cells.length := Nat.lt_of_succ_le (Nat.le_of_ble_eq_true h2)
      have key : ∀ y : Value, y.oneCell' = true → x.den ρ = y → (storeVar t ⟨g, off, none⟩ (x.den ρ)).run P w = .ok () (w.setRow g ((cells.set off x).map (V.den ρ)).toArray) := by
        intro y hy hxy
        have hc : y.cells = #[y] := by cases y <;> first | rfl | cases hy
        have := run_storeVar h hg y (o := off) (by rw [hc, h1]; rfl) (by rw [h1]; simp; omega) (by rw [hc]; simpa using hy)
        rw [hxy, this]
        congr 2
        rw [List.map_set, hxy, List.set_eq_take_append_cons_drop, h1, hc]
        simp [h2]
      have mem : ∀ v ∈ cells.set off x, v ∈ cells ∨ v = x ∨ ∃ y, v = .v y := fun v hv => by
        rcases List.mem_or_eq_of_mem_set hv with h | h
        · exact .inl h
        · exact .inr (.inl h)
      split at hv
      · rename_i y
        split at hv
        · rename_i hy
          cases hv
          exact ⟨key y hy rfl, mem⟩
        · cases hv
      · rename_i hx
        cases hv
        cases x with
        | v y => exact (hx y rfl).elim
        | own i o => exact ⟨key _ rfl rfl, mem⟩
        | imm b o cs k => exact ⟨key _ rfl rfl, mem⟩
    · cases hv
end

/-- What a silent operation comes to. -/
def SilentOk (P : Program) (B : Base) (st : St) (a : Act) (w : World) (o : Oper) (v : V) (own' : List Res) : Prop :=
  ∃ ρ' F' w' nx, (execOp a.eval o).run P w = .ok nx w' ∧ (nx = .value (v.den ρ') ∨ (nx = .skip ∧ v = .v undef)) ∧ Inv B { st with own := own' } ρ' F' a w' ∧ VOk st.H own'.length v

theorem SilentOk.pure {P : Program} {B : Base} {st : St} {ρ : Nat → Nat} {F : Nat → NP} {a : Act} {w : World} {o : Oper} {v : V} (hI : Inv B st ρ F a w)
    (hr : (execOp a.eval o).run P w = .ok (.value (v.den ρ)) w) (hv : VOk st.H st.own.length v) : SilentOk P B st a w o v st.own :=
  ⟨ρ, F, w, _, hr, .inl rfl, hI, hv⟩

/-- The kinds that only read. -/
def isRead : Op → Bool
  | .alloc _ | .box .. | .store .. => false
  | _ => true
/-- What it comes to; of one that only reads, more. -/
def SilentBoth (P : Program) (B : Base) (st : St) (ρ : Nat → Nat) (a : Act) (w : World) (o : Oper) (v : V) (own' : List Res) : Prop :=
  (isRead o.op = true → (execOp a.eval o).run P w = .ok (.value (v.den ρ)) w ∧ VOk st.H st.own.length v) ∧ SilentOk P B st a w o v own'
theorem SilentBoth.pure {P : Program} {B : Base} {st : St} {ρ : Nat → Nat} {F : Nat → NP} {a : Act} {w : World} {o : Oper} {v : V} (hI : Inv B st ρ F a w)
    (hr : (execOp a.eval o).run P w = .ok (.value (v.den ρ)) w) (hv : VOk st.H st.own.length v) : SilentBoth P B st ρ a w o v st.own :=
  ⟨fun _ => ⟨hr, hv⟩, SilentOk.pure hI hr hv⟩

theorem run_v {P : Program} {s : Sem Value} {w w' : World} {x : Value} (h : s.run P w = .ok x w') : ((do pure (.value (← s)) : Sem Next)).run P w = .ok (.value x) w' := by
  rw [Sem.run_bind, h]; rfl

theorem evs_ok {B : Base} {st : St} {ρ : Nat → Nat} {F : Nat → NP} {a : Act} {w : World} (hI : Inv B st ρ F a w) : ∀ {l : List Operand} {xs : List Value}, evs st.fr l = some xs → l.map a.eval = xs
  | [], xs, h => by simp [evs] at h; subst h; rfl
  | x :: r, xs, h => by
    simp only [evs] at h
    split at h
    · rename_i y hy
      split at h
      · rename_i l hl
        cases h
        simp only [List.map_cons, evs_ok hI hl]
        rw [(hI.ev hy).1]; rfl
      · cases h
    · cases h

theorem evParts_ok {B : Base} {st : St} {ρ : Nat → Nat} {F : Nat → NP} {a : Act} {w : World} (hI : Inv B st ρ F a w) : ∀ {l : List (Nat × Operand)} {xs : List (Nat × Value)},
    evParts st.fr l = some xs → l.map (fun (i, x) => (i, a.eval x)) = xs
  | [], xs, h => by simp [evParts] at h; subst h; rfl
  | (i, x) :: r, xs, h => by
    simp only [evParts] at h
    split at h
    · rename_i y hy
      split at h
      · rename_i l hl
        cases h
        simp only [List.map_cons, evParts_ok hI hl]
        rw [(hI.ev hy).1]; rfl
      · cases h
    · cases h

theorem litOf_eval {a : Act} {y : Operand} {n : Int} (h : litOf y = some n) : ∃ k, a.eval y = .int k n := by
  unfold litOf at h
  split at h
  · cases h; exact ⟨_, rfl⟩
  · cases h

theorem binI_run {P : Program} {w : World} {op : BinOp} {t : TypeId} {k : IntKind} {a b : Int} {y : Operand} {v : Value} (hs : isShift op = false) (h : binI .std op k a b y = some v)
    (hy : ∀ n, litOf y = some n → b = n) : (binOp op t (.int k a) (.int k b)).run P w = .ok v w := by
  cases op <;> simp only [binI, Ar.std] at h <;> first
    | (cases hs; done)
    | (cases h; first | simp [go_sem]; done)
    | skip
  all_goals first
    | (cases h; simp [go_sem, Op.intArith, Op.intCmp]; done)
    | (cases h; simp [go_sem, Op.intArith, Op.intCmp, bne]; done)
    | skip
  all_goals
    split at h
    · rename_i n hn
      cases h
      have := hy _ hn
      subst this
      have hz : ¬ ((n : Int) + 1 = 0) := by omega
      simp [go_sem, Op.intDiv, hz]
    · cases h

theorem binS_run {P : Program} {w : World} {op : BinOp} {t : TypeId} {k k' : IntKind} {a b : Int} {y : Operand} {v : Value} (h : binS .std op k a y = some v)
    (hy : ∀ n, litOf y = some n → b = n) : (binOp op t (.int k a) (.int k' b)).run P w = .ok v w := by
  unfold binS at h
  simp only [Ar.std] at h
  split at h
  · rename_i n hn
    cases h
    have := hy _ hn
    subst this
    have hnn : ¬ (n : Int) < 0 := by omega
    simp [binOp, Op.shift, hnn]
  · rename_i n hn
    cases h
    have := hy _ hn
    subst this
    have hnn : ¬ (n : Int) < 0 := by omega
    simp [binOp, Op.shift, hnn]
  · cases h

theorem run_equalIn_bool {P : Program} {w : World} {t : TypeId} {a b : Bool} (d : Nat) (h : P.underlying t = some .bool) : (Op.equalIn (d + 1) t (.bool a) (.bool b)).run P w = .ok (a == b) w := by
  simp [Op.equalIn, run_underlying h]
theorem run_equal_bool {P : Program} {w : World} {t : TypeId} {a b : Bool} (h : P.underlying t = some .bool) : (Op.equal t (.bool a) (.bool b)).run P w = .ok (a == b) w := run_equalIn_bool 9999 h
theorem binV_run {P : Program} {E : TEnv} (hE : TOk P E) {w : World} {ρ : Nat → Nat} {op : BinOp} {t : TypeId} {x y : V} {oy : Operand} {v : Value} (h : binV .std E op t x y oy = some v)
    (hy : ∀ n, litOf oy = some n → ∃ k, y.den ρ = .int k n) (ox oy' : Operand) :
    (do eqGuard op t ox oy' (x.den ρ) (y.den ρ); binOp op t (x.den ρ) (y.den ρ) : Sem Value).run P w = .ok v w := by
  unfold binV at h
  split at h
  · rename_i k a k' b
    have hy' : ∀ n, litOf oy = some n → b = n := fun n hn => by
      obtain ⟨k, hk⟩ := hy n hn
      simp [V.den] at hk
      exact hk.2
    simp only [V.den, Sem.run_bind, eqGuard_at_int, Sem.run_pure, Result.andThen_ok]
    split at h
    · exact binS_run h hy'
    · rename_i hs
      split at h
      · rename_i hk
        have := ikEq_eq hk
        subst this
        exact binI_run hs h hy'
      · cases h
  · rename_i a b
    split at h
    · rename_i i hi
      obtain ⟨inf, d, his⟩ := hE.get hi
      split at h
      · rename_i hkd
        have hd : d = .bool := by
          have := his.kd; rw [hkd] at this
          cases d <;> first | rfl | (simp [kdOf] at this; done)
        subst hd
        simp only [V.den, Sem.run_bind, eqGuard_at_bool, Sem.run_pure, Result.andThen_ok]
        split at h
        · cases h
          show (do pure (.bool (← Op.equal t (.bool a) (.bool b))) : Sem Value).run P w = _
          rw [Sem.run_bind, run_equal_bool his.und]; rfl
        · cases h
          show (do pure (.bool (!(← Op.equal t (.bool a) (.bool b)))) : Sem Value).run P w = _
          rw [Sem.run_bind, run_equal_bool his.und]; rfl
        · cases h
      · cases h
    · cases h
  · rename_i a b
    simp only [V.den, Sem.run_bind, eqGuard_at_string, Sem.run_pure, Result.andThen_ok]
    simp only [Ar.std] at h
    split at h <;> first | (cases h; simp [binOp, Op.stringOp]; done) | cases h
  · cases h
end Go.Sx
