/- A calculus for walks, part 9: rules for operations that act: calls, literals, appends; for operations that read. No conditions. -/
import Derived.Test.YtdbagbklhchbkaaSx8
set_option linter.unusedSimpArgs false
set_option linter.unusedVariables false
namespace Go.Sx
open Go

theorem EEv.op {B : Base} {P : Program} {o : Oper} {st : St} {k : V → List Res → Hp → Prop} (h : EEv B P o st k) : OpEv B P anyPr o st k := by
  intro ρ F a w hI
  exact (h ρ F a w hI).mono fun x w' ⟨v, own', H', ρ', F', h1, h2, h3, _, _, h4⟩ => ⟨v, own', H', ρ', F', h1, h2, h3, trivial, h4⟩
theorem PEv.op {B : Base} {P : Program} {o : Oper} {st : St} {k : V → List Res → Hp → Prop} (h : PEv B P o st fun v => k v st.own st.H) : OpEv B P anyPr o st k := by
  intro ρ F a w hI
  obtain ⟨v, h1, h2, h3⟩ := h ρ F a w hI
  unfold resOf
  rw [h1 w (Prot.refl _ _)]
  exact ⟨v, st.own, st.H, ρ, F, rfl, h2, hI, trivial, h3⟩
theorem EEv.mono {B : Base} {P : Program} {o : Oper} {st : St} {k k' : V → List Res → Hp → Prop} (h : EEv B P o st k) (hk : ∀ v own H, k v own H → k' v own H) : EEv B P o st k' := by
  intro ρ F a w hI
  exact (h ρ F a w hI).mono fun x w' ⟨v, own', H', ρ', F', h1, h2, h3, h5, h6, h4⟩ => ⟨v, own', H', ρ', F', h1, h2, h3, h5, h6, hk _ _ _ h4⟩

/-- What a rule owes of its end. -/
def EvPost (B : Base) (st : St) (ρ : Nat → Nat) (a : Act) (w : World) (k : V → List Res → Hp → Prop) (x : Value) (w' : World) : Prop :=
  ∃ v own' H' ρ' F', x = v.den ρ' ∧ VOk H' own'.length v ∧ Inv B { st with own := own', H := H' } ρ' F' a w' ∧ Prot (DD st ρ) w w' ∧
    (∀ b, b < w.heap.size → DD st ρ b → DD { st with own := own', H := H' } ρ' b) ∧ k v own' H'

theorem DD.not_foot {B : Base} {st : St} {ρ : Nat → Nat} {F : Nat → NP} {a : Act} {w : World} (hI : Inv B st ρ F a w) {b : Nat} (h : DD st ρ b) {j : Nat} {φ : NP → World → Prop} (hj : st.own[j]? = some (.abs φ)) : ¬ F j b := by
  intro c
  rcases h with ⟨h1, h2⟩ | ⟨i, T, cs, hi, rfl⟩
  · exact (hI.hp.block b h1 h2).2 (.inr ⟨j, c⟩)
  · refine hI.apart i j ?_ _ (((hI.held i _ hi).1 _).2 rfl) c
    rintro rfl
    rw [hi] at hj; cases hj

theorem EvPost.world {B : Base} {st : St} {ρ : Nat → Nat} {F : Nat → NP} {a : Act} {w w' : World} (hI : Inv B st ρ F a w) (hk : Keep0 w w') {k : V → List Res → Hp → Prop} {x : Value} (h : k (.v x) st.own ⟨nowM B F, w'⟩) : EvPost B st ρ a w k x w' := by
  refine ⟨.v x, st.own, _, ρ, F, rfl, trivial, hI.world hk, ⟨hk.os, hk.tape, hk.output, hk.size, fun b hb _ => hk.block b hb fun c => c⟩, ?_, h⟩
  rintro b hb (⟨h1, h2⟩ | h)
  · exact .inl ⟨Nat.lt_of_lt_of_le hb hk.size, (hI.hp.block b h1 h2).2⟩
  · exact .inr h

theorem EvPost.turn {B : Base} {st : St} {ρ : Nat → Nat} {F : Nat → NP} {a : Act} {w w' : World} (hI : Inv B st ρ F a w) {j : Nat} {φ φ' : NP → World → Prop} (hj : st.own[j]? = some (.abs φ)) (hl : Loc φ')
    {G : NP} (hk : Keeps (F j) w w') (hG : ∀ k, G k → F j k ∨ w.heap.size ≤ k) (hφ : φ' G w') {k : V → List Res → Hp → Prop} {x : Value}
    (h : k (.v x) (st.own.set j (.abs φ')) ⟨nowM B (fun i => if i = j then G else F i), w'⟩) : EvPost B st ρ a w k x w' := by
  obtain ⟨hI', hle⟩ := hI.turn hj hl hk hG hφ
  refine ⟨.v x, _, _, ρ, _, rfl, trivial, hI', ⟨hk.os, hk.tape, hk.output, hk.size, fun b hb hd => hk.block b hb (DD.not_foot hI hd hj)⟩, ?_, h⟩
  rintro b hb (⟨h1, h2⟩ | ⟨i, T, cs, hi, rfl⟩)
  · exact .inl ⟨Nat.lt_of_lt_of_le hb hk.size, (hle.block b h1 h2).2⟩
  · refine .inr ⟨i, T, cs, ?_, rfl⟩
    have : i ≠ j := by rintro rfl; rw [hi] at hj; cases hj
    show (st.own.set j (.abs φ'))[i]? = _
    rw [List.getElem?_set_ne (Ne.symm this)]; exact hi

/-- A resource more. -/
theorem Inv.grow {B : Base} {st : St} {ρ : Nat → Nat} {F : Nat → NP} {a : Act} {w w' : World} (hI : Inv B st ρ F a w) (hk : Keep0 w w') {φ : NP → World → Prop} (hl : Loc φ) {G : NP} (hφ : φ G w') (hG : ∀ k, G k → w.heap.size ≤ k) :
    Inv B { st with own := st.own ++ [.abs φ], H := ⟨nowM B (fun i => if i = st.own.length then G else F i), w'⟩ } ρ (fun i => if i = st.own.length then G else F i) a w' ∧ st.H.Le ⟨nowM B (fun i => if i = st.own.length then G else F i), w'⟩ := by
  have hI1 : Inv B { st with own := st.own ++ [.abs fun G' _ => ∀ k, ¬ G' k] } ρ F a w :=
    hI.more ⟨fun G w w' h _ => h, fun G w h k hk => (h k hk).elim⟩ fun G w h => h
  have hj : (st.own ++ [Res.abs fun G' _ => ∀ k, ¬ G' k])[st.own.length]? = some (.abs fun G' _ => ∀ k, ¬ G' k) := by simp
  have := hI1.turn (j := st.own.length) hj hl (w' := w') (hk.mono fun _ _ c => c.elim) (fun k hk => .inr (hG k hk)) hφ
  have e : (st.own ++ [Res.abs fun G' _ => ∀ k, ¬ G' k]).set st.own.length (.abs φ) = st.own ++ [.abs φ] := by simp
  rw [show ({ st with own := st.own ++ [Res.abs fun G' _ => ∀ k, ¬ G' k] } : St).own = st.own ++ [Res.abs fun G' _ => ∀ k, ¬ G' k] from rfl, e] at this
  exact this
theorem EvPost.grow {B : Base} {st : St} {ρ : Nat → Nat} {F : Nat → NP} {a : Act} {w w' : World} (hI : Inv B st ρ F a w) (hk : Keep0 w w') {φ : NP → World → Prop} (hl : Loc φ) {G : NP} (hφ : φ G w') (hG : ∀ k, G k → w.heap.size ≤ k)
    {k : V → List Res → Hp → Prop} {x : Value} (h : k (.v x) (st.own ++ [.abs φ]) ⟨nowM B (fun i => if i = st.own.length then G else F i), w'⟩) : EvPost B st ρ a w k x w' := by
  obtain ⟨hI', hle⟩ := hI.grow hk hl hφ hG
  refine ⟨.v x, _, _, ρ, _, rfl, trivial, hI', ⟨hk.os, hk.tape, hk.output, hk.size, fun b hb hd => hk.block b hb fun c => c⟩, ?_, h⟩
  rintro b hb (⟨h1, h2⟩ | ⟨i, T, cs, hi, rfl⟩)
  · exact .inl ⟨Nat.lt_of_lt_of_le hb hk.size, (hle.block b h1 h2).2⟩
  · refine .inr ⟨i, T, cs, ?_, rfl⟩
    show (st.own ++ [.abs φ])[i]? = _
    rw [List.getElem?_append_left (lt_of_some hi)]; exact hi

theorem run_lit {B : Base} {P : Program} {E : TEnv} (hE : TOk P E) {o : Oper} {st : St} {t e : TypeId} {len : Nat} {parts : Array (Nat × Operand)} {ti te : TI} {z : List Value}
    {l : List (Nat × Value)} {cells : List Value}
    (ho : o.op = .buildSlice t len parts) (ht : E.get t = some ti) (hk : ti.kd = .slice e) (he : E.get e = some te) (hz : te.zero = some z) (hzl : z.length = te.size) (hs0 : 0 < te.size)
    (hl : evParts st.fr parts.toList = some l) (hc : litCells te.size len z l = some cells) (hlen : len * te.size ≤ 16777216)
    {ρ : Nat → Nat} {F : Nat → NP} {a : Act} {w : World} (hI : Inv B st ρ F a w) : (execOp a.eval o).run P w = .ok (.value (.slice (some ⟨w.heap.size, 0, none⟩) len len)) (w.alloc (.cells cells.toArray e)) := by
  obtain ⟨inf, d, his⟩ := hE.get ht
  obtain ⟨inf', d', his'⟩ := hE.get he
  have hd : d = .slice e := by
    have := his.kd; rw [hk] at this
    cases d <;> simp [kdOf] at this
    subst this; rfl
  subst hd
  have hzv : ∃ zv, inf'.zero = some zv ∧ z = zv.cells.toList := by
    have := his'.zero; rw [hz] at this
    cases hh : inf'.zero <;> simp [hh] at this
    exact ⟨_, rfl, this⟩
  obtain ⟨zv, hzv, rfl⟩ := hzv
  simp only [execOp, ho]
  refine run_v ?_
  have hparts : (parts.map fun (i, x) => (i, a.eval x)).toList = l := by
    rw [Array.toList_map]; exact evParts_ok hI hl
  have hfill := fill_fillC (place := fun i => if i < len then some (i * te.size, te.size) else none) (flds := (List.range len).map fun i => (i * te.size, 0, te.size, false)) (by
    intro i
    by_cases hi : i < len
    · simp [hi]
    · simp [hi]) l _ cells hc
  have hpl : ∀ (ps : List (Nat × Value)) (cs : Array Value) (out : Array Value), Instr.fill (fun i => if i < len then some (i * te.size, te.size) else none) cs ps = some out → Instr.fill (fun i => some (i * te.size, te.size)) cs ps = some out := by
    intro ps
    induction ps with
    | nil => intro cs out h; exact h
    | cons p ps ih =>
      intro cs out h
      obtain ⟨i, x⟩ := p
      simp only [Instr.fill] at h ⊢
      by_cases hi : i < len
      · simp only [hi, if_true] at h
        split at h
        · cases h
        · rename_i hh
          rw [if_neg hh]
          exact ih _ _ h
      · simp [hi] at h
  have hfill' := hpl _ _ _ hfill
  have hzc := zero_cells zv.cells.toList te.size hzl len
  have hcond : ¬ (len * te.size > 2 ^ 24) := by omega
  simp only [Instr.buildSlice, Sem.run_bind, run_underlying his.und, Result.andThen_ok, Is.run_sizeOf his', hcond, if_false, Sem.run_pure]
  by_cases hl0 : len * te.size = 0
  · have hlen0 : len = 0 := by
      rcases Nat.mul_eq_zero.1 hl0 with h | h
      · exact h
      · omega
    subst hlen0
    have hf0 : Instr.fill (fun i => some (i * te.size, te.size)) #[] l = some cells.toArray := by simpa using hfill'
    simp only [Nat.zero_mul, if_true, Sem.run_bind, Sem.run_pure, Result.andThen_ok]
    rw [hparts]
    have er : (Array.range 0 : Array Nat) = #[] := rfl
    simp [er, hf0, newRow]
  · simp only [hl0, if_false, Sem.run_bind, zeroValue, Is.run_info his', Result.andThen_ok, hzv, Sem.run_pure]
    rw [hparts]
    have e1 : (Array.map (fun x => zv.cells[x % zv.cells.size]!) (Array.range (len * te.size))) = ((List.range len).flatMap fun _ => zv.cells.toList).toArray := by
      rw [← hzc]
      apply Array.ext'
      simp
    rw [e1, hfill']
    simp [newRow]

theorem EEv.lit {B : Base} {P : Program} {E : TEnv} (hE : TOk P E) {o : Oper} {st : St} {k : V → List Res → Hp → Prop} {t e : TypeId} {len : Nat} {parts : Array (Nat × Operand)} {ti te : TI} {z : List Value}
    {l : List (Nat × Value)} {cells : List Value}
    (ho : o.op = .buildSlice t len parts) (ht : E.get t = some ti) (hk : ti.kd = .slice e) (he : E.get e = some te) (hz : te.zero = some z) (hzl : z.length = te.size) (hs0 : 0 < te.size)
    (hl : evParts st.fr parts.toList = some l) (hc : litCells te.size len z l = some cells) (hlen : len * te.size ≤ 16777216)
    (h : ∀ b H', st.H.Le H' → Imm H' b 0 cells → k (.v (.slice (some ⟨b, 0, none⟩) len len)) st.own H') : EEv B P o st k := by
  intro ρ F a w hI
  unfold resOf
  rw [run_lit hE ho ht hk he hz hzl hs0 hl hc hlen hI]
  exact EvPost.world hI (Keep0.alloc w _) (h _ _ (hI.hp.trans (Hp.Le.keep0 (Keep0.alloc w _))) (Imm.new hI.nowBd (by intro j x hx; simpa using hx)))

theorem EEv.litRow {B : Base} {P : Program} {E : TEnv} (hE : TOk P E) {o : Oper} {st : St} {k : V → List Res → Hp → Prop} {t e : TypeId} {len : Nat} {parts : Array (Nat × Operand)} {ti te : TI} {z : List Value}
    {l : List (Nat × Value)} {cells : List Value}
    (ho : o.op = .buildSlice t len parts) (ht : E.get t = some ti) (hk : ti.kd = .slice e) (he : E.get e = some te) (hz : te.zero = some z) (hzl : z.length = te.size) (hs0 : 0 < te.size)
    (hl : evParts st.fr parts.toList = some l) (hc : litCells te.size len z l = some cells) (hlen : len * te.size ≤ 16777216)
    (hcl : cells.length = len * te.size)
    (h : ∀ a' H', st.H.Le H' → k (.v (.slice a' len len)) (st.own ++ [.abs (Row e te.size (.slice a' len len) len cells)]) H') : EEv B P o st k := by
  intro ρ F a w hI
  unfold resOf
  rw [run_lit hE ho ht hk he hz hzl hs0 hl hc hlen hI]
  have hrow : Row e te.size (.slice (some ⟨w.heap.size, 0, none⟩) len len) len cells (fun k => k = w.heap.size) (w.alloc (.cells cells.toArray e)) := by
    refine ⟨⟨hcl, .inr ⟨w.heap.size, len, cells.toArray, rfl, Nat.zero_le _, heap_alloc_new w _, Nat.le_refl _, ?_, by simpa using hcl, by simp [← hcl]⟩⟩, fun k => by simp [Value.ownBlock, eq_comm]⟩
    have := Nat.le_mul_of_pos_right len hs0
    unfold maxLen; omega
  exact EvPost.grow hI (Keep0.alloc w _) (Row.loc _ _ _ _ _) hrow (fun k hk => Nat.le_of_eq hk.symm) (h _ _ (hI.grow (Keep0.alloc w _) (Row.loc _ _ _ _ _) hrow (fun k hk => Nat.le_of_eq hk.symm)).2)

theorem EEv.append {B : Base} {P : Program} {E : TEnv} (hE : TOk P E) {o : Oper} {st : St} {k : V → List Res → Hp → Prop} {t T : TypeId} {s x : Operand} {ti te : TI} {z : List Value}
    {v : Value} {n : Nat} {xs : List Value} {ad : Addr} {m c j : Nat} {ys : List Value}
    (ho : o.op = .call { callee := .builtin .append, args := #[s, x], argTypes := #[t, t] }) (ht : E.get t = some ti) (hk : ti.kd = .slice T) (he : E.get T = some te) (hz : te.zero = some z) (hzl : z.length = te.size) (hs0 : 0 < te.size)
    (hs : ev st.fr s = some (.v v)) (hj : st.own[j]? = some (.abs (Row T te.size v n xs))) (hx : ev st.fr x = some (.v (.slice (some ad) m c))) (S : Sl st.H te.size (some ad) ys) (hm : ys.length = m)
    (hyc : ∀ y ∈ ys, y.cells.toList.length = te.size) (hy1 : ∀ y ∈ ys, ∀ u ∈ y.cells.toList, u.oneCell' = true)
    (h63 : n + m ≤ maxLen) (hb : (n + m) * te.bytes ≤ 140737488355328)
    (h : ∀ a' c' n' xs' H', st.H.Le H' → n' = n + m → xs' = xs ++ (ys.flatMap fun y => y.cells.toList) → k (.v (.slice a' n' c')) (st.own.set j (.abs (Row T te.size (.slice a' n' c') n' xs'))) H') : EEv B P o st k := by
  intro ρ F a w hI
  obtain ⟨inf, d, his⟩ := hE.get ht
  obtain ⟨inf', d', his'⟩ := hE.get he
  have hd : d = .slice T := by
    have := his.kd; rw [hk] at this
    cases d <;> simp [kdOf] at this
    subst this; rfl
  subst hd
  have hzv : ∃ zv, inf'.zero = some zv ∧ z = zv.cells.toList := by
    have := his'.zero; rw [hz] at this
    cases hh : inf'.zero <;> simp [hh] at this
    exact ⟨_, rfl, this⟩
  obtain ⟨zv, hzv, rfl⟩ := hzv
  obtain ⟨hloc, hrow, hF⟩ := hI.held j _ hj
  have hcells := Sl.cells hyc S hI.hp
  obtain ⟨v', w', hr, hown, hg, hnil⟩ := run_append_own (P := P) w 0 t o.type T inf' zv te.size te.bytes his.und his'.info hzv his'.size.symm his'.bytes.symm (by simpa using hzl) hs0 v n xs hrow ad m c (ys.flatMap fun y => y.cells.toList)
    (by rw [flat_length hyc, hm]) hcells (fun u hu => by
      obtain ⟨y, hy, hu⟩ := List.mem_flatMap.1 hu
      exact hy1 y hy u hu) h63 hb (Nat.zero_le _)
  have hshape : ∃ a' c', v' = .slice a' (n + m) c' := by
    rcases hown.2 with ⟨rfl, h0⟩ | ⟨g, cap, cur, rfl, _⟩
    · exact ⟨none, 0, by rw [h0]⟩
    · exact ⟨_, _, rfl⟩
  obtain ⟨a', c', rfl⟩ := hshape
  have hkeep : Keeps (F j) w w' := ⟨hg.os, hg.tape, hg.output, hg.size, fun k hk hn => hg.block k hk fun e => hn ((hF k).2 e.symm)⟩
  have hG : ∀ k, (fun k => (Value.slice a' (n + m) c').ownBlock = some k) k → F j k ∨ w.heap.size ≤ k := by
    intro k hk
    have hz' : zv.cells.size = te.size := by simpa using hzl
    have hsz := his'.size
    have hby := his'.bytes
    have hnl : (ys.flatMap fun y => y.cells.toList).length = m * inf'.size := by rw [flat_length hyc, hm, hsz]
    have h63' : n + m ≤ 9223372036854775807 := h63
    have hb' : (n + m) * inf'.bytes ≤ 140737488355328 := by rw [← hby]; exact hb
    have hn1 : ∀ u ∈ (ys.flatMap fun y => y.cells.toList), u.oneCell' = true := fun u hu => by
      obtain ⟨y, hy, hu⟩ := List.mem_flatMap.1 hu
      exact hy1 y hy u hu
    rcases hrow.2 with ⟨rfl, rfl⟩ | ⟨g, cap, cur, rfl, _, hgg, hnc, hcm, hcs, htake⟩
    · by_cases hm0 : m = 0
      · have := hnil.2 ⟨rfl, hm0⟩
        rw [this] at hk; cases hk
      · have hr2 := run_append_nil (P := P) w t o.type T inf' zv his.und his'.info hzv ad m c _ hnl hcells (by omega) (by omega) (by simp only [Nat.zero_add] at hb'; omega)
        rw [hr2] at hr
        injection hr with h1 h2
        rw [← h1] at hk
        cases hk
        exact .inr (Nat.le_refl _)
    · by_cases hroom : n + m ≤ cap
      · have hfit : n * inf'.size + (ys.flatMap fun y => y.cells.toList).length ≤ cur.size := by rw [hnl, hcs, hsz, ← Nat.add_mul]; exact Nat.mul_le_mul_right _ hroom
        have hr2 := run_append_room (P := P) w t o.type T inf' his.und his'.info g n cap cur hgg ad m c _ hnl hcells hn1 hroom hfit
        rw [hr2] at hr
        injection hr with h1 h2
        rw [← h1] at hk
        exact .inl ((hF k).2 hk)
      · have holds : ∀ j u, xs[j]? = some u → w.cell? ((⟨g, 0, none⟩ : Addr).add j) = some u := World.ownsRow.cells (g := g) hrow rfl
        have hr2 := run_append_grow (P := P) w t o.type T inf' zv his.und his'.info hzv ⟨g, 0, none⟩ n cap xs (by rw [hrow.1, hsz]) holds ad m c _ hnl hcells (by omega) (by omega) (growslice_fits (by omega) hb')
        rw [hr2] at hr
        injection hr with h1 h2
        rw [← h1] at hk
        cases hk
        exact .inr (Nat.le_refl _)
  have hle := (hI.turn hj (Row.loc T te.size (.slice a' (n + m) c') (n + m) (xs ++ ys.flatMap fun y => y.cells.toList)) hkeep hG ⟨hown, fun k => Iff.rfl⟩).2
  unfold resOf
  have e1 : a.eval s = v := (hI.ev hs).1
  have e2 : a.eval x = .slice (some ad) m c := (hI.ev hx).1
  have hrun : (execOp a.eval o).run P w = .ok (.value (.slice a' (n + m) c')) w' := by
    simp only [execOp, ho, resolve, invoke, Go.builtin, Sem.run_bind, Sem.run_pure, Result.andThen_ok, List.map_toArray, List.map_cons, List.map_nil, e1, e2, hr]
  rw [hrun]
  exact EvPost.turn hI hj (Row.loc T te.size (.slice a' (n + m) c') (n + m) (xs ++ ys.flatMap fun y => y.cells.toList)) hkeep hG ⟨hown, fun k => Iff.rfl⟩ (h a' c' _ _ _ hle rfl rfl)

theorem run_call {P : Program} {f : FuncId} {o : Oper} {args : Array Operand} {ts : Array TypeId} {xs : List Value} {B : Base} {st : St} {ρ : Nat → Nat} {F : Nat → NP} {a : Act} {w : World} (hI : Inv B st ρ F a w)
    (hfn : FnOk P f) (ho : o.op = .call { callee := .value (.func f), args := args, argTypes := ts }) (hx : evs st.fr args.toList = some xs) : (execOp a.eval o).run P w = .ok (.enter f xs.toArray) w := by
  have hargs : args.map a.eval = xs.toArray := by
    apply Array.ext'
    rw [Array.toList_map]
    exact evs_ok hI hx
  simp only [execOp, ho, resolve, hargs, Deferred.ofValue, Act.eval, Sem.run_bind, Sem.run_pure, Result.andThen_ok]
  simp only [invoke, Array.append_empty, hfn.run]
  first | rfl | simp

theorem EEv.call {B : Base} {P : Program} {o : Oper} {st : St} {k : V → List Res → Hp → Prop} {f : FuncId} {args : Array Operand} {ts : Array TypeId} {xs : List Value}
    (hfn : FnOk P f) (ho : o.op = .call { callee := .value (.func f), args := args, argTypes := ts }) (hx : evs st.fr args.toList = some xs)
    (h : ∀ H : Hp, st.H.Le H → H.Bd → Calls P f xs.toArray H.w fun e w' => ∃ v H', e = .returned v ∧ H'.w = w' ∧ H.Nx H' ∧ k (.v v) st.own H') : EEv B P o st k := by
  intro ρ F a w hI
  unfold resOf
  rw [run_call hI hfn ho hx]
  refine (h ⟨nowM B F, w⟩ hI.hp hI.nowBd).mono ?_
  rintro e w' ⟨v, ⟨M', w2⟩, rfl, rfl, ⟨rfl, hk0⟩, hk⟩
  exact ⟨v, rfl, EvPost.world hI hk0 hk⟩

/-- A call that hands back something of its own. -/
theorem EEv.callN {B : Base} {P : Program} {o : Oper} {st : St} {k : V → List Res → Hp → Prop} {f : FuncId} {args : Array Operand} {ts : Array TypeId} {xs : List Value}
    (hfn : FnOk P f) (ho : o.op = .call { callee := .value (.func f), args := args, argTypes := ts }) (hx : evs st.fr args.toList = some xs)
    (h : ∀ H : Hp, st.H.Le H → H.Bd → Calls P f xs.toArray H.w fun e w' => ∃ v φ G, e = .returned v ∧ Keep0 H.w w' ∧ Loc φ ∧ φ G w' ∧ (∀ k, G k → H.w.heap.size ≤ k) ∧
      ∀ H' : Hp, H'.w = w' → H.Le H' → (∀ k, H'.M k → H.M k ∨ G k) → H'.Bd → k (.v v) (st.own ++ [.abs φ]) H') : EEv B P o st k := by
  intro ρ F a w hI
  unfold resOf
  rw [run_call hI hfn ho hx]
  refine (h ⟨nowM B F, w⟩ hI.hp hI.nowBd).mono ?_
  rintro e w' ⟨v, φ, G, rfl, hk0, hl, hφ, hG, hk⟩
  have hI' := (hI.grow hk0 hl hφ hG).1
  have hle2 := (hI.now.grow hk0 hl hφ hG).2
  refine ⟨v, rfl, EvPost.grow hI hk0 hl hφ hG (hk _ rfl hle2 ?_ hI'.nowBd)⟩
  rintro k (c | ⟨i, c⟩)
  · exact .inl (.inl c)
  · by_cases hij : i = st.own.length
    · rw [if_pos hij] at c; exact .inr c
    · rw [if_neg hij] at c; exact .inl (.inr ⟨i, c⟩)

/-- A call that takes one resource along. -/
theorem EEv.callR {B : Base} {P : Program} {o : Oper} {st : St} {k : V → List Res → Hp → Prop} {f : FuncId} {args : Array Operand} {ts : Array TypeId} {xs : List Value}
    (hfn : FnOk P f) (ho : o.op = .call { callee := .value (.func f), args := args, argTypes := ts })
    (hx : evs st.fr args.toList = some xs) (j : Nat) {φ : NP → World → Prop} (hj : st.own[j]? = some (.abs φ))
    (h : ∀ (H : Hp) (F : NP), st.H.Le H → H.Bd → φ F H.w → (∀ b, F b → H.M b) → Calls P f xs.toArray H.w fun e w' => ∃ v φ' G, e = .returned v ∧ Keeps F H.w w' ∧ Loc φ' ∧ φ' G w' ∧ (∀ k, G k → F k ∨ H.w.heap.size ≤ k) ∧
      ∀ H' : Hp, H'.w = w' → H.Le H' → (∀ k, H'.M k → H.M k ∨ G k) → H'.Bd → k (.v v) (st.own.set j (.abs φ')) H') : EEv B P o st k := by
  intro ρ F a w hI
  have hargs : args.map a.eval = xs.toArray := by
    apply Array.ext'
    rw [Array.toList_map]
    exact evs_ok hI hx
  unfold resOf
  have hrun : (execOp a.eval o).run P w = .ok (.enter f xs.toArray) w := by
    simp only [execOp, ho, resolve, hargs, Deferred.ofValue, Act.eval, Sem.run_bind, Sem.run_pure, Result.andThen_ok]
    simp only [invoke, Array.append_empty, hfn.run]
    first | rfl | simp
  rw [hrun]
  obtain ⟨hloc, hφ⟩ := hI.held j _ hj
  refine (h ⟨nowM B F, w⟩ (F j) hI.hp hI.nowBd hφ (fun b hb => .inr ⟨j, hb⟩)).mono ?_
  rintro e w' ⟨v, φ', G, rfl, hk, hl, hφ', hG, hkk⟩
  obtain ⟨hI', hle⟩ := hI.turn hj hl hk hG hφ'
  have hle2 : Hp.Le ⟨nowM B F, w⟩ ⟨nowM B (fun i => if i = j then G else F i), w'⟩ := (hI.now.turn hj hl hk hG hφ').2
  refine ⟨v, rfl, EvPost.turn hI hj hl hk hG hφ' (hkk _ rfl hle2 ?_ hI'.nowBd)⟩
  rintro k (c | ⟨i, c⟩)
  · exact .inl (.inl c)
  · by_cases hij : i = j
    · rw [if_pos hij] at c; exact .inr c
    · rw [if_neg hij] at c; exact .inl (.inr ⟨i, c⟩)

end Go.Sx
