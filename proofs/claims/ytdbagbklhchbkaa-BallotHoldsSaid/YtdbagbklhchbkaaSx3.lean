/- A calculus for walks, part 3: every silent operation does what is said of it. No conditions. -/
import Derived.Test.YtdbagbklhchbkaaSx2
set_option linter.unusedSimpArgs false
set_option linter.unusedVariables false
namespace Go.Sx
open Go

theorem foldl_sets (off : Nat) : ∀ (l : List Value) (k : Nat) (arr : Array Value), off + k + l.length ≤ arr.size →
    (l.zipIdx k).foldl (fun cs (p : Value × Nat) => cs.setIfInBounds (off + p.2) p.1) arr = (arr.toList.take (off + k) ++ (l ++ arr.toList.drop (off + k + l.length))).toArray
  | [], k, arr, _ => by simp
  | x :: l, k, arr, h => by
    simp only [List.zipIdx_cons, List.foldl_cons]
    simp only [List.length_cons] at h
    rw [foldl_sets off l (k + 1) _ (by simp; omega)]
    congr 1
    have e := list_seg_step arr.toList (off + k) x l (by simp; omega)
    simp only [Array.toList_setIfInBounds]
    rw [show off + (k + 1) = off + k + 1 from rfl]
    rw [← List.append_assoc, e]
    simp

theorem fill_fillC {place : Nat → Option (Nat × Nat)} {flds : List (Nat × Nat × Nat × Bool)} (hp : ∀ i, place i = (flds[i]?).map fun f => (f.1, f.2.2.1)) :
    ∀ (parts : List (Nat × Value)) (cells : List Value) (cs : List Value), fillC flds cells parts = some cs → Instr.fill place cells.toArray parts = some cs.toArray
  | [], cells, cs, h => by simp [fillC] at h; subst h; rfl
  | (i, x) :: r, cells, cs, h => by
    simp only [fillC] at h
    split at h
    · rename_i off t size ag hf
      split at h
      · rename_i h1 h2
        have h1 := Nat.eq_of_beq_eq_true h1
        have h2 := Nat.le_of_ble_eq_true h2
        have hpi : place i = some (off, size) := by rw [hp, hf]; rfl
        simp only [Instr.fill, hpi]
        have hsz : x.cells.size = size := by simpa using h1
        have hcond : ¬ ((x.cells.size ≠ size || decide (off + x.cells.size > cells.toArray.size)) = true) := by
          simp [hsz]; omega
        rw [if_neg hcond]
        have hfold : x.cells.zipIdx.foldl (fun cs (p : Value × Nat) => cs.setIfInBounds (off + p.2) p.1) cells.toArray = (cells.take off ++ (x.cells.toList ++ cells.drop (off + size))).toArray := by
          have := foldl_sets off x.cells.toList 0 cells.toArray (by simp [hsz]; omega)
          rw [← Array.foldl_toList, Array.toList_zipIdx, this]
          simp [hsz]
        have ih := fill_fillC hp r _ cs h
        rw [← hfold] at ih
        exact ih
      · cases h
    · cases h

theorem mapM_places {P : Program} : ∀ (fs : List Field), (∀ f ∈ fs, (P.info? f.type).isSome = true) →
    fs.mapM (fun f => (P.info? f.type).map fun i => (f.offset, i.size)) = some (fs.map fun f => (f.offset, ((P.info? f.type).map (·.size)).getD 0))
  | [], _ => rfl
  | f :: fs, h => by
    obtain ⟨i, hi⟩ := Option.isSome_iff_exists.1 (h f (by simp))
    simp [List.mapM_cons, mapM_places fs (fun g hg => h g (by simp [hg])), hi]

/-- Every field's type is a type. -/
def fieldsIn (P : Program) (t : TypeId) : Bool :=
  match P.underlying t with
  | some (.struct fs) => fs.toList.all fun f => (P.info? f.type).isSome && (P.underlying f.type).isSome
  | _ => true
def FOk (P : Program) (E : TEnv) : Prop := ∀ t i, E.get t = some i → fieldsIn P t = true
theorem FOk.of {P : Program} : ∀ {E : TEnv}, (E.map fun p => fieldsIn P p.1).all id = true → FOk P E
  | [], _, _, _, h => by simp [TEnv.get] at h
  | (k, j) :: r, he, t, i, h => by
    simp only [List.map_cons, List.all_cons, Bool.and_eq_true, id] at he
    simp only [TEnv.get] at h
    split at h
    · rename_i hk
      have : k = t := Nat.eq_of_beq_eq_true hk
      subst this
      exact he.1
    · exact FOk.of he.2 t i h

theorem Is.struct {P : Program} {t : TypeId} {ti : TI} {inf : TypeInfo} {d : TypeDesc} (h : TI.Is P t ti inf d) (hF : fieldsIn P t = true) {f : Nat} {x : Nat × Nat × Nat × Bool} (hf : ti.flds[f]? = some x) :
    ∃ fs : Array Field, d = .struct fs ∧ ∃ fd fi fdd, fs[f]? = some fd ∧ P.info? fd.type = some fi ∧ P.underlying fd.type = some fdd ∧ x = (fd.offset, fd.type, fi.size, isAggD fdd) := by
  rw [h.flds] at hf
  cases d <;> simp [fldsOf] at hf
  rename_i fs
  obtain ⟨fd, hfd, hx⟩ := hf
  have := h.und
  simp only [fieldsIn, this, List.all_eq_true, Bool.and_eq_true] at hF
  have hm := hF fd (by simpa using Array.mem_of_getElem? hfd)
  obtain ⟨fi, hfi⟩ := Option.isSome_iff_exists.1 hm.1
  obtain ⟨fdd, hfdd⟩ := Option.isSome_iff_exists.1 hm.2
  refine ⟨fs, rfl, fd, fi, fdd, hfd, hfi, hfdd, ?_⟩
  rw [← hx]; simp [hfi, hfdd]

theorem run_part {P : Program} {w : World} {t : TypeId} {fi : TypeInfo} {fdd : TypeDesc} (h1 : P.info? t = some fi) (h2 : P.underlying t = some fdd) {ρ : Nat → Nat} {cs : Array Value} {o : Nat} {v : V}
    (hv : loadI (isAggD fdd) fi.size cs.toList o = some v) : (part t cs o).run P w = .ok (v.den ρ) w := by
  have hagg : (isAgg t).run P w = .ok (isAggD fdd) w := by
    unfold isAgg; rw [Sem.run_bind, run_underlying h2 w]; cases fdd <;> rfl
  have hsz : (sizeOf t).run P w = .ok fi.size w := by simp [sizeOf, typeInfo, h1]
  unfold part
  rw [Sem.run_bind, hagg]
  unfold loadI at hv
  split at hv
  · split at hv
    · rename_i hb
      have hb := Nat.le_of_ble_eq_true hb
      cases hv
      simp only [Result.andThen_ok, if_true, Sem.run_bind, hsz, Sem.run_pure, V.den, ‹isAggD fdd = true›]
      congr 2
      apply Array.ext'
      simp [Array.toList_extract, List.extract]
    · cases hv
  · split at hv
    · rename_i y hx
      cases hv
      have hx' : cs[o]? = some y := by simpa using hx
      simp [hx', V.den, ‹isAggD fdd = false›]
    · cases hv

theorem pickV_den (ρ : Nat → Nat) (t : Bool) (x y : V) : (pickV .std t x y).den ρ = if t = true then x.den ρ else y.den ρ := by
  unfold pickV
  split <;> cases t <;> rfl
theorem pickV_or (t : Bool) (x y : V) : pickV .std t x y = x ∨ pickV .std t x y = y := by
  unfold pickV
  split <;> cases t <;> simp [Ar.std]

theorem silent_both {P : Program} {E : TEnv} (hE : TOk P E) (hF : FOk P E) {o : Oper} {st : St} {v : V} {own' : List Res} (h : silent .std E o.op st = some (v, own'))
    {B : Base} {ρ : Nat → Nat} {F : Nat → NP} {a : Act} {w : World} (hI : Inv B st ρ F a w) : SilentBoth P B st ρ a w o v own' := by
  cases ho : o.op <;> rw [ho] at h <;> simp only [silent] at h
  case move x =>
    split at h
    · rename_i v' hv
      cases h
      exact .pure hI (by simp only [execOp, ho, (hI.ev hv).1]; rfl) (hI.ev hv).2
    · cases h
  case assign x =>
    split at h
    · rename_i v' hv
      cases h
      exact .pure hI (by simp only [execOp, ho, (hI.ev hv).1]; rfl) (hI.ev hv).2
    · cases h
  case pick c x y =>
    split at h
    · rename_i t vx vy hc hx hy
      cases h
      refine .pure hI ?_ ?_
      · have hct : a.eval c = .bool t := (hI.ev hc).1
        simp only [execOp, ho, hct, (hI.ev hx).1, (hI.ev hy).1, asBool, Sem.run_bind, Sem.run_pure, Result.andThen_ok, pickV_den]
      · rcases pickV_or t vx vy with h | h <;> rw [h]
        · exact (hI.ev hx).2
        · exact (hI.ev hy).2
    · cases h
  case alloc T =>
    split at h
    · rename_i i hi
      split at h
      · rename_i z hz
        cases h
        obtain ⟨inf, d, his⟩ := hE.get hi
        have hzv : ∃ zv, inf.zero = some zv ∧ z = zv.cells.toList := by
          have := his.zero; rw [hz] at this
          cases hh : inf.zero <;> simp [hh] at this
          exact ⟨_, rfl, this⟩
        obtain ⟨zv, hzv, rfl⟩ := hzv
        obtain ⟨ρ', F', h1, h2, h3⟩ := hI.alloc T (zv.cells.toList.map .v) (by simp; intro a _; trivial)
        refine ⟨fun hr => absurd hr (by rw [ho]; simp [isRead]), ρ', F', _, _, ?_, .inl rfl, h3, by simp [VOk]⟩
        simp only [execOp, ho]
        refine run_v ?_
        simp only [Instr.alloc, zeroValue, Sem.run_bind, Is.run_info his, Result.andThen_ok, hzv, Sem.run_pure, newVar, newRow, run_newObj, V.den, h2]
        simp [V.den, Function.comp_def]
      · cases h
    · cases h
  case box T x =>
    split at h
    · rename_i y hy
      cases h
      obtain ⟨ρ', F', h1, h2, h3⟩ := hI.alloc T (y.cells.toList.map .v) (by simp; intro a _; trivial)
      refine ⟨fun hr => absurd hr (by rw [ho]; simp [isRead]), ρ', F', _, _, ?_, .inl rfl, h3, by simp [VOk]⟩
      simp only [execOp, ho]
      refine run_v ?_
      simp only [Instr.box, Sem.run_bind, Result.andThen_ok, Sem.run_pure, newVar, newRow, run_newObj, V.den, h2, (hI.ev hy).1]
      simp [V.den, Function.comp_def]
    · rename_i v' hnv hv'
      cases h
      obtain ⟨ρ', F', h1, h2, h3⟩ := hI.alloc T [v'] (by simpa using (hI.ev hv').2)
      refine ⟨fun hr => absurd hr (by rw [ho]; simp [isRead]), ρ', F', _, _, ?_, .inl rfl, h3, by simp [VOk]⟩
      simp only [execOp, ho]
      refine run_v ?_
      have hc : (v'.den ρ).cells = #[v'.den ρ] := by
        cases v' with
        | v x => exact (hnv x rfl).elim
        | own i o => rfl
        | imm b o cs k => rfl
      have hown : (V.own st.own.length 0).den ρ' = .pointer (some ⟨w.heap.size, 0, none⟩) := by rw [← h2]; rfl
      simp only [Instr.box, Sem.run_bind, Result.andThen_ok, Sem.run_pure, newVar, newRow, run_newObj, hown, (hI.ev hv').1, hc]
      simp
    · cases h
  case load T x =>
    split at h
    · rename_i ti hti
      obtain ⟨inf, d, his⟩ := hE.get hti
      split at h
      · rename_i i off hx
        split at h
        · rename_i T' cells hi
          split at h
          · rename_i v' hv
            cases h
            obtain ⟨h1, h2⟩ := loadC_run his (hI.held i _ hi).2 hv
            refine .pure hI ?_ ?_
            · simp only [execOp, ho]
              refine run_v ?_
              simp only [(hI.ev hx).1, V.den, Instr.loadAt, Instr.sureAddr, Sem.run_bind, Sem.run_pure, Result.andThen_ok]
              exact h1
            · rcases h2 with h2 | ⟨y, rfl⟩
              · exact hI.okc i T' cells hi _ h2
              · trivial
          · cases h
        · cases h
      · rename_i b off cs k hx
        split at h
        · rename_i v' hv
          cases h
          have himm : Imm st.H b off cs := (hI.ev hx).2
          obtain ⟨_, _, c, T', fz, hc, hj⟩ := himm.mono hI.hp
          obtain ⟨h1, y, rfl⟩ := loadI_run (ρ := ρ) his hc hj hv
          refine .pure hI ?_ trivial
          simp only [execOp, ho]
          refine run_v ?_
          simp only [(hI.ev hx).1, V.den, Instr.loadAt, Instr.sureAddr, Sem.run_bind, Sem.run_pure, Result.andThen_ok]
          exact h1
        · cases h
      · cases h
    · cases h
  case store T x y =>
    split at h
    · rename_i ti hti
      obtain ⟨inf, d, his⟩ := hE.get hti
      split at h
      · rename_i i off v' hx hy
        split at h
        · rename_i T' cells hi
          split at h
          · rename_i cells' hv
            cases h
            obtain ⟨h1, h2⟩ := storeC_run his (hI.held i _ hi).2 hv
            refine ⟨fun hr => absurd hr (by rw [ho]; simp [isRead]), ρ, F, _, _, ?_, .inr ⟨rfl, rfl⟩, hI.store hi cells' ?_, trivial⟩
            · have hx' : a.eval x = .pointer (some ⟨ρ i, off, none⟩) := (hI.ev hx).1
              simp only [execOp, ho, hx', (hI.ev hy).1, Instr.storeAt, Instr.sureAddr, Sem.run_bind, Sem.run_pure, Result.andThen_ok]
              rw [h1]
              rfl
            · intro u hu
              rcases h2 u hu with h | rfl | ⟨y, rfl⟩
              · exact hI.okc i T' cells hi _ h
              · exact (hI.ev hy).2
              · trivial
          · cases h
        · cases h
      · cases h
    · cases h
  case fieldAddr T x f =>
    split at h
    · rename_i ti hti
      obtain ⟨inf, d, his⟩ := hE.get hti
      split at h
      · rename_i fo ft fs fa hf
        obtain ⟨fds, rfl, fd, fi, fdd, hfd, hfi, hfdd, hxe⟩ := Is.struct his (hF T ti hti) hf
        simp only [Prod.mk.injEq] at hxe
        obtain ⟨rfl, rfl, rfl, rfl⟩ := hxe
        split at h
        · cases h
        · rename_i hnz
          have hnz : ¬ fi.size = 0 := fun c => by rw [c] at hnz; cases hnz
          have key : ∀ b k, a.eval x = .pointer (some ⟨b, k, none⟩) → (execOp a.eval o).run P w = .ok (.value (.pointer (some ⟨b, k + fd.offset, none⟩))) w := by
            intro b k hx
            simp only [execOp, ho]
            refine run_v ?_
            simp only [Instr.fieldAt, Sem.run_bind, run_underlying his.und, Result.andThen_ok, hfd, hx, Instr.sureAddr, Sem.run_pure, fieldPlace, sizeOf, typeInfo, run_program, hfi, hnz, if_false, addr_add]
          split at h
          · rename_i i off hx
            cases h
            exact .pure hI (key _ _ (hI.ev hx).1) (hI.ev hx).2
          · rename_i b off cs k hx
            cases h
            refine .pure hI ?_ (hI.ev hx).2
            rw [key _ _ (hI.ev hx).1]
            simp [V.den, Nat.add_assoc]
          · cases h
      · cases h
    · cases h
  case field T x f =>
    split at h
    · rename_i ti hti
      obtain ⟨inf, d, his⟩ := hE.get hti
      split at h
      · rename_i fo ft fs fa hf
        obtain ⟨fds, rfl, fd, fi, fdd, hfd, hfi, hfdd, hxe⟩ := Is.struct his (hF T ti hti) hf
        simp only [Prod.mk.injEq] at hxe
        obtain ⟨rfl, rfl, rfl, rfl⟩ := hxe
        split at h
        · rename_i cs hx
          split at h
          · rename_i v' hv
            cases h
            have hp := run_part (P := P) (w := w) hfi hfdd (ρ := ρ) hv
            refine .pure hI ?_ ?_
            · simp only [execOp, ho]
              refine run_v ?_
              simp only [Instr.field, Sem.run_bind, run_underlying his.und, Result.andThen_ok, hfd, (hI.ev hx).1, V.den, asAgg, Sem.run_pure]
              exact hp
            · unfold loadI at hv
              split at hv <;> split at hv <;> first | (cases hv; trivial) | cases hv
          · cases h
        · cases h
      · cases h
    · cases h
  case extract x i =>
    split at h
    · rename_i vs hx
      split at h
      · rename_i v' hv
        cases h
        refine .pure hI ?_ trivial
        have hv' : vs[i]? = some v' := by simpa using hv
        simp only [execOp, ho]
        refine run_v ?_
        simp only [(hI.ev hx).1, V.den, Instr.extract, hv']
        rfl
      · cases h
    · cases h
  case build T parts =>
    split at h
    · rename_i ti hti
      obtain ⟨inf, d, his⟩ := hE.get hti
      split at h
      · rename_i f0 fr0 z l hfl hz hl
        split at h
        · rename_i cs hcs
          cases h
          obtain ⟨fds, rfl, _⟩ := Is.struct his (hF T ti hti) (f := 0) (x := f0) (by rw [hfl]; rfl)
          have hzv : ∃ zv, inf.zero = some zv ∧ z = zv.cells.toList := by
            have := his.zero; rw [hz] at this
            cases hh : inf.zero <;> simp [hh] at this
            exact ⟨_, rfl, this⟩
          obtain ⟨zv, hzv, rfl⟩ := hzv
          refine .pure hI ?_ trivial
          simp only [execOp, ho]
          refine run_v ?_
          refine run_build w T _ cs.toArray ?_
          have hparts : (parts.map fun (i, x) => (i, a.eval x)).toList = l := by
            rw [Array.toList_map]; exact evParts_ok hI hl
          rw [hparts]
          have hin := hF T ti hti
          simp only [fieldsIn, his.und, List.all_eq_true, Bool.and_eq_true] at hin
          unfold Program.built
          simp only [his.info, his.und, hzv, mapM_places fds.toList (fun f hf => (hin f hf).1)]
          have := fill_fillC (place := fun i => ((fds.toList.map fun f => (f.offset, ((P.info? f.type).map (·.size)).getD 0)).toArray)[i]?) (flds := f0 :: fr0) ?_ l zv.cells.toList cs hcs
          · simpa using this
          · intro i
            rw [← hfl, his.flds]
            simp [fldsOf, Function.comp_def]
        · cases h
      · cases h
    · cases h
  case binOp op t x y ty =>
    split at h
    · rename_i vx vy hx hy
      split at h
      · rename_i u hu
        cases h
        refine .pure hI ?_ trivial
        simp only [execOp, ho]
        refine run_v ?_
        rw [(hI.ev hx).1, (hI.ev hy).1]
        refine binV_run hE hu ?_ x y
        intro n hn
        obtain ⟨k, hk⟩ := litOf_eval (a := a) hn
        exact ⟨k, by rw [← (hI.ev hy).1]; exact hk⟩
      · cases h
    · cases h
  case unOp op t x =>
    cases op <;> simp only at h <;> first | (cases h; done) | skip
    all_goals
      split at h
      · rename_i hx
        cases h
        refine .pure hI ?_ trivial
        simp only [execOp, ho]
        refine run_v ?_
        simp only [(hI.ev hx).1, V.den, Op.unary, Op.intArith]
        rfl
      · cases h
  case convert src dst x =>
    split at h
    · rename_i k n hx
      split at h
      · rename_i si di hsi hdi
        split at h
        · rename_i k' hk'
          cases h
          obtain ⟨inf, d, his⟩ := hE.get hsi
          obtain ⟨inf', d', his'⟩ := hE.get hdi
          have hd' : d' = .int k' := by
            have := his'.kd
            cases d' <;> simp [kdOf] at this <;> rw [this] at hk' <;> simp [kdInt] at hk'
            subst hk'; rfl
          subst hd'
          refine .pure hI ?_ trivial
          simp only [execOp, ho]
          refine run_v ?_
          have hik : P.intKind dst = k' := by simp [Program.intKind, his'.und]
          have := run_convert_int (P := P) w src dst k n (by simp [his.und]) (by rw [hik]; exact his'.und)
          rw [hik] at this
          simpa only [(hI.ev hx).1, V.den, Ar.std] using this
        · cases h
      · cases h
    · cases h
  case nilCheck x =>
    split at h
    · rename_i i k hx
      cases h
      exact .pure hI (by simp only [execOp, ho, (hI.ev hx).1, V.den]; rfl) (hI.ev hx).2
    · rename_i b off cs k hx
      cases h
      exact .pure hI (by simp only [execOp, ho, (hI.ev hx).1, V.den]; rfl) (hI.ev hx).2
    · rename_i p hx
      cases h
      exact .pure hI (by simp only [execOp, ho, (hI.ev hx).1, V.den]; rfl) trivial
    · cases h
  case call c =>
    obtain ⟨callee, args, ts⟩ := c
    cases callee <;> first | (cases h; done) | skip
    rename_i bn
    cases bn <;> first | (cases h; done) | skip
    simp only at h
    split at h
    · rename_i x t trest hargs hts
      split at h
      · rename_i ti hti
        obtain ⟨inf, d, his⟩ := hE.get hti
        have hargs' : args = #[x] := by apply Array.ext'; simpa using hargs
        have hts' : ts[0]? = some t := by
          rw [← Array.getElem?_toList, hts]; rfl
        subst hargs'
        split at h
        · rename_i p n c hx
          split at h
          · rename_i e hkd
            cases h
            have hd : d = .slice e := by
              have := his.kd; rw [hkd] at this
              cases d <;> simp [kdOf] at this
              subst this; rfl
            subst hd
            refine .pure hI ?_ trivial
            simp [execOp, ho, resolve, invoke, builtin, Builtin.len_, hts', (hI.ev hx).1, V.den, run_underlying his.und, goInt, Ar.std]
          · cases h
        · rename_i s hx
          split at h
          · rename_i hkd
            cases h
            have hd : d = .string := by
              have := his.kd; rw [hkd] at this
              cases d <;> simp [kdOf] at this
              rfl
            subst hd
            refine .pure hI ?_ trivial
            simp [execOp, ho, resolve, invoke, builtin, Builtin.len_, hts', (hI.ev hx).1, V.den, run_underlying his.und, goInt, Ar.std]
          · cases h
        · cases h
      · cases h
    · cases h
  all_goals (cases h; done)
theorem silent_ok {P : Program} {E : TEnv} (hE : TOk P E) (hF : FOk P E) {o : Oper} {st : St} {v : V} {own' : List Res} (h : silent .std E o.op st = some (v, own'))
    {B : Base} {ρ : Nat → Nat} {F : Nat → NP} {a : Act} {w : World} (hI : Inv B st ρ F a w) : SilentOk P B st a w o v own' := (silent_both hE hF h hI).2
/-- A silent operation that only reads leaves the world and the values' sense. -/
theorem silent_read {P : Program} {E : TEnv} (hE : TOk P E) (hF : FOk P E) {o : Oper} {st : St} {v : V} {own' : List Res} (hr : isRead o.op = true) (h : silent .std E o.op st = some (v, own'))
    {B : Base} {ρ : Nat → Nat} {F : Nat → NP} {a : Act} {w : World} (hI : Inv B st ρ F a w) : (execOp a.eval o).run P w = .ok (.value (v.den ρ)) w ∧ VOk st.H st.own.length v := (silent_both hE hF h hI).1 hr
end Go.Sx
