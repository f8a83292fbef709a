/- Slices of slices that are turned: a new slice of nil slices as a struct of the call's own, its places as pointers to that struct's cells. No conditions. -/
import Derived.Test.YtdbagbklhchbkaaLEnv
set_option linter.unusedSimpArgs false
set_option linter.unusedVariables false
namespace Go.Lx
open Go
open Go.Sx (NP Keeps Hp Keep0 TI TEnv TOk FOk)
/-- Types left out of what the calculus knows. -/
def without (ts : List Nat) : TEnv → TEnv
  | [] => []
  | (k, i) :: r => match memN k ts with
    | true => without ts r
    | false => (k, i) :: without ts r
theorem without_get (ts : List Nat) : ∀ (E : TEnv) (t : Nat) (i : TI), (without ts E).get t = some i → E.get t = some i
  | [], t, i, h => h
  | (k, j) :: r, t, i, h => by
    unfold without at h
    cases hm : memN k ts with
    | true =>
      rw [hm] at h
      replace h : (without ts r).get t = some i := h
      have ih := without_get ts r t i h
      show (match Nat.beq k t with | true => some j | false => TEnv.get r t) = some i
      cases hk : Nat.beq k t with
      | false => exact ih
      | true =>
        exfalso
        have hkt : k = t := Nat.eq_of_beq_eq_true hk
        subst hkt
        have : ∀ E : TEnv, (without ts E).get k ≠ some i := by
          intro E
          induction E with
          | nil => intro h; cases h
          | cons p r ih =>
            obtain ⟨k', j'⟩ := p
            intro h
            unfold without at h
            cases hm' : memN k' ts with
            | true => rw [hm'] at h; exact ih h
            | false =>
              rw [hm'] at h
              replace h : (match Nat.beq k' k with | true => some j' | false => TEnv.get (without ts r) k) = some i := h
              cases hb : Nat.beq k' k with
              | true =>
                have := Nat.eq_of_beq_eq_true hb
                subst this
                rw [hm] at hm'; cases hm'
              | false => rw [hb] at h; exact ih h
        exact this r h
    | false =>
      rw [hm] at h
      replace h : (match Nat.beq k t with | true => some j | false => TEnv.get (without ts r) t) = some i := h
      show (match Nat.beq k t with | true => some j | false => TEnv.get r t) = some i
      cases hk : Nat.beq k t with
      | true => rw [hk] at h; exact h
      | false => rw [hk] at h; exact without_get ts r t i h
theorem without_ok {P : Program} {E : TEnv} (h : TOk P E) (ts : List Nat) : TOk P (without ts E) := fun t i hi => h t i (without_get ts E t i hi)
theorem without_fok {P : Program} {E : TEnv} (h : FOk P E) (ts : List Nat) : FOk P (without ts E) := fun t i hi => h t i (without_get ts E t i hi)
/-- A new slice of slices, all nil: its row as a struct, whose cells are the slices. -/
theorem OpEv.makeSt {B : Base} {P : Program} {TE : TEnv} (hE : TOk P TE) {o : Oper} {t e : TypeId} {lo co : Operand} {ti te : TI} (ho : o.op = .makeSlice t lo co) (hti : TE.get t = some ti) (hkd : ti.kd = .slice e) (hte : TE.get e = some te)
    (hz : te.zero = some [.slice none 0 0]) (hb : te.bytes = 24) (hsz : te.size = 1) {X : Nat → Bool} {st : St} {k : V → St → Prop} {kl kc : IntKind} (c : Nat) (hlo : ev st.fr lo = some (.p (.int kl c))) (hco : ev st.fr co = some (.p (.int kc c))) (hc : c ≤ 1000)
    (hk : k (.vw st.own.length 1 0 c none) ⟨st.n, st.fr, st.own ++ [.st e (List.replicate c (.p .nils))]⟩) : OpEv B P o X st k := by
  intro E F a w hI
  obtain ⟨inf, d, his⟩ := hE.get hti
  obtain ⟨inf', d', his'⟩ := hE.get hte
  have := kd_slice his hkd; subst this
  have h1 := his'.zero
  rw [hz] at h1
  cases hz1 : inf'.zero with
  | none => rw [hz1] at h1; cases h1
  | some zv =>
    rw [hz1] at h1
    replace h1 : [Value.slice none 0 0] = zv.cells.toList := by simpa using h1
    have hbytes := his'.bytes
    have hsize := his'.size
    have hr := run_make (P := P) w t e inf' zv his.und his'.info hz1 kl kc c c (by omega) (by omega) (by
      rw [← hbytes, hb]; have : ((24 * c : Nat) : Int) ≤ 281474976710656 := by omega
      rw [Int.natCast_mul] at this; exact this) (by omega)
    simp only [Int.toNat_natCast] at hr
    generalize hv : (madeCells zv.cells (c * inf'.size)).toList = vals at *
    have hva : madeCells zv.cells (c * inf'.size) = vals.toArray := by rw [← hv]
    rw [hva] at hr
    have hcs : zv.cells = #[Value.slice none 0 0] := by
      apply Array.toList_inj.1; rw [← h1]
    have hvr : vals = List.replicate c (Value.slice none 0 0) := by
      rw [← hv, ← hsize, hsz, Nat.mul_one, hcs]
      apply List.ext_getElem?
      intro j
      by_cases hj : j < c
      · simp [madeCells, hj, Nat.mod_one]
      · simp [madeCells, hj]
    subst hvr
    have hk0 := Keep0.alloc w (.cells (List.replicate c (Value.slice none 0 0)).toArray e)
    refine resOf_value (x := .slice (some ⟨w.heap.size, 0, none⟩) c c) (w' := w.alloc (.cells (List.replicate c (Value.slice none 0 0)).toArray e)) ?_ ?_
    · simp only [execOp, ho]; exact Sx.run_v (by rw [(hI.ev hlo).int_inv, (hI.ev hco).int_inv]; exact hr)
    · have hle := hI.le (F' := pushF F st.own.length fun k => k = w.heap.size) (keepsNone hk0) (fun i k h => by
        by_cases hi : i = st.own.length
        · subst hi; rw [pushF_self] at h; exact .inr (Nat.le_of_eq h.symm)
        · rw [pushF_ne i hi] at h; exact .inl h)
      have hI' : Inv B { st with own := st.own ++ [.st e (List.replicate c (.p .nils))] } (E.push w.heap.size c c 1 false) (pushF F st.own.length fun k => k = w.heap.size) a (w.alloc (.cells (List.replicate c (Value.slice none 0 0)).toArray e)) := by
        refine hI.new hk0 (E.push_le _ _ _ _ _) (by simp [Ev.push, hI.en]) pushF_ne (fun k h => by rw [pushF_self] at h; exact Nat.le_of_eq h.symm) ?_
        have e1 : (E.push w.heap.size c c 1 false).ρ st.own.length = w.heap.size := by simp [Ev.push, hI.en]
        refine ⟨by simp [Ev.push, hI.en], fun k => by rw [pushF_self, e1], _, by rw [e1]; exact heap_alloc_new w _, by simp, fun i x v hx hv => ?_⟩
        rw [List.getElem?_replicate] at hx hv
        split at hx
        · rename_i hi
          rw [if_pos hi] at hv
          cases hx; cases hv
          exact .p _ _ .nils
        · cases hx
      refine Post.s (Post.of (f := fun v => v) (v := .vw st.own.length 1 0 c none) hI (by rw [frMap_id]; exact hI') (keepsNone hk0) (fun i q h => ?_) (fun i q _ h => ?_) ?_ (by rw [frMap_id]; exact hk))
      · by_cases hi : i = st.own.length
        · subst hi; rw [pushF_self] at h; exact .inr (Nat.le_of_eq h.symm)
        · rw [pushF_ne i hi] at h; exact .inl h
      · rw [pushF_ne i (by rintro rfl; exact hI.low _ (Nat.le_refl _) q h)]; exact h
      · exact .vw _ _ 0 _ none _ _ (by simp [Ev.push, hI.en]) (by simp [Ev.push, hI.en]) (by simp [Ev.push, hI.en]) (by simp [Ev.push, hI.en]) (Nat.le_refl _) (by simp [Ev.push, hI.en]) (by simp [Ev.push, hI.en]) (.inl (by simp [Ev.push, hI.en]))
/-- A place in it: a pointer to the struct's cell. -/
theorem OpEv.idxSt {B : Base} {P : Program} {TE : TEnv} (hE : TOk P TE) {o : Oper} {t e : TypeId} {x ix : Operand} {ti te : TI} (ho : o.op = .indexAddr t x ix) (hti : TE.get t = some ti) (hkd : ti.kd = .slice e) (hte : TE.get e = some te) (hsz : te.size = 1)
    {X : Nat → Bool} {st : St} {k : V → St → Prop} {kk : IntKind} {r n : Nat} {cap : Option Nat} (j : Nat) (hx : ev st.fr x = some (.vw r 1 0 n cap)) (hix : ev st.fr ix = some (.p (.int kk j))) (hj : j < n) (hk : k (.own r j) st) : OpEv B P o X st k := by
  intro E F a w hI
  obtain ⟨inf, d, his⟩ := hE.get hti
  obtain ⟨inf', d', his'⟩ := hE.get hte
  have := kd_slice his hkd; subst this
  have hax := hI.ev hx
  generalize hg : a.eval x = ax at hax
  cases hax with
  | vwn _ _ _ ad hin hnl hz hc => omega
  | vw _ _ _ _ _ ad c hin hnl hc hk' hl hx' hz ha =>
    have ha : ad = ⟨E.ρ r, 0, none⟩ := by rcases ha with ha | ha
                                          · simpa using ha
                                          · omega
    have hcond : (0 : Int) ≤ (j : Int) ∧ (j : Int) < (n : Int) := ⟨by omega, by omega⟩
    refine resOf_value (x := .pointer (some ⟨E.ρ r, j, none⟩)) (w' := w) ?_ ⟨.own r j, st, E, F, rfl, .own r j hin, hI, Prot.refl _ _, fun _ _ h => h, hk⟩
    have he : execOp a.eval o = (do pure (.value (← Instr.indexAt t (a.eval x) (a.eval ix)))) := by simp only [execOp, ho]
    rw [he]
    refine Sx.run_v ?_
    rw [hg, (hI.ev hix).int_inv]
    simp only [Instr.indexAt, run_underlying his.und, asIntOf, Sem.run_bind, Sem.run_pure, Result.andThen_ok, hcond, and_self, if_true, Sx.Is.run_sizeOf his', Int.toNat_natCast]
    rw [ha, Sx.addr_add, hsz]
    simp
end Go.Lx
