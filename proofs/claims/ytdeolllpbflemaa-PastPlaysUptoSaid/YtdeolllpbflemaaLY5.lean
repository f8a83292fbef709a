/- A calculus of logical values, part 35: an append that grows, with all of the new row known, its spare places too. No conditions. -/
import Derived.Test.YtdeolllpbflemaaLY4
set_option linter.unusedSimpArgs false
set_option linter.unusedVariables false
namespace Go.Lx
open Go
open Go.Sx (NP Keeps Hp Keep0 TI TEnv TOk Kd resOf)

theorem grow_full {P : Program} {TE : TEnv} (hE : TOk P TE) {B : Base} {st : St} {E : Ev} {F : Nat → NP} {a : Act} {w : World} (hI : Inv B st E F a w) {t u e : TypeId} {s x : Operand} {ti ui te : TI} (hti : TE.get t = some ti) (hkd : ti.kd = .slice e) (hte : TE.get e = some te) (hui : TE.get u = some ui)
    {v : V} {q : Sq} {ys : List PV} (hx : ev st.fr x = some v) (hq : apSrc ui.kd st.own v = some q) (hqg : q.get = ys) {z : List V} {y : PV} (hz : zeroV te = some z) (hzl : z.length = te.size) (hy : elemV te.agg z = some y) (hyw : y.wf te.size) (hsz : 0 < te.size) (ty : TypeId)
    {b : Option Addr} {sLen sCap : Nat} {olds : List Value} {xs : List PV} (hb : a.eval s = .slice b sLen sCap) (hold : ∀ w', w'.heap = w.heap → (Builtin.firstCells te.size sLen (.slice b sLen sCap)).run P w' = .ok olds.toArray w') (hol : olds.length = (flat xs).length) (hxl : xs.length = sLen) (hxw : Wf te.size xs)
    (hxd : ∀ (j : Nat) (q : PV) (z : Value), (flat xs)[j]? = some q → olds[j]? = some z → PV.Den ⟨nowM B F, w⟩ q z) (hw : Wf te.size ys) (hg : sCap < sLen + ys.length) (h63 : sLen + ys.length ≤ maxLen) (hfit : Builtin.nextslicecap (sLen + ys.length) sCap * te.bytes ≤ 281474976710656) :
    ∃ κ w', (Builtin.append_ #[t, u] ty #[a.eval s, a.eval x]).run P w = .ok (.slice (some ⟨w.heap.size, 0, none⟩) (sLen + ys.length) κ) w' ∧ Keep0 w w' ∧ sLen + ys.length ≤ κ ∧ κ ≤ maxLen ∧ w'.heap.size = w.heap.size + 1 ∧
      ∀ M, Hp.Le ⟨nowM B F, w⟩ ⟨M, w'⟩ → ArrAt ⟨M, w'⟩ w.heap.size κ e te.size (xs ++ (ys ++ List.replicate (κ - (sLen + ys.length)) y)) := by
  obtain ⟨inf, d, his⟩ := hE.get hti
  have := kd_slice his hkd; subst this
  obtain ⟨inf', d', his'⟩ := hE.get hte
  obtain ⟨zv, hz1, hz2, hz3⟩ := zero_size his' hz
  have hcs : zv.cells.size = te.size := by rw [← hz3, hzl]
  obtain ⟨⟨du, hdu1, hdu2⟩, hl, news, hn1, hn2, hn3⟩ := apSrc_ok (P := P) hE hui hI (hI.ev hx) hq hqg hw
  have h63' : ((sLen + ys.length : Nat) : Int) ≤ 9223372036854775807 := by unfold maxLen at h63; omega
  have hr := run_append_growG (P := P) w t u ty e inf' zv du his.und hdu1 hdu2 his'.info hz1 b sLen sCap ys.length (a.eval x) olds news (hl w) (by rw [← his'.size]; exact hold _ rfl) (by rw [← his'.size]; exact hn2 _ rfl) hg h63' (by rw [← his'.bytes]; exact hfit)
  have hge := grownCap_ge w (sLen + ys.length) sCap e
  have hmx := grownCap_le_maxLen w (sLen + ys.length) sCap e h63
  refine ⟨_, _, by rw [hb]; exact hr, Keep0.drewAlloc _ _, hge, hmx, by show (w.heap.push _).size = w.heap.size + 1; simp, fun M hle => ?_⟩
  obtain ⟨κ, hκ⟩ : ∃ κ, κ = grownCap w (sLen + ys.length) sCap e := ⟨_, rfl⟩
  rw [← hκ] at hge hmx hle ⊢
  have hwr : Wf te.size (List.replicate (κ - (sLen + ys.length)) y) := fun x hx => by rw [List.eq_of_mem_replicate hx]; exact hyw
  have hlr : (flat (List.replicate (κ - (sLen + ys.length)) y)).length = (κ - (sLen + ys.length)) * te.size := by rw [flat_length hwr]; simp
  have hcl : (Builtin.zeroCells zv.cells (κ - (sLen + ys.length))).toList.length = (κ - (sLen + ys.length)) * te.size := by rw [Array.length_toList, size_zeroCells, hcs]
  have hyc := fun H => elemV_den (H := H) (E := E) hz hy hyw hz2
  have hlen : (xs ++ (ys ++ List.replicate (κ - (sLen + ys.length)) y)).length = κ := by simp; omega
  have hwa : Wf te.size (xs ++ (ys ++ List.replicate (κ - (sLen + ys.length)) y)) := Wf.append hxw (Wf.append hw hwr)
  have hfl := flat_length hwa
  rw [hlen] at hfl
  have hcc : (olds ++ news ++ (Builtin.zeroCells zv.cells (κ - (sLen + ys.length))).toList).length = (flat (xs ++ (ys ++ List.replicate (κ - (sLen + ys.length)) y))).length := by
    rw [flat_append, flat_append]
    simp only [List.length_append, hol, hn1, hcl, hlr]; omega
  refine ArrAt.ofNew (cells := olds ++ news ++ (Builtin.zeroCells zv.cells (κ - (sLen + ys.length))).toList) (rest := []) (by rw [List.append_nil]; exact heap_alloc_new w.drew _) (by rw [hlen]; exact Nat.le_refl _) hmx (by rw [List.append_nil, hcc, hfl]; exact Nat.le_refl _) hcc fun j q z hq hz => ?_
  rw [flat_append, flat_append] at hq
  rw [List.append_assoc] at hz
  by_cases hj : j < (flat xs).length
  · rw [List.getElem?_append_left hj] at hq
    rw [List.getElem?_append_left (by omega)] at hz
    exact (hxd j q z hq hz).mono hle
  · rw [List.getElem?_append_right (by omega)] at hq
    rw [List.getElem?_append_right (by omega), hol] at hz
    obtain ⟨i, hi⟩ : ∃ i, i = j - (flat xs).length := ⟨_, rfl⟩
    rw [← hi] at hq hz
    by_cases hj2 : i < (flat ys).length
    · rw [List.getElem?_append_left hj2] at hq
      rw [List.getElem?_append_left (by omega)] at hz
      exact (hn3 _ q z hq hz).mono hle
    · rw [List.getElem?_append_right (by omega)] at hq
      rw [List.getElem?_append_right (by omega), hn1] at hz
      obtain ⟨l, hl⟩ : ∃ l, l = i - (flat ys).length := ⟨_, rfl⟩
      rw [← hl] at hq hz
      have hlt : l < (κ - (sLen + ys.length)) * te.size := by rw [← hlr]; exact lt_of_some hq
      have hq' := flat_rep hyw.1 hsz _ l q hq
      have hlm : l % te.size < te.size := Nat.mod_lt _ hsz
      refine hyc _ _ q z hq' ?_
      have e1 : (Builtin.zeroCells zv.cells (κ - (sLen + ys.length))).toList[l]? = some zv.cells[l % zv.cells.size]! := by
        simp [Builtin.zeroCells, hcs, hlt]
      rw [e1] at hz
      cases hz
      rw [hcs]
      have : l % te.size < zv.cells.size := by omega
      simp [this]

/-- a new row, and its view with the row's whole length as capacity -/
theorem Post.newFull {B : Base} {st : St} {E : Ev} {F : Nat → NP} {a : Act} {w w' : World} {X : Nat → Bool} (hI : Inv B st E F a w) (hk : Keep0 w w') {T : TypeId} {sz : Nat} {xs : List PV} {κ n : Nat} (hsz : 0 < sz) (hw : Wf sz xs) (hn : n ≤ xs.length) (hx : xs.length = κ)
    (h : ∀ M, Hp.Le ⟨nowM B F, w⟩ ⟨M, w'⟩ → ArrAt ⟨M, w'⟩ w.heap.size κ T sz xs) {k : V → List Res → (V → V) → Prop} (hkk : k (.vw st.own.length sz 0 n (some κ)) (st.own ++ [.arr T sz xs]) fun v => v) :
    Post B st F a w X k (.slice (some ⟨w.heap.size, 0, none⟩) n κ) w' := by
  have hle : ∀ M, (∀ k, M k → nowM B F k ∨ w.heap.size ≤ k) → Hp.Le ⟨nowM B F, w⟩ ⟨M, w'⟩ := fun M hM =>
    ⟨hk.os, hk.tape, hk.output, hk.size, fun b hb hm => ⟨hk.block b hb.lt fun c => c, fun c => by
      rcases hM b c with c | c
      · exact hm c
      · have : b < w.heap.size := hb.lt
        omega⟩⟩
  have hI' := hI.newArr (T := T) (xs := xs) hk (Nat.le_refl _) hsz hw fun M hM => h M (hle M hM)
  refine Post.of (f := fun v => v) hI (by rw [frMap_id]; exact hI') (keepsNone hk) (fun i q h => ?_) (fun i q _ h => ?_) ?_ hkk
  · by_cases hi : i = st.own.length
    · subst hi; rw [pushF_self] at h; exact .inr (Nat.le_of_eq h.symm)
    · rw [pushF_ne i hi] at h; exact .inl h
  · rw [pushF_ne i (by rintro rfl; exact hI.low _ (Nat.le_refl _) q h)]; exact h
  · refine .vw _ _ 0 _ (some κ) _ _ (by simp [Ev.push, hI.en]) (by simp [Ev.push, hI.en]) ?_ ?_ (by omega) (by simp [Ev.push, hI.en]; omega) (by simp [Ev.push, hI.en]) (.inl ?_)
    · simp
    · simp [Ev.push, hI.en]
    · simp [Ev.push, hI.en]

/-- append onto nil -/
theorem OpEv.appendFull0 {B : Base} {P : Program} {TE : TEnv} (hE : TOk P TE) {o : Oper} {t u e : TypeId} {s x : Operand} {ti ui te : TI} (ho : o.op = .call { callee := .builtin .append, args := #[s, x], argTypes := #[t, u] })
    (hti : TE.get t = some ti) (hkd : ti.kd = .slice e) (hte : TE.get e = some te) (hui : TE.get u = some ui) {X : Nat → Bool} {st : St} {k : V → St → Prop} {v : V} {q : Sq} {ys : List PV}
    (hs : ev st.fr s = some (.p .nils)) (hx : ev st.fr x = some v) (hq : apSrc ui.kd st.own v = some q) (hqg : q.get = ys) {z : List V} {y : PV} (hz : zeroV te = some z) (hzl : z.length = te.size) (hy : elemV te.agg z = some y) (hyw : y.wf te.size) (hsz : 0 < te.size)
    (hw : Wf te.size ys) (hpos : 0 < ys.length) (h63 : ys.length ≤ maxLen) (h48 : ys.length * te.bytes ≤ 281474976710656)
    (hk : ∀ K n zs, n = ys.length → n ≤ K → K ≤ maxLen → zs = ys ++ List.replicate (K - n) y → k (.vw st.own.length te.size 0 n (some K)) ⟨st.n, st.fr, st.own ++ [.arr e te.size zs]⟩) : OpEv B P o X st k := by
  intro E F a w hI
  have hb := (hI.ev hs).nils_inv
  obtain ⟨κ, w', hr, hk0, hκ, hmx, hws, harr⟩ := grow_full hE hI hti hkd hte hui hx hq hqg hz hzl hy hyw hsz o.type (xs := []) (olds := []) hb (fun w' _ => by simp [Builtin.firstCells, loadCells, loadCellsFrom]) rfl rfl Wf.nil (fun j q z h => by simp [flat] at h) hw (by omega) (by omega)
    (by rw [Nat.zero_add, nextslicecap_zero hpos]; exact h48)
  rw [Nat.zero_add] at hr hκ harr
  obtain ⟨zs, hzs⟩ : ∃ zs, zs = ys ++ List.replicate (κ - ys.length) y := ⟨_, rfl⟩
  refine resOf_value (x := .slice (some ⟨w.heap.size, 0, none⟩) ys.length κ) (w' := w') (by simp only [execOp, ho, resolve, invoke, Go.builtin, Sem.run_bind, Sem.run_pure, Result.andThen_ok, List.map_toArray, List.map_cons, List.map_nil, hr]) ?_
  have hzl2 : zs.length = κ := by rw [hzs]; simp; omega
  have hwz : Wf te.size zs := by rw [hzs]; exact Wf.append hw (fun x hx => by rw [List.eq_of_mem_replicate hx]; exact hyw)
  refine (Post.newFull (k := fun v own f => k v ⟨st.n, frMap f st.fr, own⟩) (X := X) hI hk0 (T := e) (xs := zs) (n := ys.length) hsz hwz (by omega) hzl2 (fun M hM => ?_) ?_).s
  · have := harr M hM
    rw [List.nil_append, ← hzs] at this; exact this
  · simp only [frMap_id]
    exact hk κ ys.length zs rfl hκ hmx hzs

/-- what a view holds, whatever its capacity -/
theorem view_cells {P : Program} {B : Base} {st : St} {E : Ev} {F : Nat → NP} {a : Act} {w : World} (hI : Inv B st E F a w) {r sz off n : Nat} {cap : Option Nat} {T : TypeId} {xs : List PV} {sv : Value} (has : V.Den ⟨nowM B F, w⟩ E (.vw r sz off n cap) sv) (hr : st.own[r]? = some (.arr T sz xs)) :
    ∃ (ad : Option Addr) (c : Nat) (olds : List Value), sv = .slice ad n c ∧ n ≤ c ∧ (∀ w', w'.heap = w.heap → (Builtin.firstCells sz n (.slice ad n c)).run P w' = .ok olds.toArray w') ∧ olds.length = (flat ((xs.drop off).take n)).length ∧ ((xs.drop off).take n).length = n ∧
      (∀ (j : Nat) (q : PV) (z : Value), (flat ((xs.drop off).take n))[j]? = some q → olds[j]? = some z → PV.Den ⟨nowM B F, w⟩ q z) := by
  obtain ⟨hs0, hwf, hlen, hez, hrow⟩ := hI.held r _ hr
  have hsn : seen (fun _ => false) st.own (.vw r sz off n cap) = some (.c xs off n) := by simp [seen, hr]
  obtain ⟨ad, c, e1, e2, e3, e4, _⟩ := seen_ok hI has hsn (xs := (xs.drop off).take n) rfl
  have hln : ((xs.drop off).take n).length = n := by
    have : ∃ ad c, sv = .slice ad n c := by
      obtain ⟨_, _, ⟨_, _, h0, _, a, h⟩ | ⟨_, a, c, h, _⟩⟩ := has.vw_inv
      · exact ⟨a, 0, by rw [h, h0]⟩
      · exact ⟨_, _, h⟩
    obtain ⟨_, _, e5⟩ := this
    rw [e5] at e1; injection e1 with _ e6 _; exact e6.symm
  rw [hln] at e1 e4
  cases ad with
  | none =>
    obtain ⟨e5, e6⟩ := e2 rfl
    exact ⟨none, c, [], e1, e4, fun w' _ => by simp [Builtin.firstCells], by rw [e5]; rfl, hln, fun j q z h => by rw [e5] at h; simp [flat] at h⟩
  | some ad =>
    obtain ⟨vs, g1, g2, g3⟩ := e3.cells
    refine ⟨some ad, c, vs, e1, e4, fun w' hw' => run_firstCells_some w' sz n ad n c vs (by rw [g1, flat_length hwf.drop.take, hln]) fun j z hz => ?_, g1, hln, g3⟩
    have := g2 w (Prot.refl _ _) j z hz
    unfold World.cell? at this ⊢
    rw [hw']; exact this

/-- append that has no room in a row of known capacity: a new row; the old one stays -/
theorem OpEv.appendFull {B : Base} {P : Program} {TE : TEnv} (hE : TOk P TE) {o : Oper} {t u e : TypeId} {s x : Operand} {ti ui te : TI} (ho : o.op = .call { callee := .builtin .append, args := #[s, x], argTypes := #[t, u] })
    (hti : TE.get t = some ti) (hkd : ti.kd = .slice e) (hte : TE.get e = some te) (hui : TE.get u = some ui) {X : Nat → Bool} {st : St} {k : V → St → Prop} {v : V} {q : Sq} {ys : List PV} {j off n K : Nat} {xs : List PV} {T : TypeId}
    (hs : ev st.fr s = some (.vw j te.size off n (some K))) (hj : st.own[j]? = some (.arr T te.size xs)) (hx : ev st.fr x = some v) (hq : apSrc ui.kd st.own v = some q) (hqg : q.get = ys) {z : List V} {y : PV} (hz : zeroV te = some z) (hzl : z.length = te.size) (hy : elemV te.agg z = some y) (hyw : y.wf te.size) (hsz : 0 < te.size)
    (hw : Wf te.size ys) (hg : K < off + n + ys.length) (h63 : n + ys.length ≤ maxLen) (h47 : (n + ys.length) * te.bytes ≤ 140737488355328)
    (hk : ∀ K' n' zs, n' = n + ys.length → n' ≤ K' → K' ≤ maxLen → zs = (xs.drop off).take n ++ (ys ++ List.replicate (K' - n') y) → k (.vw st.own.length te.size 0 n' (some K')) ⟨st.n, st.fr, st.own ++ [.arr e te.size zs]⟩) : OpEv B P o X st k := by
  intro E F a w hI
  have has := hI.ev hs
  obtain ⟨_, hwf, _⟩ := hI.held j _ hj
  obtain ⟨ad, c, olds, hb, hnc, hold, hol, hln, hod⟩ := view_cells (P := P) hI has hj
  have hcK : off + c = K := by
    rw [hb] at has
    cases has with
    | vwn _ _ _ _ _ _ _ hc => simpa using hc.symm
    | vw _ _ _ _ _ _ _ _ _ hc => exact hc
  have hgg : c < n + ys.length := by omega
  obtain ⟨κ, w', hr, hk0, hκ, hmx, hws, harr⟩ := grow_full hE hI hti hkd hte hui hx hq hqg hz hzl hy hyw hsz o.type hb hold hol hln hwf.drop.take hod hw hgg h63 (growslice_fits hgg h47)
  obtain ⟨zs, hzs⟩ : ∃ zs, zs = (xs.drop off).take n ++ (ys ++ List.replicate (κ - (n + ys.length)) y) := ⟨_, rfl⟩
  refine resOf_value (x := .slice (some ⟨w.heap.size, 0, none⟩) (n + ys.length) κ) (w' := w') (by simp only [execOp, ho, resolve, invoke, Go.builtin, Sem.run_bind, Sem.run_pure, Result.andThen_ok, List.map_toArray, List.map_cons, List.map_nil, hr]) ?_
  have hzl2 : zs.length = κ := by rw [hzs, List.length_append, hln]; simp; omega
  have hwz : Wf te.size zs := by rw [hzs]; exact Wf.append hwf.drop.take (Wf.append hw (fun x hx => by rw [List.eq_of_mem_replicate hx]; exact hyw))
  refine (Post.newFull (k := fun v own f => k v ⟨st.n, frMap f st.fr, own⟩) (X := X) hI hk0 (T := e) (xs := zs) (n := n + ys.length) hsz hwz (by omega) hzl2 (fun M hM => ?_) ?_).s
  · have := harr M hM
    rw [← hzs] at this; exact this
  · simp only [frMap_id]
    exact hk κ (n + ys.length) zs rfl hκ hmx hzs

/-- cap of a view whose capacity is known -/
theorem OpEv.capOf {B : Base} {P : Program} {TE : TEnv} (hE : TOk P TE) {o : Oper} {t e : TypeId} {s : Operand} {ti : TI} (ho : o.op = .call { callee := .builtin .cap, args := #[s], argTypes := #[t] })
    (hti : TE.get t = some ti) (hkd : ti.kd = .slice e) {X : Nat → Bool} {st : St} {k : V → St → Prop} {j sz off n K : Nat} (hs : ev st.fr s = some (.vw j sz off n (some K)))
    (hk : ∀ c, off + c = K → k (.p (.int .i64 (Int.ofNat c))) st) : OpEv B P o X st k := by
  intro E F a w hI
  obtain ⟨inf, d, his⟩ := hE.get hti
  have := kd_slice his hkd; subst this
  have has := hI.ev hs
  obtain ⟨ad, c, hv, hcK⟩ : ∃ ad c, a.eval s = .slice ad n c ∧ off + c = K := by
    generalize a.eval s = sv at has
    cases has with
    | vwn _ _ _ a _ _ _ hc => exact ⟨a, 0, rfl, by simpa using hc.symm⟩
    | vw _ _ _ _ _ a c _ _ hc => exact ⟨some a, c, rfl, hc⟩
  refine resOf_value (x := goInt c) (w' := w) (by simp only [execOp, ho, resolve, invoke, Go.builtin, Sem.run_bind, Sem.run_pure, Result.andThen_ok, List.map_toArray, List.map_cons, List.map_nil, hv]; simp [Builtin.cap_, run_underlying his.und]) ?_
  exact (Post.of (k := fun v own f => k v ⟨st.n, frMap f st.fr, own⟩) (f := fun v => v) hI (by rw [frMap_id]; exact hI) (keepsNone (Keeps.refl _ w)) (fun i q h => .inl h) (fun i q _ h => h) V.Den.int (by rw [frMap_id]; exact hk c hcK)).s

/-- append in its place, in a row of known capacity -/
theorem OpEv.appendIn {B : Base} {P : Program} {TE : TEnv} (hE : TOk P TE) {o : Oper} {t u e : TypeId} {s x : Operand} {ti ui te : TI} (ho : o.op = .call { callee := .builtin .append, args := #[s, x], argTypes := #[t, u] })
    (hti : TE.get t = some ti) (hkd : ti.kd = .slice e) (hte : TE.get e = some te) (hui : TE.get u = some ui) {X : Nat → Bool} {st : St} {k : V → St → Prop} {v : V} {q : Sq} {ys : List PV} {j off n K : Nat} {xs : List PV}
    (hs : ev st.fr s = some (.vw j te.size off n (some K))) (hj : st.own[j]? = some (.arr e te.size xs)) (hX : X j = true) (hx : ev st.fr x = some v) (hq : apSrc ui.kd st.own v = some q) (hqg : q.get = ys)
    (hw : Wf te.size ys) (hg : off + n + ys.length ≤ K) (hK : K ≤ xs.length)
    (hk : ∀ n' zs, n' = n + ys.length → zs = xs.take (off + n) ++ (ys ++ xs.drop (off + n + ys.length)) → k (.vw j te.size off n' (some K)) ⟨st.n, st.fr, st.own.set j (.arr e te.size zs)⟩) : OpEv B P o X st k := by
  intro E F a w hI
  have has := hI.ev hs
  obtain ⟨inf, d, his⟩ := hE.get hti
  have := kd_slice his hkd; subst this
  obtain ⟨inf', d', his'⟩ := hE.get hte
  obtain ⟨hs0, hwf, hlen, hez, hrow⟩ := hI.held j _ hj
  have hjl := lt_of_some hj
  have hnpr : ∀ T c, st.own[j]? ≠ some (.st T c) := fun T c h => by rw [hj] at h; cases h
  obtain ⟨⟨du, hdu1, hdu2⟩, hl, news, hn1, hn2, hn3⟩ := apSrc_ok (P := P) hE hui hI (hI.ev hx) hq hqg hw
  obtain ⟨zs, hzs⟩ : ∃ zs, zs = xs.take (off + n) ++ (ys ++ xs.drop (off + n + ys.length)) := ⟨_, rfl⟩
  replace hk := hk _ zs rfl hzs
  have run : ∀ {x' : Value} {w' : World}, (Builtin.append_ #[t, u] o.type #[a.eval s, a.eval x]).run P w = .ok x' w' → (execOp a.eval o).run P w = .ok (.value x') w' := by
    intro x' w' hr
    simp only [execOp, ho, resolve, invoke, Go.builtin, Sem.run_bind, Sem.run_pure, Result.andThen_ok, List.map_toArray, List.map_cons, List.map_nil, hr]
  generalize hgs : a.eval s = sv at has run
  have hin : j < E.n := by rw [hI.en]; exact hjl
  cases has with
  | vwn _ _ _ ad h hnl hzE hc =>
    have hK0 : K = 0 := by simpa using hc
    subst hK0
    have hys0 : ys = [] := List.eq_nil_of_length_eq_zero (by omega)
    subst hys0
    have hn0 : news = [] := List.eq_nil_of_length_eq_zero (by rw [hn1]; rfl)
    subst hn0
    have hr0 := run_append_none (P := P) w t u o.type e inf' du his.und hdu1 hdu2 his'.info ad (a.eval x) (hl w) (by rw [← his'.size]; exact hn2 w rfl)
    refine resOf_value (run hr0) ?_
    have hzx : zs = xs := by rw [hzs]; simp
    have hset : st.own.set j (.arr e te.size zs) = st.own := by
      rw [hzx]
      obtain ⟨hlt, hee⟩ := List.getElem?_eq_some_iff.1 hj
      rw [← hee]; exact List.set_getElem_self hlt
    rw [hset] at hk
    exact (Post.of (k := fun v own f => k v ⟨st.n, frMap f st.fr, own⟩) (f := fun v => v) hI (by rw [frMap_id]; exact hI) (keepsNone (Keeps.refl _ w)) (fun i q h => .inl h) (fun i q _ h => h) (.vwn _ _ (some 0) _ h hnl hzE hc) (by rw [frMap_id]; exact hk)).s
  | vw _ _ _ _ _ g c h hnl hc hkk hln hxx hzE ha =>
    have hcK : off + c = K := hc
    rcases hrow with ⟨h1, _, _⟩ | ⟨_, hF, hl1, hl2, cc, hcc, hcs', val, hval⟩
    · rw [hnl] at h1; cases h1
    have hroom : n + ys.length ≤ c := by omega
    have hxl : off + n ≤ xs.length := by omega
    have hpm : (off + n) * te.size + news.length ≤ E.κ j * te.size := by
      rw [hn1, flat_length hw, ← Nat.add_mul]; exact Nat.mul_le_mul_right _ (by omega)
    have hone : ∀ z ∈ news, z.oneCell' = true := by
      intro z hz
      obtain ⟨i, hi, rfl⟩ := List.mem_iff_getElem.1 hz
      have hil : i < (flat ys).length := by rw [← hn1]; exact hi
      exact ((hn3 i _ _ (List.getElem?_eq_getElem hil) (List.getElem?_eq_getElem hi)).one (flat_one hw _ (List.getElem_mem hil))).1
    have hst := run_storeCells_at P (E.ρ j) ((off + n) * te.size) e news 0 cc w hcc (by rw [Nat.add_zero]; omega) hone
    rw [Nat.add_zero] at hst
    have hst' : (storeCells (g.add (n * inf'.size)) news).run P w = .ok () (w.setRow (E.ρ j) (cc.toList.take ((off + n) * te.size) ++ news ++ cc.toList.drop ((off + n) * te.size + news.length)).toArray) := by
      rcases ha with rfl | rfl
      · rw [Sx.addr_add, ← his'.size, ← Nat.add_mul]; exact hst
      · have hys0 : ys = [] := List.eq_nil_of_length_eq_zero (by omega)
        subst hys0
        have hn0 : news = [] := List.eq_nil_of_length_eq_zero (by rw [hn1]; rfl)
        subst hn0
        simp only [storeCells, List.append_nil, List.length_nil, Nat.add_zero, List.take_append_drop, Array.toArray_toList]
        rw [setRow_self w (E.ρ j) cc e (0, 0) hcc]; rfl
    have hr2 := run_append_roomG (P := P) w t u o.type e inf' du his.und hdu1 hdu2 his'.info g n c ys.length (a.eval x) news (hl w) (by rw [← his'.size]; exact hn2 w rfl) hroom hst'
    refine resOf_value (run hr2) ?_
    obtain ⟨w', hw'⟩ : ∃ w', w' = w.setRow (E.ρ j) (cc.toList.take ((off + n) * te.size) ++ news ++ cc.toList.drop ((off + n) * te.size + news.length)).toArray := ⟨_, rfl⟩
    have hkeep : Keeps (F j) w w' := by rw [hw']; exact ⟨by simp, by simp, by simp, by simp, fun b hb hn => setRow_other w _ b _ fun e => hn ((hF b).2 e)⟩
    have hset := setRow_heap w (E.ρ j) cc (cc.toList.take ((off + n) * te.size) ++ news ++ cc.toList.drop ((off + n) * te.size + news.length)).toArray e (0, 0) hcc
    rw [← hw'] at hset ⊢
    have hle := hI.le (F' := F) (touch hkeep) (fun i q h => .inl h)
    have hlen' : zs.length = xs.length := by rw [hzs]; simp; omega
    have harr : ArrAt ⟨nowM B F, w'⟩ (E.ρ j) (E.κ j) e te.size zs :=
      ArrAt.write hcs' hval (p := (off + n) * te.size) (us := flat ys) (vs := news) hn1 hn3 (by rw [flat_length hwf]; exact Nat.mul_le_mul_right _ hxl) (by rw [← hn1]; exact hpm) (by rw [hzs, flat_append, flat_append, flat_take hwf, flat_drop hwf, flat_length hw, ← Nat.add_mul, List.append_assoc]) (by omega) hl2 hle hset
    have hwz : Wf te.size zs := by rw [hzs]; exact Wf.append hwf.take (Wf.append hw hwf.drop)
    have hI' := hI.set1 hjl hkeep (r := .arr e te.size zs) ⟨hs0, hwz, by rw [hlen']; exact hlen, hez, .inr ⟨hnl, hF, harr⟩⟩ (fun T c h => (hnpr T c h).elim)
    refine (Post.of (k := fun v own f => k v ⟨st.n, frMap f st.fr, own⟩) (f := fun v => v) hI (by rw [frMap_id]; exact hI') (hkeep.mono fun b _ c => ⟨j, hX, c⟩) (fun i q h => .inl h) (fun i q _ h => h) (v := .vw j te.size off (n + ys.length) (some K)) ?_ (by rw [frMap_id]; exact hk)).s
    exact .vw _ _ off _ (some K) g c h hnl hc hkk hroom (by omega) hzE ha
end Go.Lx
