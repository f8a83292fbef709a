/- LY4, LY5, LY6, LY7, LY8 together. Conditions: on sizes. -/
import Derived.Test.YtegkojnngdlfaaaGreatLEnv
import Derived.Laws.CopyRow
import Derived.Lib.AppendZeros
import Derived.Lib.Overlaps
set_option linter.unusedSimpArgs false
set_option linter.unusedVariables false
namespace Go.Lx
section
open Go
open Go.Sx (NP Keeps Hp Keep0 TI TEnv TOk Kd resOf)
theorem elemV_den {te : TI} {z : List V} {y : PV} {sz : Nat} (hz : zeroV te = some z) (hy : elemV te.agg z = some y) (hyw : y.wf sz) {zv : Value} (hz2 : te.zero = some zv.cells.toList) {H : Hp} {E : Ev} :
    ∀ (j : Nat) (u : PV) (v : Value), y.cells[j]? = some u → zv.cells.toList[j]? = some v → PV.Den H u v := by
  obtain ⟨zl', hz4, hz5⟩ := zeroV_den (H := H) (E := E) hz
  rw [hz2] at hz4; cases hz4
  unfold elemV at hy
  split at hy
  · rename_i pl hpl
    rw [plains_eq hpl] at hz5
    obtain ⟨_, g2⟩ := hz5.plain
    split at hy
    · cases hy; exact g2
    · rename_i x _
      cases hy
      intro j u v hu hv
      have hx1 : y.cells = [y] := by
        have := hyw.1
        cases y with
        | agg cs =>
          have h1 := plains_eq hpl
          have : zv.cells.toList.length = 1 := by rw [hz5.1]; rfl
          have hd := g2 0 (.agg cs) zv.cells.toList[0] rfl (by simp [List.getElem?_eq_getElem, this])
          exfalso
          unfold zeroV at hz
          rw [hz2] at hz
          split at hz
          · rename_i zz hzz
            cases hzz
            split at hz
            · rename_i l' hl'
              cases hz
              rw [mapP_eq] at h1
              have h2 : l' = [.agg cs] := by
                have := congrArg (List.map fun v => match v with | V.p x => x | _ => PV.nils) h1
                simpa [Function.comp_def] using this
              have := pvs_one hl' (.agg cs) (by rw [h2]; simp)
              cases this
            · cases hz
          · cases hz
        | _ => rfl
      rw [hx1] at hu
      exact g2 j u v hu hv
    · cases hy
  · cases hy
theorem run_clearG {P : Program} (w : World) (t ty elem : TypeId) {i : TypeInfo} {zv : Value} (ad : Option Addr) (n c : Nat) {w' : World}
    (hu : P.underlying t = some (.slice elem)) (hi : P.info? elem = some i) (hz : i.zero = some zv)
    (hs : ∀ a, ad = some a → 0 < n → (storeCells a (Builtin.zeroCells zv.cells n).toList).run P w = .ok () w') (hn : ad = none ∨ n = 0 → w' = w) :
    (Builtin.clear_ #[t] ty #[.slice ad n c]).run P w = .ok (.tuple #[]) w' := by
  cases ad with
  | none =>
    have := hn (.inl rfl); subst this
    cases n <;> simp [Builtin.clear_, run_underlying hu]
  | some a =>
    cases n with
    | zero => have := hn (.inr rfl); subst this; simp [Builtin.clear_, run_underlying hu]
    | succ n => simp [Builtin.clear_, run_underlying hu, zeroValue, typeInfo, hi, hz, hs a rfl (by omega)]
theorem OpEv.clear {B : Base} {P : Program} {TE : TEnv} (hE : TOk P TE) {o : Oper} {t e : TypeId} {d : Operand} {td te : TI} (ho : o.op = .call { callee := .builtin .clear, args := #[d], argTypes := #[t] })
    (htd : TE.get t = some td) (hkd : td.kd = .slice e) (hte : TE.get e = some te) {X : Nat → Bool} {st : St} {k : V → St → Prop} {j off n : Nat} {cap : Option Nat} {T : TypeId} {xs : List PV} {z : List V} {y : PV}
    (hz : zeroV te = some z) (hzl : z.length = te.size) (hy : elemV te.agg z = some y) (hyw : y.wf te.size)
    (hd : ev st.fr d = some (.vw j te.size off n cap)) (hj : st.own[j]? = some (.arr T te.size xs)) (hX : X j = true)
    (hk : ∀ zs, zs = xs.take off ++ (List.replicate n y ++ xs.drop (off + n)) → k (.tup []) ⟨st.n, st.fr, st.own.set j (.arr T te.size zs)⟩) : OpEv B P o X st k := by
  intro E F a w hI
  obtain ⟨i1, d1, h1⟩ := hE.get htd
  obtain ⟨i2, d2, h2⟩ := hE.get hte
  have hd1 := kd_slice h1 hkd
  subst hd1
  have hjl := lt_of_some hj
  obtain ⟨g0, g1, g2, g3, g4⟩ := hI.held j _ hj
  obtain ⟨zv, hz1, hz2, hz3⟩ := zero_size h2 hz
  obtain ⟨zs, hzs⟩ : ∃ zs, zs = xs.take off ++ (List.replicate n y ++ xs.drop (off + n)) := ⟨_, rfl⟩
  replace hk := hk zs hzs
  have hv := hI.ev hd
  have run : ∀ {vs : Value} {w' : World}, a.eval d = vs → (Builtin.clear_ #[t] o.type #[vs]).run P w = .ok (.tuple #[]) w' → (execOp a.eval o).run P w = .ok (.value (.tuple #[])) w' := by
    intro vs w' hvs hr
    rw [← hvs] at hr
    simp only [execOp, ho, resolve, invoke, Go.builtin, Sem.run_bind, Sem.run_pure, Result.andThen_ok, List.map_toArray, List.map_cons, List.map_nil, hr]
  generalize hvv : a.eval d = vv at hv
  have htup : ∀ {H : Hp} {E : Ev}, V.Den H E (.tup []) (.tuple #[]) := .tup _ _ rfl fun i c v hc _ => by simp at hc
  have zero : n = 0 → ∀ {da : Option Addr} {dl dc : Nat}, vv = .slice da dl dc → dl = n → resOf P o a w (PostS B st F a w X k) := by
    intro hm0 da dl dc hvd hdl
    subst hdl
    have hxs : zs = xs := by rw [hzs, hm0]; simp
    have hset : st.own.set j (.arr T te.size zs) = st.own := by
      rw [hxs]
      obtain ⟨hlt, hee⟩ := List.getElem?_eq_some_iff.1 hj
      rw [← hee]; exact List.set_getElem_self hlt
    rw [hset] at hk
    refine resOf_value (x := .tuple #[]) (w' := w) (run hvv ?_) ?_
    · rw [hvd]
      exact run_clearG w t o.type e da dl dc h1.und h2.info hz1 (fun a _ h => by omega) (fun _ => rfl)
    · exact (Post.of (k := fun v own f => k v ⟨st.n, frMap f st.fr, own⟩) (f := fun v => v) hI (by rw [frMap_id]; exact hI) (keepsNone (Keeps.refl _ w)) (fun i q h => .inl h) (fun i q _ h => h) htup (by rw [frMap_id]; exact hk)).s
  cases hv with
  | vwn _ _ _ da h h0 hzE hc => exact zero (by omega) rfl rfl
  | vw _ _ _ _ _ da dc h h0 hc hkk hln hxx hzE ha =>
    by_cases hm0 : n = 0
    · exact zero hm0 rfl rfl
    have hda : da = ⟨E.ρ j, off * te.size, none⟩ := ha.resolve_right (by omega)
    subst hda
    rcases g4 with ⟨k1, _, _⟩ | ⟨_, hF, hl1, hl2, cc, hcc, hcs, val, hval⟩
    · rw [h0] at k1; cases k1
    obtain ⟨ys, hys⟩ : ∃ ys, ys = List.replicate n y := ⟨_, rfl⟩
    have hwy : Wf te.size ys := by rw [hys]; exact fun x hx => by rw [List.eq_of_mem_replicate hx]; exact hyw
    have hyl : ys.length = n := by rw [hys]; simp
    have hly : (flat ys).length = n * te.size := by rw [flat_length hwy, hyl]
    obtain ⟨cs, hcse⟩ : ∃ cs, cs = (Builtin.zeroCells zv.cells n).toList := ⟨_, rfl⟩
    have hzs2 : zv.cells.size = te.size := by rw [← hz3, hzl]
    have hcl : cs.length = n * te.size := by rw [hcse, Array.length_toList, size_zeroCells, hzs2]
    have hyc := elemV_den (H := ⟨nowM B F, w⟩) (E := E) hz hy hyw hz2
    have hcd : ∀ (q : Nat) (u : PV) (v : Value), (flat ys)[q]? = some u → cs[q]? = some v → PV.Den ⟨nowM B F, w⟩ u v := by
      intro q u v hu hv
      have hq : q < n * te.size := by have := lt_of_some hu; omega
      rw [hys] at hu
      have hq' := flat_rep hyw.1 g0 n q u hu
      have hqm : q % te.size < te.size := Nat.mod_lt _ g0
      refine hyc _ u v hq' ?_
      have e1 : (Builtin.zeroCells zv.cells n).toList[q]? = some zv.cells[q % zv.cells.size]! := by
        simp [Builtin.zeroCells, hzs2, hq]
      rw [hcse, e1] at hv
      cases hv
      rw [hzs2]
      have : q % te.size < zv.cells.size := by omega
      simp [this]
    have hone : ∀ v ∈ cs, v.oneCell' = true := by
      intro v hv
      obtain ⟨q, hq, he⟩ := List.getElem_of_mem hv
      have hq2 : q < (flat ys).length := by rw [hly, ← hcl]; exact hq
      exact ((hcd q _ v (List.getElem?_eq_getElem hq2) (by rw [List.getElem?_eq_getElem hq, he])).one (flat_one hwy _ (List.getElem_mem hq2))).1
    have hfl : (flat xs).length = xs.length * te.size := flat_length g1
    have hb1 : (off + n) * te.size ≤ xs.length * te.size := Nat.mul_le_mul_right _ (by omega)
    have hb2 : xs.length * te.size ≤ E.κ j * te.size := Nat.mul_le_mul_right _ hl1
    rw [Nat.add_mul] at hb1
    have hst := run_storeCells_at P (E.ρ j) (off * te.size) T cs 0 cc w hcc (by omega) hone
    rw [Nat.add_zero] at hst
    refine resOf_value (x := .tuple #[]) (w' := w.setRow (E.ρ j) (cc.toList.take (off * te.size) ++ cs ++ cc.toList.drop (off * te.size + cs.length)).toArray) (run hvv ?_) ?_
    · exact run_clearG w t o.type e _ n dc h1.und h2.info hz1 (fun a ha _ => by cases ha; rw [← hcse]; exact hst) (fun h => by rcases h with h | h; cases h; exact absurd h hm0)
    have hkeep : Keeps (F j) w (w.setRow (E.ρ j) (cc.toList.take (off * te.size) ++ cs ++ cc.toList.drop (off * te.size + cs.length)).toArray) :=
      ⟨by simp, by simp, by simp, by simp, fun b hb hn => setRow_other w _ b _ fun e => hn ((hF b).2 e)⟩
    have hset := setRow_heap w (E.ρ j) cc (cc.toList.take (off * te.size) ++ cs ++ cc.toList.drop (off * te.size + cs.length)).toArray T (0, 0) hcc
    have hle := hI.le (F' := F) (touch hkeep) (fun i k h => .inl h)
    have hzl : zs.length = xs.length := by rw [hzs]; simp; omega
    have hzf : flat zs = (flat xs).take (off * te.size) ++ flat ys ++ (flat xs).drop (off * te.size + (flat ys).length) := by
      rw [hzs, ← hys, flat_append, flat_append, flat_take g1, flat_drop g1, hly, Nat.add_mul, List.append_assoc]
    have harr : ArrAt ⟨nowM B F, w.setRow (E.ρ j) (cc.toList.take (off * te.size) ++ cs ++ cc.toList.drop (off * te.size + cs.length)).toArray⟩ (E.ρ j) (E.κ j) T te.size zs :=
      ArrAt.write hcs hval (p := off * te.size) (us := flat ys) (vs := cs) (by rw [hcl, hly]) hcd (by omega) (by omega) hzf (by omega) hl2 hle hset
    have hwz : Wf te.size zs := by rw [hzs, ← hys]; exact Wf.append g1.take (Wf.append hwy g1.drop)
    have hI' := hI.set1 hjl hkeep (r := .arr T te.size zs) ⟨g0, hwz, by omega, g3, .inr ⟨h0, hF, harr⟩⟩ (fun T c h => by rw [hj] at h; cases h)
    exact (Post.of (k := fun v own f => k v ⟨st.n, frMap f st.fr, own⟩) (f := fun v => v) hI (by rw [frMap_id]; exact hI') (hkeep.mono fun b _ c => ⟨j, hX, c⟩) (fun i k h => .inl h) (fun i k _ h => h) htup (by rw [frMap_id]; exact hk)).s
end
section
open Go
open Go.Sx (NP Keeps Hp Keep0 TI TEnv TOk Kd resOf)
theorem grow_full {P : Program} {TE : TEnv} (hE : TOk P TE) {B : Base} {st : St} {E : Ev} {F : Nat → NP} {a : Act} {w : World} (hI : Inv B st E F a w) {t u e : TypeId} {s x : Operand} {ti ui te : TI} (hti : TE.get t = some ti) (hkd : ti.kd = .slice e) (hte : TE.get e = some te) (hui : TE.get u = some ui)
    {v : V} {q : Sq} {ys : List PV} (hx : ev st.fr x = some v) (hq : apSrc ui.kd st.own v = some q) (hqg : q.get = ys) {z : List V} {y : PV} (hz : zeroV te = some z) (hzl : z.length = te.size) (hy : elemV te.agg z = some y) (hyw : y.wf te.size) (hsz : 0 < te.size) (ty : TypeId)
    {b : Option Addr} {sLen sCap : Nat} {olds : List Value} {xs : List PV} (hb : a.eval s = .slice b sLen sCap) (hold : ∀ w', w'.heap = w.heap → (Builtin.firstCells te.size sLen (.slice b sLen sCap)).run P w' = .ok olds.toArray w') (hol : olds.length = (flat xs).length) (hxl : xs.length = sLen) (hxw : Wf te.size xs)
    (hxd : ∀ (j : Nat) (q : PV) (z : Value), (flat xs)[j]? = some q → olds[j]? = some z → PV.Den ⟨nowM B F, w⟩ q z) (hw : Wf te.size ys) (hg : sCap < sLen + ys.length) (h63 : sLen + ys.length ≤ maxLen) (hfit : Builtin.nextslicecap (sLen + ys.length) sCap * te.bytes ≤ 281474976710656) :
    ∃ κ w', (Builtin.append_ #[t, u] ty #[a.eval s, a.eval x]).run P w = .ok (.slice (some ⟨w.heap.size, 0, none⟩) (sLen + ys.length) κ) w' ∧ Keep0 w w' ∧ sLen + ys.length ≤ κ ∧ κ ≤ maxLen ∧ w'.heap.size = w.heap.size + 1 ∧
      ∀ M, Hp.Le ⟨nowM B F, w⟩ ⟨M, w'⟩ → ArrAt ⟨M, w'⟩ w.heap.size κ e te.size (xs ++ (ys ++ List.replicate (κ - (sLen + ys.length)) y)) := by
  obtain ⟨inf, d, his⟩ := hE.get hti
  have := kd_slice his hkd; subst this
  obtain ⟨inf', d', his'⟩ := hE.get hte
  obtain ⟨zv, hz1, hz2, hz3⟩ := zero_size his' hz
  have hcs : zv.cells.size = te.size := by rw [← hz3, hzl]
  obtain ⟨⟨du, hdu1, hdu2⟩, hl, news, hn1, hn2, hn3⟩ := apSrc_ok (P := P) hE hui hI (hI.ev hx) hq hqg hw
  have h63' : ((sLen + ys.length : Nat) : Int) ≤ 9223372036854775807 := by unfold maxLen at h63; omega
  have hr := run_append_growG (P := P) w t u ty e inf' zv du his.und hdu1 hdu2 his'.info hz1 b sLen sCap ys.length (a.eval x) olds news (hl w) (by rw [← his'.size]; exact hold _ rfl) (by rw [← his'.size]; exact hn2 _ rfl) hg h63' (by rw [← his'.bytes]; exact hfit)
  have hge := grownCap_ge w (sLen + ys.length) sCap e
  have hmx := grownCap_le_maxLen w (sLen + ys.length) sCap e h63
  refine ⟨_, _, by rw [hb]; exact hr, Keep0.drewAlloc _ _, hge, hmx, by show (w.heap.push _).size = w.heap.size + 1; simp, fun M hle => ?_⟩
  obtain ⟨κ, hκ⟩ : ∃ κ, κ = grownCap w (sLen + ys.length) sCap e := ⟨_, rfl⟩
  rw [← hκ] at hge hmx hle ⊢
  have hwr : Wf te.size (List.replicate (κ - (sLen + ys.length)) y) := fun x hx => by rw [List.eq_of_mem_replicate hx]; exact hyw
  have hlr : (flat (List.replicate (κ - (sLen + ys.length)) y)).length = (κ - (sLen + ys.length)) * te.size := by rw [flat_length hwr]; simp
  have hcl : (Builtin.zeroCells zv.cells (κ - (sLen + ys.length))).toList.length = (κ - (sLen + ys.length)) * te.size := by rw [Array.length_toList, size_zeroCells, hcs]
  have hyc := fun H => elemV_den (H := H) (E := E) hz hy hyw hz2
  have hlen : (xs ++ (ys ++ List.replicate (κ - (sLen + ys.length)) y)).length = κ := by simp; omega
  have hwa : Wf te.size (xs ++ (ys ++ List.replicate (κ - (sLen + ys.length)) y)) := Wf.append hxw (Wf.append hw hwr)
  have hfl := flat_length hwa
  rw [hlen] at hfl
  have hcc : (olds ++ news ++ (Builtin.zeroCells zv.cells (κ - (sLen + ys.length))).toList).length = (flat (xs ++ (ys ++ List.replicate (κ - (sLen + ys.length)) y))).length := by
    rw [flat_append, flat_append]
    simp only [List.length_append, hol, hn1, hcl, hlr]; omega
  refine ArrAt.ofNew (cells := olds ++ news ++ (Builtin.zeroCells zv.cells (κ - (sLen + ys.length))).toList) (rest := []) (by rw [List.append_nil]; exact heap_alloc_new w.drew _) (by rw [hlen]; exact Nat.le_refl _) hmx (by rw [List.append_nil, hcc, hfl]; exact Nat.le_refl _) hcc fun j q z hq hz => ?_
  rw [flat_append, flat_append] at hq
  rw [List.append_assoc] at hz
  by_cases hj : j < (flat xs).length
  · rw [List.getElem?_append_left hj] at hq
    rw [List.getElem?_append_left (by omega)] at hz
    exact (hxd j q z hq hz).mono hle
  · rw [List.getElem?_append_right (by omega)] at hq
    rw [List.getElem?_append_right (by omega), hol] at hz
    obtain ⟨i, hi⟩ : ∃ i, i = j - (flat xs).length := ⟨_, rfl⟩
    rw [← hi] at hq hz
    by_cases hj2 : i < (flat ys).length
    · rw [List.getElem?_append_left hj2] at hq
      rw [List.getElem?_append_left (by omega)] at hz
      exact (hn3 _ q z hq hz).mono hle
    · rw [List.getElem?_append_right (by omega)] at hq
      rw [List.getElem?_append_right (by omega), hn1] at hz
      obtain ⟨l, hl⟩ : ∃ l, l = i - (flat ys).length := ⟨_, rfl⟩
      rw [← hl] at hq hz
      have hlt : l < (κ - (sLen + ys.length)) * te.size := by rw [← hlr]; exact lt_of_some hq
      have hq' := flat_rep hyw.1 hsz _ l q hq
      have hlm : l % te.size < te.size := Nat.mod_lt _ hsz
      refine hyc _ _ q z hq' ?_
      have e1 : (Builtin.zeroCells zv.cells (κ - (sLen + ys.length))).toList[l]? = some zv.cells[l % zv.cells.size]! := by
        simp [Builtin.zeroCells, hcs, hlt]
      rw [e1] at hz
      cases hz
      rw [hcs]
      have : l % te.size < zv.cells.size := by omega
      simp [this]
theorem Post.newFull {B : Base} {st : St} {E : Ev} {F : Nat → NP} {a : Act} {w w' : World} {X : Nat → Bool} (hI : Inv B st E F a w) (hk : Keep0 w w') {T : TypeId} {sz : Nat} {xs : List PV} {κ n : Nat} (hsz : 0 < sz) (hw : Wf sz xs) (hn : n ≤ xs.length) (hx : xs.length = κ)
    (h : ∀ M, Hp.Le ⟨nowM B F, w⟩ ⟨M, w'⟩ → ArrAt ⟨M, w'⟩ w.heap.size κ T sz xs) {k : V → List Res → (V → V) → Prop} (hkk : k (.vw st.own.length sz 0 n (some κ)) (st.own ++ [.arr T sz xs]) fun v => v) :
    Post B st F a w X k (.slice (some ⟨w.heap.size, 0, none⟩) n κ) w' := by
  have hle : ∀ M, (∀ k, M k → nowM B F k ∨ w.heap.size ≤ k) → Hp.Le ⟨nowM B F, w⟩ ⟨M, w'⟩ := fun M hM =>
    ⟨hk.os, hk.tape, hk.output, hk.size, fun b hb hm => ⟨hk.block b hb.lt fun c => c, fun c => by
      rcases hM b c with c | c
      · exact hm c
      · have : b < w.heap.size := hb.lt
        omega⟩⟩
  have hI' := hI.newArr (T := T) (xs := xs) hk (Nat.le_refl _) hsz hw fun M hM => h M (hle M hM)
  refine Post.of (f := fun v => v) hI (by rw [frMap_id]; exact hI') (keepsNone hk) (fun i q h => ?_) (fun i q _ h => ?_) ?_ hkk
  · by_cases hi : i = st.own.length
    · subst hi; rw [pushF_self] at h; exact .inr (Nat.le_of_eq h.symm)
    · rw [pushF_ne i hi] at h; exact .inl h
  · rw [pushF_ne i (by rintro rfl; exact hI.low _ (Nat.le_refl _) q h)]; exact h
  · refine .vw _ _ 0 _ (some κ) _ _ (by simp [Ev.push, hI.en]) (by simp [Ev.push, hI.en]) ?_ ?_ (by omega) (by simp [Ev.push, hI.en]; omega) (by simp [Ev.push, hI.en]) (.inl ?_)
    · simp
    · simp [Ev.push, hI.en]
    · simp [Ev.push, hI.en]
theorem view_cells {P : Program} {B : Base} {st : St} {E : Ev} {F : Nat → NP} {a : Act} {w : World} (hI : Inv B st E F a w) {r sz off n : Nat} {cap : Option Nat} {T : TypeId} {xs : List PV} {sv : Value} (has : V.Den ⟨nowM B F, w⟩ E (.vw r sz off n cap) sv) (hr : st.own[r]? = some (.arr T sz xs)) :
    ∃ (ad : Option Addr) (c : Nat) (olds : List Value), sv = .slice ad n c ∧ n ≤ c ∧ (∀ w', w'.heap = w.heap → (Builtin.firstCells sz n (.slice ad n c)).run P w' = .ok olds.toArray w') ∧ olds.length = (flat ((xs.drop off).take n)).length ∧ ((xs.drop off).take n).length = n ∧
      (∀ (j : Nat) (q : PV) (z : Value), (flat ((xs.drop off).take n))[j]? = some q → olds[j]? = some z → PV.Den ⟨nowM B F, w⟩ q z) := by
  obtain ⟨hs0, hwf, hlen, hez, hrow⟩ := hI.held r _ hr
  have hsn : seen (fun _ => false) st.own (.vw r sz off n cap) = some (.c xs off n) := by simp [seen, hr]
  obtain ⟨ad, c, e1, e2, e3, e4, _⟩ := seen_ok hI has hsn (xs := (xs.drop off).take n) rfl
  have hln : ((xs.drop off).take n).length = n := by
    have : ∃ ad c, sv = .slice ad n c := by
      obtain ⟨_, _, ⟨_, _, h0, _, a, h⟩ | ⟨_, a, c, h, _⟩⟩ := has.vw_inv
      · exact ⟨a, 0, by rw [h, h0]⟩
      · exact ⟨_, _, h⟩
    obtain ⟨_, _, e5⟩ := this
    rw [e5] at e1; injection e1 with _ e6 _; exact e6.symm
  rw [hln] at e1 e4
  cases ad with
  | none =>
    obtain ⟨e5, e6⟩ := e2 rfl
    exact ⟨none, c, [], e1, e4, fun w' _ => by simp [Builtin.firstCells], by rw [e5]; rfl, hln, fun j q z h => by rw [e5] at h; simp [flat] at h⟩
  | some ad =>
    obtain ⟨vs, g1, g2, g3⟩ := e3.cells
    refine ⟨some ad, c, vs, e1, e4, fun w' hw' => run_firstCells_some w' sz n ad n c vs (by rw [g1, flat_length hwf.drop.take, hln]) fun j z hz => ?_, g1, hln, g3⟩
    have := g2 w (Prot.refl _ _) j z hz
    unfold World.cell? at this ⊢
    rw [hw']; exact this
theorem OpEv.appendFull {B : Base} {P : Program} {TE : TEnv} (hE : TOk P TE) {o : Oper} {t u e : TypeId} {s x : Operand} {ti ui te : TI} (ho : o.op = .call { callee := .builtin .append, args := #[s, x], argTypes := #[t, u] })
    (hti : TE.get t = some ti) (hkd : ti.kd = .slice e) (hte : TE.get e = some te) (hui : TE.get u = some ui) {X : Nat → Bool} {st : St} {k : V → St → Prop} {v : V} {q : Sq} {ys : List PV} {j off n K : Nat} {xs : List PV} {T : TypeId}
    (hs : ev st.fr s = some (.vw j te.size off n (some K))) (hj : st.own[j]? = some (.arr T te.size xs)) (hx : ev st.fr x = some v) (hq : apSrc ui.kd st.own v = some q) (hqg : q.get = ys) {z : List V} {y : PV} (hz : zeroV te = some z) (hzl : z.length = te.size) (hy : elemV te.agg z = some y) (hyw : y.wf te.size) (hsz : 0 < te.size)
    (hw : Wf te.size ys) (hg : K < off + n + ys.length) (h63 : n + ys.length ≤ maxLen) (h47 : (n + ys.length) * te.bytes ≤ 140737488355328)
    (hk : ∀ K' n' zs, n' = n + ys.length → n' ≤ K' → K' ≤ maxLen → zs = (xs.drop off).take n ++ (ys ++ List.replicate (K' - n') y) → k (.vw st.own.length te.size 0 n' (some K')) ⟨st.n, st.fr, st.own ++ [.arr e te.size zs]⟩) : OpEv B P o X st k := by
  intro E F a w hI
  have has := hI.ev hs
  obtain ⟨_, hwf, _⟩ := hI.held j _ hj
  obtain ⟨ad, c, olds, hb, hnc, hold, hol, hln, hod⟩ := view_cells (P := P) hI has hj
  have hcK : off + c = K := by
    rw [hb] at has
    cases has with
    | vwn _ _ _ _ _ _ _ hc => simpa using hc.symm
    | vw _ _ _ _ _ _ _ _ _ hc => exact hc
  have hgg : c < n + ys.length := by omega
  obtain ⟨κ, w', hr, hk0, hκ, hmx, hws, harr⟩ := grow_full hE hI hti hkd hte hui hx hq hqg hz hzl hy hyw hsz o.type hb hold hol hln hwf.drop.take hod hw hgg h63 (growslice_fits hgg h47)
  obtain ⟨zs, hzs⟩ : ∃ zs, zs = (xs.drop off).take n ++ (ys ++ List.replicate (κ - (n + ys.length)) y) := ⟨_, rfl⟩
  refine resOf_value (x := .slice (some ⟨w.heap.size, 0, none⟩) (n + ys.length) κ) (w' := w') (by simp only [execOp, ho, resolve, invoke, Go.builtin, Sem.run_bind, Sem.run_pure, Result.andThen_ok, List.map_toArray, List.map_cons, List.map_nil, hr]) ?_
  have hzl2 : zs.length = κ := by rw [hzs, List.length_append, hln]; simp; omega
  have hwz : Wf te.size zs := by rw [hzs]; exact Wf.append hwf.drop.take (Wf.append hw (fun x hx => by rw [List.eq_of_mem_replicate hx]; exact hyw))
  refine (Post.newFull (k := fun v own f => k v ⟨st.n, frMap f st.fr, own⟩) (X := X) hI hk0 (T := e) (xs := zs) (n := n + ys.length) hsz hwz (by omega) hzl2 (fun M hM => ?_) ?_).s
  · have := harr M hM
    rw [← hzs] at this; exact this
  · simp only [frMap_id]
    exact hk κ (n + ys.length) zs rfl hκ hmx hzs
theorem OpEv.capOf {B : Base} {P : Program} {TE : TEnv} (hE : TOk P TE) {o : Oper} {t e : TypeId} {s : Operand} {ti : TI} (ho : o.op = .call { callee := .builtin .cap, args := #[s], argTypes := #[t] })
    (hti : TE.get t = some ti) (hkd : ti.kd = .slice e) {X : Nat → Bool} {st : St} {k : V → St → Prop} {j sz off n K : Nat} (hs : ev st.fr s = some (.vw j sz off n (some K)))
    (hk : ∀ c, off + c = K → k (.p (.int .i64 (Int.ofNat c))) st) : OpEv B P o X st k := by
  intro E F a w hI
  obtain ⟨inf, d, his⟩ := hE.get hti
  have := kd_slice his hkd; subst this
  have has := hI.ev hs
  obtain ⟨ad, c, hv, hcK⟩ : ∃ ad c, a.eval s = .slice ad n c ∧ off + c = K := by
    generalize a.eval s = sv at has
    cases has with
    | vwn _ _ _ a _ _ _ hc => exact ⟨a, 0, rfl, by simpa using hc.symm⟩
    | vw _ _ _ _ _ a c _ _ hc => exact ⟨some a, c, rfl, hc⟩
  refine resOf_value (x := goInt c) (w' := w) (by simp only [execOp, ho, resolve, invoke, Go.builtin, Sem.run_bind, Sem.run_pure, Result.andThen_ok, List.map_toArray, List.map_cons, List.map_nil, hv]; simp [Builtin.cap_, run_underlying his.und]) ?_
  exact (Post.of (k := fun v own f => k v ⟨st.n, frMap f st.fr, own⟩) (f := fun v => v) hI (by rw [frMap_id]; exact hI) (keepsNone (Keeps.refl _ w)) (fun i q h => .inl h) (fun i q _ h => h) V.Den.int (by rw [frMap_id]; exact hk c hcK)).s
theorem OpEv.appendIn {B : Base} {P : Program} {TE : TEnv} (hE : TOk P TE) {o : Oper} {t u e : TypeId} {s x : Operand} {ti ui te : TI} (ho : o.op = .call { callee := .builtin .append, args := #[s, x], argTypes := #[t, u] })
    (hti : TE.get t = some ti) (hkd : ti.kd = .slice e) (hte : TE.get e = some te) (hui : TE.get u = some ui) {X : Nat → Bool} {st : St} {k : V → St → Prop} {v : V} {q : Sq} {ys : List PV} {j off n K : Nat} {xs : List PV}
    (hs : ev st.fr s = some (.vw j te.size off n (some K))) (hj : st.own[j]? = some (.arr e te.size xs)) (hX : X j = true) (hx : ev st.fr x = some v) (hq : apSrc ui.kd st.own v = some q) (hqg : q.get = ys)
    (hw : Wf te.size ys) (hg : off + n + ys.length ≤ K) (hK : K ≤ xs.length)
    (hk : ∀ n' zs, n' = n + ys.length → zs = xs.take (off + n) ++ (ys ++ xs.drop (off + n + ys.length)) → k (.vw j te.size off n' (some K)) ⟨st.n, st.fr, st.own.set j (.arr e te.size zs)⟩) : OpEv B P o X st k := by
  intro E F a w hI
  have has := hI.ev hs
  obtain ⟨inf, d, his⟩ := hE.get hti
  have := kd_slice his hkd; subst this
  obtain ⟨inf', d', his'⟩ := hE.get hte
  obtain ⟨hs0, hwf, hlen, hez, hrow⟩ := hI.held j _ hj
  have hjl := lt_of_some hj
  have hnpr : ∀ T c, st.own[j]? ≠ some (.st T c) := fun T c h => by rw [hj] at h; cases h
  obtain ⟨⟨du, hdu1, hdu2⟩, hl, news, hn1, hn2, hn3⟩ := apSrc_ok (P := P) hE hui hI (hI.ev hx) hq hqg hw
  obtain ⟨zs, hzs⟩ : ∃ zs, zs = xs.take (off + n) ++ (ys ++ xs.drop (off + n + ys.length)) := ⟨_, rfl⟩
  replace hk := hk _ zs rfl hzs
  have run : ∀ {x' : Value} {w' : World}, (Builtin.append_ #[t, u] o.type #[a.eval s, a.eval x]).run P w = .ok x' w' → (execOp a.eval o).run P w = .ok (.value x') w' := by
    intro x' w' hr
    simp only [execOp, ho, resolve, invoke, Go.builtin, Sem.run_bind, Sem.run_pure, Result.andThen_ok, List.map_toArray, List.map_cons, List.map_nil, hr]
  generalize hgs : a.eval s = sv at has run
  have hin : j < E.n := by rw [hI.en]; exact hjl
  cases has with
  | vwn _ _ _ ad h hnl hzE hc =>
    have hK0 : K = 0 := by simpa using hc
    subst hK0
    have hys0 : ys = [] := List.eq_nil_of_length_eq_zero (by omega)
    subst hys0
    have hn0 : news = [] := List.eq_nil_of_length_eq_zero (by rw [hn1]; rfl)
    subst hn0
    have hr0 := run_append_none (P := P) w t u o.type e inf' du his.und hdu1 hdu2 his'.info ad (a.eval x) (hl w) (by rw [← his'.size]; exact hn2 w rfl)
    refine resOf_value (run hr0) ?_
    have hzx : zs = xs := by rw [hzs]; simp
    have hset : st.own.set j (.arr e te.size zs) = st.own := by
      rw [hzx]
      obtain ⟨hlt, hee⟩ := List.getElem?_eq_some_iff.1 hj
      rw [← hee]; exact List.set_getElem_self hlt
    rw [hset] at hk
    exact (Post.of (k := fun v own f => k v ⟨st.n, frMap f st.fr, own⟩) (f := fun v => v) hI (by rw [frMap_id]; exact hI) (keepsNone (Keeps.refl _ w)) (fun i q h => .inl h) (fun i q _ h => h) (.vwn _ _ (some 0) _ h hnl hzE hc) (by rw [frMap_id]; exact hk)).s
  | vw _ _ _ _ _ g c h hnl hc hkk hln hxx hzE ha =>
    have hcK : off + c = K := hc
    rcases hrow with ⟨h1, _, _⟩ | ⟨_, hF, hl1, hl2, cc, hcc, hcs', val, hval⟩
    · rw [hnl] at h1; cases h1
    have hroom : n + ys.length ≤ c := by omega
    have hxl : off + n ≤ xs.length := by omega
    have hpm : (off + n) * te.size + news.length ≤ E.κ j * te.size := by
      rw [hn1, flat_length hw, ← Nat.add_mul]; exact Nat.mul_le_mul_right _ (by omega)
    have hone : ∀ z ∈ news, z.oneCell' = true := by
      intro z hz
      obtain ⟨i, hi, rfl⟩ := List.mem_iff_getElem.1 hz
      have hil : i < (flat ys).length := by rw [← hn1]; exact hi
      exact ((hn3 i _ _ (List.getElem?_eq_getElem hil) (List.getElem?_eq_getElem hi)).one (flat_one hw _ (List.getElem_mem hil))).1
    have hst := run_storeCells_at P (E.ρ j) ((off + n) * te.size) e news 0 cc w hcc (by rw [Nat.add_zero]; omega) hone
    rw [Nat.add_zero] at hst
    have hst' : (storeCells (g.add (n * inf'.size)) news).run P w = .ok () (w.setRow (E.ρ j) (cc.toList.take ((off + n) * te.size) ++ news ++ cc.toList.drop ((off + n) * te.size + news.length)).toArray) := by
      rcases ha with rfl | rfl
      · rw [Sx.addr_add, ← his'.size, ← Nat.add_mul]; exact hst
      · have hys0 : ys = [] := List.eq_nil_of_length_eq_zero (by omega)
        subst hys0
        have hn0 : news = [] := List.eq_nil_of_length_eq_zero (by rw [hn1]; rfl)
        subst hn0
        simp only [storeCells, List.append_nil, List.length_nil, Nat.add_zero, List.take_append_drop, Array.toArray_toList]
        rw [setRow_self w (E.ρ j) cc e (0, 0) hcc]; rfl
    have hr2 := run_append_roomG (P := P) w t u o.type e inf' du his.und hdu1 hdu2 his'.info g n c ys.length (a.eval x) news (hl w) (by rw [← his'.size]; exact hn2 w rfl) hroom hst'
    refine resOf_value (run hr2) ?_
    obtain ⟨w', hw'⟩ : ∃ w', w' = w.setRow (E.ρ j) (cc.toList.take ((off + n) * te.size) ++ news ++ cc.toList.drop ((off + n) * te.size + news.length)).toArray := ⟨_, rfl⟩
    have hkeep : Keeps (F j) w w' := by rw [hw']; exact ⟨by simp, by simp, by simp, by simp, fun b hb hn => setRow_other w _ b _ fun e => hn ((hF b).2 e)⟩
    have hset := setRow_heap w (E.ρ j) cc (cc.toList.take ((off + n) * te.size) ++ news ++ cc.toList.drop ((off + n) * te.size + news.length)).toArray e (0, 0) hcc
    rw [← hw'] at hset ⊢
    have hle := hI.le (F' := F) (touch hkeep) (fun i q h => .inl h)
    have hlen' : zs.length = xs.length := by rw [hzs]; simp; omega
    have harr : ArrAt ⟨nowM B F, w'⟩ (E.ρ j) (E.κ j) e te.size zs :=
      ArrAt.write hcs' hval (p := (off + n) * te.size) (us := flat ys) (vs := news) hn1 hn3 (by rw [flat_length hwf]; exact Nat.mul_le_mul_right _ hxl) (by rw [← hn1]; exact hpm) (by rw [hzs, flat_append, flat_append, flat_take hwf, flat_drop hwf, flat_length hw, ← Nat.add_mul, List.append_assoc]) (by omega) hl2 hle hset
    have hwz : Wf te.size zs := by rw [hzs]; exact Wf.append hwf.take (Wf.append hw hwf.drop)
    have hI' := hI.set1 hjl hkeep (r := .arr e te.size zs) ⟨hs0, hwz, by rw [hlen']; exact hlen, hez, .inr ⟨hnl, hF, harr⟩⟩ (fun T c h => (hnpr T c h).elim)
    refine (Post.of (k := fun v own f => k v ⟨st.n, frMap f st.fr, own⟩) (f := fun v => v) hI (by rw [frMap_id]; exact hI') (hkeep.mono fun b _ c => ⟨j, hX, c⟩) (fun i q h => .inl h) (fun i q _ h => h) (v := .vw j te.size off (n + ys.length) (some K)) ?_ (by rw [frMap_id]; exact hk)).s
    exact .vw _ _ off _ (some K) g c h hnl hc hkk hroom (by omega) hzE ha
end
section
open Go
open Go.Sx (NP Keeps Hp Keep0 TI TEnv TOk Kd resOf)
theorem run_append_growZ {P : Program} (w : World) (t u ty e : TypeId) (i : TypeInfo) (z : Value) (k kn : IntKind) (ht : P.underlying t = some (.slice e)) (hu : P.underlying u = some (.int kn)) (hi : P.info? e = some i) (hz : i.zero = some z)
    (b : Option Addr) (sLen sCap m : Nat) (olds : List Value) (hold : (Builtin.firstCells i.size sLen (.slice b sLen sCap)).run P w.drew = .ok olds.toArray w.drew) (h0 : 0 < m) (hs : 0 < i.size)
    (hg : sCap < sLen + m) (h63 : ((sLen + m : Nat) : Int) ≤ 9223372036854775807) (hm : m * i.bytes ≤ 281474976710656) (hfit : Builtin.nextslicecap (sLen + m) sCap * i.bytes ≤ 281474976710656) :
    (Builtin.append_ #[t, u] ty #[.slice b sLen sCap, .int k m]).run P w =
      .ok (.slice (some ⟨w.heap.size, 0, none⟩) (sLen + m) (grownCap w (sLen + m) sCap e))
        (w.drew.alloc (.cells (olds ++ (Builtin.zeroCells z.cells m).toList ++ (Builtin.zeroCells z.cells (grownCap w (sLen + m) sCap e - (sLen + m))).toList).toArray e)) := by
  have hn : ¬ (sLen + m ≤ sCap) := by omega
  have hm0 : m ≠ 0 := by omega
  have hs0 : i.size ≠ 0 := by omega
  have hw : IntKind.i64.wrap (m : Int) = m := by rw [IntKind.wrap_i64]; omega
  have h63' : ¬ (9223372036854775807 < ((sLen : Int) + (m : Int))) := by omega
  have h48' : ¬ (281474976710656 < Builtin.nextslicecap (sLen + m) sCap * i.bytes) := by omega
  have hneg : ¬ ((m : Int) < 0) := by omega
  have hmi : ¬ (281474976710656 < (m : Int) * (i.bytes : Int)) := by
    rw [← Int.natCast_mul]; omega
  have hns : ¬ (m * i.size = 0) := Nat.mul_ne_zero hm0 hs0
  simp [Builtin.append_, run_underlying ht, run_underlying hu, sizeOf, typeInfo, zeroValue, hi, hz, hw, hn, hneg, hmi, hns, asIntOf, h63', h48', Question.forced, hold, newRow, grownCap, asInt]
  congr 2; apply Array.ext'; simp
theorem OpEv.appendZ {B : Base} {P : Program} {TE : TEnv} (hE : TOk P TE) {o : Oper} {t u e : TypeId} {s x : Operand} {ti ui te : TI} {ik kk : IntKind} (ho : o.op = .call { callee := .builtin .append, args := #[s, x], argTypes := #[t, u] })
    (hti : TE.get t = some ti) (hkd : ti.kd = .slice e) (hte : TE.get e = some te) (hui : TE.get u = some ui) (huk : ui.kd = .int ik) {X : Nat → Bool} {st : St} {k : V → St → Prop} {j off n K m : Nat} {xs : List PV} {T : TypeId}
    (hs : ev st.fr s = some (.vw j te.size off n (some K))) (hj : st.own[j]? = some (.arr T te.size xs)) (hx : ev st.fr x = some (.p (.int kk (m : Int)))) {z : List V} {y : PV} (hz : zeroV te = some z) (hzl : z.length = te.size) (hy : elemV te.agg z = some y) (hyw : y.wf te.size) (hsz : 0 < te.size)
    (h0 : 0 < m) (hg : K < off + n + m) (h63 : n + m ≤ maxLen) (h47 : (n + m) * te.bytes ≤ 140737488355328)
    (hk : ∀ K' n' zs, n' = n + m → n' ≤ K' → K' ≤ maxLen → zs = (xs.drop off).take n ++ List.replicate (K' - n) y → k (.vw st.own.length te.size 0 n' (some K')) ⟨st.n, st.fr, st.own ++ [.arr e te.size zs]⟩) : OpEv B P o X st k := by
  intro E F a w hI
  have has := hI.ev hs
  obtain ⟨_, hwf, _⟩ := hI.held j _ hj
  obtain ⟨ad, c, olds, hb, hnc, hold, hol, hln, hod⟩ := view_cells (P := P) hI has hj
  have hcK : off + c = K := by
    rw [hb] at has
    cases has with
    | vwn _ _ _ _ _ _ _ hc => simpa using hc.symm
    | vw _ _ _ _ _ _ _ _ _ hc => exact hc
  have hgg : c < n + m := by omega
  obtain ⟨inf, d, his⟩ := hE.get hti
  have := kd_slice his hkd; subst this
  obtain ⟨inf', d', his'⟩ := hE.get hte
  obtain ⟨infu, du, hisu⟩ := hE.get hui
  have := kd_int hisu huk; subst this
  obtain ⟨zv, hz1, hz2, hz3⟩ := zero_size his' hz
  have hcs : zv.cells.size = te.size := by rw [← hz3, hzl]
  have h63' : ((n + m : Nat) : Int) ≤ 9223372036854775807 := by unfold maxLen at h63; omega
  have hmb : m * te.bytes ≤ (n + m) * te.bytes := Nat.mul_le_mul_right _ (by omega)
  have hr := run_append_growZ (P := P) w t u o.type e inf' zv kk ik his.und hisu.und his'.info hz1 ad n c m olds (by rw [← his'.size]; exact hold _ rfl) h0 (by rw [← his'.size]; exact hsz) hgg h63' (by rw [← his'.bytes]; omega) (by rw [← his'.bytes]; exact growslice_fits hgg h47)
  have hge := grownCap_ge w (n + m) c e
  have hmx := grownCap_le_maxLen w (n + m) c e h63
  obtain ⟨κ, hκ⟩ : ∃ κ, κ = grownCap w (n + m) c e := ⟨_, rfl⟩
  rw [← hκ] at hge hmx hr
  obtain ⟨zs, hzs⟩ : ∃ zs, zs = (xs.drop off).take n ++ List.replicate (κ - n) y := ⟨_, rfl⟩
  have hxe : a.eval x = .int kk (m : Int) := (hI.ev hx).int_inv
  obtain ⟨w', hw'⟩ : ∃ w', w' = w.drew.alloc (.cells (olds ++ (Builtin.zeroCells zv.cells m).toList ++ (Builtin.zeroCells zv.cells (κ - (n + m))).toList).toArray e) := ⟨_, rfl⟩
  rw [← hw'] at hr
  have hk0 : Keep0 w w' := by rw [hw']; exact Keep0.drewAlloc _ _
  have hwr : Wf te.size (List.replicate (κ - n) y) := fun x hx => by rw [List.eq_of_mem_replicate hx]; exact hyw
  have hlr : (flat (List.replicate (κ - n) y)).length = (κ - n) * te.size := by rw [flat_length hwr]; simp
  have hzl2 : zs.length = κ := by rw [hzs, List.length_append, hln]; simp; omega
  have hwz : Wf te.size zs := by rw [hzs]; exact Wf.append hwf.drop.take hwr
  have hzz : (Builtin.zeroCells zv.cells m).toList ++ (Builtin.zeroCells zv.cells (κ - (n + m))).toList = (Builtin.zeroCells zv.cells (κ - n)).toList := by
    have hlen1 : (Builtin.zeroCells zv.cells m).toList.length = m * te.size := by rw [Array.length_toList, size_zeroCells, hcs]
    apply List.ext_getElem?
    intro l
    have e : κ - n = m + (κ - (n + m)) := by omega
    by_cases hl : l < m * te.size
    · rw [List.getElem?_append_left (by omega)]
      have : l < (κ - n) * te.size := by rw [e, Nat.add_mul]; omega
      simp [Builtin.zeroCells, hcs, hl, this]
    · rw [List.getElem?_append_right (by omega), hlen1]
      have em : (l - m * te.size) % te.size = l % te.size := by
        have : l = (l - m * te.size) + te.size * m := by rw [Nat.mul_comm te.size m]; omega
        conv => rhs; rw [this, Nat.add_mul_mod_self_left]
      by_cases hl2 : l < (κ - n) * te.size
      · have : l - m * te.size < (κ - (n + m)) * te.size := by rw [e, Nat.add_mul] at hl2; omega
        simp [Builtin.zeroCells, hcs, hl2, this, em]
      · have : ¬ l - m * te.size < (κ - (n + m)) * te.size := by rw [e, Nat.add_mul] at hl2; omega
        simp [Builtin.zeroCells, hcs, hl2, this]
  have hyc := fun H => elemV_den (H := H) (E := E) hz hy hyw hz2
  refine resOf_value (x := .slice (some ⟨w.heap.size, 0, none⟩) (n + m) κ) (w' := w') (by simp only [execOp, ho, resolve, invoke, Go.builtin, Sem.run_bind, Sem.run_pure, Result.andThen_ok, List.map_toArray, List.map_cons, List.map_nil, hxe, hb, hr]) ?_
  refine (Post.newFull (k := fun v own f => k v ⟨st.n, frMap f st.fr, own⟩) (X := X) hI hk0 (T := e) (xs := zs) (n := n + m) hsz hwz (by omega) hzl2 (fun M hle => ?_) ?_).s
  · have hcl : (olds ++ (Builtin.zeroCells zv.cells (κ - n)).toList).length = (flat zs).length := by
      rw [hzs, flat_append]
      simp only [List.length_append, hol, hlr, Array.length_toList, size_zeroCells, hcs]
    refine ArrAt.ofNew (cells := olds ++ (Builtin.zeroCells zv.cells (κ - n)).toList) (rest := []) (by rw [List.append_nil, hw', List.append_assoc, hzz]; exact heap_alloc_new w.drew _) (by omega) hmx (by rw [List.append_nil, hcl, flat_length hwz, hzl2]; exact Nat.le_refl _) hcl fun j q z hq hz => ?_
    rw [hzs, flat_append] at hq
    by_cases hj : j < (flat ((xs.drop off).take n)).length
    · rw [List.getElem?_append_left hj] at hq
      rw [List.getElem?_append_left (by omega)] at hz
      exact (hod j q z hq hz).mono hle
    · rw [List.getElem?_append_right (by omega)] at hq
      rw [List.getElem?_append_right (by omega), hol] at hz
      obtain ⟨l, hl⟩ : ∃ l, l = j - (flat ((xs.drop off).take n)).length := ⟨_, rfl⟩
      rw [← hl] at hq hz
      have hlt : l < (κ - n) * te.size := by rw [← hlr]; exact lt_of_some hq
      have hq' := flat_rep hyw.1 hsz _ l q hq
      have hlm : l % te.size < te.size := Nat.mod_lt _ hsz
      refine hyc _ _ q z hq' ?_
      have e1 : (Builtin.zeroCells zv.cells (κ - n)).toList[l]? = some zv.cells[l % zv.cells.size]! := by
        simp [Builtin.zeroCells, hcs, hlt]
      rw [e1] at hz
      cases hz
      rw [hcs]
      have : l % te.size < zv.cells.size := by omega
      simp [this]
  · simp only [frMap_id]
    exact hk κ (n + m) zs rfl hge hmx hzs
end
section
open Go
open Go.Sx (NP Keeps Hp Keep0 TI TEnv TOk Kd resOf)
theorem CallEv.overlaps {B : Base} {P : Program} {TE : TEnv} (hE : TOk P TE) {f : FuncId} {fn : Func} {t e r : TypeId} {ti te : TI}
    (hf : P.funcs[f]? = some fn) (hname : (fn.name == "runtime.NumGoroutine") = false) (hb : fn.body.isNone = true) (hn : Extern.findNext fn = none) (he : Extern.find fn = some (Extern.SlicesOverlaps.overlaps #[t, t] #[r]))
    (hti : TE.get t = some ti) (hkd : ti.kd = .slice e) (hte : TE.get e = some te) {X : Nat → Bool} {st : St} {k : V → St → Prop} {i j o1 n1 o2 n2 : Nat} {c1 c2 : Option Nat} {T1 T2 : TypeId} {xs ys : List PV}
    (hi : st.own[i]? = some (.arr T1 te.size xs)) (hj : st.own[j]? = some (.arr T2 te.size ys)) (hij : i ≠ j) (h1 : 0 < n1) (h2 : 0 < n2)
    (hk : k (.p (.bool false)) st) : CallEv B P f [.vw i te.size o1 n1 c1, .vw j te.size o2 n2 c2] X st k := by
  intro E F a w vals hI hd
  obtain ⟨inf, d, his⟩ := hE.get hti
  have := kd_slice his hkd; subst this
  obtain ⟨inf', d', his'⟩ := hE.get hte
  have row : ∀ {i o1 n1 : Nat} {c1 : Option Nat} {T1 : TypeId} {xs : List PV} {sv : Value}, V.Den ⟨nowM B F, w⟩ E (.vw i te.size o1 n1 c1) sv → st.own[i]? = some (.arr T1 te.size xs) → 0 < n1 →
      ∃ c kk, sv = .slice (some ⟨E.ρ i, o1 * te.size, none⟩) n1 c ∧ F i (E.ρ i) ∧ w.shape? (E.ρ i) = some (T1, kk) ∧ kk ≠ 0 ∧ ∀ off, w.frozen? ⟨E.ρ i, off, none⟩ = false := by
    intro i o1 n1 c1 T1 xs sv hd hr hpos
    obtain ⟨g0, g1, g2, g3, g4⟩ := hI.held i _ hr
    cases hd with
    | vwn _ _ _ _ _ _ _ _ => omega
    | vw _ _ _ _ _ da c h hnl hc hkk hln hxx hz ha =>
      have hda : da = ⟨E.ρ i, o1 * te.size, none⟩ := ha.resolve_right (by omega)
      subst hda
      rcases g4 with ⟨k1, _, _⟩ | ⟨_, hF, hl1, hl2, cc, hcc, hcs, val, hval⟩
      · rw [hnl] at k1; cases k1
      have hpm : 0 < E.κ i * te.size := Nat.mul_pos (by omega) g0
      exact ⟨c, cc.size, rfl, (hF _).2 rfl, by simp [World.shape?, hcc], by omega, fun off => by simp [World.frozen?, hcc]⟩
  obtain ⟨x, s, rfl⟩ : ∃ x s, vals = [x, s] := by
    have := hd.1
    match vals, this with
    | [x, s], _ => exact ⟨x, s, rfl⟩
  have hdx := hd.2 0 _ _ rfl rfl
  have hds := hd.2 1 _ _ rfl rfl
  obtain ⟨ca, ka, e1, f1, sh1, z1, fz1⟩ := row hdx hi h1
  obtain ⟨cb, kb, e2, f2, sh2, z2, fz2⟩ := row hds hj h2
  have hne : E.ρ i ≠ E.ρ j := fun h => hI.apart i j hij _ f1 (by rw [h]; exact f2)
  have hz : ∀ w, (Go.sizeOf e).run P w = .ok te.size w := fun w => by simp [sizeOf, typeInfo, his'.info, his'.size]
  have hr := Lib.run_overlaps_apart (P := P) w t r e his.und te.size hz ⟨E.ρ i, o1 * te.size, none⟩ ⟨E.ρ j, o2 * te.size, none⟩ n1 ca n2 cb hne T1 T2 ka kb sh1 sh2 z2 (fz1 _) (fz1 _)
  have hc : (callFunc f #[.slice (some ⟨E.ρ i, o1 * te.size, none⟩) n1 ca, .slice (some ⟨E.ρ j, o2 * te.size, none⟩) n2 cb]).run P w = .ok (.value (.bool false)) w := by
    rw [run_callFunc_extern hf hname hb hn he, hr]; rfl
  refine .inr ⟨.bool false, w, by rw [e1, e2]; exact hc, ?_⟩
  exact (Post.of (k := fun v own f => k v ⟨st.n, frMap f st.fr, own⟩) (f := fun v => v) hI (by rw [frMap_id]; exact hI) (keepsNone (Keeps.refl _ w)) (fun i q h => .inl h) (fun i q _ h => h) V.Den.bool (by rw [frMap_id]; exact hk)).s
end
section
open Go
open Go.Sx (NP Keeps Hp)
theorem Conv.hollowK {B : Base} {st : St} (t : Nat) (T : TypeId) (sz : Nat) (hsz : 0 < sz) (ht : look st.fr t = some (.p .nils) ∨ look st.fr t = some (.p .e0)) :
    Conv B st ⟨st.n, (t, .vw st.own.length sz 0 0 (some 0)) :: st.fr, st.own ++ [.arr T sz []]⟩ := by
  refine ⟨rfl, fun E F a w hI => ?_⟩
  have h1 := hI.newHollow (Keeps.refl _ w) T hsz
  refine ⟨_, _, ⟨h1.n, h1.en, fun t' v hv => ?_, h1.defers, h1.held, h1.apart, h1.low, h1.keep, h1.fresh, h1.olen, h1.pin, h1.bd, h1.low0, h1.rc⟩, fun _ _ h => h⟩
  rw [look_cons] at hv
  split at hv
  · rename_i e
    subst e
    cases hv
    rcases ht with ht | ht
    · have := (hI.slot _ _ ht).nils_inv
      rw [this]
      exact .vwn _ _ (some 0) _ (by simp [Ev.push, hI.en]) (by simp [Ev.push, hI.en]) (by simp [Ev.push, hI.en]) rfl
    · have h2 := hI.slot _ _ ht
      generalize a.tmps.getD _ undef = x at h2 ⊢
      cases h2 with
      | p _ _ h2 => cases h2 with
        | e0 ad => exact .vwn _ _ (some 0) _ (by simp [Ev.push, hI.en]) (by simp [Ev.push, hI.en]) (by simp [Ev.push, hI.en]) rfl
  · exact h1.slot t' v hv
end
end Go.Lx
