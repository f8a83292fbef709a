/- A calculus of logical values, part 34: clear of a part of an own row. No conditions. -/
import Derived.Test.YtdeolllpbflemaaLEnv
import Derived.Laws.CopyRow
set_option linter.unusedSimpArgs false
set_option linter.unusedVariables false
namespace Go.Lx
open Go
open Go.Sx (NP Keeps Hp Keep0 TI TEnv TOk Kd resOf)

theorem elemV_den {te : TI} {z : List V} {y : PV} {sz : Nat} (hz : zeroV te = some z) (hy : elemV te.agg z = some y) (hyw : y.wf sz) {zv : Value} (hz2 : te.zero = some zv.cells.toList) {H : Hp} {E : Ev} :
    ∀ (j : Nat) (u : PV) (v : Value), y.cells[j]? = some u → zv.cells.toList[j]? = some v → PV.Den H u v := by
  obtain ⟨zl', hz4, hz5⟩ := zeroV_den (H := H) (E := E) hz
  rw [hz2] at hz4; cases hz4
  unfold elemV at hy
  split at hy
  · rename_i pl hpl
    rw [plains_eq hpl] at hz5
    obtain ⟨_, g2⟩ := hz5.plain
    split at hy
    · cases hy; exact g2
    · rename_i x _
      cases hy
      intro j u v hu hv
      have hx1 : y.cells = [y] := by
        have := hyw.1
        cases y with
        | agg cs =>
          have h1 := plains_eq hpl
          have : zv.cells.toList.length = 1 := by rw [hz5.1]; rfl
          have hd := g2 0 (.agg cs) zv.cells.toList[0] rfl (by simp [List.getElem?_eq_getElem, this])
          exfalso
          unfold zeroV at hz
          rw [hz2] at hz
          split at hz
          · rename_i zz hzz
            cases hzz
            split at hz
            · rename_i l' hl'
              cases hz
              rw [mapP_eq] at h1
              have h2 : l' = [.agg cs] := by
                have := congrArg (List.map fun v => match v with | V.p x => x | _ => PV.nils) h1
                simpa [Function.comp_def] using this
              have := pvs_one hl' (.agg cs) (by rw [h2]; simp)
              cases this
            · cases hz
          · cases hz
        | _ => rfl
      rw [hx1] at hu
      exact g2 j u v hu hv
    · cases hy
  · cases hy

theorem run_clearG {P : Program} (w : World) (t ty elem : TypeId) {i : TypeInfo} {zv : Value} (ad : Option Addr) (n c : Nat) {w' : World}
    (hu : P.underlying t = some (.slice elem)) (hi : P.info? elem = some i) (hz : i.zero = some zv)
    (hs : ∀ a, ad = some a → 0 < n → (storeCells a (Builtin.zeroCells zv.cells n).toList).run P w = .ok () w') (hn : ad = none ∨ n = 0 → w' = w) :
    (Builtin.clear_ #[t] ty #[.slice ad n c]).run P w = .ok (.tuple #[]) w' := by
  cases ad with
  | none =>
    have := hn (.inl rfl); subst this
    cases n <;> simp [Builtin.clear_, run_underlying hu]
  | some a =>
    cases n with
    | zero => have := hn (.inr rfl); subst this; simp [Builtin.clear_, run_underlying hu]
    | succ n => simp [Builtin.clear_, run_underlying hu, zeroValue, typeInfo, hi, hz, hs a rfl (by omega)]

theorem OpEv.clear {B : Base} {P : Program} {TE : TEnv} (hE : TOk P TE) {o : Oper} {t e : TypeId} {d : Operand} {td te : TI} (ho : o.op = .call { callee := .builtin .clear, args := #[d], argTypes := #[t] })
    (htd : TE.get t = some td) (hkd : td.kd = .slice e) (hte : TE.get e = some te) {X : Nat → Bool} {st : St} {k : V → St → Prop} {j off n : Nat} {cap : Option Nat} {T : TypeId} {xs : List PV} {z : List V} {y : PV}
    (hz : zeroV te = some z) (hzl : z.length = te.size) (hy : elemV te.agg z = some y) (hyw : y.wf te.size)
    (hd : ev st.fr d = some (.vw j te.size off n cap)) (hj : st.own[j]? = some (.arr T te.size xs)) (hX : X j = true)
    (hk : ∀ zs, zs = xs.take off ++ (List.replicate n y ++ xs.drop (off + n)) → k (.tup []) ⟨st.n, st.fr, st.own.set j (.arr T te.size zs)⟩) : OpEv B P o X st k := by
  intro E F a w hI
  obtain ⟨i1, d1, h1⟩ := hE.get htd
  obtain ⟨i2, d2, h2⟩ := hE.get hte
  have hd1 := kd_slice h1 hkd
  subst hd1
  have hjl := lt_of_some hj
  obtain ⟨g0, g1, g2, g3, g4⟩ := hI.held j _ hj
  obtain ⟨zv, hz1, hz2, hz3⟩ := zero_size h2 hz
  obtain ⟨zs, hzs⟩ : ∃ zs, zs = xs.take off ++ (List.replicate n y ++ xs.drop (off + n)) := ⟨_, rfl⟩
  replace hk := hk zs hzs
  have hv := hI.ev hd
  have run : ∀ {vs : Value} {w' : World}, a.eval d = vs → (Builtin.clear_ #[t] o.type #[vs]).run P w = .ok (.tuple #[]) w' → (execOp a.eval o).run P w = .ok (.value (.tuple #[])) w' := by
    intro vs w' hvs hr
    rw [← hvs] at hr
    simp only [execOp, ho, resolve, invoke, Go.builtin, Sem.run_bind, Sem.run_pure, Result.andThen_ok, List.map_toArray, List.map_cons, List.map_nil, hr]
  generalize hvv : a.eval d = vv at hv
  have htup : ∀ {H : Hp} {E : Ev}, V.Den H E (.tup []) (.tuple #[]) := .tup _ _ rfl fun i c v hc _ => by simp at hc
  have zero : n = 0 → ∀ {da : Option Addr} {dl dc : Nat}, vv = .slice da dl dc → dl = n → resOf P o a w (PostS B st F a w X k) := by
    intro hm0 da dl dc hvd hdl
    subst hdl
    have hxs : zs = xs := by rw [hzs, hm0]; simp
    have hset : st.own.set j (.arr T te.size zs) = st.own := by
      rw [hxs]
      obtain ⟨hlt, hee⟩ := List.getElem?_eq_some_iff.1 hj
      rw [← hee]; exact List.set_getElem_self hlt
    rw [hset] at hk
    refine resOf_value (x := .tuple #[]) (w' := w) (run hvv ?_) ?_
    · rw [hvd]
      exact run_clearG w t o.type e da dl dc h1.und h2.info hz1 (fun a _ h => by omega) (fun _ => rfl)
    · exact (Post.of (k := fun v own f => k v ⟨st.n, frMap f st.fr, own⟩) (f := fun v => v) hI (by rw [frMap_id]; exact hI) (keepsNone (Keeps.refl _ w)) (fun i q h => .inl h) (fun i q _ h => h) htup (by rw [frMap_id]; exact hk)).s
  cases hv with
  | vwn _ _ _ da h h0 hzE hc => exact zero (by omega) rfl rfl
  | vw _ _ _ _ _ da dc h h0 hc hkk hln hxx hzE ha =>
    by_cases hm0 : n = 0
    · exact zero hm0 rfl rfl
    have hda : da = ⟨E.ρ j, off * te.size, none⟩ := ha.resolve_right (by omega)
    subst hda
    rcases g4 with ⟨k1, _, _⟩ | ⟨_, hF, hl1, hl2, cc, hcc, hcs, val, hval⟩
    · rw [h0] at k1; cases k1
    obtain ⟨ys, hys⟩ : ∃ ys, ys = List.replicate n y := ⟨_, rfl⟩
    have hwy : Wf te.size ys := by rw [hys]; exact fun x hx => by rw [List.eq_of_mem_replicate hx]; exact hyw
    have hyl : ys.length = n := by rw [hys]; simp
    have hly : (flat ys).length = n * te.size := by rw [flat_length hwy, hyl]
    obtain ⟨cs, hcse⟩ : ∃ cs, cs = (Builtin.zeroCells zv.cells n).toList := ⟨_, rfl⟩
    have hzs2 : zv.cells.size = te.size := by rw [← hz3, hzl]
    have hcl : cs.length = n * te.size := by rw [hcse, Array.length_toList, size_zeroCells, hzs2]
    have hyc := elemV_den (H := ⟨nowM B F, w⟩) (E := E) hz hy hyw hz2
    have hcd : ∀ (q : Nat) (u : PV) (v : Value), (flat ys)[q]? = some u → cs[q]? = some v → PV.Den ⟨nowM B F, w⟩ u v := by
      intro q u v hu hv
      have hq : q < n * te.size := by have := lt_of_some hu; omega
      rw [hys] at hu
      have hq' := flat_rep hyw.1 g0 n q u hu
      have hqm : q % te.size < te.size := Nat.mod_lt _ g0
      refine hyc _ u v hq' ?_
      have e1 : (Builtin.zeroCells zv.cells n).toList[q]? = some zv.cells[q % zv.cells.size]! := by
        simp [Builtin.zeroCells, hzs2, hq]
      rw [hcse, e1] at hv
      cases hv
      rw [hzs2]
      have : q % te.size < zv.cells.size := by omega
      simp [this]
    have hone : ∀ v ∈ cs, v.oneCell' = true := by
      intro v hv
      obtain ⟨q, hq, he⟩ := List.getElem_of_mem hv
      have hq2 : q < (flat ys).length := by rw [hly, ← hcl]; exact hq
      exact ((hcd q _ v (List.getElem?_eq_getElem hq2) (by rw [List.getElem?_eq_getElem hq, he])).one (flat_one hwy _ (List.getElem_mem hq2))).1
    have hfl : (flat xs).length = xs.length * te.size := flat_length g1
    have hb1 : (off + n) * te.size ≤ xs.length * te.size := Nat.mul_le_mul_right _ (by omega)
    have hb2 : xs.length * te.size ≤ E.κ j * te.size := Nat.mul_le_mul_right _ hl1
    rw [Nat.add_mul] at hb1
    have hst := run_storeCells_at P (E.ρ j) (off * te.size) T cs 0 cc w hcc (by omega) hone
    rw [Nat.add_zero] at hst
    refine resOf_value (x := .tuple #[]) (w' := w.setRow (E.ρ j) (cc.toList.take (off * te.size) ++ cs ++ cc.toList.drop (off * te.size + cs.length)).toArray) (run hvv ?_) ?_
    · exact run_clearG w t o.type e _ n dc h1.und h2.info hz1 (fun a ha _ => by cases ha; rw [← hcse]; exact hst) (fun h => by rcases h with h | h; cases h; exact absurd h hm0)
    have hkeep : Keeps (F j) w (w.setRow (E.ρ j) (cc.toList.take (off * te.size) ++ cs ++ cc.toList.drop (off * te.size + cs.length)).toArray) :=
      ⟨by simp, by simp, by simp, by simp, fun b hb hn => setRow_other w _ b _ fun e => hn ((hF b).2 e)⟩
    have hset := setRow_heap w (E.ρ j) cc (cc.toList.take (off * te.size) ++ cs ++ cc.toList.drop (off * te.size + cs.length)).toArray T (0, 0) hcc
    have hle := hI.le (F' := F) (touch hkeep) (fun i k h => .inl h)
    have hzl : zs.length = xs.length := by rw [hzs]; simp; omega
    have hzf : flat zs = (flat xs).take (off * te.size) ++ flat ys ++ (flat xs).drop (off * te.size + (flat ys).length) := by
      rw [hzs, ← hys, flat_append, flat_append, flat_take g1, flat_drop g1, hly, Nat.add_mul, List.append_assoc]
    have harr : ArrAt ⟨nowM B F, w.setRow (E.ρ j) (cc.toList.take (off * te.size) ++ cs ++ cc.toList.drop (off * te.size + cs.length)).toArray⟩ (E.ρ j) (E.κ j) T te.size zs :=
      ArrAt.write hcs hval (p := off * te.size) (us := flat ys) (vs := cs) (by rw [hcl, hly]) hcd (by omega) (by omega) hzf (by omega) hl2 hle hset
    have hwz : Wf te.size zs := by rw [hzs, ← hys]; exact Wf.append g1.take (Wf.append hwy g1.drop)
    have hI' := hI.set1 hjl hkeep (r := .arr T te.size zs) ⟨g0, hwz, by omega, g3, .inr ⟨h0, hF, harr⟩⟩ (fun T c h => by rw [hj] at h; cases h)
    exact (Post.of (k := fun v own f => k v ⟨st.n, frMap f st.fr, own⟩) (f := fun v => v) hI (by rw [frMap_id]; exact hI') (hkeep.mono fun b _ c => ⟨j, hX, c⟩) (fun i k h => .inl h) (fun i k _ h => h) htup (by rw [frMap_id]; exact hk)).s
end Go.Lx
