/- A calculus for walks, part 12: a string appended to bytes. No conditions. -/
import Derived.Test.YtdbagbklhchbkaaSx11
import Derived.Lib.AppendStr
set_option linter.unusedSimpArgs false
set_option linter.unusedVariables false
namespace Go.Sx
open Go Go.Lib

theorem EEv.appendS {B : Base} {P : Program} {E : TEnv} (hE : TOk P E) {o : Oper} {st : St} {k : V → List Res → Hp → Prop} {t u T : TypeId} {s x : Operand} {ti ui te : TI}
    {v : Value} {n : Nat} {xs : List Value} {j : Nat} {l : List UInt8}
    (ho : o.op = .call { callee := .builtin .append, args := #[s, x], argTypes := #[t, u] }) (ht : E.get t = some ti) (hk : ti.kd = .slice T) (hu : E.get u = some ui) (hku : ui.kd = .str)
    (he : E.get T = some te) (hzP : (P.info? T).map (·.zero) = some (some (.int .u8 0))) (hts : te.size = 1) (htb : te.bytes = 1) (htk : te.kd = .int .u8)
    (hs : ev st.fr s = some (.v v)) (hj : st.own[j]? = some (.abs (Row T 1 v n xs))) (hx : ev st.fr x = some (.v (.string ⟨l.toArray⟩))) (hb : n + l.length ≤ 140737488355328)
    (h : ∀ a' c' n' xs' H', st.H.Le H' → n' = n + l.length → xs' = xs ++ byteV l → k (.v (.slice a' n' c')) (st.own.set j (.abs (Row T 1 (.slice a' n' c') n' xs'))) H') : EEv B P o st k := by
  intro ρ F a w hI
  obtain ⟨inf, d, his⟩ := hE.get ht
  obtain ⟨inf', d', his'⟩ := hE.get he
  obtain ⟨inf2, d2, his2⟩ := hE.get hu
  have hd := kd_slice his hk
  have hd2 := kd_str his2 hku
  subst hd hd2
  have hzv : inf'.zero = some (.int .u8 0) := by
    have := hzP; rw [his'.info] at this
    simpa using this
  have hsz : inf'.size = 1 := by rw [← his'.size, hts]
  have hby : inf'.bytes = 1 := by rw [← his'.bytes, htb]
  obtain ⟨hloc, hrow, hF⟩ := hI.held j _ hj
  have hcells : strCells ⟨l.toArray⟩ = byteV l := by simp [strCells, byteV]
  have hssz : (⟨l.toArray⟩ : ByteArray).size = l.length := by simp [ByteArray.size]
  have h63 : n + (⟨l.toArray⟩ : ByteArray).size ≤ maxLen := by rw [hssz]; unfold maxLen; omega
  obtain ⟨v', w', hr, hown, hg, hnil⟩ := run_append_own_string (P := P) w 0 t u o.type T inf' his.und his2.und his'.info hzv hsz hby v n xs hrow ⟨l.toArray⟩ h63 (by rw [hssz]; exact hb) (Nat.zero_le _)
  rw [hssz, hcells] at hown
  rw [hssz] at hnil
  have hshape : ∃ a' c', v' = .slice a' (n + l.length) c' := by
    rcases hown.2 with ⟨rfl, h0⟩ | ⟨g, cap, cur, rfl, _⟩
    · exact ⟨none, 0, by rw [h0]⟩
    · exact ⟨_, _, rfl⟩
  obtain ⟨a', c', rfl⟩ := hshape
  have hkeep : Keeps (F j) w w' := ⟨hg.os, hg.tape, hg.output, hg.size, fun k hk hn => hg.block k hk fun e => hn ((hF k).2 e.symm)⟩
  have hG : ∀ k, (fun k => (Value.slice a' (n + l.length) c').ownBlock = some k) k → F j k ∨ w.heap.size ≤ k := by
    intro k hk
    rcases hrow.2 with ⟨rfl, rfl⟩ | ⟨g, cap, cur, rfl, _, hgg, hnc, hcm, hcs, htake⟩
    · by_cases hm0 : l.length = 0
      · have := hnil.2 ⟨rfl, hm0⟩
        rw [this] at hk; cases hk
      · have hr2 := run_append_nil_string (P := P) w t u o.type T inf' _ his.und his2.und his'.info hzv ⟨l.toArray⟩ (by rw [hssz]; omega) (by rw [hssz]; omega) (by rw [hssz, hby]; omega)
        rw [hr2] at hr
        injection hr with h1 h2
        rw [← h1] at hk
        cases hk
        exact .inr (Nat.le_refl _)
    · have hcs' : cur.size = cap := by simpa using hcs
      have hxl : xs.length = n := by simpa using hrow.1
      by_cases hroom : n + l.length ≤ cap
      · have hr2 := run_append_room_string (P := P) w t u o.type T inf' his.und his2.und his'.info hsz g n cap cur hgg ⟨l.toArray⟩ (by rw [hssz]; exact hroom) (by rw [hssz, hcs']; exact hroom)
        rw [hr2] at hr
        injection hr with h1 h2
        rw [← h1] at hk
        exact .inl ((hF k).2 hk)
      · have holds : ∀ j u, xs[j]? = some u → w.cell? ((⟨g, 0, none⟩ : Addr).add j) = some u := World.ownsRow.cells (g := g) hrow rfl
        have hr2 := run_append_grow_string (P := P) w t u o.type T inf' _ his.und his2.und his'.info hzv ⟨g, 0, none⟩ n cap xs (by rw [hsz]; simpa using hxl) holds ⟨l.toArray⟩ (by rw [hssz]; omega) (by rw [hssz]; omega)
          (by rw [hby, hssz]; exact growslice_fits (by omega) (by omega))
        rw [hr2] at hr
        injection hr with h1 h2
        rw [← h1] at hk
        cases hk
        exact .inr (Nat.le_refl _)
  have hle := (hI.turn hj (Row.loc T 1 (.slice a' (n + l.length) c') (n + l.length) (xs ++ byteV l)) hkeep hG ⟨hown, fun k => Iff.rfl⟩).2
  unfold resOf
  have e1 : a.eval s = v := (hI.ev hs).1
  have e2 : a.eval x = .string ⟨l.toArray⟩ := (hI.ev hx).1
  have hrun : (execOp a.eval o).run P w = .ok (.value (.slice a' (n + l.length) c')) w' := by
    simp only [execOp, ho, resolve, invoke, Go.builtin, Sem.run_bind, Sem.run_pure, Result.andThen_ok, List.map_toArray, List.map_cons, List.map_nil, e1, e2, hr]
  rw [hrun]
  exact EvPost.turn hI hj (Row.loc T 1 (.slice a' (n + l.length) c') (n + l.length) (xs ++ byteV l)) hkeep hG ⟨hown, fun k => Iff.rfl⟩ (h a' c' _ _ _ hle rfl rfl)
end Go.Sx
