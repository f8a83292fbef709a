/- A rule for the calculus: an owned row of bytes as a string. No conditions. -/
import Derived.Test.YtdbagbklhchbkaaSx13
import Derived.Laws.OwnMore
set_option linter.unusedSimpArgs false
set_option linter.unusedVariables false
namespace Go.Sx
open Go

theorem EEv.strR {B : Base} {P : Program} {E : TEnv} (hE : TOk P E) {o : Oper} {st : St} {k : V → List Res → Hp → Prop} {src dst e T : TypeId} {x : Operand} {ts td te : TI} {a : Option Addr} {n c j : Nat} {xs : List Value} {l : List UInt8}
    (ho : o.op = .convert src dst x) (hx : ev st.fr x = some (.v (.slice a n c))) (hs : E.get src = some ts) (hks : ts.kd = .slice e) (he : E.get e = some te) (hke : te.kd = .int .u8) (hd : E.get dst = some td) (hkd : td.kd = .str)
    (hj : st.own[j]? = some (.abs (Row T 1 (.slice a n c) n xs))) (hl : xs = byteV l) (hn : l.length = n) (h : k (.v (.string ⟨l.toArray⟩)) st.own st.H) : EEv B P o st k := by
  intro ρ F ac w hI
  subst hl
  obtain ⟨i1, d1, h1⟩ := hE.get hs
  obtain ⟨i2, d2, h2⟩ := hE.get he
  obtain ⟨i3, d3, h3⟩ := hE.get hd
  have hd1 := kd_slice h1 hks
  have hd2 := kd_int h2 hke
  have hd3 := kd_str h3 hkd
  subst hd1 hd2 hd3
  obtain ⟨hloc, hrow, hF⟩ := hI.held j _ hj
  have e1 : ac.eval x = .slice a n c := (hI.ev hx).1
  have hrun : (execOp ac.eval o).run P w = .ok (.value (.string ⟨l.toArray⟩)) w := by
    simp only [execOp, ho]
    refine run_v ?_
    rw [e1]
    rcases hrow.2 with ⟨hv, h0⟩ | ⟨g, cap, cur, hv, _⟩
    · injection hv with ha hn0 hc0
      subst ha hn0 hc0
      have hl : l = [] := List.eq_nil_of_length_eq_zero hn
      subst hl
      rw [run_convert_bytes_nil w src e h1.und h2.und _ _ dst h3.und]
      rfl
    · injection hv with ha hn0 hc0
      subst ha hc0
      have hcell : ∀ j u, (byteV l)[j]? = some u → w.cell? ((⟨g, 0, none⟩ : Addr).add j) = some u := World.ownsRow.cells (g := g) hrow rfl
      rw [run_convert_bytes_string w src dst e _ n _ h1.und h2.und h3.und]
      have hload : (loadCells ⟨g, 0, none⟩ n).run P w = .ok (byteV l).toArray w := by
        rw [← hn, ← byteV_length]
        exact run_loadCells_list (P := P) w _ (byteV l) hcell
      have hload' : (loadCells ⟨g, 0, none⟩ n).run P w = .ok ((l.map fun b => (b.toNat : Int)).map (Value.int .u8)).toArray w := by
        rw [hload]; congr 2; simp [byteV]
      rw [run_bytesToString w _ n _ _ hload', push_all]
      simp
  unfold resOf
  rw [hrun]
  exact ⟨.v (.string ⟨l.toArray⟩), st.own, st.H, ρ, F, rfl, trivial, hI, Prot.refl _ _, fun _ _ h => h, h⟩

/-- A settled slice, nil or not, behind an owned row. -/
theorem EEv.appendV {B : Base} {P : Program} {E : TEnv} (hE : TOk P E) {o : Oper} {st : St} {k : V → List Res → Hp → Prop} {t T : TypeId} {s x : Operand} {ti te : TI} {z : List Value}
    {v : Value} {n : Nat} {xs : List Value} {a : Option Addr} {m c j : Nat} {ys : List Value}
    (ho : o.op = .call { callee := .builtin .append, args := #[s, x], argTypes := #[t, t] }) (ht : E.get t = some ti) (hk : ti.kd = .slice T) (he : E.get T = some te) (hz : te.zero = some z) (hzl : z.length = te.size) (hs0 : 0 < te.size)
    (hs : ev st.fr s = some (.v v)) (hj : st.own[j]? = some (.abs (Row T te.size v n xs))) (hx : ev st.fr x = some (.v (.slice a m c))) (S : SlV st.H te.size a m c ys)
    (hyc : ∀ y ∈ ys, y.cells.toList.length = te.size) (hy1 : ∀ y ∈ ys, ∀ u ∈ y.cells.toList, u.oneCell' = true)
    (h63 : n + m ≤ maxLen) (hb : (n + m) * te.bytes ≤ 140737488355328)
    (h : ∀ a' c' n' xs' H', st.H.Le H' → n' = n + m → xs' = xs ++ (ys.flatMap fun y => y.cells.toList) → k (.v (.slice a' n' c')) (st.own.set j (.abs (Row T te.size (.slice a' n' c') n' xs'))) H') : EEv B P o st k := by
  cases a with
  | some ad => exact EEv.append hE ho ht hk he hz hzl hs0 hs hj hx S.sl S.len hyc hy1 h63 hb h
  | none =>
    obtain ⟨rfl, rfl⟩ := S.nil rfl
    have hys : ys = [] := List.eq_nil_of_length_eq_zero S.len
    subst hys
    intro ρ F ac w hI
    obtain ⟨inf, d, his⟩ := hE.get ht
    have hd := kd_slice his hk
    subst hd
    obtain ⟨inf', d', his'⟩ := hE.get he
    obtain ⟨hloc, hrow, hF⟩ := hI.held j _ hj
    obtain ⟨a', c', rfl⟩ : ∃ a' c', v = .slice a' n c' := by
      rcases hrow.2 with ⟨rfl, h0⟩ | ⟨g, cap, cur, rfl, _⟩
      · exact ⟨Option.none, 0, by rw [h0]⟩
      · exact ⟨_, _, rfl⟩
    have e1 : ac.eval s = .slice a' n c' := (hI.ev hs).1
    have e2 : ac.eval x = .slice none 0 0 := (hI.ev hx).1
    have hr := run_append_owned_none (P := P) w 0 t o.type T inf' te.size his.und his'.info _ n xs hrow
    have hrun : (execOp ac.eval o).run P w = .ok (.value (.slice a' n c')) w := by
      simp only [execOp, ho, resolve, invoke, Go.builtin, Sem.run_bind, Sem.run_pure, Result.andThen_ok, List.map_toArray, List.map_cons, List.map_nil, e1, e2, hr]
    unfold resOf
    rw [hrun]
    refine ⟨.v (.slice a' n c'), st.own, st.H, ρ, F, rfl, trivial, hI, Prot.refl _ _, fun _ _ h => h, ?_⟩
    have hk := h a' c' n xs st.H (Hp.Le.refl _) rfl (by simp)
    have hset : st.own.set j (.abs (Row T te.size (.slice a' n c') n xs)) = st.own := by
      obtain ⟨hlt, he⟩ := List.getElem?_eq_some_iff.1 hj
      rw [← he]; exact List.set_getElem_self hlt
    rwa [hset] at hk
end Go.Sx
