/- A calculus of logical values, part 36: an append of zeros that grows. No conditions. -/
import Derived.Test.YtdeolllpbflemaaLY5
import Derived.Lib.AppendZeros
set_option linter.unusedSimpArgs false
set_option linter.unusedVariables false
namespace Go.Lx
open Go
open Go.Sx (NP Keeps Hp Keep0 TI TEnv TOk Kd resOf)

theorem run_append_growZ {P : Program} (w : World) (t u ty e : TypeId) (i : TypeInfo) (z : Value) (k kn : IntKind) (ht : P.underlying t = some (.slice e)) (hu : P.underlying u = some (.int kn)) (hi : P.info? e = some i) (hz : i.zero = some z)
    (b : Option Addr) (sLen sCap m : Nat) (olds : List Value) (hold : (Builtin.firstCells i.size sLen (.slice b sLen sCap)).run P w.drew = .ok olds.toArray w.drew) (h0 : 0 < m) (hs : 0 < i.size)
    (hg : sCap < sLen + m) (h63 : ((sLen + m : Nat) : Int) ≤ 9223372036854775807) (hm : m * i.bytes ≤ 281474976710656) (hfit : Builtin.nextslicecap (sLen + m) sCap * i.bytes ≤ 281474976710656) :
    (Builtin.append_ #[t, u] ty #[.slice b sLen sCap, .int k m]).run P w =
      .ok (.slice (some ⟨w.heap.size, 0, none⟩) (sLen + m) (grownCap w (sLen + m) sCap e))
        (w.drew.alloc (.cells (olds ++ (Builtin.zeroCells z.cells m).toList ++ (Builtin.zeroCells z.cells (grownCap w (sLen + m) sCap e - (sLen + m))).toList).toArray e)) := by
  have hn : ¬ (sLen + m ≤ sCap) := by omega
  have hm0 : m ≠ 0 := by omega
  have hs0 : i.size ≠ 0 := by omega
  have hw : IntKind.i64.wrap (m : Int) = m := by rw [IntKind.wrap_i64]; omega
  have h63' : ¬ (9223372036854775807 < ((sLen : Int) + (m : Int))) := by omega
  have h48' : ¬ (281474976710656 < Builtin.nextslicecap (sLen + m) sCap * i.bytes) := by omega
  have hneg : ¬ ((m : Int) < 0) := by omega
  have hmi : ¬ (281474976710656 < (m : Int) * (i.bytes : Int)) := by
    rw [← Int.natCast_mul]; omega
  have hns : ¬ (m * i.size = 0) := Nat.mul_ne_zero hm0 hs0
  simp [Builtin.append_, run_underlying ht, run_underlying hu, sizeOf, typeInfo, zeroValue, hi, hz, hw, hn, hneg, hmi, hns, asIntOf, h63', h48', Question.forced, hold, newRow, grownCap, asInt]
  congr 2; apply Array.ext'; simp

/-- append(s, make([]T, m)...) that has no room in a row of known capacity -/
theorem OpEv.appendZ {B : Base} {P : Program} {TE : TEnv} (hE : TOk P TE) {o : Oper} {t u e : TypeId} {s x : Operand} {ti ui te : TI} {ik kk : IntKind} (ho : o.op = .call { callee := .builtin .append, args := #[s, x], argTypes := #[t, u] })
    (hti : TE.get t = some ti) (hkd : ti.kd = .slice e) (hte : TE.get e = some te) (hui : TE.get u = some ui) (huk : ui.kd = .int ik) {X : Nat → Bool} {st : St} {k : V → St → Prop} {j off n K m : Nat} {xs : List PV} {T : TypeId}
    (hs : ev st.fr s = some (.vw j te.size off n (some K))) (hj : st.own[j]? = some (.arr T te.size xs)) (hx : ev st.fr x = some (.p (.int kk (m : Int)))) {z : List V} {y : PV} (hz : zeroV te = some z) (hzl : z.length = te.size) (hy : elemV te.agg z = some y) (hyw : y.wf te.size) (hsz : 0 < te.size)
    (h0 : 0 < m) (hg : K < off + n + m) (h63 : n + m ≤ maxLen) (h47 : (n + m) * te.bytes ≤ 140737488355328)
    (hk : ∀ K' n' zs, n' = n + m → n' ≤ K' → K' ≤ maxLen → zs = (xs.drop off).take n ++ List.replicate (K' - n) y → k (.vw st.own.length te.size 0 n' (some K')) ⟨st.n, st.fr, st.own ++ [.arr e te.size zs]⟩) : OpEv B P o X st k := by
  intro E F a w hI
  have has := hI.ev hs
  obtain ⟨_, hwf, _⟩ := hI.held j _ hj
  obtain ⟨ad, c, olds, hb, hnc, hold, hol, hln, hod⟩ := view_cells (P := P) hI has hj
  have hcK : off + c = K := by
    rw [hb] at has
    cases has with
    | vwn _ _ _ _ _ _ _ hc => simpa using hc.symm
    | vw _ _ _ _ _ _ _ _ _ hc => exact hc
  have hgg : c < n + m := by omega
  obtain ⟨inf, d, his⟩ := hE.get hti
  have := kd_slice his hkd; subst this
  obtain ⟨inf', d', his'⟩ := hE.get hte
  obtain ⟨infu, du, hisu⟩ := hE.get hui
  have := kd_int hisu huk; subst this
  obtain ⟨zv, hz1, hz2, hz3⟩ := zero_size his' hz
  have hcs : zv.cells.size = te.size := by rw [← hz3, hzl]
  have h63' : ((n + m : Nat) : Int) ≤ 9223372036854775807 := by unfold maxLen at h63; omega
  have hmb : m * te.bytes ≤ (n + m) * te.bytes := Nat.mul_le_mul_right _ (by omega)
  have hr := run_append_growZ (P := P) w t u o.type e inf' zv kk ik his.und hisu.und his'.info hz1 ad n c m olds (by rw [← his'.size]; exact hold _ rfl) h0 (by rw [← his'.size]; exact hsz) hgg h63' (by rw [← his'.bytes]; omega) (by rw [← his'.bytes]; exact growslice_fits hgg h47)
  have hge := grownCap_ge w (n + m) c e
  have hmx := grownCap_le_maxLen w (n + m) c e h63
  obtain ⟨κ, hκ⟩ : ∃ κ, κ = grownCap w (n + m) c e := ⟨_, rfl⟩
  rw [← hκ] at hge hmx hr
  obtain ⟨zs, hzs⟩ : ∃ zs, zs = (xs.drop off).take n ++ List.replicate (κ - n) y := ⟨_, rfl⟩
  have hxe : a.eval x = .int kk (m : Int) := (hI.ev hx).int_inv
  obtain ⟨w', hw'⟩ : ∃ w', w' = w.drew.alloc (.cells (olds ++ (Builtin.zeroCells zv.cells m).toList ++ (Builtin.zeroCells zv.cells (κ - (n + m))).toList).toArray e) := ⟨_, rfl⟩
  rw [← hw'] at hr
  have hk0 : Keep0 w w' := by rw [hw']; exact Keep0.drewAlloc _ _
  have hwr : Wf te.size (List.replicate (κ - n) y) := fun x hx => by rw [List.eq_of_mem_replicate hx]; exact hyw
  have hlr : (flat (List.replicate (κ - n) y)).length = (κ - n) * te.size := by rw [flat_length hwr]; simp
  have hzl2 : zs.length = κ := by rw [hzs, List.length_append, hln]; simp; omega
  have hwz : Wf te.size zs := by rw [hzs]; exact Wf.append hwf.drop.take hwr
  have hzz : (Builtin.zeroCells zv.cells m).toList ++ (Builtin.zeroCells zv.cells (κ - (n + m))).toList = (Builtin.zeroCells zv.cells (κ - n)).toList := by
    have hlen1 : (Builtin.zeroCells zv.cells m).toList.length = m * te.size := by rw [Array.length_toList, size_zeroCells, hcs]
    apply List.ext_getElem?
    intro l
    have e : κ - n = m + (κ - (n + m)) := by omega
    by_cases hl : l < m * te.size
    · rw [List.getElem?_append_left (by omega)]
      have : l < (κ - n) * te.size := by rw [e, Nat.add_mul]; omega
      simp [Builtin.zeroCells, hcs, hl, this]
    · rw [List.getElem?_append_right (by omega), hlen1]
      have em : (l - m * te.size) % te.size = l % te.size := by
        have : l = (l - m * te.size) + te.size * m := by rw [Nat.mul_comm te.size m]; omega
        conv => rhs; rw [this, Nat.add_mul_mod_self_left]
      by_cases hl2 : l < (κ - n) * te.size
      · have : l - m * te.size < (κ - (n + m)) * te.size := by rw [e, Nat.add_mul] at hl2; omega
        simp [Builtin.zeroCells, hcs, hl2, this, em]
      · have : ¬ l - m * te.size < (κ - (n + m)) * te.size := by rw [e, Nat.add_mul] at hl2; omega
        simp [Builtin.zeroCells, hcs, hl2, this]
  have hyc := fun H => elemV_den (H := H) (E := E) hz hy hyw hz2
  refine resOf_value (x := .slice (some ⟨w.heap.size, 0, none⟩) (n + m) κ) (w' := w') (by simp only [execOp, ho, resolve, invoke, Go.builtin, Sem.run_bind, Sem.run_pure, Result.andThen_ok, List.map_toArray, List.map_cons, List.map_nil, hxe, hb, hr]) ?_
  refine (Post.newFull (k := fun v own f => k v ⟨st.n, frMap f st.fr, own⟩) (X := X) hI hk0 (T := e) (xs := zs) (n := n + m) hsz hwz (by omega) hzl2 (fun M hle => ?_) ?_).s
  · have hcl : (olds ++ (Builtin.zeroCells zv.cells (κ - n)).toList).length = (flat zs).length := by
      rw [hzs, flat_append]
      simp only [List.length_append, hol, hlr, Array.length_toList, size_zeroCells, hcs]
    refine ArrAt.ofNew (cells := olds ++ (Builtin.zeroCells zv.cells (κ - n)).toList) (rest := []) (by rw [List.append_nil, hw', List.append_assoc, hzz]; exact heap_alloc_new w.drew _) (by omega) hmx (by rw [List.append_nil, hcl, flat_length hwz, hzl2]; exact Nat.le_refl _) hcl fun j q z hq hz => ?_
    rw [hzs, flat_append] at hq
    by_cases hj : j < (flat ((xs.drop off).take n)).length
    · rw [List.getElem?_append_left hj] at hq
      rw [List.getElem?_append_left (by omega)] at hz
      exact (hod j q z hq hz).mono hle
    · rw [List.getElem?_append_right (by omega)] at hq
      rw [List.getElem?_append_right (by omega), hol] at hz
      obtain ⟨l, hl⟩ : ∃ l, l = j - (flat ((xs.drop off).take n)).length := ⟨_, rfl⟩
      rw [← hl] at hq hz
      have hlt : l < (κ - n) * te.size := by rw [← hlr]; exact lt_of_some hq
      have hq' := flat_rep hyw.1 hsz _ l q hq
      have hlm : l % te.size < te.size := Nat.mod_lt _ hsz
      refine hyc _ _ q z hq' ?_
      have e1 : (Builtin.zeroCells zv.cells (κ - n)).toList[l]? = some zv.cells[l % zv.cells.size]! := by
        simp [Builtin.zeroCells, hcs, hlt]
      rw [e1] at hz
      cases hz
      rw [hcs]
      have : l % te.size < zv.cells.size := by omega
      simp [this]
  · simp only [frMap_id]
    exact hk κ (n + m) zs rfl hge hmx hzs
end Go.Lx
