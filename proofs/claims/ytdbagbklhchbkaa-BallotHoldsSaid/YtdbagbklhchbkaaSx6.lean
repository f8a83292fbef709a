/- A calculus for walks, part 6: literal slices, appends, calls that take a resource along, loops, ends. No conditions. -/
import Derived.Test.YtdbagbklhchbkaaSx5
set_option linter.unusedSimpArgs false
set_option linter.unusedVariables false
namespace Go.Sx
open Go

theorem flat_of {size : Nat} : ∀ {ys : List Value} (hs : ∀ y ∈ ys, y.cells.toList.length = size) {i r : Nat} {y u : Value}, ys[i]? = some y → y.cells.toList[r]? = some u →
    (ys.flatMap fun y => y.cells.toList)[i * size + r]? = some u
  | [], _, i, _, _, _, h, _ => by simp at h
  | x :: ys, hs, i, r, y, u, h, hu => by
    have hx : x.cells.toList.length = size := hs x (by simp)
    cases i with
    | zero =>
      simp at h; subst h
      simp only [List.flatMap_cons, Nat.zero_mul, Nat.zero_add]
      rw [List.getElem?_append_left (lt_of_some hu)]; exact hu
    | succ i =>
      simp only [List.getElem?_cons_succ] at h
      simp only [List.flatMap_cons]
      rw [List.getElem?_append_right (by rw [hx, Nat.succ_mul]; omega), hx]
      rw [show (i + 1) * size + r - size = i * size + r by rw [Nat.succ_mul]; omega]
      exact flat_of (fun y hy => hs y (by simp [hy])) h hu
theorem flat_inv {size : Nat} : ∀ {ys : List Value} (hs : ∀ y ∈ ys, y.cells.toList.length = size) {j : Nat} {u : Value}, (ys.flatMap fun y => y.cells.toList)[j]? = some u →
    ∃ i r y, j = i * size + r ∧ ys[i]? = some y ∧ y.cells.toList[r]? = some u
  | [], _, j, u, h => by simp at h
  | x :: ys, hs, j, u, h => by
    have hx : x.cells.toList.length = size := hs x (by simp)
    simp only [List.flatMap_cons] at h
    by_cases hj : j < x.cells.toList.length
    · rw [List.getElem?_append_left hj] at h
      exact ⟨0, j, x, by simp, rfl, h⟩
    · rw [List.getElem?_append_right (by omega)] at h
      obtain ⟨i, r, y, h1, h2, h3⟩ := flat_inv (fun y hy => hs y (by simp [hy])) h
      exact ⟨i + 1, r, y, by rw [Nat.succ_mul]; omega, by simpa using h2, h3⟩
theorem flat_length {size : Nat} : ∀ {ys : List Value} (hs : ∀ y ∈ ys, y.cells.toList.length = size), (ys.flatMap fun y => y.cells.toList).length = ys.length * size
  | [], _ => by simp
  | x :: ys, hs => by
    simp only [List.flatMap_cons, List.length_append, List.length_cons, Nat.succ_mul]
    rw [flat_length (fun y hy => hs y (by simp [hy])), hs x (by simp)]
    omega

theorem Sl.of_imm {H : Hp} {size b off : Nat} {ys : List Value} (hs : ∀ y ∈ ys, y.cells.toList.length = size) (h : Imm H b off (ys.flatMap fun y => y.cells.toList)) : Sl H size (some ⟨b, off, none⟩) ys := by
  obtain ⟨h1, h2, c, T, fz, hc, hj⟩ := h
  refine .inr ⟨b, off, rfl, fun i x hx => ⟨h1, h2, c, T, fz, hc, fun j u hu => ?_⟩⟩
  rw [Nat.add_assoc]
  exact hj _ _ (flat_of hs hx hu)

/-- What lies in a slice that stays, cell by cell. -/
theorem Sl.cells {H : Hp} {size : Nat} {a : Addr} {ys : List Value} (hs : ∀ y ∈ ys, y.cells.toList.length = size) (h : Sl H size (some a) ys) {M : NP} {w : World} (hl : H.Le ⟨M, w⟩) :
    ∀ j u, (ys.flatMap fun y => y.cells.toList)[j]? = some u → w.cell? (a.add j) = some u := by
  intro j u hu
  obtain ⟨i, r, y, rfl, hy, hr⟩ := flat_inv hs hu
  rcases h with rfl | ⟨b, off, ha, hx⟩
  · simp at hy
  · cases ha
    obtain ⟨_, _, c, T, fz, hc, hj⟩ := (hx i y hy).mono hl
    rw [addr_add, cell_of_row w b _ c T fz hc, ← Nat.add_assoc]
    exact hj _ _ hr

theorem zero_cells (z : List Value) (s : Nat) (hz : z.length = s) : ∀ n, (List.range (n * s)).map (fun i => z.toArray[i % z.toArray.size]!) = (List.range n).flatMap fun _ => z
  | 0 => by simp
  | n + 1 => by
    rw [Nat.succ_mul, List.range_add, List.map_append, zero_cells z s hz n, List.range_succ, List.flatMap_append]
    congr 1
    simp only [List.map_map, List.flatMap_cons, List.flatMap_nil, List.append_nil]
    apply List.ext_getElem?
    intro i
    simp only [List.getElem?_map]
    by_cases hi : i < s
    · rw [List.getElem?_range hi]
      simp only [Option.map_some, Function.comp]
      have hlen : z.toArray.size = s := by simpa using hz
      rw [hlen, Nat.mul_add_mod_of_lt' n s i hi]
      simp [List.getElem?_eq_getElem (hz ▸ hi), hz, hi]
    · have h1 : (List.range s)[i]? = none := List.getElem?_eq_none (by simp; omega)
      have h2 : z[i]? = none := List.getElem?_eq_none (by omega)
      rw [h1, h2]; rfl
where
  Nat.mul_add_mod_of_lt' (n s i : Nat) (hi : i < s) : (n * s + i) % s = i := by
    rw [Nat.mul_comm, Nat.mul_add_mod, Nat.mod_eq_of_lt hi]


/-- What grew is left as it is. -/
theorem Conv.freeze (B : Base) (st : St) (j : Nat) {T : TypeId} {size : Nat} {v : Value} {n : Nat} {ys : List Value} (hj : st.own[j]? = some (.abs (Row T size v n (ys.flatMap fun y => y.cells.toList))))
    (hs : ∀ y ∈ ys, y.cells.toList.length = size) (hs0 : 0 < size) (hS0 : ∀ k, ¬ B.S0 k) :
    Conv B st fun own' H' => own' = st.own.set j .dead ∧ st.H.Le H' ∧ ∃ a c, v = .slice a n c ∧ Sl H' size a ys ∧ ys.length = n ∧ (a = none → n = 0 ∧ c = 0) ∧ n ≤ c := by
  intro ρ F a w hI
  obtain ⟨hloc, hrow, hF⟩ := hI.held j _ hj
  have hjl := lt_of_some hj
  have hle : st.H.Le ⟨nowM B (fun i => if i = j then none' else F i), w⟩ := by
    refine ⟨hI.hp.os, hI.hp.tape, hI.hp.output, hI.hp.size, fun k hk hm => ?_⟩
    have h1 := hI.hp.block k hk hm
    refine ⟨h1.1, ?_⟩
    rintro (c | ⟨i, c⟩)
    · exact h1.2 (.inl c)
    · by_cases hij : i = j
      · rw [if_pos hij] at c; exact c
      · rw [if_neg hij] at c; exact h1.2 (.inr ⟨i, c⟩)
  refine ⟨st.own.set j .dead, ⟨nowM B (fun i => if i = j then none' else F i), w⟩, ρ, fun i => if i = j then none' else F i, ?_, rfl, hle, ?_⟩
  · refine ⟨hI.n, fun t v ht => ?_, hI.defers, fun i r hr => ?_, fun i T c hr v hv => ?_, ?_, ?_, Hp.Le.refl _, hI.keep, ?_, by simpa using hI.pin, hI.bd⟩
    · have := hI.slot t v ht
      exact ⟨this.1, this.2.mono hle (by simp)⟩
    · by_cases hij : i = j
      · subst hij
        simp [hjl] at hr
        subst hr
        intro k hk; rw [if_pos rfl] at hk; exact hk
      · have hr' : st.own[i]? = some r := by simpa [List.getElem?_set, Ne.symm hij] using hr
        exact (hI.held i r hr').congr rfl (fun k => by simp [hij]) (fun _ _ _ _ _ => rfl) fun _ _ => rfl
    · by_cases hij : i = j
      · subst hij; simp [hjl] at hr
      · have hr' : st.own[i]? = some (Res.st T c) := by simpa [List.getElem?_set, Ne.symm hij] using hr
        exact (hI.okc i T c hr' v hv).mono hle (by simp)
    · intro i i' hii k hk1 hk2
      by_cases h1 : i = j
      · rw [if_pos h1] at hk1; exact hk1
      · rw [if_neg h1] at hk1
        by_cases h2 : i' = j
        · rw [if_pos h2] at hk2; exact hk2
        · rw [if_neg h2] at hk2; exact hI.apart i i' hii k hk1 hk2
    · intro i hi k
      have hi' : st.own.length ≤ i := by simpa using hi
      rw [if_neg (by omega)]
      exact hI.low i hi' k
    · intro i k hkk
      by_cases h1 : i = j
      · rw [if_pos h1] at hkk; exact hkk.elim
      · rw [if_neg h1] at hkk; exact hI.fresh i k hkk
  · have hlen := hrow.1
    rw [flat_length hs] at hlen
    have hlen2 : ys.length = n := Nat.eq_of_mul_eq_mul_right hs0 hlen
    rcases hrow.2 with ⟨rfl, rfl⟩ | ⟨g, cap, cur, rfl, _, hgg, hnc, hcm, hcs, htake⟩
    · exact ⟨none, 0, rfl, .inl (List.eq_nil_of_length_eq_zero hlen2), hlen2, fun _ => ⟨rfl, rfl⟩, Nat.le_refl _⟩
    · refine ⟨some ⟨g, 0, none⟩, cap, rfl, ?_, hlen2, (fun h => absurd h (by simp)), hnc⟩
      have hFg : F j g := (hF g).2 rfl
      refine Sl.of_imm hs ⟨?_, hI.foot_lt j g hFg, cur, T, (0, 0), hgg, fun k x hx => ?_⟩
      · rintro (c | ⟨i, c⟩)
        · rcases hI.fresh j g hFg with h | h
          · exact hS0 g h
          · have := hI.bd g c; omega
        · by_cases hij : i = j
          · rw [if_pos hij] at c; exact c
          · rw [if_neg hij] at c; exact hI.apart i j hij g c hFg
      · rw [← htake, List.getElem?_take] at hx
        split at hx
        · simpa using hx
        · cases hx
end Go.Sx
