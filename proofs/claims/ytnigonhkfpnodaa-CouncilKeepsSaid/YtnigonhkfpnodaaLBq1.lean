/- What is left of records behind a crash: plain facts. No conditions. -/
import Derived.Test.YtnigonhkfpnodaaLBo6
import Derived.Test.YtnigonhkfpnodaaLFr5
import Derived.Test.YtnigonhkfpnodaaLSp1
import Derived.Test.YtnigonhkfpnodaaLTape3
set_option maxRecDepth 100000
set_option linter.unusedSimpArgs false
set_option linter.unusedVariables false
namespace Go.Proofs.Ytnigonhkfpnodaa
open Go Go.Lx

theorem decT_enct (s : List UInt8) (hs : s.length ≤ 65536) (r : List UInt8) : decT (enct s ++ r) = (s, (enct s).length, 0) := by
  unfold decT enct
  rw [List.append_assoc, dec_enc0 s.length _ (by omega)]
  simp only [ne_eq, not_true_eq_false, if_false]
  rw [if_neg (by omega), if_neg (by simp)]
  simp only [List.drop_left, List.take_left, List.length_append]
theorem decT_back {l s : List UInt8} {u : Nat} (h : decT l = (s, u, 0)) : s.length ≤ 65536 ∧ u = (enct s).length ∧ l = enct s ++ l.drop u := by
  obtain ⟨_, h2⟩ := rdT_back (l := l) (l' := l.drop u) (s := s) (e := 0) (by unfold rdT; rw [if_neg (by simp), h])
  have h3 := decT_ok (l := l) (by rw [h])
  have h4 : s.length ≤ 65536 := by
    have := h3.2.2.2.1
    rw [h] at this
    simp only at this
    rw [this, List.length_take]; omega
  refine ⟨h4, ?_, h2⟩
  have h5 := decT_enct s h4 (l.drop u)
  rw [← h2, h] at h5
  exact (Prod.mk.inj (Prod.mk.inj h5).2).1
theorem rdR_rbytes : ∀ (l : List (List UInt8)), (∀ r ∈ l, r.length ≤ 65532) → ∀ Y, rdR (rbytes l ++ Y) = (l ++ (rdR Y).1, (rbytes l).length + (rdR Y).2)
  | [], _, Y => by simp [rbytes, encts]
  | r :: l, h, Y => by
    have h1 := h r (by simp)
    rw [show r :: l = [r] ++ l from rfl, rbytes_append, rbytes_one, List.append_assoc]
    rw [rdR_step (decT_enct (cseal r) (by rw [cseal_length]; omega) _) (copen_seal r), List.drop_left, rdR_rbytes l (fun x hx => h x (by simp [hx])) Y]
    simp; omega
theorem rdR_cases (Y : List UInt8) : rdR Y = ([], 0) ∨ ∃ m, decT Y = (cseal m, (enct (cseal m)).length, 0) ∧ Y = enct (cseal m) ++ Y.drop (enct (cseal m)).length ∧ rdR Y = (m :: (rdR (Y.drop (enct (cseal m)).length)).1, (enct (cseal m)).length + (rdR (Y.drop (enct (cseal m)).length)).2) := by
  by_cases hc : (decT Y).2.2 = 0 ∧ (copen (decT Y).1).2 = 0
  · obtain ⟨⟨s, u, e⟩, hd⟩ : ∃ x, decT Y = x := ⟨_, rfl⟩
    rw [hd] at hc
    obtain ⟨rfl, hc2⟩ := hc
    obtain ⟨⟨r, f⟩, hf⟩ : ∃ x, copen s = x := ⟨_, rfl⟩
    simp only at hc2
    rw [hf] at hc2
    simp only at hc2
    subst hc2
    obtain rfl := copen_ok hf
    obtain ⟨g1, g2, g3⟩ := decT_back hd
    right
    refine ⟨r, by rw [hd, g2], by rw [← g2]; exact g3, ?_⟩
    rw [rdR_step hd hf, g2]
  · left; exact rdR_stop (by omega)
theorem rdR_back (k : Nat) : ∀ Y : List UInt8, Y.length ≤ k → rbytes (rdR Y).1 = Y.take (rdR Y).2 := by
  induction k with
  | zero => intro Y h; rw [show Y = [] from List.length_eq_zero_iff.1 (by omega), rdR_nil]; simp [rbytes, encts]
  | succ k ih =>
    intro Y h
    rcases rdR_cases Y with h1 | ⟨m, h1, h2, h3⟩
    · rw [h1]; simp [rbytes, encts]
    · have hp : 0 < (enct (cseal m)).length := by unfold enct; rw [List.length_append, cseal_length]; omega
      have hi := ih (Y.drop (enct (cseal m)).length) (by
        have := congrArg List.length h2
        rw [List.length_append, List.length_drop] at this
        rw [List.length_drop]; omega)
      obtain ⟨W, hW⟩ : ∃ W, W = Y.drop (enct (cseal m)).length := ⟨_, rfl⟩
      rw [← hW] at h2 h3 hi
      rw [h3, show m :: (rdR W).1 = [m] ++ (rdR W).1 from rfl, rbytes_append, rbytes_one, hi]
      conv => rhs; rw [h2]
      rw [List.take_length_add_append]

/-- What is left of bytes: the first ones, and perhaps one more that was turned. -/
def Frag (X Y : List UInt8) : Prop := (∃ k, Y = X.take k) ∨ ∃ k x y, X[k]? = some x ∧ y ≠ x ∧ Y = X.take k ++ [y]
theorem cut_bad {Z : List UInt8} {s : List UInt8} (hs : s.length ≤ 65536) (hZ : Z = enct s) {k : Nat} (hk : k < Z.length) : rdR (Z.take k) = ([], 0) := by
  rcases rdR_cases (Z.take k) with h1 | ⟨m, h1, h2, h3⟩
  · exact h1
  · exfalso
    obtain ⟨g1, _, _⟩ := decT_back h1
    have e1 : Z = enct (cseal m) ++ ((Z.take k).drop (enct (cseal m)).length ++ Z.drop k) := by
      rw [← List.append_assoc, ← h2, List.take_append_drop]
    have e2 := decT_enct (cseal m) g1 ((Z.take k).drop (enct (cseal m)).length ++ Z.drop k)
    rw [← e1] at e2
    have e3 := decT_enct s hs []
    rw [List.append_nil, ← hZ, e2] at e3
    have e4 := (Prod.mk.inj (Prod.mk.inj e3).2).1
    have e5 := congrArg List.length h2
    rw [List.length_append, List.length_take] at e5
    omega
theorem le4_inj2 {a b : List UInt8} (h : le4 (csum a) = le4 (csum b)) : csum a = csum b := le4_inj (csum_lt a) (csum_lt b) h
theorem cby_inj {c : Nat} (hc : c < 4294967296) {x y : UInt8} (h : cby c x = cby c y) : x = y := by
  have hx : x.toNat < 4294967296 := by have := x.toNat_lt; omega
  have hy : y.toNat < 4294967296 := by have := y.toNat_lt; omega
  have := csts_inj 8 (Nat.xor_lt_two_pow (n := 32) hc hx) (Nat.xor_lt_two_pow (n := 32) hc hy) h
  rw [Nat.xor_comm c, Nat.xor_comm c] at this
  exact UInt8.toNat_inj.1 (xor_left_inj' this)
theorem seal_last {m r A : List UInt8} {x y : UInt8} (hm : cseal m = A ++ [y]) (hr : cseal r = A ++ [x]) : y = x := by
  have hl : m.length = r.length := by
    have h1 := congrArg List.length hm
    have h2 := congrArg List.length hr
    rw [cseal_length, List.length_append, List.length_singleton] at h1 h2
    omega
  rcases List.eq_nil_or_concat m with rfl | ⟨q, z, rfl⟩
  · have : r = [] := List.length_eq_zero_iff.1 hl.symm
    subst this
    rw [hm] at hr
    have := List.append_inj_right hr rfl
    simpa using this
  · rcases List.eq_nil_or_concat r with rfl | ⟨p, w, rfl⟩
    · simp at hl
    · simp only [List.concat_eq_append] at hm hr hl
      unfold cseal at hm hr
      rw [← List.append_assoc] at hm hr
      obtain ⟨m1, m2⟩ := List.append_inj' hm rfl
      obtain ⟨r1, r2⟩ := List.append_inj' hr rfl
      rw [← r1] at m1
      obtain ⟨n1, n2⟩ := List.append_inj m1 rfl
      subst n2
      have e := le4_inj2 n1
      have e2 := csum_inj e
      rw [cbs_snoc, cbs_snoc] at e2
      have e3 := cby_inj (cbs_lt q (by decide)) e2
      simp only [List.cons.injEq, and_true] at m2 r2
      rw [← m2, ← r2, e3]
theorem turn_bad {Z : List UInt8} {r : List UInt8} (hr : r.length ≤ 65532) (hZ : Z = enct (cseal r)) {k : Nat} {x y : UInt8} (hx : Z[k]? = some x) (hy : y ≠ x) : rdR (Z.take k ++ [y]) = ([], 0) := by
  have hk : k < Z.length := (List.getElem?_eq_some_iff.1 hx).1
  obtain ⟨Y, hY⟩ : ∃ Y, Y = Z.take k ++ [y] := ⟨_, rfl⟩
  rw [← hY]
  have hYl : Y.length = k + 1 := by rw [hY, List.length_append, List.length_take, List.length_singleton]; omega
  rcases rdR_cases Y with h1 | ⟨m, h1, h2, h3⟩
  · exact h1
  · exfalso
    obtain ⟨g1, _, _⟩ := decT_back h1
    rw [cseal_length] at g1
    obtain ⟨W, hW⟩ : ∃ W, W = Y.drop (enct (cseal m)).length := ⟨_, rfl⟩
    rw [← hW] at h2
    have hl := congrArg List.length h2
    rw [hYl, List.length_append] at hl
    have hen : (enct (cseal m)).length = (enc (m.length + 4)).length + (m.length + 4) := by unfold enct; rw [List.length_append, cseal_length]
    have hzn : Z.length = (enc (r.length + 4)).length + (r.length + 4) := by rw [hZ]; unfold enct; rw [List.length_append, cseal_length]
    -- the length stands ahead of the byte that was turned
    have hpre : ∃ Q, Z = enc (m.length + 4) ++ Q := by
      have e1 : Y.take k = Z.take k := by rw [hY, List.take_append_of_le_length (by rw [List.length_take]; omega), List.take_take, Nat.min_self]
      have e2 : enc (m.length + 4) = (Z.take k).take (enc (m.length + 4)).length := by
        rw [← e1, h2, List.take_take, Nat.min_eq_left (by omega)]
        unfold enct
        rw [cseal_length, List.append_assoc, List.take_left]
      refine ⟨Z.drop (enc (m.length + 4)).length, ?_⟩
      conv => lhs; rw [← List.take_append_drop (enc (m.length + 4)).length Z]
      congr 1
      rw [List.take_take, Nat.min_eq_left (by omega)] at e2
      exact e2.symm
    obtain ⟨Q, hQ⟩ := hpre
    have d1 := dec_enc0 (m.length + 4) Q (by omega)
    rw [← hQ] at d1
    have d2 := dec_enc0 (r.length + 4) (cseal r) (by omega)
    have hZ2 : Z = enc (r.length + 4) ++ cseal r := by rw [hZ]; unfold enct; rw [cseal_length]
    rw [← hZ2, d1] at d2
    have hmr : m.length = r.length := by have := (Prod.mk.inj d2).1; omega
    have hW0 : W = [] := List.length_eq_zero_iff.1 (by rw [hmr] at hen; omega)
    rw [hW0, List.append_nil] at h2
    have hkz : k + 1 = Z.length := by rw [hmr] at hen; rw [hW0] at hl; simp at hl; omega
    -- all but the last byte
    have e1 : Z = Z.take k ++ [x] := by
      conv => lhs; rw [← List.take_append_drop k Z]
      congr 1
      have hlt : k < Z.length := hk
      rw [List.drop_eq_getElem_cons hlt]
      have : Z[k] = x := by rw [List.getElem?_eq_getElem hlt] at hx; exact Option.some.inj hx
      rw [this, List.drop_eq_nil_of_le (by omega)]
    obtain ⟨A, hA⟩ : ∃ A, Z.take k = enc (r.length + 4) ++ A := by
      refine ⟨(Z.take k).drop (enc (r.length + 4)).length, ?_⟩
      conv => lhs; rw [← List.take_append_drop (enc (r.length + 4)).length (Z.take k)]
      congr 1
      rw [List.take_take, Nat.min_eq_left (by omega)]
      conv => lhs; rw [hZ2, List.take_left]
    rw [hA] at e1
    have c1 : cseal r = A ++ [x] := by
      rw [hZ2, List.append_assoc] at e1
      exact List.append_cancel_left e1
    have c2 : cseal m = A ++ [y] := by
      rw [hY, hA, List.append_assoc] at h2
      unfold enct at h2
      rw [cseal_length, hmr] at h2
      exact (List.append_cancel_left h2).symm
    exact hy (seal_last c2 c1)
theorem Frag.append {Z X Y : List UInt8} (h : Frag (Z ++ X) Y) : (∃ Y', Y = Z ++ Y' ∧ Frag X Y') ∨ (∃ k, k < Z.length ∧ Y = Z.take k) ∨ ∃ k x y, Z[k]? = some x ∧ y ≠ x ∧ Y = Z.take k ++ [y] := by
  rcases h with ⟨k, rfl⟩ | ⟨k, x, y, h1, h2, rfl⟩
  · by_cases hk : k < Z.length
    · right; left
      exact ⟨k, hk, List.take_append_of_le_length (by omega)⟩
    · left
      refine ⟨X.take (k - Z.length), ?_, .inl ⟨_, rfl⟩⟩
      rw [List.take_append, List.take_of_length_le (by omega)]
  · by_cases hk : k < Z.length
    · right; right
      rw [List.getElem?_append_left hk] at h1
      exact ⟨k, x, y, h1, h2, by rw [List.take_append_of_le_length (by omega)]⟩
    · left
      rw [List.getElem?_append_right (by omega)] at h1
      refine ⟨X.take (k - Z.length) ++ [y], ?_, .inr ⟨_, x, y, h1, h2, rfl⟩⟩
      rw [List.take_append, List.take_of_length_le (by omega), List.append_assoc]
theorem frag_rd : ∀ (l : List (List UInt8)), (∀ r ∈ l, r.length ≤ 65532) → ∀ Y, Frag (rbytes l) Y → ∃ j, j ≤ l.length ∧ (rdR Y).1 = l.take j
  | [], _, Y, h => by
    have : Y = [] := by
      rcases h with ⟨k, rfl⟩ | ⟨k, x, y, h1, h2, rfl⟩
      · simp [rbytes, encts]
      · simp [rbytes, encts] at h1
    subst this
    exact ⟨0, Nat.le_refl _, by rw [rdR_nil]; rfl⟩
  | r :: l, hf, Y, h => by
    have h1 := hf r (by simp)
    rw [show r :: l = [r] ++ l from rfl, rbytes_append, rbytes_one] at h
    rcases h.append with ⟨Y', rfl, h'⟩ | ⟨k, hk, rfl⟩ | ⟨k, x, y, hx, hy, rfl⟩
    · obtain ⟨j, hj, hj2⟩ := frag_rd l (fun x hx => hf x (by simp [hx])) Y' h'
      refine ⟨j + 1, by simp; omega, ?_⟩
      have := rdR_rbytes [r] (by simpa using h1) Y'
      rw [rbytes_one] at this
      rw [this, hj2]; rfl
    · exact ⟨0, Nat.zero_le _, by rw [cut_bad (by rw [cseal_length]; omega) rfl hk]; rfl⟩
    · exact ⟨0, Nat.zero_le _, by rw [turn_bad h1 rfl hx hy]; rfl⟩
end Go.Proofs.Ytnigonhkfpnodaa
