/- Guest: the game: a span was asked, that may not be. Conditions: on sizes. -/
import Derived.Test.YtegkojnngdlfaaaGreatLGx2
set_option maxRecDepth 100000
set_option maxHeartbeats 64000000
set_option linter.unusedSimpArgs false
set_option linter.unusedVariables false
namespace Go.Proofs.YtegkojnngdlfaaaGreat
open Go Go.Lx
open Go.Sx (vcIf)
def askE (lo hi : List UInt8) (m : Nat) : Nat := if 17 < lo.length ∨ 17 < hi.length then 6 else if bl hi lo = true then 5 else if 24 ≤ m then 10 else 0
theorem gmSendZ (c : Int) (ws : List PV) (g : Gq) (nt : Nat) (xt : List PV) (how : Int) : FnL Tryz.prog fSend [.own 9 0, .p .nils, .p (.int .i64 how)] (gmO c g nt xt ws) fun v own => own = gmO c g nt xt ws :=
  FnL.mono (gmSendN c ws g nt xt how (Q := fun g' nt' xt' => g' = g ∧ nt' = nt ∧ xt' = xt) ⟨rfl, rfl, rfl⟩) (by rintro v own ⟨g', nt', xt', ⟨rfl, rfl, rfl⟩, h⟩; exact h)
theorem asked3 (c : Int) (ws : List PV) (g : Gq) (nt : Nat) (xt : List PV) (l : List Chg) (hg : Deedy g l) (lo hi key a b : List UInt8) (what n ck : Int) (cy cv : List UInt8) (hwh : what = 2 ∨ what = 1 ∧ key.length ≤ 16) (e want dr dO dv : Int) (sn cs : List PV)
    (he : e ≠ 0) (hcase : want ≠ 0 ∧ e = want ∨ want = 0 ∧ ¬(dr = 0 ∧ dO = 0) ∧ e = Int.ofNat (askE lo hi sn.length)) :
    FnL Tryz.prog 39 [.own 9 0, .p (.agg [.str lo, .str hi]), .p (stp what n key a b ck cy cv), .p .nils, .p (.int .i64 e), .p (.int .i64 want), .p (ddP 0 0 0 dr dO dv (.sl sn) (.sl cs))] (gmO c g nt xt ws) fun v own => v = .p (.bool true) ∧ own = gmO c g nt xt ws := by
  have hno := none_spec dr dO dv sn cs
  have hsn := gmSendZ c ws g nt xt n
  have hdd := hg.spec
  clear hg
  obtain ⟨c3, fr, hd, qn, wt, tk, dr', dO', dv', n1, n2, bg, n3, lo0, hi0, o4, n4, n5, n6, ep, sv, x1, x2, x3, x4, x5, x6⟩ := g
  simp only at hdd
  obtain ⟨nl, hnl⟩ : ∃ K, K = lo.length := ⟨_, rfl⟩
  obtain ⟨nh, hnh⟩ : ∃ K, K = hi.length := ⟨_, rfl⟩
  obtain ⟨ns, hns⟩ : ∃ K, K = sn.length := ⟨_, rfl⟩
  obtain ⟨gb, hgb⟩ : ∃ x, x = bl hi lo := ⟨_, rfl⟩
  rcases hwh with rfl | ⟨rfl, hkl⟩
  · refine fn_of_vc eOk fOk fo39 Tryz.func39 rfl rfl rfl fun B hB => ?_
    intro _ _ _ _ _ _ _ _ _ _ _ _ ilt _ _ _ _ bnot orb _ _ _ _ hA _ sq sl _ _ _ _ len slen _ hL _ _ _ hcall _ _ ret hret
    have hgt : bnot (orb (sl lo hi) (sq lo hi)) = gb := by rw [hgb, hA.not, hA.orb, hL.sl, hL.sq]; exact bl_gt lo hi
    cbv
    repeat (first | (refine vcIf.yes ?_ ?_; (focus (simp [smW hA hL]; done)); cbv) | (refine vcIf.no ?_ ?_; (focus (simp [smW hA hL]; done)); cbv))
    by_cases hw0 : want = 0
    rotate_left
    · obtain rfl : e = want := by rcases hcase with h | h; exact h.2; exact absurd h.1 hw0
      repeat (first | (refine vcIf.yes ?_ ?_; (focus (simp [smW hA hL, hw0]; done)); cbv) | (refine vcIf.no ?_ ?_; (focus (simp [smW hA hL, hw0]; done)); cbv))
      refine hcall _ _ _ _ _ (CallEv.lend [0, 1, 2, 3, 4, 5, 6, 7, 8, 9, 10] hsn rfl (.cons (.own 9 9 0 rfl) (.cons (.p _) (.cons (.p _) .nil))) (gmT2 rfl rfl rfl rfl rfl rfl rfl rfl rfl rfl rfl rfl rfl rfl rfl rfl rfl rfl rfl rfl rfl) ?_)
      rintro _ _ rfl
      cbv
      refine hcall _ _ _ _ _ (CallEv.lend [0, 1, 2, 3, 4, 5, 6] hdd rfl (.cons (.own 0 0 0 rfl) .nil) (gqT rfl rfl rfl rfl rfl rfl rfl rfl rfl rfl rfl rfl rfl) ?_)
      rintro _ _ ⟨z, hz, rfl, rfl⟩
      cbv
      repeat (first | (refine vcIf.yes ?_ ?_; (focus (simp [smW hA hL, hw0]; done)); cbv) | (refine vcIf.no ?_ ?_; (focus (simp [smW hA hL, hw0]; done)); cbv))
      exact hret _ (RetEv.convW (ConvW.pack [0, 1, 2, 3, 4, 5, 6, 7, 8, 9, 10] hB rfl) (RetEv.ret eOk rfl ⟨rfl, rfl⟩))
    subst hw0
    obtain ⟨hnn, hE⟩ : ¬(dr = 0 ∧ dO = 0) ∧ e = Int.ofNat (askE lo hi sn.length) := by rcases hcase with h | h; exact absurd rfl h.1; exact h.2
    rw [decide_eq_false hnn] at hno
    unfold askE at hE
    rw [← hnl, ← hnh, ← hns, show bl hi lo = gb from hgb.symm] at hE
    clear hcase
    repeat (first | (refine vcIf.yes ?_ ?_; (focus (simp [smW hA hL]; done)); cbv) | (refine vcIf.no ?_ ?_; (focus (simp [smW hA hL]; done)); cbv))
    refine hcall _ _ _ _ _ (CallEv.same hno rfl ?_)
    rintro _ _ ⟨_, rfl, rfl, rfl⟩
    cbv
    repeat (first | (refine vcIf.yes ?_ ?_; (focus (simp [smW hA hL]; done)); cbv) | (refine vcIf.no ?_ ?_; (focus (simp [smW hA hL]; done)); cbv))
    by_cases q1 : 17 < nl
    · rw [if_pos (.inl q1)] at hE
      subst hE
      have q1' : ilt 17 (slen lo) = true := by rw [hA.lt, hL.slen, ← hnl]; exact decide_eq_true (by omega)
      rw [q1']
      cbv
      repeat (first | (refine vcIf.yes ?_ ?_; (focus (simp [smW hA hL]; done)); cbv) | (refine vcIf.no ?_ ?_; (focus (simp [smW hA hL]; done)); cbv))
      refine hcall _ _ _ _ _ (CallEv.lend [0, 1, 2, 3, 4, 5, 6, 7, 8, 9, 10] hsn rfl (.cons (.own 9 9 0 rfl) (.cons (.p _) (.cons (.p _) .nil))) (gmT2 rfl rfl rfl rfl rfl rfl rfl rfl rfl rfl rfl rfl rfl rfl rfl rfl rfl rfl rfl rfl rfl) ?_)
      rintro _ _ rfl
      cbv
      refine hcall _ _ _ _ _ (CallEv.lend [0, 1, 2, 3, 4, 5, 6] hdd rfl (.cons (.own 0 0 0 rfl) .nil) (gqT rfl rfl rfl rfl rfl rfl rfl rfl rfl rfl rfl rfl rfl) ?_)
      rintro _ _ ⟨z, hz, rfl, rfl⟩
      cbv
      repeat (first | (refine vcIf.yes ?_ ?_; (focus (simp [smW hA hL]; done)); cbv) | (refine vcIf.no ?_ ?_; (focus (simp [smW hA hL]; done)); cbv))
      exact hret _ (RetEv.convW (ConvW.pack [0, 1, 2, 3, 4, 5, 6, 7, 8, 9, 10] hB rfl) (RetEv.ret eOk rfl ⟨rfl, rfl⟩))
    have q1' : ilt 17 (slen lo) = false := by rw [hA.lt, hL.slen, ← hnl]; exact decide_eq_false (by omega)
    by_cases q2 : 17 < nh
    · rw [if_pos (.inr q2)] at hE
      subst hE
      have q2' : ilt 17 (slen hi) = true := by rw [hA.lt, hL.slen, ← hnh]; exact decide_eq_true (by omega)
      rw [q1']
      cbv
      rw [q2']
      cbv
      repeat (first | (refine vcIf.yes ?_ ?_; (focus (simp [smW hA hL]; done)); cbv) | (refine vcIf.no ?_ ?_; (focus (simp [smW hA hL]; done)); cbv))
      refine hcall _ _ _ _ _ (CallEv.lend [0, 1, 2, 3, 4, 5, 6, 7, 8, 9, 10] hsn rfl (.cons (.own 9 9 0 rfl) (.cons (.p _) (.cons (.p _) .nil))) (gmT2 rfl rfl rfl rfl rfl rfl rfl rfl rfl rfl rfl rfl rfl rfl rfl rfl rfl rfl rfl rfl rfl) ?_)
      rintro _ _ rfl
      cbv
      refine hcall _ _ _ _ _ (CallEv.lend [0, 1, 2, 3, 4, 5, 6] hdd rfl (.cons (.own 0 0 0 rfl) .nil) (gqT rfl rfl rfl rfl rfl rfl rfl rfl rfl rfl rfl rfl rfl) ?_)
      rintro _ _ ⟨z, hz, rfl, rfl⟩
      cbv
      repeat (first | (refine vcIf.yes ?_ ?_; (focus (simp [smW hA hL]; done)); cbv) | (refine vcIf.no ?_ ?_; (focus (simp [smW hA hL]; done)); cbv))
      exact hret _ (RetEv.convW (ConvW.pack [0, 1, 2, 3, 4, 5, 6, 7, 8, 9, 10] hB rfl) (RetEv.ret eOk rfl ⟨rfl, rfl⟩))
    have q2' : ilt 17 (slen hi) = false := by rw [hA.lt, hL.slen, ← hnh]; exact decide_eq_false (by omega)
    rw [if_neg (by omega)] at hE
    rw [q1']
    cbv
    rw [q2']
    cbv
    repeat (first | (refine vcIf.yes ?_ ?_; (focus (simp [smW hA hL]; done)); cbv) | (refine vcIf.no ?_ ?_; (focus (simp [smW hA hL]; done)); cbv))
    cases gb with
    | true =>
      rw [if_pos rfl] at hE
      subst hE
      refine vcIf.yes hgt ?_
      cbv
      repeat (first | (refine vcIf.yes ?_ ?_; (focus (simp [smW hA hL]; done)); cbv) | (refine vcIf.no ?_ ?_; (focus (simp [smW hA hL]; done)); cbv))
      refine hcall _ _ _ _ _ (CallEv.lend [0, 1, 2, 3, 4, 5, 6, 7, 8, 9, 10] hsn rfl (.cons (.own 9 9 0 rfl) (.cons (.p _) (.cons (.p _) .nil))) (gmT2 rfl rfl rfl rfl rfl rfl rfl rfl rfl rfl rfl rfl rfl rfl rfl rfl rfl rfl rfl rfl rfl) ?_)
      rintro _ _ rfl
      cbv
      refine hcall _ _ _ _ _ (CallEv.lend [0, 1, 2, 3, 4, 5, 6] hdd rfl (.cons (.own 0 0 0 rfl) .nil) (gqT rfl rfl rfl rfl rfl rfl rfl rfl rfl rfl rfl rfl rfl) ?_)
      rintro _ _ ⟨z, hz, rfl, rfl⟩
      cbv
      repeat (first | (refine vcIf.yes ?_ ?_; (focus (simp [smW hA hL]; done)); cbv) | (refine vcIf.no ?_ ?_; (focus (simp [smW hA hL]; done)); cbv))
      exact hret _ (RetEv.convW (ConvW.pack [0, 1, 2, 3, 4, 5, 6, 7, 8, 9, 10] hB rfl) (RetEv.ret eOk rfl ⟨rfl, rfl⟩))
    | false =>
      rw [if_neg (by decide)] at hE
      refine vcIf.no hgt ?_
      cbv
      by_cases q3 : 24 ≤ ns
      · rw [if_pos q3] at hE
        subst hE
        refine vcIf.yes (by rw [hA.le, hL.len, ← hns]; exact decide_eq_true (by omega)) ?_
        cbv
        repeat (first | (refine vcIf.yes ?_ ?_; (focus (simp [smW hA hL]; done)); cbv) | (refine vcIf.no ?_ ?_; (focus (simp [smW hA hL]; done)); cbv))
        refine hcall _ _ _ _ _ (CallEv.lend [0, 1, 2, 3, 4, 5, 6, 7, 8, 9, 10] hsn rfl (.cons (.own 9 9 0 rfl) (.cons (.p _) (.cons (.p _) .nil))) (gmT2 rfl rfl rfl rfl rfl rfl rfl rfl rfl rfl rfl rfl rfl rfl rfl rfl rfl rfl rfl rfl rfl) ?_)
        rintro _ _ rfl
        cbv
        refine hcall _ _ _ _ _ (CallEv.lend [0, 1, 2, 3, 4, 5, 6] hdd rfl (.cons (.own 0 0 0 rfl) .nil) (gqT rfl rfl rfl rfl rfl rfl rfl rfl rfl rfl rfl rfl rfl) ?_)
        rintro _ _ ⟨z, hz, rfl, rfl⟩
        cbv
        repeat (first | (refine vcIf.yes ?_ ?_; (focus (simp [smW hA hL]; done)); cbv) | (refine vcIf.no ?_ ?_; (focus (simp [smW hA hL]; done)); cbv))
        exact hret _ (RetEv.convW (ConvW.pack [0, 1, 2, 3, 4, 5, 6, 7, 8, 9, 10] hB rfl) (RetEv.ret eOk rfl ⟨rfl, rfl⟩))
      · rw [if_neg q3] at hE
        exact absurd hE he
  · obtain ⟨K, hK⟩ : ∃ K, K = key.length := ⟨_, rfl⟩
    rw [← hK] at hkl
    refine fn_of_vc eOk fOk fo39 Tryz.func39 rfl rfl rfl fun B hB => ?_
    intro _ _ _ _ _ _ _ _ _ _ _ _ ilt _ _ _ _ bnot orb _ _ _ _ hA _ sq sl _ _ _ _ len slen _ hL _ _ _ hcall _ _ ret hret
    have hsl : ilt 16 (slen key) = false := by rw [hA.lt, hL.slen, ← hK]; exact decide_eq_false (by omega)
    have hgt : bnot (orb (sl lo hi) (sq lo hi)) = gb := by rw [hgb, hA.not, hA.orb, hL.sl, hL.sq]; exact bl_gt lo hi
    cbv
    repeat (first | (refine vcIf.yes ?_ ?_; (focus (simp [smW hA hL]; done)); cbv) | (refine vcIf.no ?_ ?_; (focus (simp [smW hA hL]; done)); cbv))
    rw [hsl]
    cbv
    repeat (first | (refine vcIf.yes ?_ ?_; (focus (simp [smW hA hL]; done)); cbv) | (refine vcIf.no ?_ ?_; (focus (simp [smW hA hL]; done)); cbv))
    by_cases hw0 : want = 0
    rotate_left
    · obtain rfl : e = want := by rcases hcase with h | h; exact h.2; exact absurd h.1 hw0
      repeat (first | (refine vcIf.yes ?_ ?_; (focus (simp [smW hA hL, hw0]; done)); cbv) | (refine vcIf.no ?_ ?_; (focus (simp [smW hA hL, hw0]; done)); cbv))
      refine hcall _ _ _ _ _ (CallEv.lend [0, 1, 2, 3, 4, 5, 6, 7, 8, 9, 10] hsn rfl (.cons (.own 9 9 0 rfl) (.cons (.p _) (.cons (.p _) .nil))) (gmT2 rfl rfl rfl rfl rfl rfl rfl rfl rfl rfl rfl rfl rfl rfl rfl rfl rfl rfl rfl rfl rfl) ?_)
      rintro _ _ rfl
      cbv
      refine hcall _ _ _ _ _ (CallEv.lend [0, 1, 2, 3, 4, 5, 6] hdd rfl (.cons (.own 0 0 0 rfl) .nil) (gqT rfl rfl rfl rfl rfl rfl rfl rfl rfl rfl rfl rfl rfl) ?_)
      rintro _ _ ⟨z, hz, rfl, rfl⟩
      cbv
      repeat (first | (refine vcIf.yes ?_ ?_; (focus (simp [smW hA hL, hw0]; done)); cbv) | (refine vcIf.no ?_ ?_; (focus (simp [smW hA hL, hw0]; done)); cbv))
      exact hret _ (RetEv.convW (ConvW.pack [0, 1, 2, 3, 4, 5, 6, 7, 8, 9, 10] hB rfl) (RetEv.ret eOk rfl ⟨rfl, rfl⟩))
    subst hw0
    obtain ⟨hnn, hE⟩ : ¬(dr = 0 ∧ dO = 0) ∧ e = Int.ofNat (askE lo hi sn.length) := by rcases hcase with h | h; exact absurd rfl h.1; exact h.2
    rw [decide_eq_false hnn] at hno
    unfold askE at hE
    rw [← hnl, ← hnh, ← hns, show bl hi lo = gb from hgb.symm] at hE
    clear hcase
    repeat (first | (refine vcIf.yes ?_ ?_; (focus (simp [smW hA hL]; done)); cbv) | (refine vcIf.no ?_ ?_; (focus (simp [smW hA hL]; done)); cbv))
    refine hcall _ _ _ _ _ (CallEv.same hno rfl ?_)
    rintro _ _ ⟨_, rfl, rfl, rfl⟩
    cbv
    repeat (first | (refine vcIf.yes ?_ ?_; (focus (simp [smW hA hL]; done)); cbv) | (refine vcIf.no ?_ ?_; (focus (simp [smW hA hL]; done)); cbv))
    by_cases q1 : 17 < nl
    · rw [if_pos (.inl q1)] at hE
      subst hE
      have q1' : ilt 17 (slen lo) = true := by rw [hA.lt, hL.slen, ← hnl]; exact decide_eq_true (by omega)
      rw [q1']
      cbv
      repeat (first | (refine vcIf.yes ?_ ?_; (focus (simp [smW hA hL]; done)); cbv) | (refine vcIf.no ?_ ?_; (focus (simp [smW hA hL]; done)); cbv))
      refine hcall _ _ _ _ _ (CallEv.lend [0, 1, 2, 3, 4, 5, 6, 7, 8, 9, 10] hsn rfl (.cons (.own 9 9 0 rfl) (.cons (.p _) (.cons (.p _) .nil))) (gmT2 rfl rfl rfl rfl rfl rfl rfl rfl rfl rfl rfl rfl rfl rfl rfl rfl rfl rfl rfl rfl rfl) ?_)
      rintro _ _ rfl
      cbv
      refine hcall _ _ _ _ _ (CallEv.lend [0, 1, 2, 3, 4, 5, 6] hdd rfl (.cons (.own 0 0 0 rfl) .nil) (gqT rfl rfl rfl rfl rfl rfl rfl rfl rfl rfl rfl rfl rfl) ?_)
      rintro _ _ ⟨z, hz, rfl, rfl⟩
      cbv
      repeat (first | (refine vcIf.yes ?_ ?_; (focus (simp [smW hA hL]; done)); cbv) | (refine vcIf.no ?_ ?_; (focus (simp [smW hA hL]; done)); cbv))
      exact hret _ (RetEv.convW (ConvW.pack [0, 1, 2, 3, 4, 5, 6, 7, 8, 9, 10] hB rfl) (RetEv.ret eOk rfl ⟨rfl, rfl⟩))
    have q1' : ilt 17 (slen lo) = false := by rw [hA.lt, hL.slen, ← hnl]; exact decide_eq_false (by omega)
    by_cases q2 : 17 < nh
    · rw [if_pos (.inr q2)] at hE
      subst hE
      have q2' : ilt 17 (slen hi) = true := by rw [hA.lt, hL.slen, ← hnh]; exact decide_eq_true (by omega)
      rw [q1']
      cbv
      rw [q2']
      cbv
      repeat (first | (refine vcIf.yes ?_ ?_; (focus (simp [smW hA hL]; done)); cbv) | (refine vcIf.no ?_ ?_; (focus (simp [smW hA hL]; done)); cbv))
      refine hcall _ _ _ _ _ (CallEv.lend [0, 1, 2, 3, 4, 5, 6, 7, 8, 9, 10] hsn rfl (.cons (.own 9 9 0 rfl) (.cons (.p _) (.cons (.p _) .nil))) (gmT2 rfl rfl rfl rfl rfl rfl rfl rfl rfl rfl rfl rfl rfl rfl rfl rfl rfl rfl rfl rfl rfl) ?_)
      rintro _ _ rfl
      cbv
      refine hcall _ _ _ _ _ (CallEv.lend [0, 1, 2, 3, 4, 5, 6] hdd rfl (.cons (.own 0 0 0 rfl) .nil) (gqT rfl rfl rfl rfl rfl rfl rfl rfl rfl rfl rfl rfl rfl) ?_)
      rintro _ _ ⟨z, hz, rfl, rfl⟩
      cbv
      repeat (first | (refine vcIf.yes ?_ ?_; (focus (simp [smW hA hL]; done)); cbv) | (refine vcIf.no ?_ ?_; (focus (simp [smW hA hL]; done)); cbv))
      exact hret _ (RetEv.convW (ConvW.pack [0, 1, 2, 3, 4, 5, 6, 7, 8, 9, 10] hB rfl) (RetEv.ret eOk rfl ⟨rfl, rfl⟩))
    have q2' : ilt 17 (slen hi) = false := by rw [hA.lt, hL.slen, ← hnh]; exact decide_eq_false (by omega)
    rw [if_neg (by omega)] at hE
    rw [q1']
    cbv
    rw [q2']
    cbv
    repeat (first | (refine vcIf.yes ?_ ?_; (focus (simp [smW hA hL]; done)); cbv) | (refine vcIf.no ?_ ?_; (focus (simp [smW hA hL]; done)); cbv))
    cases gb with
    | true =>
      rw [if_pos rfl] at hE
      subst hE
      refine vcIf.yes hgt ?_
      cbv
      repeat (first | (refine vcIf.yes ?_ ?_; (focus (simp [smW hA hL]; done)); cbv) | (refine vcIf.no ?_ ?_; (focus (simp [smW hA hL]; done)); cbv))
      refine hcall _ _ _ _ _ (CallEv.lend [0, 1, 2, 3, 4, 5, 6, 7, 8, 9, 10] hsn rfl (.cons (.own 9 9 0 rfl) (.cons (.p _) (.cons (.p _) .nil))) (gmT2 rfl rfl rfl rfl rfl rfl rfl rfl rfl rfl rfl rfl rfl rfl rfl rfl rfl rfl rfl rfl rfl) ?_)
      rintro _ _ rfl
      cbv
      refine hcall _ _ _ _ _ (CallEv.lend [0, 1, 2, 3, 4, 5, 6] hdd rfl (.cons (.own 0 0 0 rfl) .nil) (gqT rfl rfl rfl rfl rfl rfl rfl rfl rfl rfl rfl rfl rfl) ?_)
      rintro _ _ ⟨z, hz, rfl, rfl⟩
      cbv
      repeat (first | (refine vcIf.yes ?_ ?_; (focus (simp [smW hA hL]; done)); cbv) | (refine vcIf.no ?_ ?_; (focus (simp [smW hA hL]; done)); cbv))
      exact hret _ (RetEv.convW (ConvW.pack [0, 1, 2, 3, 4, 5, 6, 7, 8, 9, 10] hB rfl) (RetEv.ret eOk rfl ⟨rfl, rfl⟩))
    | false =>
      rw [if_neg (by decide)] at hE
      refine vcIf.no hgt ?_
      cbv
      by_cases q3 : 24 ≤ ns
      · rw [if_pos q3] at hE
        subst hE
        refine vcIf.yes (by rw [hA.le, hL.len, ← hns]; exact decide_eq_true (by omega)) ?_
        cbv
        repeat (first | (refine vcIf.yes ?_ ?_; (focus (simp [smW hA hL]; done)); cbv) | (refine vcIf.no ?_ ?_; (focus (simp [smW hA hL]; done)); cbv))
        refine hcall _ _ _ _ _ (CallEv.lend [0, 1, 2, 3, 4, 5, 6, 7, 8, 9, 10] hsn rfl (.cons (.own 9 9 0 rfl) (.cons (.p _) (.cons (.p _) .nil))) (gmT2 rfl rfl rfl rfl rfl rfl rfl rfl rfl rfl rfl rfl rfl rfl rfl rfl rfl rfl rfl rfl rfl) ?_)
        rintro _ _ rfl
        cbv
        refine hcall _ _ _ _ _ (CallEv.lend [0, 1, 2, 3, 4, 5, 6] hdd rfl (.cons (.own 0 0 0 rfl) .nil) (gqT rfl rfl rfl rfl rfl rfl rfl rfl rfl rfl rfl rfl rfl) ?_)
        rintro _ _ ⟨z, hz, rfl, rfl⟩
        cbv
        repeat (first | (refine vcIf.yes ?_ ?_; (focus (simp [smW hA hL]; done)); cbv) | (refine vcIf.no ?_ ?_; (focus (simp [smW hA hL]; done)); cbv))
        exact hret _ (RetEv.convW (ConvW.pack [0, 1, 2, 3, 4, 5, 6, 7, 8, 9, 10] hB rfl) (RetEv.ret eOk rfl ⟨rfl, rfl⟩))
      · rw [if_neg q3] at hE
        exact absurd hE he
end Go.Proofs.YtegkojnngdlfaaaGreat
