/- Guest: the game: a span was asked; errors. Conditions: on sizes. -/
import Derived.Test.YtegkojnngdlfaaaGreatLGx1
set_option maxRecDepth 100000
set_option maxHeartbeats 64000000
set_option linter.unusedSimpArgs false
set_option linter.unusedVariables false
namespace Go.Proofs.YtegkojnngdlfaaaGreat
open Go Go.Lx
open Go.Sx (vcIf)
abbrev stp (what n : Int) (key a b : List UInt8) (ck : Int) (cy cv : List UInt8) : PV := .agg [.int .i64 what, .int .i64 n, .str key, .str a, .str b, .int .i64 ck, .str cy, .str cv]
structure Deedy (g : Gq) (l : List Chg) : Prop where
  n1 : g.x1.length = g.n1
  n1b : g.n1 ≤ 30
  n2 : g.n2 = g.x2.length
  n2b : g.n2 ≤ 48
  x2 : g.x2 = cP l
  x1 : ∀ i, i < g.n1 → ∃ lo hi af us, g.x1[i]? = some (.agg [.str lo, .str hi, .int .i64 af, .sl us]) ∧ Wf 2 us ∧ us.length ≤ 2000
theorem Deedy.spec {g : Gq} {l : List Chg} (h : Deedy g l) : FnL Tryz.prog 9 [.own 0 0] g.R fun v own => ∃ z, z = !(decide (g.wt = 0)) ∧ v = .p (.tup [ddP 0 0 0 g.dr g.dO g.dv (.sl g.x1) (.sl g.x2), .bool z]) ∧ own = g.R :=
  gDeed_spec g h.n1 h.n1b h.n2 h.n2b l h.x2 h.x1
theorem asked1 (c : Int) (ws : List PV) (g : Gq) (nt : Nat) (xt : List PV) (lo hi key a b : List UInt8) (n ck : Int) (cy cv : List UInt8) (hkey : 16 < key.length) (hk2 : key.length < 9223372036854775807) (want dr dO dv : Int) (sn cs : List PV) :
    FnL Tryz.prog 39 [.own 9 0, .p (.agg [.str lo, .str hi]), .p (stp 1 n key a b ck cy cv), .p .nils, .p (.int .i64 6), .p (.int .i64 want), .p (ddP 0 0 0 dr dO dv (.sl sn) (.sl cs))] (gmO c g nt xt ws) fun v own => v = .p (.bool true) ∧ own = gmO c g nt xt ws := by
  obtain ⟨c3, fr, hd, qn, wt, tk, dr', dO', dv', n1, n2, bg, n3, lo0, hi0, o4, n4, n5, n6, ep, sv, x1, x2, x3, x4, x5, x6⟩ := g
  obtain ⟨K, hK⟩ : ∃ K, K = key.length := ⟨_, rfl⟩
  rw [← hK] at hkey hk2
  refine fn_of_vc eOk fOk fo39 Tryz.func39 rfl rfl rfl fun B hB => ?_
  intro _ _ _ _ _ _ _ _ _ _ _ ieq ilt _ _ _ _ _ _ _ _ _ _ hA _ _ sl _ _ _ _ _ slen _ hL _ _ _ _ _ _ ret hret
  have hsl : ilt 16 (slen key) = true := by rw [hA.lt, hL.slen, ← hK]; exact decide_eq_true (by omega)
  cbv
  repeat (first | (refine vcIf.yes ?_ ?_; (focus (simp [smW hA hL]; done)); cbv) | (refine vcIf.no ?_ ?_; (focus (simp [smW hA hL]; done)); cbv))
  rw [hsl]
  cbv
  repeat (first | (refine vcIf.yes ?_ ?_; (focus (simp [smW hA hL]; done)); cbv) | (refine vcIf.no ?_ ?_; (focus (simp [smW hA hL]; done)); cbv))
  refine hret _ (RetEv.convW (ConvW.pack [0, 1, 2, 3, 4, 5, 6, 7, 8, 9, 10] hB rfl) (RetEv.ret eOk rfl ⟨?_, rfl⟩))
  show V.p (.bool (ieq 6 6)) = _
  rw [hA.eq]; rfl
theorem asked2 (c : Int) (ws : List PV) (g : Gq) (nt : Nat) (xt : List PV) (lo hi key a b : List UInt8) (what n ck : Int) (cy cv : List UInt8) (hwh : what = 2 ∨ what = 1 ∧ key.length ≤ 16) (dv : Int) (sn cs : List PV) :
    FnL Tryz.prog 39 [.own 9 0, .p (.agg [.str lo, .str hi]), .p (stp what n key a b ck cy cv), .p .nils, .p (.int .i64 4), .p (.int .i64 0), .p (ddP 0 0 0 0 0 dv (.sl sn) (.sl cs))] (gmO c g nt xt ws) fun v own => v = .p (.bool true) ∧ own = gmO c g nt xt ws := by
  obtain ⟨c3, fr, hd, qn, wt, tk, dr', dO', dv', n1, n2, bg, n3, lo0, hi0, o4, n4, n5, n6, ep, sv, x1, x2, x3, x4, x5, x6⟩ := g
  have hno := none_spec 0 0 dv sn cs
  rw [show decide ((0 : Int) = 0 ∧ (0 : Int) = 0) = true by decide] at hno
  rcases hwh with rfl | ⟨rfl, hkl⟩
  · refine fn_of_vc eOk fOk fo39 Tryz.func39 rfl rfl rfl fun B hB => ?_
    intro _ _ _ _ _ _ _ _ _ _ _ ieq ilt _ _ _ _ _ _ _ _ _ _ hA _ _ sl _ _ _ _ _ slen _ hL _ _ _ hcall _ _ ret hret
    cbv
    repeat (first | (refine vcIf.yes ?_ ?_; (focus (simp [smW hA hL]; done)); cbv) | (refine vcIf.no ?_ ?_; (focus (simp [smW hA hL]; done)); cbv))
    repeat (first | (refine vcIf.yes ?_ ?_; (focus (simp [smW hA hL]; done)); cbv) | (refine vcIf.no ?_ ?_; (focus (simp [smW hA hL]; done)); cbv))
    refine hcall _ _ _ _ _ (CallEv.same hno rfl ?_)
    rintro _ _ ⟨_, rfl, rfl, rfl⟩
    cbv
    repeat (first | (refine vcIf.yes ?_ ?_; (focus (simp [smW hA hL]; done)); cbv) | (refine vcIf.no ?_ ?_; (focus (simp [smW hA hL]; done)); cbv))
    refine hret _ (RetEv.convW (ConvW.pack [0, 1, 2, 3, 4, 5, 6, 7, 8, 9, 10] hB rfl) (RetEv.ret eOk rfl ⟨?_, rfl⟩))
    show V.p (.bool (ieq 4 4)) = _
    rw [hA.eq]; rfl
  · obtain ⟨K, hK⟩ : ∃ K, K = key.length := ⟨_, rfl⟩
    rw [← hK] at hkl
    refine fn_of_vc eOk fOk fo39 Tryz.func39 rfl rfl rfl fun B hB => ?_
    intro _ _ _ _ _ _ _ _ _ _ _ ieq ilt _ _ _ _ _ _ _ _ _ _ hA _ _ sl _ _ _ _ _ slen _ hL _ _ _ hcall _ _ ret hret
    have hsl : ilt 16 (slen key) = false := by rw [hA.lt, hL.slen, ← hK]; exact decide_eq_false (by omega)
    cbv
    repeat (first | (refine vcIf.yes ?_ ?_; (focus (simp [smW hA hL]; done)); cbv) | (refine vcIf.no ?_ ?_; (focus (simp [smW hA hL]; done)); cbv))
    rw [hsl]
    cbv
    repeat (first | (refine vcIf.yes ?_ ?_; (focus (simp [smW hA hL]; done)); cbv) | (refine vcIf.no ?_ ?_; (focus (simp [smW hA hL]; done)); cbv))
    refine hcall _ _ _ _ _ (CallEv.same hno rfl ?_)
    rintro _ _ ⟨_, rfl, rfl, rfl⟩
    cbv
    repeat (first | (refine vcIf.yes ?_ ?_; (focus (simp [smW hA hL]; done)); cbv) | (refine vcIf.no ?_ ?_; (focus (simp [smW hA hL]; done)); cbv))
    refine hret _ (RetEv.convW (ConvW.pack [0, 1, 2, 3, 4, 5, 6, 7, 8, 9, 10] hB rfl) (RetEv.ret eOk rfl ⟨?_, rfl⟩))
    show V.p (.bool (ieq 4 4)) = _
    rw [hA.eq]; rfl
end Go.Proofs.YtegkojnngdlfaaaGreat
