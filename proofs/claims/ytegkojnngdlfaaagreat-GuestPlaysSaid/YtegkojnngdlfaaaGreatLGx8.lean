/- Guest: the game: one step: the other calls. Conditions: on sizes. -/
import Derived.Test.YtegkojnngdlfaaaGreatLGx7
set_option maxRecDepth 100000
set_option maxHeartbeats 64000000
set_option linter.unusedSimpArgs false
set_option linter.unusedVariables false
namespace Go.Proofs.YtegkojnngdlfaaaGreat
open Go Go.Lx
open Go.Sx (vcIf)
theorem step_get (c : Int) (ws : List PV) (g : Gq) (nt : Nat) (xt : List PV) {l : List Chg} (hg : Deedy g l) {W : Int} (hW : Wnt g W) (key a b : List UInt8) (n ck : Int) (cy cv : List UInt8) {Q : Gq → Nat → List PV → Prop} {Rm : V → List Res → Prop} {kn : List UInt8} (hkn : kn = key ++ [0]) (hkl : key.length < 140737488355328)
    (hm : FnL Tryz.prog 38 [.own 0 0, .p (.str key)] g.R Rm)
    (hRm : ∀ v own, Rm v own → ∃ zs e g', v = .p (.tup [zs, .int .i64 e]) ∧ own = g'.R ∧ FnL Tryz.prog 39 [.own 9 0, .p (.agg [.str key, .str kn]), .p (stp 1 n key a b ck cy cv), .p zs, .p (.int .i64 e), .p (.int .i64 W), .p (ddP 0 0 0 g.dr g.dO g.dv (.sl g.x1) (.sl g.x2))] (gmO c g' nt xt ws) (StQ c ws Q)) :
    FnL Tryz.prog 16 [.own 9 0, .p (stp 1 n key a b ck cy cv)] (gmO c g nt xt ws) (StQ c ws Q) := by
  obtain ⟨c3, fr, hd, qn, wt, tk, dr, dO, dv, n1, n2, bg, n3, lo0, hi0, o4, n4, n5, n6, ep, sv, x1, x2, x3, x4, x5, x6⟩ := g
  have hdd := hg.spec
  clear hg
  simp only [Wnt] at hW hdd
  refine fn_of_vc eOk fOk fo16 Tryz.func16 rfl rfl rfl fun B hB => ?_
  intro _ _ _ _ _ _ _ _ _ _ _ _ _ _ _ _ _ _ _ _ _ _ _ hA cat _ sl _ _ _ _ _ _ _ hL _ _ _ hcall _ hcode ret hret
  cbv
  refine hcall _ _ _ _ _ (CallEv.lend [0, 1, 2, 3, 4, 5, 6] hdd rfl (.cons (.own 0 0 0 rfl) .nil) (gqT rfl rfl rfl rfl rfl rfl rfl rfl rfl rfl rfl rfl rfl) ?_)
  rintro _ _ ⟨z, hz, rfl, rfl⟩
  cbv
  have hct : cat key [0] = kn := by rw [hL.cat, hkn]
  rcases hW with ⟨rfl, rfl, rfl⟩ | ⟨rfl, hO, rfl⟩ | ⟨hw, rfl, rfl⟩
  · obtain rfl : z = false := hz
    repeat (first | (refine vcIf.yes ?_ ?_; (focus (simp [smW hA hL]; done)); cbv) | (refine vcIf.no ?_ ?_; (focus (simp [smW hA hL]; done)); cbv))
    refine ⟨(), by show key.length + 1 ≤ _; omega, ?_⟩
    cbv
    rw [hct]
    refine hcode _ _ _ (CodeEv.drawA eOk fOk (by kernel_rfl) (Xof 14 [0, 1, 2, 3, 4, 5, 6]) (by kernel_rfl) (by kernel_rfl) (by kernel_rfl) ?_)
    intro _ _ _ _ _ _ _ _ _ _ _ _ _ _ _ _ _ _ _ _ _ _ _ _ _ _ _ _ _ _ _ _ _ _ _ _ _ _ hcall2 _ _ _ hq2
    cbv
    refine hcall2 _ _ _ _ _ (CallEv.lend [0, 1, 2, 3, 4, 5, 6] hm rfl (.cons (.own 0 0 0 rfl) (.cons (.p _) .nil)) (gqT rfl rfl rfl rfl rfl rfl rfl rfl rfl rfl rfl rfl rfl) ?_)
    intro v own hv
    obtain ⟨zs, e, ⟨c3, fr, hd, qn, wt, tk, dr, dO, dv, n1, n2, bg, n3, lo0, hi0, o4, n4, n5, n6, ep, sv, x1, x2, x3, x4, x5, x6⟩, rfl, rfl, hlaw⟩ := hRm v own hv
    cbv
    refine hq2 _ ?_
    cbv
    refine hcall _ _ _ _ _ (CallEv.lend [0, 1, 2, 3, 4, 5, 6, 7, 8, 9, 10] hlaw rfl (.cons (.own 9 9 0 rfl) (.cons (.p _) (.cons (.p _) (.cons (.p _) (.cons (.p _) (.cons (.p _) (.cons (.p _) .nil))))))) (gmT2 rfl rfl rfl rfl rfl rfl rfl rfl rfl rfl rfl rfl rfl rfl rfl rfl rfl rfl rfl rfl rfl) ?_)
    rintro _ _ ⟨rfl, ⟨c3, fr, hd, qn, wt, tk, dr, dO, dv, n1, n2, bg, n3, lo0, hi0, o4, n4, n5, n6, ep, sv, x1, x2, x3, x4, x5, x6⟩, nt', xt', hq, rfl⟩
    cbv
    exact hret _ (RetEv.convW (ConvW.pack [0, 1, 2, 3, 4, 5, 6, 7, 8, 9, 10] hB rfl) (RetEv.ret eOk rfl (by exact ⟨rfl, _, _, _, hq, rfl⟩)))
  · obtain rfl : z = false := hz
    repeat (first | (refine vcIf.yes ?_ ?_; (focus (simp [smW hA hL, hO]; done)); cbv) | (refine vcIf.no ?_ ?_; (focus (simp [smW hA hL, hO]; done)); cbv))
    refine ⟨(), by show key.length + 1 ≤ _; omega, ?_⟩
    cbv
    rw [hct]
    refine hcode _ _ _ (CodeEv.drawA eOk fOk (by kernel_rfl) (Xof 14 [0, 1, 2, 3, 4, 5, 6]) (by kernel_rfl) (by kernel_rfl) (by kernel_rfl) ?_)
    intro _ _ _ _ _ _ _ _ _ _ _ _ _ _ _ _ _ _ _ _ _ _ _ _ _ _ _ _ _ _ _ _ _ _ _ _ _ _ hcall2 _ _ _ hq2
    cbv
    refine hcall2 _ _ _ _ _ (CallEv.lend [0, 1, 2, 3, 4, 5, 6] hm rfl (.cons (.own 0 0 0 rfl) (.cons (.p _) .nil)) (gqT rfl rfl rfl rfl rfl rfl rfl rfl rfl rfl rfl rfl rfl) ?_)
    intro v own hv
    obtain ⟨zs, e, ⟨c3, fr, hd, qn, wt, tk, dr, dO, dv, n1, n2, bg, n3, lo0, hi0, o4, n4, n5, n6, ep, sv, x1, x2, x3, x4, x5, x6⟩, rfl, rfl, hlaw⟩ := hRm v own hv
    cbv
    refine hq2 _ ?_
    cbv
    refine hcall _ _ _ _ _ (CallEv.lend [0, 1, 2, 3, 4, 5, 6, 7, 8, 9, 10] hlaw rfl (.cons (.own 9 9 0 rfl) (.cons (.p _) (.cons (.p _) (.cons (.p _) (.cons (.p _) (.cons (.p _) (.cons (.p _) .nil))))))) (gmT2 rfl rfl rfl rfl rfl rfl rfl rfl rfl rfl rfl rfl rfl rfl rfl rfl rfl rfl rfl rfl rfl) ?_)
    rintro _ _ ⟨rfl, ⟨c3, fr, hd, qn, wt, tk, dr, dO, dv, n1, n2, bg, n3, lo0, hi0, o4, n4, n5, n6, ep, sv, x1, x2, x3, x4, x5, x6⟩, nt', xt', hq, rfl⟩
    cbv
    exact hret _ (RetEv.convW (ConvW.pack [0, 1, 2, 3, 4, 5, 6, 7, 8, 9, 10] hB rfl) (RetEv.ret eOk rfl (by exact ⟨rfl, _, _, _, hq, rfl⟩)))
  · obtain rfl : z = true := by rw [hz]; simp [hw]
    repeat (first | (refine vcIf.yes ?_ ?_; (focus (simp [smW hA hL]; done)); cbv) | (refine vcIf.no ?_ ?_; (focus (simp [smW hA hL]; done)); cbv))
    refine ⟨(), by show key.length + 1 ≤ _; omega, ?_⟩
    cbv
    rw [hct]
    refine hcode _ _ _ (CodeEv.drawA eOk fOk (by kernel_rfl) (Xof 14 [0, 1, 2, 3, 4, 5, 6]) (by kernel_rfl) (by kernel_rfl) (by kernel_rfl) ?_)
    intro _ _ _ _ _ _ _ _ _ _ _ _ _ _ _ _ _ _ _ _ _ _ _ _ _ _ _ _ _ _ _ _ _ _ _ _ _ _ hcall2 _ _ _ hq2
    cbv
    refine hcall2 _ _ _ _ _ (CallEv.lend [0, 1, 2, 3, 4, 5, 6] hm rfl (.cons (.own 0 0 0 rfl) (.cons (.p _) .nil)) (gqT rfl rfl rfl rfl rfl rfl rfl rfl rfl rfl rfl rfl rfl) ?_)
    intro v own hv
    obtain ⟨zs, e, ⟨c3, fr, hd, qn, wt, tk, dr, dO, dv, n1, n2, bg, n3, lo0, hi0, o4, n4, n5, n6, ep, sv, x1, x2, x3, x4, x5, x6⟩, rfl, rfl, hlaw⟩ := hRm v own hv
    cbv
    refine hq2 _ ?_
    cbv
    refine hcall _ _ _ _ _ (CallEv.lend [0, 1, 2, 3, 4, 5, 6, 7, 8, 9, 10] hlaw rfl (.cons (.own 9 9 0 rfl) (.cons (.p _) (.cons (.p _) (.cons (.p _) (.cons (.p _) (.cons (.p _) (.cons (.p _) .nil))))))) (gmT2 rfl rfl rfl rfl rfl rfl rfl rfl rfl rfl rfl rfl rfl rfl rfl rfl rfl rfl rfl rfl rfl) ?_)
    rintro _ _ ⟨rfl, ⟨c3, fr, hd, qn, wt, tk, dr, dO, dv, n1, n2, bg, n3, lo0, hi0, o4, n4, n5, n6, ep, sv, x1, x2, x3, x4, x5, x6⟩, nt', xt', hq, rfl⟩
    cbv
    exact hret _ (RetEv.convW (ConvW.pack [0, 1, 2, 3, 4, 5, 6, 7, 8, 9, 10] hB rfl) (RetEv.ret eOk rfl (by exact ⟨rfl, _, _, _, hq, rfl⟩)))
theorem step_end (c : Int) (ws : List PV) (g : Gq) (nt : Nat) (xt : List PV) {l : List Chg} (hg : Deedy g l) {W : Int} (hW : Wnt g W) (key a b : List UInt8) (n ck : Int) (cy cv : List UInt8) {Q : Gq → Nat → List PV → Prop} {Rm : V → List Res → Prop}
    (hm : FnL Tryz.prog 8 [.own 0 0] g.R Rm)
    (hRm : ∀ v own, Rm v own → ∃ zs e g', v = .p (.tup [zs, .int .i64 e]) ∧ own = g'.R ∧ FnL Tryz.prog 41 [.own 9 0, .p (stp 6 n key a b ck cy cv), .p zs, .p (.int .i64 e), .p (.int .i64 W), .p (ddP 0 0 0 g.dr g.dO g.dv (.sl g.x1) (.sl g.x2))] (gmO c g' nt xt ws) (StQ c ws Q)) :
    FnL Tryz.prog 16 [.own 9 0, .p (stp 6 n key a b ck cy cv)] (gmO c g nt xt ws) (StQ c ws Q) := by
  obtain ⟨c3, fr, hd, qn, wt, tk, dr, dO, dv, n1, n2, bg, n3, lo0, hi0, o4, n4, n5, n6, ep, sv, x1, x2, x3, x4, x5, x6⟩ := g
  have hdd := hg.spec
  clear hg
  simp only [Wnt] at hW hdd
  refine fn_of_vc eOk fOk fo16 Tryz.func16 rfl rfl rfl fun B hB => ?_
  intro _ _ _ _ _ _ _ _ _ _ _ _ _ _ _ _ _ _ _ _ _ _ _ hA _ _ sl _ _ _ _ _ _ _ hL _ _ _ hcall _ _ ret hret
  cbv
  refine hcall _ _ _ _ _ (CallEv.lend [0, 1, 2, 3, 4, 5, 6] hdd rfl (.cons (.own 0 0 0 rfl) .nil) (gqT rfl rfl rfl rfl rfl rfl rfl rfl rfl rfl rfl rfl rfl) ?_)
  rintro _ _ ⟨z, hz, rfl, rfl⟩
  cbv
  rcases hW with ⟨rfl, rfl, rfl⟩ | ⟨rfl, hO, rfl⟩ | ⟨hw, rfl, rfl⟩
  · obtain rfl : z = false := hz
    repeat (first | (refine vcIf.yes ?_ ?_; (focus (simp [smW hA hL]; done)); cbv) | (refine vcIf.no ?_ ?_; (focus (simp [smW hA hL]; done)); cbv))
    refine hcall _ _ _ _ _ (CallEv.lend [0, 1, 2, 3, 4, 5, 6] hm rfl (.cons (.own 0 0 0 rfl) .nil) (gqT rfl rfl rfl rfl rfl rfl rfl rfl rfl rfl rfl rfl rfl) ?_)
    intro v own hv
    obtain ⟨zs, e, ⟨c3, fr, hd, qn, wt, tk, dr, dO, dv, n1, n2, bg, n3, lo0, hi0, o4, n4, n5, n6, ep, sv, x1, x2, x3, x4, x5, x6⟩, rfl, rfl, hlaw⟩ := hRm v own hv
    cbv
    refine hcall _ _ _ _ _ (CallEv.lend [0, 1, 2, 3, 4, 5, 6, 7, 8, 9, 10] hlaw rfl (.cons (.own 9 9 0 rfl) (.cons (.p _) (.cons (.p _) (.cons (.p _) (.cons (.p _) (.cons (.p _) .nil)))))) (gmT2 rfl rfl rfl rfl rfl rfl rfl rfl rfl rfl rfl rfl rfl rfl rfl rfl rfl rfl rfl rfl rfl) ?_)
    rintro _ _ ⟨rfl, ⟨c3, fr, hd, qn, wt, tk, dr, dO, dv, n1, n2, bg, n3, lo0, hi0, o4, n4, n5, n6, ep, sv, x1, x2, x3, x4, x5, x6⟩, nt', xt', hq, rfl⟩
    cbv
    exact hret _ (RetEv.convW (ConvW.pack [0, 1, 2, 3, 4, 5, 6, 7, 8, 9, 10] hB rfl) (RetEv.ret eOk rfl (by exact ⟨rfl, _, _, _, hq, rfl⟩)))
  · obtain rfl : z = false := hz
    repeat (first | (refine vcIf.yes ?_ ?_; (focus (simp [smW hA hL, hO]; done)); cbv) | (refine vcIf.no ?_ ?_; (focus (simp [smW hA hL, hO]; done)); cbv))
    refine hcall _ _ _ _ _ (CallEv.lend [0, 1, 2, 3, 4, 5, 6] hm rfl (.cons (.own 0 0 0 rfl) .nil) (gqT rfl rfl rfl rfl rfl rfl rfl rfl rfl rfl rfl rfl rfl) ?_)
    intro v own hv
    obtain ⟨zs, e, ⟨c3, fr, hd, qn, wt, tk, dr, dO, dv, n1, n2, bg, n3, lo0, hi0, o4, n4, n5, n6, ep, sv, x1, x2, x3, x4, x5, x6⟩, rfl, rfl, hlaw⟩ := hRm v own hv
    cbv
    refine hcall _ _ _ _ _ (CallEv.lend [0, 1, 2, 3, 4, 5, 6, 7, 8, 9, 10] hlaw rfl (.cons (.own 9 9 0 rfl) (.cons (.p _) (.cons (.p _) (.cons (.p _) (.cons (.p _) (.cons (.p _) .nil)))))) (gmT2 rfl rfl rfl rfl rfl rfl rfl rfl rfl rfl rfl rfl rfl rfl rfl rfl rfl rfl rfl rfl rfl) ?_)
    rintro _ _ ⟨rfl, ⟨c3, fr, hd, qn, wt, tk, dr, dO, dv, n1, n2, bg, n3, lo0, hi0, o4, n4, n5, n6, ep, sv, x1, x2, x3, x4, x5, x6⟩, nt', xt', hq, rfl⟩
    cbv
    exact hret _ (RetEv.convW (ConvW.pack [0, 1, 2, 3, 4, 5, 6, 7, 8, 9, 10] hB rfl) (RetEv.ret eOk rfl (by exact ⟨rfl, _, _, _, hq, rfl⟩)))
  · obtain rfl : z = true := by rw [hz]; simp [hw]
    repeat (first | (refine vcIf.yes ?_ ?_; (focus (simp [smW hA hL]; done)); cbv) | (refine vcIf.no ?_ ?_; (focus (simp [smW hA hL]; done)); cbv))
    refine hcall _ _ _ _ _ (CallEv.lend [0, 1, 2, 3, 4, 5, 6] hm rfl (.cons (.own 0 0 0 rfl) .nil) (gqT rfl rfl rfl rfl rfl rfl rfl rfl rfl rfl rfl rfl rfl) ?_)
    intro v own hv
    obtain ⟨zs, e, ⟨c3, fr, hd, qn, wt, tk, dr, dO, dv, n1, n2, bg, n3, lo0, hi0, o4, n4, n5, n6, ep, sv, x1, x2, x3, x4, x5, x6⟩, rfl, rfl, hlaw⟩ := hRm v own hv
    cbv
    refine hcall _ _ _ _ _ (CallEv.lend [0, 1, 2, 3, 4, 5, 6, 7, 8, 9, 10] hlaw rfl (.cons (.own 9 9 0 rfl) (.cons (.p _) (.cons (.p _) (.cons (.p _) (.cons (.p _) (.cons (.p _) .nil)))))) (gmT2 rfl rfl rfl rfl rfl rfl rfl rfl rfl rfl rfl rfl rfl rfl rfl rfl rfl rfl rfl rfl rfl) ?_)
    rintro _ _ ⟨rfl, ⟨c3, fr, hd, qn, wt, tk, dr, dO, dv, n1, n2, bg, n3, lo0, hi0, o4, n4, n5, n6, ep, sv, x1, x2, x3, x4, x5, x6⟩, nt', xt', hq, rfl⟩
    cbv
    exact hret _ (RetEv.convW (ConvW.pack [0, 1, 2, 3, 4, 5, 6, 7, 8, 9, 10] hB rfl) (RetEv.ret eOk rfl (by exact ⟨rfl, _, _, _, hq, rfl⟩)))
end Go.Proofs.YtegkojnngdlfaaaGreat
