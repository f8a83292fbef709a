/- Guest: the game: one step: the other calls. Conditions: on sizes. -/
import Derived.Test.YtegkojnngdlfaaaGreatLGx7
set_option maxRecDepth 100000
set_option maxHeartbeats 64000000
set_option linter.unusedSimpArgs false
set_option linter.unusedVariables false
namespace Go.Proofs.YtegkojnngdlfaaaGreat
open Go Go.Lx
open Go.Sx (vcIf)
theorem step_begin (c : Int) (ws : List PV) (g : Gq) (nt : Nat) (xt : List PV) {l : List Chg} (hg : Deedy g l) {W : Int} (hW : Wnt g W) (key a b : List UInt8) (n ck : Int) (cy cv : List UInt8) {Q : Gq → Nat → List PV → Prop} {Rm : V → List Res → Prop}
    (hm : FnL Tryz.prog 6 [.own 0 0] g.R Rm)
    (hRm : ∀ v own, Rm v own → ∃ zs e g', v = .p (.tup [zs, .int .i64 e]) ∧ own = g'.R ∧ GmC fSend [.own 9 0, .p zs, .p (.int .i64 n)] c ws g' nt xt Q ∧ (if W = 0 then (g.dr = 0 → e = 0) ∧ (¬ g.dr = 0 → e = 9) else if W = 12 then e = 0 else e = 14)) :
    FnL Tryz.prog 16 [.own 9 0, .p (stp 0 n key a b ck cy cv)] (gmO c g nt xt ws) (StQ c ws Q) := by
  unfold GmC at hRm
  obtain ⟨c3, fr, hd, qn, wt, tk, dr, dO, dv, n1, n2, bg, n3, lo0, hi0, o4, n4, n5, n6, ep, sv, x1, x2, x3, x4, x5, x6⟩ := g
  have hdd := hg.spec
  clear hg
  simp only [Wnt] at hW hdd
  refine fn_of_vc eOk fOk fo16 Tryz.func16 rfl rfl rfl fun B hB => ?_
  intro _ _ _ _ _ _ _ _ _ _ _ ieq _ _ _ _ _ _ _ _ _ _ _ hA _ _ _ _ _ _ _ _ _ _ hL _ _ _ hcall _ _ ret hret
  cbv
  refine hcall _ _ _ _ _ (CallEv.lend [0, 1, 2, 3, 4, 5, 6] hdd rfl (.cons (.own 0 0 0 rfl) .nil) (gqT rfl rfl rfl rfl rfl rfl rfl rfl rfl rfl rfl rfl rfl) ?_)
  rintro _ _ ⟨z, hz, rfl, rfl⟩
  cbv
  have hno := none_spec dr 0 dv x1 x2
  rcases hW with ⟨rfl, rfl, rfl⟩ | ⟨rfl, hO, rfl⟩ | ⟨hw, rfl, rfl⟩
  · obtain rfl : z = false := hz
    repeat (first | (refine vcIf.yes ?_ ?_; (focus (simp [smW hA hL]; done)); cbv) | (refine vcIf.no ?_ ?_; (focus (simp [smW hA hL]; done)); cbv))
    refine hcall _ _ _ _ _ (CallEv.lend [0, 1, 2, 3, 4, 5, 6] hm rfl (.cons (.own 0 0 0 rfl) .nil) (gqT rfl rfl rfl rfl rfl rfl rfl rfl rfl rfl rfl rfl rfl) ?_)
    intro v own hv
    obtain ⟨zs, e, ⟨c3, fr, hd, qn, wt, tk, dr, dO, dv, n1, n2, bg, n3, lo0, hi0, o4, n4, n5, n6, ep, sv, x1, x2, x3, x4, x5, x6⟩, rfl, rfl, hlaw, he⟩ := hRm v own hv
    cbv
    repeat (first | (refine vcIf.yes ?_ ?_; (focus (simp [smW hA hL]; done)); cbv) | (refine vcIf.no ?_ ?_; (focus (simp [smW hA hL]; done)); cbv))
    refine hcall _ _ _ _ _ (CallEv.same hno rfl ?_)
    rintro _ _ ⟨nb, hnb, rfl, rfl⟩
    cbv
    cases nb with
    | true =>
      obtain rfl : e = 0 := he.1 (by simpa using hnb.symm)
      repeat (first | (refine vcIf.yes ?_ ?_; (focus (simp [smW hA hL]; done)); cbv) | (refine vcIf.no ?_ ?_; (focus (simp [smW hA hL]; done)); cbv))
      refine hcall _ _ _ _ _ (CallEv.lend [0, 1, 2, 3, 4, 5, 6, 7, 8, 9, 10] hlaw rfl (.cons (.own 9 9 0 rfl) (.cons (.p _) (.cons (.p _) .nil))) (gmT2 rfl rfl rfl rfl rfl rfl rfl rfl rfl rfl rfl rfl rfl rfl rfl rfl rfl rfl rfl rfl rfl) ?_)
      rintro _ _ ⟨⟨c3, fr, hd, qn, wt, tk, dr, dO, dv, n1, n2, bg, n3, lo0, hi0, o4, n4, n5, n6, ep, sv, x1, x2, x3, x4, x5, x6⟩, nt', xt', hq, rfl⟩
      cbv
      refine hret _ (RetEv.convW (ConvW.pack [0, 1, 2, 3, 4, 5, 6, 7, 8, 9, 10] hB rfl) (RetEv.ret eOk rfl ?_))
      refine ⟨?_, _, _, _, hq, rfl⟩
      show V.p (.bool (ieq _ _)) = _
      rw [hA.eq]; exact congrArg (fun b => V.p (.bool b)) (decide_eq_true rfl)
    | false =>
      obtain rfl : e = 9 := he.2 (by simpa using hnb.symm)
      repeat (first | (refine vcIf.yes ?_ ?_; (focus (simp [smW hA hL]; done)); cbv) | (refine vcIf.no ?_ ?_; (focus (simp [smW hA hL]; done)); cbv))
      refine hcall _ _ _ _ _ (CallEv.lend [0, 1, 2, 3, 4, 5, 6, 7, 8, 9, 10] hlaw rfl (.cons (.own 9 9 0 rfl) (.cons (.p _) (.cons (.p _) .nil))) (gmT2 rfl rfl rfl rfl rfl rfl rfl rfl rfl rfl rfl rfl rfl rfl rfl rfl rfl rfl rfl rfl rfl) ?_)
      rintro _ _ ⟨⟨c3, fr, hd, qn, wt, tk, dr, dO, dv, n1, n2, bg, n3, lo0, hi0, o4, n4, n5, n6, ep, sv, x1, x2, x3, x4, x5, x6⟩, nt', xt', hq, rfl⟩
      cbv
      refine hret _ (RetEv.convW (ConvW.pack [0, 1, 2, 3, 4, 5, 6, 7, 8, 9, 10] hB rfl) (RetEv.ret eOk rfl ?_))
      refine ⟨?_, _, _, _, hq, rfl⟩
      show V.p (.bool (ieq _ _)) = _
      rw [hA.eq]; exact congrArg (fun b => V.p (.bool b)) (decide_eq_true rfl)
  · obtain rfl : z = false := hz
    repeat (first | (refine vcIf.yes ?_ ?_; (focus (simp [smW hA hL, hO]; done)); cbv) | (refine vcIf.no ?_ ?_; (focus (simp [smW hA hL, hO]; done)); cbv))
    refine hcall _ _ _ _ _ (CallEv.lend [0, 1, 2, 3, 4, 5, 6] hm rfl (.cons (.own 0 0 0 rfl) .nil) (gqT rfl rfl rfl rfl rfl rfl rfl rfl rfl rfl rfl rfl rfl) ?_)
    intro v own hv
    obtain ⟨zs, e, ⟨c3, fr, hd, qn, wt, tk, dr, dO, dv, n1, n2, bg, n3, lo0, hi0, o4, n4, n5, n6, ep, sv, x1, x2, x3, x4, x5, x6⟩, rfl, rfl, hlaw, he⟩ := hRm v own hv
    cbv
    obtain rfl : e = 0 := he
    repeat (first | (refine vcIf.yes ?_ ?_; (focus (simp [smW hA hL]; done)); cbv) | (refine vcIf.no ?_ ?_; (focus (simp [smW hA hL]; done)); cbv))
    refine hcall _ _ _ _ _ (CallEv.lend [0, 1, 2, 3, 4, 5, 6, 7, 8, 9, 10] hlaw rfl (.cons (.own 9 9 0 rfl) (.cons (.p _) (.cons (.p _) .nil))) (gmT2 rfl rfl rfl rfl rfl rfl rfl rfl rfl rfl rfl rfl rfl rfl rfl rfl rfl rfl rfl rfl rfl) ?_)
    rintro _ _ ⟨⟨c3, fr, hd, qn, wt, tk, dr, dO, dv, n1, n2, bg, n3, lo0, hi0, o4, n4, n5, n6, ep, sv, x1, x2, x3, x4, x5, x6⟩, nt', xt', hq, rfl⟩
    cbv
    refine hret _ (RetEv.convW (ConvW.pack [0, 1, 2, 3, 4, 5, 6, 7, 8, 9, 10] hB rfl) (RetEv.ret eOk rfl ?_))
    refine ⟨?_, _, _, _, hq, rfl⟩
    show V.p (.bool (ieq _ _)) = _
    rw [hA.eq]; exact congrArg (fun b => V.p (.bool b)) (decide_eq_true rfl)
  · obtain rfl : z = true := by rw [hz]; simp [hw]
    repeat (first | (refine vcIf.yes ?_ ?_; (focus (simp [smW hA hL]; done)); cbv) | (refine vcIf.no ?_ ?_; (focus (simp [smW hA hL]; done)); cbv))
    refine hcall _ _ _ _ _ (CallEv.lend [0, 1, 2, 3, 4, 5, 6] hm rfl (.cons (.own 0 0 0 rfl) .nil) (gqT rfl rfl rfl rfl rfl rfl rfl rfl rfl rfl rfl rfl rfl) ?_)
    intro v own hv
    obtain ⟨zs, e, ⟨c3, fr, hd, qn, wt, tk, dr, dO, dv, n1, n2, bg, n3, lo0, hi0, o4, n4, n5, n6, ep, sv, x1, x2, x3, x4, x5, x6⟩, rfl, rfl, hlaw, he⟩ := hRm v own hv
    cbv
    obtain rfl : e = 14 := he
    repeat (first | (refine vcIf.yes ?_ ?_; (focus (simp [smW hA hL]; done)); cbv) | (refine vcIf.no ?_ ?_; (focus (simp [smW hA hL]; done)); cbv))
    refine hcall _ _ _ _ _ (CallEv.lend [0, 1, 2, 3, 4, 5, 6, 7, 8, 9, 10] hlaw rfl (.cons (.own 9 9 0 rfl) (.cons (.p _) (.cons (.p _) .nil))) (gmT2 rfl rfl rfl rfl rfl rfl rfl rfl rfl rfl rfl rfl rfl rfl rfl rfl rfl rfl rfl rfl rfl) ?_)
    rintro _ _ ⟨⟨c3, fr, hd, qn, wt, tk, dr, dO, dv, n1, n2, bg, n3, lo0, hi0, o4, n4, n5, n6, ep, sv, x1, x2, x3, x4, x5, x6⟩, nt', xt', hq, rfl⟩
    cbv
    refine hret _ (RetEv.convW (ConvW.pack [0, 1, 2, 3, 4, 5, 6, 7, 8, 9, 10] hB rfl) (RetEv.ret eOk rfl ?_))
    refine ⟨?_, _, _, _, hq, rfl⟩
    show V.p (.bool (ieq _ _)) = _
    rw [hA.eq]; exact congrArg (fun b => V.p (.bool b)) (decide_eq_true rfl)
theorem step_tick (c : Int) (ws : List PV) (g : Gq) (nt : Nat) (xt : List PV) {l : List Chg} (hg : Deedy g l) {W : Int} (hW : Wnt g W) (key a b : List UInt8) (n ck : Int) (cy cv : List UInt8) {Q : Gq → Nat → List PV → Prop} {Rm : V → List Res → Prop} (what : Int) (hwh : what < 0 ∨ 6 < what)
    (hm : FnL Tryz.prog 12 [.own 0 0] g.R Rm)
    (hRm : ∀ v own, Rm v own → ∃ zs g', v = .p zs ∧ own = g'.R ∧ GmC fSend [.own 9 0, .p zs, .p (.int .i64 n)] c ws g' nt xt Q) :
    FnL Tryz.prog 16 [.own 9 0, .p (stp what n key a b ck cy cv)] (gmO c g nt xt ws) (StQ c ws Q) := by
  unfold GmC at hRm
  have e0 : ¬ what = 0 := by omega
  have e1 : ¬ what = 1 := by omega
  have e2 : ¬ what = 2 := by omega
  have e3 : ¬ what = 3 := by omega
  have e4 : ¬ what = 4 := by omega
  have e5 : ¬ what = 5 := by omega
  have e6 : ¬ what = 6 := by omega
  obtain ⟨c3, fr, hd, qn, wt, tk, dr, dO, dv, n1, n2, bg, n3, lo0, hi0, o4, n4, n5, n6, ep, sv, x1, x2, x3, x4, x5, x6⟩ := g
  have hdd := hg.spec
  clear hg
  simp only [Wnt] at hW hdd
  refine fn_of_vc eOk fOk fo16 Tryz.func16 rfl rfl rfl fun B hB => ?_
  intro _ _ _ _ _ _ _ _ _ _ _ _ _ _ _ _ _ _ _ _ _ _ _ hA _ _ _ _ _ _ _ _ _ _ hL _ _ _ hcall _ hcode ret hret
  cbv
  refine hcall _ _ _ _ _ (CallEv.lend [0, 1, 2, 3, 4, 5, 6] hdd rfl (.cons (.own 0 0 0 rfl) .nil) (gqT rfl rfl rfl rfl rfl rfl rfl rfl rfl rfl rfl rfl rfl) ?_)
  rintro _ _ ⟨z, hz, rfl, rfl⟩
  cbv
  rcases hW with ⟨rfl, rfl, rfl⟩ | ⟨rfl, hO, rfl⟩ | ⟨hw, rfl, rfl⟩
  · obtain rfl : z = false := hz
    repeat (first | (refine vcIf.yes ?_ ?_; (focus (simp [smW hA hL, e0, e1, e2, e3, e4, e5, e6]; done)); cbv) | (refine vcIf.no ?_ ?_; (focus (simp [smW hA hL, e0, e1, e2, e3, e4, e5, e6]; done)); cbv))
    refine hcode _ _ _ (CodeEv.drawA eOk fOk (by kernel_rfl) (Xof 13 [0, 1, 2, 3, 4, 5, 6, 7, 8, 9, 10]) (by kernel_rfl) (by kernel_rfl) (by kernel_rfl) ?_)
    intro _ _ _ _ _ _ _ _ _ _ _ _ _ _ _ _ _ _ _ _ _ _ _ _ _ _ _ _ _ _ _ _ _ _ _ _ _ _ hcall2 _ _ _ hq2
    cbv
    refine hcall2 _ _ _ _ _ (CallEv.lend [0, 1, 2, 3, 4, 5, 6] hm rfl (.cons (.own 0 0 0 rfl) .nil) (gqT rfl rfl rfl rfl rfl rfl rfl rfl rfl rfl rfl rfl rfl) ?_)
    intro v own hv
    obtain ⟨zs, ⟨c3, fr, hd, qn, wt, tk, dr, dO, dv, n1, n2, bg, n3, lo0, hi0, o4, n4, n5, n6, ep, sv, x1, x2, x3, x4, x5, x6⟩, rfl, rfl, hlaw⟩ := hRm v own hv
    cbv
    refine hcall2 _ _ _ _ _ (CallEv.lend [0, 1, 2, 3, 4, 5, 6, 7, 8, 9, 10] hlaw rfl (.cons (.own 9 9 0 rfl) (.cons (.p _) (.cons (.p _) .nil))) (gmT2 rfl rfl rfl rfl rfl rfl rfl rfl rfl rfl rfl rfl rfl rfl rfl rfl rfl rfl rfl rfl rfl) ?_)
    rintro _ _ ⟨⟨c3, fr, hd, qn, wt, tk, dr, dO, dv, n1, n2, bg, n3, lo0, hi0, o4, n4, n5, n6, ep, sv, x1, x2, x3, x4, x5, x6⟩, nt', xt', hq, rfl⟩
    cbv
    refine hq2 _ ?_
    cbv
    exact hret _ (RetEv.convW (ConvW.pack [0, 1, 2, 3, 4, 5, 6, 7, 8, 9, 10] hB rfl) (RetEv.ret eOk rfl (by exact ⟨rfl, _, _, _, hq, rfl⟩)))
  · obtain rfl : z = false := hz
    repeat (first | (refine vcIf.yes ?_ ?_; (focus (simp [smW hA hL, hO, e0, e1, e2, e3, e4, e5, e6]; done)); cbv) | (refine vcIf.no ?_ ?_; (focus (simp [smW hA hL, hO, e0, e1, e2, e3, e4, e5, e6]; done)); cbv))
    refine hcode _ _ _ (CodeEv.drawA eOk fOk (by kernel_rfl) (Xof 13 [0, 1, 2, 3, 4, 5, 6, 7, 8, 9, 10]) (by kernel_rfl) (by kernel_rfl) (by kernel_rfl) ?_)
    intro _ _ _ _ _ _ _ _ _ _ _ _ _ _ _ _ _ _ _ _ _ _ _ _ _ _ _ _ _ _ _ _ _ _ _ _ _ _ hcall2 _ _ _ hq2
    cbv
    refine hcall2 _ _ _ _ _ (CallEv.lend [0, 1, 2, 3, 4, 5, 6] hm rfl (.cons (.own 0 0 0 rfl) .nil) (gqT rfl rfl rfl rfl rfl rfl rfl rfl rfl rfl rfl rfl rfl) ?_)
    intro v own hv
    obtain ⟨zs, ⟨c3, fr, hd, qn, wt, tk, dr, dO, dv, n1, n2, bg, n3, lo0, hi0, o4, n4, n5, n6, ep, sv, x1, x2, x3, x4, x5, x6⟩, rfl, rfl, hlaw⟩ := hRm v own hv
    cbv
    refine hcall2 _ _ _ _ _ (CallEv.lend [0, 1, 2, 3, 4, 5, 6, 7, 8, 9, 10] hlaw rfl (.cons (.own 9 9 0 rfl) (.cons (.p _) (.cons (.p _) .nil))) (gmT2 rfl rfl rfl rfl rfl rfl rfl rfl rfl rfl rfl rfl rfl rfl rfl rfl rfl rfl rfl rfl rfl) ?_)
    rintro _ _ ⟨⟨c3, fr, hd, qn, wt, tk, dr, dO, dv, n1, n2, bg, n3, lo0, hi0, o4, n4, n5, n6, ep, sv, x1, x2, x3, x4, x5, x6⟩, nt', xt', hq, rfl⟩
    cbv
    refine hq2 _ ?_
    cbv
    exact hret _ (RetEv.convW (ConvW.pack [0, 1, 2, 3, 4, 5, 6, 7, 8, 9, 10] hB rfl) (RetEv.ret eOk rfl (by exact ⟨rfl, _, _, _, hq, rfl⟩)))
  · obtain rfl : z = true := by rw [hz]; simp [hw]
    repeat (first | (refine vcIf.yes ?_ ?_; (focus (simp [smW hA hL, e0, e1, e2, e3, e4, e5, e6]; done)); cbv) | (refine vcIf.no ?_ ?_; (focus (simp [smW hA hL, e0, e1, e2, e3, e4, e5, e6]; done)); cbv))
    refine hcode _ _ _ (CodeEv.drawA eOk fOk (by kernel_rfl) (Xof 13 [0, 1, 2, 3, 4, 5, 6, 7, 8, 9, 10]) (by kernel_rfl) (by kernel_rfl) (by kernel_rfl) ?_)
    intro _ _ _ _ _ _ _ _ _ _ _ _ _ _ _ _ _ _ _ _ _ _ _ _ _ _ _ _ _ _ _ _ _ _ _ _ _ _ hcall2 _ _ _ hq2
    cbv
    refine hcall2 _ _ _ _ _ (CallEv.lend [0, 1, 2, 3, 4, 5, 6] hm rfl (.cons (.own 0 0 0 rfl) .nil) (gqT rfl rfl rfl rfl rfl rfl rfl rfl rfl rfl rfl rfl rfl) ?_)
    intro v own hv
    obtain ⟨zs, ⟨c3, fr, hd, qn, wt, tk, dr, dO, dv, n1, n2, bg, n3, lo0, hi0, o4, n4, n5, n6, ep, sv, x1, x2, x3, x4, x5, x6⟩, rfl, rfl, hlaw⟩ := hRm v own hv
    cbv
    refine hcall2 _ _ _ _ _ (CallEv.lend [0, 1, 2, 3, 4, 5, 6, 7, 8, 9, 10] hlaw rfl (.cons (.own 9 9 0 rfl) (.cons (.p _) (.cons (.p _) .nil))) (gmT2 rfl rfl rfl rfl rfl rfl rfl rfl rfl rfl rfl rfl rfl rfl rfl rfl rfl rfl rfl rfl rfl) ?_)
    rintro _ _ ⟨⟨c3, fr, hd, qn, wt, tk, dr, dO, dv, n1, n2, bg, n3, lo0, hi0, o4, n4, n5, n6, ep, sv, x1, x2, x3, x4, x5, x6⟩, nt', xt', hq, rfl⟩
    cbv
    refine hq2 _ ?_
    cbv
    exact hret _ (RetEv.convW (ConvW.pack [0, 1, 2, 3, 4, 5, 6, 7, 8, 9, 10] hB rfl) (RetEv.ret eOk rfl (by exact ⟨rfl, _, _, _, hq, rfl⟩)))
end Go.Proofs.YtegkojnngdlfaaaGreat
