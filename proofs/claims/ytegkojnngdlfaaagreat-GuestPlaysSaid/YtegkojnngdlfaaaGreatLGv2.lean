/- Guest: the game: none, what a front answers. Conditions: on sizes. -/
import Derived.Test.YtegkojnngdlfaaaGreatLGv1
set_option maxRecDepth 100000
set_option maxHeartbeats 32000000
set_option linter.unusedSimpArgs false
set_option linter.unusedVariables false
namespace Go.Proofs.YtegkojnngdlfaaaGreat
open Go Go.Lx
open Go.Sx (vcIf)
theorem none_spec (dr dO dv : Int) (sn ch : List PV) : FnL Tryz.prog 37 [.p (ddP 0 0 0 dr dO dv (.sl sn) (.sl ch))] [] fun v own => ∃ b : Bool, b = decide (dr = 0 ∧ dO = 0) ∧ v = .p (.bool b) ∧ own = [] := by
  refine FnL.flat (R := fun v own => ∃ b : Bool, b = decide (dr = 0 ∧ dO = 0) ∧ v = .p (.bool b)) ?_ (fun v own' h => by obtain ⟨b, h1, rfl⟩ := h; exact ⟨_, _, rfl, .refl _, b, h1, rfl, rfl⟩)
  refine fn_of_vc eOk fOk fo37 Tryz.func37 rfl rfl rfl fun B hB => ?_
  intro _ _ _ _ _ _ _ _ _ _ _ ieq _ _ _ _ _ _ _ bcond _ _ _ hA _ _ sl _ _ _ _ _ _ _ hL _ _ _ _ _ _ ret hret
  cbv
  by_cases h1 : dr = 0
  · subst h1
    by_cases h2 : dO = 0
    · subst h2
      repeat (first | (refine vcIf.yes ?_ ?_; (focus (simp [smW hA hL]; done)); cbv) | (refine vcIf.no ?_ ?_; (focus (simp [smW hA hL]; done)); cbv))
      refine hret _ (RetEv.ret eOk rfl ⟨true, rfl, ?_⟩)
      show V.p (.bool (bcond true (ieq 0 0) false)) = _
      rw [hA.cond, hA.eq]; rfl
    · repeat (first | (refine vcIf.yes ?_ ?_; (focus (simp [smW hA hL, h2]; done)); cbv) | (refine vcIf.no ?_ ?_; (focus (simp [smW hA hL, h2]; done)); cbv))
      refine hret _ (RetEv.ret eOk rfl ⟨false, (decide_eq_false (by simp [h2])).symm, ?_⟩)
      show V.p (.bool (bcond true (ieq dO 0) false)) = _
      rw [hA.cond, hA.eq]; simp [h2]
  · repeat (first | (refine vcIf.yes ?_ ?_; (focus (simp [smW hA hL, h1]; done)); cbv) | (refine vcIf.no ?_ ?_; (focus (simp [smW hA hL, h1]; done)); cbv))
    exact hret _ (RetEv.ret eOk rfl ⟨false, (decide_eq_false (by simp [h1])).symm, rfl⟩)
theorem ansV (c : Int) (ws : List PV) (g : Gq) (nt : Nat) (xt : List PV) (k f tg e0 a cc : Int) (bd : List PV) (hto : 60 ≤ tg) {Q : Gq → Nat → List PV → Prop} {R0 : V → List Res → Prop}
    (hT : FnL Tryz.prog 11 [.own 0 0, .p (msP 2 tg 100 9 a 0 30 (.sl []))] g.R R0)
    (hR : ∀ v own, R0 v own → ∃ x g', v = .p x ∧ own = g'.R ∧ GmC 42 [.own 9 0, .p x, .p (.int .i64 0)] c ws g' nt xt Q) :
    GmC 34 [.own 9 0, .p (msP k f tg e0 a 1 cc (.sl bd))] c ws g nt xt Q := by
  have htk := FnL.wk (xs := [.own 0 0, .p (msP 2 tg 100 9 a 0 30 .nils)]) hT
    ⟨.refl _, .p (PW.agg ⟨.refl _, .refl _, .refl _, .refl _, .refl _, .refl _, .refl _, PW.nils, trivial⟩), trivial⟩
  unfold GmC
  obtain ⟨K, hK⟩ : ∃ K : V → List Res → Prop, K = fun v own => ∃ g' nt' xt', Q g' nt' xt' ∧ own = gmO c g' nt' xt' ws := ⟨_, rfl⟩
  have hKg : ∀ v own, K v own → ∃ g' nt' xt', own = gmO c g' nt' xt' ws := fun v own h => by rw [hK] at h; obtain ⟨g, nt, xt, -, h⟩ := h; exact ⟨g, nt, xt, h⟩
  have hKv : ∀ v v' own, K v own → K v' own := fun v v' own h => by rw [hK] at h ⊢; exact h
  rw [← hK]
  obtain ⟨c3, fr, hd, qn, wt, tk, dr, dO, dv, n1, n2, bg, n3, lo, hi, o4, n4, n5, n6, ep, sv, x1, x2, x3, x4, x5, x6⟩ := g
  refine fn_of_vc eOk fOk fo34 Tryz.func34 rfl rfl rfl fun B hB => ?_
  intro _ _ _ _ _ _ _ _ _ _ _ _ _ _ _ _ _ _ _ _ _ _ _ hA _ _ sl _ _ _ _ _ _ _ hL _ _ _ _ _ hcode ret hret
  cbv
  repeat (first | (refine vcIf.yes ?_ ?_; (focus (simp [smW hA hL, hto]; done)); cbv) | (refine vcIf.no ?_ ?_; (focus (simp [smW hA hL, hto]; done)); cbv))
  refine hcode _ _ _ (CodeEv.drawT eOk fOk (by kernel_rfl) (Xof 13 [0, 1, 2, 3, 4, 5, 6, 7, 8, 9, 10]) (.rd 0 (.rd 1 (.rd 2 (.rd 3 (.rd 5 (.so 4 (.acts (.cons 6 (.acts (.cons 7 (.done) (.nil))) (.nil))))))))) (by kernel_rfl) (by kernel_rfl) ?_)
  intro _ _ _ _ _ _ _ _ _ _ _ _ _ _ _ _ _ _ _ _ _ _ _ _ _ _ _ _ _ _ _ _ _ _ _ _ _ _ hcall2 _ _ _ hq2
  cbv
  refine hcall2 _ _ _ _ _ (CallEv.lend [0, 1, 2, 3, 4, 5, 6] htk rfl (.cons (.own 0 0 0 rfl) (.cons (.p _) .nil)) (gqT rfl rfl rfl rfl rfl rfl rfl rfl rfl rfl rfl rfl rfl) ?_)
  intro v own hv
  obtain ⟨x, ⟨c3, fr, hd, qn, wt, tk, dr, dO, dv, n1, n2, bg, n3, lo, hi, o4, n4, n5, n6, ep, sv, x1, x2, x3, x4, x5, x6⟩, rfl, rfl, hse⟩ := hR v own hv
  unfold GmC at hse
  rw [← hK] at hse
  cbv
  refine hcall2 _ _ _ _ _ (CallEv.lend [0, 1, 2, 3, 4, 5, 6, 7, 8, 9, 10] hse rfl (.cons (.own 9 9 0 rfl) (.cons (.p _) (.cons (.p _) .nil))) (gmT2 rfl rfl rfl rfl rfl rfl rfl rfl rfl rfl rfl rfl rfl rfl rfl rfl rfl rfl rfl rfl rfl) ?_)
  intro v own hv
  obtain ⟨⟨c3, fr, hd, qn, wt, tk, dr, dO, dv, n1, n2, bg, n3, lo, hi, o4, n4, n5, n6, ep, sv, x1, x2, x3, x4, x5, x6⟩, nt, xt, rfl⟩ := hKg v own hv
  cbv
  refine hq2 _ ?_
  cbv
  exact hret _ (RetEv.convW (ConvW.pack [0, 1, 2, 3, 4, 5, 6, 7, 8, 9, 10] hB rfl) (RetEv.ret eOk rfl (by exact hKv _ _ _ hv)))
theorem ansC (c : Int) (ws : List PV) (g : Gq) (nt : Nat) (xt : List PV) (hnt : nt = xt.length) (hntb : nt ≤ 1000) (k f tg a cc : Int) (t : Tx) (ht : t.fit) (hok : t.okB = true) (hbl : (tEnc t).1.length < 9223372036854775807) (bd : List PV) (hbd : bd = bP (tEnc t).1) (hto : 60 ≤ tg) {Q : Gq → Nat → List PV → Prop} {R0 : V → List Res → Prop}
    (hT : FnL Tryz.prog 11 [.own 0 0, .p (msP 2 tg 100 0 a 1 40 (.sl []))] g.R R0)
    (hR : ∀ v own, R0 v own → ∀ nt' xt' y, TxIs t y → nt' = nt + 1 → xt' = xt ++ [y] → ∃ x g', v = .p x ∧ own = g'.R ∧ GmC 42 [.own 9 0, .p x, .p (.int .i64 0)] c ws g' nt' xt' Q) :
    GmC 34 [.own 9 0, .p (msP k f tg 9 a 2 cc (.sl bd))] c ws g nt xt Q := by
  have htk := FnL.wk (xs := [.own 0 0, .p (msP 2 tg 100 0 a 1 40 .nils)]) hT
    ⟨.refl _, .p (PW.agg ⟨.refl _, .refl _, .refl _, .refl _, .refl _, .refl _, .refl _, PW.nils, trivial⟩), trivial⟩
  have hgt := rGetTxn_spec (tEnc t).1 hbl bd hbd
  have hte : ((tEnc t).1, 0) = tEnc t := by unfold tEnc; rw [if_pos hok]
  rw [gTx_enc t ht _ hte] at hgt
  unfold GmC
  obtain ⟨K, hK⟩ : ∃ K : V → List Res → Prop, K = fun v own => ∃ g' nt' xt', Q g' nt' xt' ∧ own = gmO c g' nt' xt' ws := ⟨_, rfl⟩
  have hKg : ∀ v own, K v own → ∃ g' nt' xt', own = gmO c g' nt' xt' ws := fun v own h => by rw [hK] at h; obtain ⟨g, nt, xt, -, h⟩ := h; exact ⟨g, nt, xt, h⟩
  have hKv : ∀ v v' own, K v own → K v' own := fun v v' own h => by rw [hK] at h ⊢; exact h
  rw [← hK]
  clear hte hbl hbd
  obtain ⟨c3, fr, hd, qn, wt, tk, dr, dO, dv, n1, n2, bg, n3, lo, hi, o4, n4, n5, n6, ep, sv, x1, x2, x3, x4, x5, x6⟩ := g
  refine fn_of_vc eOk fOk fo34 Tryz.func34 rfl rfl rfl fun B hB => ?_
  intro _ _ _ _ _ _ _ _ _ _ _ _ _ _ _ _ _ _ _ _ _ _ _ hA _ _ sl _ _ _ _ _ _ _ hL _ _ _ hcall _ hcode ret hret
  cbv
  repeat (first | (refine vcIf.yes ?_ ?_; (focus (simp [smW hA hL, hto]; done)); cbv) | (refine vcIf.no ?_ ?_; (focus (simp [smW hA hL, hto]; done)); cbv))
  refine hcall _ _ _ _ _ (CallEv.same hgt rfl ?_)
  rintro _ _ ⟨s, e, y, hse, hy, rfl, rfl⟩
  cases hse
  obtain ⟨y1, y2, hy1, hy2, rfl⟩ := id hy
  cbv
  repeat (first | (refine vcIf.yes ?_ ?_; (focus (simp [smW hA hL]; done)); cbv) | (refine vcIf.no ?_ ?_; (focus (simp [smW hA hL]; done)); cbv))
  repeat (first | (refine vcIf.yes ?_ ?_; (focus (simp [smW hA hL]; done)); cbv) | (refine vcIf.no ?_ ?_; (focus (simp [smW hA hL]; done)); cbv))
  refine hcode _ _ _ (CodeEv.drawF eOk fOk (by kernel_rfl) (Xof 14 [9, 10]) [] (by kernel_rfl) (by kernel_rfl) (by kernel_rfl) ?_)
  intro _ _ _ _ _ _ _ _ _ _ _ _ _ _ _ _ _ _ _ _ _ _ _ _ _ _ _ _ _ _ _ _ _ _ _ _ _ _ _ _ _ _ hq3
  cbv
  refine ⟨false, ?_⟩
  cbv
  refine .inl ⟨(), rfl, hnt, Wf.one ⟨rfl, by simp [PV.cells, PV.one]⟩, ?_, ?_, ?_⟩
  · show nt + 1 ≤ maxLen
    unfold maxLen; omega
  · show (nt + 1) * 56 ≤ _
    omega
  intro xt' nt' hxt hnt'
  have hR := fun v own h => hR v own h nt' xt' _ hy hnt' hxt
  cbv
  refine hq3 _ ?_
  cbv
  refine hcode _ _ _ (CodeEv.drawT eOk fOk (by kernel_rfl) (Xof 14 [0, 1, 2, 3, 4, 5, 6, 7, 8, 9, 10]) (.rd 0 (.rd 1 (.rd 2 (.rd 3 (.rd 5 (.so 4 (.acts (.cons 6 (.acts (.cons 7 (.done) (.nil))) (.nil))))))))) (by kernel_rfl) (by kernel_rfl) ?_)
  intro _ _ _ _ _ _ _ _ _ _ _ _ _ _ _ _ _ _ _ _ _ _ _ _ _ _ _ _ _ _ _ _ _ _ _ _ _ _ hcall2 _ _ _ hq2
  cbv
  refine hcall2 _ _ _ _ _ (CallEv.lend [0, 1, 2, 3, 4, 5, 6] htk rfl (.cons (.own 0 0 0 rfl) (.cons (.p _) .nil)) (gqT rfl rfl rfl rfl rfl rfl rfl rfl rfl rfl rfl rfl rfl) ?_)
  intro v own hv
  obtain ⟨x, ⟨c3, fr, hd, qn, wt, tk, dr, dO, dv, n1, n2, bg, n3, lo, hi, o4, n4, n5, n6, ep, sv, x1, x2, x3, x4, x5, x6⟩, rfl, rfl, hse⟩ := hR v own hv
  unfold GmC at hse
  rw [← hK] at hse
  cbv
  refine hcall2 _ _ _ _ _ (CallEv.lend [0, 1, 2, 3, 4, 5, 6, 7, 8, 9, 10] hse rfl (.cons (.own 9 9 0 rfl) (.cons (.p _) (.cons (.p _) .nil))) (gmT2 rfl rfl rfl rfl rfl rfl rfl rfl rfl rfl rfl rfl rfl rfl rfl rfl rfl rfl rfl rfl rfl) ?_)
  intro v own hv
  obtain ⟨⟨c3, fr, hd, qn, wt, tk, dr, dO, dv, n1, n2, bg, n3, lo, hi, o4, n4, n5, n6, ep, sv, x1, x2, x3, x4, x5, x6⟩, nt, xt, rfl⟩ := hKg v own hv
  cbv
  refine hq2 _ ?_
  cbv
  exact hret _ (RetEv.convW (ConvW.pack [0, 1, 2, 3, 4, 5, 6, 7, 8, 9, 10] hB rfl) (RetEv.ret eOk rfl (by exact hKv _ _ _ hv)))
end Go.Proofs.YtegkojnngdlfaaaGreat
