/- Guest: the game, with rows of its own; what is sent is answered. Conditions: on sizes. -/
import Derived.Test.YtegkojnngdlfaaaGreatLGqm
set_option maxRecDepth 100000
set_option maxHeartbeats 32000000
set_option linter.unusedSimpArgs false
set_option linter.unusedVariables false
namespace Go.Proofs.YtegkojnngdlfaaaGreat
open Go Go.Lx
open Go.Sx (vcIf)
abbrev gmO (c : Int) (g : Gq) (nt : Nat) (xt ws : List PV) : List Res := g.R ++ [.st 133 [.vw 8 2 0 2 none, .p (.int .i64 10), .p (.int .i64 30)], rpA ws,
  .st 89 [.own 0 0, .own 7 0, .p (.int .i64 1), .p (.int .i64 1), .p (.int .i64 c), .p (.int .i64 2), .p (.int .i64 1), .p (.int .i64 1), .vw 10 3 0 nt none], .arr 74 3 xt]
theorem gmT2 {own : List Res} {js : List Nat} {i0 i1 i2 i3 i4 i5 i6 i7 i8 i9 i10 : Nat} {c1 c2 c3 c4 c5 c6 nd fr hd qn wt tk dg db de dr dO dv : Int} {n1 n2 : Nat} {bg : Bool} {n3 : Nat} {lo hi : List UInt8} {o4 n4 n5 n6 : Nat} {ep sv : Int} {x1 x2 x3 x4 x5 x6 : List PV} {s3 : Int} {nt : Nat} {xt ws : List PV}
    (h0 : js[0]? = some i0) (h1 : js[1]? = some i1) (h2 : js[2]? = some i2) (h3 : js[3]? = some i3) (h4 : js[4]? = some i4) (h5 : js[5]? = some i5) (h6 : js[6]? = some i6) (h7 : js[7]? = some i7) (h8 : js[8]? = some i8) (h10 : js[10]? = some i10)
    (g0 : own[i0]? = some (.st 63 [.p (.int .i64 c1), .p (.int .i64 c2), .p (.int .i64 c3), .p (.int .i64 c4), .p (.int .i64 c5), .p (.int .i64 c6), .p (.int .i64 nd), .p (.int .i64 fr), .p (.int .i64 hd), .p (.int .i64 qn), .p (.int .i64 wt), .p (.int .i64 tk),
    .p (.int .i64 dg), .p (.int .i64 db), .p (.int .i64 de), .p (.int .i64 dr), .p (.int .i64 dO), .p (.int .i64 dv), .vw i1 4 0 n1 none, .vw i2 3 0 n2 none, .p (.bool bg), .vw i3 2 0 n3 none, .p (.str lo), .p (.str hi), .vw i4 1 o4 n4 none, .vw i5 2 0 n5 none, .vw i6 8 0 n6 none, .p (.int .i64 ep), .p (.int .i64 sv)]))
    (g1 : own[i1]? = some (.arr 81 4 x1)) (g2 : own[i2]? = some (.arr 25 3 x2)) (g3 : own[i3]? = some (.arr 38 2 x3)) (g4 : own[i4]? = some (.arr 3 1 x4)) (g5 : own[i5]? = some (.arr 84 2 x5)) (g6 : own[i6]? = some (msA x6))
    (g7 : own[i7]? = some (.st 133 [.vw i8 2 0 2 none, .p (.int .i64 10), .p (.int .i64 30)])) (g8 : own[i8]? = some (rpA ws))
    (g9 : own[i9]? = some (.st 89 [.own i0 0, .own i7 0, .p (.int .i64 1), .p (.int .i64 1), .p (.int .i64 s3), .p (.int .i64 2), .p (.int .i64 1), .p (.int .i64 1), .vw i10 3 0 nt none])) (g10 : own[i10]? = some (.arr 74 3 xt)) :
    TrO own js [] [i0, i1, i2, i3, i4, i5, i6, i7, i8, i9, i10] (gqR c1 c2 c3 c4 c5 c6 nd fr hd qn wt tk dg db de dr dO dv n1 n2 bg n3 lo hi o4 n4 n5 n6 ep sv x1 x2 x3 x4 x5 x6 ++ [.st 133 [.vw 8 2 0 2 none, .p (.int .i64 10), .p (.int .i64 30)], rpA ws,
  .st 89 [.own 0 0, .own 7 0, .p (.int .i64 1), .p (.int .i64 1), .p (.int .i64 s3), .p (.int .i64 2), .p (.int .i64 1), .p (.int .i64 1), .vw 10 3 0 nt none], .arr 74 3 xt]) :=
  ⟨⟨_, g0, .st _ _ _ (.cons (.p _) (.cons (.p _) (.cons (.p _) (.cons (.p _) (.cons (.p _) (.cons (.p _) (.cons (.p _) (.cons (.p _) (.cons (.p _) (.cons (.p _) (.cons (.p _) (.cons (.p _) (.cons (.p _) (.cons (.p _) (.cons (.p _) (.cons (.p _) (.cons (.p _) (.cons (.p _)
    (.cons (.vw 1 i1 4 0 n1 none h1) (.cons (.vw 2 i2 3 0 n2 none h2) (.cons (.p _) (.cons (.vw 3 i3 2 0 n3 none h3) (.cons (.p _) (.cons (.p _) (.cons (.vw 4 i4 1 o4 n4 none h4) (.cons (.vw 5 i5 2 0 n5 none h5) (.cons (.vw 6 i6 8 0 n6 none h6) (.cons (.p _) (.cons (.p _) .nil)))))))))))))))))))))))))))))⟩,
    ⟨_, g1, .arr _ _ _⟩, ⟨_, g2, .arr _ _ _⟩, ⟨_, g3, .arr _ _ _⟩, ⟨_, g4, .arr _ _ _⟩, ⟨_, g5, .arr _ _ _⟩, ⟨_, g6, .arr _ _ _⟩,
    ⟨_, g7, .st _ _ _ (.cons (.vw 8 i8 2 0 2 none h8) (.cons (.p _) (.cons (.p _) .nil)))⟩, ⟨_, g8, .arr _ _ _⟩,
    ⟨_, g9, .st _ _ _ (.cons (.own 0 i0 0 h0) (.cons (.own 7 i7 0 h7) (.cons (.p _) (.cons (.p _) (.cons (.p _) (.cons (.p _) (.cons (.p _) (.cons (.p _) (.cons (.vw 10 i10 3 0 nt none h10) .nil)))))))))⟩, ⟨_, g10, .arr _ _ _⟩, trivial⟩
def GmC (f : FuncId) (args : List V) (c : Int) (ws : List PV) (g : Gq) (nt : Nat) (xt : List PV) (Q : Gq → Nat → List PV → Prop) : Prop :=
  FnL Tryz.prog f args (gmO c g nt xt ws) fun v own => ∃ g' nt' xt', Q g' nt' xt' ∧ own = gmO c g' nt' xt' ws
theorem gmSendN (c : Int) (ws : List PV) (g : Gq) (nt : Nat) (xt : List PV) (how : Int) {Q : Gq → Nat → List PV → Prop} (hQ : Q g nt xt) :
    GmC 42 [.own 9 0, .p .nils, .p (.int .i64 how)] c ws g nt xt Q := by
  unfold GmC
  obtain ⟨K, hK⟩ : ∃ K : V → List Res → Prop, K = fun v own => ∃ g' nt' xt', Q g' nt' xt' ∧ own = gmO c g' nt' xt' ws := ⟨_, rfl⟩
  rw [← hK]
  have hk : ∀ v, K v (gmO c g nt xt ws) := fun v => by rw [hK]; exact ⟨_, _, _, hQ, rfl⟩
  clear hK hQ
  obtain ⟨c3, fr, hd, qn, wt, tk, dr, dO, dv, n1, n2, bg, n3, lo, hi, o4, n4, n5, n6, ep, sv, x1, x2, x3, x4, x5, x6⟩ := g
  refine fn_of_vc eOk fOk fo42 Tryz.func42 rfl rfl rfl fun B hB => ?_
  intro _ _ _ _ _ _ _ _ _ _ _ _ _ _ _ _ _ _ _ _ _ _ _ _ _ _ _ _ _ _ _ _ _ _ _ _ _ _ _ _ hcode ret hret
  cbv
  refine hcode _ _ _ (CodeEv.loop eOk fOk (ι := Unit) (fun _ => [(0, .own 9 0), (1, .p .nils), (2, .p (.int .i64 how)), (6, .p (.int .i64 0))])
    (fun _ => gmO c ⟨c3, fr, hd, qn, wt, tk, dr, dO, dv, n1, n2, bg, n3, lo, hi, o4, n4, n5, n6, ep, sv, x1, x2, x3, x4, x5, x6⟩ nt xt ws) (fun _ => True) (fun _ => 0) () ?_ ?_)
  · exact ⟨(by repeat (first | exact trivial | refine And.intro rfl ?_)), rfl, trivial⟩
  rintro ⟨⟩ _ rd1 hrd1
  intro _ _ _ _ _ _ _ _ _ _ _ _ _ _ _ _ _ _ _ _ _ _ _ hA1 _ _ _ _ _ _ _ _ _ _ hL1 _ _ _ _ _ _
  cbv
  repeat (first | (refine vcIf.yes ?_ ?_; (focus (simp [smW hA1 hL1]; done)); cbv) | (refine vcIf.no ?_ ?_; (focus (simp [smW hA1 hL1]; done)); cbv))
  exact hret _ (RetEv.ret eOk rfl (hk _))
theorem gmSend1 (c : Int) (ws : List PV) (g : Gq) (nt : Nat) (xt : List PV) (how : Int) {a1 a2 a3 a4 a5 a6 a7 : Int} {bd zs : List PV} (hzs : zs = [msP a1 a2 a3 a4 a5 a6 a7 (.sl bd)]) {Q1 Q : Gq → Nat → List PV → Prop} (hQ : how = 1 → Q g nt xt)
    (hA : how ≠ 1 → GmC 34 [.own 9 0, .p (msP a1 a2 a3 a4 a5 a6 a7 (.sl bd))] c ws g nt xt Q1)
    (hA2 : how = 2 → ∀ g nt xt, Q1 g nt xt → GmC 34 [.own 9 0, .p (msP a1 a2 a3 a4 a5 a6 a7 (.sl bd))] c ws g nt xt Q)
    (hA1 : how ≠ 1 → how ≠ 2 → ∀ g nt xt, Q1 g nt xt → Q g nt xt) :
    GmC 42 [.own 9 0, .p (.sl zs), .p (.int .i64 how)] c ws g nt xt Q := by
  unfold GmC
  obtain ⟨K, hK⟩ : ∃ K : V → List Res → Prop, K = fun v own => ∃ g' nt' xt', Q g' nt' xt' ∧ own = gmO c g' nt' xt' ws := ⟨_, rfl⟩
  rw [← hK]
  have hk : ∀ v g nt xt, Q g nt xt → K v (gmO c g nt xt ws) := fun v g nt xt h => by rw [hK]; exact ⟨_, _, _, h, rfl⟩
  have hz0 : zs[0]? = some (msP a1 a2 a3 a4 a5 a6 a7 (.sl bd)) := by rw [hzs]; rfl
  have hzl : zs.length = 1 := by rw [hzs]; rfl
  have hans := fun h => (hA h)
  have hans2 := fun h g nt xt hq => (hA2 h g nt xt hq)
  have hone := hA1
  unfold GmC at hans hans2
  clear hK hzs hA hA2 hA1
  obtain ⟨c3, fr, hd, qn, wt, tk, dr, dO, dv, n1, n2, bg, n3, lo, hi, o4, n4, n5, n6, ep, sv, x1, x2, x3, x4, x5, x6⟩ := g
  refine fn_of_vc eOk fOk fo42 Tryz.func42 rfl rfl rfl fun B hB => ?_
  intro add _ _ _ _ _ _ _ _ _ _ _ _ _ _ _ _ _ _ _ _ _ _ hA _ _ sl _ _ _ _ len _ _ _ _ _ _ _ _ hcode ret hret
  cbv
  refine hcode _ _ _ (CodeEv.loop eOk fOk (ι := Nat × Gq × Nat × List PV) (fun s => [(0, .own 9 0), (1, .p (.sl zs)), (2, .p (.int .i64 how)), (6, .p (.int .i64 (Int.ofNat s.1)))])
    (fun s => gmO c s.2.1 s.2.2.1 s.2.2.2 ws) (fun s => (s.1 = 0 ∧ s.2 = (⟨c3, fr, hd, qn, wt, tk, dr, dO, dv, n1, n2, bg, n3, lo, hi, o4, n4, n5, n6, ep, sv, x1, x2, x3, x4, x5, x6⟩, nt, xt)) ∨ (s.1 = 1 ∧ how ≠ 1 ∧ Q s.2.1 s.2.2.1 s.2.2.2)) (fun s => 1 - s.1) (0, ⟨c3, fr, hd, qn, wt, tk, dr, dO, dv, n1, n2, bg, n3, lo, hi, o4, n4, n5, n6, ep, sv, x1, x2, x3, x4, x5, x6⟩, nt, xt) ?_ ?_)
  · exact ⟨(by repeat (first | exact trivial | refine And.intro rfl ?_)), rfl, .inl ⟨rfl, rfl⟩⟩
  rintro ⟨i, g, nt, xt⟩ hst rd1 hrd1
  simp only at hst
  rcases hst with ⟨rfl, hg⟩ | ⟨rfl, h1, hq⟩
  rotate_left
  · obtain ⟨c3, fr, hd, qn, wt, tk, dr, dO, dv, n1, n2, bg, n3, lo, hi, o4, n4, n5, n6, ep, sv, x1, x2, x3, x4, x5, x6⟩ := g
    intro add1 _ _ _ _ _ _ _ _ _ _ _ ilt1 _ _ _ _ _ _ _ _ _ _ hA1 _ _ _ _ _ _ _ len1 _ _ hL1 _ _ _ hcall1 _ _
    have hcc : ilt1 (Int.ofNat 1) (len1 zs) = false := by rw [hA1.lt, hL1.len, hzl]; rfl
    cbv
    rw [hcc]
    cbv
    repeat (first | (refine vcIf.yes ?_ ?_; (focus (simp [smW hA1 hL1]; done)); cbv) | (refine vcIf.no ?_ ?_; (focus (simp [smW hA1 hL1]; done)); cbv))
    exact hret _ (RetEv.ret eOk rfl (by exact hk _ _ _ _ hq))
  cases hg
  by_cases h1 : how = 1
  · subst h1
    intro add1 _ _ _ _ _ _ _ _ _ _ _ ilt1 _ _ _ _ _ _ _ _ _ _ hA1 _ _ _ _ _ _ _ len1 _ _ hL1 _ _ _ hcall1 _ _
    have hcc : ilt1 (Int.ofNat 0) (len1 zs) = true := by rw [hA1.lt, hL1.len, hzl]; rfl
    cbv
    rw [hcc]
    cbv
    repeat (first | (refine vcIf.yes ?_ ?_; (focus (simp [smW hA1 hL1]; done)); cbv) | (refine vcIf.no ?_ ?_; (focus (simp [smW hA1 hL1]; done)); cbv))
    exact hret _ (RetEv.ret eOk rfl (by exact hk _ _ _ _ (hQ rfl)))
  replace hans := hans h1
  by_cases h2 : how = 2
  · replace hans2 := hans2 h2
    subst h2
    intro add1 _ _ _ _ _ _ _ _ _ _ _ ilt1 _ _ _ _ _ _ _ _ _ _ hA1 _ _ _ _ _ _ _ len1 _ _ hL1 _ _ _ hcall1 _ _
    have hcc : ilt1 (Int.ofNat 0) (len1 zs) = true := by rw [hA1.lt, hL1.len, hzl]; rfl
    have hadd1 : add1 .i64 (Int.ofNat 0) 1 = 1 := by rw [hA1.add]; rfl
    cbv
    rw [hcc]
    cbv
    repeat (first | (refine vcIf.yes ?_ ?_; (focus (simp [smW hA1 hL1]; done)); cbv) | (refine vcIf.no ?_ ?_; (focus (simp [smW hA1 hL1]; done)); cbv))
    refine ⟨0, _, rfl, hz0, rfl, ?_⟩
    cbv
    refine hcall1 _ _ _ _ _ (CallEv.lend [0, 1, 2, 3, 4, 5, 6, 7, 8, 9, 10] hans rfl (.cons (.own 9 9 0 rfl) (.cons (.p _) .nil)) (gmT2 rfl rfl rfl rfl rfl rfl rfl rfl rfl rfl rfl rfl rfl rfl rfl rfl rfl rfl rfl rfl rfl) ?_)
    rintro _ _ ⟨⟨c3, fr, hd, qn, wt, tk, dr, dO, dv, n1, n2, bg, n3, lo, hi, o4, n4, n5, n6, ep, sv, x1, x2, x3, x4, x5, x6⟩, nt, xt, hq1, rfl⟩
    have hans2 := hans2 _ _ _ hq1
    cbv
    repeat (first | (refine vcIf.yes ?_ ?_; (focus (simp [smW hA1 hL1]; done)); cbv) | (refine vcIf.no ?_ ?_; (focus (simp [smW hA1 hL1]; done)); cbv))
    refine ⟨0, _, rfl, hz0, rfl, ?_⟩
    cbv
    refine hcall1 _ _ _ _ _ (CallEv.lend [0, 1, 2, 3, 4, 5, 6, 7, 8, 9, 10] hans2 rfl (.cons (.own 9 9 0 rfl) (.cons (.p _) .nil)) (gmT2 rfl rfl rfl rfl rfl rfl rfl rfl rfl rfl rfl rfl rfl rfl rfl rfl rfl rfl rfl rfl rfl) ?_)
    rintro _ _ ⟨⟨c3, fr, hd, qn, wt, tk, dr, dO, dv, n1, n2, bg, n3, lo, hi, o4, n4, n5, n6, ep, sv, x1, x2, x3, x4, x5, x6⟩, nt, xt, hq2, rfl⟩
    cbv
    refine hrd1 _ ⟨(1, ⟨c3, fr, hd, qn, wt, tk, dr, dO, dv, n1, n2, bg, n3, lo, hi, o4, n4, n5, n6, ep, sv, x1, x2, x3, x4, x5, x6⟩, nt, xt), _, Nat.zero_lt_one, .inr ⟨rfl, h1, hq2⟩, rfl, ⟨rfl, rfl, rfl, ?_, trivial⟩, rfl, rfl, rfl, by rw [hB]; exact Nat.le_of_ble_eq_true rfl⟩
    show some (V.p (.int .i64 _)) = _
    rw [hadd1]; rfl
  · replace hone := hone h1 h2
    intro add1 _ _ _ _ _ _ _ _ _ _ _ ilt1 _ _ _ _ _ _ _ _ _ _ hA1 _ _ _ _ _ _ _ len1 _ _ hL1 _ _ _ hcall1 _ _
    have hcc : ilt1 (Int.ofNat 0) (len1 zs) = true := by rw [hA1.lt, hL1.len, hzl]; rfl
    have hadd1 : add1 .i64 (Int.ofNat 0) 1 = 1 := by rw [hA1.add]; rfl
    cbv
    rw [hcc]
    cbv
    repeat (first | (refine vcIf.yes ?_ ?_; (focus (simp [smW hA1 hL1, h1]; done)); cbv) | (refine vcIf.no ?_ ?_; (focus (simp [smW hA1 hL1, h1]; done)); cbv))
    refine ⟨0, _, rfl, hz0, rfl, ?_⟩
    cbv
    refine hcall1 _ _ _ _ _ (CallEv.lend [0, 1, 2, 3, 4, 5, 6, 7, 8, 9, 10] hans rfl (.cons (.own 9 9 0 rfl) (.cons (.p _) .nil)) (gmT2 rfl rfl rfl rfl rfl rfl rfl rfl rfl rfl rfl rfl rfl rfl rfl rfl rfl rfl rfl rfl rfl) ?_)
    rintro _ _ ⟨⟨c3, fr, hd, qn, wt, tk, dr, dO, dv, n1, n2, bg, n3, lo, hi, o4, n4, n5, n6, ep, sv, x1, x2, x3, x4, x5, x6⟩, nt, xt, hq1, rfl⟩
    cbv
    repeat (first | (refine vcIf.yes ?_ ?_; (focus (simp [smW hA1 hL1, h2]; done)); cbv) | (refine vcIf.no ?_ ?_; (focus (simp [smW hA1 hL1, h2]; done)); cbv))
    refine hrd1 _ ⟨(1, ⟨c3, fr, hd, qn, wt, tk, dr, dO, dv, n1, n2, bg, n3, lo, hi, o4, n4, n5, n6, ep, sv, x1, x2, x3, x4, x5, x6⟩, nt, xt), _, Nat.zero_lt_one, .inr ⟨rfl, h1, hone _ _ _ hq1⟩, rfl, ⟨rfl, rfl, rfl, ?_, trivial⟩, rfl, rfl, rfl, by rw [hB]; exact Nat.le_of_ble_eq_true rfl⟩
    show some (V.p (.int .i64 _)) = _
    rw [hadd1]; rfl
end Go.Proofs.YtegkojnngdlfaaaGreat
