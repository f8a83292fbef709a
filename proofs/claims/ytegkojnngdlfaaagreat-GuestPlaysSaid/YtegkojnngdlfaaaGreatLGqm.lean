/- LGq1, LGq2, LGq3, LGq4, LGq5, LGq6, LGq7, LGq8, LGq9, LGq10 together. Conditions: on sizes. -/
import Derived.Test.YtegkojnngdlfaaaGreatLGpm
import Derived.Test.YtegkojnngdlfaaaGreatLY15
import Derived.Test.YtegkojnngdlfaaaGreatLMm
import Derived.Test.YtegkojnngdlfaaaGreatLY10
import Derived.Test.YtegkojnngdlfaaaGreatLOnm
import Derived.Test.YtegkojnngdlfaaaGreatLPrm
import Derived.Test.YtegkojnngdlfaaaGreatLPbm
import Derived.Test.YtegkojnngdlfaaaGreatLSlh
import Derived.Test.YtegkojnngdlfaaaGreatLSh4h
import Derived.Test.YtegkojnngdlfaaaGreatLOm
import Derived.Test.YtegkojnngdlfaaaGreatLY3
set_option maxRecDepth 100000
set_option maxHeartbeats 64000000
set_option linter.unusedSimpArgs false
set_option linter.unusedVariables false
section
namespace Go.Proofs.YtegkojnngdlfaaaGreat
open Go Go.Lx
open Go.Sx (vcIf)
structure Gq where
  c3 : Int
  fr : Int
  hd : Int
  qn : Int
  wt : Int
  tk : Int
  dr : Int
  dO : Int
  dv : Int
  n1 : Nat
  n2 : Nat
  bg : Bool
  n3 : Nat
  lo : List UInt8
  hi : List UInt8
  o4 : Nat
  n4 : Nat
  n5 : Nat
  n6 : Nat
  ep : Int
  sv : Int
  x1 : List PV
  x2 : List PV
  x3 : List PV
  x4 : List PV
  x5 : List PV
  x6 : List PV
abbrev Gq.R (g : Gq) : List Res := gqR 1 1 g.c3 2 1 1 100 g.fr g.hd g.qn g.wt g.tk 0 0 0 g.dr g.dO g.dv g.n1 g.n2 g.bg g.n3 g.lo g.hi g.o4 g.n4 g.n5 g.n6 g.ep g.sv g.x1 g.x2 g.x3 g.x4 g.x5 g.x6
def Gq.sent (g : Gq) (w qm : Int) (ms : List PV) : Gq := { g with qn := qm, wt := w, tk := 0, n6 := 1, x6 := ms }
theorem gSend_spec (g : Gq) (hqn : 0 ≤ g.qn ∧ g.qn < 9223372036854775807) {qm : Int} (hqm : qm = g.qn + 1) (w tgt k0 f0 t0 e a0 b c : Int) (bd : List PV) :
    FnL Tryz.prog 18 [.own 0 0, .p (.int .i64 w), .p (.int .i64 tgt), .p (msP k0 f0 t0 e a0 b c (.sl bd))] g.R fun v own => ∃ zs, zs = [msP 1 100 tgt e qm b c (.sl bd)] ∧
      v = .p (.sl zs) ∧ own = (g.sent w qm zs).R :=
  gqSend_spec 1 1 g.c3 2 1 1 100 g.fr g.hd g.qn qm g.wt g.tk 0 0 0 g.dr g.dO g.dv g.n1 g.n2 g.bg g.n3 g.lo g.hi g.o4 g.n4 g.n5 g.n6 g.ep g.sv g.x1 g.x2 g.x3 g.x4 g.x5 g.x6 hqn hqm w tgt k0 f0 t0 e a0 b c bd
theorem gIdle_spec (g : Gq) : FnL Tryz.prog 19 [.own 0 0] g.R fun v own => ∃ e : Nat, e = idl g.wt g.bg g.dO ∧ v = .p (.int .i64 (Int.ofNat e)) ∧ own = g.R :=
  gqIdle_spec 1 1 g.c3 2 1 1 100 g.fr g.hd g.qn g.wt g.tk 0 0 0 g.dr g.dO g.dv g.n1 g.n2 g.bg g.n3 g.lo g.hi g.o4 g.n4 g.n5 g.n6 g.ep g.sv g.x1 g.x2 g.x3 g.x4 g.x5 g.x6
def Gq.begun (g : Gq) : Gq := { g with dr := 0, dO := 0, dv := 0, n1 := 0, n2 := 0, bg := true, n3 := 0, x1 := [], x2 := [], x3 := [] }
theorem gBegin_spec (g : Gq) (hqn : 0 ≤ g.qn ∧ g.qn < 9223372036854775807) {qm : Int} (hqm : qm = g.qn + 1) (hw : g.wt = 0) (hbg : ¬ (g.bg = true ∧ g.dO = 0)) :
    FnL Tryz.prog 6 [.own 0 0] g.R fun v own => ∃ zs, zs = [msP 1 100 g.fr 0 qm 1 0 (.sl [])] ∧ v = .p (.tup [.sl zs, .int .i64 0]) ∧ own = (g.begun.sent 1 qm zs).R := by
  obtain ⟨c3, fr, hd, qn, wt, tk, dr, dO, dv, n1, n2, bg, n3, lo, hi, o4, n4, n5, n6, ep, sv, x1, x2, x3, x4, x5, x6⟩ := g
  simp only at hqn hqm hw hbg ⊢
  subst hw
  refine fn_of_vc eOk fOk fo6 Tryz.func6 rfl rfl rfl fun B hB => ?_
  intro _ sub _ _ _ _ _ _ _ _ _ _ _ _ _ _ _ _ _ _ _ _ _ hA _ _ sl _ _ _ _ _ _ _ hL _ _ _ hcall _ _ ret hret
  have hsub : sub .i64 100 100 = 0 := by rw [hA.sub, IntWalk.i64_in _ (by omega)]; rfl
  have hse := FnL.wk (xs := [.own 0 0, .p (.int .i64 1), .p (.int .i64 fr), .p (msP 0 0 0 0 0 1 0 .nils)]) (gSend_spec ⟨c3, fr, hd, qn, 0, tk, 0, 0, 0, 0, 0, true, 0, lo, hi, o4, n4, n5, n6, ep, sv, [], [], [], x4, x5, x6⟩ hqn hqm 1 fr 0 0 0 0 0 1 0 [])
    ⟨.refl _, .refl _, .refl _, .p (PW.agg ⟨.refl _, .refl _, .refl _, .refl _, .refl _, .refl _, .refl _, PW.nils, trivial⟩), trivial⟩
  cbv
  cases bg with
  | false =>
    repeat (first | (refine vcIf.yes ?_ ?_; (focus (simp [smW hA hL]; done)); cbv) | (refine vcIf.no ?_ ?_; (focus (simp [smW hA hL]; done)); cbv))
    rw [hsub]
    refine hcall _ _ _ _ _ (CallEv.convE ((ConvE.hollowC 0 18 81 4 (by decide) rfl rfl).trans ((ConvE.hollowC 0 19 25 3 (by decide) rfl rfl).trans (ConvE.hollowC 0 21 38 2 (by decide) rfl rfl))) (CallEv.lend [0, 7, 8, 9, 4, 5, 6] hse rfl (.cons (.own 0 0 0 rfl) (.cons (.p _) (.cons (.p _) (.cons (.p _) .nil)))) (gqT rfl rfl rfl rfl rfl rfl rfl rfl rfl rfl rfl rfl rfl) ?_))
    rintro _ _ ⟨zs, hzs, rfl, rfl⟩
    cbv
    exact hret _ (RetEv.convW (ConvW.pack [0, 7, 8, 9, 4, 5, 6] hB rfl) (RetEv.ret eOk rfl ⟨zs, hzs, rfl, rfl⟩))
  | true =>
    have hdO : ¬ dO = 0 := fun h => hbg ⟨rfl, h⟩
    repeat (first | (refine vcIf.yes ?_ ?_; (focus (simp [smW hA hL, hdO]; done)); cbv) | (refine vcIf.no ?_ ?_; (focus (simp [smW hA hL, hdO]; done)); cbv))
    rw [hsub]
    refine hcall _ _ _ _ _ (CallEv.convE ((ConvE.hollowC 0 18 81 4 (by decide) rfl rfl).trans ((ConvE.hollowC 0 19 25 3 (by decide) rfl rfl).trans (ConvE.hollowC 0 21 38 2 (by decide) rfl rfl))) (CallEv.lend [0, 7, 8, 9, 4, 5, 6] hse rfl (.cons (.own 0 0 0 rfl) (.cons (.p _) (.cons (.p _) (.cons (.p _) .nil)))) (gqT rfl rfl rfl rfl rfl rfl rfl rfl rfl rfl rfl rfl rfl) ?_))
    rintro _ _ ⟨zs, hzs, rfl, rfl⟩
    cbv
    exact hret _ (RetEv.convW (ConvW.pack [0, 7, 8, 9, 4, 5, 6] hB rfl) (RetEv.ret eOk rfl ⟨zs, hzs, rfl, rfl⟩))
theorem gBegin_err (g : Gq) (h : g.wt ≠ 0 ∨ g.bg = true ∧ g.dO = 0) :
    FnL Tryz.prog 6 [.own 0 0] g.R fun v own => ∃ e : Nat, e = (if g.wt ≠ 0 then 14 else 9) ∧ v = .p (.tup [.nils, .int .i64 (Int.ofNat e)]) ∧ own = g.R :=
  gqBegin_err 1 1 g.c3 2 1 1 100 g.fr g.hd g.qn g.wt g.tk 0 0 0 g.dr g.dO g.dv g.n1 g.n2 g.bg g.n3 g.lo g.hi g.o4 g.n4 g.n5 g.n6 g.ep g.sv g.x1 g.x2 g.x3 g.x4 g.x5 g.x6 h
theorem gChange_spec (g : Gq) (hx2 : g.n2 = g.x2.length) (ch : Chg) (hf : ch.fit) :
    FnL Tryz.prog 10 [.own 0 0, .p (.agg [.int .i64 ch.kind, .str ch.key, .str ch.val])] g.R fun v own => ∃ e : Nat, e = cgE g.wt g.bg g.dO g.n2 ch ∧ v = .p (.int .i64 (Int.ofNat e)) ∧
      ((e ≠ 0 ∧ own = g.R) ∨ (e = 0 ∧ ∃ ws m, ws = g.x2 ++ [.agg [.int .i64 ch.kind, .str ch.key, .str ch.val]] ∧ m = g.n2 + 1 ∧ own = ({ g with n2 := m, x2 := ws } : Gq).R)) :=
  gqChange_spec 1 1 g.c3 2 1 1 100 g.fr g.hd g.qn g.wt g.tk 0 0 0 g.dr g.dO g.dv g.n1 g.n2 g.bg g.n3 g.lo g.hi g.o4 g.n4 g.n5 g.n6 g.ep g.sv g.x1 g.x2 g.x3 g.x4 g.x5 g.x6 hx2 ch hf
end Go.Proofs.YtegkojnngdlfaaaGreat
end
section
namespace Go.Proofs.YtegkojnngdlfaaaGreat
open Go Go.Lx
open Go.Sx (vcIf)
theorem gCloneM_spec (g : Gq) {us : List PV} (hus : g.x6 = us) (hul : g.n6 = 1) (hu1 : us.length = 1) (hw : Wf 8 us) :
    FnL Tryz.prog 33 [.vw 6 8 0 1 none] g.R fun v own => v = .vw 7 8 0 1 none ∧ own = g.R ++ [msA us] := by
  obtain ⟨c3, fr, hd, qn, wt, tk, dr, dO, dv, n1, n2, bg, n3, lo, hi, o4, n4, n5, n6, ep, sv, x1, x2, x3, x4, x5, x6⟩ := g
  simp only at hus hul
  subst hul
  exact cloneMg_spec 1 1 c3 2 1 1 100 fr hd qn wt tk 0 0 0 dr dO dv n1 n2 bg n3 lo hi o4 n4 n5 1 ep sv x1 x2 x3 x4 x5 x6 us
    (by rw [hus, List.drop_zero, ← hu1, List.take_length]) hu1 hw (by decide)
theorem gTick_idle (g : Gq) (hw : g.wt = 0) : FnL Tryz.prog 12 [.own 0 0] g.R fun v own => v = .p .nils ∧ own = g.R := by
  obtain ⟨c3, fr, hd, qn, wt, tk, dr, dO, dv, n1, n2, bg, n3, lo, hi, o4, n4, n5, n6, ep, sv, x1, x2, x3, x4, x5, x6⟩ := g
  simp only at hw ⊢
  subst hw
  refine fn_of_vc eOk fOk fo12 Tryz.func12 rfl rfl rfl fun B hB => ?_
  intro _ _ _ _ _ _ _ _ _ _ _ _ _ _ _ _ _ _ _ _ _ _ _ hA _ _ _ _ _ _ _ _ _ _ hL _ _ _ _ _ _ ret hret
  cbv
  repeat (first | (refine vcIf.yes ?_ ?_; (focus (simp [smW hA hL]; done)); cbv) | (refine vcIf.no ?_ ?_; (focus (simp [smW hA hL]; done)); cbv))
  exact hret _ (RetEv.ret eOk rfl ⟨rfl, rfl⟩)
theorem gTick_gone (g : Gq) (hw : g.wt = 2 ∨ g.wt = 3) (ht : 48 ≤ g.tk ∧ g.tk ≤ 1000) {tm : Int} (htm : tm = g.tk + 1) : FnL Tryz.prog 12 [.own 0 0] g.R fun v own => v = .p .nils ∧ own = ({ g with tk := tm, wt := 0, dO := 5 } : Gq).R := by
  obtain ⟨c3, fr, hd, qn, wt, tk, dr, dO, dv, n1, n2, bg, n3, lo, hi, o4, n4, n5, n6, ep, sv, x1, x2, x3, x4, x5, x6⟩ := g
  simp only at hw ht htm ⊢
  refine fn_of_vc eOk fOk fo12 Tryz.func12 rfl rfl rfl fun B hB => ?_
  intro add _ _ _ _ _ _ _ _ _ _ _ _ _ _ _ _ _ _ _ _ _ _ hA _ _ _ _ _ _ _ _ _ _ hL _ _ _ _ _ _ ret hret
  have hadd : add .i64 tk 1 = tm := by rw [hA.add, IntWalk.i64_in _ (by omega), htm]
  have hw0 : ¬ wt = 0 := by omega
  have hw1 : ¬ wt = 1 := by omega
  have ht48 : ¬ tm ≤ 48 := by omega
  have ht49 : 48 < tm := by omega
  cbv
  repeat (first | (refine vcIf.yes ?_ ?_; (focus (simp [smW hA hL, hw0]; done)); cbv) | (refine vcIf.no ?_ ?_; (focus (simp [smW hA hL, hw0]; done)); cbv))
  rw [hadd]
  repeat (first | (refine vcIf.yes ?_ ?_; (focus (simp [smW hA hL, ht48, ht49, hw1]; done)); cbv) | (refine vcIf.no ?_ ?_; (focus (simp [smW hA hL, ht48, ht49, hw1]; done)); cbv))
  exact hret _ (RetEv.ret eOk rfl ⟨rfl, rfl⟩)
theorem gTick_commit (g : Gq) (hw : g.wt = 3) (ht : 0 ≤ g.tk ∧ g.tk < 48) {tm : Int} (htm : tm = g.tk + 1) : FnL Tryz.prog 12 [.own 0 0] g.R fun v own => v = .p .nils ∧ own = ({ g with tk := tm } : Gq).R := by
  obtain ⟨c3, fr, hd, qn, wt, tk, dr, dO, dv, n1, n2, bg, n3, lo, hi, o4, n4, n5, n6, ep, sv, x1, x2, x3, x4, x5, x6⟩ := g
  simp only at hw ht htm ⊢
  subst hw
  refine fn_of_vc eOk fOk fo12 Tryz.func12 rfl rfl rfl fun B hB => ?_
  intro add _ _ _ _ _ _ _ _ _ _ _ _ _ _ _ _ _ _ _ _ _ _ hA _ _ _ _ _ _ _ _ _ _ hL _ _ _ _ _ _ ret hret
  have hadd : add .i64 tk 1 = tm := by rw [hA.add, IntWalk.i64_in _ (by omega), htm]
  have ht48 : tm ≤ 48 := by omega
  have ht49 : ¬ 48 < tm := by omega
  cbv
  repeat (first | (refine vcIf.yes ?_ ?_; (focus (simp [smW hA hL]; done)); cbv) | (refine vcIf.no ?_ ?_; (focus (simp [smW hA hL]; done)); cbv))
  rw [hadd]
  repeat (first | (refine vcIf.yes ?_ ?_; (focus (simp [smW hA hL, ht48, ht49]; done)); cbv) | (refine vcIf.no ?_ ?_; (focus (simp [smW hA hL, ht48, ht49]; done)); cbv))
  exact hret _ (RetEv.ret eOk rfl ⟨rfl, rfl⟩)
theorem gTick_again (g : Gq) (hw : g.wt = 2) (ht : 0 ≤ g.tk ∧ g.tk < 48) {tm : Int} (htm : tm = g.tk + 1) (hn6 : g.n6 = 1) {k f t e a b c : Int} {bd : PV} (hb1 : bd.one = true) (hx6 : g.x6 = [msP k f t e a b c bd]) :
    FnL Tryz.prog 12 [.own 0 0] g.R fun v own => ∃ zs, zs = [msP k f t e a b c bd] ∧ v = .p (.sl zs) ∧ own = ({ g with tk := tm } : Gq).R := by
  obtain ⟨c3, fr, hd, qn, wt, tk, dr, dO, dv, n1, n2, bg, n3, lo, hi, o4, n4, n5, n6, ep, sv, x1, x2, x3, x4, x5, x6⟩ := g
  simp only at hw ht htm hn6 hx6 ⊢
  subst hw hn6
  obtain ⟨us, hus⟩ : ∃ us, us = [msP k f t e a b c bd] := ⟨_, rfl⟩
  rw [← hus] at hx6
  have hcl := gCloneM_spec ⟨c3, fr, hd, qn, 2, tm, dr, dO, dv, n1, n2, bg, n3, lo, hi, o4, n4, n5, 1, ep, sv, x1, x2, x3, x4, x5, x6⟩ (us := us) hx6 rfl (by rw [hus]; rfl) (by
    rw [hus]; intro x hx; rw [List.mem_singleton.1 hx]; exact ⟨rfl, fun u hu => by simp [PV.cells] at hu; rcases hu with rfl | rfl | rfl | rfl | rfl | rfl | rfl | rfl <;> first | rfl | exact hb1⟩)
  refine fn_of_vc eOk fOk fo12 Tryz.func12 rfl rfl rfl fun B hB => ?_
  intro add _ _ _ _ _ _ _ _ _ _ _ _ _ _ _ _ _ _ _ _ _ _ hA _ _ sl _ _ _ _ _ _ _ hL _ _ _ hcall _ _ ret hret
  have hadd : add .i64 tk 1 = tm := by rw [hA.add, IntWalk.i64_in _ (by omega), htm]
  have ht48 : tm ≤ 48 := by omega
  have ht49 : ¬ 48 < tm := by omega
  cbv
  repeat (first | (refine vcIf.yes ?_ ?_; (focus (simp [smW hA hL]; done)); cbv) | (refine vcIf.no ?_ ?_; (focus (simp [smW hA hL]; done)); cbv))
  rw [hadd]
  repeat (first | (refine vcIf.yes ?_ ?_; (focus (simp [smW hA hL, ht48, ht49]; done)); cbv) | (refine vcIf.no ?_ ?_; (focus (simp [smW hA hL, ht48, ht49]; done)); cbv))
  refine hcall _ _ _ _ _ (CallEv.lend [0, 1, 2, 3, 4, 5, 6] hcl rfl (.cons (.vw 6 6 8 0 1 none rfl) .nil) (gqT rfl rfl rfl rfl rfl rfl rfl rfl rfl rfl rfl rfl rfl) ?_)
  rintro _ _ ⟨rfl, rfl⟩
  cbv
  exact hret _ (RetEv.convW ((Conv.freeze 7 rfl (by rw [hB]; exact Nat.le_of_ble_eq_true rfl)).weak.trans (ConvW.pack [0, 1, 2, 3, 4, 5, 6] hB rfl)) (RetEv.ret eOk rfl ⟨us, hus, by rw [hus]; rfl, rfl⟩))
theorem gTick_version (g : Gq) (hw : g.wt = 1) (ht : 0 ≤ g.tk ∧ g.tk ≤ 48) (hfr : g.fr = 60 ∨ g.fr = 61) (hn6 : g.n6 = 1) {k f t e a b c : Int} {bd : PV} (hb1 : bd.one = true) (hx6 : g.x6 = [msP k f t e a b c bd]) :
    FnL Tryz.prog 12 [.own 0 0] g.R fun v own => ∃ tm fm zs, (0 ≤ tm ∧ tm ≤ 48) ∧ (fm = 60 ∨ fm = 61) ∧ zs = [msP k f fm e a b c bd] ∧ v = .p (.sl zs) ∧ own = ({ g with tk := tm, fr := fm, x6 := zs } : Gq).R := by
  obtain ⟨c3, fr, hd, qn, wt, tk, dr, dO, dv, n1, n2, bg, n3, lo, hi, o4, n4, n5, n6, ep, sv, x1, x2, x3, x4, x5, x6⟩ := g
  simp only at hw ht hfr hn6 hx6 ⊢
  subst hw hn6
  have hcl0 := fun (tm fm : Int) (us : List PV) (hus : us = [msP k f fm e a b c bd]) => gCloneM_spec ⟨c3, fm, hd, qn, 1, tm, dr, dO, dv, n1, n2, bg, n3, lo, hi, o4, n4, n5, 1, ep, sv, x1, x2, x3, x4, x5, us⟩ (us := us) rfl rfl (by rw [hus]; rfl) (by
    rw [hus]; intro x hx; rw [List.mem_singleton.1 hx]; exact ⟨rfl, fun u hu => by simp [PV.cells] at hu; rcases hu with rfl | rfl | rfl | rfl | rfl | rfl | rfl | rfl <;> first | rfl | exact hb1⟩)
  refine fn_of_vc eOk fOk fo12 Tryz.func12 rfl rfl rfl fun B hB => ?_
  intro add sub _ _ rem _ _ _ _ _ _ _ _ _ _ _ _ _ _ _ _ _ _ hA _ _ sl _ _ _ _ _ _ _ hL _ _ _ hcall _ hcode ret hret
  obtain ⟨t1, ht1⟩ : ∃ t1, t1 = tk + 1 := ⟨_, rfl⟩
  have hadd : add .i64 tk 1 = t1 := by rw [hA.add, IntWalk.i64_in _ (by omega), ht1]
  cbv
  repeat (first | (refine vcIf.yes ?_ ?_; (focus (simp [smW hA hL]; done)); cbv) | (refine vcIf.no ?_ ?_; (focus (simp [smW hA hL]; done)); cbv))
  rw [hadd]
  have hfm : ∃ fm : Int, (fm = 60 ∨ fm = 61) ∧ add .i64 60 (rem (add .i64 (sub .i64 fr 60) 1) 2) = fm := by
    rcases hfr with rfl | rfl
    · exact ⟨61, .inr rfl, by simp only [hA.sub, hA.add, hA.rem]; rfl⟩
    · exact ⟨60, .inl rfl, by simp only [hA.sub, hA.add, hA.rem]; rfl⟩
  obtain ⟨fm, hfm, hfe⟩ := hfm
  by_cases h48 : 48 < t1
  · have h48' : ¬ t1 ≤ 48 := by omega
    repeat (first | (refine vcIf.yes ?_ ?_; (focus (simp [smW hA hL, h48, h48']; done)); cbv) | (refine vcIf.no ?_ ?_; (focus (simp [smW hA hL, h48, h48']; done)); cbv))
    refine vcIf.yes (by rw [hA.eq, hA.rem]; rfl) ?_
    cbv
    refine hcode _ _ _ (CodeEv.drawA eOk fOk (by kernel_rfl) (Xof 7 [0]) (by kernel_rfl) (by kernel_rfl) (by kernel_rfl) ?_)
    intro add2 sub2 _ _ rem2 _ _ _ _ _ _ _ _ _ _ _ _ _ _ _ _ _ _ hA2 _ _ _ _ _ _ _ _ _ _ _ _ _ _ _ _ _ _ hq2
    have hfe2 : add2 .i64 60 (rem2 (add2 .i64 (sub2 .i64 fr 60) 1) 2) = fm := by
      simp only [hA2.add, hA2.rem, hA2.sub]; simp only [hA.add, hA.rem, hA.sub] at hfe; exact hfe
    cbv
    refine ⟨(), by decide, ?_⟩
    cbv
    rw [hfe2]
    refine hq2 _ ?_
    cbv
    refine hcode _ _ _ (CodeEv.drawA eOk fOk (by kernel_rfl) (Xof 7 [6]) (by kernel_rfl) (by kernel_rfl) (by kernel_rfl) ?_)
    intro _ _ _ _ _ _ _ _ _ _ _ _ _ _ _ _ _ _ _ _ _ _ _ _ _ _ _ _ _ _ _ _ _ _ _ _ _ _ _ _ _ _ hq3
    cbv
    refine ⟨0, rfl, by decide, fun q hq => ?_⟩
    obtain rfl : q = 0 := hq
    cbv
    refine ⟨_, by rw [hx6]; rfl, ⟨rfl, fun u hu => by simp [PV.cells] at hu; rw [hu]; rfl⟩, Nat.le_of_ble_eq_true rfl, fun us hus => ?_⟩
    rw [hx6] at hus
    replace hus : us = [msP k f fm e a b c bd] := hus
    have hcl := hcl0 0 fm us hus
    cbv
    refine hq3 _ ?_
    cbv
    refine hcall _ _ _ _ _ (CallEv.lend [0, 1, 2, 3, 4, 5, 6] hcl rfl (.cons (.vw 6 6 8 0 1 none rfl) .nil) (gqT rfl rfl rfl rfl rfl rfl rfl rfl rfl rfl rfl rfl rfl) ?_)
    rintro _ _ ⟨rfl, rfl⟩
    cbv
    exact hret _ (RetEv.convW ((Conv.freeze 7 rfl (by rw [hB]; exact Nat.le_of_ble_eq_true rfl)).weak.trans (ConvW.pack [0, 1, 2, 3, 4, 5, 6] hB rfl)) (RetEv.ret eOk rfl ⟨0, fm, us, (by decide), hfm, hus, by rw [hus]; rfl, rfl⟩))
  · have h48' : t1 ≤ 48 := by omega
    repeat (first | (refine vcIf.yes ?_ ?_; (focus (simp [smW hA hL, h48, h48']; done)); cbv) | (refine vcIf.no ?_ ?_; (focus (simp [smW hA hL, h48, h48']; done)); cbv))
    by_cases hr : t1.tmod 12 = 0
    · refine vcIf.yes (by rw [hA.eq, hA.rem]; exact decide_eq_true hr) ?_
      cbv
      refine hcode _ _ _ (CodeEv.drawA eOk fOk (by kernel_rfl) (Xof 7 [0]) (by kernel_rfl) (by kernel_rfl) (by kernel_rfl) ?_)
      intro add2 sub2 _ _ rem2 _ _ _ _ _ _ _ _ _ _ _ _ _ _ _ _ _ _ hA2 _ _ _ _ _ _ _ _ _ _ _ _ _ _ _ _ _ _ hq2
      have hfe2 : add2 .i64 60 (rem2 (add2 .i64 (sub2 .i64 fr 60) 1) 2) = fm := by
        simp only [hA2.add, hA2.rem, hA2.sub]; simp only [hA.add, hA.rem, hA.sub] at hfe; exact hfe
      cbv
      refine ⟨(), by decide, ?_⟩
      cbv
      rw [hfe2]
      refine hq2 _ ?_
      cbv
      refine hcode _ _ _ (CodeEv.drawA eOk fOk (by kernel_rfl) (Xof 7 [6]) (by kernel_rfl) (by kernel_rfl) (by kernel_rfl) ?_)
      intro _ _ _ _ _ _ _ _ _ _ _ _ _ _ _ _ _ _ _ _ _ _ _ _ _ _ _ _ _ _ _ _ _ _ _ _ _ _ _ _ _ _ hq3
      cbv
      refine ⟨0, rfl, by decide, fun q hq => ?_⟩
      obtain rfl : q = 0 := hq
      cbv
      refine ⟨_, by rw [hx6]; rfl, ⟨rfl, fun u hu => by simp [PV.cells] at hu; rw [hu]; rfl⟩, Nat.le_of_ble_eq_true rfl, fun us hus => ?_⟩
      rw [hx6] at hus
      replace hus : us = [msP k f fm e a b c bd] := hus
      have hcl := hcl0 t1 fm us hus
      cbv
      refine hq3 _ ?_
      cbv
      refine hcall _ _ _ _ _ (CallEv.lend [0, 1, 2, 3, 4, 5, 6] hcl rfl (.cons (.vw 6 6 8 0 1 none rfl) .nil) (gqT rfl rfl rfl rfl rfl rfl rfl rfl rfl rfl rfl rfl rfl) ?_)
      rintro _ _ ⟨rfl, rfl⟩
      cbv
      exact hret _ (RetEv.convW ((Conv.freeze 7 rfl (by rw [hB]; exact Nat.le_of_ble_eq_true rfl)).weak.trans (ConvW.pack [0, 1, 2, 3, 4, 5, 6] hB rfl)) (RetEv.ret eOk rfl ⟨t1, fm, us, (by omega), hfm, hus, by rw [hus]; rfl, rfl⟩))
    · refine vcIf.no (by rw [hA.eq, hA.rem]; exact decide_eq_false hr) ?_
      cbv
      refine hcode _ _ _ (CodeEv.drawA eOk fOk (by kernel_rfl) (Xof 7 [6]) (by kernel_rfl) (by kernel_rfl) (by kernel_rfl) ?_)
      intro _ _ _ _ _ _ _ _ _ _ _ _ _ _ _ _ _ _ _ _ _ _ _ _ _ _ _ _ _ _ _ _ _ _ _ _ _ _ _ _ _ _ hq3
      cbv
      refine ⟨0, rfl, by decide, fun q hq => ?_⟩
      obtain rfl : q = 0 := hq
      cbv
      refine ⟨_, by rw [hx6]; rfl, ⟨rfl, fun u hu => by simp [PV.cells] at hu; rw [hu]; rfl⟩, Nat.le_of_ble_eq_true rfl, fun us hus => ?_⟩
      rw [hx6] at hus
      replace hus : us = [msP k f fr e a b c bd] := hus
      have hcl := hcl0 t1 fr us hus
      cbv
      refine hq3 _ ?_
      cbv
      refine hcall _ _ _ _ _ (CallEv.lend [0, 1, 2, 3, 4, 5, 6] hcl rfl (.cons (.vw 6 6 8 0 1 none rfl) .nil) (gqT rfl rfl rfl rfl rfl rfl rfl rfl rfl rfl rfl rfl rfl) ?_)
      rintro _ _ ⟨rfl, rfl⟩
      cbv
      exact hret _ (RetEv.convW ((Conv.freeze 7 rfl (by rw [hB]; exact Nat.le_of_ble_eq_true rfl)).weak.trans (ConvW.pack [0, 1, 2, 3, 4, 5, 6] hB rfl)) (RetEv.ret eOk rfl ⟨t1, fr, us, (by omega), hfr, hus, by rw [hus]; rfl, rfl⟩))
end Go.Proofs.YtegkojnngdlfaaaGreat
end
section
namespace Go.Proofs.YtegkojnngdlfaaaGreat
open Go Go.Lx
open Go.Sx (vcIf)
theorem gAskShelf_spec (g : Gq) (hqn : 0 ≤ g.qn ∧ g.qn < 9223372036854775807) {qm : Int} (hqm : qm = g.qn + 1) (hlo : g.lo.length ≤ 65536) (hhi : g.hi.length ≤ 65536) (hn4 : 0 < g.n4) {s : Int} (hx4 : g.x4[g.o4]? = some (.int .i64 s)) :
    FnL Tryz.prog 25 [.own 0 0] g.R fun v own => ∃ zs bd, bd = bP (encts [g.lo, g.hi]) ∧ zs = [msP 1 100 s g.ep qm 4 g.dr (.sl bd)] ∧ v = .p (.sl zs) ∧ own = (g.sent 2 qm zs).R := by
  obtain ⟨c3, fr, hd, qn, wt, tk, dr, dO, dv, n1, n2, bg, n3, lo, hi, o4, n4, n5, n6, ep, sv, x1, x2, x3, x4, x5, x6⟩ := g
  simp only at hqn hqm hlo hhi hn4 hx4 ⊢
  have hse := fun bd : List PV => gSend_spec ⟨c3, fr, hd, qn, wt, tk, dr, dO, dv, n1, n2, bg, n3, lo, hi, o4, n4, n5, n6, ep, sv, x1, x2, x3, x4, x5, x6⟩ hqn hqm 2 s 0 0 0 ep 0 4 dr bd
  have htx := wr0_of (wrTexts_spec [lo, hi] [.str lo, .str hi] rfl (fun s hs => by
    simp only [List.mem_cons, List.not_mem_nil, or_false] at hs
    rcases hs with rfl | rfl <;> omega) 0 0 [] rfl (by simp only [List.length_cons, List.length_nil]; omega))
  have htt : ∀ s ∈ [lo, hi], s.length ≤ 65536 := fun s hs => by
    simp only [List.mem_cons, List.not_mem_nil, or_false] at hs
    rcases hs with rfl | rfl <;> omega
  refine fn_of_vc eOk fOk fo25 Tryz.func25 rfl rfl rfl fun B hB => ?_
  intro _ _ _ _ _ _ _ _ _ _ _ _ _ _ _ _ _ _ _ _ _ _ _ _ _ _ sl _ _ _ _ _ _ _ _ _ _ _ _ _ hcode ret hret
  cbv
  refine hcode _ _ _ (CodeEv.drawA eOk fOk (by kernel_rfl) (Xof 7 []) (by kernel_rfl) (by kernel_rfl) (by kernel_rfl) ?_)
  intro _ _ _ _ _ _ _ _ _ _ _ _ _ _ _ _ _ _ _ _ _ _ _ _ _ _ _ _ _ _ _ _ _ _ _ _ _ _ hcall2 _ _ _ hq2
  cbv
  refine ⟨false, ?_⟩
  cbv
  refine hcall2 _ _ _ _ _ (CallEv.lend [7] htx rfl (.cons (.own 0 7 0 rfl) (.cons (.p _) .nil)) (wrL0 rfl) ?_)
  rintro _ _ ⟨n2', e2, ys2, ⟨u1, u2, u3, u4⟩, rfl, rfl⟩
  obtain ⟨rfl, u5⟩ := u3 htt
  have hby := wrBytes_spec n2' 0 ys2
  cbv
  refine hcall2 _ _ _ _ _ (CallEv.frzR (CallEv.lend [7, 8] hby rfl (.cons (.own 0 7 0 rfl) .nil) (wrL rfl rfl rfl rfl) ?_))
  rintro _ _ ⟨⟨_, rfl⟩ | ⟨he, _⟩, rfl⟩
  rotate_left
  · exact absurd rfl he
  refine ⟨8, _, _, _, rfl, (by rw [hB]; exact Nat.le_of_ble_eq_true rfl), fun g2 hg2 => ?_⟩
  have hg2z : g2 0 n2' = bP (encts [lo, hi]) := by rw [hg2, List.drop_zero, ← u1, List.take_length, u5]; rfl
  obtain ⟨bd, hbd⟩ : ∃ bd, bd = g2 0 n2' := ⟨_, rfl⟩
  rw [hg2z] at hbd
  cbv
  refine hq2 _ ?_
  cbv
  refine hcode _ _ _ (CodeEv.drawA eOk fOk (by kernel_rfl) (Xof 7 [0, 1, 2, 3, 4, 5, 6]) (by kernel_rfl) (by kernel_rfl) (by kernel_rfl) ?_)
  intro _ _ _ _ _ _ _ _ _ _ _ _ _ _ _ _ _ _ _ _ _ _ _ _ _ _ _ _ _ _ _ _ _ _ _ _ _ _ hcall3 _ _ _ hq3
  cbv
  refine ⟨0, rfl, hn4, fun q hq => ?_⟩
  obtain rfl : q = o4 := hq
  cbv
  refine ⟨_, hx4, ?_⟩
  cbv
  rw [hg2z, ← hbd]
  refine hcall3 _ _ _ _ _ (CallEv.lend [0, 1, 2, 3, 4, 5, 6] (hse bd) rfl (.cons (.own 0 0 0 rfl) (.cons (.p _) (.cons (.p _) (.cons (.p _) .nil)))) (gqT rfl rfl rfl rfl rfl rfl rfl rfl rfl rfl rfl rfl rfl) ?_)
  rintro _ _ ⟨zs, hzs, rfl, rfl⟩
  cbv
  refine hq3 _ ?_
  cbv
  exact hret _ (RetEv.convW (ConvW.pack [0, 1, 2, 3, 4, 5, 6] hB rfl) (RetEv.ret eOk rfl ⟨zs, bd, hbd, hzs, rfl, rfl⟩))
end Go.Proofs.YtegkojnngdlfaaaGreat
end
section
namespace Go.Proofs.YtegkojnngdlfaaaGreat
open Go Go.Lx
open Go.Sx (vcIf)
theorem chCutO_spec (s : Spn) (hs1 : s.lo.length ≤ 17) (hs2 : s.hi.length ≤ 17) (l : List Chg) (hf : ∀ c ∈ l, c.fit) (hck : chks l = 0) (hn : l.length * 40 ≤ 140737488355328) (zs : List PV) (hzs : zs = cP l) :
    FnL Tryz.prog 46 [.p (.agg [.str s.lo, .str s.hi]), .p (.sl zs)] [] fun v own => ∃ us m, us = cP (cutL s l) ∧ m = us.length ∧ v = .tup [.vw 0 3 0 m none, .p (.int .i64 0)] ∧ own = [.arr 25 3 us] := by
  obtain ⟨R, hR⟩ : ∃ R, R = cP (cutL s l) := ⟨_, rfl⟩
  rw [← hR]
  obtain ⟨N, hN⟩ : ∃ n, n = l.length := ⟨_, rfl⟩
  have hzl : zs.length = N := by rw [hzs, cP_length, hN]
  have hall := all_spec l (by omega) zs hzs
  rw [hck] at hall
  obtain ⟨sa, hsa⟩ : ∃ x, x = s.lo := ⟨_, rfl⟩
  obtain ⟨sb, hsb⟩ : ∃ x, x = s.hi := ⟨_, rfl⟩
  obtain ⟨na, hna⟩ : ∃ x, x = sa.length := ⟨_, rfl⟩
  obtain ⟨nb, hnb⟩ : ∃ x, x = sb.length := ⟨_, rfl⟩
  have hse : s = ⟨sa, sb⟩ := by rw [hsa, hsb]
  have hnab : na < 140737488355328 ∧ nb < 140737488355328 := by rw [hna, hnb, hsa, hsb]; exact ⟨by omega, by omega⟩
  rw [← hsa, ← hsb]
  refine fn_of_vc eOk fOk fo46 Tryz.func46 rfl rfl rfl fun B hB => ?_
  intro add _ _ _ _ _ _ _ _ _ _ _ _ _ _ _ _ _ _ _ _ _ _ hA _ _ sl _ imax _ _ len slen _ hL _ _ _ hcall _ hcode ret hret
  have hlen : len zs = Int.ofNat N := by rw [hL.len, hzl]; rfl
  have hmx : imax (slen sa) (slen sb) = Int.ofNat (max na nb) := by
    rw [hL.imax, hL.slen, hL.slen, ← hna, ← hnb]; simp only [Int.ofNat_eq_natCast]; split <;> omega
  obtain ⟨mx, hmxe⟩ : ∃ m, m = max na nb := ⟨_, rfl⟩
  rw [← hmxe] at hmx
  have hmx2 : 17 < mx ↔ (17 < na ∨ 17 < nb) := by omega
  have h17 : ¬ 17 < mx := by
    intro c
    rw [hna, hnb, hsa, hsb] at hmx2
    rcases hmx2.1 c with h | h <;> omega
  clear hmxe
  cbv
  refine hcall _ _ _ _ _ (CallEv.same hall rfl ?_)
  rintro _ _ ⟨c0, rfl, rfl, rfl⟩
  cbv
  refine vcIf.no (by first | (simp [smW hA hL]; done) | (simp [smW hA hL]; omega)) ?_
  cbv
  refine vcIf.no (by first | (simp [smW hA hL, hmx, h17]; done) | (simp only [hmx, h17]; simp [smW hA hL, hmx, h17]; done) | (simp [smW hA hL, hmx, h17]; omega) | (simp only [hmx, h17]; simp [smW hA hL, hmx, h17]; omega)) ?_
  cbv
  rw [hlen]
  refine hcode _ _ _ (CodeEv.conv (Conv.hollow 7 25 3 (by decide) rfl) (CodeEv.loop eOk fOk (ι := Nat × Nat × List PV) (fun q => [(2, .own 0 0), (7, .vw 1 3 0 q.2.1 none), (24, .p (.sl zs)), (25, .p (.int .i64 (Int.ofNat N))), (26, .p (.int .i64 (Int.ofNat q.1)))])
    (fun q => [.st 38 [.p (.str sa), .p (.str sb)], .arr 25 3 q.2.2]) (fun q => q.1 ≤ N ∧ q.2.1 ≤ q.1 ∧ q.2.2.length = q.2.1 ∧ q.2.2 = cP (cutL s (l.take q.1))) (fun q => N - q.1) (0, 0, []) ?_ ?_))
  · exact ⟨(by repeat (first | exact trivial | refine And.intro rfl ?_)), rfl, Nat.zero_le _, Nat.le_refl _, rfl, rfl⟩
  rintro ⟨i, k, us⟩ ⟨k1, k2, k3, k4⟩ rd hrd
  simp only at k1 k2 k3 k4
  by_cases hi : i < N
  · refine Exists.elim (get_of_lt (show i < l.length by omega)) fun c hc => ?_
    obtain ⟨kd, ky, vl⟩ := c
    have hzi : zs[i]? = some (.agg [.int .i64 kd, .str ky, .str vl]) := by rw [hzs]; exact cP_get hc
    have hcf := (hf _ (List.mem_of_getElem? hc)).1
    simp only at hcf
    have hsp := chSpan_spec kd ky vl hcf
    have hmt := meet_spec sa sb (spn ⟨kd, ky, vl⟩).lo (spn ⟨kd, ky, vl⟩).hi
    have hhas := has_spec sa sb ky
    have hnx := cutL_next s hc
    have hc1 : kd = 3 → cut1 s ⟨kd, ky, vl⟩ = if Op.bytesLess (mt ⟨sa, sb⟩ (spn ⟨kd, ky, vl⟩)).lo (mt ⟨sa, sb⟩ (spn ⟨kd, ky, vl⟩)).hi then [⟨3, (mt ⟨sa, sb⟩ (spn ⟨kd, ky, vl⟩)).lo, (mt ⟨sa, sb⟩ (spn ⟨kd, ky, vl⟩)).hi⟩] else [] := fun h => by rw [cut1, if_pos h, hse]
    have hc2 : kd ≠ 3 → cut1 s ⟨kd, ky, vl⟩ = if hs ⟨sa, sb⟩ ky then [⟨kd, ky, vl⟩] else [] := fun h => by rw [cut1, if_neg h, hse]
    refine Exists.elim (show ∃ b, b = hs ⟨sa, sb⟩ ky from ⟨_, rfl⟩) fun b hb => ?_
    rw [← hb] at hc2 hhas
    refine Exists.elim (show ∃ x, x = spn ⟨kd, ky, vl⟩ from ⟨_, rfl⟩) fun p hp => ?_
    rw [← hp] at hsp hmt hc1
    clear hp
    obtain ⟨pl, ph⟩ := p
    refine Exists.elim (show ∃ x, x = mt ⟨sa, sb⟩ ⟨pl, ph⟩ from ⟨_, rfl⟩) fun m hm => ?_
    rw [← hm] at hmt hc1
    clear hm
    obtain ⟨ml, mh⟩ := m
    simp only at hsp hmt hc1
    have hem := empty_spec ml mh
    intro add1 _ _ _ _ _ _ _ _ _ _ _ _ _ _ _ _ _ _ _ _ _ _ hA1 _ _ _ _ _ _ _ _ _ _ hL1 _ _ _ hcall1 _ hcode1
    have hadd1 : add1 .i64 (Int.ofNat i) 1 = Int.ofNat (i + 1) := by rw [hA1.add, IntWalk.i64_in _ (by simp only [Int.ofNat_eq_natCast]; omega)]; rfl
    cbv
    refine vcIf.yes (by first | (simp [smW hA1 hL1, hi]; done) | (simp only [hi]; simp [smW hA1 hL1, hi]; done) | (simp [smW hA1 hL1, hi]; omega) | (simp only [hi]; simp [smW hA1 hL1, hi]; omega)) ?_
    cbv
    refine ⟨i, _, rfl, hzi, rfl, ?_⟩
    cbv
    by_cases h3 : kd = 3
    · have hc1 := hc1 h3
      refine vcIf.yes (by first | (simp [smW hA1 hL1, h3]; done) | (simp only [h3]; simp [smW hA1 hL1, h3]; done) | (simp [smW hA1 hL1, h3]; omega) | (simp only [h3]; simp [smW hA1 hL1, h3]; omega)) ?_
      cbv
      refine hcode1 _ _ _ (CodeEv.drawT eOk fOk (by kernel_rfl) (Xof 3 []) (.rd 0 (.rd 1 (.acts (.cons 2 (.acts (.cons 3 (.acts (.cons 4 (.acts (.cons 5 (.done) (.nil))) (.nil))) (.cons 4 (.acts (.cons 3 (.acts (.cons 5 (.done) (.nil))) (.nil))) (.nil)))) (.cons 4 (.acts (.cons 2 (.acts (.cons 3 (.acts (.cons 5 (.done) (.nil))) (.nil))) (.nil))) (.nil)))))) (by kernel_rfl) (by kernel_rfl) ?_)
      intro _ _ _ _ _ _ _ _ _ _ _ _ _ _ _ _ _ _ _ _ _ _ _ _ _ _ _ _ _ _ _ _ _ _ _ _ _ _ hcall2 _ _ _ hq2
      cbv
      refine ⟨?_, ?_⟩
      · refine hcall2 _ _ _ _ _ (CallEv.same hsp rfl ?_)
        rintro _ _ ⟨_, rfl, rfl, rfl⟩
        cbv
        refine ⟨?_, ?_⟩
        · refine hcall2 _ _ _ _ _ (CallEv.same hmt rfl ?_)
          rintro _ _ ⟨_, rfl, rfl, rfl⟩
          cbv
          refine hq2 _ ?_
          cbv
          refine hcall1 _ _ _ _ _ (CallEv.same hem rfl ?_)
          rintro _ _ ⟨b2, hb2, rfl, rfl⟩
          cbv
          by_cases hlt : b2 = true
          · rw [if_neg (by intro c; rw [hlt, c] at hb2; cases hb2)] at hc1
            refine vcIf.yes (by first | (simp [smW hA1 hL1, hlt]; done) | (simp only [hlt]; simp [smW hA1 hL1, hlt]; done) | (simp [smW hA1 hL1, hlt]; omega) | (simp only [hlt]; simp [smW hA1 hL1, hlt]; omega)) ?_
            cbv
            refine hrd _ ⟨(i + 1, k, us), _, ?_, ⟨by simp only; omega, ?_, ?_, ?_⟩, rfl, ⟨rfl, rfl, rfl, rfl, ?_, trivial⟩, rfl, rfl, rfl, ?_⟩
            · simp only; omega
            · simp only; omega
            · exact k3
            · simp only; rw [hnx, hc1, k4]; simp
            · show some (V.p (.int .i64 _)) = _
              rw [hadd1]
            · rw [hB]; exact Nat.zero_le _
          · have hlt := Bool.eq_false_iff.2 hlt
            rw [if_pos (by rw [hlt] at hb2; simpa using hb2.symm)] at hc1
            refine vcIf.no (by first | (simp [smW hA1 hL1, hlt]; done) | (simp only [hlt]; simp [smW hA1 hL1, hlt]; done) | (simp [smW hA1 hL1, hlt]; omega) | (simp only [hlt]; simp [smW hA1 hL1, hlt]; omega)) ?_
            cbv
            refine hcode1 _ _ _ (CodeEv.drawA eOk fOk (by kernel_rfl) (Xof 4 [2]) (by kernel_rfl) (by kernel_rfl) (by kernel_rfl) ?_)
            intro _ _ _ _ _ _ _ _ _ _ _ _ _ _ _ _ _ _ _ _ _ _ _ _ _ _ _ _ _ _ _ _ _ _ _ _ _ _ _ _ _ _ hq3
            cbv
            refine hq3 _ ?_
            cbv
            refine vcIf.yes (by first | (simp [smW hA1 hL1, h3]; done) | (simp only [h3]; simp [smW hA1 hL1, h3]; done) | (simp [smW hA1 hL1, h3]; omega) | (simp only [h3]; simp [smW hA1 hL1, h3]; omega)) ?_
            cbv
            refine ⟨false, ?_⟩
            cbv
            refine .inl ⟨(), rfl, k3.symm, Wf.one (Chg.wf ⟨kd, ml, mh⟩), ?_, ?_, ?_⟩
            · show k + 1 ≤ maxLen
              unfold maxLen; omega
            · show (k + 1) * 40 ≤ _
              omega
            intro us' n' hu hn'
            replace hu : us' = us ++ [Chg.v ⟨kd, ml, mh⟩] := hu
            replace hn' : n' = k + 1 := hn'
            cbv
            refine hrd _ ⟨(i + 1, n', us'), _, ?_, ⟨by simp only; omega, ?_, ?_, ?_⟩, rfl, ⟨rfl, rfl, rfl, rfl, ?_, trivial⟩, rfl, rfl, rfl, ?_⟩
            · simp only; omega
            · simp only; omega
            · simp only; rw [hu, hn', List.length_append, k3]; rfl
            · simp only; rw [hnx, hc1, hu, k4, h3]; simp [cP]
            · show some (V.p (.int .i64 _)) = _
              rw [hadd1]
            · rw [hB]; exact Nat.zero_le _
        · refine hcall2 _ _ _ _ _ (CallEv.same hmt rfl ?_)
          rintro _ _ ⟨_, rfl, rfl, rfl⟩
          cbv
          refine hq2 _ ?_
          cbv
          refine hcall1 _ _ _ _ _ (CallEv.same hem rfl ?_)
          rintro _ _ ⟨b2, hb2, rfl, rfl⟩
          cbv
          by_cases hlt : b2 = true
          · rw [if_neg (by intro c; rw [hlt, c] at hb2; cases hb2)] at hc1
            refine vcIf.yes (by first | (simp [smW hA1 hL1, hlt]; done) | (simp only [hlt]; simp [smW hA1 hL1, hlt]; done) | (simp [smW hA1 hL1, hlt]; omega) | (simp only [hlt]; simp [smW hA1 hL1, hlt]; omega)) ?_
            cbv
            refine hrd _ ⟨(i + 1, k, us), _, ?_, ⟨by simp only; omega, ?_, ?_, ?_⟩, rfl, ⟨rfl, rfl, rfl, rfl, ?_, trivial⟩, rfl, rfl, rfl, ?_⟩
            · simp only; omega
            · simp only; omega
            · exact k3
            · simp only; rw [hnx, hc1, k4]; simp
            · show some (V.p (.int .i64 _)) = _
              rw [hadd1]
            · rw [hB]; exact Nat.zero_le _
          · have hlt := Bool.eq_false_iff.2 hlt
            rw [if_pos (by rw [hlt] at hb2; simpa using hb2.symm)] at hc1
            refine vcIf.no (by first | (simp [smW hA1 hL1, hlt]; done) | (simp only [hlt]; simp [smW hA1 hL1, hlt]; done) | (simp [smW hA1 hL1, hlt]; omega) | (simp only [hlt]; simp [smW hA1 hL1, hlt]; omega)) ?_
            cbv
            refine hcode1 _ _ _ (CodeEv.drawA eOk fOk (by kernel_rfl) (Xof 4 [2]) (by kernel_rfl) (by kernel_rfl) (by kernel_rfl) ?_)
            intro _ _ _ _ _ _ _ _ _ _ _ _ _ _ _ _ _ _ _ _ _ _ _ _ _ _ _ _ _ _ _ _ _ _ _ _ _ _ _ _ _ _ hq3
            cbv
            refine hq3 _ ?_
            cbv
            refine vcIf.yes (by first | (simp [smW hA1 hL1, h3]; done) | (simp only [h3]; simp [smW hA1 hL1, h3]; done) | (simp [smW hA1 hL1, h3]; omega) | (simp only [h3]; simp [smW hA1 hL1, h3]; omega)) ?_
            cbv
            refine ⟨false, ?_⟩
            cbv
            refine .inl ⟨(), rfl, k3.symm, Wf.one (Chg.wf ⟨kd, ml, mh⟩), ?_, ?_, ?_⟩
            · show k + 1 ≤ maxLen
              unfold maxLen; omega
            · show (k + 1) * 40 ≤ _
              omega
            intro us' n' hu hn'
            replace hu : us' = us ++ [Chg.v ⟨kd, ml, mh⟩] := hu
            replace hn' : n' = k + 1 := hn'
            cbv
            refine hrd _ ⟨(i + 1, n', us'), _, ?_, ⟨by simp only; omega, ?_, ?_, ?_⟩, rfl, ⟨rfl, rfl, rfl, rfl, ?_, trivial⟩, rfl, rfl, rfl, ?_⟩
            · simp only; omega
            · simp only; omega
            · simp only; rw [hu, hn', List.length_append, k3]; rfl
            · simp only; rw [hnx, hc1, hu, k4, h3]; simp [cP]
            · show some (V.p (.int .i64 _)) = _
              rw [hadd1]
            · rw [hB]; exact Nat.zero_le _
      · refine hcall2 _ _ _ _ _ (CallEv.same hsp rfl ?_)
        rintro _ _ ⟨_, rfl, rfl, rfl⟩
        cbv
        refine hcall2 _ _ _ _ _ (CallEv.same hmt rfl ?_)
        rintro _ _ ⟨_, rfl, rfl, rfl⟩
        cbv
        refine hq2 _ ?_
        cbv
        refine hcall1 _ _ _ _ _ (CallEv.same hem rfl ?_)
        rintro _ _ ⟨b2, hb2, rfl, rfl⟩
        cbv
        by_cases hlt : b2 = true
        · rw [if_neg (by intro c; rw [hlt, c] at hb2; cases hb2)] at hc1
          refine vcIf.yes (by first | (simp [smW hA1 hL1, hlt]; done) | (simp only [hlt]; simp [smW hA1 hL1, hlt]; done) | (simp [smW hA1 hL1, hlt]; omega) | (simp only [hlt]; simp [smW hA1 hL1, hlt]; omega)) ?_
          cbv
          refine hrd _ ⟨(i + 1, k, us), _, ?_, ⟨by simp only; omega, ?_, ?_, ?_⟩, rfl, ⟨rfl, rfl, rfl, rfl, ?_, trivial⟩, rfl, rfl, rfl, ?_⟩
          · simp only; omega
          · simp only; omega
          · exact k3
          · simp only; rw [hnx, hc1, k4]; simp
          · show some (V.p (.int .i64 _)) = _
            rw [hadd1]
          · rw [hB]; exact Nat.zero_le _
        · have hlt := Bool.eq_false_iff.2 hlt
          rw [if_pos (by rw [hlt] at hb2; simpa using hb2.symm)] at hc1
          refine vcIf.no (by first | (simp [smW hA1 hL1, hlt]; done) | (simp only [hlt]; simp [smW hA1 hL1, hlt]; done) | (simp [smW hA1 hL1, hlt]; omega) | (simp only [hlt]; simp [smW hA1 hL1, hlt]; omega)) ?_
          cbv
          refine hcode1 _ _ _ (CodeEv.drawA eOk fOk (by kernel_rfl) (Xof 4 [2]) (by kernel_rfl) (by kernel_rfl) (by kernel_rfl) ?_)
          intro _ _ _ _ _ _ _ _ _ _ _ _ _ _ _ _ _ _ _ _ _ _ _ _ _ _ _ _ _ _ _ _ _ _ _ _ _ _ _ _ _ _ hq3
          cbv
          refine hq3 _ ?_
          cbv
          refine vcIf.yes (by first | (simp [smW hA1 hL1, h3]; done) | (simp only [h3]; simp [smW hA1 hL1, h3]; done) | (simp [smW hA1 hL1, h3]; omega) | (simp only [h3]; simp [smW hA1 hL1, h3]; omega)) ?_
          cbv
          refine ⟨false, ?_⟩
          cbv
          refine .inl ⟨(), rfl, k3.symm, Wf.one (Chg.wf ⟨kd, ml, mh⟩), ?_, ?_, ?_⟩
          · show k + 1 ≤ maxLen
            unfold maxLen; omega
          · show (k + 1) * 40 ≤ _
            omega
          intro us' n' hu hn'
          replace hu : us' = us ++ [Chg.v ⟨kd, ml, mh⟩] := hu
          replace hn' : n' = k + 1 := hn'
          cbv
          refine hrd _ ⟨(i + 1, n', us'), _, ?_, ⟨by simp only; omega, ?_, ?_, ?_⟩, rfl, ⟨rfl, rfl, rfl, rfl, ?_, trivial⟩, rfl, rfl, rfl, ?_⟩
          · simp only; omega
          · simp only; omega
          · simp only; rw [hu, hn', List.length_append, k3]; rfl
          · simp only; rw [hnx, hc1, hu, k4, h3]; simp [cP]
          · show some (V.p (.int .i64 _)) = _
            rw [hadd1]
          · rw [hB]; exact Nat.zero_le _
    · have hc2 := hc2 h3
      refine vcIf.no (by first | (simp [smW hA1 hL1, h3]; done) | (simp only [h3]; simp [smW hA1 hL1, h3]; done) | (simp [smW hA1 hL1, h3]; omega) | (simp only [h3]; simp [smW hA1 hL1, h3]; omega)) ?_
      cbv
      refine vcIf.no (by first | (simp [smW hA1 hL1, h3]; done) | (simp only [h3]; simp [smW hA1 hL1, h3]; done) | (simp [smW hA1 hL1, h3]; omega) | (simp only [h3]; simp [smW hA1 hL1, h3]; omega)) ?_
      cbv
      refine hcall1 _ _ _ _ _ (CallEv.same hhas rfl ?_)
      rintro _ _ ⟨b2, hb2, rfl, rfl⟩
      cbv
      by_cases hbb : b2 = true
      · rw [if_pos (hb2.symm.trans hbb)] at hc2
        refine vcIf.yes (by first | (simp [smW hA1 hL1, hbb]; done) | (simp only [hbb]; simp [smW hA1 hL1, hbb]; done) | (simp [smW hA1 hL1, hbb]; omega) | (simp only [hbb]; simp [smW hA1 hL1, hbb]; omega)) ?_
        cbv
        refine ⟨false, ?_⟩
        cbv
        refine .inl ⟨(), rfl, k3.symm, Wf.one (Chg.wf ⟨kd, ky, vl⟩), ?_, ?_, ?_⟩
        · show k + 1 ≤ maxLen
          unfold maxLen; omega
        · show (k + 1) * 40 ≤ _
          omega
        intro us' n' hu hn'
        replace hu : us' = us ++ [Chg.v ⟨kd, ky, vl⟩] := hu
        replace hn' : n' = k + 1 := hn'
        cbv
        refine hrd _ ⟨(i + 1, n', us'), _, ?_, ⟨by simp only; omega, ?_, ?_, ?_⟩, rfl, ⟨rfl, rfl, rfl, rfl, ?_, trivial⟩, rfl, rfl, rfl, ?_⟩
        · simp only; omega
        · simp only; omega
        · simp only; rw [hu, hn', List.length_append, k3]; rfl
        · simp only; rw [hnx, hc2, hu, k4]; simp [cP]
        · show some (V.p (.int .i64 _)) = _
          rw [hadd1]
        · rw [hB]; exact Nat.zero_le _
      · rw [if_neg (by rw [← hb2]; exact hbb)] at hc2
        refine vcIf.no (by first | (simp [smW hA1 hL1, hbb]; done) | (simp only [hbb]; simp [smW hA1 hL1, hbb]; done) | (simp [smW hA1 hL1, hbb]; omega) | (simp only [hbb]; simp [smW hA1 hL1, hbb]; omega)) ?_
        cbv
        refine hrd _ ⟨(i + 1, k, us), _, ?_, ⟨by simp only; omega, ?_, ?_, ?_⟩, rfl, ⟨rfl, rfl, rfl, rfl, ?_, trivial⟩, rfl, rfl, rfl, ?_⟩
        · simp only; omega
        · simp only; omega
        · exact k3
        · simp only; rw [hnx, hc2, k4]; simp
        · show some (V.p (.int .i64 _)) = _
          rw [hadd1]
        · rw [hB]; exact Nat.zero_le _
  · have hin : i = N := by omega
    rw [List.take_of_length_le (by omega)] at k4
    have hR : us = R := k4.trans hR.symm
    intro add1 _ _ _ _ _ _ _ _ _ _ _ _ _ _ _ _ _ _ _ _ _ _ hA1 _ _ _ _ _ _ _ _ _ _ hL1 _ _ _ hcall1 _ hcode1
    cbv
    refine vcIf.no (by first | (simp [smW hA1 hL1, hi]; done) | (simp only [hi]; simp [smW hA1 hL1, hi]; done) | (simp [smW hA1 hL1, hi]; omega) | (simp only [hi]; simp [smW hA1 hL1, hi]; omega)) ?_
    cbv
    exact hret _ (RetEv.convW (ConvW.pack [1] hB rfl) (RetEv.ret eOk rfl ⟨us, k, hR, k3.symm, rfl, rfl⟩))
theorem chApply_spec (ps : List Pr) (hps : Srt ps) (hsn : sndP ps = true) (hpf : ∀ p ∈ ps, p.fit) (l : List Chg) (hck : chks l = 0) (hs1 : ps.length ≤ 1000) (hs2 : l.length ≤ 1000) (zs cs : List PV) (hzs : zs = prP ps) (hcs : cs = cP l) :
    FnL Tryz.prog 47 [.p (.sl zs), .p (.sl cs)] [] fun r own => ∃ n us, us = prP (ones ps l) ∧ n = us.length ∧ r = .tup [.vw 0 2 0 n none, .p (.int .i64 0)] ∧ own = [.arr 84 2 us] := by
  have hcl := clonePr_spec ps (Nat.le_trans (Nat.mul_le_mul_right 32 hs1) (by decide)) zs hzs
  obtain ⟨C, hC⟩ : ∃ C, C = l.length := ⟨_, rfl⟩
  have hcl2 : cs.length = C := by rw [hcs, cP_length, hC]
  have hall := all_spec l (by omega) cs hcs
  rw [hck] at hall
  have hso := soundP_spec ps (by omega) hpf zs hzs
  rw [hsn] at hso
  have hkd := chks_kind hck
  refine fn_of_vc eOk fOk fo47 Tryz.func47 rfl rfl rfl fun B hB => ?_
  intro add _ _ _ _ _ _ _ _ _ _ _ _ _ _ _ _ _ _ _ _ _ _ hA _ _ sl _ _ _ _ len _ _ hL _ _ _ hcall _ hcode ret hret
  have hlen : len cs = Int.ofNat C := by rw [hL.len, hcl2]; rfl
  cbv
  refine hcall _ _ _ _ _ (CallEv.same hall rfl ?_)
  rintro _ _ ⟨_, rfl, rfl, rfl⟩
  cbv
  refine vcIf.no (by first | (simp [smW hA hL]; done) | (simp [smW hA hL]; omega)) ?_
  cbv
  refine hcall _ _ _ _ _ (CallEv.same hso rfl ?_)
  rintro _ _ ⟨rfl, rfl⟩
  cbv
  refine vcIf.no (by first | (simp [smW hA hL]; done) | (simp [smW hA hL]; omega)) ?_
  cbv
  refine hcall _ _ _ _ _ (CallEv.same hcl rfl ?_)
  rintro _ _ ⟨K0, n0, xs0, rfl, rfl, hx0⟩
  cbv
  rw [hlen]
  refine hcode _ _ _ (CodeEv.loop eOk fOk (ι := Nat × Nat × Nat × List PV) (fun s => [(7, .vw 0 2 0 s.2.1 (some s.2.2.1)), (20, .p (.sl cs)), (21, .p (.int .i64 (Int.ofNat C))), (22, .p (.int .i64 (Int.ofNat s.1)))])
    (fun s => [.arr 84 2 s.2.2.2]) (fun s => s.1 ≤ C ∧ RowP s.2.2.2 s.2.2.1 s.2.1 (ones ps (l.take s.1))) (fun s => C - s.1) (0, n0, K0, xs0) ?_ ?_)
  · exact ⟨(by repeat (first | exact trivial | refine And.intro rfl ?_)), rfl, Nat.zero_le _, by simp only [List.take_zero]; exact hx0⟩
  rintro ⟨j, n', K', xs'⟩ ⟨m1, m2⟩ rd hrd
  simp only at m1 m2
  by_cases hj : j < C
  · refine Exists.elim (get_of_lt (show j < l.length by omega)) fun c hc => ?_
    have hzj : cs[j]? = some (.agg [.int .i64 c.kind, .str c.key, .str c.val]) := by rw [hcs]; exact cP_get hc
    have hkc := hkd c (List.mem_of_getElem? hc)
    have hon := ones_next ps hc
    have hol : (ones ps (l.take j)).length ≤ ps.length + C := by
      have h1 := ones_len hps (l.take j)
      have h2 : (l.take j).length ≤ l.length := by rw [List.length_take]; exact Nat.min_le_right _ _
      omega
    have h1 := oneP_spec (ones ps (l.take j)) (ones_srt hps _) c hkc xs' K' n' m2 (Nat.le_trans (Nat.mul_le_mul_right 32 (show n' + 1 ≤ 2001 by have := m2.2.1; omega)) (by decide))
    obtain ⟨ck, cy, cv⟩ := c
    simp only at hzj h1
    rw [← hon] at h1
    intro add1 _ _ _ _ _ _ _ _ _ _ _ _ _ _ _ _ _ _ _ _ _ _ hA1 _ _ _ _ _ _ _ _ _ _ hL1 _ _ _ hcall1 _ _
    have hadd1 : add1 .i64 (Int.ofNat j) 1 = Int.ofNat (j + 1) := by rw [hA1.add, IntWalk.i64_in _ (by simp only [Int.ofNat_eq_natCast]; omega)]; rfl
    cbv
    refine vcIf.yes (by first | (simp [smW hA1 hL1, hj]; done) | (simp only [hj]; simp [smW hA1 hL1, hj]; done) | (simp [smW hA1 hL1, hj]; omega) | (simp only [hj]; simp [smW hA1 hL1, hj]; omega)) ?_
    cbv
    refine ⟨j, _, rfl, hzj, rfl, ?_⟩
    cbv
    refine hcall1 _ _ _ _ _ (CallEv.lend [0] h1 rfl (.cons (.vw 0 0 2 0 n' (some K') rfl) (.cons (.p _) .nil)) ⟨⟨_, rfl, .arr _ _ _⟩, trivial⟩ ?_)
    rintro _ _ ⟨K2, n2, xs2, rfl, rfl, hx2⟩
    cbv
    refine hrd _ ⟨(j + 1, n2, K2, xs2), _, ?_, ⟨hj, hx2⟩, rfl, ⟨rfl, rfl, rfl, ?_, trivial⟩, rfl, rfl, rfl, ?_⟩
    · simp only; omega
    · show some (V.p (.int .i64 _)) = _
      rw [hadd1]
    · rw [hB]; exact Nat.zero_le _
  · have hjC : j = C := by omega
    rw [List.take_of_length_le (by omega)] at m2
    intro add1 _ _ _ _ _ _ _ _ _ _ _ _ _ _ _ _ _ _ _ _ _ _ hA1 _ _ _ _ _ _ _ _ _ _ hL1 _ _ _ hcall1 _ _
    cbv
    refine vcIf.no (by first | (simp [smW hA1 hL1, hj]; done) | (simp only [hj]; simp [smW hA1 hL1, hj]; done) | (simp [smW hA1 hL1, hj]; omega) | (simp only [hj]; simp [smW hA1 hL1, hj]; omega)) ?_
    cbv
    have hm3 : n' = (xs'.take n').length := by rw [List.length_take, m2.1]; have := m2.2.2.1; omega
    exact hret _ (RetEv.convW ((ConvW.trimK 4 0 rfl rfl m2.2.2.1 (show 4 < 31 by decide)).trans (ConvW.pack [0] hB rfl)) (RetEv.ret eOk rfl ⟨n', xs'.take n', m2.2.2.2.2, hm3, rfl, rfl⟩))
theorem clonePrO_spec (ps : List Pr) (hn : ps.length ≤ 2000) (zs : List PV) (hzs : zs = prP ps) :
    FnL Tryz.prog 30 [.p (.sl zs)] [] fun v own => ∃ n us, us = prP ps ∧ n = us.length ∧ v = .vw 0 2 0 n none ∧ own = [.arr 84 2 us] := by
  obtain ⟨N, hN⟩ : ∃ N, N = zs.length := ⟨_, rfl⟩
  have hN2 : N ≤ 2000 := by rw [hN, hzs, prP_length]; exact hn
  have hw : Wf 2 zs := by rw [hzs]; exact prP_wf ps
  refine fn_of_vc eOk fOk fo30 Tryz.func30 rfl rfl rfl fun B hB => ?_
  intro _ _ _ _ _ _ _ _ _ _ _ _ _ _ _ _ _ _ _ _ _ _ _ _ _ _ sl _ _ _ _ _ _ _ _ _ _ _ _ _ _ ret hret
  cbv
  intro b hb
  cbv
  cases b with
  | true =>
    have h0 := hb rfl
    cbv
    refine hret _ (RetEv.convC (Conv.hollow 2 84 2 (by decide) rfl) (RetEv.ret eOk rfl ⟨0, [], ?_, rfl, rfl, rfl⟩))
    rw [← hzs, h0]
  | false =>
    cbv
    refine ⟨true, ?_⟩
    cbv
    refine .inl ⟨(), rfl, rfl, hw, ?_, ?_, ?_⟩
    · show 0 + zs.length ≤ maxLen
      unfold maxLen; omega
    · show (0 + zs.length) * 32 ≤ _
      omega
    intro us n' hu hn'
    replace hu : us = [] ++ zs := hu
    replace hn' : n' = 0 + zs.length := hn'
    cbv
    exact hret _ (RetEv.ret eOk rfl ⟨n', us, by rw [hu, List.nil_append, hzs], by rw [hu, hn', List.nil_append, Nat.zero_add], rfl, rfl⟩)
end Go.Proofs.YtegkojnngdlfaaaGreat
end
section
namespace Go.Proofs.YtegkojnngdlfaaaGreat
open Go Go.Lx
open Go.Sx (vcIf)
def Gq.saw (g : Gq) (m1 m3 : Nat) (y1 y3 : List PV) : Gq := { g with n1 := m1, x1 := y1, n3 := m3, x3 := y3 }
theorem flatT2 (i sz off n : Nat) (cap : Option Nat) (z : Int) : V.Flat (.tup [.vw i sz off n cap, .p (.int .i64 z)]) := .tup _ (by
  intro c hc
  simp only [List.mem_cons, List.not_mem_nil, or_false] at hc
  rcases hc with rfl | rfl
  · exact .vw _ _ _ _ _
  · exact .p _ (.int _ _))
theorem flatC {l : List Chg} {us : List PV} (h : us = cP l) {T : TypeId} {sz : Nat} : ∀ r ∈ [Res.arr T sz us], Res.Flat r := by
  intro r hr
  rw [List.mem_singleton.1 hr]
  intro x hx
  rw [h] at hx
  obtain ⟨c, -, rfl⟩ := List.mem_map.1 hx
  refine .agg _ ?_
  intro u hu
  simp only [List.mem_cons, List.not_mem_nil, or_false] at hu
  rcases hu with rfl | rfl | rfl
  · exact .int _ _
  · exact .str _
  · exact .str _
theorem flatPs {l : List Pr} {us : List PV} (h : us = prP l) : ∀ x ∈ us, PV.Flat x := by
  intro x hx
  rw [h] at hx
  obtain ⟨c, -, rfl⟩ := List.mem_map.1 hx
  refine .agg _ ?_
  intro u hu
  simp only [List.mem_cons, List.not_mem_nil, or_false] at hu
  rcases hu with rfl | rfl
  · exact .str _
  · exact .str _
theorem flatR {l : List Pr} {us : List PV} (h : us = prP l) {T : TypeId} {sz : Nat} : ∀ r ∈ [Res.arr T sz us], Res.Flat r := by
  intro r hr
  rw [List.mem_singleton.1 hr]
  exact flatPs h
theorem flatV (i sz off n : Nat) (cap : Option Nat) : V.Flat (.vw i sz off n cap) := .vw _ _ _ _ _
theorem gSawN_spec (g : Gq) (hlo : g.lo.length ≤ 17) (hhi : g.hi.length ≤ 17) (l : List Chg) (hx2 : g.x2 = cP l) (hn2 : g.n2 = l.length) (hl : l.length ≤ 48) (hlf : ∀ c ∈ l, c.fit) (hck : chks l = 0) (hn1 : g.n1 = g.x1.length) (hn1b : g.n1 ≤ 30) (hn3 : g.n3 = g.x3.length) (hn3b : g.n3 ≤ 30) :
    FnL Tryz.prog 24 [.own 0 0, .p .nils] g.R fun v own => ∃ m1 m3 y1 y3 us, us = prP (ones [] (cutL ⟨g.lo, g.hi⟩ l)) ∧ m1 = g.n1 + 1 ∧ m3 = g.n3 + 1 ∧ y1 = g.x1 ++ [.agg [.str g.lo, .str g.hi, .int .i64 (Int.ofNat g.n2), .sl us]] ∧ y3 = g.x3 ++ [.agg [.str g.lo, .str g.hi]] ∧ own = (g.saw m1 m3 y1 y3).R := by
  obtain ⟨c3, fr, hd, qn, wt, tk, dr, dO, dv, n1, n2, bg, n3, lo, hi, o4, n4, n5, n6, ep, sv, x1, x2, x3, x4, x5, x6⟩ := g
  simp only at hlo hhi hx2 hn2 hn1 hn1b hn3 hn3b ⊢
  have hcu := chCutO_spec ⟨lo, hi⟩ hlo hhi l hlf hck (Nat.le_trans (Nat.mul_le_mul_right 40 hl) (by decide)) x2 hx2
  have hcl := cutL_len ⟨lo, hi⟩ l
  have hap := fun cs hcs => chApply_spec [] List.Pairwise.nil (by decide) (by simp) (cutL ⟨lo, hi⟩ l) (cutL_chks hlo hhi hck) (by decide) (by omega) [] cs rfl hcs
  have hcn := ones_len (ps := []) List.Pairwise.nil (cutL ⟨lo, hi⟩ l)
  have hpl := fun zs hzs => clonePrO_spec (ones [] (cutL ⟨lo, hi⟩ l)) (by have : ([] : List Pr).length = 0 := rfl; omega) zs hzs
  have hx2t : x2 = (x2.drop 0).take n2 := by rw [List.drop_zero, hn2, hx2, ← cP_length l, List.take_length]
  refine fn_of_vc eOk fOk fo24 Tryz.func24 rfl rfl rfl fun B hB => ?_
  intro _ _ _ _ _ _ _ _ _ _ _ _ _ _ _ _ _ _ _ _ _ _ _ hA _ _ sl _ _ _ _ _ _ _ hL _ _ _ hcall _ hcode ret hret
  cbv
  refine hcode _ _ _ (CodeEv.drawF eOk fOk (by kernel_rfl) (Xof 7 [0, 3]) [] (by kernel_rfl) (by kernel_rfl) (by kernel_rfl) ?_)
  intro _ _ _ _ _ _ _ _ _ _ _ _ _ _ _ _ _ _ _ _ _ _ _ _ _ _ _ _ _ _ _ _ _ _ _ _ _ _ _ _ _ _ hq2
  cbv
  refine ⟨false, ?_⟩
  cbv
  refine .inl ⟨(), rfl, hn3, Wf.one ⟨rfl, by simp [PV.cells, PV.one]⟩, ?_, ?_, ?_⟩
  · show n3 + 1 ≤ maxLen
    unfold maxLen; omega
  · show (n3 + 1) * 32 ≤ _
    omega
  intro y3 m3 hy3 hm3
  cbv
  refine hq2 _ ?_
  cbv
  refine hcode _ _ _ (CodeEv.drawA eOk fOk (by kernel_rfl) (Xof 7 []) (by kernel_rfl) (by kernel_rfl) (by kernel_rfl) ?_)
  intro _ _ _ _ _ _ _ _ _ _ _ _ _ _ _ _ _ _ _ _ _ _ _ _ _ _ _ _ _ _ _ _ _ _ _ _ _ _ hcall3 _ _ _ hq3
  cbv
  refine hcall3 _ _ _ _ _ (CallEv.shown [] [2] hcu rfl (.cons (.p _) (.cons (.bvw 2 3 0 n2 none _ _ x2 x2 (List.mem_singleton.2 rfl) rfl hx2t) .nil)) trivial ?_)
  rintro _ _ ⟨us, m, hus, hm, rfl, rfl⟩
  refine ⟨flatT2 _ _ _ _ _ _, flatC hus, ?_⟩
  cbv
  refine hq3 _ ?_
  cbv
  refine hcall _ _ _ _ _ (CallEv.shown [] [7] (hap us hus) rfl (.cons .nils (.cons (.bvw 7 3 0 m none _ _ us us (List.mem_singleton.2 rfl) rfl (by rw [List.drop_zero, hm, List.take_length])) .nil)) trivial ?_)
  rintro _ _ ⟨n, xs, hxs, hn, rfl, rfl⟩
  refine ⟨flatT2 _ _ _ _ _ _, flatR hxs, ?_⟩
  cbv
  refine vcIf.yes (by first | (simp [smW hA hL]; done) | (simp [smW hA hL]; omega)) ?_
  cbv
  refine hcode _ _ _ (CodeEv.drawL eOk fOk (by kernel_rfl) (Xof 9 [0, 1]) [(0, .rd), (1, .rd), (2, .rd), (3, .rd), (4, .rd), (5, .rd), (6, .rd), (7, .rd), (8, .rd), (9, .rd), (10, .rd), (11, .rd), (12, .rd), (13, .rd), (14, .rd), (15, .rd), (16, .rd), (17, .fresh), (18, .sole), (19, .fresh), (20, .act), (21, .sole), (22, .sole), (23, .sole), (24, .act)] (by kernel_rfl) (by kernel_rfl) (by kernel_rfl) ?_)
  intro _ _ _ _ _ _ _ _ _ _ _ _ _ _ _ _ _ _ _ _ _ iof4 _ hA4 _ _ _ _ _ _ _ _ _ _ _ _ _ _ hcall4 _ _ _ hq4
  cbv
  refine hcall4 _ _ _ _ _ (CallEv.frzR (CallEv.shown [] [8] (hpl xs hxs) rfl (.cons (.bvw 8 2 0 n none _ _ xs xs (List.mem_singleton.2 rfl) rfl (by rw [List.drop_zero, hn, List.take_length])) .nil) trivial ?_))
  rintro _ _ ⟨n9, ws, hws, hn9, rfl, rfl⟩
  refine ⟨flatV _ _ _ _ _, flatR hws, 9, _, _, _, rfl, (by rw [hB]; exact Nat.le_of_ble_eq_true rfl), fun g2 hg2 => ?_⟩
  have hg2z : g2 0 n9 = ws := by rw [hg2, List.drop_zero, hn9, List.take_length]
  rw [hws] at hg2z
  obtain ⟨pp, hpp⟩ : ∃ pp, pp = g2 0 n9 := ⟨_, rfl⟩
  rw [← hpp] at hg2z
  cbv
  rw [← hpp]
  refine ⟨false, ?_⟩
  cbv
  have hof : iof4 n2 = Int.ofNat n2 := by rw [hA4.ofNat]; rfl
  refine .inl ⟨(), rfl, hn1, Wf.one ⟨rfl, by simp [PV.cells, PV.one]⟩, ?_, ?_, ?_⟩
  · show n1 + 1 ≤ maxLen
    unfold maxLen; omega
  · show (n1 + 1) * 64 ≤ _
    omega
  intro y1 m1 hy1 hm1
  rw [hof] at hy1
  cbv
  refine hq4 _ ?_
  cbv
  exact hret _ (RetEv.convW (ConvW.pack [0, 1, 2, 3, 4, 5, 6] hB rfl) (RetEv.ret eOk rfl ⟨m1, m3, y1, y3, pp, hg2z, hm1, hm3, hy1, hy3, rfl⟩))
theorem gSawF_spec (g : Gq) (ps : List Pr) (hps : Srt ps) (hsn : sndP ps = true) (hpf : ∀ p ∈ ps, p.fit) (hpl0 : ps.length ≤ 100) (hx5 : g.x5 = prP ps) (hn5 : g.n5 = ps.length) (hlo : g.lo.length ≤ 17) (hhi : g.hi.length ≤ 17) (l : List Chg) (hx2 : g.x2 = cP l) (hn2 : g.n2 = l.length) (hl : l.length ≤ 48) (hlf : ∀ c ∈ l, c.fit) (hck : chks l = 0) (hn1 : g.n1 = g.x1.length) (hn1b : g.n1 ≤ 30) (hn3 : g.n3 = g.x3.length) (hn3b : g.n3 ≤ 30) :
    FnL Tryz.prog 24 [.own 0 0, .vw 5 2 0 g.n5 none] g.R fun v own => ∃ m1 m3 y1 y3 us, us = prP (ones ps (cutL ⟨g.lo, g.hi⟩ l)) ∧ m1 = g.n1 + 1 ∧ m3 = g.n3 + 1 ∧ y1 = g.x1 ++ [.agg [.str g.lo, .str g.hi, .int .i64 (Int.ofNat g.n2), .sl us]] ∧ y3 = g.x3 ++ [.agg [.str g.lo, .str g.hi]] ∧ own = (g.saw m1 m3 y1 y3).R := by
  obtain ⟨c3, fr, hd, qn, wt, tk, dr, dO, dv, n1, n2, bg, n3, lo, hi, o4, n4, n5, n6, ep, sv, x1, x2, x3, x4, x5, x6⟩ := g
  simp only at hx5 hn5 hlo hhi hx2 hn2 hn1 hn1b hn3 hn3b ⊢
  have hcu := chCutO_spec ⟨lo, hi⟩ hlo hhi l hlf hck (Nat.le_trans (Nat.mul_le_mul_right 40 hl) (by decide)) x2 hx2
  have hcl := cutL_len ⟨lo, hi⟩ l
  have hap := fun cs hcs => chApply_spec ps hps hsn hpf (cutL ⟨lo, hi⟩ l) (cutL_chks hlo hhi hck) (by omega) (by omega) x5 cs hx5 hcs
  have hcn := ones_len (ps := ps) hps (cutL ⟨lo, hi⟩ l)
  have hpl := fun zs hzs => clonePrO_spec (ones ps (cutL ⟨lo, hi⟩ l)) (by omega) zs hzs
  have hx5t : x5 = (x5.drop 0).take n5 := by rw [List.drop_zero, hn5, hx5, ← prP_length ps, List.take_length]
  have hx2t : x2 = (x2.drop 0).take n2 := by rw [List.drop_zero, hn2, hx2, ← cP_length l, List.take_length]
  refine fn_of_vc eOk fOk fo24 Tryz.func24 rfl rfl rfl fun B hB => ?_
  intro _ _ _ _ _ _ _ _ _ _ _ _ _ _ _ _ _ _ _ _ _ _ _ hA _ _ sl _ _ _ _ _ _ _ hL _ _ _ hcall _ hcode ret hret
  cbv
  refine hcode _ _ _ (CodeEv.drawF eOk fOk (by kernel_rfl) (Xof 7 [0, 3]) [] (by kernel_rfl) (by kernel_rfl) (by kernel_rfl) ?_)
  intro _ _ _ _ _ _ _ _ _ _ _ _ _ _ _ _ _ _ _ _ _ _ _ _ _ _ _ _ _ _ _ _ _ _ _ _ _ _ _ _ _ _ hq2
  cbv
  refine ⟨false, ?_⟩
  cbv
  refine .inl ⟨(), rfl, hn3, Wf.one ⟨rfl, by simp [PV.cells, PV.one]⟩, ?_, ?_, ?_⟩
  · show n3 + 1 ≤ maxLen
    unfold maxLen; omega
  · show (n3 + 1) * 32 ≤ _
    omega
  intro y3 m3 hy3 hm3
  cbv
  refine hq2 _ ?_
  cbv
  refine hcode _ _ _ (CodeEv.drawA eOk fOk (by kernel_rfl) (Xof 7 []) (by kernel_rfl) (by kernel_rfl) (by kernel_rfl) ?_)
  intro _ _ _ _ _ _ _ _ _ _ _ _ _ _ _ _ _ _ _ _ _ _ _ _ _ _ _ _ _ _ _ _ _ _ _ _ _ _ hcall3 _ _ _ hq3
  cbv
  refine hcall3 _ _ _ _ _ (CallEv.shown [] [2] hcu rfl (.cons (.p _) (.cons (.bvw 2 3 0 n2 none _ _ x2 x2 (List.mem_singleton.2 rfl) rfl hx2t) .nil)) trivial ?_)
  rintro _ _ ⟨us, m, hus, hm, rfl, rfl⟩
  refine ⟨flatT2 _ _ _ _ _ _, flatC hus, ?_⟩
  cbv
  refine hq3 _ ?_
  cbv
  refine hcall _ _ _ _ _ (CallEv.shown [] [5, 7] (hap us hus) rfl (.cons (.bvw 5 2 0 n5 none _ _ x5 x5 (by simp) rfl hx5t) (.cons (.bvw 7 3 0 m none _ _ us us (by simp) rfl (by rw [List.drop_zero, hm, List.take_length])) .nil)) trivial ?_)
  rintro _ _ ⟨n, xs, hxs, hn, rfl, rfl⟩
  refine ⟨flatT2 _ _ _ _ _ _, flatR hxs, ?_⟩
  cbv
  refine vcIf.yes (by first | (simp [smW hA hL]; done) | (simp [smW hA hL]; omega)) ?_
  cbv
  refine hcode _ _ _ (CodeEv.drawL eOk fOk (by kernel_rfl) (Xof 9 [0, 1]) [(0, .rd), (1, .rd), (2, .rd), (3, .rd), (4, .rd), (5, .rd), (6, .rd), (7, .rd), (8, .rd), (9, .rd), (10, .rd), (11, .rd), (12, .rd), (13, .rd), (14, .rd), (15, .rd), (16, .rd), (17, .fresh), (18, .sole), (19, .fresh), (20, .act), (21, .sole), (22, .sole), (23, .sole), (24, .act)] (by kernel_rfl) (by kernel_rfl) (by kernel_rfl) ?_)
  intro _ _ _ _ _ _ _ _ _ _ _ _ _ _ _ _ _ _ _ _ _ iof4 _ hA4 _ _ _ _ _ _ _ _ _ _ _ _ _ _ hcall4 _ _ _ hq4
  cbv
  refine hcall4 _ _ _ _ _ (CallEv.frzR (CallEv.shown [] [8] (hpl xs hxs) rfl (.cons (.bvw 8 2 0 n none _ _ xs xs (List.mem_singleton.2 rfl) rfl (by rw [List.drop_zero, hn, List.take_length])) .nil) trivial ?_))
  rintro _ _ ⟨n9, ws, hws, hn9, rfl, rfl⟩
  refine ⟨flatV _ _ _ _ _, flatR hws, 9, _, _, _, rfl, (by rw [hB]; exact Nat.le_of_ble_eq_true rfl), fun g2 hg2 => ?_⟩
  have hg2z : g2 0 n9 = ws := by rw [hg2, List.drop_zero, hn9, List.take_length]
  rw [hws] at hg2z
  obtain ⟨pp, hpp⟩ : ∃ pp, pp = g2 0 n9 := ⟨_, rfl⟩
  rw [← hpp] at hg2z
  cbv
  rw [← hpp]
  refine ⟨false, ?_⟩
  cbv
  have hof : iof4 n2 = Int.ofNat n2 := by rw [hA4.ofNat]; rfl
  refine .inl ⟨(), rfl, hn1, Wf.one ⟨rfl, by simp [PV.cells, PV.one]⟩, ?_, ?_, ?_⟩
  · show n1 + 1 ≤ maxLen
    unfold maxLen; omega
  · show (n1 + 1) * 64 ≤ _
    omega
  intro y1 m1 hy1 hm1
  rw [hof] at hy1
  cbv
  refine hq4 _ ?_
  cbv
  exact hret _ (RetEv.convW (ConvW.pack [0, 1, 2, 3, 4, 5, 6] hB rfl) (RetEv.ret eOk rfl ⟨m1, m3, y1, y3, pp, hg2z, hm1, hm3, hy1, hy3, rfl⟩))
end Go.Proofs.YtegkojnngdlfaaaGreat
end
section
namespace Go.Proofs.YtegkojnngdlfaaaGreat
open Go Go.Lx
open Go.Sx (vcIf)
def lsE (wt : Int) (bg : Bool) (dO : Int) (n3 : Nat) (lo hi : List UInt8) : Nat := if idl wt bg dO ≠ 0 then idl wt bg dO else if 17 < lo.length ∨ 17 < hi.length then 6 else if bl hi lo = true then 5 else if 24 ≤ n3 then 10 else 0
theorem gList_err (g : Gq) (lo hi : List UInt8) (hne : lsE g.wt g.bg g.dO g.n3 lo hi ≠ 0) (hn3 : g.n3 ≤ 1000) (h1 : lo.length < 140737488355328) (h2 : hi.length < 140737488355328) :
    FnL Tryz.prog 7 [.own 0 0, .p (.agg [.str lo, .str hi])] g.R fun v own => ∃ e : Nat, e = lsE g.wt g.bg g.dO g.n3 lo hi ∧ v = .p (.tup [.nils, .int .i64 (Int.ofNat e)]) ∧ own = g.R := by
  have hid := gIdle_spec g
  obtain ⟨c3, fr, hd, qn, wt, tk, dr, dO, dv, n1, n2, bg, n3, lo0, hi0, o4, n4, n5, n6, ep, sv, x1, x2, x3, x4, x5, x6⟩ := g
  simp only at hne hn3 hid ⊢
  obtain ⟨E, hE⟩ : ∃ E, E = lsE wt bg dO n3 lo hi := ⟨_, rfl⟩
  rw [← hE] at hne ⊢
  unfold lsE at hE
  obtain ⟨I, hI⟩ : ∃ I, I = idl wt bg dO := ⟨_, rfl⟩
  rw [← hI] at hid hE
  obtain ⟨na, hna⟩ : ∃ x, x = lo.length := ⟨_, rfl⟩
  obtain ⟨nb, hnb⟩ : ∃ x, x = hi.length := ⟨_, rfl⟩
  rw [← hna] at h1
  rw [← hnb] at h2
  obtain ⟨gb, hgb⟩ : ∃ x, x = bl hi lo := ⟨_, rfl⟩
  rw [← hna, ← hnb, ← hgb] at hE
  refine fn_of_vc eOk fOk fo7 Tryz.func7 rfl rfl rfl fun B hB => ?_
  intro _ _ _ _ _ _ _ _ _ _ _ _ _ _ _ _ _ bnot orb _ _ _ _ hA _ sq sl _ imax _ _ _ slen _ hL _ _ _ hcall _ _ ret hret
  have hmx : imax (slen lo) (slen hi) = Int.ofNat (max na nb) := by
    rw [hL.imax, hL.slen, hL.slen, ← hna, ← hnb]; simp only [Int.ofNat_eq_natCast]; split <;> omega
  obtain ⟨mx, hmxe⟩ : ∃ m, m = max na nb := ⟨_, rfl⟩
  rw [← hmxe] at hmx
  have hmx2 : 17 < mx ↔ (17 < na ∨ 17 < nb) := by omega
  clear hmxe
  have hgt : bnot (orb (sl lo hi) (sq lo hi)) = gb := by rw [hgb, hA.not, hA.orb, hL.sl, hL.sq]; exact bl_gt lo hi
  cbv
  refine hcall _ _ _ _ _ (CallEv.lend [0, 1, 2, 3, 4, 5, 6] hid rfl (.cons (.own 0 0 0 rfl) .nil) (gqT rfl rfl rfl rfl rfl rfl rfl rfl rfl rfl rfl rfl rfl) ?_)
  rintro _ _ ⟨e, he, rfl, rfl⟩
  cbv
  by_cases h0 : e = 0
  rotate_left
  · rw [if_pos (by omega)] at hE
    repeat (first | (refine vcIf.yes ?_ ?_; (focus (simp [smW hA hL, h0]; done)); cbv) | (refine vcIf.no ?_ ?_; (focus (simp [smW hA hL, h0]; done)); cbv))
    exact hret _ (RetEv.convW (ConvW.pack [0, 1, 2, 3, 4, 5, 6] hB rfl) (RetEv.ret eOk rfl ⟨e, by omega, rfl, rfl⟩))
  rw [if_neg (by omega)] at hE
  repeat (first | (refine vcIf.yes ?_ ?_; (focus (simp [smW hA hL, h0]; done)); cbv) | (refine vcIf.no ?_ ?_; (focus (simp [smW hA hL, h0]; done)); cbv))
  by_cases h17 : 17 < mx
  · rw [if_pos (hmx2.1 h17)] at hE
    refine vcIf.yes (by rw [hA.lt, hmx]; exact decide_eq_true (by show (17 : Int) < (mx : Int); omega)) ?_
    cbv
    exact hret _ (RetEv.convW (ConvW.pack [0, 1, 2, 3, 4, 5, 6] hB rfl) (RetEv.ret eOk rfl ⟨6, hE.symm, rfl, rfl⟩))
  rw [if_neg (fun c => h17 (hmx2.2 c))] at hE
  refine vcIf.no (by rw [hA.lt, hmx]; exact decide_eq_false (by show ¬ (17 : Int) < (mx : Int); omega)) ?_
  cbv
  cases gb with
  | true =>
    rw [if_pos rfl] at hE
    refine vcIf.yes hgt ?_
    cbv
    exact hret _ (RetEv.convW (ConvW.pack [0, 1, 2, 3, 4, 5, 6] hB rfl) (RetEv.ret eOk rfl ⟨5, hE.symm, rfl, rfl⟩))
  | false =>
    rw [if_neg (by decide)] at hE
    refine vcIf.no hgt ?_
    cbv
    by_cases h3 : 24 ≤ n3
    · rw [if_pos h3] at hE
      refine vcIf.yes (by rw [hA.le, hA.ofNat]; exact decide_eq_true (by omega)) ?_
      cbv
      exact hret _ (RetEv.convW (ConvW.pack [0, 1, 2, 3, 4, 5, 6] hB rfl) (RetEv.ret eOk rfl ⟨10, hE.symm, rfl, rfl⟩))
    · rw [if_neg h3] at hE
      exact absurd hE hne
def pcS (k : Nat) (i : Nat) : Spn := ⟨pieceLo (bnds k) (i : Int), pieceHi (bnds k) (i : Int)⟩
def tdo (k : Nat) (s : Spn) (m : Nat) : List Int := ((List.range m).filter fun i => bl (mt (pcS k i) s).lo (mt (pcS k i) s).hi).map fun i : Nat => 40 + (i : Int)
theorem tdo_next (k : Nat) (s : Spn) (m : Nat) : tdo k s (m + 1) = if bl (mt (pcS k m) s).lo (mt (pcS k m) s).hi = true then tdo k s m ++ [40 + (m : Int)] else tdo k s m := by
  unfold tdo
  rw [List.range_succ, List.filter_append, List.map_append]
  by_cases h : bl (mt (pcS k m) s).lo (mt (pcS k m) s).hi = true
  · rw [if_pos h]; simp [h]
  · rw [if_neg h]; simp [h]
theorem tdo_len (k : Nat) (s : Spn) (m : Nat) : (tdo k s m).length ≤ m := by
  unfold tdo
  rw [List.length_map]
  exact Nat.le_trans (List.length_filter_le _ _) (by rw [List.length_range]; exact Nat.le_refl _)
def Gq.asks (g : Gq) (lo hi : List UInt8) (m : Nat) (td : List PV) : Gq := { g with lo := lo, hi := hi, o4 := 0, n4 := m, x4 := td, n5 := 0, x5 := [] }
abbrev lsO (c3 fr hd qn wt tk dr dO dv : Int) (n1 n2 : Nat) (bg : Bool) (n3 : Nat) (lo hi : List UInt8) (m n6 : Nat) (ep sv : Int) (x1 x2 x3 x4 x5 x6 td : List PV) : List Res :=
  [.st 63 [.p (.int .i64 1), .p (.int .i64 1), .p (.int .i64 c3), .p (.int .i64 2), .p (.int .i64 1), .p (.int .i64 1), .p (.int .i64 100), .p (.int .i64 fr), .p (.int .i64 hd), .p (.int .i64 qn), .p (.int .i64 wt), .p (.int .i64 tk),
    .p (.int .i64 0), .p (.int .i64 0), .p (.int .i64 0), .p (.int .i64 dr), .p (.int .i64 dO), .p (.int .i64 dv), .vw 1 4 0 n1 none, .vw 2 3 0 n2 none, .p (.bool bg), .vw 3 2 0 n3 none, .p (.str lo), .p (.str hi), .vw 8 1 0 m none, .vw 9 2 0 0 none, .vw 6 8 0 n6 none, .p (.int .i64 ep), .p (.int .i64 sv)],
   .arr 81 4 x1, .arr 25 3 x2, .arr 38 2 x3, .arr 3 1 x4, .arr 84 2 x5, msA x6, .st 38 [.p (.str lo), .p (.str hi)], .arr 3 1 td, .arr 84 2 []]
def lsR (g : Gq) (k : Nat) (l : List Chg) (qm : Int) (lo hi : List UInt8) (v : V) (own : List Res) : Prop :=
  (tdo k ⟨lo, hi⟩ k = [] ∧ v = .p (.tup [.nils, .int .i64 0]) ∧ ∃ m1 m3 y1 y3 us td, us = prP (ones [] (cutL ⟨lo, hi⟩ l)) ∧ m1 = g.n1 + 1 ∧ m3 = g.n3 + 1 ∧ y1 = g.x1 ++ [.agg [.str lo, .str hi, .int .i64 (Int.ofNat g.n2), .sl us]] ∧ y3 = g.x3 ++ [.agg [.str lo, .str hi]] ∧ own = ((g.asks lo hi 0 td).saw m1 m3 y1 y3).R) ∨
  (∃ s0 r td m zs bd, tdo k ⟨lo, hi⟩ k = s0 :: r ∧ td = iP (s0 :: r) ∧ m = td.length ∧ bd = bP (encts [lo, hi]) ∧ zs = [msP 1 100 s0 g.ep qm 4 g.dr (.sl bd)] ∧ v = .p (.tup [.sl zs, .int .i64 0]) ∧ own = ((g.asks lo hi m td).sent 2 qm zs).R)
theorem gList_spec (g : Gq) (k : Nat) (hk : 1 ≤ k ∧ k ≤ 4) (hc3 : g.c3 = Int.ofNat k) (lo hi : List UInt8) (hidl : idl g.wt g.bg g.dO = 0) (hlo : lo.length ≤ 17) (hhi : hi.length ≤ 17) (hlh : bl hi lo = false) (hn3 : g.n3 < 24)
    (hqn : 0 ≤ g.qn ∧ g.qn < 9223372036854775807) {qm : Int} (hqm : qm = g.qn + 1)
    (l : List Chg) (hx2 : g.x2 = cP l) (hn2 : g.n2 = l.length) (hl : l.length ≤ 48) (hlf : ∀ c ∈ l, c.fit) (hck : chks l = 0) (hn1 : g.n1 = g.x1.length) (hn1b : g.n1 ≤ 30) (hn3' : g.n3 = g.x3.length) :
    FnL Tryz.prog 7 [.own 0 0, .p (.agg [.str lo, .str hi])] g.R (lsR g k l qm lo hi) := by
  have hid := gIdle_spec g
  have hbn := crBounds_spec k hk
  have hbl : (bnds k).length < 281474976710656 := by rw [bnds, List.length_map, List.length_range]; omega
  have hbb : ∀ b ∈ bnds k, b.length < 281474976710656 := fun b hb => by obtain ⟨i, -, rfl⟩ := List.mem_map.1 hb; exact Nat.lt_of_lt_of_le (show 1 < 2 by decide) (by decide)
  obtain ⟨bz, hbz⟩ : ∃ bz, bz = bsP (bnds k) := ⟨_, rfl⟩
  have hpc := fun i : Nat => pieceT_spec (bnds k) hbl hbb (i : Int) bz hbz
  rw [← hbz] at hbn
  obtain ⟨c3, fr, hd, qn, wt, tk, dr, dO, dv, n1, n2, bg, n3, lo0, hi0, o4, n4, n5, n6, ep, sv, x1, x2, x3, x4, x5, x6⟩ := g
  simp only at hc3 hid hidl hn3 ⊢
  rw [hidl] at hid
  subst hc3
  have hna : lo.length ≤ 17 := hlo
  have hnb : hi.length ≤ 17 := hhi
  obtain ⟨RR, hRR⟩ : ∃ RR, RR = lsR (Gq.mk (Int.ofNat k) fr hd qn wt tk dr dO dv n1 n2 bg n3 lo0 hi0 o4 n4 n5 n6 ep sv x1 x2 x3 x4 x5 x6) k l qm lo hi := ⟨_, rfl⟩
  rw [← hRR]
  try simp only at hqn
  try simp only at hqm
  try simp only at hx2
  try simp only at hn2
  try simp only at hn1
  try simp only at hn1b
  try simp only at hn3'
  obtain ⟨td0, htd0⟩ : ∃ t : Nat → List Int, t = tdo k ⟨lo, hi⟩ := ⟨_, rfl⟩
  have htn := fun i => tdo_next k ⟨lo, hi⟩ i
  have htl := fun i => tdo_len k ⟨lo, hi⟩ i
  rw [← htd0] at htn htl
  have ht0 : td0 0 = [] := by rw [htd0]; rfl
  refine fn_of_vc eOk fOk fo7 Tryz.func7 rfl rfl rfl fun B hB => ?_
  intro add _ _ _ _ _ _ _ _ _ _ _ ilt _ _ _ _ bnot orb _ _ _ _ hA _ sq sl _ imax _ _ _ slen _ hL _ _ _ hcall _ hcode ret hret
  have hmx : ilt 17 (imax (slen lo) (slen hi)) = false := by
    rw [hL.imax, hL.slen, hL.slen, hA.lt]
    exact decide_eq_false (by have e1 : (lo.length : Int) ≤ 17 := by omega
                              have e2 : (hi.length : Int) ≤ 17 := by omega
                              split <;> omega)
  have hgt : bnot (orb (sl lo hi) (sq lo hi)) = false := by rw [hA.not, hA.orb, hL.sl, hL.sq]; exact (bl_gt lo hi).trans hlh
  cbv
  refine hcall _ _ _ _ _ (CallEv.lend [0, 1, 2, 3, 4, 5, 6] hid rfl (.cons (.own 0 0 0 rfl) .nil) (gqT rfl rfl rfl rfl rfl rfl rfl rfl rfl rfl rfl rfl rfl) ?_)
  rintro _ _ ⟨e, he, rfl, rfl⟩
  cbv
  obtain rfl : e = 0 := he
  repeat (first | (refine vcIf.yes ?_ ?_; (focus (simp [smW hA hL]; done)); cbv) | (refine vcIf.no ?_ ?_; (focus (simp [smW hA hL]; done)); cbv))
  refine vcIf.no hmx ?_
  cbv
  refine vcIf.no hgt ?_
  cbv
  refine vcIf.no (by rw [hA.le, hA.ofNat]; exact decide_eq_false (by omega)) ?_
  cbv
  refine hcode _ _ _ (CodeEv.conv (Conv.hollowC 0 24 3 1 (by decide) rfl rfl) (CodeEv.conv (Conv.hollowC 0 25 84 2 (by decide) rfl rfl)
    (CodeEv.loop eOk fOk (ι := Nat × Nat × List PV) (fun q => [(0, .own 0 0), (3, .own 7 0), (52, .p (.int .i64 (Int.ofNat k))), (53, .p (.int .i64 (Int.ofNat q.1)))])
    (fun q => lsO (Int.ofNat k) fr hd qn wt tk dr dO dv n1 n2 bg n3 lo hi q.2.1 n6 ep sv x1 x2 x3 x4 x5 x6 q.2.2) (fun q => q.1 ≤ k ∧ q.2.2 = iP (td0 q.1) ∧ q.2.1 = (td0 q.1).length) (fun q => k - q.1) (0, 0, []) ?_ ?_)))
  · exact ⟨(by repeat (first | exact trivial | refine And.intro rfl ?_)), rfl, Nat.zero_le _, by rw [ht0]; rfl, by rw [ht0]; rfl⟩
  rintro ⟨i, m, td⟩ ⟨h1, h2, h3⟩ rd hrd
  simp only at h1 h2 h3
  have hmi : m ≤ i := by rw [h3]; exact htl i
  by_cases hik : i < k
  · have hpci := hpc i
    have htni := htn i
    have hpcS : pcS k i = ⟨pieceLo (bnds k) (i : Int), pieceHi (bnds k) (i : Int)⟩ := rfl
    rw [hpcS] at htni
    refine Exists.elim (show ∃ x, x = pieceLo (bnds k) (i : Int) from ⟨_, rfl⟩) fun pl hpl => ?_
    refine Exists.elim (show ∃ x, x = pieceHi (bnds k) (i : Int) from ⟨_, rfl⟩) fun ph hph => ?_
    refine Exists.elim (show ∃ x, x = pieceE (bnds k) (i : Int) from ⟨_, rfl⟩) fun pe hpe => ?_
    rw [← hpl, ← hph, ← hpe] at hpci
    rw [← hpl, ← hph] at htni
    clear hpl hph hpe hpcS hpc
    have hmt := meet_spec pl ph lo hi
    refine Exists.elim (show ∃ x, x = mt ⟨pl, ph⟩ ⟨lo, hi⟩ from ⟨_, rfl⟩) fun mm hmm => ?_
    rw [← hmm] at hmt htni
    clear hmm
    obtain ⟨ml, mh⟩ := mm
    have hem := empty_spec ml mh
    refine Exists.elim (show ∃ x, x = bl ml mh from ⟨_, rfl⟩) fun b hb => ?_
    rw [show Op.bytesLess ml mh = b from hb.symm] at hem
    simp only [← hb] at htni
    clear hb
    intro add1 _ _ _ _ _ _ _ _ _ _ _ _ _ _ _ _ _ _ _ _ _ _ hA1 _ _ _ _ _ _ _ _ _ _ hL1 _ _ _ hcall1 _ _
    have hadd1 : add1 .i64 (Int.ofNat i) 1 = Int.ofNat (i + 1) := by rw [hA1.add, IntWalk.i64_in _ (by simp only [Int.ofNat_eq_natCast]; omega)]; rfl
    have hadd4 : add1 .i64 40 (Int.ofNat i) = 40 + (i : Int) := by rw [hA1.add, IntWalk.i64_in _ (by simp only [Int.ofNat_eq_natCast]; omega)]; rfl
    cbv
    refine vcIf.yes (by first | (simp [smW hA1 hL1, hik]; done) | (simp only [hik]; simp [smW hA1 hL1, hik]; done) | (simp [smW hA1 hL1, hik]; omega) | (simp only [hik]; simp [smW hA1 hL1, hik]; omega)) ?_
    cbv
    refine hcall1 _ _ _ _ _ (CallEv.same hbn rfl ?_)
    rintro _ _ ⟨rfl, rfl⟩
    cbv
    refine hcall1 _ _ _ _ _ (CallEv.same hpci rfl ?_)
    rintro _ _ ⟨rfl, rfl⟩
    cbv
    refine hcall1 _ _ _ _ _ (CallEv.same hmt rfl ?_)
    rintro _ _ ⟨_, rfl, rfl, rfl⟩
    cbv
    refine hcall1 _ _ _ _ _ (CallEv.same hem rfl ?_)
    rintro _ _ ⟨b2, hb2, rfl, rfl⟩
    cases b with
    | false =>
      obtain rfl : b2 = true := hb2
      rw [if_neg (by decide)] at htni
      cbv
      repeat (first | (refine vcIf.yes ?_ ?_; (focus (simp [smW hA1 hL1]; done)); cbv) | (refine vcIf.no ?_ ?_; (focus (simp [smW hA1 hL1]; done)); cbv))
      refine hrd _ ⟨(i + 1, m, td), _, ?_, ⟨hik, ?_, ?_⟩, rfl, ⟨rfl, rfl, rfl, ?_, trivial⟩, rfl, rfl, rfl, ?_⟩
      · simp only; omega
      · simp only; rw [htni]; exact h2
      · simp only; rw [htni]; exact h3
      · show some (V.p (.int .i64 _)) = _
        rw [hadd1]
      · rw [hB]; exact Nat.le_of_ble_eq_true rfl
    | true =>
      obtain rfl : b2 = false := hb2
      rw [if_pos rfl] at htni
      have hml : m = td.length := by rw [h3, h2, iP_length]
      cbv
      repeat (first | (refine vcIf.yes ?_ ?_; (focus (simp [smW hA1 hL1]; done)); cbv) | (refine vcIf.no ?_ ?_; (focus (simp [smW hA1 hL1]; done)); cbv))
      refine ⟨false, ?_⟩
      cbv
      refine .inl ⟨(), rfl, hml, Wf.one ⟨rfl, by simp [PV.cells, PV.one]⟩, ?_, ?_, ?_⟩
      · show m + 1 ≤ maxLen
        unfold maxLen; omega
      · show (m + 1) * 8 ≤ _
        omega
      intro td' m' htd' hm'
      rw [hadd4] at htd'
      replace hm' : m' = m + 1 := hm'
      cbv
      refine hrd _ ⟨(i + 1, m', td'), _, ?_, ⟨hik, ?_, ?_⟩, rfl, ⟨rfl, rfl, rfl, ?_, trivial⟩, rfl, rfl, rfl, ?_⟩
      · simp only; omega
      · simp only; rw [htni, iP_append, htd', h2]; rfl
      · simp only; rw [htni, List.length_append, ← h3, hm']; rfl
      · show some (V.p (.int .i64 _)) = _
        rw [hadd1]
      · rw [hB]; exact Nat.le_of_ble_eq_true rfl
  · have hiN : i = k := by omega
    intro add1 _ _ _ _ _ _ _ _ _ _ _ _ _ _ _ _ _ _ _ _ _ _ hA1 _ _ _ _ _ _ _ _ _ _ hL1 _ _ _ hcall1 _ _
    cbv
    refine vcIf.no (by first | (simp [smW hA1 hL1, hik]; done) | (simp only [hik]; simp [smW hA1 hL1, hik]; done) | (simp [smW hA1 hL1, hik]; omega) | (simp only [hik]; simp [smW hA1 hL1, hik]; omega)) ?_
    cbv
    by_cases hm0 : m = 0
    · have hT : tdo k ⟨lo, hi⟩ k = [] := by rw [← htd0, ← hiN]; exact List.length_eq_zero_iff.1 (by omega)
      have hsw := gSawN_spec ⟨Int.ofNat k, fr, hd, qn, wt, tk, dr, dO, dv, n1, n2, bg, n3, lo, hi, 0, 0, 0, n6, ep, sv, x1, x2, x3, td, [], x6⟩ hlo hhi l hx2 hn2 hl hlf hck hn1 hn1b hn3' (show n3 ≤ 30 by omega)
      refine vcIf.yes (by rw [hA.eq, hA.ofNat]; exact decide_eq_true (by omega)) ?_
      subst hm0
      cbv
      refine hcall _ _ _ _ _ (CallEv.lend [0, 1, 2, 3, 8, 9, 6] hsw rfl (.cons (.own 0 0 0 rfl) (.cons (.p _) .nil)) (gqT rfl rfl rfl rfl rfl rfl rfl rfl rfl rfl rfl rfl rfl) ?_)
      rintro _ _ ⟨m1, m3, y1, y3, us, q1, q2, q3, q4, q5, rfl⟩
      cbv
      exact hret _ (RetEv.convW (ConvW.pack [0, 1, 2, 3, 8, 9, 6] hB rfl) (RetEv.ret eOk rfl (by rw [hRR]; exact .inl ⟨hT, rfl, m1, m3, y1, y3, us, td, q1, q2, q3, q4, q5, rfl⟩)))
    · obtain ⟨s0, r, hT⟩ : ∃ s0 r, tdo k ⟨lo, hi⟩ k = s0 :: r := by
        rw [← htd0, ← hiN]
        cases h : td0 i with
        | nil => rw [h] at h3; exact absurd h3 hm0
        | cons s0 r => exact ⟨s0, r, rfl⟩
      have hti : td0 i = s0 :: r := by rw [hiN, htd0]; exact hT
      rw [hti] at h2 h3
      have has := gAskShelf_spec ⟨Int.ofNat k, fr, hd, qn, wt, tk, dr, dO, dv, n1, n2, bg, n3, lo, hi, 0, m, 0, n6, ep, sv, x1, x2, x3, td, [], x6⟩ hqn hqm (show lo.length ≤ 65536 by omega) (show hi.length ≤ 65536 by omega) (show 0 < m by omega) (s := s0) (by show td[0]? = _; rw [h2]; rfl)
      refine vcIf.no (by rw [hA.eq, hA.ofNat]; exact decide_eq_false (by omega)) ?_
      cbv
      refine hcall _ _ _ _ _ (CallEv.lend [0, 1, 2, 3, 8, 9, 6] has rfl (.cons (.own 0 0 0 rfl) .nil) (gqT rfl rfl rfl rfl rfl rfl rfl rfl rfl rfl rfl rfl rfl) ?_)
      rintro _ _ ⟨zs, bd, q1, q2, rfl, rfl⟩
      cbv
      exact hret _ (RetEv.convW (ConvW.pack [0, 1, 2, 3, 8, 9, 6] hB rfl) (RetEv.ret eOk rfl (by rw [hRR]; exact .inr ⟨s0, r, td, m, zs, bd, hT, h2, by rw [h2, iP_length]; exact h3, q1, q2, rfl, rfl⟩)))
theorem gGet_large (g : Gq) (key : List UInt8) (h : 16 < key.length) (h2 : key.length < 9223372036854775807) : FnL Tryz.prog 38 [.own 0 0, .p (.str key)] g.R fun v own => v = .p (.tup [.nils, .int .i64 6]) ∧ own = g.R := by
  obtain ⟨c3, fr, hd, qn, wt, tk, dr, dO, dv, n1, n2, bg, n3, lo, hi, o4, n4, n5, n6, ep, sv, x1, x2, x3, x4, x5, x6⟩ := g
  obtain ⟨N, hN⟩ : ∃ N, N = key.length := ⟨_, rfl⟩
  rw [← hN] at h h2
  refine fn_of_vc eOk fOk fo38 Tryz.func38 rfl rfl rfl fun B hB => ?_
  intro _ _ _ _ _ _ _ _ _ _ _ _ _ _ _ _ _ _ _ _ _ _ _ hA _ _ _ _ _ _ _ _ slen _ hL _ _ _ _ _ _ ret hret
  have hsl : slen key = Int.ofNat N := by rw [hL.slen, hN]; rfl
  cbv
  refine vcIf.yes (by rw [hA.lt, hsl]; exact decide_eq_true (by show (16 : Int) < (N : Int); omega)) ?_
  cbv
  exact hret _ (RetEv.ret eOk rfl ⟨rfl, rfl⟩)
theorem gGet_spec (g : Gq) (key : List UInt8) (h : key.length ≤ 16) {R : V → List Res → Prop} (hls : FnL Tryz.prog 7 [.own 0 0, .p (.agg [.str key, .str (key ++ [0])])] g.R R)
    (hR : ∀ v own, R v own → (∃ zs e, v = .p (.tup [zs, e])) ∧ ∃ g' : Gq, own = g'.R) : FnL Tryz.prog 38 [.own 0 0, .p (.str key)] g.R R := by
  have hnx := next_spec key (by omega)
  obtain ⟨N, hN⟩ : ∃ N, N = key.length := ⟨_, rfl⟩
  rw [← hN] at h
  obtain ⟨kn, hkn⟩ : ∃ kn, kn = key ++ [0] := ⟨_, rfl⟩
  rw [← hkn] at hls hnx
  obtain ⟨c3, fr, hd, qn, wt, tk, dr, dO, dv, n1, n2, bg, n3, lo, hi, o4, n4, n5, n6, ep, sv, x1, x2, x3, x4, x5, x6⟩ := g
  refine fn_of_vc eOk fOk fo38 Tryz.func38 rfl rfl rfl fun B hB => ?_
  intro _ _ _ _ _ _ _ _ _ _ _ _ _ _ _ _ _ _ _ _ _ _ _ hA _ _ _ _ _ _ _ _ slen _ hL _ _ _ hcall _ _ ret hret
  have hsl : slen key = Int.ofNat N := by rw [hL.slen, hN]; rfl
  cbv
  refine vcIf.no (by rw [hA.lt, hsl]; exact decide_eq_false (by show ¬ (16 : Int) < (N : Int); omega)) ?_
  cbv
  refine hcall _ _ _ _ _ (CallEv.same hnx rfl ?_)
  rintro _ _ ⟨_, rfl, rfl, rfl⟩
  cbv
  refine hcall _ _ _ _ _ (CallEv.lend [0, 1, 2, 3, 4, 5, 6] hls rfl (.cons (.own 0 0 0 rfl) (.cons (.p _) .nil)) (gqT rfl rfl rfl rfl rfl rfl rfl rfl rfl rfl rfl rfl rfl) ?_)
  intro v own hr
  obtain ⟨⟨zs, e, rfl⟩, ⟨c3', fr', hd', qn', wt', tk', dr', dO', dv', n1', n2', bg', n3', lo', hi', o4', n4', n5', n6', ep', sv', x1', x2', x3', x4', x5', x6'⟩, rfl⟩ := hR v own hr
  cbv
  exact hret _ (RetEv.convW (ConvW.pack [0, 1, 2, 3, 4, 5, 6] hB rfl) (RetEv.ret eOk rfl hr))
end Go.Proofs.YtegkojnngdlfaaaGreat
end
section
namespace Go.Proofs.YtegkojnngdlfaaaGreat
open Go Go.Lx
open Go.Sx (vcIf)
theorem gTakeV_spec (g : Gq) (hw : g.wt = 1) (hdO : g.dO = 0) (hn6 : g.n6 = 1) {e0 tg : Int} {zs : List PV} (hx6 : g.x6 = [msP 1 100 tg e0 g.qn 1 0 (.sl zs)]) (e c : Int) :
    FnL Tryz.prog 11 [.own 0 0, .p (msP 2 tg 100 e g.qn 0 c (.sl []))] g.R fun v own => v = .p .nils ∧ own = ({ g with wt := 0, dr := c, ep := e, sv := tg } : Gq).R := by
  obtain ⟨c3, fr, hd, qn, wt, tk, dr, dO, dv, n1, n2, bg, n3, lo, hi, o4, n4, n5, n6, ep, sv, x1, x2, x3, x4, x5, x6⟩ := g
  simp only at hw hdO hn6 hx6 ⊢
  subst hw hn6 hdO
  refine fn_of_vc eOk fOk fo11 Tryz.func11 rfl rfl rfl fun B hB => ?_
  intro _ _ _ _ _ _ _ _ _ _ _ _ _ _ _ _ _ _ _ _ _ _ _ hA _ _ sl _ _ _ _ _ _ _ hL _ _ _ _ _ hcode ret hret
  cbv
  refine hcode _ _ _ (CodeEv.drawT eOk fOk (by kernel_rfl) (Xof 8 []) (.so 0 (.so 1 (.so 2 (.rd 3 (.rd 4 (.so 5 (.so 6 (.so 7 (.so 8 (.so 9 (.so 10 (.done)))))))))))) (by kernel_rfl) (by kernel_rfl) ?_)
  intro _ _ _ _ _ _ _ _ _ _ _ _ _ _ _ _ _ _ _ _ _ _ _ hA2 _ _ _ _ _ _ _ _ _ _ hL2 _ _ _ _ _ _ _ hq2
  cbv
  refine hq2 _ ?_
  cbv
  refine vcIf.no (by first | (simp [smW hA2 hL2]; done) | (simp [smW hA2 hL2]; omega)) ?_
  cbv
  refine hcode _ _ _ (CodeEv.drawT eOk fOk (by kernel_rfl) (Xof 8 []) (.so 0 (.so 1 (.so 2 (.so 3 (.rd 4 (.rd 5 (.so 6 (.so 7 (.so 8 (.so 9 (.so 10 (.so 11 (.done))))))))))))) (by kernel_rfl) (by kernel_rfl) ?_)
  intro _ _ _ _ _ _ _ _ _ _ _ _ _ _ _ _ _ _ _ _ _ _ _ hA3 _ _ _ _ _ _ _ _ _ _ hL3 _ _ _ _ _ _ _ hq3
  cbv
  repeat (first | (refine vcIf.yes ?_ ?_; (focus (simp [smW hA3 hL3]; done)); cbv) | (refine vcIf.no ?_ ?_; (focus (simp [smW hA3 hL3]; done)); cbv))
  refine hq3 _ ?_
  cbv
  repeat (first | (refine vcIf.yes ?_ ?_; (focus (simp [smW hA3 hL3]; done)); cbv) | (refine vcIf.no ?_ ?_; (focus (simp [smW hA3 hL3]; done)); cbv))
  refine hcode _ _ _ (CodeEv.drawT eOk fOk (by kernel_rfl) (Xof 8 []) (.so 0 (.so 1 (.so 2 (.so 3 (.rd 4 (.rd 5 (.so 6 (.so 7 (.so 8 (.so 9 (.so 10 (.so 11 (.so 12 (.so 13 (.so 14 (.so 15 (.so 16 (.so 17 (.so 18 (.so 19 (.rd 20 (.rd 21 (.so 22 (.so 23 (.so 24 (.so 25 (.so 26 (.so 27 (.so 28 (.so 29 (.so 30 (.done)))))))))))))))))))))))))))))))) (by kernel_rfl) (by kernel_rfl) ?_)
  intro _ _ _ _ _ _ _ _ _ _ _ _ _ _ _ _ _ _ _ _ _ _ _ hA4 _ _ _ _ _ _ _ _ _ _ hL4 _ _ _ _ _ _ _ hq4
  cbv
  repeat (first | (refine vcIf.yes ?_ ?_; (focus (simp [smW hA4 hL4]; done)); cbv) | (refine vcIf.no ?_ ?_; (focus (simp [smW hA4 hL4]; done)); cbv))
  refine ⟨0, rfl, by decide, fun q hq => ?_⟩
  obtain rfl : q = 0 := hq
  cbv
  refine ⟨_, by rw [hx6]; rfl, ?_⟩
  cbv
  repeat (first | (refine vcIf.yes ?_ ?_; (focus (simp [smW hA4 hL4]; done)); cbv) | (refine vcIf.no ?_ ?_; (focus (simp [smW hA4 hL4]; done)); cbv))
  refine hq4 _ ?_
  cbv
  repeat (first | (refine vcIf.yes ?_ ?_; (focus (simp [smW hA4 hL4]; done)); cbv) | (refine vcIf.no ?_ ?_; (focus (simp [smW hA4 hL4]; done)); cbv))
  repeat (first | (refine vcIf.yes ?_ ?_; (focus (simp [smW hA hL]; done)); cbv) | (refine vcIf.no ?_ ?_; (focus (simp [smW hA hL]; done)); cbv))
  refine hcode _ _ _ (CodeEv.drawT eOk fOk (by kernel_rfl) (Xof 8 [0]) (.rd 0 (.rd 1 (.rd 2 (.rd 3 (.rd 4 (.rd 5 (.rd 6 (.rd 7 (.rd 8 (.rd 9 (.so 10 (.so 11 (.acts (.cons 12 (.so 13 (.so 14 (.so 15 (.acts (.cons 16 (.so 17 (.so 18 (.acts (.cons 19 (.so 20 (.so 21 (.acts (.cons 22 (.done) (.nil))))) (.nil))))) (.nil)))))) (.nil))))))))))))))) (by kernel_rfl) (by kernel_rfl) ?_)
  intro _ _ _ _ _ _ _ _ _ _ _ _ _ _ _ _ _ _ _ _ _ _ _ _ _ _ _ _ _ _ _ _ _ _ _ _ _ _ _ _ _ _ hq5
  cbv
  refine hq5 _ ?_
  cbv
  repeat (first | (refine vcIf.yes ?_ ?_; (focus (simp [smW hA hL]; done)); cbv) | (refine vcIf.no ?_ ?_; (focus (simp [smW hA hL]; done)); cbv))
  exact hret _ (RetEv.convW (ConvW.pack [0, 1, 2, 3, 4, 5, 6] hB rfl) (RetEv.ret eOk rfl ⟨rfl, rfl⟩))
theorem gTake_stale (g : Gq) (a : Int) (h : a ≠ g.qn ∨ g.wt = 0) (f e b c : Int) (bd : List PV) :
    FnL Tryz.prog 11 [.own 0 0, .p (msP 2 f 100 e a b c (.sl bd))] g.R fun v own => v = .p .nils ∧ own = g.R := by
  obtain ⟨c3, fr, hd, qn, wt, tk, dr, dO, dv, n1, n2, bg, n3, lo, hi, o4, n4, n5, n6, ep, sv, x1, x2, x3, x4, x5, x6⟩ := g
  simp only at h ⊢
  refine fn_of_vc eOk fOk fo11 Tryz.func11 rfl rfl rfl fun B hB => ?_
  intro _ _ _ _ _ _ _ _ _ _ _ _ _ _ _ _ _ _ _ _ _ _ _ _ _ _ sl _ _ _ _ _ _ _ _ _ _ _ _ _ hcode ret hret
  cbv
  refine hcode _ _ _ (CodeEv.drawT eOk fOk (by kernel_rfl) (Xof 8 []) (.so 0 (.so 1 (.so 2 (.rd 3 (.rd 4 (.so 5 (.so 6 (.so 7 (.so 8 (.so 9 (.so 10 (.done)))))))))))) (by kernel_rfl) (by kernel_rfl) ?_)
  intro _ _ _ _ _ _ _ _ _ _ _ _ _ _ _ _ _ _ _ _ _ _ _ hA2 _ _ _ _ _ _ _ _ _ _ hL2 _ _ _ _ _ _ _ hq2
  cbv
  refine hq2 _ ?_
  cbv
  refine vcIf.no (by first | (simp [smW hA2 hL2]; done) | (simp [smW hA2 hL2]; omega)) ?_
  cbv
  refine hcode _ _ _ (CodeEv.drawT eOk fOk (by kernel_rfl) (Xof 8 []) (.so 0 (.so 1 (.so 2 (.so 3 (.rd 4 (.rd 5 (.so 6 (.so 7 (.so 8 (.so 9 (.so 10 (.so 11 (.done))))))))))))) (by kernel_rfl) (by kernel_rfl) ?_)
  intro _ _ _ _ _ _ _ _ _ _ _ _ _ _ _ _ _ _ _ _ _ _ _ hA3 _ _ _ _ _ _ _ _ _ _ hL3 _ _ _ _ _ _ _ hq3
  cbv
  repeat (first | (refine vcIf.yes ?_ ?_; (focus (simp [smW hA3 hL3]; done)); cbv) | (refine vcIf.no ?_ ?_; (focus (simp [smW hA3 hL3]; done)); cbv))
  refine hq3 _ ?_
  cbv
  repeat (first | (refine vcIf.yes ?_ ?_; (focus (simp [smW hA3 hL3]; done)); cbv) | (refine vcIf.no ?_ ?_; (focus (simp [smW hA3 hL3]; done)); cbv))
  refine hcode _ _ _ (CodeEv.drawT eOk fOk (by kernel_rfl) (Xof 8 []) (.so 0 (.so 1 (.so 2 (.so 3 (.rd 4 (.rd 5 (.so 6 (.so 7 (.so 8 (.so 9 (.so 10 (.so 11 (.so 12 (.so 13 (.so 14 (.so 15 (.so 16 (.so 17 (.so 18 (.so 19 (.rd 20 (.rd 21 (.so 22 (.so 23 (.so 24 (.so 25 (.so 26 (.so 27 (.so 28 (.so 29 (.so 30 (.done)))))))))))))))))))))))))))))))) (by kernel_rfl) (by kernel_rfl) ?_)
  intro _ _ _ _ _ _ _ _ _ _ _ _ _ _ _ _ _ _ _ _ _ _ _ hA4 _ _ _ _ _ _ _ _ _ _ hL4 _ _ _ _ _ _ _ hq4
  cbv
  by_cases ha : a = qn
  · have hw : wt = 0 := h.resolve_left (fun c => c ha)
    repeat (first | (refine vcIf.yes ?_ ?_; (focus (simp [smW hA4 hL4, ha, hw]; done)); cbv) | (refine vcIf.no ?_ ?_; (focus (simp [smW hA4 hL4, ha, hw]; done)); cbv))
    refine hq4 _ ?_
    cbv
    repeat (first | (refine vcIf.yes ?_ ?_; (focus (simp [smW hA4 hL4, ha, hw]; done)); cbv) | (refine vcIf.no ?_ ?_; (focus (simp [smW hA4 hL4, ha, hw]; done)); cbv))
    exact hret _ (RetEv.convW (ConvW.pack [0, 1, 2, 3, 4, 5, 6] hB rfl) (RetEv.ret eOk rfl ⟨rfl, rfl⟩))
  · repeat (first | (refine vcIf.yes ?_ ?_; (focus (simp [smW hA4 hL4, ha]; done)); cbv) | (refine vcIf.no ?_ ?_; (focus (simp [smW hA4 hL4, ha]; done)); cbv))
    refine hq4 _ ?_
    cbv
    repeat (first | (refine vcIf.yes ?_ ?_; (focus (simp [smW hA4 hL4, ha]; done)); cbv) | (refine vcIf.no ?_ ?_; (focus (simp [smW hA4 hL4, ha]; done)); cbv))
    exact hret _ (RetEv.convW (ConvW.pack [0, 1, 2, 3, 4, 5, 6] hB rfl) (RetEv.ret eOk rfl ⟨rfl, rfl⟩))
theorem gTakeC_spec (g : Gq) (hw : g.wt = 3) (hn6 : g.n6 = 1) {e0 tg : Int} {b0 c0 : Int} {bd0 : PV} (hx6 : g.x6 = [msP 1 100 tg e0 g.qn b0 c0 bd0]) (e b c : Int) :
    FnL Tryz.prog 11 [.own 0 0, .p (msP 2 tg 100 e g.qn b c (.sl []))] g.R fun v own => v = .p .nils ∧ own = ({ g with wt := 0, dO := b, dv := c } : Gq).R := by
  obtain ⟨c3, fr, hd, qn, wt, tk, dr, dO, dv, n1, n2, bg, n3, lo, hi, o4, n4, n5, n6, ep, sv, x1, x2, x3, x4, x5, x6⟩ := g
  simp only at hw hn6 hx6 ⊢
  subst hw hn6
  refine fn_of_vc eOk fOk fo11 Tryz.func11 rfl rfl rfl fun B hB => ?_
  intro _ _ _ _ _ _ _ _ _ _ _ _ _ _ _ _ _ _ _ _ _ _ _ hA _ _ sl _ _ _ _ _ _ _ hL _ _ _ _ _ hcode ret hret
  cbv
  refine hcode _ _ _ (CodeEv.drawT eOk fOk (by kernel_rfl) (Xof 8 []) (.so 0 (.so 1 (.so 2 (.rd 3 (.rd 4 (.so 5 (.so 6 (.so 7 (.so 8 (.so 9 (.so 10 (.done)))))))))))) (by kernel_rfl) (by kernel_rfl) ?_)
  intro _ _ _ _ _ _ _ _ _ _ _ _ _ _ _ _ _ _ _ _ _ _ _ hA2 _ _ _ _ _ _ _ _ _ _ hL2 _ _ _ _ _ _ _ hq2
  cbv
  refine hq2 _ ?_
  cbv
  refine vcIf.no (by first | (simp [smW hA2 hL2]; done) | (simp [smW hA2 hL2]; omega)) ?_
  cbv
  refine hcode _ _ _ (CodeEv.drawT eOk fOk (by kernel_rfl) (Xof 8 []) (.so 0 (.so 1 (.so 2 (.so 3 (.rd 4 (.rd 5 (.so 6 (.so 7 (.so 8 (.so 9 (.so 10 (.so 11 (.done))))))))))))) (by kernel_rfl) (by kernel_rfl) ?_)
  intro _ _ _ _ _ _ _ _ _ _ _ _ _ _ _ _ _ _ _ _ _ _ _ hA3 _ _ _ _ _ _ _ _ _ _ hL3 _ _ _ _ _ _ _ hq3
  cbv
  repeat (first | (refine vcIf.yes ?_ ?_; (focus (simp [smW hA3 hL3]; done)); cbv) | (refine vcIf.no ?_ ?_; (focus (simp [smW hA3 hL3]; done)); cbv))
  refine hq3 _ ?_
  cbv
  repeat (first | (refine vcIf.yes ?_ ?_; (focus (simp [smW hA3 hL3]; done)); cbv) | (refine vcIf.no ?_ ?_; (focus (simp [smW hA3 hL3]; done)); cbv))
  refine hcode _ _ _ (CodeEv.drawT eOk fOk (by kernel_rfl) (Xof 8 []) (.so 0 (.so 1 (.so 2 (.so 3 (.rd 4 (.rd 5 (.so 6 (.so 7 (.so 8 (.so 9 (.so 10 (.so 11 (.so 12 (.so 13 (.so 14 (.so 15 (.so 16 (.so 17 (.so 18 (.so 19 (.rd 20 (.rd 21 (.so 22 (.so 23 (.so 24 (.so 25 (.so 26 (.so 27 (.so 28 (.so 29 (.so 30 (.done)))))))))))))))))))))))))))))))) (by kernel_rfl) (by kernel_rfl) ?_)
  intro _ _ _ _ _ _ _ _ _ _ _ _ _ _ _ _ _ _ _ _ _ _ _ hA4 _ _ _ _ _ _ _ _ _ _ hL4 _ _ _ _ _ _ _ hq4
  cbv
  repeat (first | (refine vcIf.yes ?_ ?_; (focus (simp [smW hA4 hL4]; done)); cbv) | (refine vcIf.no ?_ ?_; (focus (simp [smW hA4 hL4]; done)); cbv))
  refine ⟨0, rfl, by decide, fun q hq => ?_⟩
  obtain rfl : q = 0 := hq
  cbv
  refine ⟨_, by rw [hx6]; rfl, ?_⟩
  cbv
  repeat (first | (refine vcIf.yes ?_ ?_; (focus (simp [smW hA4 hL4]; done)); cbv) | (refine vcIf.no ?_ ?_; (focus (simp [smW hA4 hL4]; done)); cbv))
  refine hq4 _ ?_
  cbv
  repeat (first | (refine vcIf.yes ?_ ?_; (focus (simp [smW hA4 hL4]; done)); cbv) | (refine vcIf.no ?_ ?_; (focus (simp [smW hA4 hL4]; done)); cbv))
  repeat (first | (refine vcIf.yes ?_ ?_; (focus (simp [smW hA hL]; done)); cbv) | (refine vcIf.no ?_ ?_; (focus (simp [smW hA hL]; done)); cbv))
  refine hcode _ _ _ (CodeEv.drawT eOk fOk (by kernel_rfl) (Xof 8 [0]) (.rd 0 (.rd 1 (.rd 2 (.rd 3 (.rd 4 (.rd 5 (.so 6 (.so 7 (.so 8 (.acts (.cons 9 (.so 10 (.so 11 (.so 12 (.acts (.cons 13 (.done) (.nil)))))) (.nil)))))))))))) (by kernel_rfl) (by kernel_rfl) ?_)
  intro _ _ _ _ _ _ _ _ _ _ _ _ _ _ _ _ _ _ _ _ _ _ _ _ _ _ _ _ _ _ _ _ _ _ _ _ _ _ _ _ _ _ hq5
  cbv
  refine hq5 _ ?_
  cbv
  exact hret _ (RetEv.convW (ConvW.pack [0, 1, 2, 3, 4, 5, 6] hB rfl) (RetEv.ret eOk rfl ⟨rfl, rfl⟩))
end Go.Proofs.YtegkojnngdlfaaaGreat
end
section
namespace Go.Proofs.YtegkojnngdlfaaaGreat
open Go Go.Lx
open Go.Sx (vcIf)
def prB (L : List Pr) : List UInt8 := enc L.length ++ L.flatMap fun p => encts [p.key, p.val]
def prT (L : List Pr) : List UInt8 := L.flatMap fun p => encts [p.key, p.val]
theorem prT_cons (p : Pr) (L : List Pr) : prT (p :: L) = enct p.key ++ (enct p.val ++ prT L) := by
  unfold prT encts; simp
theorem prT_drop (L : List Pr) (j : Nat) : (prT (L.drop j)).length ≤ (prT L).length := by
  have h : prT L = prT (L.take j) ++ prT (L.drop j) := by
    unfold prT; rw [← List.flatMap_append, List.take_append_drop]
  rw [h, List.length_append]; omega
theorem drop_get {α : Type} {l : List α} {j : Nat} {x : α} (h : l[j]? = some x) : l.drop j = x :: l.drop (j + 1) := by
  obtain ⟨hlt, he⟩ := List.getElem?_eq_some_iff.1 h
  rw [List.drop_eq_getElem_cons hlt, he]
theorem txt_spec (s r : List UInt8) (hs : s.length ≤ 65536) (hl : (enct s ++ r).length < 1000000000) (ys : List PV) (hys : ys = bP (enct s ++ r)) :
    FnL Tryz.prog 60 [.own 0 0] [rdSt ys 0] fun z own => ∃ zs, zs = bP r ∧ z = .p (.str s) ∧ own = [rdSt zs 0] := by
  refine (rdText_spec (enct s ++ r) (by omega) 0 ys hys).mono ?_
  rintro _ _ ⟨s', l', e', zs, h1, h2, rfl, rfl⟩
  rw [rdT_enc s hs r] at h1
  cases h1
  exact ⟨zs, h2, rfl, rfl⟩
theorem cnt_spec (L : List Pr) (hL : L.length ≤ 100) (bd : List PV) (hbd : bd = bP (prB L)) :
    FnL Tryz.prog 58 [.own 0 0, .p (.int .i64 4096)] [rdSt bd 0] fun z own => ∃ zs, zs = bP (prT L) ∧ z = .p (.int .i64 (Int.ofNat L.length)) ∧ own = [rdSt zs 0] := by
  refine (rdCount_spec (prB L) 0 bd hbd 4096).mono ?_
  rintro _ _ ⟨n, l', e', zs, h1, h2, rfl, rfl⟩
  have hcnt : rdC (prB L) 0 4096 = (L.length, prT L, 0) := by
    have h1 : rdN (prB L) 0 = (L.length, prT L, 0) := rdN_enc L.length (by omega) (prT L)
    unfold rdC
    rw [h1, if_neg (by simp only; omega)]
  rw [hcnt] at h1
  cases h1
  exact ⟨zs, h2, rfl, rfl⟩
abbrev prO (c3 fr hd qn tk dr dO dv : Int) (n1 n2 : Nat) (bg : Bool) (n3 : Nat) (lo hi : List UInt8) (o4 n4 n5 n6 : Nat) (ep sv : Int) (x1 x2 x3 x4 x5 x6 : List PV) (k f t e a c : Int) (bd ys : List PV) : List Res :=
  (Gq.mk c3 fr hd qn 2 tk dr dO dv n1 n2 bg n3 lo hi o4 n4 n5 n6 ep sv x1 x2 x3 x4 x5 x6).R ++ [.st 28 [.p (.int .i64 k), .p (.int .i64 f), .p (.int .i64 t), .p (.int .i64 e), .p (.int .i64 a), .p (.int .i64 0), .p (.int .i64 c), .p (.sl bd)], rdSt ys 0]
def Gq.got (g : Gq) (p4 m4 m5 : Nat) (y5 : List PV) : Gq := { g with wt := 0, o4 := p4, n4 := m4, n5 := m5, x5 := y5 }
def prR (g : Gq) (L ps0 : List Pr) (l : List Chg) (qm : Int) (v : V) (own : List Res) : Prop :=
  (g.n4 = 1 ∧ v = .p .nils ∧ ∃ m1 m3 p4 m4 m5 y1 y3 us y5, us = prP (ones (ps0 ++ L) (cutL ⟨g.lo, g.hi⟩ l)) ∧ m1 = g.n1 + 1 ∧ m3 = g.n3 + 1 ∧ y1 = g.x1 ++ [.agg [.str g.lo, .str g.hi, .int .i64 (Int.ofNat g.n2), .sl us]] ∧ y3 = g.x3 ++ [.agg [.str g.lo, .str g.hi]] ∧ own = ((g.got p4 m4 m5 y5).saw m1 m3 y1 y3).R) ∨
  (∃ s0 zs bd2 p4 m4 m5 y5, p4 = g.o4 + 1 ∧ m4 = g.n4 - 1 ∧ 2 ≤ g.n4 ∧ g.x4[p4]? = some (.int .i64 s0) ∧ y5 = g.x5 ++ prP L ∧ m5 = g.n5 + L.length ∧ bd2 = bP (encts [g.lo, g.hi]) ∧ zs = [msP 1 100 s0 g.ep qm 4 g.dr (.sl bd2)] ∧ v = .p (.sl zs) ∧ own = ((g.got p4 m4 m5 y5).sent 2 qm zs).R)
theorem gPairs_spec (g : Gq) (hw : g.wt = 2) (L : List Pr) (hL : L.length ≤ 50) (hLf : ∀ p ∈ L, p.key.length ≤ 65536 ∧ p.val.length ≤ 65536) (bd : List PV) (hbd : bd = bP (prB L)) (hlen : (prB L).length < 1000000000) (k f t e a c : Int) (hn5 : g.n5 = g.x5.length)
    (ps0 : List Pr) (hx5 : g.x5 = prP ps0) (hp0 : ps0.length ≤ 50) (hps : g.n4 = 1 → Srt (ps0 ++ L)) (hsn : g.n4 = 1 → sndP (ps0 ++ L) = true) (hpf : ∀ p ∈ ps0 ++ L, p.fit)
    (hn4 : 1 ≤ g.n4) (hx4 : g.x4.length = g.o4 + g.n4) (hnx : 2 ≤ g.n4 → ∃ s0 : Int, g.x4[g.o4 + 1]? = some (.int .i64 s0))
    (hqn : 0 ≤ g.qn ∧ g.qn < 9223372036854775807) {qm : Int} (hqm : qm = g.qn + 1) (hlo : g.lo.length ≤ 17) (hhi : g.hi.length ≤ 17)
    (l : List Chg) (hx2 : g.x2 = cP l) (hn2 : g.n2 = l.length) (hl : l.length ≤ 48) (hlf : ∀ c ∈ l, c.fit) (hck : chks l = 0) (hn1 : g.n1 = g.x1.length) (hn1b : g.n1 ≤ 30) (hn3 : g.n3 = g.x3.length) (hn3b : g.n3 ≤ 30) :
    FnL Tryz.prog 32 [.own 0 0, .p (msP k f t e a 0 c (.sl bd))] g.R (prR g L ps0 l qm) := by
  obtain ⟨RR, hRR⟩ : ∃ RR, RR = prR g L ps0 l qm := ⟨_, rfl⟩
  rw [← hRR]
  have hn5b : g.n5 ≤ 50 := by rw [hn5, hx5, prP_length]; exact hp0
  obtain ⟨c3, fr, hd, qn, wt, tk, dr, dO, dv, n1, n2, bg, n3, lo, hi, o4, n4, n5, n6, ep, sv, x1, x2, x3, x4, x5, x6⟩ := g
  simp only at hw hn5 hx5 hps hsn hn4 hx4 hnx hqn hqm hlo hhi hx2 hn2 hn1 hn1b hn3 hn3b hn5b ⊢
  subst hw
  have hct := cnt_spec L (by omega) bd hbd
  obtain ⟨N, hN⟩ : ∃ N, N = L.length := ⟨_, rfl⟩
  rw [← hN] at hct
  refine fn_of_vc eOk fOk fo32 Tryz.func32 rfl rfl rfl fun B hB => ?_
  intro _ sub _ _ _ _ _ _ _ _ _ _ _ _ _ _ _ _ _ _ _ _ _ hA _ _ sl _ _ _ _ _ _ _ hL _ _ _ hcall _ hcode ret hret
  cbv
  repeat (first | (refine vcIf.yes ?_ ?_; (focus (simp [smW hA hL]; done)); cbv) | (refine vcIf.no ?_ ?_; (focus (simp [smW hA hL]; done)); cbv))
  refine hcall _ _ _ _ _ (CallEv.same (newReader_spec bd) rfl ?_)
  rintro _ _ ⟨rfl, rfl⟩
  cbv
  refine hcall _ _ _ _ _ (CallEv.lend [8] hct rfl (.cons (.own 0 8 0 rfl) (.cons (.p _) .nil)) (rdL rfl) ?_)
  rintro _ _ ⟨zs1, hz1, rfl, rfl⟩
  cbv
  refine hcode _ _ _ (CodeEv.loop eOk fOk (ι := Nat × List PV × List PV × Nat × Nat) (fun q => [(0, .own 0 0), (5, .own 8 0), (6, .p (.int .i64 (Int.ofNat q.2.2.2.2)))])
    (fun q => prO c3 fr hd qn tk dr dO dv n1 n2 bg n3 lo hi o4 n4 q.2.2.2.1 n6 ep sv x1 x2 x3 x4 q.2.2.1 x6 k f t e a c bd q.2.1) (fun q => q.1 ≤ N ∧ q.2.1 = bP (prT (L.drop q.1)) ∧ q.2.2.1 = x5 ++ prP (L.take q.1) ∧ q.2.2.2.1 = n5 + q.1 ∧ q.2.2.2.2 + q.1 = N) (fun q => N - q.1) (0, zs1, x5, n5, N) ?_ ?_)
  · exact ⟨(by repeat (first | exact trivial | refine And.intro rfl ?_)), rfl, Nat.zero_le _, hz1, by simp [prP], rfl, rfl⟩
  rintro ⟨j, ys, x5', n5', r⟩ ⟨h1, h2, h3, h4, h5⟩ rd hrd
  simp only at h1 h2 h3 h4 h5
  have her := rdError_spec ys 0
  by_cases hj : j < N
  · refine Exists.elim (get_of_lt (show j < L.length by omega)) fun p hp => ?_
    have hpm := hLf p (List.mem_of_getElem? hp)
    have hdr := drop_get hp
    have htk : L.take (j + 1) = L.take j ++ [p] := by rw [List.take_add_one, hp]; rfl
    rw [hdr, prT_cons] at h2
    have hlen2 := prT_drop L j
    rw [hdr, prT_cons] at hlen2
    have hlen3 : (prB L).length = (enc L.length).length + (prT L).length := by unfold prB prT; rw [List.length_append]
    obtain ⟨pk, pv⟩ := p
    simp only at hpm h2 hlen2
    have htx1 := txt_spec pk (enct pv ++ prT (L.drop (j + 1))) hpm.1 (by omega) ys h2
    have htx2 := fun zs hz => txt_spec pv (prT (L.drop (j + 1))) hpm.2 (by rw [List.length_append] at hlen2; omega) zs hz
    intro _ sub1 _ _ _ _ _ _ _ _ _ _ _ _ _ _ _ _ _ _ _ _ _ hA1 _ _ _ _ _ _ _ _ _ _ hL1 _ _ _ hcall1 _ hcode1
    have hsub1 : sub1 .i64 (Int.ofNat r) 1 = Int.ofNat (r - 1) := by rw [hA1.sub, IntWalk.i64_in _ (by simp only [Int.ofNat_eq_natCast]; omega)]; simp only [Int.ofNat_eq_natCast]; omega
    have hx5n : n5' = x5'.length := by rw [h3, h4, List.length_append, prP_length, List.length_take, hn5]; omega
    obtain ⟨r', hr'⟩ : ∃ r', r' = r - 1 := ⟨_, rfl⟩
    rw [← hr'] at hsub1
    cbv
    refine vcIf.yes (by rw [hA1.lt]; exact decide_eq_true (by show (0 : Int) < (r : Int); omega)) ?_
    cbv
    refine hcall1 _ _ _ _ _ (CallEv.lend [8] her rfl (.cons (.own 0 8 0 rfl) .nil) (rdL rfl) ?_)
    rintro _ _ ⟨rfl, rfl⟩
    cbv
    refine vcIf.yes (by rw [hA1.cond, hA1.eq]; rfl) ?_
    cbv
    refine hcode1 _ _ _ (CodeEv.thru (κ := List PV × List PV × Nat) (fun o => [(0, .own 0 0), (5, .own 8 0), (6, .p (.int .i64 (Int.ofNat r)))])
      (fun o => prO c3 fr hd qn tk dr dO dv n1 n2 bg n3 lo hi o4 n4 o.2.2 n6 ep sv x1 x2 x3 x4 o.2.1 x6 k f t e a c bd o.1) (fun o => o.1 = bP (prT (L.drop (j + 1))) ∧ o.2.1 = x5' ++ [.agg [.str pk, .str pv]] ∧ o.2.2 = n5' + 1) ?_ ?_)
    · refine CodeEv.drawT eOk fOk (by kernel_rfl) (Xof 9 [0, 5, 8]) (.rd 0 (.rd 1 (.rd 2 (.rd 3 (.rd 5 (.rd 7 (.acts (.cons 4 (.acts (.cons 6 (.acts (.cons 8 (.so 9 (.acts (.cons 10 (.acts (.cons 11 (.so 12 (.so 13 (.acts (.cons 14 (.done) (.nil))))) (.nil))) (.nil)))) (.nil))) (.nil))) (.cons 6 (.acts (.cons 4 (.acts (.cons 8 (.so 9 (.acts (.cons 10 (.acts (.cons 11 (.so 12 (.so 13 (.acts (.cons 14 (.done) (.nil))))) (.nil))) (.nil)))) (.nil))) (.cons 8 (.rd 9 (.acts (.cons 4 (.acts (.cons 10 (.acts (.cons 11 (.so 12 (.so 13 (.acts (.cons 14 (.done) (.nil))))) (.nil))) (.nil))) (.cons 10 (.so 4 (.acts (.cons 11 (.so 12 (.so 13 (.acts (.cons 14 (.done) (.nil))))) (.nil)))) (.nil))))) (.nil)))) (.nil)))))))))) (by kernel_rfl) (by kernel_rfl) ?_
      intro _ _ _ _ _ _ _ _ _ _ _ _ _ _ _ _ _ _ _ _ _ _ _ _ _ _ _ _ _ _ _ _ _ _ _ _ _ _ hcall2 _ _ q2 hq2
      cbv
      refine ⟨?_, ?_⟩
      · refine hcall2 _ _ _ _ _ (CallEv.lend [8] htx1 rfl (.cons (.own 0 8 0 rfl) .nil) (rdL rfl) ?_)
        rintro _ _ ⟨z1, hz1, rfl, rfl⟩
        have htx2 := htx2 z1 hz1
        cbv
        refine hcall2 _ _ _ _ _ (CallEv.lend [8] htx2 rfl (.cons (.own 0 8 0 rfl) .nil) (rdL rfl) ?_)
        rintro _ _ ⟨z2, hz2, rfl, rfl⟩
        cbv
        refine ⟨false, ?_⟩
        cbv
        refine .inl ⟨(), rfl, hx5n, Wf.one ⟨rfl, by simp [PV.cells, PV.one]⟩, ?_, ?_, ?_⟩
        · show n5' + 1 ≤ maxLen
          unfold maxLen; omega
        · show (n5' + 1) * 32 ≤ _
          omega
        intro x5'' n5'' hx hn
        cbv
        exact hq2 _ (OutX.thru ⟨(z2, x5'', n5''), _, ⟨hz2, hx, hn⟩, rfl, (by repeat (first | exact trivial | refine And.intro rfl ?_)), rfl, rfl, rfl, by rw [hB]; exact Nat.le_of_ble_eq_true rfl⟩)
      · refine hcall2 _ _ _ _ _ (CallEv.lend [8] htx1 rfl (.cons (.own 0 8 0 rfl) .nil) (rdL rfl) ?_)
        rintro _ _ ⟨z1, hz1, rfl, rfl⟩
        have htx2 := htx2 z1 hz1
        cbv
        refine ⟨?_, ?_⟩
        · refine hcall2 _ _ _ _ _ (CallEv.lend [8] htx2 rfl (.cons (.own 0 8 0 rfl) .nil) (rdL rfl) ?_)
          rintro _ _ ⟨z2, hz2, rfl, rfl⟩
          cbv
          refine ⟨false, ?_⟩
          cbv
          refine .inl ⟨(), rfl, hx5n, Wf.one ⟨rfl, by simp [PV.cells, PV.one]⟩, ?_, ?_, ?_⟩
          · show n5' + 1 ≤ maxLen
            unfold maxLen; omega
          · show (n5' + 1) * 32 ≤ _
            omega
          intro x5'' n5'' hx hn
          cbv
          exact hq2 _ (OutX.thru ⟨(z2, x5'', n5''), _, ⟨hz2, hx, hn⟩, rfl, (by repeat (first | exact trivial | refine And.intro rfl ?_)), rfl, rfl, rfl, by rw [hB]; exact Nat.le_of_ble_eq_true rfl⟩)
        · refine hcall2 _ _ _ _ _ (CallEv.lend [8] htx2 rfl (.cons (.own 0 8 0 rfl) .nil) (rdL rfl) ?_)
          rintro _ _ ⟨z2, hz2, rfl, rfl⟩
          cbv
          refine ⟨?_, ?_⟩
          · refine ⟨false, ?_⟩
            cbv
            refine .inl ⟨(), rfl, hx5n, Wf.one ⟨rfl, by simp [PV.cells, PV.one]⟩, ?_, ?_, ?_⟩
            · show n5' + 1 ≤ maxLen
              unfold maxLen; omega
            · show (n5' + 1) * 32 ≤ _
              omega
            intro x5'' n5'' hx hn
            cbv
            exact hq2 _ (OutX.thru ⟨(z2, x5'', n5''), _, ⟨hz2, hx, hn⟩, rfl, (by repeat (first | exact trivial | refine And.intro rfl ?_)), rfl, rfl, rfl, by rw [hB]; exact Nat.le_of_ble_eq_true rfl⟩)
          · refine ⟨false, ?_⟩
            cbv
            refine .inl ⟨(), rfl, hx5n, Wf.one ⟨rfl, by simp [PV.cells, PV.one]⟩, ?_, ?_, ?_⟩
            · show n5' + 1 ≤ maxLen
              unfold maxLen; omega
            · show (n5' + 1) * 32 ≤ _
              omega
            intro x5'' n5'' hx hn
            cbv
            exact hq2 _ (OutX.thru ⟨(z2, x5'', n5''), _, ⟨hz2, hx, hn⟩, rfl, (by repeat (first | exact trivial | refine And.intro rfl ?_)), rfl, rfl, rfl, by rw [hB]; exact Nat.le_of_ble_eq_true rfl⟩)
    rintro ⟨ys2, x5'', n5''⟩ ⟨k1, k2, k3⟩
    simp only at k1 k2 k3
    cbv
    rw [hsub1]
    refine hrd _ ⟨(j + 1, ys2, x5'', n5'', r'), _, ?_, ⟨hj, k1, ?_, ?_, ?_⟩, rfl, (by repeat (first | exact trivial | refine And.intro rfl ?_)), rfl, rfl, rfl, ?_⟩
    · simp only; omega
    · simp only; rw [k2, h3, htk]; unfold prP; rw [List.map_append]; simp [Pr.v]
    · simp only; omega
    · simp only; omega
    · rw [hB]; exact Nat.le_of_ble_eq_true rfl
  · obtain rfl : r = 0 := by omega
    have hjN : j = N := by omega
    rw [List.take_of_length_le (by omega)] at h3
    obtain ⟨m4, hm4⟩ : ∃ m4, m4 = n4 - 1 := ⟨_, rfl⟩
    obtain ⟨p4, hp4⟩ : ∃ p4, p4 = o4 + 1 := ⟨_, rfl⟩
    intro _ sub1 _ _ _ _ _ _ _ _ _ _ _ _ _ _ _ _ _ _ _ _ _ hA1 _ _ _ _ _ _ _ _ _ _ hL1 _ _ _ hcall1 _ hcode1
    cbv
    refine vcIf.no (by rw [hA1.lt]; rfl) ?_
    cbv
    repeat (first | (refine vcIf.yes ?_ ?_; (focus (simp [smW hA1 hL1]; done)); cbv) | (refine vcIf.no ?_ ?_; (focus (simp [smW hA1 hL1]; done)); cbv))
    refine hcode _ _ _ (CodeEv.drawA eOk fOk (by kernel_rfl) (Xof 9 [0]) (by kernel_rfl) (by kernel_rfl) (by kernel_rfl) ?_)
    intro _ _ _ _ _ _ _ _ _ _ _ _ _ _ _ _ _ _ _ _ _ _ _ _ _ _ _ _ _ _ _ _ _ _ _ _ _ _ _ _ _ q3 hq3
    cbv
    refine ⟨1, n4, rfl, rfl, hn4, Nat.le_of_eq hx4.symm, (fun c hc => by cases hc), fun o' n' ho hn => ?_⟩
    obtain rfl : p4 = o' := hp4.trans ho.symm
    obtain rfl : m4 = n' := hm4.trans hn.symm
    cbv
    refine hq3 _ ?_
    cbv
    by_cases hm0 : m4 = 0
    · have hn41 : n4 = 1 := by omega
      have hsw := gSawF_spec ⟨c3, fr, hd, qn, 0, tk, dr, dO, dv, n1, n2, bg, n3, lo, hi, p4, m4, n5', n6, ep, sv, x1, x2, x3, x4, x5', x6⟩ (ps0 ++ L) (hps hn41) (hsn hn41) hpf (by rw [List.length_append]; omega) (by show x5' = _; rw [h3, hx5]; unfold prP; rw [List.map_append]) (by show n5' = _; rw [h4, hjN, hN, List.length_append, hn5, hx5, prP_length]) hlo hhi l hx2 hn2 hl hlf hck hn1 hn1b hn3 hn3b
      refine vcIf.no (by rw [hA.lt, hA.ofNat]; exact decide_eq_false (by omega)) ?_
      cbv
      refine hcall _ _ _ _ _ (CallEv.lend [0, 1, 2, 3, 4, 5, 6] hsw rfl (.cons (.own 0 0 0 rfl) (.cons (.vw 5 5 2 0 n5' none rfl) .nil)) (gqT rfl rfl rfl rfl rfl rfl rfl rfl rfl rfl rfl rfl rfl) ?_)
      rintro _ _ ⟨m1, m3, y1, y3, us, q1, q2, q3, q4, q5, rfl⟩
      cbv
      exact hret _ (RetEv.convW (ConvW.pack [0, 1, 2, 3, 4, 5, 6] hB rfl) (RetEv.ret eOk rfl (by rw [hRR]; exact .inl ⟨hn41, rfl, m1, m3, p4, m4, n5', y1, y3, us, x5', q1, q2, q3, q4, q5, rfl⟩)))
    · have hn42 : 2 ≤ n4 := by omega
      refine Exists.elim (hnx hn42) fun s0 hs0 => ?_
      rw [← hp4] at hs0
      have has := gAskShelf_spec ⟨c3, fr, hd, qn, 0, tk, dr, dO, dv, n1, n2, bg, n3, lo, hi, p4, m4, n5', n6, ep, sv, x1, x2, x3, x4, x5', x6⟩ hqn hqm (show lo.length ≤ 65536 by omega) (show hi.length ≤ 65536 by omega) (show 0 < m4 by omega) (s := s0) hs0
      refine vcIf.yes (by rw [hA.lt, hA.ofNat]; exact decide_eq_true (by omega)) ?_
      cbv
      refine hcall _ _ _ _ _ (CallEv.lend [0, 1, 2, 3, 4, 5, 6] has rfl (.cons (.own 0 0 0 rfl) .nil) (gqT rfl rfl rfl rfl rfl rfl rfl rfl rfl rfl rfl rfl rfl) ?_)
      rintro _ _ ⟨zs, bd2, q1, q2, rfl, rfl⟩
      cbv
      exact hret _ (RetEv.convW (ConvW.pack [0, 1, 2, 3, 4, 5, 6] hB rfl) (RetEv.ret eOk rfl (by rw [hRR]; exact .inr ⟨s0, zs, bd2, p4, m4, n5', x5', hp4, hm4, hn42, hs0, h3, by rw [h4, hjN, hN], q1, q2, rfl, rfl⟩)))
theorem gTakeP_spec (g : Gq) (hw : g.wt = 2) (hn6 : g.n6 = 1) {e0 tg : Int} {b0 c0 : Int} {bd0 : PV} (hx6 : g.x6 = [msP 1 100 tg e0 g.qn b0 c0 bd0]) (e c : Int) (bd : List PV) {R : V → List Res → Prop}
    (hpa : FnL Tryz.prog 32 [.own 0 0, .p (msP 2 tg 100 e g.qn 0 c (.sl bd))] g.R R) (hR : ∀ v own, R v own → (∃ x, v = .p x) ∧ ∃ g' : Gq, own = g'.R) :
    FnL Tryz.prog 11 [.own 0 0, .p (msP 2 tg 100 e g.qn 0 c (.sl bd))] g.R R := by
  obtain ⟨c3, fr, hd, qn, wt, tk, dr, dO, dv, n1, n2, bg, n3, lo, hi, o4, n4, n5, n6, ep, sv, x1, x2, x3, x4, x5, x6⟩ := g
  simp only at hw hn6 hx6 ⊢
  subst hw hn6
  refine fn_of_vc eOk fOk fo11 Tryz.func11 rfl rfl rfl fun B hB => ?_
  intro _ _ _ _ _ _ _ _ _ _ _ _ _ _ _ _ _ _ _ _ _ _ _ hA _ _ sl _ _ _ _ _ _ _ hL _ _ _ hcall _ hcode ret hret
  cbv
  refine hcode _ _ _ (CodeEv.drawT eOk fOk (by kernel_rfl) (Xof 8 []) (.so 0 (.so 1 (.so 2 (.rd 3 (.rd 4 (.so 5 (.so 6 (.so 7 (.so 8 (.so 9 (.so 10 (.done)))))))))))) (by kernel_rfl) (by kernel_rfl) ?_)
  intro _ _ _ _ _ _ _ _ _ _ _ _ _ _ _ _ _ _ _ _ _ _ _ hA2 _ _ _ _ _ _ _ _ _ _ hL2 _ _ _ _ _ _ _ hq2
  cbv
  refine hq2 _ ?_
  cbv
  refine vcIf.no (by first | (simp [smW hA2 hL2]; done) | (simp [smW hA2 hL2]; omega)) ?_
  cbv
  refine hcode _ _ _ (CodeEv.drawT eOk fOk (by kernel_rfl) (Xof 8 []) (.so 0 (.so 1 (.so 2 (.so 3 (.rd 4 (.rd 5 (.so 6 (.so 7 (.so 8 (.so 9 (.so 10 (.so 11 (.done))))))))))))) (by kernel_rfl) (by kernel_rfl) ?_)
  intro _ _ _ _ _ _ _ _ _ _ _ _ _ _ _ _ _ _ _ _ _ _ _ hA3 _ _ _ _ _ _ _ _ _ _ hL3 _ _ _ _ _ _ _ hq3
  cbv
  repeat (first | (refine vcIf.yes ?_ ?_; (focus (simp [smW hA3 hL3]; done)); cbv) | (refine vcIf.no ?_ ?_; (focus (simp [smW hA3 hL3]; done)); cbv))
  refine hq3 _ ?_
  cbv
  repeat (first | (refine vcIf.yes ?_ ?_; (focus (simp [smW hA3 hL3]; done)); cbv) | (refine vcIf.no ?_ ?_; (focus (simp [smW hA3 hL3]; done)); cbv))
  refine hcode _ _ _ (CodeEv.drawT eOk fOk (by kernel_rfl) (Xof 8 []) (.so 0 (.so 1 (.so 2 (.so 3 (.rd 4 (.rd 5 (.so 6 (.so 7 (.so 8 (.so 9 (.so 10 (.so 11 (.so 12 (.so 13 (.so 14 (.so 15 (.so 16 (.so 17 (.so 18 (.so 19 (.rd 20 (.rd 21 (.so 22 (.so 23 (.so 24 (.so 25 (.so 26 (.so 27 (.so 28 (.so 29 (.so 30 (.done)))))))))))))))))))))))))))))))) (by kernel_rfl) (by kernel_rfl) ?_)
  intro _ _ _ _ _ _ _ _ _ _ _ _ _ _ _ _ _ _ _ _ _ _ _ hA4 _ _ _ _ _ _ _ _ _ _ hL4 _ _ _ _ _ _ _ hq4
  cbv
  repeat (first | (refine vcIf.yes ?_ ?_; (focus (simp [smW hA4 hL4]; done)); cbv) | (refine vcIf.no ?_ ?_; (focus (simp [smW hA4 hL4]; done)); cbv))
  refine ⟨0, rfl, by decide, fun q hq => ?_⟩
  obtain rfl : q = 0 := hq
  cbv
  refine ⟨_, by rw [hx6]; rfl, ?_⟩
  cbv
  repeat (first | (refine vcIf.yes ?_ ?_; (focus (simp [smW hA4 hL4]; done)); cbv) | (refine vcIf.no ?_ ?_; (focus (simp [smW hA4 hL4]; done)); cbv))
  refine hq4 _ ?_
  cbv
  repeat (first | (refine vcIf.yes ?_ ?_; (focus (simp [smW hA4 hL4]; done)); cbv) | (refine vcIf.no ?_ ?_; (focus (simp [smW hA4 hL4]; done)); cbv))
  repeat (first | (refine vcIf.yes ?_ ?_; (focus (simp [smW hA hL]; done)); cbv) | (refine vcIf.no ?_ ?_; (focus (simp [smW hA hL]; done)); cbv))
  refine hcall _ _ _ _ _ (CallEv.lend [0, 1, 2, 3, 4, 5, 6] hpa rfl (.cons (.own 0 0 0 rfl) (.cons (.p _) .nil)) (gqT rfl rfl rfl rfl rfl rfl rfl rfl rfl rfl rfl rfl rfl) ?_)
  intro v own hr
  obtain ⟨⟨x, rfl⟩, ⟨c3', fr', hd', qn', wt', tk', dr', dO', dv', n1', n2', bg', n3', lo', hi', o4', n4', n5', n6', ep', sv', x1', x2', x3', x4', x5', x6'⟩, rfl⟩ := hR v own hr
  cbv
  exact hret _ (RetEv.convW (ConvW.pack [0, 1, 2, 3, 4, 5, 6] hB rfl) (RetEv.ret eOk rfl hr))
end Go.Proofs.YtegkojnngdlfaaaGreat
end
section
namespace Go.Proofs.YtegkojnngdlfaaaGreat
open Go Go.Lx
open Go.Sx (vcIf)
theorem clonePrS_spec (zs : List PV) (hw : Wf 2 zs) (hn : zs.length ≤ 2000) :
    FnL Tryz.prog 30 [.p (.sl zs)] [] fun v own => v = .p (.sl zs) ∧ own = [] := by
  refine FnL.flat (R := fun v own => ∃ x, v = .p x ∧ PW x (.sl zs)) ?_ (by rintro _ _ ⟨x, rfl, h⟩; exact ⟨_, _, rfl, h, rfl, rfl⟩)
  refine fn_of_vc eOk fOk fo30 Tryz.func30 rfl rfl rfl fun B hB => ?_
  intro _ _ _ _ _ _ _ _ _ _ _ _ _ _ _ _ _ _ _ _ _ _ _ _ _ _ sl _ _ _ _ _ _ _ _ _ _ _ _ _ _ ret hret
  cbv
  intro b hb
  cbv
  cases b with
  | true =>
    have h0 := hb rfl
    cbv
    exact hret _ (RetEv.ret eOk rfl ⟨_, rfl, by rw [h0]; exact PW.nils⟩)
  | false =>
    cbv
    refine ⟨true, ?_⟩
    cbv
    refine .inl ⟨(), rfl, rfl, hw, ?_, ?_, ?_⟩
    · show 0 + zs.length ≤ maxLen
      unfold maxLen; omega
    · show (0 + zs.length) * 32 ≤ _
      omega
    intro us n' hu hn'
    replace hu : us = [] ++ zs := hu
    replace hn' : n' = 0 + zs.length := hn'
    have e1 : (us.drop 0).take n' = zs := by rw [hu, hn', List.drop_zero, List.nil_append, Nat.zero_add, List.take_length]
    cbv
    refine hret _ (RetEv.retF eOk rfl 0 rfl (by rw [hB]; exact Nat.zero_le _) ⟨.sl ((us.drop 0).take n'), rfl, ?_⟩)
    rw [e1]; exact PW.refl _
theorem cloneChO_spec (zs : List PV) (hw : Wf 3 zs) (hn : zs.length ≤ 2000) :
    FnL Tryz.prog 28 [.p (.sl zs)] [] fun v own => ∃ n us, us = zs ∧ n = us.length ∧ v = .vw 0 3 0 n none ∧ own = [.arr 25 3 us] := by
  obtain ⟨N, hN⟩ : ∃ N, N = zs.length := ⟨_, rfl⟩
  rw [← hN] at hn
  refine fn_of_vc eOk fOk fo28 Tryz.func28 rfl rfl rfl fun B hB => ?_
  intro _ _ _ _ _ _ _ _ _ _ _ _ _ _ _ _ _ _ _ _ _ _ _ _ _ _ sl _ _ _ _ _ _ _ _ _ _ _ _ _ _ ret hret
  cbv
  intro b hb
  cbv
  cases b with
  | true =>
    have h0 := hb rfl
    cbv
    refine hret _ (RetEv.convC (Conv.hollow 2 25 3 (by decide) rfl) (RetEv.ret eOk rfl ⟨0, [], h0.symm, rfl, rfl, rfl⟩))
  | false =>
    cbv
    refine ⟨true, ?_⟩
    cbv
    refine .inl ⟨(), rfl, rfl, hw, ?_, ?_, ?_⟩
    · show 0 + zs.length ≤ maxLen
      unfold maxLen; omega
    · show (0 + zs.length) * 40 ≤ _
      omega
    intro us n' hu hn'
    replace hu : us = [] ++ zs := hu
    replace hn' : n' = 0 + zs.length := hn'
    cbv
    exact hret _ (RetEv.ret eOk rfl ⟨n', us, by rw [hu, List.nil_append], by rw [hu, hn', List.nil_append, Nat.zero_add], rfl, rfl⟩)
theorem cloneSnG_spec (g : Gq) {us : List PV} (hus : g.x1 = us) (hul : us.length = g.n1) (hn : g.n1 ≤ 30) (hw : Wf 4 us) :
    FnL Tryz.prog 29 [.vw 1 4 0 g.n1 none] g.R fun v own => v = .vw 7 4 0 g.n1 none ∧ own = g.R ++ [.arr 81 4 us] := by
  obtain ⟨c3, fr, hd, qn, wt, tk, dr, dO, dv, n1, n2, bg, n3, lo, hi, o4, n4, n5, n6, ep, sv, x1, x2, x3, x4, x5, x6⟩ := g
  simp only at hus hul hn ⊢
  subst hus
  have ht : (x1.drop 0).take n1 = x1 := by rw [List.drop_zero, ← hul, List.take_length]
  refine fn_of_vc eOk fOk fo29 Tryz.func29 rfl rfl rfl fun B hB => ?_
  intro _ _ _ _ _ _ _ _ _ _ _ _ _ _ _ _ _ _ _ _ _ _ _ _ _ _ _ _ _ _ _ _ _ _ _ _ _ _ _ _ _ ret hret
  cbv
  intro b hb
  cbv
  cases b with
  | true =>
    have h0 := hb rfl
    have hu0 : x1 = [] := List.length_eq_zero_iff.1 (by omega)
    cbv
    refine hret _ (RetEv.convC (Conv.hollow 2 81 4 (by decide) rfl) (RetEv.ret eOk rfl ⟨?_, ?_⟩))
    · rw [h0]; rfl
    · rw [hu0]
  | false =>
    cbv
    refine ⟨true, ?_⟩
    cbv
    refine .inl ⟨(), rfl, rfl, ?_, ?_, ?_, ?_⟩
    · show Wf 4 ((x1.drop 0).take n1)
      rw [ht]; exact hw
    · show 0 + ((x1.drop 0).take n1).length ≤ maxLen
      rw [ht, hul]; unfold maxLen; omega
    · show (0 + ((x1.drop 0).take n1).length) * 64 ≤ _
      rw [ht, hul]; omega
    intro ws n' hu hn'
    replace hu : ws = [] ++ (x1.drop 0).take n1 := hu
    replace hn' : n' = 0 + ((x1.drop 0).take n1).length := hn'
    rw [ht] at hu hn'
    rw [List.nil_append] at hu
    obtain rfl : n' = n1 := by omega
    subst hu
    cbv
    exact hret _ (RetEv.ret eOk rfl ⟨rfl, rfl⟩)
theorem gDeed_spec (g : Gq) (hn1 : g.x1.length = g.n1) (hn1b : g.n1 ≤ 30) (hn2 : g.n2 = g.x2.length) (hn2b : g.n2 ≤ 48) (l : List Chg) (hx2 : g.x2 = cP l) (hx1 : ∀ i, i < g.n1 → ∃ lo hi af us, g.x1[i]? = some (.agg [.str lo, .str hi, .int .i64 af, .sl us]) ∧ Wf 2 us ∧ us.length ≤ 2000) :
    FnL Tryz.prog 9 [.own 0 0] g.R fun v own => ∃ z, z = !(decide (g.wt = 0)) ∧ v = .p (.tup [ddP 0 0 0 g.dr g.dO g.dv (.sl g.x1) (.sl g.x2), .bool z]) ∧ own = g.R := by
  refine FnL.less (R := fun v own => ∃ (z : Bool) (ex : List Res), z = !(decide (g.wt = 0)) ∧ v = .p (.tup [ddP 0 0 0 g.dr g.dO g.dv (.sl g.x1) (.sl g.x2), .bool z]) ∧ own = g.R ++ ex) ?_
    (by rintro v _ ⟨z, ex, h, rfl, rfl⟩; exact ⟨_, _, ex, rfl, VW.refl _, rfl, rfl, Nat.le_of_ble_eq_true rfl, z, h, rfl, rfl⟩)
  have hcs := cloneSnG_spec g rfl hn1 hn1b (fun y hy => by
    obtain ⟨i, hi⟩ := List.mem_iff_getElem?.1 hy
    obtain ⟨lo, h, af, us, h1, -⟩ := hx1 i (by rw [← hn1]; exact (List.getElem?_eq_some_iff.1 hi).1)
    rw [hi] at h1; cases h1
    exact ⟨rfl, by simp [PV.cells, PV.one]⟩)
  have hcc := cloneChO_spec g.x2 (by rw [hx2]; exact cP_wf l) (by omega)
  obtain ⟨c3, fr, hd, qn, wt, tk, dr, dO, dv, n1, n2, bg, n3, lo, hi, o4, n4, n5, n6, ep, sv, x1, x2, x3, x4, x5, x6⟩ := g
  simp only at hn1 hn1b hn2 hn2b hx2 hx1 hcs hcc ⊢
  refine fn_of_vc eOk fOk fo9 Tryz.func9 rfl rfl rfl fun B hB => ?_
  intro add _ _ _ _ _ _ _ _ _ _ _ _ _ _ _ _ _ _ _ _ iof _ hA _ _ sl _ _ _ _ _ _ _ _ _ _ _ hcall _ hcode ret hret
  cbv
  refine hcall _ _ _ _ _ (CallEv.shown [] [2] hcc rfl (.cons (.bvw 2 3 0 n2 none _ _ x2 x2 (by simp) rfl (by rw [List.drop_zero, hn2, List.take_length])) .nil) trivial ?_)
  rintro _ _ ⟨n9, us9, hus9, hn9, rfl, rfl⟩
  refine ⟨flatV _ _ _ _ _, flatC (hus9.trans hx2), ?_⟩
  cbv
  refine hcall _ _ _ _ _ (CallEv.lend [0, 1, 2, 3, 4, 5, 6] hcs rfl (.cons (.vw 1 1 4 0 n1 none rfl) .nil) (gqT rfl rfl rfl rfl rfl rfl rfl rfl rfl rfl rfl rfl rfl) ?_)
  rintro _ _ ⟨rfl, rfl⟩
  cbv
  refine hcode _ _ _ (CodeEv.loop eOk fOk (ι := Nat) (fun i => [(0, .own 0 0), (2, .own 7 0), (4, .own 8 0), (23, .p (.int .i64 (Int.ofNat n1))), (24, .p (.int .i64 (Int.ofNat i)))])
    (fun _ => (Gq.mk c3 fr hd qn wt tk dr dO dv n1 n2 bg n3 lo hi o4 n4 n5 n6 ep sv x1 x2 x3 x4 x5 x6).R ++ [.st 42 [.p (.int .i64 0), .p (.int .i64 0), .p (.int .i64 0), .p (.int .i64 0), .p (.int .i64 0), .p (.int .i64 0), .p .nils, .p .nils],
      .st 42 [.p (.int .i64 0), .p (.int .i64 0), .p (.int .i64 0), .p (.int .i64 dr), .p (.int .i64 dO), .p (.int .i64 dv), .vw 10 4 0 n1 none, .vw 9 3 0 n9 none], .arr 25 3 us9, .arr 81 4 x1]) (fun i => i ≤ n1) (fun i => n1 - i) 0 ?_ ?_)
  · refine ⟨⟨rfl, rfl, rfl, ?_, rfl, trivial⟩, rfl, Nat.zero_le _⟩
    show some (V.p (.int .i64 (iof n1))) = _
    rw [hA.ofNat]; rfl
  intro i hi1 rd hrd
  by_cases hin : i < n1
  · refine Exists.elim (hx1 i hin) fun lo2 h => ?_
    obtain ⟨hi2, af, us, hxi, hw, hul⟩ := h
    have hcl := clonePrS_spec us hw hul
    have hset : x1.set i (.agg [.str lo2, .str hi2, .int .i64 af, .sl us]) = x1 := List.ext_getElem? fun q => by
      by_cases e : i = q
      · subst e; rw [List.getElem?_set_self (by omega), hxi]
      · rw [List.getElem?_set_ne e]
    intro add1 _ _ _ _ _ _ _ _ _ _ _ _ _ _ _ _ _ _ _ _ _ _ hA1 _ _ _ _ _ _ _ _ _ _ hL1 _ _ _ _ _ hcode1
    have hadd1 : add1 .i64 (Int.ofNat i) 1 = Int.ofNat (i + 1) := by rw [hA1.add, IntWalk.i64_in _ (by simp only [Int.ofNat_eq_natCast]; omega)]; rfl
    cbv
    refine vcIf.yes (by first | (simp [smW hA1 hL1, hin]; done) | (simp only [hin]; simp [smW hA1 hL1, hin]; done) | (simp [smW hA1 hL1, hin]; omega) | (simp only [hin]; simp [smW hA1 hL1, hin]; omega)) ?_
    cbv
    refine hcode1 _ _ _ (CodeEv.drawA eOk fOk (by kernel_rfl) (Xof 11 [10]) (by kernel_rfl) (by kernel_rfl) (by kernel_rfl) ?_)
    intro _ _ _ _ _ _ _ _ _ _ _ ieq2 _ _ _ _ _ bnot2 _ _ _ _ _ hA2 _ _ _ _ _ _ _ _ _ _ _ _ _ _ hcall2 _ _ _ hq2
    cbv
    refine ⟨i, rfl, hin, fun q hq => ?_⟩
    have hxq : x1[q]? = some (.agg [.str lo2, .str hi2, .int .i64 af, .sl us]) := by rw [hq, Nat.zero_add]; exact hxi
    cbv
    refine ⟨_, hxq, ?_⟩
    cbv
    refine hcall2 _ _ _ _ _ (CallEv.same hcl rfl ?_)
    rintro _ _ ⟨rfl, rfl⟩
    cbv
    refine ⟨i, rfl, hin, fun q5 hq5 => ?_⟩
    have hxq2 : x1[q5]? = some (.agg [.str lo2, .str hi2, .int .i64 af, .sl us]) := by rw [hq5, Nat.zero_add]; exact hxi
    cbv
    refine ⟨_, hxq2, ⟨rfl, fun u hu => by simp [PV.cells] at hu; rw [hu]; rfl⟩, Nat.le_of_ble_eq_true rfl, fun ys hys => ?_⟩
    obtain rfl : ys = x1 := by rw [hys, hq5, Nat.zero_add]; exact hset
    cbv
    refine hq2 _ ?_
    cbv
    refine hrd _ ⟨i + 1, _, ?_, hin, rfl, ⟨rfl, rfl, rfl, rfl, ?_, trivial⟩, rfl, rfl, rfl, ?_⟩
    · show n1 - (i + 1) < n1 - i
      omega
    · show some (V.p (.int .i64 _)) = _
      rw [hadd1]
    · rw [hB]; exact Nat.le_of_ble_eq_true rfl
  · have hiN : i = n1 := by omega
    intro add1 _ _ _ _ _ _ _ _ _ _ _ _ _ _ _ _ _ _ _ _ _ _ hA1 _ _ _ _ _ _ _ _ _ _ hL1 _ _ _ _ _ hcode1
    cbv
    refine vcIf.no (by first | (simp [smW hA1 hL1, hin]; done) | (simp only [hin]; simp [smW hA1 hL1, hin]; done) | (simp [smW hA1 hL1, hin]; omega) | (simp only [hin]; simp [smW hA1 hL1, hin]; omega)) ?_
    cbv
    refine hcode _ _ _ (CodeEv.drawA eOk fOk (by kernel_rfl) (Xof 11 [7]) (by kernel_rfl) (by kernel_rfl) (by kernel_rfl) ?_)
    intro _ _ _ _ _ _ _ _ _ _ _ ieq2 _ _ _ _ _ bnot2 _ _ _ _ _ hA2 _ _ _ _ _ _ _ _ _ _ _ _ _ _ hcall2 _ _ _ hq2
    cbv
    refine hq2 _ ?_
    cbv
    refine hret _ (RetEv.convW ((Conv.freeze 10 rfl (by rw [hB]; exact Nat.le_of_ble_eq_true rfl)).weak.trans ((Conv.freeze 9 rfl (by rw [hB]; exact Nat.le_of_ble_eq_true rfl)).weak.trans (ConvW.pack [0, 1, 2, 3, 4, 5, 6, 7] hB rfl))) (RetEv.ret eOk rfl ⟨bnot2 (ieq2 wt 0), _, ?_, ?_, rfl⟩))
    · rw [hA2.not, hA2.eq]
      by_cases h : wt = 0 <;> simp [h]
    · show V.p (.tup [.agg [.int .i64 0, .int .i64 0, .int .i64 0, .int .i64 dr, .int .i64 dO, .int .i64 dv, .sl ((x1.drop 0).take n1), .sl ((us9.drop 0).take n9)], _]) = _
      rw [List.drop_zero, List.drop_zero, ← hn1, List.take_length, hn9, List.take_length, hus9]
end Go.Proofs.YtegkojnngdlfaaaGreat
end
section
namespace Go.Proofs.YtegkojnngdlfaaaGreat
open Go Go.Lx
open Go.Sx (vcIf)
def ptR (r : List UInt8 × Nat) (v : V) (own : List Res) : Prop := (r.2 = 2 ∧ v = .p (.tup [.nils, .int .i64 2]) ∧ own = []) ∨ (∃ ys n, r.2 = 0 ∧ ys = bP r.1 ∧ n = ys.length ∧ v = .tup [.vw 0 1 0 n none, .p (.int .i64 0)] ∧ own = [wrA ys])
theorem frPutTxnO_spec (s : Tx) (hs : s.fit) (xs zs : List PV) (hxs : xs = pP s.sp) (hzs : zs = cP s.ch) :
    FnL Tryz.prog 26 [.p (.agg [.int .i64 s.r, .sl xs, .sl zs])] [] (ptR (tEnc s)) := by
  have hst := frTxn_spec s hs xs zs hxs hzs
  have hok := s.ok_iff
  obtain ⟨R, hR⟩ : ∃ R, R = tEnc s := ⟨_, rfl⟩
  rw [← hR]
  unfold tEnc at hR
  obtain ⟨r, sp, ch⟩ := s
  unfold tBytes at hR
  obtain ⟨hs0, hs1, hs2, hs3⟩ := hs
  simp only at hst hok hR hxs hzs hs0 hs1 hs2 hs3 ⊢
  have hxl : xs.length = sp.length := by rw [hxs, pP_length]
  have hzl : zs.length = ch.length := by rw [hzs, cP_length]
  obtain ⟨M, hM⟩ : ∃ M, M = sp.length := ⟨_, rfl⟩
  rw [← hM] at hxl hok
  refine fn_of_vc eOk fOk fo26 Tryz.func26 rfl rfl rfl fun B hB => ?_
  intro add _ _ _ _ _ _ _ _ _ _ _ _ _ _ _ _ _ _ _ _ _ _ hA _ _ sl _ _ _ _ len _ _ hL _ _ _ hcall _ hcode ret hret
  have hlx : len xs = Int.ofNat M := by rw [hL.len, hxl]; rfl
  cbv
  refine hcall _ _ _ _ _ (CallEv.same hst rfl ?_)
  rintro _ _ ⟨b, hb, rfl, rfl⟩
  rw [← hb] at hok hR
  cbv
  cases b with
  | false =>
    rw [if_neg (by decide)] at hR
    repeat (first | (refine vcIf.yes ?_ ?_; (focus (simp [smW hA hL]; done)); cbv) | (refine vcIf.no ?_ ?_; (focus (simp [smW hA hL]; done)); cbv))
    exact hret _ (RetEv.convW (ConvW.pack [] hB rfl) (RetEv.ret eOk rfl (.inl ⟨by rw [hR], rfl, rfl⟩)))
  | true =>
    rw [if_pos rfl] at hR
    obtain ⟨k1, k2, k3, k4, k5⟩ := hok.1 rfl
    have hn1 := wr0_of (wrNums_spec [r, Int.ofNat M] _ rfl (fun z hz => by
      simp only [List.mem_cons, List.not_mem_nil, or_false] at hz
      rcases hz with rfl | rfl
      · exact hs0.2
      · simp only [Int.ofNat_eq_natCast]; omega) 0 0 [] rfl (by simp))
    rw [iP2] at hn1
    have hok1 : ∀ z ∈ [r, Int.ofNat M], (0 : Int) ≤ z := fun z hz => by
      simp only [List.mem_cons, List.not_mem_nil, or_false] at hz
      rcases hz with rfl | rfl
      · exact k1
      · exact Int.natCast_nonneg M
    have hn2 := fun (n1 : Nat) (e1 : Int) (ys1 : List PV) (w1 : ys1.length = n1) (w2 : n1 ≤ 18 + 131092 * M) => chgs_spec ch k4 zs hzs n1 e1 ys1 w1 (big2 w2 k2 k3)
    cbv
    repeat (first | (refine vcIf.yes ?_ ?_; (focus (simp [smW hA hL]; done)); cbv) | (refine vcIf.no ?_ ?_; (focus (simp [smW hA hL]; done)); cbv))
    rw [hlx]
    refine ⟨false, ?_⟩
    cbv
    refine hcall _ _ _ _ _ (CallEv.lend [1] hn1 rfl (.cons (.own 0 1 0 rfl) (.cons (.p _) .nil)) (wrL0 rfl) ?_)
    rintro _ _ ⟨n1, e1, ys1, ⟨w1, w2, w3, w4⟩, rfl, rfl⟩
    obtain ⟨rfl, w5⟩ := w3 hok1
    cbv
    rw [hlx]
    refine hcode _ _ _ (CodeEv.loop eOk fOk (ι := Nat × Nat × List PV) (fun s => [(1, .own 0 0), (4, .own 1 0), (21, .p (.sl xs)), (22, .p (.int .i64 (Int.ofNat M))), (23, .p (.int .i64 (Int.ofNat s.1)))])
      (fun s => [.st 74 [.p (.int .i64 r), .p (.sl xs), .p (.sl zs)], .st 108 [.vw 2 1 0 s.2.1 none, .p (.int .i64 0)], wrA s.2.2]) (fun s => s.1 ≤ M ∧ s.2.2.length = s.2.1 ∧ s.2.1 ≤ 18 + 131092 * s.1 ∧ s.2.2 = bP (encs [r, (sp.length : Int)] ++ (sp.take s.1).flatMap encS)) (fun s => M - s.1) (0, n1, ys1) ?_ ?_)
    · exact ⟨(by repeat (first | exact trivial | refine And.intro rfl ?_)), rfl, Nat.zero_le _, w1, w2, by rw [w5, ← hM]; simp⟩
    rintro ⟨i, m, us⟩ ⟨g1, g2, g3, g4⟩ rd hrd
    simp only at g1 g2 g3 g4
    intro add1 _ _ _ _ _ _ _ _ _ _ _ _ _ _ _ _ _ _ _ _ _ _ hA1 _ _ _ _ _ _ _ _ _ _ hL1 _ _ _ hcall1 _ _
    have hadd1 : i < M → add1 .i64 (Int.ofNat i) 1 = Int.ofNat (i + 1) := fun _ => by rw [hA1.add, IntWalk.i64_in _ (by simp only [Int.ofNat_eq_natCast]; omega)]; rfl
    cbv
    by_cases hi : i < M
    · obtain ⟨c, hc⟩ := get_of_lt (show i < sp.length by omega)
      have hzz : xs[i]? = some (.agg [.str c.lo, .str c.hi]) := by rw [hxs]; exact pP_get hc
      have htk : sp.take (i + 1) = sp.take i ++ [c] := by rw [List.take_add_one, hc]; rfl
      have hco := spn_ok k5 (List.mem_of_getElem? hc)
      have hce : bP (encs [r, (sp.length : Int)] ++ (sp.take (i + 1)).flatMap encS) = us ++ bP (enct c.lo ++ enct c.hi) := by
        rw [htk, g4, List.flatMap_append, ← List.append_assoc, bP_append (encs [r, (sp.length : Int)] ++ List.flatMap encS (List.take i sp))]; simp [encS]
      have hmb := big3 g3 (by omega)
      have htx := wrTexts_spec [c.lo, c.hi] [.str c.lo, .str c.hi] rfl (fun s hs => by
        simp only [List.mem_cons, List.not_mem_nil, or_false] at hs
        rcases hs with rfl | rfl <;> omega) m 0 us g2 (by simp only [List.length_cons, List.length_nil]; omega)
      have htt : ∀ s ∈ [c.lo, c.hi], s.length ≤ 65536 := fun s hs => by
        simp only [List.mem_cons, List.not_mem_nil, or_false] at hs
        rcases hs with rfl | rfl <;> omega
      obtain ⟨lo, hi'⟩ := c
      simp only at hzz hce htx htt
      refine vcIf.yes (by first | (simp [smW hA1 hL1, hi]; done) | (simp only [hi]; simp [smW hA1 hL1, hi]; done) | (simp [smW hA1 hL1, hi]; omega) | (simp only [hi]; simp [smW hA1 hL1, hi]; omega)) ?_
      cbv
      refine ⟨i, _, rfl, hzz, rfl, ?_⟩
      cbv
      refine ⟨false, ?_⟩
      cbv
      refine hcall1 _ _ _ _ _ (CallEv.lend [1, 2] htx rfl (.cons (.own 0 1 0 rfl) (.cons (.p _) .nil)) (wrL rfl rfl rfl rfl) ?_)
      rintro _ _ ⟨n2, e2, ys2, ⟨u1, u2, u3, u4⟩, rfl, rfl⟩
      obtain ⟨rfl, u5⟩ := u3 htt
      replace u2 : n2 ≤ m + 131092 := u2
      cbv
      refine hrd _ ⟨(i + 1, n2, ys2), _, ?_, ⟨hi, u1, ?_, ?_⟩, rfl, ⟨rfl, rfl, rfl, rfl, ?_, trivial⟩, rfl, rfl, rfl, ?_⟩
      · simp only; omega
      · exact big4 u2 g3
      · simp only; rw [hce, u5]; simp [encts]
      · show some (V.p (.int .i64 _)) = _
        rw [hadd1 hi]
      · rw [hB]; exact Nat.zero_le _
    · refine vcIf.no (by first | (simp [smW hA1 hL1, hi]; done) | (simp only [hi]; simp [smW hA1 hL1, hi]; done) | (simp [smW hA1 hL1, hi]; omega) | (simp only [hi]; simp [smW hA1 hL1, hi]; omega)) ?_
      cbv
      rw [List.take_of_length_le (by omega)] at g4
      obtain rfl : i = M := by omega
      have hnn := hn2 m 0 us g2 g3
      refine hcall _ _ _ _ _ (CallEv.lend [1, 2] hnn rfl (.cons (.own 0 1 0 rfl) (.cons (.p _) .nil)) (wrL rfl rfl rfl rfl) ?_)
      rintro _ _ ⟨n2, ys2, u5, u1, u4, rfl⟩
      have hby := wrBytes_spec n2 0 ys2
      have hys : ys2 = bP (encs [r, (sp.length : Int)] ++ sp.flatMap encS ++ encCs ch) := by rw [u5, g4, ← bP_append]
      cbv
      refine hcall _ _ _ _ _ (CallEv.lend [1, 2] hby rfl (.cons (.own 0 1 0 rfl) .nil) (wrL rfl rfl rfl rfl) ?_)
      rintro _ _ ⟨⟨_, rfl⟩ | ⟨he, _⟩, rfl⟩
      rotate_left
      · exact absurd rfl he
      cbv
      exact hret _ (RetEv.convW (ConvW.pack [2] hB rfl) (RetEv.ret eOk rfl (.inr ⟨ys2, n2, by rw [hR], by rw [hR]; exact hys, u1.symm, rfl, rfl⟩)))
theorem FnL.aggP {P : Program} {f : FuncId} {cs : List PV} {own : List Res} {R : V → List Res → Prop} (h : FnL P f [.p (.agg cs)] own R) : FnL P f [.agg (cs.map .p)] own R :=
  ⟨h.1, fun H E Fs vals h1 h2 h3 h4 => h.2 H E Fs vals h1 h2 h3 ⟨h4.1, fun i c v hc hv => by
    cases i with
    | succ i => simp at hc
    | zero =>
      simp at hc; subst hc
      have hd := h4.2 0 (.agg (cs.map .p)) v rfl hv
      cases hd with
      | agg _ xs hl hh =>
        refine .p _ _ (.agg cs xs (by simpa using hl) fun j c v hc hv => ?_)
        have := hh j (.p c) v (by simp [hc]) hv
        cases this with
        | p _ _ hd => exact hd⟩⟩
theorem trT {own : List Res} {js bs : List Nat} {a : PV} {n3 n2 : Nat} {x3 x2 y3 y2 : List PV} (h3 : 3 ∈ bs) (h2 : 2 ∈ bs) {T3 T2 : TypeId} {s3 s2 : Nat} (g3 : own[3]? = some (.arr T3 s3 x3)) (g2 : own[2]? = some (.arr T2 s2 x2)) (e3 : y3 = (x3.drop 0).take n3) (e2 : y2 = (x2.drop 0).take n2) :
    Tr own js bs (.agg [.p a, .vw 3 2 0 n3 none, .vw 2 3 0 n2 none]) (.agg [.p a, .p (.sl y3), .p (.sl y2)]) := by
  refine .agg _ _ rfl ?_
  intro k c d hc hd
  match k, hc, hd with
  | 0, hc, hd => simp at hc hd; subst hc hd; exact .p _
  | 1, hc, hd => simp at hc hd; subst hc hd; exact .bvw 3 2 0 n3 none _ _ x3 y3 h3 g3 e3
  | 2, hc, hd => simp at hc hd; subst hc hd; exact .bvw 2 3 0 n2 none _ _ x2 y2 h2 g2 e2
  | k + 3, hc, hd => simp at hc
theorem gEnd_err (g : Gq) (h : idl g.wt g.bg g.dO ≠ 0) : FnL Tryz.prog 8 [.own 0 0] g.R fun v own => ∃ e : Nat, e = idl g.wt g.bg g.dO ∧ v = .p (.tup [.nils, .int .i64 (Int.ofNat e)]) ∧ own = g.R := by
  have hid := gIdle_spec g
  obtain ⟨c3, fr, hd, qn, wt, tk, dr, dO, dv, n1, n2, bg, n3, lo, hi, o4, n4, n5, n6, ep, sv, x1, x2, x3, x4, x5, x6⟩ := g
  simp only at h hid ⊢
  obtain ⟨I, hI⟩ : ∃ I, I = idl wt bg dO := ⟨_, rfl⟩
  rw [← hI] at hid h ⊢
  refine fn_of_vc eOk fOk fo8 Tryz.func8 rfl rfl rfl fun B hB => ?_
  intro _ _ _ _ _ _ _ _ _ _ _ _ _ _ _ _ _ _ _ _ _ _ _ hA _ _ _ _ _ _ _ _ _ _ hL _ _ _ hcall _ _ ret hret
  cbv
  refine hcall _ _ _ _ _ (CallEv.lend [0, 1, 2, 3, 4, 5, 6] hid rfl (.cons (.own 0 0 0 rfl) .nil) (gqT rfl rfl rfl rfl rfl rfl rfl rfl rfl rfl rfl rfl rfl) ?_)
  rintro _ _ ⟨e, he, rfl, rfl⟩
  cbv
  have h0 : ¬ e = 0 := by omega
  repeat (first | (refine vcIf.yes ?_ ?_; (focus (simp [smW hA hL, h0]; done)); cbv) | (refine vcIf.no ?_ ?_; (focus (simp [smW hA hL, h0]; done)); cbv))
  exact hret _ (RetEv.convW (ConvW.pack [0, 1, 2, 3, 4, 5, 6] hB rfl) (RetEv.ret eOk rfl ⟨e, he, rfl, rfl⟩))
theorem gEnd_none (g : Gq) (h : idl g.wt g.bg g.dO = 0) (hn2 : g.n2 = 0) : FnL Tryz.prog 8 [.own 0 0] g.R fun v own => v = .p (.tup [.nils, .int .i64 0]) ∧ own = ({ g with dO := 1, dv := g.dr } : Gq).R := by
  have hid := gIdle_spec g
  obtain ⟨c3, fr, hd, qn, wt, tk, dr, dO, dv, n1, n2, bg, n3, lo, hi, o4, n4, n5, n6, ep, sv, x1, x2, x3, x4, x5, x6⟩ := g
  simp only at h hn2 hid ⊢
  subst hn2
  rw [h] at hid
  refine fn_of_vc eOk fOk fo8 Tryz.func8 rfl rfl rfl fun B hB => ?_
  intro _ _ _ _ _ _ _ _ _ _ _ _ _ _ _ _ _ _ _ _ _ _ _ hA _ _ _ _ _ _ _ _ _ _ hL _ _ _ hcall _ _ ret hret
  cbv
  refine hcall _ _ _ _ _ (CallEv.lend [0, 1, 2, 3, 4, 5, 6] hid rfl (.cons (.own 0 0 0 rfl) .nil) (gqT rfl rfl rfl rfl rfl rfl rfl rfl rfl rfl rfl rfl rfl) ?_)
  rintro _ _ ⟨e, he, rfl, rfl⟩
  cbv
  obtain rfl : e = 0 := he
  repeat (first | (refine vcIf.yes ?_ ?_; (focus (simp [smW hA hL]; done)); cbv) | (refine vcIf.no ?_ ?_; (focus (simp [smW hA hL]; done)); cbv))
  refine vcIf.yes (by rw [hA.eq, hA.ofNat]; rfl) ?_
  cbv
  exact hret _ (RetEv.convW (ConvW.pack [0, 1, 2, 3, 4, 5, 6] hB rfl) (RetEv.ret eOk rfl ⟨rfl, rfl⟩))
theorem gEnd_spec (g : Gq) (h : idl g.wt g.bg g.dO = 0) (hn2 : g.n2 ≠ 0) (hqn : 0 ≤ g.qn ∧ g.qn < 9223372036854775807) {qm : Int} (hqm : qm = g.qn + 1)
    (t : Tx) (ht : t.fit) (htr : t.r = g.dr) (hx3 : g.x3 = pP t.sp) (hn3 : g.n3 = t.sp.length) (hx2 : g.x2 = cP t.ch) (hn2l : g.n2 = t.ch.length) (hb1 : t.sp.length ≤ 1000) (hb2 : t.ch.length ≤ 1000) :
    FnL Tryz.prog 8 [.own 0 0] g.R fun v own => ((t.okB = false ∨ t.chk ≠ 0) ∧ v = .p (.tup [.nils, .int .i64 0]) ∧ own = ({ g with dO := 4 } : Gq).R) ∨
      (t.okB = true ∧ t.chk = 0 ∧ ∃ zs bd, bd = bP (tEnc t).1 ∧ zs = [msP 1 100 g.sv g.ep qm 2 0 (.sl bd)] ∧ v = .p (.tup [.sl zs, .int .i64 0]) ∧ own = (g.sent 3 qm zs).R) := by
  have hid := gIdle_spec g
  obtain ⟨c3, fr, hd, qn, wt, tk, dr, dO, dv, n1, n2, bg, n3, lo, hi, o4, n4, n5, n6, ep, sv, x1, x2, x3, x4, x5, x6⟩ := g
  simp only at h hn2 hqn hqm htr hx3 hn3 hx2 hn2l hid ⊢
  rw [h] at hid
  have hpt := FnL.aggP (frPutTxnO_spec t ht x3 x2 hx3 hx2)
  have hck := FnL.aggP (vCheck_spec t ht x3 x2 hx3 hx2)
  rw [htr] at hpt hck
  have hte : (tEnc t).2 = if t.okB = true then 0 else 2 := by unfold tEnc; split <;> rfl
  obtain ⟨K, hK⟩ : ∃ K, K = t.chk := ⟨_, rfl⟩
  obtain ⟨O, hO⟩ : ∃ O, O = t.okB := ⟨_, rfl⟩
  obtain ⟨T, hT⟩ : ∃ T, T = tEnc t := ⟨_, rfl⟩
  rw [← hK] at hck ⊢
  rw [← hT] at hpt hte ⊢
  rw [← hO] at hte ⊢
  have hx3t : x3 = (x3.drop 0).take n3 := by rw [List.drop_zero, hn3, hx3, ← pP_length t.sp, List.take_length]
  have hx2t : x2 = (x2.drop 0).take n2 := by rw [List.drop_zero, hn2l, hx2, ← cP_length t.ch, List.take_length]
  have hse := fun bd : List PV => gSend_spec ⟨c3, fr, hd, qn, wt, tk, dr, dO, dv, n1, n2, bg, n3, lo, hi, o4, n4, n5, n6, ep, sv, x1, x2, x3, x4, x5, x6⟩ hqn hqm 3 sv 0 0 0 ep 0 2 0 bd
  clear hK hT hO
  refine fn_of_vc eOk fOk fo8 Tryz.func8 rfl rfl rfl fun B hB => ?_
  intro _ _ _ _ _ _ _ _ _ _ _ _ _ _ _ _ _ _ _ _ _ _ _ hA _ _ sl _ _ _ _ _ _ _ hL _ _ _ hcall _ hcode ret hret
  cbv
  refine hcall _ _ _ _ _ (CallEv.lend [0, 1, 2, 3, 4, 5, 6] hid rfl (.cons (.own 0 0 0 rfl) .nil) (gqT rfl rfl rfl rfl rfl rfl rfl rfl rfl rfl rfl rfl rfl) ?_)
  rintro _ _ ⟨e, he, rfl, rfl⟩
  cbv
  obtain rfl : e = 0 := he
  repeat (first | (refine vcIf.yes ?_ ?_; (focus (simp [smW hA hL]; done)); cbv) | (refine vcIf.no ?_ ?_; (focus (simp [smW hA hL]; done)); cbv))
  refine vcIf.no (by rw [hA.eq, hA.ofNat]; exact decide_eq_false (by omega)) ?_
  cbv
  refine hcode _ _ _ (CodeEv.drawA eOk fOk (by kernel_rfl) (Xof 7 []) (by kernel_rfl) (by kernel_rfl) (by kernel_rfl) ?_)
  intro _ _ _ _ _ _ _ _ _ _ _ _ _ _ _ _ _ _ _ _ _ _ _ _ _ _ _ _ _ _ _ _ _ _ _ _ _ _ _ _ _ _ hq2
  cbv
  refine hq2 _ ?_
  cbv
  refine hcall _ _ _ _ _ (CallEv.shown [] [2, 3] hpt rfl (.cons (trT (by simp) (by simp) rfl rfl hx3t hx2t) .nil) trivial ?_)
  rintro _ _ (⟨hT2, rfl, rfl⟩ | ⟨ys, n, hT2, hys, hn, rfl, rfl⟩)
  · have hO : O = false := by
      cases O with
      | false => rfl
      | true => rw [hte, if_pos rfl] at hT2; exact absurd hT2 (by decide)
    refine ⟨.p _ (.tup _ (by intro c hc; simp at hc; rcases hc with rfl | rfl <;> constructor)), by simp, ?_⟩
    cbv
    repeat (first | (refine vcIf.yes ?_ ?_; (focus (simp [smW hA hL]; done)); cbv) | (refine vcIf.no ?_ ?_; (focus (simp [smW hA hL]; done)); cbv))
    exact hret _ (RetEv.convW (ConvW.pack [0, 1, 2, 3, 4, 5, 6] hB rfl) (RetEv.ret eOk rfl (.inl ⟨.inl hO, rfl, rfl⟩)))
  have hO : O = true := by
    cases O with
    | true => rfl
    | false => rw [hte, if_neg (by decide)] at hT2; exact absurd hT2 (by decide)
  refine ⟨flatT2 _ _ _ _ _ _, by intro r hr; rw [List.mem_singleton.1 hr]; intro x hx; rw [hys] at hx; exact bP_Flat _ x hx, ?_⟩
  cbv
  repeat (first | (refine vcIf.yes ?_ ?_; (focus (simp [smW hA hL]; done)); cbv) | (refine vcIf.no ?_ ?_; (focus (simp [smW hA hL]; done)); cbv))
  refine hcall _ _ _ _ _ (CallEv.shown [] [2, 3] hck rfl (.cons (trT (by simp) (by simp) rfl rfl hx3t hx2t) .nil) trivial ?_)
  rintro _ _ ⟨e2, he2, rfl, rfl⟩
  refine ⟨.p _ (.int _ _), by simp, ?_⟩
  cbv
  by_cases h0 : e2 = 0
  rotate_left
  · repeat (first | (refine vcIf.yes ?_ ?_; (focus (simp [smW hA hL, h0]; done)); cbv) | (refine vcIf.no ?_ ?_; (focus (simp [smW hA hL, h0]; done)); cbv))
    exact hret _ (RetEv.convW (ConvW.pack [0, 1, 2, 3, 4, 5, 6] hB rfl) (RetEv.ret eOk rfl (.inl ⟨.inr (by rw [← he2]; exact h0), rfl, rfl⟩)))
  repeat (first | (refine vcIf.yes ?_ ?_; (focus (simp [smW hA hL, h0]; done)); cbv) | (refine vcIf.no ?_ ?_; (focus (simp [smW hA hL, h0]; done)); cbv))
  refine hcode _ _ _ (CodeEv.freezeG 8 rfl (by rw [hB]; exact Nat.le_of_ble_eq_true rfl) fun g2 hg2 => ?_)
  have hg2z : g2 0 n = bP T.1 := by rw [hg2, List.drop_zero, hn, List.take_length, hys]
  obtain ⟨bd, hbd⟩ : ∃ bd, bd = g2 0 n := ⟨_, rfl⟩
  rw [hg2z] at hbd
  have hse := hse (g2 0 n)
  refine CodeEv.drawA eOk fOk (by kernel_rfl) (Xof 9 [0, 1, 2, 3, 4, 5, 6]) (by kernel_rfl) (by kernel_rfl) (by kernel_rfl) ?_
  intro _ _ _ _ _ _ _ _ _ _ _ _ _ _ _ _ _ _ _ _ _ _ _ _ _ _ _ _ _ _ _ _ _ _ _ _ _ _ hcall3 _ _ _ hq3
  cbv
  refine hcall3 _ _ _ _ _ (CallEv.lend [0, 1, 2, 3, 4, 5, 6] hse rfl (.cons (.own 0 0 0 rfl) (.cons (.p _) (.cons (.p _) (.cons (.p _) .nil)))) (gqT rfl rfl rfl rfl rfl rfl rfl rfl rfl rfl rfl rfl rfl) ?_)
  rintro _ _ ⟨zs, hzs, rfl, rfl⟩
  have hzs2 : zs = [msP 1 100 sv ep qm 2 0 (.sl bd)] := by rw [hzs, hg2z, hbd]
  cbv
  refine hq3 _ ?_
  cbv
  exact hret _ (RetEv.convW (ConvW.pack [0, 1, 2, 3, 4, 5, 6] hB rfl) (RetEv.ret eOk rfl (.inr ⟨hO, by rw [← he2]; exact h0, zs, bd, hbd, hzs2, rfl, rfl⟩)))
end Go.Proofs.YtegkojnngdlfaaaGreat
end
