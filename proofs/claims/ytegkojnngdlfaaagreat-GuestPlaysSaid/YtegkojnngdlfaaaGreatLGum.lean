/- LGu1, LGu2, LGu3, LGu4, LGu5, LGu6, LHas, LHasG together. Conditions: on sizes. -/
import Derived.Test.YtegkojnngdlfaaaGreatLEnv
import Derived.Test.YtegkojnngdlfaaaGreatLY13
import Derived.Test.YtegkojnngdlfaaaGreatLRqm
import Derived.Test.YtegkojnngdlfaaaGreatLSqm
set_option maxRecDepth 100000
set_option maxHeartbeats 16000000
set_option linter.unusedSimpArgs false
set_option linter.unusedVariables false
section
namespace Go.Proofs.YtegkojnngdlfaaaGreat
open Go Go.Lx
open Go.Sx (vcIf)
abbrev guS (c1 c2 c3 c4 c5 c6 nd fr hd sq wt tk dg db de dr dO dv : Int) (sn ch : PV) (bg : Bool) (rd : PV) (lo hi : List UInt8) (td fd pd : PV) (ep sv : Int) : Res :=
  .st 63 [.p (.int .i64 c1), .p (.int .i64 c2), .p (.int .i64 c3), .p (.int .i64 c4), .p (.int .i64 c5), .p (.int .i64 c6), .p (.int .i64 nd), .p (.int .i64 fr), .p (.int .i64 hd), .p (.int .i64 sq), .p (.int .i64 wt), .p (.int .i64 tk),
    .p (.int .i64 dg), .p (.int .i64 db), .p (.int .i64 de), .p (.int .i64 dr), .p (.int .i64 dO), .p (.int .i64 dv), .p sn, .p ch, .p (.bool bg), .p rd, .p (.str lo), .p (.str hi), .p td, .p fd, .p pd, .p (.int .i64 ep), .p (.int .i64 sv)]
abbrev stP (c1 c2 c3 c4 c5 c6 : Int) : PV := .agg [.int .i64 c1, .int .i64 c2, .int .i64 c3, .int .i64 c4, .int .i64 c5, .int .i64 c6]
abbrev msP (k f t e a b c : Int) (body : PV) : PV := .agg [.int .i64 k, .int .i64 f, .int .i64 t, .int .i64 e, .int .i64 a, .int .i64 b, .int .i64 c, body]
abbrev ddP (g b e r o v : Int) (sn ch : PV) : PV := .agg [.int .i64 g, .int .i64 b, .int .i64 e, .int .i64 r, .int .i64 o, .int .i64 v, sn, ch]
def stOk (c1 c2 c3 c4 c5 c6 : Int) : Prop := (1 ≤ c1 ∧ c1 ≤ 7) ∧ (1 ≤ c2 ∧ c2 ≤ 7) ∧ (1 ≤ c3 ∧ c3 ≤ 4) ∧ (1 ≤ c4 ∧ c4 ≤ 4) ∧ (1 ≤ c5 ∧ c5 ≤ 4) ∧ 1 ≤ c6 ∧ c6 ≤ 8
theorem rng_spec (a b c : Int) : FnL Tryz.prog 43 [.p (.int .i64 a), .p (.int .i64 b), .p (.int .i64 c)] [] fun v own => ∃ z, z = decide (b ≤ a ∧ a ≤ c) ∧ v = .p (.bool z) ∧ own = [] := by
  refine fn_of_vc eOk fOk fo43 Tryz.func43 rfl rfl rfl fun B hB => ?_
  intro _ _ _ _ _ _ _ _ _ _ _ _ _ _ _ _ _ _ _ _ _ _ _ hA _ _ _ _ _ _ _ _ _ _ hL _ _ _ _ _ _ ret hret
  cbv
  by_cases h1 : b ≤ a
  · by_cases h2 : a ≤ c
    · repeat (first | (refine vcIf.yes ?_ ?_; (focus (simp [smW hA hL, h1, h2]; done)); cbv) | (refine vcIf.no ?_ ?_; (focus (simp [smW hA hL, h1, h2]; done)); cbv))
      exact hret _ (RetEv.ret eOk rfl ⟨_, by simp [hA.cond, hA.not, hA.le, hA.lt, h1, h2], rfl, rfl⟩)
    · repeat (first | (refine vcIf.yes ?_ ?_; (focus (simp [smW hA hL, h1, h2]; done)); cbv) | (refine vcIf.no ?_ ?_; (focus (simp [smW hA hL, h1, h2]; done)); cbv))
      exact hret _ (RetEv.ret eOk rfl ⟨_, by simp [hA.cond, hA.not, hA.le, hA.lt, h1, h2], rfl, rfl⟩)
  · repeat (first | (refine vcIf.yes ?_ ?_; (focus (simp [smW hA hL, h1]; done)); cbv) | (refine vcIf.no ?_ ?_; (focus (simp [smW hA hL, h1]; done)); cbv))
    exact hret _ (RetEv.ret eOk rfl ⟨_, by simp [hA.cond, hA.not, hA.le, hA.lt, h1], rfl, rfl⟩)
theorem crSound_spec (c1 c2 c3 c4 c5 c6 : Int) : FnL Tryz.prog 17 [.p (stP c1 c2 c3 c4 c5 c6)] [] fun v own => ∃ z, (z = true ↔ stOk c1 c2 c3 c4 c5 c6) ∧ v = .p (.bool z) ∧ own = [] := by
  refine FnL.flat (R := fun v own => ∃ z, (z = true ↔ stOk c1 c2 c3 c4 c5 c6) ∧ v = .p (.bool z)) ?_ (by rintro _ _ ⟨z, h, rfl⟩; exact ⟨_, _, rfl, .refl _, z, h, rfl, rfl⟩)
  refine fn_of_vc eOk fOk fo17 Tryz.func17 rfl rfl rfl fun B hB => ?_
  intro _ _ _ _ _ _ _ _ _ _ _ _ _ _ _ _ _ _ _ _ _ _ _ hA _ _ _ _ _ _ _ _ _ _ hL _ _ _ hcall _ _ ret hret
  cbv
  refine hcall _ _ _ _ _ (CallEv.same (rng_spec c1 1 7) rfl ?_)
  rintro _ _ ⟨z, hz, rfl, rfl⟩
  by_cases p1 : 1 ≤ c1 ∧ c1 ≤ 7
  rotate_left
  · obtain rfl : z = false := hz.trans (decide_eq_false p1)
    cbv
    repeat (first | (refine vcIf.yes ?_ ?_; (focus (simp [smW hA hL]; done)); cbv) | (refine vcIf.no ?_ ?_; (focus (simp [smW hA hL]; done)); cbv))
    refine hret _ (RetEv.ret eOk rfl ⟨_, ?_, rfl⟩)
    exact ⟨fun h => by simp [hA.cond] at h, fun h => absurd h.1 p1⟩
  obtain rfl : z = true := hz.trans (decide_eq_true p1)
  clear hz
  cbv
  repeat (first | (refine vcIf.yes ?_ ?_; (focus (simp [smW hA hL]; done)); cbv) | (refine vcIf.no ?_ ?_; (focus (simp [smW hA hL]; done)); cbv))
  refine hcall _ _ _ _ _ (CallEv.same (rng_spec c2 1 7) rfl ?_)
  rintro _ _ ⟨z, hz, rfl, rfl⟩
  by_cases p2 : 1 ≤ c2 ∧ c2 ≤ 7
  rotate_left
  · obtain rfl : z = false := hz.trans (decide_eq_false p2)
    cbv
    repeat (first | (refine vcIf.yes ?_ ?_; (focus (simp [smW hA hL]; done)); cbv) | (refine vcIf.no ?_ ?_; (focus (simp [smW hA hL]; done)); cbv))
    refine hret _ (RetEv.ret eOk rfl ⟨_, ?_, rfl⟩)
    exact ⟨fun h => by simp [hA.cond] at h, fun h => absurd h.2.1 p2⟩
  obtain rfl : z = true := hz.trans (decide_eq_true p2)
  clear hz
  cbv
  repeat (first | (refine vcIf.yes ?_ ?_; (focus (simp [smW hA hL]; done)); cbv) | (refine vcIf.no ?_ ?_; (focus (simp [smW hA hL]; done)); cbv))
  refine hcall _ _ _ _ _ (CallEv.same (rng_spec c3 1 4) rfl ?_)
  rintro _ _ ⟨z, hz, rfl, rfl⟩
  by_cases p3 : 1 ≤ c3 ∧ c3 ≤ 4
  rotate_left
  · obtain rfl : z = false := hz.trans (decide_eq_false p3)
    cbv
    repeat (first | (refine vcIf.yes ?_ ?_; (focus (simp [smW hA hL]; done)); cbv) | (refine vcIf.no ?_ ?_; (focus (simp [smW hA hL]; done)); cbv))
    refine hret _ (RetEv.ret eOk rfl ⟨_, ?_, rfl⟩)
    exact ⟨fun h => by simp [hA.cond] at h, fun h => absurd h.2.2.1 p3⟩
  obtain rfl : z = true := hz.trans (decide_eq_true p3)
  clear hz
  cbv
  repeat (first | (refine vcIf.yes ?_ ?_; (focus (simp [smW hA hL]; done)); cbv) | (refine vcIf.no ?_ ?_; (focus (simp [smW hA hL]; done)); cbv))
  refine hcall _ _ _ _ _ (CallEv.same (rng_spec c4 1 4) rfl ?_)
  rintro _ _ ⟨z, hz, rfl, rfl⟩
  by_cases p4 : 1 ≤ c4 ∧ c4 ≤ 4
  rotate_left
  · obtain rfl : z = false := hz.trans (decide_eq_false p4)
    cbv
    repeat (first | (refine vcIf.yes ?_ ?_; (focus (simp [smW hA hL]; done)); cbv) | (refine vcIf.no ?_ ?_; (focus (simp [smW hA hL]; done)); cbv))
    refine hret _ (RetEv.ret eOk rfl ⟨_, ?_, rfl⟩)
    exact ⟨fun h => by simp [hA.cond] at h, fun h => absurd h.2.2.2.1 p4⟩
  obtain rfl : z = true := hz.trans (decide_eq_true p4)
  clear hz
  cbv
  repeat (first | (refine vcIf.yes ?_ ?_; (focus (simp [smW hA hL]; done)); cbv) | (refine vcIf.no ?_ ?_; (focus (simp [smW hA hL]; done)); cbv))
  refine hcall _ _ _ _ _ (CallEv.same (rng_spec c5 1 4) rfl ?_)
  rintro _ _ ⟨z, hz, rfl, rfl⟩
  by_cases p5 : 1 ≤ c5 ∧ c5 ≤ 4
  rotate_left
  · obtain rfl : z = false := hz.trans (decide_eq_false p5)
    cbv
    repeat (first | (refine vcIf.yes ?_ ?_; (focus (simp [smW hA hL]; done)); cbv) | (refine vcIf.no ?_ ?_; (focus (simp [smW hA hL]; done)); cbv))
    refine hret _ (RetEv.ret eOk rfl ⟨_, ?_, rfl⟩)
    exact ⟨fun h => by simp [hA.cond] at h, fun h => absurd h.2.2.2.2.1 p5⟩
  obtain rfl : z = true := hz.trans (decide_eq_true p5)
  clear hz
  cbv
  repeat (first | (refine vcIf.yes ?_ ?_; (focus (simp [smW hA hL]; done)); cbv) | (refine vcIf.no ?_ ?_; (focus (simp [smW hA hL]; done)); cbv))
  refine hcall _ _ _ _ _ (CallEv.same (rng_spec c6 1 8) rfl ?_)
  rintro _ _ ⟨z, hz, rfl, rfl⟩
  by_cases p6 : 1 ≤ c6 ∧ c6 ≤ 8
  · obtain rfl : z = true := hz.trans (decide_eq_true p6)
    cbv
    refine hret _ (RetEv.ret eOk rfl ⟨_, ?_, rfl⟩)
    exact ⟨fun _ => ⟨p1, p2, p3, p4, p5, p6⟩, fun _ => by simp [hA.cond]⟩
  · obtain rfl : z = false := hz.trans (decide_eq_false p6)
    cbv
    refine hret _ (RetEv.ret eOk rfl ⟨_, ?_, rfl⟩)
    exact ⟨fun h => by simp [hA.cond] at h, fun h => absurd h.2.2.2.2.2 p6⟩
end Go.Proofs.YtegkojnngdlfaaaGreat
end
section
namespace Go.Proofs.YtegkojnngdlfaaaGreat
open Go Go.Lx
open Go.Sx (vcIf)
abbrev gu0 (c1 c2 c3 c4 c5 c6 nd : Int) : Res := guS c1 c2 c3 c4 c5 c6 nd 60 0 0 0 0 0 0 0 0 0 0 .nils .nils false .nils [] [] .nils .nils .nils 0 0
theorem guNew_spec (c1 c2 c3 c4 c5 c6 n : Int) : FnL Tryz.prog 5 [.p (stP c1 c2 c3 c4 c5 c6), .p (.int .i64 n)] [] fun v own =>
    (¬ (stOk c1 c2 c3 c4 c5 c6 ∧ 0 ≤ n ∧ n < c6) ∧ v = .p (.tup [.nilp, .int .i64 1]) ∧ own = []) ∨
    ((stOk c1 c2 c3 c4 c5 c6 ∧ 0 ≤ n ∧ n < c6) ∧ v = .tup [.own 0 0, .p (.int .i64 0)] ∧ own = [gu0 c1 c2 c3 c4 c5 c6 (100 + n)]) := by
  refine fn_of_vc eOk fOk fo5 Tryz.func5 rfl rfl rfl fun B hB => ?_
  intro add _ _ _ _ _ _ _ _ _ _ _ _ _ _ _ _ _ _ _ _ _ _ hA _ _ _ _ _ _ _ _ _ _ hL _ _ _ hcall _ _ ret hret
  cbv
  refine hcall _ _ _ _ _ (CallEv.same (crSound_spec c1 c2 c3 c4 c5 c6) rfl ?_)
  rintro _ _ ⟨z, hz, rfl, rfl⟩
  by_cases p : stOk c1 c2 c3 c4 c5 c6
  rotate_left
  · obtain rfl : z = false := Bool.eq_false_iff.2 fun h => p (hz.1 h)
    cbv
    repeat (first | (refine vcIf.yes ?_ ?_; (focus (simp [smW hA hL]; done)); cbv) | (refine vcIf.no ?_ ?_; (focus (simp [smW hA hL]; done)); cbv))
    exact hret _ (RetEv.convW (ConvW.pack [] hB rfl) (RetEv.ret eOk rfl (.inl ⟨fun h => p h.1, rfl, rfl⟩)))
  obtain rfl : z = true := hz.2 p
  have p6 := p.2.2.2.2.2
  have hadd : 0 ≤ n → n < c6 → add .i64 100 n = 100 + n := fun h1 h2 => by rw [hA.add, IntWalk.i64_in _ (by omega)]
  clear hz
  cbv
  by_cases h1 : n < 0
  · repeat (first | (refine vcIf.yes ?_ ?_; (focus (simp [smW hA hL, h1]; done)); cbv) | (refine vcIf.no ?_ ?_; (focus (simp [smW hA hL, h1]; done)); cbv))
    exact hret _ (RetEv.convW (ConvW.pack [] hB rfl) (RetEv.ret eOk rfl (.inl ⟨fun h => by omega, rfl, rfl⟩)))
  by_cases h2 : c6 ≤ n
  · repeat (first | (refine vcIf.yes ?_ ?_; (focus (simp [smW hA hL, h1, h2]; done)); cbv) | (refine vcIf.no ?_ ?_; (focus (simp [smW hA hL, h1, h2]; done)); cbv))
    exact hret _ (RetEv.convW (ConvW.pack [] hB rfl) (RetEv.ret eOk rfl (.inl ⟨fun h => by omega, rfl, rfl⟩)))
  repeat (first | (refine vcIf.yes ?_ ?_; (focus (simp [smW hA hL, h1, h2]; done)); cbv) | (refine vcIf.no ?_ ?_; (focus (simp [smW hA hL, h1, h2]; done)); cbv))
  rw [hadd (by omega) (by omega)]
  exact hret _ (RetEv.convW (ConvW.pack [1] hB rfl) (RetEv.ret eOk rfl (.inr ⟨⟨p, by omega, by omega⟩, rfl, rfl⟩)))
theorem guL {own : List Res} {js : List Nat} {i : Nat} {c1 c2 c3 c4 c5 c6 nd fr hd sq wt tk dg db de dr dO dv : Int} {sn ch : PV} {bg : Bool} {rd : PV} {lo hi : List UInt8} {td fd pd : PV} {ep sv : Int}
    (h : own[i]? = some (guS c1 c2 c3 c4 c5 c6 nd fr hd sq wt tk dg db de dr dO dv sn ch bg rd lo hi td fd pd ep sv)) : TrO own js [] [i] [guS c1 c2 c3 c4 c5 c6 nd fr hd sq wt tk dg db de dr dO dv sn ch bg rd lo hi td fd pd ep sv] :=
  ⟨⟨_, h, .st _ _ _ (TrL.same rfl)⟩, trivial⟩
end Go.Proofs.YtegkojnngdlfaaaGreat
end
section
namespace Go.Proofs.YtegkojnngdlfaaaGreat
open Go Go.Lx
open Go.Sx (vcIf)
theorem cloneM_spec (zs : List PV) (hw : Wf 8 zs) (hn : zs.length * 80 ≤ 140737488355328) :
    FnL Tryz.prog 33 [.p (.sl zs)] [] fun v own => v = .p (.sl zs) ∧ own = [] := by
  refine FnL.flat (R := fun v own => ∃ x, v = .p x ∧ PW x (.sl zs)) ?_ (by rintro _ _ ⟨x, rfl, h⟩; exact ⟨_, _, rfl, h, rfl, rfl⟩)
  obtain ⟨n, hl⟩ : ∃ n, zs.length = n := ⟨_, rfl⟩
  rw [hl] at hn
  refine fn_of_vc eOk fOk fo33 Tryz.func33 rfl rfl rfl fun B hB => ?_
  intro _ _ _ _ _ _ _ _ _ _ _ _ _ _ _ _ _ _ _ _ _ _ _ _ _ _ sl _ _ _ _ _ _ _ _ _ _ _ _ _ _ ret hret
  cbv
  intro b hb
  cbv
  cases b with
  | true =>
    have h0 := hb rfl
    cbv
    exact hret _ (RetEv.ret eOk rfl ⟨_, rfl, by rw [h0]; exact PW.nils⟩)
  | false =>
    cbv
    refine ⟨true, ?_⟩
    cbv
    refine .inl ⟨(), rfl, rfl, hw, ?_, ?_, ?_⟩
    · show 0 + zs.length ≤ maxLen
      rw [hl]; unfold maxLen; omega
    · show (0 + zs.length) * 80 ≤ _
      rw [hl]; omega
    intro us n' hu hn'
    replace hu : us = [] ++ zs := hu
    replace hn' : n' = 0 + zs.length := hn'
    have e1 : (us.drop 0).take n' = zs := by rw [hu, hn', List.drop_zero, List.nil_append, Nat.zero_add, List.take_length]
    cbv
    refine hret _ (RetEv.retF eOk rfl 0 rfl (by rw [hB]; exact Nat.zero_le _) ⟨.sl ((us.drop 0).take n'), rfl, ?_⟩)
    rw [e1]; exact PW.refl _
theorem guSend_spec (c1 c2 c3 c4 c5 c6 nd fr hd qn qm wt tk dg db de dr dO dv : Int) (sn ch : PV) (bg : Bool) (rd : PV) (lo hi : List UInt8) (td fd pd : PV) (ep sv : Int) (hqn : 0 ≤ qn ∧ qn < 9223372036854775807) (hqm : qm = qn + 1)
    (w to k0 f0 t0 e a0 b c : Int) (bd : List PV) :
    FnL Tryz.prog 18 [.own 0 0, .p (.int .i64 w), .p (.int .i64 to), .p (msP k0 f0 t0 e a0 b c (.sl bd))] [guS c1 c2 c3 c4 c5 c6 nd fr hd qn wt tk dg db de dr dO dv sn ch bg rd lo hi td fd pd ep sv] fun v own =>
      v = .p (.sl [msP 1 nd to e qm b c (.sl bd)]) ∧ own = [guS c1 c2 c3 c4 c5 c6 nd fr hd qm w 0 dg db de dr dO dv sn ch bg rd lo hi td fd (.sl [msP 1 nd to e qm b c (.sl bd)]) ep sv] := by
  have hcl := cloneM_spec [msP 1 nd to e qm b c (.sl bd)] (fun x hx => by simp only [List.mem_cons, List.not_mem_nil, or_false] at hx; rw [hx]; exact ⟨rfl, fun u hu => by simp [PV.cells] at hu; rcases hu with rfl | rfl | rfl | rfl | rfl | rfl | rfl | rfl <;> rfl⟩) (by simp)
  refine fn_of_vc eOk fOk fo18 Tryz.func18 rfl rfl rfl fun B hB => ?_
  intro add _ _ _ _ _ _ _ _ _ _ _ _ _ _ _ _ _ _ _ _ _ _ hA _ _ sl _ _ _ _ _ _ _ _ _ _ _ hcall _ hcode ret hret
  have hadd : add .i64 qn 1 = qm := by rw [hA.add, IntWalk.i64_in _ (by omega), hqm]
  cbv
  rw [hadd]
  refine hcode _ _ _ (CodeEv.drawT eOk fOk (by kernel_rfl) (Xof 2 [1]) (.rd 0 (.rd 1 (.rd 2 (.rd 3 (.rd 4 (.rd 5 (.rd 6 (.rd 7 (.rd 8 (.so 9 (.acts (.cons 10 (.so 11 (.acts (.cons 12 (.so 13 (.acts (.cons 14 (.so 15 (.acts (.cons 16 (.done) (.nil)))) (.nil)))) (.nil)))) (.nil))))))))))))) (by kernel_rfl) (by kernel_rfl) ?_)
  intro _ _ _ _ _ _ _ _ _ _ _ _ _ _ _ _ _ _ _ _ _ _ _ _ _ _ _ _ _ _ _ _ _ _ _ _ _ _ _ _ _ _ hq2
  cbv
  refine hq2 _ ?_
  cbv
  refine hcode _ _ _ (CodeEv.drawT eOk fOk (by kernel_rfl) (Xof 2 [0]) (.rd 0 (.rd 1 (.rd 2 (.rd 3 (.rd 4 (.rd 6 (.rd 7 (.acts (.cons 5 (.acts (.cons 8 (.so 9 (.so 10 (.acts (.cons 11 (.so 12 (.so 13 (.acts (.cons 14 (.done) (.nil))))) (.nil))))) (.nil))) (.cons 8 (.rd 9 (.rd 10 (.acts (.cons 5 (.acts (.cons 11 (.so 12 (.so 13 (.acts (.cons 14 (.done) (.nil))))) (.nil))) (.cons 11 (.acts (.cons 5 (.so 12 (.so 13 (.acts (.cons 14 (.done) (.nil))))) (.nil))) (.nil)))))) (.nil))))))))))) (by kernel_rfl) (by kernel_rfl) ?_)
  intro _ _ _ _ _ _ _ _ _ _ _ _ _ _ _ _ _ _ _ _ _ _ _ _ _ _ _ _ _ _ _ _ _ _ _ _ _ _ _ _ _ _ hq2
  cbv
  refine ⟨?_, ?_, ?_⟩
  · refine ⟨false, ?_⟩
    cbv
    refine hq2 _ ?_
    cbv
    refine hcall _ _ _ _ _ (CallEv.same hcl rfl ?_)
    rintro _ _ ⟨rfl, rfl⟩
    cbv
    exact hret _ (RetEv.convW (ConvW.pack [0] hB rfl) (RetEv.ret eOk rfl ⟨rfl, rfl⟩))
  · refine ⟨false, ?_⟩
    cbv
    refine hq2 _ ?_
    cbv
    refine hcall _ _ _ _ _ (CallEv.same hcl rfl ?_)
    rintro _ _ ⟨rfl, rfl⟩
    cbv
    exact hret _ (RetEv.convW (ConvW.pack [0] hB rfl) (RetEv.ret eOk rfl ⟨rfl, rfl⟩))
  · refine ⟨false, ?_⟩
    cbv
    refine hq2 _ ?_
    cbv
    refine hcall _ _ _ _ _ (CallEv.same hcl rfl ?_)
    rintro _ _ ⟨rfl, rfl⟩
    cbv
    exact hret _ (RetEv.convW (ConvW.pack [0] hB rfl) (RetEv.ret eOk rfl ⟨rfl, rfl⟩))
theorem guBegin_spec (c1 c2 c3 c4 c5 c6 nd fr hd qn qm tk dg db de dr dO dv : Int) (sn ch : PV) (bg : Bool) (rd : PV) (lo hi : List UInt8) (td fd pd : PV) (ep sv : Int) (hqn : 0 ≤ qn ∧ qn < 9223372036854775807) (hqm : qm = qn + 1) (hbg : ¬ (bg = true ∧ dO = 0)) (hnd : 100 ≤ nd ∧ nd ≤ 200) :
    FnL Tryz.prog 6 [.own 0 0] [guS c1 c2 c3 c4 c5 c6 nd fr hd qn 0 tk dg db de dr dO dv sn ch bg rd lo hi td fd pd ep sv] fun v own =>
      v = .p (.tup [.sl [msP 1 nd fr 0 qm 1 0 (.sl [])], .int .i64 0]) ∧ own = [guS c1 c2 c3 c4 c5 c6 nd fr hd qm 1 0 (nd - 100) 0 0 0 0 0 .nils .nils true .nils lo hi td fd (.sl [msP 1 nd fr 0 qm 1 0 (.sl [])]) ep sv] := by
  refine fn_of_vc eOk fOk fo6 Tryz.func6 rfl rfl rfl fun B hB => ?_
  intro _ sub _ _ _ _ _ _ _ _ _ _ _ _ _ _ _ _ _ _ _ _ _ hA _ _ sl _ _ _ _ _ _ _ hL _ _ _ hcall _ _ ret hret
  have hsub : sub .i64 nd 100 = nd - 100 := by rw [hA.sub, IntWalk.i64_in _ (by omega)]
  have hse := FnL.wk (xs := [.own 0 0, .p (.int .i64 1), .p (.int .i64 fr), .p (msP 0 0 0 0 0 1 0 .nils)]) (guSend_spec c1 c2 c3 c4 c5 c6 nd fr hd qn qm 0 tk (nd - 100) 0 0 0 0 0 .nils .nils true .nils lo hi td fd pd ep sv hqn hqm 1 fr 0 0 0 0 0 1 0 [])
    ⟨.refl _, .refl _, .refl _, .p (PW.agg ⟨.refl _, .refl _, .refl _, .refl _, .refl _, .refl _, .refl _, PW.nils, trivial⟩), trivial⟩
  cbv
  cases bg with
  | false =>
    repeat (first | (refine vcIf.yes ?_ ?_; (focus (simp [smW hA hL]; done)); cbv) | (refine vcIf.no ?_ ?_; (focus (simp [smW hA hL]; done)); cbv))
    rw [hsub]
    refine hcall _ _ _ _ _ (CallEv.lend [0] hse rfl (.cons (.own 0 0 0 rfl) (.cons (.p _) (.cons (.p _) (.cons (.p _) .nil)))) (guL rfl) ?_)
    rintro _ _ ⟨rfl, rfl⟩
    cbv
    exact hret _ (RetEv.ret eOk rfl ⟨rfl, rfl⟩)
  | true =>
    have hdO : ¬ dO = 0 := fun h => hbg ⟨rfl, h⟩
    repeat (first | (refine vcIf.yes ?_ ?_; (focus (simp [smW hA hL, hdO]; done)); cbv) | (refine vcIf.no ?_ ?_; (focus (simp [smW hA hL, hdO]; done)); cbv))
    rw [hsub]
    refine hcall _ _ _ _ _ (CallEv.lend [0] hse rfl (.cons (.own 0 0 0 rfl) (.cons (.p _) (.cons (.p _) (.cons (.p _) .nil)))) (guL rfl) ?_)
    rintro _ _ ⟨rfl, rfl⟩
    cbv
    exact hret _ (RetEv.ret eOk rfl ⟨rfl, rfl⟩)
end Go.Proofs.YtegkojnngdlfaaaGreat
end
section
namespace Go.Proofs.YtegkojnngdlfaaaGreat
open Go Go.Lx
open Go.Sx (vcIf)
theorem guTakeV (c1 c2 c3 c4 c5 c6 nd fr hd qn tk dg db de dr dv : Int) (sn ch : PV) (rd : PV) (lo hi : List UInt8) (td fd : PV) (ep sv to e c e0 : Int) :
    FnL Tryz.prog 11 [.own 0 0, .p (msP 2 to nd e qn 0 c (.sl []))] [guS c1 c2 c3 c4 c5 c6 nd fr hd qn 1 tk dg db de dr 0 dv sn ch true rd lo hi td fd (.sl [msP 1 nd to e0 qn 1 0 (.sl [])]) ep sv] fun v own =>
      v = .p .nils ∧ own = [guS c1 c2 c3 c4 c5 c6 nd fr hd qn 0 tk dg db de c 0 dv sn ch true rd lo hi td fd (.sl [msP 1 nd to e0 qn 1 0 (.sl [])]) e to] := by
  refine fn_of_vc eOk fOk fo11 Tryz.func11 rfl rfl rfl fun B hB => ?_
  intro _ _ _ _ _ _ _ _ _ _ _ _ _ _ _ _ _ _ _ _ _ _ _ hA _ _ sl _ _ _ _ _ _ _ hL _ _ _ _ _ hcode ret hret
  cbv
  refine hcode _ _ _ (CodeEv.drawT eOk fOk (by kernel_rfl) (Xof 2 []) (.so 0 (.so 1 (.so 2 (.rd 3 (.rd 4 (.so 5 (.so 6 (.so 7 (.so 8 (.so 9 (.so 10 (.done)))))))))))) (by kernel_rfl) (by kernel_rfl) ?_)
  intro _ _ _ _ _ _ _ _ _ _ _ _ _ _ _ _ _ _ _ _ _ _ _ hA2 _ _ _ _ _ _ _ _ _ _ hL2 _ _ _ _ _ _ _ hq2
  cbv
  refine hq2 _ ?_
  cbv
  refine vcIf.no (by first | (simp [smW hA2 hL2]; done) | (simp [smW hA2 hL2]; omega)) ?_
  cbv
  refine hcode _ _ _ (CodeEv.drawT eOk fOk (by kernel_rfl) (Xof 2 []) (.so 0 (.so 1 (.so 2 (.so 3 (.rd 4 (.rd 5 (.so 6 (.so 7 (.so 8 (.so 9 (.so 10 (.so 11 (.done))))))))))))) (by kernel_rfl) (by kernel_rfl) ?_)
  intro _ _ _ _ _ _ _ _ _ _ _ _ _ _ _ _ _ _ _ _ _ _ _ hA3 _ _ _ _ _ _ _ _ _ _ hL3 _ _ _ _ _ _ _ hq3
  cbv
  repeat (first | (refine vcIf.yes ?_ ?_; (focus (simp [smW hA3 hL3]; done)); cbv) | (refine vcIf.no ?_ ?_; (focus (simp [smW hA3 hL3]; done)); cbv))
  refine hq3 _ ?_
  cbv
  repeat (first | (refine vcIf.yes ?_ ?_; (focus (simp [smW hA3 hL3]; done)); cbv) | (refine vcIf.no ?_ ?_; (focus (simp [smW hA3 hL3]; done)); cbv))
  refine hcode _ _ _ (CodeEv.drawT eOk fOk (by kernel_rfl) (Xof 2 []) (.so 0 (.so 1 (.so 2 (.so 3 (.rd 4 (.rd 5 (.so 6 (.so 7 (.so 8 (.so 9 (.so 10 (.so 11 (.so 12 (.so 13 (.so 14 (.so 15 (.so 16 (.so 17 (.so 18 (.so 19 (.rd 20 (.rd 21 (.so 22 (.so 23 (.so 24 (.so 25 (.so 26 (.so 27 (.so 28 (.so 29 (.so 30 (.done)))))))))))))))))))))))))))))))) (by kernel_rfl) (by kernel_rfl) ?_)
  intro _ _ _ _ _ _ _ _ _ _ _ _ _ _ _ _ _ _ _ _ _ _ _ hA4 _ _ _ _ _ _ _ _ _ _ hL4 _ _ _ _ _ _ _ hq4
  cbv
  repeat (first | (refine vcIf.yes ?_ ?_; (focus (simp [smW hA4 hL4]; done)); cbv) | (refine vcIf.no ?_ ?_; (focus (simp [smW hA4 hL4]; done)); cbv))
  refine ⟨0, _, rfl, rfl, rfl, ?_⟩
  cbv
  repeat (first | (refine vcIf.yes ?_ ?_; (focus (simp [smW hA4 hL4]; done)); cbv) | (refine vcIf.no ?_ ?_; (focus (simp [smW hA4 hL4]; done)); cbv))
  refine hq4 _ ?_
  cbv
  repeat (first | (refine vcIf.yes ?_ ?_; (focus (simp [smW hA4 hL4]; done)); cbv) | (refine vcIf.no ?_ ?_; (focus (simp [smW hA4 hL4]; done)); cbv))
  repeat (first | (refine vcIf.yes ?_ ?_; (focus (simp [smW hA hL]; done)); cbv) | (refine vcIf.no ?_ ?_; (focus (simp [smW hA hL]; done)); cbv))
  refine hcode _ _ _ (CodeEv.drawT eOk fOk (by kernel_rfl) (Xof 2 [0]) (.rd 0 (.rd 1 (.rd 2 (.rd 3 (.rd 4 (.rd 5 (.rd 6 (.rd 7 (.rd 8 (.rd 9 (.so 10 (.so 11 (.acts (.cons 12 (.so 13 (.so 14 (.so 15 (.acts (.cons 16 (.so 17 (.so 18 (.acts (.cons 19 (.so 20 (.so 21 (.acts (.cons 22 (.done) (.nil))))) (.nil))))) (.nil)))))) (.nil))))))))))))))) (by kernel_rfl) (by kernel_rfl) ?_)
  intro _ _ _ _ _ _ _ _ _ _ _ _ _ _ _ _ _ _ _ _ _ _ _ _ _ _ _ _ _ _ _ _ _ _ _ _ _ _ _ _ _ _ hq5
  cbv
  refine hq5 _ ?_
  cbv
  repeat (first | (refine vcIf.yes ?_ ?_; (focus (simp [smW hA hL]; done)); cbv) | (refine vcIf.no ?_ ?_; (focus (simp [smW hA hL]; done)); cbv))
  exact hret _ (RetEv.convW (ConvW.pack [0] hB rfl) (RetEv.ret eOk rfl ⟨rfl, rfl⟩))
theorem cloneCn : FnL Tryz.prog 28 [.p .nils] [] fun v own => v = .p .nils ∧ own = [] := by
  refine fn_of_vc eOk fOk fo28 Tryz.func28 rfl rfl rfl fun B hB => ?_
  intro _ _ _ _ _ _ _ _ _ _ _ _ _ _ _ _ _ _ _ _ _ _ _ _ _ _ _ _ _ _ _ _ _ _ _ _ _ _ _ _ _ ret hret
  cbv
  exact hret _ (RetEv.ret eOk rfl ⟨rfl, rfl⟩)
theorem cloneSn : FnL Tryz.prog 29 [.p .nils] [] fun v own => v = .p .nils ∧ own = [] := by
  refine fn_of_vc eOk fOk fo29 Tryz.func29 rfl rfl rfl fun B hB => ?_
  intro _ _ _ _ _ _ _ _ _ _ _ _ _ _ _ _ _ _ _ _ _ _ _ _ _ _ _ _ _ _ _ _ _ _ _ _ _ _ _ _ _ ret hret
  cbv
  exact hret _ (RetEv.ret eOk rfl ⟨rfl, rfl⟩)
theorem guDeed0 (c1 c2 c3 c4 c5 c6 nd fr hd qn wt tk dg db de dr dO dv : Int) (bg : Bool) (rd : PV) (lo hi : List UInt8) (td fd pd : PV) (ep sv : Int) :
    FnL Tryz.prog 9 [.own 0 0] [guS c1 c2 c3 c4 c5 c6 nd fr hd qn wt tk dg db de dr dO dv .nils .nils bg rd lo hi td fd pd ep sv] fun v own => ∃ z, z = !(decide (wt = 0)) ∧
      v = .p (.tup [ddP dg db de dr dO dv .nils .nils, .bool z]) ∧ own = [guS c1 c2 c3 c4 c5 c6 nd fr hd qn wt tk dg db de dr dO dv .nils .nils bg rd lo hi td fd pd ep sv] := by
  refine FnL.less (R := fun v own => ∃ (z : Bool) (ex : List Res), z = !(decide (wt = 0)) ∧ v = .p (.tup [ddP dg db de dr dO dv .nils .nils, .bool z]) ∧ own = [guS c1 c2 c3 c4 c5 c6 nd fr hd qn wt tk dg db de dr dO dv .nils .nils bg rd lo hi td fd pd ep sv] ++ ex) ?_
    (by rintro v _ ⟨z, ex, h, rfl, rfl⟩; exact ⟨_, _, ex, rfl, VW.refl _, rfl, rfl, Nat.le_of_ble_eq_true rfl, z, h, rfl, rfl⟩)
  refine fn_of_vc eOk fOk fo9 Tryz.func9 rfl rfl rfl fun B hB => ?_
  intro _ _ _ _ _ _ _ _ _ _ _ _ _ _ _ _ _ _ _ _ _ _ _ _ _ _ _ _ _ _ _ _ _ _ _ _ _ _ hcall _ hcode ret hret
  cbv
  refine hcall _ _ _ _ _ (CallEv.same cloneCn rfl ?_)
  rintro _ _ ⟨rfl, rfl⟩
  cbv
  refine hcall _ _ _ _ _ (CallEv.same cloneSn rfl ?_)
  rintro _ _ ⟨rfl, rfl⟩
  cbv
  refine hcode _ _ _ (CodeEv.loop eOk fOk (ι := Unit) (fun _ => [(0, .own 0 0), (2, .own 1 0), (4, .own 2 0), (23, .p (.int .i64 0)), (24, .p (.int .i64 0))])
    (fun _ => [guS c1 c2 c3 c4 c5 c6 nd fr hd qn wt tk dg db de dr dO dv .nils .nils bg rd lo hi td fd pd ep sv, .st 42 [.p (.int .i64 0), .p (.int .i64 0), .p (.int .i64 0), .p (.int .i64 0), .p (.int .i64 0), .p (.int .i64 0), .p .nils, .p .nils], .st 42 [.p (.int .i64 dg), .p (.int .i64 db), .p (.int .i64 de), .p (.int .i64 dr), .p (.int .i64 dO), .p (.int .i64 dv), .p .nils, .p .nils]]) (fun _ => True) (fun _ => 0) () ?_ ?_)
  · exact ⟨(by repeat (first | exact trivial | refine And.intro rfl ?_)), rfl, trivial⟩
  rintro ⟨⟩ _ rd1 hrd1
  intro _ _ _ _ _ _ _ _ _ _ _ _ _ _ _ _ _ _ _ _ _ _ _ hA1 _ _ _ _ _ _ _ _ _ _ hL1 _ _ _ _ _ _
  cbv
  refine vcIf.no (by first | (simp [smW hA1 hL1]; done) | (simp [smW hA1 hL1]; omega)) ?_
  cbv
  refine hcode _ _ _ (CodeEv.drawT eOk fOk (by kernel_rfl) (Xof 3 [1]) (.rd 0 (.rd 1 (.rd 2 (.rd 3 (.rd 4 (.rd 5 (.acts (.cons 6 (.so 7 (.done)) (.nil))))))))) (by kernel_rfl) (by kernel_rfl) ?_)
  intro _ _ _ _ _ _ _ _ _ _ _ ieq2 _ _ _ _ _ bnot2 _ _ _ _ _ hA2 _ _ _ _ _ _ _ _ _ _ _ _ _ _ _ _ _ _ hq2
  cbv
  refine hq2 _ ?_
  cbv
  refine hret _ (RetEv.ret eOk rfl ⟨bnot2 (ieq2 wt 0), _, ?_, rfl, rfl⟩)
  rw [hA2.not, hA2.eq]
  by_cases h : wt = 0 <;> simp [h]
end Go.Proofs.YtegkojnngdlfaaaGreat
end
section
namespace Go.Proofs.YtegkojnngdlfaaaGreat
open Go Go.Lx
open Go.Sx (vcIf)
def gmP0 : List Pr := [⟨[97], [49]⟩, ⟨[109], [50]⟩, ⟨[122], [51]⟩]
def gmCh : List Chg := [⟨1, [98], [52]⟩, ⟨2, [109], []⟩, ⟨1, [110], []⟩]
def gmL : List RLay := [(10, gmP0), (30, ones gmP0 gmCh)]
abbrev gmS (c3 : Int) (tx : PV) : Res := .st 89 [.own 0 0, .own 1 0, .p (.int .i64 1), .p (.int .i64 1), .p (.int .i64 c3), .p (.int .i64 2), .p (.int .i64 1), .p (.int .i64 1), .p tx]
abbrev gmR (ws : List PV) : List Res := [.st 133 [.vw 2 2 0 2 none, .p (.int .i64 10), .p (.int .i64 30)], rpA ws]
theorem gmBegin_spec (k : Int) (hk : 1 ≤ k ∧ k ≤ 4) : FnL Tryz.prog 15 [.p (.int .i64 k)] [] fun v own => ∃ ws, ws = rlP gmL ∧ v = .own 3 0 ∧ own = [gu0 1 1 k 2 1 1 100] ++ gmR ws ++ [gmS k .nils] := by
  have hnw := guNew_spec 1 1 k 2 1 1 0
  have hfr := rpFrom_spec 10 [.agg [.str [97], .str [49]], .agg [.str [109], .str [50]], .agg [.str [122], .str [51]]]
  have hst : stOk 1 1 k 2 1 1 ∧ (0 : Int) ≤ 0 ∧ (0 : Int) < 1 := ⟨⟨by decide, by decide, hk, by decide, by decide, by decide⟩, by decide, by decide⟩
  have had := rpAdd_spec [(10, gmP0)] 10 10 30 gmCh (fun c hc => by simp only [gmCh, List.mem_cons, List.not_mem_nil, or_false] at hc; rcases hc with rfl | rfl | rfl <;> exact ⟨by decide, by decide, by decide, by decide⟩) (by decide) (by show Srt gmP0; exact .cons (by decide) (.cons (by decide) (.cons (by simp) .nil))) (by decide) [.agg [.int .i64 10, .sl [.agg [.str [97], .str [49]], .agg [.str [109], .str [50]], .agg [.str [122], .str [51]]]]] rfl 1 rfl (by decide) [.agg [.int .i64 1, .str [98], .str [52]], .agg [.int .i64 2, .str [109], .str []], .agg [.int .i64 1, .str [110], .str []]] rfl
  rw [show adE 10 30 gmCh = 0 by decide] at had
  refine fn_of_vc eOk fOk fo15 Tryz.func15 rfl rfl rfl fun B hB => ?_
  intro _ _ _ _ _ _ _ _ _ _ _ _ _ _ _ _ _ _ _ _ _ _ _ hA _ _ sl _ _ _ _ _ _ _ hL _ _ _ hcall _ _ ret hret
  cbv
  refine hcall _ _ _ _ _ (CallEv.same hnw rfl ?_)
  rintro _ _ (⟨h, rfl, rfl⟩ | ⟨_, rfl, rfl⟩)
  · exact absurd hst h
  cbv
  refine ⟨false, ?_⟩
  cbv
  refine hcall _ _ _ _ _ (CallEv.same hfr rfl ?_)
  rintro _ _ ⟨rfl, rfl⟩
  cbv
  refine ⟨false, ?_⟩
  cbv
  refine hcall _ _ _ _ _ (CallEv.lend [2, 3] had rfl (.cons (.own 0 2 0 rfl) (.cons (.p _) (.cons (.p _) .nil))) (rpL rfl rfl rfl rfl) ?_)
  rintro _ _ ⟨e, he, rfl, ⟨hx, _⟩ | ⟨_, ws, m, hm, hws, rfl⟩⟩
  · exact absurd he hx
  obtain rfl : e = 0 := he
  obtain rfl : 2 = m := hm.symm
  replace hws : ws = rlP gmL := hws
  cbv
  repeat (first | (refine vcIf.yes ?_ ?_; (focus (simp [smW hA hL]; done)); cbv) | (refine vcIf.no ?_ ?_; (focus (simp [smW hA hL]; done)); cbv))
  exact hret _ (RetEv.convW (ConvW.pack [1, 2, 3, 4] hB rfl) (RetEv.ret eOk rfl ⟨ws, hws, rfl, rfl⟩))
end Go.Proofs.YtegkojnngdlfaaaGreat
end
section
namespace Go.Proofs.YtegkojnngdlfaaaGreat
open Go Go.Lx
open Go.Sx (vcIf)
theorem gmT {own : List Res} {js : List Nat} {i j k q : Nat} {c1 c2 c3 c4 c5 c6 nd fr hd sq wt tk dg db de dr dO dv : Int} {sn ch : PV} {bg : Bool} {rd : PV} {lo hi : List UInt8} {td fd pd : PV} {ep sv : Int} {ws : List PV} {s3 : Int} {tx : PV}
    (h0 : js[0]? = some i) (h1 : js[1]? = some j) (h2 : js[2]? = some k)
    (g0 : own[i]? = some (guS c1 c2 c3 c4 c5 c6 nd fr hd sq wt tk dg db de dr dO dv sn ch bg rd lo hi td fd pd ep sv)) (g1 : own[j]? = some (.st 133 [.vw k 2 0 2 none, .p (.int .i64 10), .p (.int .i64 30)])) (g2 : own[k]? = some (rpA ws))
    (g3 : own[q]? = some (.st 89 [.own i 0, .own j 0, .p (.int .i64 1), .p (.int .i64 1), .p (.int .i64 s3), .p (.int .i64 2), .p (.int .i64 1), .p (.int .i64 1), .p tx])) :
    TrO own js [] [i, j, k, q] ([guS c1 c2 c3 c4 c5 c6 nd fr hd sq wt tk dg db de dr dO dv sn ch bg rd lo hi td fd pd ep sv] ++ gmR ws ++ [gmS s3 tx]) :=
  ⟨⟨_, g0, .st _ _ _ (TrL.same rfl)⟩, ⟨_, g1, .st _ _ _ (.cons (.vw 2 k 2 0 2 none h2) (.cons (.p _) (.cons (.p _) .nil)))⟩, ⟨_, g2, .arr _ _ _⟩,
    ⟨_, g3, .st _ _ _ (.cons (.own 0 i 0 h0) (.cons (.own 1 j 0 h1) (TrL.same rfl)))⟩, trivial⟩
theorem gmSend0 (c1 c2 c3 c4 c5 c6 nd fr hd qn wt tk dg db de dr dO dv : Int) (sn ch : PV) (bg : Bool) (rd : PV) (lo hi : List UInt8) (td fd pd : PV) (ep sv : Int) (ws : List PV) (s3 : Int) (tx : PV) (how : Int) :
    FnL Tryz.prog 42 [.own 3 0, .p .nils, .p (.int .i64 how)] ([guS c1 c2 c3 c4 c5 c6 nd fr hd qn wt tk dg db de dr dO dv sn ch bg rd lo hi td fd pd ep sv] ++ gmR ws ++ [gmS s3 tx]) fun v own =>
      own = [guS c1 c2 c3 c4 c5 c6 nd fr hd qn wt tk dg db de dr dO dv sn ch bg rd lo hi td fd pd ep sv] ++ gmR ws ++ [gmS s3 tx] := by
  refine fn_of_vc eOk fOk fo42 Tryz.func42 rfl rfl rfl fun B hB => ?_
  intro _ _ _ _ _ _ _ _ _ _ _ _ _ _ _ _ _ _ _ _ _ _ _ _ _ _ _ _ _ _ _ _ _ _ _ _ _ _ _ _ hcode ret hret
  cbv
  refine hcode _ _ _ (CodeEv.loop eOk fOk (ι := Unit) (fun _ => [(0, .own 3 0), (1, .p .nils), (2, .p (.int .i64 how)), (6, .p (.int .i64 0))])
    (fun _ => [guS c1 c2 c3 c4 c5 c6 nd fr hd qn wt tk dg db de dr dO dv sn ch bg rd lo hi td fd pd ep sv] ++ gmR ws ++ [gmS s3 tx]) (fun _ => True) (fun _ => 0) () ?_ ?_)
  · exact ⟨(by repeat (first | exact trivial | refine And.intro rfl ?_)), rfl, trivial⟩
  rintro ⟨⟩ _ rd1 hrd1
  intro _ _ _ _ _ _ _ _ _ _ _ _ _ _ _ _ _ _ _ _ _ _ _ hA1 _ _ _ _ _ _ _ _ _ _ hL1 _ _ _ _ _ _
  cbv
  repeat (first | (refine vcIf.yes ?_ ?_; (focus (simp [smW hA1 hL1]; done)); cbv) | (refine vcIf.no ?_ ?_; (focus (simp [smW hA1 hL1]; done)); cbv))
  exact hret _ (RetEv.ret eOk rfl rfl)
theorem gmAnswerV (c1 c2 c3 c4 c5 c6 fr hd qn tk dg db de dr dv : Int) (sn ch : PV) (rd : PV) (lo hi : List UInt8) (td fd : PV) (ep sv : Int) (ws : List PV) (s3 : Int) (tx : PV) (to e0 : Int) (hto : 60 ≤ to) :
    FnL Tryz.prog 34 [.own 3 0, .p (msP 1 100 to e0 qn 1 0 (.sl []))] ([guS c1 c2 c3 c4 c5 c6 100 fr hd qn 1 tk dg db de dr 0 dv sn ch true rd lo hi td fd (.sl [msP 1 100 to e0 qn 1 0 (.sl [])]) ep sv] ++ gmR ws ++ [gmS s3 tx]) fun v own =>
      own = [guS c1 c2 c3 c4 c5 c6 100 fr hd qn 0 tk dg db de 30 0 dv sn ch true rd lo hi td fd (.sl [msP 1 100 to e0 qn 1 0 (.sl [])]) 9 to] ++ gmR ws ++ [gmS s3 tx] := by
  have htk := FnL.wk (xs := [.own 0 0, .p (msP 2 to 100 9 qn 0 30 .nils)]) (guTakeV c1 c2 c3 c4 c5 c6 100 fr hd qn tk dg db de dr dv sn ch rd lo hi td fd ep sv to 9 30 e0)
    ⟨.refl _, .p (PW.agg ⟨.refl _, .refl _, .refl _, .refl _, .refl _, .refl _, .refl _, PW.nils, trivial⟩), trivial⟩
  have hse := gmSend0 c1 c2 c3 c4 c5 c6 100 fr hd qn 0 tk dg db de 30 0 dv sn ch true rd lo hi td fd (.sl [msP 1 100 to e0 qn 1 0 (.sl [])]) 9 to ws s3 tx 0
  refine fn_of_vc eOk fOk fo34 Tryz.func34 rfl rfl rfl fun B hB => ?_
  intro _ _ _ _ _ _ _ _ _ _ _ _ _ _ _ _ _ _ _ _ _ _ _ hA _ _ sl _ _ _ _ _ _ _ hL _ _ _ _ _ hcode ret hret
  cbv
  repeat (first | (refine vcIf.yes ?_ ?_; (focus (simp [smW hA hL, hto]; done)); cbv) | (refine vcIf.no ?_ ?_; (focus (simp [smW hA hL, hto]; done)); cbv))
  refine hcode _ _ _ (CodeEv.drawT eOk fOk (by kernel_rfl) (Xof 6 [0, 1, 2, 3]) (.rd 0 (.rd 1 (.rd 2 (.rd 3 (.rd 5 (.so 4 (.acts (.cons 6 (.acts (.cons 7 (.done) (.nil))) (.nil))))))))) (by kernel_rfl) (by kernel_rfl) ?_)
  intro _ _ _ _ _ _ _ _ _ _ _ _ _ _ _ _ _ _ _ _ _ _ _ _ _ _ _ _ _ _ _ _ _ _ _ _ _ _ hcall2 _ _ _ hq2
  cbv
  refine hcall2 _ _ _ _ _ (CallEv.lend [0] htk rfl (.cons (.own 0 0 0 rfl) (.cons (.p _) .nil)) (guL rfl) ?_)
  rintro _ _ ⟨rfl, rfl⟩
  cbv
  refine hcall2 _ _ _ _ _ (CallEv.lend [0, 1, 2, 3] hse rfl (.cons (.own 3 3 0 rfl) (.cons (.p _) (.cons (.p _) .nil))) (gmT rfl rfl rfl rfl rfl rfl rfl) ?_)
  rintro _ _ rfl
  cbv
  refine hq2 _ ?_
  cbv
  exact hret _ (RetEv.convW (ConvW.pack [0, 1, 2, 3] hB rfl) (RetEv.ret eOk rfl rfl))
theorem awake21_spec : FnL Tryz.prog 14 [] [] fun z own => z = .p (.bool true) ∧ own = [] := by
  refine FnL.flat (R := fun z own => z = .p (.bool true)) ?_ (fun v own' h => ⟨_, _, h, .refl _, rfl, rfl⟩)
  have hbg := gmBegin_spec 1 (by decide)
  have hst := guBegin_spec 1 1 1 2 1 1 100 60 0 0 1 0 0 0 0 0 0 0 .nils .nils false .nils [] [] .nils .nils .nils 0 0 (by decide) (by decide) (by decide) (by decide)
  rw [show (100 : Int) - 100 = 0 by decide] at hst
  have han := fun ws => gmAnswerV 1 1 1 2 1 1 60 0 1 0 0 0 0 0 0 .nils .nils .nils [] [] .nils .nils 0 0 ws 1 .nils 60 0 (by decide)
  have hdd := guDeed0 1 1 1 2 1 1 100 60 0 1 0 0 0 0 0 30 0 0 true .nils [] [] .nils .nils (.sl [msP 1 100 60 0 1 1 0 (.sl [])]) 9 60
  refine fn_of_vc eOk fOk fo14 Tryz.func14 rfl rfl rfl fun B hB => ?_
  intro _ _ _ _ _ _ _ _ _ _ _ _ _ _ _ _ _ _ _ _ _ _ _ hA _ _ sl _ _ _ _ len _ _ hL _ _ _ hcall _ _ ret hret
  cbv
  refine hcall _ _ _ _ _ (CallEv.same hbg rfl ?_)
  rintro _ _ ⟨ws, hws, rfl, rfl⟩
  have han := han ws
  clear hws
  cbv
  repeat (first | (refine vcIf.yes ?_ ?_; (focus (simp [smW hA hL]; done)); cbv) | (refine vcIf.no ?_ ?_; (focus (simp [smW hA hL]; done)); cbv))
  refine hcall _ _ _ _ _ (CallEv.lend [0] hst rfl (.cons (.own 0 0 0 rfl) .nil) (guL rfl) ?_)
  rintro _ _ ⟨rfl, rfl⟩
  cbv
  have hl1 : len [msP 1 100 60 0 1 1 0 (.sl [])] = 1 := by rw [hL.len]; rfl
  repeat (first | (refine vcIf.yes ?_ ?_; (focus (simp [smW hA hL]; done)); cbv) | (refine vcIf.no ?_ ?_; (focus (simp [smW hA hL]; done)); cbv))
  refine ⟨0, _, rfl, rfl, rfl, ?_⟩
  cbv
  repeat (first | (refine vcIf.yes ?_ ?_; (focus (simp [smW hA hL]; done)); cbv) | (refine vcIf.no ?_ ?_; (focus (simp [smW hA hL]; done)); cbv))
  refine ⟨0, _, rfl, rfl, rfl, ?_⟩
  cbv
  repeat (first | (refine vcIf.yes ?_ ?_; (focus (simp [smW hA hL]; done)); cbv) | (refine vcIf.no ?_ ?_; (focus (simp [smW hA hL]; done)); cbv))
  refine ⟨0, _, rfl, rfl, rfl, ?_⟩
  cbv
  repeat (first | (refine vcIf.yes ?_ ?_; (focus (simp [smW hA hL]; done)); cbv) | (refine vcIf.no ?_ ?_; (focus (simp [smW hA hL]; done)); cbv))
  refine ⟨0, _, rfl, rfl, rfl, ?_⟩
  cbv
  refine hcall _ _ _ _ _ (CallEv.lend [0, 1, 2, 3] han rfl (.cons (.own 3 3 0 rfl) (.cons (.p _) .nil)) (gmT rfl rfl rfl rfl rfl rfl rfl) ?_)
  rintro _ _ rfl
  cbv
  refine hcall _ _ _ _ _ (CallEv.lend [0] hdd rfl (.cons (.own 0 0 0 rfl) .nil) (guL rfl) ?_)
  rintro _ _ ⟨z, hz, rfl, rfl⟩
  obtain rfl : z = false := hz
  cbv
  repeat (first | (refine vcIf.yes ?_ ?_; (focus (simp [smW hA hL]; done)); cbv) | (refine vcIf.no ?_ ?_; (focus (simp [smW hA hL]; done)); cbv))
  exact hret _ (RetEv.ret eOk rfl (by simp [smW hA hL, oneOf]))
end Go.Proofs.YtegkojnngdlfaaaGreat
end
section
namespace Go.Proofs.YtegkojnngdlfaaaGreat
open Go Go.Lx
end Go.Proofs.YtegkojnngdlfaaaGreat
end
section
namespace Go.Proofs.YtegkojnngdlfaaaGreat
open Go Go.Lx
structure Sg where
  a : Int
  b : Int
  c : Int
  d : Int
  e : Int
  f : Int
def Sg.v (s : Sg) : PV := .agg [.int .i64 s.a, .int .i64 s.b, .int .i64 s.c, .int .i64 s.d, .int .i64 s.e, .int .i64 s.f]
structure Mg where
  k : Int
  f : Int
  t : Int
  e : Int
  a : Int
  b : Int
  c : Int
  body : List UInt8
def Mg.v (m : Mg) : PV := .agg [.int .i64 m.k, .int .i64 m.f, .int .i64 m.t, .int .i64 m.e, .int .i64 m.a, .int .i64 m.b, .int .i64 m.c, .sl (bP m.body)]
end Go.Proofs.YtegkojnngdlfaaaGreat
end
