/- What the facts of verdict answer: the simplest ones, and VerdictBoth. Conditions: on sizes. -/
import Derived.Test.YtocmeaamaecgeaaLVr4
import Derived.Test.YtocmeaamaecgeaaLVd3
import Derived.Test.YtocmeaamaecgeaaLInts
set_option maxRecDepth 100000
set_option maxHeartbeats 4000000
set_option linter.unusedSimpArgs false
set_option linter.unusedVariables false
namespace Go.Proofs.Ytocmeaamaecgeaa
open Go Go.Lx
open Go.Sx (vcIf)

theorem fnW1 {f : FuncId} {x y : PV} {own : List Res} {R : V → List Res → Prop} (h : FnL Try.prog f [.p y] own R) (hw : PW x y) : FnL Try.prog f [.p x] own R :=
  ⟨h.1, fun H E Fs vals h1 h2 h3 h4 => h.2 H E Fs vals h1 h2 h3 ⟨h4.1, fun i c v hc hv => by
    match i, hc with
    | 0, hc =>
      simp at hc; subst hc
      cases h4.2 0 (.p x) v rfl hv with
      | p _ _ hd => exact .p _ _ (hw _ _ hd)⟩⟩

theorem awake14_spec : FnL Try.prog 11 [] [] fun z own => z = .p (.bool true) ∧ own = [] := by
  have hb := fun zs hzs => vBoth_spec [[1, 1], [2, 1]] (by decide) (by decide) zs hzs
  rw [show bothE [[1, 1], [2, 1]] = 0 by decide, show bothR [[1, 1], [2, 1]] = [2, 1] by decide] at hb
  have hc := fun xs zs hxs hzs => vCheck_spec ⟨-1, [], []⟩ ⟨by decide, by simp, by decide, by decide⟩ xs zs hxs hzs
  rw [show Tx.chk ⟨-1, [], []⟩ = 1 by decide] at hc
  have hc := fnW1 (x := .agg [.int .i64 (-1), .nils, .nils]) (hc _ _ rfl rfl) (.agg ⟨.refl _, .nils, .nils, trivial⟩)
  refine FnL.flat (R := fun z own => z = .p (.bool true)) ?_ (fun v own' h => ⟨_, _, h, .refl _, rfl, rfl⟩)
  refine fn_of_vc eOk fOk fo11 Try.func11 rfl rfl rfl fun B hB => ?_
  intro add sub mul quo rem band bor bxor bclr shl shr ieq ilt ile seq slt beq bnot orb bcond iwrap iof ssz hA cat sq sl imin imax smin smax len slen u8 hL op hop call hcall code hcode ret hret
  cbv
  refine ⟨false, ?_⟩
  cbv
  refine ⟨false, ?_⟩
  cbv
  refine ⟨false, ?_⟩
  cbv
  refine hcall _ _ _ _ _ (CallEv.same (hb _ rfl) rfl ?_)
  rintro _ _ ⟨rfl, rfl⟩
  cbv
  repeat (first | (refine vcIf.yes ?_ ?_; (focus (simp [hA.not, hA.eq, hA.lt, hA.le, hA.cond, hA.beq, hA.orb, hL.len, hL.slen, hL.sq]; done)); cbv) | (refine vcIf.no ?_ ?_; (focus (simp [hA.not, hA.eq, hA.lt, hA.le, hA.cond, hA.beq, hA.orb, hL.len, hL.slen, hL.sq]; done)); cbv) | fail)
  refine ⟨0, _, rfl, rfl, rfl, ?_⟩
  cbv
  repeat (first | (refine vcIf.yes ?_ ?_; (focus (simp [hA.not, hA.eq, hA.lt, hA.le, hA.cond, hA.beq, hA.orb, hL.len, hL.slen, hL.sq]; done)); cbv) | (refine vcIf.no ?_ ?_; (focus (simp [hA.not, hA.eq, hA.lt, hA.le, hA.cond, hA.beq, hA.orb, hL.len, hL.slen, hL.sq]; done)); cbv) | fail)
  refine ⟨1, _, rfl, rfl, rfl, ?_⟩
  cbv
  repeat (first | (refine vcIf.yes ?_ ?_; (focus (simp [hA.not, hA.eq, hA.lt, hA.le, hA.cond, hA.beq, hA.orb, hL.len, hL.slen, hL.sq]; done)); cbv) | (refine vcIf.no ?_ ?_; (focus (simp [hA.not, hA.eq, hA.lt, hA.le, hA.cond, hA.beq, hA.orb, hL.len, hL.slen, hL.sq]; done)); cbv) | fail)
  refine hcall _ _ _ _ _ (CallEv.same hc rfl ?_)
  rintro _ _ ⟨e, rfl, rfl, rfl⟩
  cbv
  exact hret _ (RetEv.ret eOk rfl (by simp [hA.not, hA.eq, hA.lt, hA.le, hA.cond, hA.beq, hA.orb, hL.len, hL.slen, hL.sq, oneOf]))

theorem verdictBoth (ls : List (List Int)) (hk : ls.length * 24 ≤ 140737488355328) (hn : ∀ l ∈ ls, l.length * 8 ≤ 140737488355328 ∧ True) :
    FnL Try.prog 3 [.p (.sl (llP ls))] [] fun z own => z = .p (.bool true) ∧ own = [] := by
  refine FnL.flat (R := fun z own => z = .p (.bool true)) ?_ (fun v own' h => ⟨_, _, h, .refl _, rfl, rfl⟩)
  obtain ⟨zs, hzs⟩ : ∃ zs, zs = llP ls := ⟨_, rfl⟩
  have h1 := vBoth_spec ls (by omega) (fun l h => by have := (hn l h).1; omega) zs hzs
  have h2 := rBoth_spec ls (by omega) (fun l h => (hn l h).1) zs hzs
  have hlb : (bothR ls).length < 9223372036854775807 := by
    unfold bothR
    split
    · simp only [bothL, List.length_map, List.length_range]
      cases ls with
      | nil => simp [wid]
      | cons l r => have := (hn l (by simp)).1; simp only [wid, List.headD_cons]; omega
    · decide
  have h3 := ints_spec (bothR ls) (bothR ls) hlb
  rw [← hzs]
  obtain ⟨rs, hrs⟩ : ∃ rs, rs = iP (bothR ls) := ⟨_, rfl⟩
  obtain ⟨e, he⟩ : ∃ e, e = bothE ls := ⟨_, rfl⟩
  rw [← hrs, ← he] at h1 h2
  rw [← hrs, decide_eq_true rfl] at h3
  refine fn_of_vc eOk fOk fo3 Try.func3 rfl rfl rfl fun B hB => ?_
  intro add sub mul quo rem band bor bxor bclr shl shr ieq ilt ile seq slt beq bnot orb bcond iwrap iof ssz hA cat sq sl imin imax smin smax len slen u8 hL op hop call hcall code hcode ret hret
  cbv
  refine hcall _ _ _ _ _ (CallEv.same h1 rfl ?_)
  rintro _ _ ⟨rfl, rfl⟩
  cbv
  refine hcall _ _ _ _ _ (CallEv.same h2 rfl ?_)
  rintro _ _ ⟨rfl, rfl⟩
  cbv
  refine hcall _ _ _ _ _ (CallEv.same awake14_spec rfl ?_)
  rintro _ _ ⟨rfl, rfl⟩
  cbv
  repeat (first | (refine vcIf.yes ?_ ?_; (focus (simp [hA.not, hA.eq, hA.lt, hA.le, hA.cond, hA.beq, hA.orb, hL.len, hL.slen, hL.sq]; done)); cbv) | (refine vcIf.no ?_ ?_; (focus (simp [hA.not, hA.eq, hA.lt, hA.le, hA.cond, hA.beq, hA.orb, hL.len, hL.slen, hL.sq]; done)); cbv) | fail)
  refine hcall _ _ _ _ _ (CallEv.same h3 rfl ?_)
  rintro _ _ ⟨rfl, rfl⟩
  cbv
  exact hret _ (RetEv.ret eOk rfl (by simp [hA.not, hA.eq, hA.lt, hA.le, hA.cond, hA.beq, hA.orb, hL.len, hL.slen, hL.sq, oneOf]))

theorem verdictChecks (t : Tx) (ht : t.fit) :
    FnL Try.prog 4 [.p t.v] [] fun z own => z = .p (.bool true) ∧ own = [] := by
  refine FnL.flat (R := fun z own => z = .p (.bool true)) ?_ (fun v own' h => ⟨_, _, h, .refl _, rfl, rfl⟩)
  have h1 := vCheck_spec t ht _ _ rfl rfl
  have h2 := rvCheck_spec t ht _ _ rfl rfl
  obtain ⟨e, he⟩ : ∃ e, e = t.chk := ⟨_, rfl⟩
  rw [← he] at h1 h2
  unfold Tx.v
  obtain ⟨xs, hxs⟩ : ∃ x, x = pP t.sp := ⟨_, rfl⟩
  obtain ⟨zs, hzs⟩ : ∃ x, x = cP t.ch := ⟨_, rfl⟩
  obtain ⟨r, hr⟩ : ∃ x, x = t.r := ⟨_, rfl⟩
  rw [← hxs, ← hzs, ← hr] at h1 h2 ⊢
  refine fn_of_vc eOk fOk fo4 Try.func4 rfl rfl rfl fun B hB => ?_
  intro add sub mul quo rem band bor bxor bclr shl shr ieq ilt ile seq slt beq bnot orb bcond iwrap iof ssz hA cat sq sl imin imax smin smax len slen u8 hL op hop call hcall code hcode ret hret
  cbv
  refine hcode _ _ _ (CodeEv.drawT eOk fOk (by kernel_rfl) noX (.acts (.cons 0 (.so 1 (.rd 2 (.rd 4 (.acts (.cons 3 (.acts (.cons 5 (.so 6 (.so 7 (.so 8 (.done)))) (.nil))) (.nil)))))) (.nil))) (by kernel_rfl) (by kernel_rfl) ?_)
  intro add1 sub1 mul1 quo1 rem1 band1 bor1 bxor1 bclr1 shl1 shr1 ieq1 ilt1 ile1 seq1 slt1 beq1 bnot1 orb1 bcond1 iwrap1 iof1 ssz1 hA1 cat1 sq1 sl1 imin1 imax1 smin1 smax1 len1 slen1 u81 hL1 op1 hop1 call1 hcall1 code1 hcode1 q1 hq1
  cbv
  refine hcall1 _ _ _ _ _ (CallEv.same awake14_spec rfl ?_)
  rintro _ _ ⟨rfl, rfl⟩
  cbv
  refine hcall1 _ _ _ _ _ (CallEv.same h1 rfl ?_)
  rintro _ _ ⟨e1, q1, rfl, rfl⟩
  cbv
  refine hcall1 _ _ _ _ _ (CallEv.same h2 rfl ?_)
  rintro _ _ ⟨e2, q2, rfl, rfl⟩
  cbv
  refine hq1 _ ?_
  cbv
  exact hret _ (RetEv.ret eOk rfl (by simp [hA1.not, hA1.eq, hA1.lt, hA1.le, hA1.cond, hA1.beq, hA1.orb, hL1.len, hL1.slen, hL1.sq, oneOf, q1, q2]))
end Go.Proofs.Ytocmeaamaecgeaa
