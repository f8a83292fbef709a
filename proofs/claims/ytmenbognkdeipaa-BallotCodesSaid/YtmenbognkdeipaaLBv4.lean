/- Vows compared; the simplest facts; what is read of what was laid. Conditions: on sizes. -/
import Derived.Test.YtmenbognkdeipaaLBv3
import Derived.Test.YtmenbognkdeipaaLFt8
import Derived.Test.YtmenbognkdeipaaLFr9
import Derived.Test.YtmenbognkdeipaaLFk1
set_option maxRecDepth 100000
set_option maxHeartbeats 4000000
set_option linter.unusedSimpArgs false
set_option linter.unusedVariables false
namespace Go.Proofs.Ytmenbognkdeipaa
open Go Go.Lx
open Go.Sx (vcIf)

theorem balEq (a b a' b' : Int) : eqF Try.prog [PV.int .i64 a, PV.int .i64 b] [PV.int .i64 a', PV.int .i64 b'] (Try.prog.fieldsOf 37).toList = some (decide (a = a') && (decide (b = b') && true)) := by kernel_rfl
theorem sameVow_spec (w : Vw4) (hs : w.s.fit) (x : PV) (hx : VwIs w x) : FnL Try.prog 21 [.p x, .p x] [] fun v own => v = .p (.bool true) := by
  obtain ⟨zs, hz, rfl⟩ := hx
  have hi := sameState_spec w.s hs _ ⟨zs, hz, rfl⟩
  obtain ⟨pn, pd, an, ad, ⟨g, e, r, ch⟩⟩ := w
  simp only at hi ⊢
  refine fn_of_vc eOk fOk fo21 Try.func21 rfl rfl rfl fun B hB => ?_
  intro add sub mul quo rem band bor bxor bclr shl shr ieq ilt ile seq slt beq bnot orb bcond iwrap iof ssz hA cat sq sl imin imax smin smax len slen u8 hL op hop call hcall code hcode ret hret
  cbv
  refine hop _ _ _ _ (OpEv.aggEq (b := true) rfl rfl rfl (by kernel_rfl) (by kernel_rfl) (by kernel_rfl) ((balEq pn pd pn pd).trans (by simp)) ?_)
  cbv
  repeat (first | (refine vcIf.yes ?_ ?_; (focus (simp [hA.not, hA.eq, hA.lt, hA.le, hA.cond, hA.beq, hA.orb, hL.len, hL.slen, hL.sq]; done)); cbv) | (refine vcIf.no ?_ ?_; (focus (simp [hA.not, hA.eq, hA.lt, hA.le, hA.cond, hA.beq, hA.orb, hL.len, hL.slen, hL.sq]; done)); cbv) | fail)
  refine hop _ _ _ _ (OpEv.aggEq (b := true) rfl rfl rfl (by kernel_rfl) (by kernel_rfl) (by kernel_rfl) ((balEq an ad an ad).trans (by simp)) ?_)
  cbv
  repeat (first | (refine vcIf.yes ?_ ?_; (focus (simp [hA.not, hA.eq, hA.lt, hA.le, hA.cond, hA.beq, hA.orb, hL.len, hL.slen, hL.sq]; done)); cbv) | (refine vcIf.no ?_ ?_; (focus (simp [hA.not, hA.eq, hA.lt, hA.le, hA.cond, hA.beq, hA.orb, hL.len, hL.slen, hL.sq]; done)); cbv) | fail)
  refine hcall _ _ _ _ _ (CallEv.same hi rfl ?_)
  rintro _ _ rfl
  cbv
  exact hret _ (RetEv.ret eOk rfl (by simp [hA.not, hA.eq, hA.lt, hA.le, hA.cond, hA.beq, hA.orb, hL.len, hL.slen, hL.sq, oneOf]))
theorem cloneNil_spec : FnL Try.prog 96 [.p .nils] [] fun v own => v = .p .nils ∧ own = [] := by
  refine fn_of_vc eOk fOk fo96 Try.func96 rfl rfl rfl fun B hB => ?_
  intro add sub mul quo rem band bor bxor bclr shl shr ieq ilt ile seq slt beq bnot orb bcond iwrap iof ssz hA cat sq sl imin imax smin smax len slen u8 hL op hop call hcall code hcode ret hret
  cbv
  exact hret _ (RetEv.ret eOk rfl ⟨rfl, rfl⟩)
theorem vclone_spec (a b c d e f g : Int) : FnL Try.prog 87 [.p (.agg [.int .i64 a, .int .i64 b, .int .i64 c, .int .i64 d, .int .i64 e, .int .i64 f, .int .i64 g, .nils])] [] fun v own => v = .p (.agg [.int .i64 a, .int .i64 b, .int .i64 c, .int .i64 d, .int .i64 e, .int .i64 f, .int .i64 g, .nils]) ∧ own = [] := by
  refine FnL.flat (R := fun v own => v = .p (.agg [.int .i64 a, .int .i64 b, .int .i64 c, .int .i64 d, .int .i64 e, .int .i64 f, .int .i64 g, .nils])) ?_ (by rintro _ _ rfl; exact ⟨_, _, rfl, .refl _, rfl, rfl⟩)
  refine fn_of_vc eOk fOk fo87 Try.func87 rfl rfl rfl fun B hB => ?_
  intro add sub mul quo rem band bor bxor bclr shl shr ieq ilt ile seq slt beq bnot orb bcond iwrap iof ssz hA cat sq sl imin imax smin smax len slen u8 hL op hop call hcall code hcode ret hret
  cbv
  refine hcall _ _ _ _ _ (CallEv.same cloneNil_spec rfl ?_)
  rintro _ _ ⟨rfl, rfl⟩
  cbv
  exact hret _ (RetEv.ret eOk rfl rfl)
theorem promise_spec : FnL Try.prog 60 [.p (.agg [.int .i64 0, .int .i64 0, .int .i64 0, .int .i64 0, .int .i64 0, .int .i64 0, .int .i64 0, .nils]), .p (.agg [.int .i64 1, .int .i64 0])] [] fun v own => v = .p (.tup [.agg [.int .i64 1, .int .i64 0, .int .i64 0, .int .i64 0, .int .i64 0, .int .i64 0, .int .i64 0, .nils], .bool true]) ∧ own = [] := by
  refine FnL.flat (R := fun v own => v = .p (.tup [.agg [.int .i64 1, .int .i64 0, .int .i64 0, .int .i64 0, .int .i64 0, .int .i64 0, .int .i64 0, .nils], .bool true])) ?_ (by rintro _ _ rfl; exact ⟨_, _, rfl, .refl _, rfl, rfl⟩)
  refine fn_of_vc eOk fOk fo60 Try.func60 rfl rfl rfl fun B hB => ?_
  intro add sub mul quo rem band bor bxor bclr shl shr ieq ilt ile seq slt beq bnot orb bcond iwrap iof ssz hA cat sq sl imin imax smin smax len slen u8 hL op hop call hcall code hcode ret hret
  cbv
  refine hcall _ _ _ _ _ (CallEv.same (vclone_spec 0 0 0 0 0 0 0) rfl ?_)
  rintro _ _ ⟨rfl, rfl⟩
  cbv
  refine hcall _ _ _ _ _ (CallEv.same (blLess_spec 0 0 1 0) rfl ?_)
  rintro _ _ ⟨x, hx, rfl, rfl⟩
  obtain rfl : x = true := hx.trans (by decide)
  cbv
  repeat (first | (refine vcIf.yes ?_ ?_; (focus (simp [hA.not, hA.eq, hA.lt, hA.le, hA.cond, hA.beq, hA.orb, hL.len, hL.slen, hL.sq]; done)); cbv) | (refine vcIf.no ?_ ?_; (focus (simp [hA.not, hA.eq, hA.lt, hA.le, hA.cond, hA.beq, hA.orb, hL.len, hL.slen, hL.sq]; done)); cbv) | fail)
  exact hret _ (RetEv.ret eOk rfl rfl)
theorem take_spec : FnL Try.prog 61 [.p (.agg [.int .i64 1, .int .i64 0, .int .i64 0, .int .i64 0, .int .i64 0, .int .i64 0, .int .i64 0, .nils]), .p (.agg [.int .i64 1, .int .i64 0]), .p (.agg [.int .i64 3, .int .i64 0, .int .i64 0, .nils])] [] fun v own => v = .p (.tup [.agg [.int .i64 1, .int .i64 0, .int .i64 1, .int .i64 0, .int .i64 3, .int .i64 0, .int .i64 0, .nils], .bool true]) ∧ own = [] := by
  refine FnL.flat (R := fun v own => v = .p (.tup [.agg [.int .i64 1, .int .i64 0, .int .i64 1, .int .i64 0, .int .i64 3, .int .i64 0, .int .i64 0, .nils], .bool true])) ?_ (by rintro _ _ rfl; exact ⟨_, _, rfl, .refl _, rfl, rfl⟩)
  refine fn_of_vc eOk fOk fo61 Try.func61 rfl rfl rfl fun B hB => ?_
  intro add sub mul quo rem band bor bxor bclr shl shr ieq ilt ile seq slt beq bnot orb bcond iwrap iof ssz hA cat sq sl imin imax smin smax len slen u8 hL op hop call hcall code hcode ret hret
  cbv
  refine hcall _ _ _ _ _ (CallEv.same (blLess_spec 1 0 1 0) rfl ?_)
  rintro _ _ ⟨x, hx, rfl, rfl⟩
  obtain rfl : x = false := hx.trans (by decide)
  cbv
  repeat (first | (refine vcIf.yes ?_ ?_; (focus (simp [hA.not, hA.eq, hA.lt, hA.le, hA.cond, hA.beq, hA.orb, hL.len, hL.slen, hL.sq]; done)); cbv) | (refine vcIf.no ?_ ?_; (focus (simp [hA.not, hA.eq, hA.lt, hA.le, hA.cond, hA.beq, hA.orb, hL.len, hL.slen, hL.sq]; done)); cbv) | fail)
  refine hcall _ _ _ _ _ (CallEv.same (vclone_spec 1 0 1 0 3 0 0) rfl ?_)
  rintro _ _ ⟨rfl, rfl⟩
  cbv
  exact hret _ (RetEv.ret eOk rfl rfl)
structure BI where
  i : Nat
  a : Int
  b : Int
  c : Int
  d : Int
  g : Int
theorem best_spec (vs : List PV) (hl : vs.length = 2) (h0 : vs[0]? = some (.agg [.int .i64 1, .int .i64 0, .int .i64 0, .int .i64 0, .int .i64 0, .int .i64 0, .int .i64 0, .nils])) (h1 : vs[1]? = some (.agg [.int .i64 1, .int .i64 0, .int .i64 1, .int .i64 0, .int .i64 3, .int .i64 0, .int .i64 0, .nils])) :
    FnL Try.prog 62 [.p (.sl vs)] [] fun v own => v = .p (.agg [.int .i64 3, .int .i64 0, .int .i64 0, .nils]) ∧ own = [] := by
  refine FnL.flat (R := fun v own => v = .p (.agg [.int .i64 3, .int .i64 0, .int .i64 0, .nils])) ?_ (by rintro _ _ rfl; exact ⟨_, _, rfl, .refl _, rfl, rfl⟩)
  have hle0 := blLess_spec 0 0 0 0
  have hle1 := blLess_spec 0 0 1 0
  refine fn_of_vc eOk fOk fo62 Try.func62 rfl rfl rfl fun B hB => ?_
  intro add sub mul quo rem band bor bxor bclr shl shr ieq ilt ile seq slt beq bnot orb bcond iwrap iof ssz hA cat sq sl imin imax smin smax len slen u8 hL op hop call hcall code hcode ret hret
  have hlen : len vs = Int.ofNat 2 := by rw [hL.len, hl]; rfl
  cbv
  rw [hlen]
  refine hcode _ _ _ (CodeEv.loop eOk fOk (ι := BI) (fun s => [(2, .own 0 0), (3, .own 1 0), (7, .p (.sl vs)), (8, .p (.int .i64 (Int.ofNat 2))), (9, .p (.int .i64 (Int.ofNat s.i)))])
    (fun s => [.st 40 [.p (.int .i64 0), .p (.int .i64 0), .p (.int .i64 0), .p .nils], .st 42 [.p (.int .i64 s.a), .p (.int .i64 s.b), .p (.int .i64 s.c), .p (.int .i64 s.d), .p (.int .i64 s.g), .p (.int .i64 0), .p (.int .i64 0), .p .nils]])
    (fun s => s = ⟨0, 0, 0, 0, 0, 0⟩ ∨ s = ⟨1, 0, 0, 0, 0, 0⟩ ∨ s = ⟨2, 1, 0, 1, 0, 3⟩) (fun s => 2 - s.i) ⟨0, 0, 0, 0, 0, 0⟩ ?_ ?_)
  · exact ⟨(by repeat (first | exact trivial | refine And.intro rfl ?_)), rfl, .inl rfl⟩
  rintro _ (rfl | rfl | rfl) rd hrd
  · simp only
    intro add1 sub1 mul1 quo1 rem1 band1 bor1 bxor1 bclr1 shl1 shr1 ieq1 ilt1 ile1 seq1 slt1 beq1 bnot1 orb1 bcond1 iwrap1 iof1 ssz1 hA1 cat1 sq1 sl1 imin1 imax1 smin1 smax1 len1 slen1 u81 hL1 op1 hop1 call1 hcall1 code1 hcode1
    have hadd1 : add1 .i64 (Int.ofNat 0) 1 = Int.ofNat 1 := by rw [hA1.add, IntWalk.i64_in _ (by decide)]; rfl
    cbv
    refine vcIf.yes (by rw [hA1.lt]; decide) ?_
    cbv
    refine ⟨0, _, rfl, h0, rfl, ?_⟩
    cbv
    refine hcall1 _ _ _ _ _ (CallEv.same hle0 rfl ?_)
    rintro _ _ ⟨x, hx, rfl, rfl⟩
    obtain rfl : x = false := hx.trans (by decide)
    cbv
    refine hrd _ ⟨⟨1, 0, 0, 0, 0, 0⟩, _, by decide, .inr (.inl rfl), rfl, ⟨rfl, rfl, rfl, rfl, ?_, trivial⟩, rfl, rfl, rfl, ?_⟩
    · show some (V.p (.int .i64 _)) = _
      exact congrArg (fun x => some (V.p (.int .i64 x))) hadd1
    · rw [hB]; exact Nat.zero_le _
  · simp only
    intro add1 sub1 mul1 quo1 rem1 band1 bor1 bxor1 bclr1 shl1 shr1 ieq1 ilt1 ile1 seq1 slt1 beq1 bnot1 orb1 bcond1 iwrap1 iof1 ssz1 hA1 cat1 sq1 sl1 imin1 imax1 smin1 smax1 len1 slen1 u81 hL1 op1 hop1 call1 hcall1 code1 hcode1
    have hadd1 : add1 .i64 (Int.ofNat 1) 1 = Int.ofNat 2 := by rw [hA1.add, IntWalk.i64_in _ (by decide)]; rfl
    cbv
    refine vcIf.yes (by rw [hA1.lt]; decide) ?_
    cbv
    refine ⟨1, _, rfl, h1, rfl, ?_⟩
    cbv
    refine hcall1 _ _ _ _ _ (CallEv.same hle1 rfl ?_)
    rintro _ _ ⟨x, hx, rfl, rfl⟩
    obtain rfl : x = true := hx.trans (by decide)
    cbv
    refine hrd _ ⟨⟨2, 1, 0, 1, 0, 3⟩, _, by decide, .inr (.inr rfl), rfl, ⟨rfl, rfl, rfl, rfl, ?_, trivial⟩, rfl, rfl, rfl, ?_⟩
    · show some (V.p (.int .i64 _)) = _
      exact congrArg (fun x => some (V.p (.int .i64 x))) hadd1
    · rw [hB]; exact Nat.zero_le _
  · simp only
    intro add1 sub1 mul1 quo1 rem1 band1 bor1 bxor1 bclr1 shl1 shr1 ieq1 ilt1 ile1 seq1 slt1 beq1 bnot1 orb1 bcond1 iwrap1 iof1 ssz1 hA1 cat1 sq1 sl1 imin1 imax1 smin1 smax1 len1 slen1 u81 hL1 op1 hop1 call1 hcall1 code1 hcode1
    cbv
    refine vcIf.no (by rw [hA1.lt]; decide) ?_
    cbv
    refine hcall _ _ _ _ _ (CallEv.same (vclone_spec 1 0 1 0 3 0 0) rfl ?_)
    rintro _ _ ⟨rfl, rfl⟩
    cbv
    exact hret _ (RetEv.ret eOk rfl rfl)
end Go.Proofs.Ytmenbognkdeipaa
