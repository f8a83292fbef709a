/- The walk of the law TapeNone; the simplest facts of a tape. Conditions: on sizes. -/
import Derived.Test.YtgblimlnkefllaaLTape5
set_option maxRecDepth 100000
set_option maxHeartbeats 4000000
set_option linter.unusedSimpArgs false
set_option linter.unusedVariables false
namespace Go.Proofs.Ytgblimlnkefllaa
open Go Go.Lx
open Go.Sx (vcIf)

theorem crash_nil (k x : Int) : FnL Try.prog 14 [.p .nilp, .p (.int .i64 k), .p (.int .u8 x)] [] fun v own => own = [] := by
  refine fn_of_vc eOk fOk fo14 Try.func14 rfl rfl rfl fun B hB => ?_
  intro add sub mul quo rem band bor bxor bclr shl shr ieq ilt ile seq slt beq bnot orb bcond iwrap iof ssz hA cat sq sl imin imax smin smax len slen u8 hL op hop call hcall code hcode ret hret
  cbv
  exact hret _ (RetEv.ret eOk rfl rfl)

theorem awake6_spec : FnL Try.prog 11 [] [] fun z own => z = .p (.bool true) ∧ own = [] := by
  refine FnL.flat (R := fun z own => z = .p (.bool true)) ?_ (fun v own' h => ⟨_, _, h, .refl _, rfl, rfl⟩)
  have hnew := tapeNew_spec 10 (by decide) (by decide)
  have hadd := add_spec (t := ⟨[], 0, 10, -1, false⟩) (n := 0) (su := 0) (ro := 10) (af := -1) (d := false) (xs := []) ⟨rfl, rfl, rfl, rfl, rfl, rfl, by decide, by decide, by decide, by decide, by decide⟩ [97, 98] (by decide)
  rw [show bP [97, 98] = [PV.int .u8 97, PV.int .u8 98] from rfl] at hadd
  refine fn_of_vc eOk fOk fo11 Try.func11 rfl rfl rfl fun B hB => ?_
  intro add sub mul quo rem band bor bxor bclr shl shr ieq ilt ile seq slt beq bnot orb bcond iwrap iof ssz hA cat sq sl imin imax smin smax len slen u8 hL op hop call hcall code hcode ret hret
  cbv
  refine hcall _ _ _ _ _ (CallEv.same hnew rfl ?_)
  rintro _ _ (⟨h, rfl, rfl⟩ | ⟨h, rfl, rfl⟩)
  · omega
  cbv
  repeat (first | (refine vcIf.yes ?_ ?_; (focus (simp [hA.not, hA.eq, hA.lt, hA.le, hA.cond, hA.beq, hA.orb, hL.len, hL.slen, hL.sq]; done)); cbv) | (refine vcIf.no ?_ ?_; (focus (simp [hA.not, hA.eq, hA.lt, hA.le, hA.cond, hA.beq, hA.orb, hL.len, hL.slen, hL.sq]; done)); cbv) | fail)
  refine ⟨true, ?_⟩
  cbv
  refine hop _ _ _ _ (OpEv.convRow (j := 2) (n := 2) eOk rfl rfl rfl rfl rfl rfl rfl (by rw [hB]; exact Nat.zero_le _) rfl (by decide) rfl ?_)
  cbv
  refine hcall _ _ _ _ _ (CallEv.lend [0, 1] hadd rfl (.cons (.own 0 0 0 rfl) (.cons (.p _) .nil)) (tpL rfl rfl rfl rfl) ?_)
  rintro _ _ ⟨e, n, su, ro, af, d, xs, he, ht, rfl, rfl⟩
  have he0 : e = 0 := he
  replace ht : IsTp ⟨[97, 98], 0, 10, -1, false⟩ n su ro af d xs := ht
  subst he0
  clear he
  have hby := bytes_spec ht
  have hlo := loose_spec ht
  have hsy := sync_spec ht
  cbv
  refine hcall _ _ _ _ _ (CallEv.lend [0, 1] hby rfl (.cons (.own 0 0 0 rfl) .nil) (tpL rfl rfl rfl rfl) ?_)
  rintro _ _ ⟨e, ys, he, hys, ⟨rfl, rfl⟩ | ⟨h, rfl, rfl⟩⟩
  rotate_left
  · rw [h] at hys; cases hys
  replace he : e = 0 := he
  replace hys : ys = bP [97, 98] := hys
  subst he
  cbv
  repeat (first | (refine vcIf.yes ?_ ?_; (focus (simp [hA.not, hA.eq, hA.lt, hA.le, hA.cond, hA.beq, hA.orb, hL.len, hL.slen, hL.sq]; done)); cbv) | (refine vcIf.no ?_ ?_; (focus (simp [hA.not, hA.eq, hA.lt, hA.le, hA.cond, hA.beq, hA.orb, hL.len, hL.slen, hL.sq]; done)); cbv) | fail)
  refine ⟨_, hys, ?_⟩
  cbv
  repeat (first | (refine vcIf.yes ?_ ?_; (focus (simp [hA.not, hA.eq, hA.lt, hA.le, hA.cond, hA.beq, hA.orb, hL.len, hL.slen, hL.sq]; done)); cbv) | (refine vcIf.no ?_ ?_; (focus (simp [hA.not, hA.eq, hA.lt, hA.le, hA.cond, hA.beq, hA.orb, hL.len, hL.slen, hL.sq]; done)); cbv) | fail)
  refine hcall _ _ _ _ _ (CallEv.lend [0, 1] hlo rfl (.cons (.own 0 0 0 rfl) .nil) (tpL rfl rfl rfl rfl) ?_)
  rintro _ _ ⟨z, hz, rfl, rfl⟩
  replace hz : z = 2 := hz
  subst hz
  cbv
  repeat (first | (refine vcIf.yes ?_ ?_; (focus (simp [hA.not, hA.eq, hA.lt, hA.le, hA.cond, hA.beq, hA.orb, hL.len, hL.slen, hL.sq]; done)); cbv) | (refine vcIf.no ?_ ?_; (focus (simp [hA.not, hA.eq, hA.lt, hA.le, hA.cond, hA.beq, hA.orb, hL.len, hL.slen, hL.sq]; done)); cbv) | fail)
  refine hcall _ _ _ _ _ (CallEv.lend [0, 1] hsy rfl (.cons (.own 0 0 0 rfl) .nil) (tpL rfl rfl rfl rfl) ?_)
  rintro _ _ ⟨e, n, su, ro, af, d, xs, he, ht, rfl, rfl⟩
  replace he : e = 0 := he
  replace ht : IsTp ⟨[97, 98], 2, 10, -1, false⟩ n su ro af d xs := ht
  subst he
  have hlo := loose_spec ht
  cbv
  repeat (first | (refine vcIf.yes ?_ ?_; (focus (simp [hA.not, hA.eq, hA.lt, hA.le, hA.cond, hA.beq, hA.orb, hL.len, hL.slen, hL.sq]; done)); cbv) | (refine vcIf.no ?_ ?_; (focus (simp [hA.not, hA.eq, hA.lt, hA.le, hA.cond, hA.beq, hA.orb, hL.len, hL.slen, hL.sq]; done)); cbv) | fail)
  refine hcall _ _ _ _ _ (CallEv.lend [0, 1] hlo rfl (.cons (.own 0 0 0 rfl) .nil) (tpL rfl rfl rfl rfl) ?_)
  rintro _ _ ⟨z, hz, rfl, rfl⟩
  replace hz : z = 0 := hz
  subst hz
  cbv
  refine hret _ (RetEv.ret eOk rfl ?_)
  show V.p (.bool (bcond true (ieq 0 0) false)) = _
  rw [hA.cond, hA.eq]; rfl

theorem tapeNone (b : List UInt8) (k : Int) (x : Nat) : FnL Try.prog 6 [.p (.sl (bP b)), .p (.int .i64 k), .p (.int .u8 (x : Int))] [] fun z own => z = .p (.bool true) := by
  obtain ⟨bs, hbs⟩ : ∃ bs, bs = bP b := ⟨_, rfl⟩
  obtain ⟨xi, hxi⟩ : ∃ xi : Int, xi = (x : Int) := ⟨_, rfl⟩
  rw [← hbs, ← hxi]
  refine fn_of_vc eOk fOk fo6 Try.func6 rfl rfl rfl fun B hB => ?_
  intro add sub mul quo rem band bor bxor bclr shl shr ieq ilt ile seq slt beq bnot orb bcond iwrap iof ssz hA cat sq sl imin imax smin smax len slen u8 hL op hop call hcall code hcode ret hret
  cbv
  refine hcall _ _ _ _ _ (CallEv.same (fail_nil k) rfl ?_)
  rintro v _ rfl
  cbv
  refine hcall _ _ _ _ _ (CallEv.same (crash_nil k xi) rfl ?_)
  rintro v2 _ rfl
  cbv
  refine hcall _ _ _ _ _ (CallEv.same bytes_nil rfl ?_)
  rintro _ _ ⟨rfl, rfl⟩
  cbv
  refine hcall _ _ _ _ _ (CallEv.same awake6_spec rfl ?_)
  rintro _ _ ⟨rfl, rfl⟩
  cbv
  refine vcIf.yes (by rw [hA.cond, hA.eq]; rfl) ?_
  cbv
  refine hcall _ _ _ _ _ (CallEv.same (add_nil bs) rfl ?_)
  rintro _ _ ⟨rfl, rfl⟩
  cbv
  refine vcIf.yes (by rw [hA.cond, hA.eq]; rfl) ?_
  cbv
  refine hcall _ _ _ _ _ (CallEv.same sync_nil rfl ?_)
  rintro _ _ ⟨rfl, rfl⟩
  cbv
  refine vcIf.yes (by rw [hA.cond, hA.eq]; rfl) ?_
  cbv
  refine hcall _ _ _ _ _ (CallEv.same (replace_nil bs) rfl ?_)
  rintro _ _ ⟨rfl, rfl⟩
  cbv
  refine vcIf.yes (by rw [hA.cond, hA.eq]; rfl) ?_
  cbv
  refine hcall _ _ _ _ _ (CallEv.same loose_nil rfl ?_)
  rintro _ _ ⟨rfl, rfl⟩
  cbv
  refine hret _ (RetEv.ret eOk rfl ?_)
  show V.p (.bool (bcond true (ieq 0 0) false)) = _
  rw [hA.cond, hA.eq]; rfl
end Go.Proofs.Ytgblimlnkefllaa
