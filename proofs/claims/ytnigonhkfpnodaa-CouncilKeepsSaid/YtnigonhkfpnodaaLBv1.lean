/- Vows: sound or not; ballots in order. Conditions: on sizes. -/
import Derived.Test.YtnigonhkfpnodaaLFr9
set_option maxRecDepth 100000
set_option maxHeartbeats 4000000
set_option linter.unusedSimpArgs false
set_option linter.unusedVariables false
namespace Go.Proofs.Ytnigonhkfpnodaa
open Go Go.Lx
open Go.Sx (vcIf)

structure Vw4 where
  pn : Int
  pd : Int
  an : Int
  ad : Int
  s : Stt
def blt (a b c d : Int) : Bool := decide (a < c ∨ a = c ∧ b < d)
def Vw4.v (w : Vw4) : PV := .agg [.int .i64 w.pn, .int .i64 w.pd, .int .i64 w.an, .int .i64 w.ad, .int .i64 w.s.gen, .int .i64 w.s.epoch, .int .i64 w.s.recv, .sl (iP w.s.ch)]
def Vw4.okB (w : Vw4) : Bool := decide (0 ≤ w.pn ∧ 0 ≤ w.pd ∧ 0 ≤ w.an ∧ 0 ≤ w.ad ∧ w.s.okB = true ∧ blt w.pn w.pd w.an w.ad = false)
theorem Vw4.ok_iff (w : Vw4) : w.okB = true ↔ (0 ≤ w.pn ∧ 0 ≤ w.pd ∧ 0 ≤ w.an ∧ 0 ≤ w.ad ∧ w.s.okB = true ∧ blt w.pn w.pd w.an w.ad = false) := by unfold Vw4.okB; rw [decide_eq_true_eq]
def Vw4.fit (w : Vw4) : Prop := (∀ z ∈ [w.pn, w.pd, w.an, w.ad], -9223372036854775808 ≤ z ∧ z ≤ 9223372036854775807) ∧ w.s.fit

theorem blLess_spec (a b c d : Int) : FnL Try.prog 64 [.p (.agg [.int .i64 a, .int .i64 b]), .p (.agg [.int .i64 c, .int .i64 d])] [] fun v own => ∃ x, x = blt a b c d ∧ v = .p (.bool x) ∧ own = [] := by
  refine FnL.flat (R := fun v own => ∃ x, x = blt a b c d ∧ v = .p (.bool x)) ?_ (by rintro _ _ ⟨b, h, rfl⟩; exact ⟨_, _, rfl, .refl _, b, h, rfl, rfl⟩)
  refine fn_of_vc eOk fOk fo64 Try.func64 rfl rfl rfl fun B hB => ?_
  intro add sub mul quo rem band bor bxor bclr shl shr ieq ilt ile seq slt beq bnot orb bcond iwrap iof ssz hA cat sq sl imin imax smin smax len slen u8 hL op hop call hcall code hcode ret hret
  cbv
  by_cases h1 : a < c
  · refine vcIf.yes (by first | (simp [hA.not, hA.eq, hA.lt, hA.le, hA.cond, hA.beq, hA.orb, hL.len, hL.slen, hL.sq, h1]; done) | (simp only [h1]; simp [hA.not, hA.eq, hA.lt, hA.le, hA.cond, hA.beq, hA.orb, hL.len, hL.slen, hL.sq, h1]; done) | (simp [hA.not, hA.eq, hA.lt, hA.le, hA.cond, hA.beq, hA.orb, hL.len, hL.slen, hL.sq, h1]; omega) | (simp only [h1]; simp [hA.not, hA.eq, hA.lt, hA.le, hA.cond, hA.beq, hA.orb, hL.len, hL.slen, hL.sq, h1]; omega)) ?_
    cbv
    repeat (first | (refine vcIf.yes ?_ ?_; (focus (simp [hA.not, hA.eq, hA.lt, hA.le, hA.cond, hA.beq, hA.orb, hL.len, hL.slen, hL.sq]; done)); cbv) | (refine vcIf.no ?_ ?_; (focus (simp [hA.not, hA.eq, hA.lt, hA.le, hA.cond, hA.beq, hA.orb, hL.len, hL.slen, hL.sq]; done)); cbv) | fail)
    exact hret _ (RetEv.ret eOk rfl ⟨true, (by unfold blt; rw [eq_comm, decide_eq_true_eq]; exact .inl h1), rfl⟩)
  refine vcIf.no (by first | (simp [hA.not, hA.eq, hA.lt, hA.le, hA.cond, hA.beq, hA.orb, hL.len, hL.slen, hL.sq, h1]; done) | (simp only [h1]; simp [hA.not, hA.eq, hA.lt, hA.le, hA.cond, hA.beq, hA.orb, hL.len, hL.slen, hL.sq, h1]; done) | (simp [hA.not, hA.eq, hA.lt, hA.le, hA.cond, hA.beq, hA.orb, hL.len, hL.slen, hL.sq, h1]; omega) | (simp only [h1]; simp [hA.not, hA.eq, hA.lt, hA.le, hA.cond, hA.beq, hA.orb, hL.len, hL.slen, hL.sq, h1]; omega)) ?_
  cbv
  by_cases h2 : a = c
  · refine vcIf.yes (by first | (simp [hA.not, hA.eq, hA.lt, hA.le, hA.cond, hA.beq, hA.orb, hL.len, hL.slen, hL.sq, h2]; done) | (simp only [h2]; simp [hA.not, hA.eq, hA.lt, hA.le, hA.cond, hA.beq, hA.orb, hL.len, hL.slen, hL.sq, h2]; done) | (simp [hA.not, hA.eq, hA.lt, hA.le, hA.cond, hA.beq, hA.orb, hL.len, hL.slen, hL.sq, h2]; omega) | (simp only [h2]; simp [hA.not, hA.eq, hA.lt, hA.le, hA.cond, hA.beq, hA.orb, hL.len, hL.slen, hL.sq, h2]; omega)) ?_
    cbv
    refine hret _ (RetEv.ret eOk rfl ⟨_, rfl, ?_⟩)
    refine congrArg (fun x => V.p (.bool x)) ?_
    unfold blt
    simp [hA.cond, hA.lt, hA.eq, h2]
  · refine vcIf.no (by first | (simp [hA.not, hA.eq, hA.lt, hA.le, hA.cond, hA.beq, hA.orb, hL.len, hL.slen, hL.sq, h2]; done) | (simp only [h2]; simp [hA.not, hA.eq, hA.lt, hA.le, hA.cond, hA.beq, hA.orb, hL.len, hL.slen, hL.sq, h2]; done) | (simp [hA.not, hA.eq, hA.lt, hA.le, hA.cond, hA.beq, hA.orb, hL.len, hL.slen, hL.sq, h2]; omega) | (simp only [h2]; simp [hA.not, hA.eq, hA.lt, hA.le, hA.cond, hA.beq, hA.orb, hL.len, hL.slen, hL.sq, h2]; omega)) ?_
    cbv
    refine hret _ (RetEv.ret eOk rfl ⟨_, rfl, ?_⟩)
    refine congrArg (fun x => V.p (.bool x)) ?_
    unfold blt
    simp [hA.cond, hA.lt, hA.eq, h1, h2]
theorem rLess_spec (a b c d : Int) : FnL Try.prog 16 [.p (.agg [.int .i64 a, .int .i64 b]), .p (.agg [.int .i64 c, .int .i64 d])] [] fun v own => ∃ x, x = blt a b c d ∧ v = .p (.bool x) ∧ own = [] := by
  refine FnL.flat (R := fun v own => ∃ x, x = blt a b c d ∧ v = .p (.bool x)) ?_ (by rintro _ _ ⟨b, h, rfl⟩; exact ⟨_, _, rfl, .refl _, b, h, rfl, rfl⟩)
  refine fn_of_vc eOk fOk fo16 Try.func16 rfl rfl rfl fun B hB => ?_
  intro add sub mul quo rem band bor bxor bclr shl shr ieq ilt ile seq slt beq bnot orb bcond iwrap iof ssz hA cat sq sl imin imax smin smax len slen u8 hL op hop call hcall code hcode ret hret
  cbv
  by_cases h2 : a = c
  · refine vcIf.no (by first | (simp [hA.not, hA.eq, hA.lt, hA.le, hA.cond, hA.beq, hA.orb, hL.len, hL.slen, hL.sq, h2]; done) | (simp only [h2]; simp [hA.not, hA.eq, hA.lt, hA.le, hA.cond, hA.beq, hA.orb, hL.len, hL.slen, hL.sq, h2]; done) | (simp [hA.not, hA.eq, hA.lt, hA.le, hA.cond, hA.beq, hA.orb, hL.len, hL.slen, hL.sq, h2]; omega) | (simp only [h2]; simp [hA.not, hA.eq, hA.lt, hA.le, hA.cond, hA.beq, hA.orb, hL.len, hL.slen, hL.sq, h2]; omega)) ?_
    cbv
    refine hret _ (RetEv.ret eOk rfl ⟨_, rfl, ?_⟩)
    refine congrArg (fun x => V.p (.bool x)) ?_
    show ilt b d = _
    unfold blt
    simp [hA.lt, h2]
  · refine vcIf.yes (by first | (simp [hA.not, hA.eq, hA.lt, hA.le, hA.cond, hA.beq, hA.orb, hL.len, hL.slen, hL.sq, h2]; done) | (simp only [h2]; simp [hA.not, hA.eq, hA.lt, hA.le, hA.cond, hA.beq, hA.orb, hL.len, hL.slen, hL.sq, h2]; done) | (simp [hA.not, hA.eq, hA.lt, hA.le, hA.cond, hA.beq, hA.orb, hL.len, hL.slen, hL.sq, h2]; omega) | (simp only [h2]; simp [hA.not, hA.eq, hA.lt, hA.le, hA.cond, hA.beq, hA.orb, hL.len, hL.slen, hL.sq, h2]; omega)) ?_
    cbv
    refine hret _ (RetEv.ret eOk rfl ⟨_, rfl, ?_⟩)
    refine congrArg (fun x => V.p (.bool x)) ?_
    show ilt a c = _
    unfold blt
    simp [hA.lt, h2]
theorem blSound_spec (w : Vw4) (hs : w.s.ch.length < 9223372036854775807) (zs : List PV) (hzs : zs = iP w.s.ch) :
    FnL Try.prog 79 [.p (.agg [.int .i64 w.pn, .int .i64 w.pd, .int .i64 w.an, .int .i64 w.ad, .int .i64 w.s.gen, .int .i64 w.s.epoch, .int .i64 w.s.recv, .sl zs])] [] fun v own => ∃ b, b = w.okB ∧ v = .p (.bool b) ∧ own = [] := by
  refine FnL.flat (R := fun v own => ∃ b, b = w.okB ∧ v = .p (.bool b)) ?_ (by rintro _ _ ⟨b, h, rfl⟩; exact ⟨_, _, rfl, .refl _, b, h, rfl, rfl⟩)
  have hR2 := w.ok_iff
  obtain ⟨R, hR⟩ : ∃ R, R = w.okB := ⟨_, rfl⟩
  rw [← hR] at hR2 ⊢
  clear hR
  have hst := frState_spec w.s hs zs hzs
  have hle := blLess_spec w.pn w.pd w.an w.ad
  obtain ⟨O, hO⟩ : ∃ O, O = w.s.okB := ⟨_, rfl⟩
  rw [← hO] at hR2 hst
  obtain ⟨L, hLl⟩ : ∃ L, L = blt w.pn w.pd w.an w.ad := ⟨_, rfl⟩
  rw [← hLl] at hR2 hle
  obtain ⟨pn, pd, an, ad, ⟨g, e, r, ch⟩⟩ := w
  simp only at hst hle hR2 ⊢
  have hmin : ∀ {imin : Int → Int → Int}, (∀ a b, imin a b = if b < a then b else a) → (0 ≤ imin (imin (imin pn pd) an) ad ↔ (0 ≤ pn ∧ 0 ≤ pd ∧ 0 ≤ an ∧ 0 ≤ ad)) := fun h => by
    rw [h, h, h]; split <;> split <;> split <;> omega
  refine fn_of_vc eOk fOk fo79 Try.func79 rfl rfl rfl fun B hB => ?_
  intro add sub mul quo rem band bor bxor bclr shl shr ieq ilt ile seq slt beq bnot orb bcond iwrap iof ssz hA cat sq sl imin imax smin smax len slen u8 hL op hop call hcall code hcode ret hret
  have hm := hmin hL.imin
  obtain ⟨mn, hmn⟩ : ∃ m, m = imin (imin (imin pn pd) an) ad := ⟨_, rfl⟩
  rw [← hmn] at hm
  cbv
  rw [← hmn]
  by_cases h1 : 0 ≤ mn
  rotate_left
  · have : R = false := by rw [Bool.eq_false_iff]; exact fun c => h1 (hm.2 (by have := hR2.1 c; exact ⟨this.1, this.2.1, this.2.2.1, this.2.2.2.1⟩))
    refine vcIf.no (by first | (simp [hA.not, hA.eq, hA.lt, hA.le, hA.cond, hA.beq, hA.orb, hL.len, hL.slen, hL.sq, h1]; done) | (simp only [h1]; simp [hA.not, hA.eq, hA.lt, hA.le, hA.cond, hA.beq, hA.orb, hL.len, hL.slen, hL.sq, h1]; done) | (simp [hA.not, hA.eq, hA.lt, hA.le, hA.cond, hA.beq, hA.orb, hL.len, hL.slen, hL.sq, h1]; omega) | (simp only [h1]; simp [hA.not, hA.eq, hA.lt, hA.le, hA.cond, hA.beq, hA.orb, hL.len, hL.slen, hL.sq, h1]; omega)) ?_
    cbv
    repeat (first | (refine vcIf.yes ?_ ?_; (focus (simp [hA.not, hA.eq, hA.lt, hA.le, hA.cond, hA.beq, hA.orb, hL.len, hL.slen, hL.sq]; done)); cbv) | (refine vcIf.no ?_ ?_; (focus (simp [hA.not, hA.eq, hA.lt, hA.le, hA.cond, hA.beq, hA.orb, hL.len, hL.slen, hL.sq]; done)); cbv) | fail)
    exact hret _ (RetEv.ret eOk rfl ⟨false, this.symm, rfl⟩)
  refine vcIf.yes (by first | (simp [hA.not, hA.eq, hA.lt, hA.le, hA.cond, hA.beq, hA.orb, hL.len, hL.slen, hL.sq, h1]; done) | (simp only [h1]; simp [hA.not, hA.eq, hA.lt, hA.le, hA.cond, hA.beq, hA.orb, hL.len, hL.slen, hL.sq, h1]; done) | (simp [hA.not, hA.eq, hA.lt, hA.le, hA.cond, hA.beq, hA.orb, hL.len, hL.slen, hL.sq, h1]; omega) | (simp only [h1]; simp [hA.not, hA.eq, hA.lt, hA.le, hA.cond, hA.beq, hA.orb, hL.len, hL.slen, hL.sq, h1]; omega)) ?_
  cbv
  refine hcall _ _ _ _ _ (CallEv.same hst rfl ?_)
  rintro _ _ ⟨b, hb, rfl, rfl⟩
  cbv
  cases b with
  | false =>
    have : R = false := by rw [Bool.eq_false_iff]; exact fun c => by have := (hR2.1 c).2.2.2.2.1; rw [← hb] at this; cases this
    cbv
    repeat (first | (refine vcIf.yes ?_ ?_; (focus (simp [hA.not, hA.eq, hA.lt, hA.le, hA.cond, hA.beq, hA.orb, hL.len, hL.slen, hL.sq]; done)); cbv) | (refine vcIf.no ?_ ?_; (focus (simp [hA.not, hA.eq, hA.lt, hA.le, hA.cond, hA.beq, hA.orb, hL.len, hL.slen, hL.sq]; done)); cbv) | fail)
    exact hret _ (RetEv.ret eOk rfl ⟨false, this.symm, rfl⟩)
  | true =>
    cbv
    repeat (first | (refine vcIf.yes ?_ ?_; (focus (simp [hA.not, hA.eq, hA.lt, hA.le, hA.cond, hA.beq, hA.orb, hL.len, hL.slen, hL.sq]; done)); cbv) | (refine vcIf.no ?_ ?_; (focus (simp [hA.not, hA.eq, hA.lt, hA.le, hA.cond, hA.beq, hA.orb, hL.len, hL.slen, hL.sq]; done)); cbv) | fail)
    refine hcall _ _ _ _ _ (CallEv.same hle rfl ?_)
    rintro _ _ ⟨x, hx, rfl, rfl⟩
    have hbR : (!x) = R := by
      rw [Bool.eq_iff_iff, hR2, hx, Bool.not_eq_true']
      obtain ⟨k1, k2, k3, k4⟩ := hm.1 h1
      exact ⟨fun h => ⟨k1, k2, k3, k4, hb.symm, h⟩, fun h => h.2.2.2.2.2⟩
    cbv
    refine hret _ (RetEv.ret eOk rfl ⟨_, hbR, ?_⟩)
    show V.p (.bool (bcond _ (bnot x) false)) = _
    simp [hA.cond, hA.not]
end Go.Proofs.Ytnigonhkfpnodaa
