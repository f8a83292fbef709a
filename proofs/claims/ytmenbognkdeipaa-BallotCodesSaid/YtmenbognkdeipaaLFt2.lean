/- Batches: sound or not. Conditions: on sizes. -/
import Derived.Test.YtmenbognkdeipaaLFt1
import Derived.Test.YtmenbognkdeipaaLFr8
set_option maxRecDepth 100000
set_option maxHeartbeats 4000000
set_option linter.unusedSimpArgs false
set_option linter.unusedVariables false
namespace Go.Proofs.Ytmenbognkdeipaa
open Go Go.Lx
open Go.Sx (vcIf)

structure Bat where
  a : Int
  b : Int
  c : Int
  ch : List Chg
def Bat.v (s : Bat) : PV := .agg [.int .i64 s.a, .int .i64 s.b, .int .i64 s.c, .sl (cP s.ch)]
def Bat.okB (s : Bat) : Bool := decide (0 ≤ s.a ∧ 0 ≤ s.b ∧ 0 ≤ s.c ∧ s.ch.length ≤ 4096 ∧ chks s.ch = 0)
def Bat.fit (s : Bat) : Prop := (∀ z ∈ [s.a, s.b, s.c], -9223372036854775808 ≤ z ∧ z ≤ 9223372036854775807) ∧ (∀ c ∈ s.ch, c.fit) ∧ s.ch.length < 9223372036854775807
theorem Bat.ok_iff (s : Bat) : s.okB = true ↔ (0 ≤ s.a ∧ 0 ≤ s.b ∧ 0 ≤ s.c ∧ s.ch.length ≤ 4096 ∧ chks s.ch = 0) := by unfold Bat.okB; rw [decide_eq_true_eq]

theorem frBatch_spec (s : Bat) (hs : s.ch.length < 9223372036854775807) (zs : List PV) (hzs : zs = cP s.ch) :
    FnL Try.prog 68 [.p (.agg [.int .i64 s.a, .int .i64 s.b, .int .i64 s.c, .sl zs])] [] fun v own => ∃ b, b = s.okB ∧ v = .p (.bool b) ∧ own = [] := by
  refine FnL.flat (R := fun v own => ∃ b, b = s.okB ∧ v = .p (.bool b)) ?_ (by rintro _ _ ⟨b, h, rfl⟩; exact ⟨_, _, rfl, .refl _, b, h, rfl, rfl⟩)
  have hR2 := s.ok_iff
  obtain ⟨R, hR⟩ : ∃ R, R = s.okB := ⟨_, rfl⟩
  rw [← hR] at hR2 ⊢
  clear hR
  obtain ⟨g, e, r, ch⟩ := s
  simp only at hs hzs hR2 ⊢
  have hzl : zs.length = ch.length := by rw [hzs, cP_length]
  have hc := all_spec ch hs zs hzs
  obtain ⟨N, hN⟩ : ∃ N, N = ch.length := ⟨_, rfl⟩
  rw [← hN] at hzl hR2
  have hmin : ∀ {imin : Int → Int → Int}, (∀ a b, imin a b = if b < a then b else a) → (0 ≤ imin (imin g e) r ↔ (0 ≤ g ∧ 0 ≤ e ∧ 0 ≤ r)) := fun h => by
    rw [h, h]; split <;> split <;> omega
  refine fn_of_vc eOk fOk fo68 Try.func68 rfl rfl rfl fun B hB => ?_
  intro add sub mul quo rem band bor bxor bclr shl shr ieq ilt ile seq slt beq bnot orb bcond iwrap iof ssz hA cat sq sl imin imax smin smax len slen u8 hL op hop call hcall code hcode ret hret
  have hm := hmin hL.imin
  obtain ⟨mn, hmn⟩ : ∃ m, m = imin (imin g e) r := ⟨_, rfl⟩
  rw [← hmn] at hm
  cbv
  rw [← hmn]
  by_cases h1 : 0 ≤ mn
  rotate_left
  · have : R = false := by rw [Bool.eq_false_iff]; exact fun c => h1 (hm.2 (by have := hR2.1 c; exact ⟨this.1, this.2.1, this.2.2.1⟩))
    refine vcIf.no (by first | (simp [hA.not, hA.eq, hA.lt, hA.le, hA.cond, hA.beq, hA.orb, hL.len, hL.slen, hL.sq, h1]; done) | (simp only [h1]; simp [hA.not, hA.eq, hA.lt, hA.le, hA.cond, hA.beq, hA.orb, hL.len, hL.slen, hL.sq, h1]; done) | (simp [hA.not, hA.eq, hA.lt, hA.le, hA.cond, hA.beq, hA.orb, hL.len, hL.slen, hL.sq, h1]; omega) | (simp only [h1]; simp [hA.not, hA.eq, hA.lt, hA.le, hA.cond, hA.beq, hA.orb, hL.len, hL.slen, hL.sq, h1]; omega)) ?_
    cbv
    repeat (first | (refine vcIf.yes ?_ ?_; (focus (simp [hA.not, hA.eq, hA.lt, hA.le, hA.cond, hA.beq, hA.orb, hL.len, hL.slen, hL.sq]; done)); cbv) | (refine vcIf.no ?_ ?_; (focus (simp [hA.not, hA.eq, hA.lt, hA.le, hA.cond, hA.beq, hA.orb, hL.len, hL.slen, hL.sq]; done)); cbv) | fail)
    exact hret _ (RetEv.ret eOk rfl ⟨false, this.symm, rfl⟩)
  refine vcIf.yes (by first | (simp [hA.not, hA.eq, hA.lt, hA.le, hA.cond, hA.beq, hA.orb, hL.len, hL.slen, hL.sq, h1]; done) | (simp only [h1]; simp [hA.not, hA.eq, hA.lt, hA.le, hA.cond, hA.beq, hA.orb, hL.len, hL.slen, hL.sq, h1]; done) | (simp [hA.not, hA.eq, hA.lt, hA.le, hA.cond, hA.beq, hA.orb, hL.len, hL.slen, hL.sq, h1]; omega) | (simp only [h1]; simp [hA.not, hA.eq, hA.lt, hA.le, hA.cond, hA.beq, hA.orb, hL.len, hL.slen, hL.sq, h1]; omega)) ?_
  cbv
  by_cases h2 : N ≤ 4096
  rotate_left
  · have : R = false := by rw [Bool.eq_false_iff]; exact fun c => h2 (hR2.1 c).2.2.2.1
    refine vcIf.no (by first | (simp [hA.not, hA.eq, hA.lt, hA.le, hA.cond, hA.beq, hA.orb, hL.len, hL.slen, hL.sq, hzl, h2]; done) | (simp only [hzl, h2]; simp [hA.not, hA.eq, hA.lt, hA.le, hA.cond, hA.beq, hA.orb, hL.len, hL.slen, hL.sq, hzl, h2]; done) | (simp [hA.not, hA.eq, hA.lt, hA.le, hA.cond, hA.beq, hA.orb, hL.len, hL.slen, hL.sq, hzl, h2]; omega) | (simp only [hzl, h2]; simp [hA.not, hA.eq, hA.lt, hA.le, hA.cond, hA.beq, hA.orb, hL.len, hL.slen, hL.sq, hzl, h2]; omega)) ?_
    cbv
    repeat (first | (refine vcIf.yes ?_ ?_; (focus (simp [hA.not, hA.eq, hA.lt, hA.le, hA.cond, hA.beq, hA.orb, hL.len, hL.slen, hL.sq]; done)); cbv) | (refine vcIf.no ?_ ?_; (focus (simp [hA.not, hA.eq, hA.lt, hA.le, hA.cond, hA.beq, hA.orb, hL.len, hL.slen, hL.sq]; done)); cbv) | fail)
    exact hret _ (RetEv.ret eOk rfl ⟨false, this.symm, rfl⟩)
  refine vcIf.yes (by first | (simp [hA.not, hA.eq, hA.lt, hA.le, hA.cond, hA.beq, hA.orb, hL.len, hL.slen, hL.sq, hzl, h2]; done) | (simp only [hzl, h2]; simp [hA.not, hA.eq, hA.lt, hA.le, hA.cond, hA.beq, hA.orb, hL.len, hL.slen, hL.sq, hzl, h2]; done) | (simp [hA.not, hA.eq, hA.lt, hA.le, hA.cond, hA.beq, hA.orb, hL.len, hL.slen, hL.sq, hzl, h2]; omega) | (simp only [hzl, h2]; simp [hA.not, hA.eq, hA.lt, hA.le, hA.cond, hA.beq, hA.orb, hL.len, hL.slen, hL.sq, hzl, h2]; omega)) ?_
  cbv
  refine hcall _ _ _ _ _ (CallEv.same hc rfl ?_)
  rintro _ _ ⟨b, hb, rfl, rfl⟩
  have hbR : decide (b = 0) = R := by
    rw [Bool.eq_iff_iff, hR2, decide_eq_true_eq, hb]
    obtain ⟨k1, k2, k3⟩ := hm.1 h1
    exact ⟨fun h => ⟨k1, k2, k3, h2, h⟩, fun h => h.2.2.2.2⟩
  cbv
  refine hret _ (RetEv.ret eOk rfl ⟨_, hbR, ?_⟩)
  show V.p (.bool (bcond true (ieq _ _) false)) = _
  rw [hA.cond, hA.eq]
  refine congrArg (fun x => V.p (.bool x)) ?_
  rw [Bool.eq_iff_iff]
  simp [beq_iff_eq]
theorem rBatch_spec (s : Bat) (hs : s.ch.length < 9223372036854775807) (zs : List PV) (hzs : zs = cP s.ch) :
    FnL Try.prog 70 [.p (.agg [.int .i64 s.a, .int .i64 s.b, .int .i64 s.c, .sl zs])] [] fun v own => ∃ b, b = s.okB ∧ v = .p (.bool b) ∧ own = [] := by
  refine FnL.flat (R := fun v own => ∃ b, b = s.okB ∧ v = .p (.bool b)) ?_ (by rintro _ _ ⟨b, h, rfl⟩; exact ⟨_, _, rfl, .refl _, b, h, rfl, rfl⟩)
  have hR2 := s.ok_iff
  obtain ⟨R, hR⟩ : ∃ R, R = s.okB := ⟨_, rfl⟩
  rw [← hR] at hR2 ⊢
  clear hR
  obtain ⟨g, e, r, ch⟩ := s
  simp only at hs hzs hR2 ⊢
  have hzl : zs.length = ch.length := by rw [hzs, cP_length]
  have hc := rall_spec ch hs zs hzs
  have hl1 := least_spec [g, e, r] (by simp) _ rfl
  rw [show iP [g, e, r] = [PV.int .i64 g, PV.int .i64 e, PV.int .i64 r] from rfl] at hl1
  obtain ⟨N, hN⟩ : ∃ N, N = ch.length := ⟨_, rfl⟩
  rw [← hN] at hzl hR2
  refine fn_of_vc eOk fOk fo70 Try.func70 rfl rfl rfl fun B hB => ?_
  intro add sub mul quo rem band bor bxor bclr shl shr ieq ilt ile seq slt beq bnot orb bcond iwrap iof ssz hA cat sq sl imin imax smin smax len slen u8 hL op hop call hcall code hcode ret hret
  cbv
  refine ⟨false, ?_⟩
  cbv
  refine hcall _ _ _ _ _ (CallEv.same hl1 rfl ?_)
  rintro _ _ ⟨b1, hb1, rfl, rfl⟩
  cbv
  cases b1 with
  | false =>
    have hb1 := of_decide_eq_false hb1.symm
    have : R = false := by
      rw [Bool.eq_false_iff]; intro c
      have c := hR2.1 c
      refine hb1 fun z hz => ?_
      simp only [List.mem_cons, List.not_mem_nil, or_false] at hz
      rcases hz with rfl | rfl | rfl
      · exact c.1
      · exact c.2.1
      · exact c.2.2.1
    repeat (first | (refine vcIf.yes ?_ ?_; (focus (simp [hA.not, hA.eq, hA.lt, hA.le, hA.cond, hA.beq, hA.orb, hL.len, hL.slen, hL.sq]; done)); cbv) | (refine vcIf.no ?_ ?_; (focus (simp [hA.not, hA.eq, hA.lt, hA.le, hA.cond, hA.beq, hA.orb, hL.len, hL.slen, hL.sq]; done)); cbv) | fail)
    exact hret _ (RetEv.ret eOk rfl ⟨false, this.symm, rfl⟩)
  | true =>
    have hb1 := of_decide_eq_true hb1.symm
    cbv
    repeat (first | (refine vcIf.yes ?_ ?_; (focus (simp [hA.not, hA.eq, hA.lt, hA.le, hA.cond, hA.beq, hA.orb, hL.len, hL.slen, hL.sq]; done)); cbv) | (refine vcIf.no ?_ ?_; (focus (simp [hA.not, hA.eq, hA.lt, hA.le, hA.cond, hA.beq, hA.orb, hL.len, hL.slen, hL.sq]; done)); cbv) | fail)
    by_cases h2 : N ≤ 4096
    rotate_left
    · have : R = false := by rw [Bool.eq_false_iff]; exact fun c => h2 (hR2.1 c).2.2.2.1
      refine vcIf.no (by first | (simp [hA.not, hA.eq, hA.lt, hA.le, hA.cond, hA.beq, hA.orb, hL.len, hL.slen, hL.sq, hzl, h2]; done) | (simp only [hzl, h2]; simp [hA.not, hA.eq, hA.lt, hA.le, hA.cond, hA.beq, hA.orb, hL.len, hL.slen, hL.sq, hzl, h2]; done) | (simp [hA.not, hA.eq, hA.lt, hA.le, hA.cond, hA.beq, hA.orb, hL.len, hL.slen, hL.sq, hzl, h2]; omega) | (simp only [hzl, h2]; simp [hA.not, hA.eq, hA.lt, hA.le, hA.cond, hA.beq, hA.orb, hL.len, hL.slen, hL.sq, hzl, h2]; omega)) ?_
      cbv
      repeat (first | (refine vcIf.yes ?_ ?_; (focus (simp [hA.not, hA.eq, hA.lt, hA.le, hA.cond, hA.beq, hA.orb, hL.len, hL.slen, hL.sq]; done)); cbv) | (refine vcIf.no ?_ ?_; (focus (simp [hA.not, hA.eq, hA.lt, hA.le, hA.cond, hA.beq, hA.orb, hL.len, hL.slen, hL.sq]; done)); cbv) | fail)
      exact hret _ (RetEv.ret eOk rfl ⟨false, this.symm, rfl⟩)
    refine vcIf.yes (by first | (simp [hA.not, hA.eq, hA.lt, hA.le, hA.cond, hA.beq, hA.orb, hL.len, hL.slen, hL.sq, hzl, h2]; done) | (simp only [hzl, h2]; simp [hA.not, hA.eq, hA.lt, hA.le, hA.cond, hA.beq, hA.orb, hL.len, hL.slen, hL.sq, hzl, h2]; done) | (simp [hA.not, hA.eq, hA.lt, hA.le, hA.cond, hA.beq, hA.orb, hL.len, hL.slen, hL.sq, hzl, h2]; omega) | (simp only [hzl, h2]; simp [hA.not, hA.eq, hA.lt, hA.le, hA.cond, hA.beq, hA.orb, hL.len, hL.slen, hL.sq, hzl, h2]; omega)) ?_
    cbv
    refine hcall _ _ _ _ _ (CallEv.same hc rfl ?_)
    rintro _ _ ⟨b, hb, rfl, rfl⟩
    have hbR : decide (b = 0) = R := by
      rw [Bool.eq_iff_iff, hR2, decide_eq_true_eq, hb]
      exact ⟨fun h => ⟨hb1 _ (by simp), hb1 _ (by simp), hb1 _ (by simp), h2, h⟩, fun h => h.2.2.2.2⟩
    cbv
    refine hret _ (RetEv.ret eOk rfl ⟨_, hbR, ?_⟩)
    show V.p (.bool (bcond true (ieq _ _) false)) = _
    rw [hA.cond, hA.eq]
    refine congrArg (fun x => V.p (.bool x)) ?_
    rw [Bool.eq_iff_iff]
    simp [beq_iff_eq]
end Go.Proofs.Ytmenbognkdeipaa
