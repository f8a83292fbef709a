/- States: sound, laid. Conditions: on sizes. -/
import Derived.Test.YtnigonhkfpnodaaLFr5
set_option maxRecDepth 100000
set_option maxHeartbeats 4000000
set_option linter.unusedSimpArgs false
set_option linter.unusedVariables false
namespace Go.Proofs.Ytnigonhkfpnodaa
open Go Go.Lx
open Go.Sx (vcIf)

theorem idxInts_spec (l : List Int) (hl : l.length < 9223372036854775807) (zs : List PV) (hzs : zs = iP l) (f : FuncId) (p : Int → Bool) (hf : ∀ z, FnL Try.prog f [.p (.int .i64 z)] [] fun v own => ∃ b, b = p z ∧ v = .p (.bool b) ∧ own = []) :
    FnL Try.prog 104 [.p (.sl zs), .p (.fn f)] [] fun v own => ∃ k : Int, (0 ≤ k ↔ l.any p = true) ∧ v = .p (.int .i64 k) ∧ own = [] := by
  have hzl : zs.length = l.length := by rw [hzs, iP_length]
  obtain ⟨N, hN⟩ : ∃ N, N = l.length := ⟨_, rfl⟩
  rw [← hN] at hzl hl
  refine fn_of_vc eOk fOk fo104 Try.func104 rfl rfl rfl fun B hB => ?_
  intro add sub mul quo rem band bor bxor bclr shl shr ieq ilt ile seq slt beq bnot orb bcond iwrap iof ssz hA cat sq sl imin imax smin smax len slen u8 hL op hop call hcall code hcode ret hret
  have hlen : len zs = Int.ofNat N := by rw [hL.len, hzl]; rfl
  cbv
  rw [hlen]
  refine hcode _ _ _ (CodeEv.loop eOk fOk (ι := Nat) (fun s => [(0, .p (.sl zs)), (1, .p (.fn f)), (7, .p (.int .i64 (Int.ofNat N))), (8, .p (.int .i64 (Int.ofNat s)))])
    (fun s => []) (fun s => s ≤ N ∧ (l.take s).any p = false) (fun s => N - s) 0 ?_ ?_)
  · exact ⟨⟨rfl, rfl, rfl, rfl, trivial⟩, rfl, Nat.zero_le _, rfl⟩
  rintro i ⟨h1, h2⟩ rd hrd
  intro add1 sub1 mul1 quo1 rem1 band1 bor1 bxor1 bclr1 shl1 shr1 ieq1 ilt1 ile1 seq1 slt1 beq1 bnot1 orb1 bcond1 iwrap1 iof1 ssz1 hA1 cat1 sq1 sl1 imin1 imax1 smin1 smax1 len1 slen1 u81 hL1 op1 hop1 call1 hcall1 code1 hcode1
  have hadd1 : i < N → add1 .i64 (Int.ofNat i) 1 = Int.ofNat (i + 1) := fun _ => by rw [hA1.add, IntWalk.i64_in _ (by simp only [Int.ofNat_eq_natCast]; omega)]; rfl
  cbv
  by_cases hi : i < N
  · obtain ⟨z, hz⟩ := get_of_lt (show i < l.length by omega)
    have hzz : zs[i]? = some (.int .i64 z) := by rw [hzs]; exact iP_get hz
    have htk : l.take (i + 1) = l.take i ++ [z] := by rw [List.take_add_one, hz]; rfl
    have hfz := hf z
    refine vcIf.yes (by first | (simp [hA1.not, hA1.eq, hA1.lt, hA1.le, hA1.cond, hA1.beq, hA1.orb, hL1.len, hL1.slen, hL1.sq, hi]; done) | (simp only [hi]; simp [hA1.not, hA1.eq, hA1.lt, hA1.le, hA1.cond, hA1.beq, hA1.orb, hL1.len, hL1.slen, hL1.sq, hi]; done) | (simp [hA1.not, hA1.eq, hA1.lt, hA1.le, hA1.cond, hA1.beq, hA1.orb, hL1.len, hL1.slen, hL1.sq, hi]; omega) | (simp only [hi]; simp [hA1.not, hA1.eq, hA1.lt, hA1.le, hA1.cond, hA1.beq, hA1.orb, hL1.len, hL1.slen, hL1.sq, hi]; omega)) ?_
    cbv
    refine ⟨i, _, rfl, hzz, rfl, ?_⟩
    cbv
    refine hcall1 _ _ _ _ _ (CallEv.same hfz rfl ?_)
    rintro _ _ ⟨b, hb, rfl, rfl⟩
    cbv
    cases b with
    | true =>
      cbv
      refine hret _ (RetEv.ret eOk rfl ⟨_, ⟨fun _ => List.any_eq_true.2 ⟨z, List.mem_of_getElem? hz, hb.symm⟩, fun _ => ?_⟩, rfl, rfl⟩)
      exact Int.natCast_nonneg i
    | false =>
      cbv
      refine hrd _ ⟨i + 1, [], ?_, ⟨hi, ?_⟩, rfl, ⟨rfl, rfl, rfl, ?_, trivial⟩, rfl, rfl, rfl, ?_⟩
      · show N - (i + 1) < N - i
        omega
      · rw [htk, List.any_append, h2]; simp [← hb]
      · show some (V.p (.int .i64 _)) = _
        rw [hadd1 hi]
      · rw [hB]; exact Nat.zero_le _
  · refine vcIf.no (by first | (simp [hA1.not, hA1.eq, hA1.lt, hA1.le, hA1.cond, hA1.beq, hA1.orb, hL1.len, hL1.slen, hL1.sq, hi]; done) | (simp only [hi]; simp [hA1.not, hA1.eq, hA1.lt, hA1.le, hA1.cond, hA1.beq, hA1.orb, hL1.len, hL1.slen, hL1.sq, hi]; done) | (simp [hA1.not, hA1.eq, hA1.lt, hA1.le, hA1.cond, hA1.beq, hA1.orb, hL1.len, hL1.slen, hL1.sq, hi]; omega) | (simp only [hi]; simp [hA1.not, hA1.eq, hA1.lt, hA1.le, hA1.cond, hA1.beq, hA1.orb, hL1.len, hL1.slen, hL1.sq, hi]; omega)) ?_
    cbv
    rw [List.take_of_length_le (by omega)] at h2
    exact hret _ (RetEv.ret eOk rfl ⟨-1, ⟨fun c => absurd c (by decide), fun c => by rw [h2] at c; cases c⟩, rfl, rfl⟩)
theorem hasInts_spec (l : List Int) (hl : l.length < 9223372036854775807) (zs : List PV) (hzs : zs = iP l) (f : FuncId) (p : Int → Bool) (hf : ∀ z, FnL Try.prog f [.p (.int .i64 z)] [] fun v own => ∃ b, b = p z ∧ v = .p (.bool b) ∧ own = []) :
    FnL Try.prog 66 [.p (.sl zs), .p (.fn f)] [] fun v own => ∃ b, b = l.any p ∧ v = .p (.bool b) ∧ own = [] := by
  have hi := idxInts_spec l hl zs hzs f p hf
  refine fn_of_vc eOk fOk fo66 Try.func66 rfl rfl rfl fun B hB => ?_
  intro add sub mul quo rem band bor bxor bclr shl shr ieq ilt ile seq slt beq bnot orb bcond iwrap iof ssz hA cat sq sl imin imax smin smax len slen u8 hL op hop call hcall code hcode ret hret
  cbv
  refine hcall _ _ _ _ _ (CallEv.same hi rfl ?_)
  rintro _ _ ⟨k, hk, rfl, rfl⟩
  cbv
  refine hret _ (RetEv.ret eOk rfl ⟨_, rfl, ?_, rfl⟩)
  show V.p (.bool (ile 0 k)) = _
  rw [hA.le]
  congr 2
  rw [Bool.eq_iff_iff, decide_eq_true_eq]; exact hk

structure Stt where
  gen : Int
  epoch : Int
  recv : Int
  ch : List Int
def Stt.v (s : Stt) : PV := .agg [.int .i64 s.gen, .int .i64 s.epoch, .int .i64 s.recv, .sl (iP s.ch)]
def Stt.okB (s : Stt) : Bool := decide (0 ≤ s.gen ∧ 0 ≤ s.epoch ∧ 0 ≤ s.recv ∧ s.ch.length ≤ 16 ∧ ∀ z ∈ s.ch, 0 ≤ z ∧ z ≤ 255)
def Stt.fit (s : Stt) : Prop := (∀ z ∈ [s.gen, s.epoch, s.recv], -9223372036854775808 ≤ z ∧ z ≤ 9223372036854775807) ∧ (∀ z ∈ s.ch, -9223372036854775808 ≤ z ∧ z ≤ 9223372036854775807) ∧ s.ch.length < 9223372036854775807

theorem frState1_spec (z : Int) : FnL Try.prog 67 [.p (.int .i64 z)] [] fun v own => ∃ b, b = (!decide (0 ≤ z ∧ z ≤ 255)) ∧ v = .p (.bool b) ∧ own = [] := by
  have hin := frIn_spec z
  refine fn_of_vc eOk fOk fo67 Try.func67 rfl rfl rfl fun B hB => ?_
  intro add sub mul quo rem band bor bxor bclr shl shr ieq ilt ile seq slt beq bnot orb bcond iwrap iof ssz hA cat sq sl imin imax smin smax len slen u8 hL op hop call hcall code hcode ret hret
  cbv
  refine hcall _ _ _ _ _ (CallEv.same hin rfl ?_)
  rintro _ _ ⟨b, hb, rfl, rfl⟩
  cbv
  refine hret _ (RetEv.ret eOk rfl ⟨_, rfl, ?_, rfl⟩)
  show V.p (.bool (bnot b)) = _
  rw [hA.not, hb]
theorem frState_spec (s : Stt) (hs : s.ch.length < 9223372036854775807) (zs : List PV) (hzs : zs = iP s.ch) :
    FnL Try.prog 35 [.p (.agg [.int .i64 s.gen, .int .i64 s.epoch, .int .i64 s.recv, .sl zs])] [] fun v own => ∃ b, b = s.okB ∧ v = .p (.bool b) ∧ own = [] := by
  refine FnL.flat (R := fun v own => ∃ b, b = s.okB ∧ v = .p (.bool b)) ?_ (by rintro _ _ ⟨b, h, rfl⟩; exact ⟨_, _, rfl, .refl _, b, h, rfl, rfl⟩)
  obtain ⟨g, e, r, ch⟩ := s
  simp only at hs hzs ⊢
  obtain ⟨R, hR⟩ : ∃ R, R = Stt.okB ⟨g, e, r, ch⟩ := ⟨_, rfl⟩
  rw [← hR]
  have hR2 : R = true ↔ (0 ≤ g ∧ 0 ≤ e ∧ 0 ≤ r ∧ ch.length ≤ 16 ∧ ∀ z ∈ ch, 0 ≤ z ∧ z ≤ 255) := by rw [hR]; unfold Stt.okB; rw [decide_eq_true_eq]
  have hzl : zs.length = ch.length := by rw [hzs, iP_length]
  obtain ⟨N, hN⟩ : ∃ N, N = ch.length := ⟨_, rfl⟩
  rw [← hN] at hzl hR2
  have hc := hasInts_spec ch hs zs hzs _ _ frState1_spec
  have hmin : ∀ {imin : Int → Int → Int}, (∀ a b, imin a b = if b < a then b else a) → (0 ≤ imin (imin g e) r ↔ (0 ≤ g ∧ 0 ≤ e ∧ 0 ≤ r)) := fun h => by
    rw [h, h]; split <;> split <;> omega
  refine fn_of_vc eOk fOk fo35 Try.func35 rfl rfl rfl fun B hB => ?_
  intro add sub mul quo rem band bor bxor bclr shl shr ieq ilt ile seq slt beq bnot orb bcond iwrap iof ssz hA cat sq sl imin imax smin smax len slen u8 hL op hop call hcall code hcode ret hret
  have hm := hmin hL.imin
  obtain ⟨mn, hmn⟩ : ∃ m, m = imin (imin g e) r := ⟨_, rfl⟩
  rw [← hmn] at hm
  cbv
  rw [← hmn]
  by_cases h1 : 0 ≤ mn
  rotate_left
  · have : R = false := by rw [Bool.eq_false_iff]; exact fun c => h1 (hm.2 (by have := hR2.1 c; exact ⟨this.1, this.2.1, this.2.2.1⟩))
    refine vcIf.no (by first | (simp [hA.not, hA.eq, hA.lt, hA.le, hA.cond, hA.beq, hA.orb, hL.len, hL.slen, hL.sq, h1]; done) | (simp only [h1]; simp [hA.not, hA.eq, hA.lt, hA.le, hA.cond, hA.beq, hA.orb, hL.len, hL.slen, hL.sq, h1]; done) | (simp [hA.not, hA.eq, hA.lt, hA.le, hA.cond, hA.beq, hA.orb, hL.len, hL.slen, hL.sq, h1]; omega) | (simp only [h1]; simp [hA.not, hA.eq, hA.lt, hA.le, hA.cond, hA.beq, hA.orb, hL.len, hL.slen, hL.sq, h1]; omega)) ?_
    cbv
    repeat (first | (refine vcIf.yes ?_ ?_; (focus (simp [hA.not, hA.eq, hA.lt, hA.le, hA.cond, hA.beq, hA.orb, hL.len, hL.slen, hL.sq]; done)); cbv) | (refine vcIf.no ?_ ?_; (focus (simp [hA.not, hA.eq, hA.lt, hA.le, hA.cond, hA.beq, hA.orb, hL.len, hL.slen, hL.sq]; done)); cbv) | fail)
    exact hret _ (RetEv.ret eOk rfl ⟨false, this.symm, rfl⟩)
  refine vcIf.yes (by first | (simp [hA.not, hA.eq, hA.lt, hA.le, hA.cond, hA.beq, hA.orb, hL.len, hL.slen, hL.sq, h1]; done) | (simp only [h1]; simp [hA.not, hA.eq, hA.lt, hA.le, hA.cond, hA.beq, hA.orb, hL.len, hL.slen, hL.sq, h1]; done) | (simp [hA.not, hA.eq, hA.lt, hA.le, hA.cond, hA.beq, hA.orb, hL.len, hL.slen, hL.sq, h1]; omega) | (simp only [h1]; simp [hA.not, hA.eq, hA.lt, hA.le, hA.cond, hA.beq, hA.orb, hL.len, hL.slen, hL.sq, h1]; omega)) ?_
  cbv
  by_cases h2 : N ≤ 16
  rotate_left
  · have : R = false := by rw [Bool.eq_false_iff]; exact fun c => h2 (hR2.1 c).2.2.2.1
    refine vcIf.no (by first | (simp [hA.not, hA.eq, hA.lt, hA.le, hA.cond, hA.beq, hA.orb, hL.len, hL.slen, hL.sq, hzl, h2]; done) | (simp only [hzl, h2]; simp [hA.not, hA.eq, hA.lt, hA.le, hA.cond, hA.beq, hA.orb, hL.len, hL.slen, hL.sq, hzl, h2]; done) | (simp [hA.not, hA.eq, hA.lt, hA.le, hA.cond, hA.beq, hA.orb, hL.len, hL.slen, hL.sq, hzl, h2]; omega) | (simp only [hzl, h2]; simp [hA.not, hA.eq, hA.lt, hA.le, hA.cond, hA.beq, hA.orb, hL.len, hL.slen, hL.sq, hzl, h2]; omega)) ?_
    cbv
    repeat (first | (refine vcIf.yes ?_ ?_; (focus (simp [hA.not, hA.eq, hA.lt, hA.le, hA.cond, hA.beq, hA.orb, hL.len, hL.slen, hL.sq]; done)); cbv) | (refine vcIf.no ?_ ?_; (focus (simp [hA.not, hA.eq, hA.lt, hA.le, hA.cond, hA.beq, hA.orb, hL.len, hL.slen, hL.sq]; done)); cbv) | fail)
    exact hret _ (RetEv.ret eOk rfl ⟨false, this.symm, rfl⟩)
  refine vcIf.yes (by first | (simp [hA.not, hA.eq, hA.lt, hA.le, hA.cond, hA.beq, hA.orb, hL.len, hL.slen, hL.sq, hzl, h2]; done) | (simp only [hzl, h2]; simp [hA.not, hA.eq, hA.lt, hA.le, hA.cond, hA.beq, hA.orb, hL.len, hL.slen, hL.sq, hzl, h2]; done) | (simp [hA.not, hA.eq, hA.lt, hA.le, hA.cond, hA.beq, hA.orb, hL.len, hL.slen, hL.sq, hzl, h2]; omega) | (simp only [hzl, h2]; simp [hA.not, hA.eq, hA.lt, hA.le, hA.cond, hA.beq, hA.orb, hL.len, hL.slen, hL.sq, hzl, h2]; omega)) ?_
  cbv
  refine hcall _ _ _ _ _ (CallEv.same hc rfl ?_)
  rintro _ _ ⟨b, hb, rfl, rfl⟩
  have hbR : (!b) = R := by
    rw [Bool.eq_iff_iff, hR2, Bool.not_eq_true']
    rw [hb, List.any_eq_false]
    constructor
    · intro h
      obtain ⟨k1, k2, k3⟩ := hm.1 h1
      exact ⟨k1, k2, k3, h2, fun z hz => by have := h z hz; simpa using this⟩
    · intro h z hz
      have := h.2.2.2.2 z hz
      simpa using this
  cbv
  refine hret _ (RetEv.ret eOk rfl ⟨_, hbR, ?_⟩)
  show V.p (.bool (bcond true (bnot b) false)) = _
  rw [hA.cond, hA.not]; rfl
end Go.Proofs.Ytnigonhkfpnodaa
