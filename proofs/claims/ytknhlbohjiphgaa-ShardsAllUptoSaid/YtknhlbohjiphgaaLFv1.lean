/- Transactions: sound or not. Conditions: on sizes. -/
import Derived.Test.YtknhlbohjiphgaaLCh1
set_option maxRecDepth 100000
set_option maxHeartbeats 4000000
set_option linter.unusedSimpArgs false
set_option linter.unusedVariables false
namespace Go.Proofs.Ytknhlbohjiphgaa
open Go Go.Lx
open Go.Sx (vcIf)

structure Spn where
  lo : List UInt8
  hi : List UInt8
def Spn.v (c : Spn) : PV := .agg [.str c.lo, .str c.hi]
def pP (l : List Spn) : List PV := l.map Spn.v
theorem pP_length (l : List Spn) : (pP l).length = l.length := List.length_map _
theorem pP_get {l : List Spn} {i : Nat} {c : Spn} (h : l[i]? = some c) : (pP l)[i]? = some (.agg [.str c.lo, .str c.hi]) := by unfold pP; rw [List.getElem?_map, h]; rfl
theorem Spn.wf (c : Spn) : c.v.wf 2 := ⟨rfl, fun u hu => by simp [Spn.v, PV.cells] at hu; rcases hu with rfl | rfl <;> rfl⟩
/-- A span that is too long, or runs backward. -/
def Spn.bad (c : Spn) : Bool := decide (17 < c.lo.length ∨ 17 < c.hi.length ∨ Op.bytesLess c.hi c.lo = true)
structure Tx where
  r : Int
  sp : List Spn
  ch : List Chg
def Tx.v (s : Tx) : PV := .agg [.int .i64 s.r, .sl (pP s.sp), .sl (cP s.ch)]
def Tx.okB (s : Tx) : Bool := decide (0 ≤ s.r ∧ s.sp.length ≤ 24 ∧ s.ch.length ≤ 24 ∧ chks s.ch = 0 ∧ s.sp.any Spn.bad = false)
theorem Tx.ok_iff (s : Tx) : s.okB = true ↔ (0 ≤ s.r ∧ s.sp.length ≤ 24 ∧ s.ch.length ≤ 24 ∧ chks s.ch = 0 ∧ s.sp.any Spn.bad = false) := by unfold Tx.okB; rw [decide_eq_true_eq]
def Tx.fit (s : Tx) : Prop := (-9223372036854775808 ≤ s.r ∧ s.r ≤ 9223372036854775807) ∧ (∀ c ∈ s.ch, c.fit) ∧ s.sp.length < 9223372036854775807 ∧ s.ch.length < 9223372036854775807

theorem frTxn1_spec (c : Spn) : FnL Try.prog 47 [.p (.agg [.str c.lo, .str c.hi])] [] fun v own => ∃ b, b = c.bad ∧ v = .p (.bool b) ∧ own = [] := by
  refine FnL.flat (R := fun v own => ∃ b, b = c.bad ∧ v = .p (.bool b)) ?_ (by rintro _ _ ⟨b, h, rfl⟩; exact ⟨_, _, rfl, .refl _, b, h, rfl, rfl⟩)
  obtain ⟨lo, hi⟩ := c
  obtain ⟨R, hR⟩ : ∃ R, R = Spn.bad ⟨lo, hi⟩ := ⟨_, rfl⟩
  rw [← hR]
  have hR2 : R = true ↔ (17 < lo.length ∨ 17 < hi.length ∨ Op.bytesLess hi lo = true) := by rw [hR]; unfold Spn.bad; rw [decide_eq_true_eq]
  obtain ⟨kn, hkn⟩ : ∃ n, n = lo.length := ⟨_, rfl⟩
  obtain ⟨vn, hvn⟩ : ∃ n, n = hi.length := ⟨_, rfl⟩
  rw [← hkn, ← hvn] at hR2
  have hmax : ∀ {imax : Int → Int → Int}, (∀ a b, imax a b = if b > a then b else a) → (17 < imax (Int.ofNat kn) (Int.ofNat vn) ↔ (17 < kn ∨ 17 < vn)) := fun h => by
    rw [h]; simp only [Int.ofNat_eq_natCast]; split <;> omega
  refine fn_of_vc eOk fOk fo47 Try.func47 rfl rfl rfl fun B hB => ?_
  intro add sub mul quo rem band bor bxor bclr shl shr ieq ilt ile seq slt beq bnot orb bcond iwrap iof ssz hA cat sq sl imin imax smin smax len slen u8 hL op hop call hcall code hcode ret hret
  have hk : slen lo = Int.ofNat kn := by rw [hL.slen, hkn]; rfl
  have hv : slen hi = Int.ofNat vn := by rw [hL.slen, hvn]; rfl
  have hm := hmax hL.imax
  cbv
  rw [hk, hv]
  obtain ⟨mx, hmx⟩ : ∃ m, m = imax (Int.ofNat kn) (Int.ofNat vn) := ⟨_, rfl⟩
  rw [← hmx] at hm ⊢
  by_cases h1 : 17 < mx
  · refine vcIf.yes (by rw [hA.lt]; exact decide_eq_true h1) ?_
    cbv
    repeat (first | (refine vcIf.yes ?_ ?_; (focus (simp [hA.not, hA.eq, hA.lt, hA.le, hA.cond, hA.beq, hA.orb, hL.len, hL.slen, hL.sq]; done)); cbv) | (refine vcIf.no ?_ ?_; (focus (simp [hA.not, hA.eq, hA.lt, hA.le, hA.cond, hA.beq, hA.orb, hL.len, hL.slen, hL.sq]; done)); cbv) | fail)
    exact hret _ (RetEv.ret eOk rfl ⟨true, (hR2.2 (by have := hm.1 h1; omega)).symm, rfl⟩)
  refine vcIf.no (by rw [hA.lt]; exact decide_eq_false h1) ?_
  cbv
  have hb : Op.bytesLess hi lo = R := by
    rw [Bool.eq_iff_iff, hR2]
    have := fun c => h1 (hm.2 c)
    exact ⟨fun h => .inr (.inr h), fun h => by rcases h with h | h | h; exact absurd (.inl h) this; exact absurd (.inr h) this; exact h⟩
  refine hret _ (RetEv.ret eOk rfl ⟨_, hb, ?_⟩)
  show V.p (.bool (bcond false true (bnot (orb (sl lo hi) (sq lo hi))))) = _
  rw [hA.cond, hA.not, hA.orb, hL.sl, hL.sq]
  exact congrArg (fun x => V.p (.bool x)) (bl_gt lo hi)

theorem idxSpns_spec (l : List Spn) (hl : l.length < 9223372036854775807) (zs : List PV) (hzs : zs = pP l) (f : FuncId) (p : Spn → Bool) (hf : ∀ z : Spn, FnL Try.prog f [.p (.agg [.str z.lo, .str z.hi])] [] fun v own => ∃ b, b = p z ∧ v = .p (.bool b) ∧ own = []) :
    FnL Try.prog 57 [.p (.sl zs), .p (.fn f)] [] fun v own => ∃ k : Int, (0 ≤ k ↔ l.any p = true) ∧ v = .p (.int .i64 k) ∧ own = [] := by
  have hzl : zs.length = l.length := by rw [hzs, pP_length]
  obtain ⟨N, hN⟩ : ∃ N, N = l.length := ⟨_, rfl⟩
  rw [← hN] at hzl hl
  refine fn_of_vc eOk fOk fo57 Try.func57 rfl rfl rfl fun B hB => ?_
  intro add sub mul quo rem band bor bxor bclr shl shr ieq ilt ile seq slt beq bnot orb bcond iwrap iof ssz hA cat sq sl imin imax smin smax len slen u8 hL op hop call hcall code hcode ret hret
  have hlen : len zs = Int.ofNat N := by rw [hL.len, hzl]; rfl
  cbv
  rw [hlen]
  refine hcode _ _ _ (CodeEv.loop eOk fOk (ι := Nat) (fun s => [(0, .p (.sl zs)), (1, .p (.fn f)), (7, .p (.int .i64 (Int.ofNat N))), (8, .p (.int .i64 (Int.ofNat s)))])
    (fun s => []) (fun s => s ≤ N ∧ (l.take s).any p = false) (fun s => N - s) 0 ?_ ?_)
  · exact ⟨⟨rfl, rfl, rfl, rfl, trivial⟩, rfl, Nat.zero_le _, rfl⟩
  rintro i ⟨h1, h2⟩ rd hrd
  intro add1 sub1 mul1 quo1 rem1 band1 bor1 bxor1 bclr1 shl1 shr1 ieq1 ilt1 ile1 seq1 slt1 beq1 bnot1 orb1 bcond1 iwrap1 iof1 ssz1 hA1 cat1 sq1 sl1 imin1 imax1 smin1 smax1 len1 slen1 u81 hL1 op1 hop1 call1 hcall1 code1 hcode1
  have hadd1 : i < N → add1 .i64 (Int.ofNat i) 1 = Int.ofNat (i + 1) := fun _ => by rw [hA1.add, IntWalk.i64_in _ (by simp only [Int.ofNat_eq_natCast]; omega)]; rfl
  cbv
  by_cases hi : i < N
  · obtain ⟨z, hz⟩ := get_of_lt (show i < l.length by omega)
    have hzz : zs[i]? = some (.agg [.str z.lo, .str z.hi]) := by rw [hzs]; exact pP_get hz
    have htk : l.take (i + 1) = l.take i ++ [z] := by rw [List.take_add_one, hz]; rfl
    have hfz := hf z
    obtain ⟨P, hP⟩ : ∃ P, P = p z := ⟨_, rfl⟩
    rw [← hP] at hfz
    obtain ⟨zlo, hzlo⟩ : ∃ x, x = z.lo := ⟨_, rfl⟩
    obtain ⟨zhi, hzhi⟩ : ∃ x, x = z.hi := ⟨_, rfl⟩
    rw [← hzlo, ← hzhi] at hfz hzz
    refine vcIf.yes (by first | (simp [hA1.not, hA1.eq, hA1.lt, hA1.le, hA1.cond, hA1.beq, hA1.orb, hL1.len, hL1.slen, hL1.sq, hi]; done) | (simp only [hi]; simp [hA1.not, hA1.eq, hA1.lt, hA1.le, hA1.cond, hA1.beq, hA1.orb, hL1.len, hL1.slen, hL1.sq, hi]; done) | (simp [hA1.not, hA1.eq, hA1.lt, hA1.le, hA1.cond, hA1.beq, hA1.orb, hL1.len, hL1.slen, hL1.sq, hi]; omega) | (simp only [hi]; simp [hA1.not, hA1.eq, hA1.lt, hA1.le, hA1.cond, hA1.beq, hA1.orb, hL1.len, hL1.slen, hL1.sq, hi]; omega)) ?_
    cbv
    refine ⟨i, _, rfl, hzz, rfl, ?_⟩
    cbv
    refine hcall1 _ _ _ _ _ (CallEv.same hfz rfl ?_)
    rintro _ _ ⟨b, hb, rfl, rfl⟩
    rw [hP] at hb
    cbv
    cases b with
    | true =>
      cbv
      refine hret _ (RetEv.ret eOk rfl ⟨_, ⟨fun _ => List.any_eq_true.2 ⟨z, List.mem_of_getElem? hz, hb.symm⟩, fun _ => ?_⟩, rfl, rfl⟩)
      exact Int.natCast_nonneg i
    | false =>
      cbv
      refine hrd _ ⟨i + 1, [], ?_, ⟨hi, ?_⟩, rfl, ⟨rfl, rfl, rfl, ?_, trivial⟩, rfl, rfl, rfl, ?_⟩
      · show N - (i + 1) < N - i
        omega
      · rw [htk, List.any_append, h2]; simp [← hb]
      · show some (V.p (.int .i64 _)) = _
        rw [hadd1 hi]
      · rw [hB]; exact Nat.zero_le _
  · refine vcIf.no (by first | (simp [hA1.not, hA1.eq, hA1.lt, hA1.le, hA1.cond, hA1.beq, hA1.orb, hL1.len, hL1.slen, hL1.sq, hi]; done) | (simp only [hi]; simp [hA1.not, hA1.eq, hA1.lt, hA1.le, hA1.cond, hA1.beq, hA1.orb, hL1.len, hL1.slen, hL1.sq, hi]; done) | (simp [hA1.not, hA1.eq, hA1.lt, hA1.le, hA1.cond, hA1.beq, hA1.orb, hL1.len, hL1.slen, hL1.sq, hi]; omega) | (simp only [hi]; simp [hA1.not, hA1.eq, hA1.lt, hA1.le, hA1.cond, hA1.beq, hA1.orb, hL1.len, hL1.slen, hL1.sq, hi]; omega)) ?_
    cbv
    rw [List.take_of_length_le (by omega)] at h2
    exact hret _ (RetEv.ret eOk rfl ⟨-1, ⟨fun c => absurd c (by decide), fun c => by rw [h2] at c; cases c⟩, rfl, rfl⟩)
theorem hasSpns_spec (l : List Spn) (hl : l.length < 9223372036854775807) (zs : List PV) (hzs : zs = pP l) (f : FuncId) (p : Spn → Bool) (hf : ∀ z : Spn, FnL Try.prog f [.p (.agg [.str z.lo, .str z.hi])] [] fun v own => ∃ b, b = p z ∧ v = .p (.bool b) ∧ own = []) :
    FnL Try.prog 46 [.p (.sl zs), .p (.fn f)] [] fun v own => ∃ b, b = l.any p ∧ v = .p (.bool b) ∧ own = [] := by
  have hi := idxSpns_spec l hl zs hzs f p hf
  refine fn_of_vc eOk fOk fo46 Try.func46 rfl rfl rfl fun B hB => ?_
  intro add sub mul quo rem band bor bxor bclr shl shr ieq ilt ile seq slt beq bnot orb bcond iwrap iof ssz hA cat sq sl imin imax smin smax len slen u8 hL op hop call hcall code hcode ret hret
  cbv
  refine hcall _ _ _ _ _ (CallEv.same hi rfl ?_)
  rintro _ _ ⟨k, hk, rfl, rfl⟩
  cbv
  refine hret _ (RetEv.ret eOk rfl ⟨_, rfl, ?_, rfl⟩)
  show V.p (.bool (ile 0 k)) = _
  rw [hA.le]
  congr 2
  rw [Bool.eq_iff_iff, decide_eq_true_eq]; exact hk

theorem frTxn_spec' (s : Tx) (hs1 : s.sp.length < 9223372036854775807) (hs2 : s.ch.length < 9223372036854775807) (xs zs : List PV) (hxs : xs = pP s.sp) (hzs : zs = cP s.ch) :
    FnL Try.prog 33 [.p (.agg [.int .i64 s.r, .sl xs, .sl zs])] [] fun v own => ∃ b, b = s.okB ∧ v = .p (.bool b) ∧ own = [] := by
  refine FnL.flat (R := fun v own => ∃ b, b = s.okB ∧ v = .p (.bool b)) ?_ (by rintro _ _ ⟨b, h, rfl⟩; exact ⟨_, _, rfl, .refl _, b, h, rfl, rfl⟩)
  have hR2 := s.ok_iff
  obtain ⟨R, hR⟩ : ∃ R, R = s.okB := ⟨_, rfl⟩
  rw [← hR] at hR2 ⊢
  clear hR
  obtain ⟨r, sp, ch⟩ := s
  simp only at hs1 hs2 hxs hzs hR2 ⊢
  have hxl : xs.length = sp.length := by rw [hxs, pP_length]
  have hzl : zs.length = ch.length := by rw [hzs, cP_length]
  have hc := all_spec ch hs2 zs hzs
  have hp := hasSpns_spec sp hs1 xs hxs _ _ frTxn1_spec
  obtain ⟨N, hN⟩ : ∃ N, N = ch.length := ⟨_, rfl⟩
  obtain ⟨M, hM⟩ : ∃ M, M = sp.length := ⟨_, rfl⟩
  rw [← hN] at hzl hR2
  rw [← hM] at hxl hR2
  refine fn_of_vc eOk fOk fo33 Try.func33 rfl rfl rfl fun B hB => ?_
  intro add sub mul quo rem band bor bxor bclr shl shr ieq ilt ile seq slt beq bnot orb bcond iwrap iof ssz hA cat sq sl imin imax smin smax len slen u8 hL op hop call hcall code hcode ret hret
  have hlx : len xs = Int.ofNat M := by rw [hL.len, hxl]; rfl
  have hlz : len zs = Int.ofNat N := by rw [hL.len, hzl]; rfl
  cbv
  by_cases h1 : 0 ≤ r
  rotate_left
  · have : R = false := by rw [Bool.eq_false_iff]; exact fun c => h1 (hR2.1 c).1
    refine vcIf.no (by first | (simp [hA.not, hA.eq, hA.lt, hA.le, hA.cond, hA.beq, hA.orb, hL.len, hL.slen, hL.sq, h1]; done) | (simp only [h1]; simp [hA.not, hA.eq, hA.lt, hA.le, hA.cond, hA.beq, hA.orb, hL.len, hL.slen, hL.sq, h1]; done) | (simp [hA.not, hA.eq, hA.lt, hA.le, hA.cond, hA.beq, hA.orb, hL.len, hL.slen, hL.sq, h1]; omega) | (simp only [h1]; simp [hA.not, hA.eq, hA.lt, hA.le, hA.cond, hA.beq, hA.orb, hL.len, hL.slen, hL.sq, h1]; omega)) ?_
    cbv
    repeat (first | (refine vcIf.yes ?_ ?_; (focus (simp [hA.not, hA.eq, hA.lt, hA.le, hA.cond, hA.beq, hA.orb, hL.len, hL.slen, hL.sq]; done)); cbv) | (refine vcIf.no ?_ ?_; (focus (simp [hA.not, hA.eq, hA.lt, hA.le, hA.cond, hA.beq, hA.orb, hL.len, hL.slen, hL.sq]; done)); cbv) | fail)
    exact hret _ (RetEv.ret eOk rfl ⟨false, this.symm, rfl⟩)
  refine vcIf.yes (by first | (simp [hA.not, hA.eq, hA.lt, hA.le, hA.cond, hA.beq, hA.orb, hL.len, hL.slen, hL.sq, h1]; done) | (simp only [h1]; simp [hA.not, hA.eq, hA.lt, hA.le, hA.cond, hA.beq, hA.orb, hL.len, hL.slen, hL.sq, h1]; done) | (simp [hA.not, hA.eq, hA.lt, hA.le, hA.cond, hA.beq, hA.orb, hL.len, hL.slen, hL.sq, h1]; omega) | (simp only [h1]; simp [hA.not, hA.eq, hA.lt, hA.le, hA.cond, hA.beq, hA.orb, hL.len, hL.slen, hL.sq, h1]; omega)) ?_
  cbv
  by_cases h2 : M ≤ 24
  rotate_left
  · have : R = false := by rw [Bool.eq_false_iff]; exact fun c => h2 (hR2.1 c).2.1
    refine vcIf.no (by first | (simp [hA.not, hA.eq, hA.lt, hA.le, hA.cond, hA.beq, hA.orb, hL.len, hL.slen, hL.sq, hlx, h2]; done) | (simp only [hlx, h2]; simp [hA.not, hA.eq, hA.lt, hA.le, hA.cond, hA.beq, hA.orb, hL.len, hL.slen, hL.sq, hlx, h2]; done) | (simp [hA.not, hA.eq, hA.lt, hA.le, hA.cond, hA.beq, hA.orb, hL.len, hL.slen, hL.sq, hlx, h2]; omega) | (simp only [hlx, h2]; simp [hA.not, hA.eq, hA.lt, hA.le, hA.cond, hA.beq, hA.orb, hL.len, hL.slen, hL.sq, hlx, h2]; omega)) ?_
    cbv
    repeat (first | (refine vcIf.yes ?_ ?_; (focus (simp [hA.not, hA.eq, hA.lt, hA.le, hA.cond, hA.beq, hA.orb, hL.len, hL.slen, hL.sq]; done)); cbv) | (refine vcIf.no ?_ ?_; (focus (simp [hA.not, hA.eq, hA.lt, hA.le, hA.cond, hA.beq, hA.orb, hL.len, hL.slen, hL.sq]; done)); cbv) | fail)
    exact hret _ (RetEv.ret eOk rfl ⟨false, this.symm, rfl⟩)
  refine vcIf.yes (by first | (simp [hA.not, hA.eq, hA.lt, hA.le, hA.cond, hA.beq, hA.orb, hL.len, hL.slen, hL.sq, hlx, h2]; done) | (simp only [hlx, h2]; simp [hA.not, hA.eq, hA.lt, hA.le, hA.cond, hA.beq, hA.orb, hL.len, hL.slen, hL.sq, hlx, h2]; done) | (simp [hA.not, hA.eq, hA.lt, hA.le, hA.cond, hA.beq, hA.orb, hL.len, hL.slen, hL.sq, hlx, h2]; omega) | (simp only [hlx, h2]; simp [hA.not, hA.eq, hA.lt, hA.le, hA.cond, hA.beq, hA.orb, hL.len, hL.slen, hL.sq, hlx, h2]; omega)) ?_
  cbv
  by_cases h3 : N ≤ 24
  rotate_left
  · have : R = false := by rw [Bool.eq_false_iff]; exact fun c => h3 (hR2.1 c).2.2.1
    refine vcIf.no (by first | (simp [hA.not, hA.eq, hA.lt, hA.le, hA.cond, hA.beq, hA.orb, hL.len, hL.slen, hL.sq, hlz, h3]; done) | (simp only [hlz, h3]; simp [hA.not, hA.eq, hA.lt, hA.le, hA.cond, hA.beq, hA.orb, hL.len, hL.slen, hL.sq, hlz, h3]; done) | (simp [hA.not, hA.eq, hA.lt, hA.le, hA.cond, hA.beq, hA.orb, hL.len, hL.slen, hL.sq, hlz, h3]; omega) | (simp only [hlz, h3]; simp [hA.not, hA.eq, hA.lt, hA.le, hA.cond, hA.beq, hA.orb, hL.len, hL.slen, hL.sq, hlz, h3]; omega)) ?_
    cbv
    repeat (first | (refine vcIf.yes ?_ ?_; (focus (simp [hA.not, hA.eq, hA.lt, hA.le, hA.cond, hA.beq, hA.orb, hL.len, hL.slen, hL.sq]; done)); cbv) | (refine vcIf.no ?_ ?_; (focus (simp [hA.not, hA.eq, hA.lt, hA.le, hA.cond, hA.beq, hA.orb, hL.len, hL.slen, hL.sq]; done)); cbv) | fail)
    exact hret _ (RetEv.ret eOk rfl ⟨false, this.symm, rfl⟩)
  refine vcIf.yes (by first | (simp [hA.not, hA.eq, hA.lt, hA.le, hA.cond, hA.beq, hA.orb, hL.len, hL.slen, hL.sq, hlz, h3]; done) | (simp only [hlz, h3]; simp [hA.not, hA.eq, hA.lt, hA.le, hA.cond, hA.beq, hA.orb, hL.len, hL.slen, hL.sq, hlz, h3]; done) | (simp [hA.not, hA.eq, hA.lt, hA.le, hA.cond, hA.beq, hA.orb, hL.len, hL.slen, hL.sq, hlz, h3]; omega) | (simp only [hlz, h3]; simp [hA.not, hA.eq, hA.lt, hA.le, hA.cond, hA.beq, hA.orb, hL.len, hL.slen, hL.sq, hlz, h3]; omega)) ?_
  cbv
  refine hcall _ _ _ _ _ (CallEv.same hc rfl ?_)
  rintro _ _ ⟨e, he, rfl, rfl⟩
  cbv
  by_cases h4 : e = 0
  rotate_left
  · have : R = false := by rw [Bool.eq_false_iff]; exact fun c => h4 (he.trans (hR2.1 c).2.2.2.1)
    refine vcIf.no (by first | (simp [hA.not, hA.eq, hA.lt, hA.le, hA.cond, hA.beq, hA.orb, hL.len, hL.slen, hL.sq, h4]; done) | (simp only [h4]; simp [hA.not, hA.eq, hA.lt, hA.le, hA.cond, hA.beq, hA.orb, hL.len, hL.slen, hL.sq, h4]; done) | (simp [hA.not, hA.eq, hA.lt, hA.le, hA.cond, hA.beq, hA.orb, hL.len, hL.slen, hL.sq, h4]; omega) | (simp only [h4]; simp [hA.not, hA.eq, hA.lt, hA.le, hA.cond, hA.beq, hA.orb, hL.len, hL.slen, hL.sq, h4]; omega)) ?_
    cbv
    repeat (first | (refine vcIf.yes ?_ ?_; (focus (simp [hA.not, hA.eq, hA.lt, hA.le, hA.cond, hA.beq, hA.orb, hL.len, hL.slen, hL.sq]; done)); cbv) | (refine vcIf.no ?_ ?_; (focus (simp [hA.not, hA.eq, hA.lt, hA.le, hA.cond, hA.beq, hA.orb, hL.len, hL.slen, hL.sq]; done)); cbv) | fail)
    exact hret _ (RetEv.ret eOk rfl ⟨false, this.symm, rfl⟩)
  refine vcIf.yes (by first | (simp [hA.not, hA.eq, hA.lt, hA.le, hA.cond, hA.beq, hA.orb, hL.len, hL.slen, hL.sq, h4]; done) | (simp only [h4]; simp [hA.not, hA.eq, hA.lt, hA.le, hA.cond, hA.beq, hA.orb, hL.len, hL.slen, hL.sq, h4]; done) | (simp [hA.not, hA.eq, hA.lt, hA.le, hA.cond, hA.beq, hA.orb, hL.len, hL.slen, hL.sq, h4]; omega) | (simp only [h4]; simp [hA.not, hA.eq, hA.lt, hA.le, hA.cond, hA.beq, hA.orb, hL.len, hL.slen, hL.sq, h4]; omega)) ?_
  cbv
  refine hcall _ _ _ _ _ (CallEv.same hp rfl ?_)
  rintro _ _ ⟨b, hb, rfl, rfl⟩
  have hbR : (!b) = R := by
    rw [Bool.eq_iff_iff, hR2, hb, Bool.not_eq_true']
    exact ⟨fun h => ⟨h1, h2, h3, he.symm.trans h4, h⟩, fun h => h.2.2.2.2⟩
  cbv
  refine hret _ (RetEv.ret eOk rfl ⟨_, hbR, ?_⟩)
  show V.p (.bool (bcond true (bnot b) false)) = _
  rw [hA.cond, hA.not]; rfl
theorem frTxn_spec (s : Tx) (hs : s.fit) (xs zs : List PV) (hxs : xs = pP s.sp) (hzs : zs = cP s.ch) :
    FnL Try.prog 33 [.p (.agg [.int .i64 s.r, .sl xs, .sl zs])] [] fun v own => ∃ b, b = s.okB ∧ v = .p (.bool b) ∧ own = [] := frTxn_spec' s hs.2.2.1 hs.2.2.2 xs zs hxs hzs
end Go.Proofs.Ytknhlbohjiphgaa
