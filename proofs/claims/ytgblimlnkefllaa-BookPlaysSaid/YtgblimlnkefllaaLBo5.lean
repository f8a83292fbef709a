/- The document's records: Same, fits, Lay, Read. Conditions: on sizes. -/
import Derived.Test.YtgblimlnkefllaaLBo4
import Derived.Test.YtgblimlnkefllaaLCas2
import Derived.Test.YtgblimlnkefllaaLFr3
set_option maxRecDepth 100000
set_option maxHeartbeats 8000000
set_option linter.unusedSimpArgs false
set_option linter.unusedVariables false
namespace Go.Proofs.Ytgblimlnkefllaa
open Go Go.Lx
open Go.Sx (vcIf)

theorem take_eq_last {α : Type} {a b : List α} {i : Nat} {x y : α} (h : a.take i = b.take i) (hx : a[i]? = some x) (hy : b[i]? = some y) (e : x = y) : a.take (i + 1) = b.take (i + 1) := by
  rw [List.take_add_one, List.take_add_one, h, hx, hy, e]
theorem rbSame_spec (a b : List (List UInt8)) (ha : a.length < 4611686018427387904) (xs ys : List PV) (hx : xs = rcP a) (hy : ys = rcP b) :
    FnL Try.prog 26 [.p (.sl xs), .p (.sl ys)] [] fun v own => ∃ c, c = decide (a = b) ∧ v = .p (.bool c) ∧ own = [] := by
  obtain ⟨N, hN⟩ : ∃ N, N = a.length := ⟨_, rfl⟩
  have hxl : xs.length = N := by rw [hx, rcP_length, hN]
  have hyl : ys.length = b.length := by rw [hy, rcP_length]
  refine fn_of_vc eOk fOk fo26 Try.func26 rfl rfl rfl fun B hB => ?_
  intro add sub mul quo rem band bor bxor bclr shl shr ieq ilt ile seq slt beq bnot orb bcond iwrap iof ssz hA cat sq sl imin imax smin smax len slen u8 hL op hop call hcall code hcode ret hret
  have hlx : len xs = Int.ofNat N := by rw [hL.len, hxl]; rfl
  have hly : len ys = Int.ofNat b.length := by rw [hL.len, hyl]; rfl
  cbv
  by_cases hne : N = b.length
  · refine vcIf.no (by first | (simp [hA.not, hA.eq, hA.lt, hA.le, hA.cond, hA.beq, hA.orb, hL.len, hL.slen, hL.sq, hlx, hly, hne]; done) | (simp only [hlx, hly, hne]; simp [hA.not, hA.eq, hA.lt, hA.le, hA.cond, hA.beq, hA.orb, hL.len, hL.slen, hL.sq, hlx, hly, hne]; done) | (simp [hA.not, hA.eq, hA.lt, hA.le, hA.cond, hA.beq, hA.orb, hL.len, hL.slen, hL.sq, hlx, hly, hne]; omega) | (simp only [hlx, hly, hne]; simp [hA.not, hA.eq, hA.lt, hA.le, hA.cond, hA.beq, hA.orb, hL.len, hL.slen, hL.sq, hlx, hly, hne]; omega)) ?_
    cbv
    refine hcode _ _ _ (CodeEv.loop eOk fOk (ι := Nat) (fun i => [(0, .p (.sl xs)), (1, .p (.sl ys)), (5, .p (.int .i64 (Int.ofNat i)))])
      (fun _ => []) (fun i => i ≤ N ∧ a.take i = b.take i) (fun i => N - i) 0 ?_ ?_)
    · exact ⟨⟨rfl, rfl, rfl, trivial⟩, rfl, Nat.zero_le _, by simp⟩
    rintro i ⟨h1, h2⟩ rd hrd
    intro add1 sub1 mul1 quo1 rem1 band1 bor1 bxor1 bclr1 shl1 shr1 ieq1 ilt1 ile1 seq1 slt1 beq1 bnot1 orb1 bcond1 iwrap1 iof1 ssz1 hA1 cat1 sq1 sl1 imin1 imax1 smin1 smax1 len1 slen1 u81 hL1 op1 hop1 call1 hcall1 code1 hcode1
    have hlx1 : len1 xs = Int.ofNat N := by rw [hL1.len, hxl]; rfl
    have hadd1 : i < N → add1 .i64 (Int.ofNat i) 1 = Int.ofNat (i + 1) := fun _ => by rw [hA1.add, IntWalk.i64_in _ (by simp only [Int.ofNat_eq_natCast]; omega)]; rfl
    cbv
    by_cases hi : i < N
    · obtain ⟨p, hp⟩ := get_of_lt (show i < a.length by omega)
      obtain ⟨q, hq⟩ := get_of_lt (show i < b.length by omega)
      have hxi : xs[i]? = some (.sl (bP p)) := by rw [hx]; exact rcP_get hp
      have hyi : ys[i]? = some (.sl (bP q)) := by rw [hy]; exact rcP_get hq
      obtain ⟨us, hus⟩ : ∃ us, us = bP p := ⟨_, rfl⟩
      obtain ⟨vs, hvs⟩ : ∃ vs, vs = bP q := ⟨_, rfl⟩
      rw [← hus] at hxi
      rw [← hvs] at hyi
      have hst : p = q → a.take (i + 1) = b.take (i + 1) := take_eq_last h2 hp hq
      have hdf : p ≠ q → ¬ a = b := fun c e => by rw [e, hq] at hp; exact c (Option.some.inj hp).symm
      refine vcIf.yes (by first | (simp [hA1.not, hA1.eq, hA1.lt, hA1.le, hA1.cond, hA1.beq, hA1.orb, hL1.len, hL1.slen, hL1.sq, hlx1, hi]; done) | (simp only [hlx1, hi]; simp [hA1.not, hA1.eq, hA1.lt, hA1.le, hA1.cond, hA1.beq, hA1.orb, hL1.len, hL1.slen, hL1.sq, hlx1, hi]; done) | (simp [hA1.not, hA1.eq, hA1.lt, hA1.le, hA1.cond, hA1.beq, hA1.orb, hL1.len, hL1.slen, hL1.sq, hlx1, hi]; omega) | (simp only [hlx1, hi]; simp [hA1.not, hA1.eq, hA1.lt, hA1.le, hA1.cond, hA1.beq, hA1.orb, hL1.len, hL1.slen, hL1.sq, hlx1, hi]; omega)) ?_
      cbv
      refine hcode1 _ _ _ (CodeEv.drawA eOk fOk (by kernel_rfl) noX (by kernel_rfl) (by kernel_rfl) (by kernel_rfl) ?_)
      intro add2 sub2 mul2 quo2 rem2 band2 bor2 bxor2 bclr2 shl2 shr2 ieq2 ilt2 ile2 seq2 slt2 beq2 bnot2 orb2 bcond2 iwrap2 iof2 ssz2 hA2 cat2 sq2 sl2 imin2 imax2 smin2 smax2 len2 slen2 u82 hL2 op2 hop2 call2 hcall2 code2 hcode2 q2 hq2
      have hsq : sq2 p q = decide (p = q) := hL2.sq p q
      cbv
      refine ⟨i, _, rfl, hxi, rfl, ?_⟩
      cbv
      refine ⟨p, hus, ?_⟩
      cbv
      refine ⟨i, _, rfl, hyi, rfl, ?_⟩
      cbv
      refine ⟨q, hvs, ?_⟩
      cbv
      refine hq2 _ ?_
      cbv
      by_cases hpq : p = q
      · refine vcIf.no (by first | (simp [hA2.not, hA2.eq, hA2.lt, hA2.le, hA2.cond, hA2.beq, hA2.orb, hL2.len, hL2.slen, hL2.sq, hsq, hpq]; done) | (simp only [hsq, hpq]; simp [hA2.not, hA2.eq, hA2.lt, hA2.le, hA2.cond, hA2.beq, hA2.orb, hL2.len, hL2.slen, hL2.sq, hsq, hpq]; done) | (simp [hA2.not, hA2.eq, hA2.lt, hA2.le, hA2.cond, hA2.beq, hA2.orb, hL2.len, hL2.slen, hL2.sq, hsq, hpq]; omega) | (simp only [hsq, hpq]; simp [hA2.not, hA2.eq, hA2.lt, hA2.le, hA2.cond, hA2.beq, hA2.orb, hL2.len, hL2.slen, hL2.sq, hsq, hpq]; omega)) ?_
        cbv
        rw [hadd1 hi]
        refine hrd _ ⟨i + 1, [], ?_, ⟨hi, hst hpq⟩, rfl, (by repeat (first | exact trivial | refine And.intro rfl ?_)), rfl, rfl, rfl, ?_⟩
        · show N - (i + 1) < N - i
          omega
        · rw [hB]; exact Nat.zero_le _
      · refine vcIf.yes (by first | (simp [hA2.not, hA2.eq, hA2.lt, hA2.le, hA2.cond, hA2.beq, hA2.orb, hL2.len, hL2.slen, hL2.sq, hsq, hpq]; done) | (simp only [hsq, hpq]; simp [hA2.not, hA2.eq, hA2.lt, hA2.le, hA2.cond, hA2.beq, hA2.orb, hL2.len, hL2.slen, hL2.sq, hsq, hpq]; done) | (simp [hA2.not, hA2.eq, hA2.lt, hA2.le, hA2.cond, hA2.beq, hA2.orb, hL2.len, hL2.slen, hL2.sq, hsq, hpq]; omega) | (simp only [hsq, hpq]; simp [hA2.not, hA2.eq, hA2.lt, hA2.le, hA2.cond, hA2.beq, hA2.orb, hL2.len, hL2.slen, hL2.sq, hsq, hpq]; omega)) ?_
        cbv
        refine hret _ (RetEv.ret eOk rfl ⟨false, (decide_eq_false (hdf hpq)).symm, rfl, rfl⟩)
    · refine vcIf.no (by first | (simp [hA1.not, hA1.eq, hA1.lt, hA1.le, hA1.cond, hA1.beq, hA1.orb, hL1.len, hL1.slen, hL1.sq, hlx1, hi]; done) | (simp only [hlx1, hi]; simp [hA1.not, hA1.eq, hA1.lt, hA1.le, hA1.cond, hA1.beq, hA1.orb, hL1.len, hL1.slen, hL1.sq, hlx1, hi]; done) | (simp [hA1.not, hA1.eq, hA1.lt, hA1.le, hA1.cond, hA1.beq, hA1.orb, hL1.len, hL1.slen, hL1.sq, hlx1, hi]; omega) | (simp only [hlx1, hi]; simp [hA1.not, hA1.eq, hA1.lt, hA1.le, hA1.cond, hA1.beq, hA1.orb, hL1.len, hL1.slen, hL1.sq, hlx1, hi]; omega)) ?_
      cbv
      rw [List.take_of_length_le (by omega), List.take_of_length_le (by omega)] at h2
      refine hret _ (RetEv.ret eOk rfl ⟨true, (decide_eq_true h2).symm, rfl, rfl⟩)
  · refine vcIf.yes (by first | (simp [hA.not, hA.eq, hA.lt, hA.le, hA.cond, hA.beq, hA.orb, hL.len, hL.slen, hL.sq, hlx, hly, hne]; done) | (simp only [hlx, hly, hne]; simp [hA.not, hA.eq, hA.lt, hA.le, hA.cond, hA.beq, hA.orb, hL.len, hL.slen, hL.sq, hlx, hly, hne]; done) | (simp [hA.not, hA.eq, hA.lt, hA.le, hA.cond, hA.beq, hA.orb, hL.len, hL.slen, hL.sq, hlx, hly, hne]; omega) | (simp only [hlx, hly, hne]; simp [hA.not, hA.eq, hA.lt, hA.le, hA.cond, hA.beq, hA.orb, hL.len, hL.slen, hL.sq, hlx, hly, hne]; omega)) ?_
    cbv
    refine hret _ (RetEv.ret eOk rfl ⟨false, (decide_eq_false fun c => hne (by rw [hN, c])).symm, rfl, rfl⟩)

theorem rbFits_spec (a : List (List UInt8)) (ha : a.length < 4611686018427387904) (xs : List PV) (hx : xs = rcP a) :
    FnL Try.prog 30 [.p (.sl xs)] [] fun v own => ∃ c, c = decide (∀ r ∈ a, r.length ≤ 65532) ∧ v = .p (.bool c) ∧ own = [] := by
  obtain ⟨N, hN⟩ : ∃ N, N = a.length := ⟨_, rfl⟩
  have hxl : xs.length = N := by rw [hx, rcP_length, hN]
  refine fn_of_vc eOk fOk fo30 Try.func30 rfl rfl rfl fun B hB => ?_
  intro add sub mul quo rem band bor bxor bclr shl shr ieq ilt ile seq slt beq bnot orb bcond iwrap iof ssz hA cat sq sl imin imax smin smax len slen u8 hL op hop call hcall code hcode ret hret
  cbv
  refine hcode _ _ _ (CodeEv.loop eOk fOk (ι := Nat) (fun i => [(0, .p (.sl xs)), (3, .p (.int .i64 (Int.ofNat i)))])
    (fun _ => []) (fun i => i ≤ N ∧ ∀ r ∈ a.take i, r.length ≤ 65532) (fun i => N - i) 0 ?_ ?_)
  · exact ⟨⟨rfl, rfl, trivial⟩, rfl, Nat.zero_le _, by simp⟩
  rintro i ⟨h1, h2⟩ rd hrd
  intro add1 sub1 mul1 quo1 rem1 band1 bor1 bxor1 bclr1 shl1 shr1 ieq1 ilt1 ile1 seq1 slt1 beq1 bnot1 orb1 bcond1 iwrap1 iof1 ssz1 hA1 cat1 sq1 sl1 imin1 imax1 smin1 smax1 len1 slen1 u81 hL1 op1 hop1 call1 hcall1 code1 hcode1
  have hlx1 : len1 xs = Int.ofNat N := by rw [hL1.len, hxl]; rfl
  have hadd1 : i < N → add1 .i64 (Int.ofNat i) 1 = Int.ofNat (i + 1) := fun _ => by rw [hA1.add, IntWalk.i64_in _ (by simp only [Int.ofNat_eq_natCast]; omega)]; rfl
  cbv
  by_cases hi : i < N
  · obtain ⟨p, hp⟩ := get_of_lt (show i < a.length by omega)
    obtain ⟨us, hus⟩ : ∃ us, us = bP p := ⟨_, rfl⟩
    have hxi : xs[i]? = some (.sl us) := by rw [hx, hus]; exact rcP_get hp
    have hul : len1 us = Int.ofNat p.length := by rw [hL1.len, hus, bP_length]; rfl
    have hst : p.length ≤ 65532 → ∀ r ∈ a.take (i + 1), r.length ≤ 65532 := fun h r hr => by
      rw [List.take_add_one, hp] at hr
      rcases List.mem_append.1 hr with c | c
      · exact h2 r c
      · simp at c; rw [c]; exact h
    have hdf : 65532 < p.length → ¬ ∀ r ∈ a, r.length ≤ 65532 := fun c e => by have := e p (List.mem_of_getElem? hp); omega
    refine vcIf.yes (by first | (simp [hA1.not, hA1.eq, hA1.lt, hA1.le, hA1.cond, hA1.beq, hA1.orb, hL1.len, hL1.slen, hL1.sq, hlx1, hi]; done) | (simp only [hlx1, hi]; simp [hA1.not, hA1.eq, hA1.lt, hA1.le, hA1.cond, hA1.beq, hA1.orb, hL1.len, hL1.slen, hL1.sq, hlx1, hi]; done) | (simp [hA1.not, hA1.eq, hA1.lt, hA1.le, hA1.cond, hA1.beq, hA1.orb, hL1.len, hL1.slen, hL1.sq, hlx1, hi]; omega) | (simp only [hlx1, hi]; simp [hA1.not, hA1.eq, hA1.lt, hA1.le, hA1.cond, hA1.beq, hA1.orb, hL1.len, hL1.slen, hL1.sq, hlx1, hi]; omega)) ?_
    cbv
    refine ⟨i, _, rfl, hxi, rfl, ?_⟩
    cbv
    by_cases hpq : 65532 < p.length
    · refine vcIf.yes (by first | (simp [hA1.not, hA1.eq, hA1.lt, hA1.le, hA1.cond, hA1.beq, hA1.orb, hL1.len, hL1.slen, hL1.sq, hul, hpq]; done) | (simp only [hul, hpq]; simp [hA1.not, hA1.eq, hA1.lt, hA1.le, hA1.cond, hA1.beq, hA1.orb, hL1.len, hL1.slen, hL1.sq, hul, hpq]; done) | (simp [hA1.not, hA1.eq, hA1.lt, hA1.le, hA1.cond, hA1.beq, hA1.orb, hL1.len, hL1.slen, hL1.sq, hul, hpq]; omega) | (simp only [hul, hpq]; simp [hA1.not, hA1.eq, hA1.lt, hA1.le, hA1.cond, hA1.beq, hA1.orb, hL1.len, hL1.slen, hL1.sq, hul, hpq]; omega)) ?_
      cbv
      refine hret _ (RetEv.ret eOk rfl ⟨false, (decide_eq_false (hdf hpq)).symm, rfl, rfl⟩)
    · refine vcIf.no (by first | (simp [hA1.not, hA1.eq, hA1.lt, hA1.le, hA1.cond, hA1.beq, hA1.orb, hL1.len, hL1.slen, hL1.sq, hul, hpq]; done) | (simp only [hul, hpq]; simp [hA1.not, hA1.eq, hA1.lt, hA1.le, hA1.cond, hA1.beq, hA1.orb, hL1.len, hL1.slen, hL1.sq, hul, hpq]; done) | (simp [hA1.not, hA1.eq, hA1.lt, hA1.le, hA1.cond, hA1.beq, hA1.orb, hL1.len, hL1.slen, hL1.sq, hul, hpq]; omega) | (simp only [hul, hpq]; simp [hA1.not, hA1.eq, hA1.lt, hA1.le, hA1.cond, hA1.beq, hA1.orb, hL1.len, hL1.slen, hL1.sq, hul, hpq]; omega)) ?_
      cbv
      rw [hadd1 hi]
      refine hrd _ ⟨i + 1, [], ?_, ⟨hi, hst (by omega)⟩, rfl, (by repeat (first | exact trivial | refine And.intro rfl ?_)), rfl, rfl, rfl, ?_⟩
      · show N - (i + 1) < N - i
        omega
      · rw [hB]; exact Nat.zero_le _
  · refine vcIf.no (by first | (simp [hA1.not, hA1.eq, hA1.lt, hA1.le, hA1.cond, hA1.beq, hA1.orb, hL1.len, hL1.slen, hL1.sq, hlx1, hi]; done) | (simp only [hlx1, hi]; simp [hA1.not, hA1.eq, hA1.lt, hA1.le, hA1.cond, hA1.beq, hA1.orb, hL1.len, hL1.slen, hL1.sq, hlx1, hi]; done) | (simp [hA1.not, hA1.eq, hA1.lt, hA1.le, hA1.cond, hA1.beq, hA1.orb, hL1.len, hL1.slen, hL1.sq, hlx1, hi]; omega) | (simp only [hlx1, hi]; simp [hA1.not, hA1.eq, hA1.lt, hA1.le, hA1.cond, hA1.beq, hA1.orb, hL1.len, hL1.slen, hL1.sq, hlx1, hi]; omega)) ?_
    cbv
    rw [List.take_of_length_le (by omega)] at h2
    refine hret _ (RetEv.ret eOk rfl ⟨true, (decide_eq_true h2).symm, rfl, rfl⟩)

theorem rbLay_spec (l : List (List UInt8)) (hl : ∀ r ∈ l, r.length ≤ 65536) (hs : 65560 * l.length + 20 ≤ 140737488355328) (zs : List PV) (hzs : zs = rcP l) :
    FnL Try.prog 31 [.p (.sl zs)] [] fun v own => ∃ ys, ys = bP (rbytes l) ∧ v = .p (.sl ys) ∧ own = [] := by
  refine FnL.flat (R := fun v own => ∃ ys, ys = bP (rbytes l) ∧ v = .p (.sl ys)) ?_ (by rintro _ _ ⟨zs, h, rfl⟩; exact ⟨_, _, rfl, .refl _, zs, h, rfl, rfl⟩)
  obtain ⟨N, hN⟩ : ∃ N, N = l.length := ⟨_, rfl⟩
  have hzl : zs.length = N := by rw [hzs, rcP_length, hN]
  rw [← hN] at hs
  refine fn_of_vc eOk fOk fo31 Try.func31 rfl rfl rfl fun B hB => ?_
  intro add sub mul quo rem band bor bxor bclr shl shr ieq ilt ile seq slt beq bnot orb bcond iwrap iof ssz hA cat sq sl imin imax smin smax len slen u8 hL op hop call hcall code hcode ret hret
  cbv
  refine ⟨true, ?_⟩
  cbv
  refine hcode _ _ _ ?_
  refine CodeEv.loop eOk fOk (ι := Nat × Nat × List PV) (fun s => [(0, .p (.sl zs)), (3, .vw 0 1 0 s.2.1 none), (4, .p (.int .i64 (Int.ofNat s.1)))])
    (fun s => [wrA s.2.2]) (fun s => s.1 ≤ N ∧ s.2.2.length = s.2.1 ∧ s.2.1 ≤ 65560 * s.1 ∧ s.2.2 = bP (rbytes (l.take s.1))) (fun s => N - s.1) (0, 0, []) ?_ ?_
  · exact ⟨⟨rfl, rfl, rfl, trivial⟩, rfl, Nat.zero_le _, rfl, Nat.zero_le _, by simp [rbytes, encts, bP]⟩
  rintro ⟨i, k, us⟩ ⟨h1, h2, h3, h4⟩ rd hrd
  simp only at h1 h2 h3 h4
  intro add1 sub1 mul1 quo1 rem1 band1 bor1 bxor1 bclr1 shl1 shr1 ieq1 ilt1 ile1 seq1 slt1 beq1 bnot1 orb1 bcond1 iwrap1 iof1 ssz1 hA1 cat1 sq1 sl1 imin1 imax1 smin1 smax1 len1 slen1 u81 hL1 op1 hop1 call1 hcall1 code1 hcode1
  have hlx1 : len1 zs = Int.ofNat N := by rw [hL1.len, hzl]; rfl
  have hadd1 : i < N → add1 .i64 (Int.ofNat i) 1 = Int.ofNat (i + 1) := fun _ => by rw [hA1.add, IntWalk.i64_in _ (by simp only [Int.ofNat_eq_natCast]; omega)]; rfl
  cbv
  by_cases hi : i < N
  · obtain ⟨r, hr⟩ := get_of_lt (show i < l.length by omega)
    obtain ⟨bs, hbs⟩ : ∃ bs, bs = bP r := ⟨_, rfl⟩
    have hzz : zs[i]? = some (.sl bs) := by rw [hzs, hbs]; exact rcP_get hr
    have htk : l.take (i + 1) = l.take i ++ [r] := by rw [List.take_add_one, hr]; rfl
    have hrm := hl r (List.mem_of_getElem? hr)
    have hse := rSeal_spec r bs hbs (by omega)
    have hsl := cseal_length r
    have hrb : rbytes (l.take (i + 1)) = rbytes (l.take i) ++ enct (cseal r) := by rw [htk, rbytes_append, rbytes_one]
    obtain ⟨S, hS⟩ : ∃ S, S = cseal r := ⟨_, rfl⟩
    rw [← hS] at hse hsl hrb
    have hpt := rputText_spec S k us h2 (by omega)
    refine vcIf.yes (by first | (simp [hA1.not, hA1.eq, hA1.lt, hA1.le, hA1.cond, hA1.beq, hA1.orb, hL1.len, hL1.slen, hL1.sq, hlx1, hi]; done) | (simp only [hlx1, hi]; simp [hA1.not, hA1.eq, hA1.lt, hA1.le, hA1.cond, hA1.beq, hA1.orb, hL1.len, hL1.slen, hL1.sq, hlx1, hi]; done) | (simp [hA1.not, hA1.eq, hA1.lt, hA1.le, hA1.cond, hA1.beq, hA1.orb, hL1.len, hL1.slen, hL1.sq, hlx1, hi]; omega) | (simp only [hlx1, hi]; simp [hA1.not, hA1.eq, hA1.lt, hA1.le, hA1.cond, hA1.beq, hA1.orb, hL1.len, hL1.slen, hL1.sq, hlx1, hi]; omega)) ?_
    cbv
    refine ⟨i, _, rfl, hzz, rfl, ?_⟩
    cbv
    refine hcall1 _ _ _ _ _ (CallEv.same hse rfl ?_)
    rintro _ _ ⟨ws, hws, rfl, rfl⟩
    cbv
    refine ⟨S, hws, ?_⟩
    cbv
    refine hcall1 _ _ _ _ _ (CallEv.lend [0] hpt rfl (.cons (.vw 0 0 1 0 k none rfl) (.cons (.p _) .nil)) ⟨⟨_, rfl, .arr _ _ _⟩, trivial⟩ ?_)
    rintro _ _ ⟨k', us', w1, w2, w3, rfl, rfl⟩
    cbv
    rw [hadd1 hi]
    refine hrd _ ⟨(i + 1, k', us'), [], ?_, ⟨hi, w2.symm, ?_, ?_⟩, rfl, (by repeat (first | exact trivial | refine And.intro rfl ?_)), rfl, rfl, rfl, ?_⟩
    · simp only; omega
    · simp only; omega
    · simp only; rw [w1, h4, hrb, bP_append]
    · rw [hB]; exact Nat.zero_le _
  · refine vcIf.no (by first | (simp [hA1.not, hA1.eq, hA1.lt, hA1.le, hA1.cond, hA1.beq, hA1.orb, hL1.len, hL1.slen, hL1.sq, hlx1, hi]; done) | (simp only [hlx1, hi]; simp [hA1.not, hA1.eq, hA1.lt, hA1.le, hA1.cond, hA1.beq, hA1.orb, hL1.len, hL1.slen, hL1.sq, hlx1, hi]; done) | (simp [hA1.not, hA1.eq, hA1.lt, hA1.le, hA1.cond, hA1.beq, hA1.orb, hL1.len, hL1.slen, hL1.sq, hlx1, hi]; omega) | (simp only [hlx1, hi]; simp [hA1.not, hA1.eq, hA1.lt, hA1.le, hA1.cond, hA1.beq, hA1.orb, hL1.len, hL1.slen, hL1.sq, hlx1, hi]; omega)) ?_
    cbv
    rw [List.take_of_length_le (by omega)] at h4
    refine hret _ (RetEv.retF eOk rfl 0 rfl (by rw [hB]; exact Nat.zero_le _) ⟨us, h4, ?_⟩)
    show V.p (.sl ((us.drop 0).take k)) = _
    rw [frz_full h2]

theorem rbRead_spec (l : List UInt8) (hl : l.length ≤ 1048576) (ys : List PV) (hys : ys = bP l) :
    FnL Try.prog 25 [.p (.sl ys)] [] fun v own => ∃ (rs : List PV) (k : Nat), (rs = rcP (rdR l).1 ∧ k = (rdR l).2) ∧ v = .p (.tup [.sl rs, .int .i64 (Int.ofNat k)]) ∧ own = [] := by
  refine FnL.flat (R := fun v own => ∃ (rs : List PV) (k : Nat), (rs = rcP (rdR l).1 ∧ k = (rdR l).2) ∧ v = .p (.tup [.sl rs, .int .i64 (Int.ofNat k)])) ?_ (by rintro _ _ ⟨zs, k, h, rfl⟩; exact ⟨_, _, rfl, .refl _, zs, k, h, rfl, rfl⟩)
  obtain ⟨N, hN⟩ : ∃ N, N = l.length := ⟨_, rfl⟩
  have hyl : ys.length = N := by rw [hys, bP_length, hN]
  have hyw : ∀ y ∈ ys, y.cells.length = 1 := fun y hy => by rw [hys] at hy; exact (bP_wf _ y hy).1
  obtain ⟨D, hD⟩ : ∃ D, D = rdR l := ⟨_, rfl⟩
  rw [← hD]
  refine fn_of_vc eOk fOk fo25 Try.func25 rfl rfl rfl fun B hB => ?_
  intro add sub mul quo rem band bor bxor bclr shl shr ieq ilt ile seq slt beq bnot orb bcond iwrap iof ssz hA cat sq sl imin imax smin smax len slen u8 hL op hop call hcall code hcode ret hret
  cbv
  refine ⟨true, ?_⟩
  cbv
  refine hcode _ _ _ ?_
  refine CodeEv.loop eOk fOk (ι := Nat × List (List UInt8) × Nat × List PV) (fun s => [(0, .p (.sl ys)), (4, .vw 0 1 0 s.2.2.1 none), (5, .p (.int .i64 (Int.ofNat s.1)))])
    (fun s => [bkA s.2.2.2]) (fun s => s.1 ≤ N ∧ s.2.2.1 = s.2.1.length ∧ s.2.2.2 = rcP s.2.1 ∧ s.2.1.length ≤ s.1 ∧ D = (s.2.1 ++ (rdR (l.drop s.1)).1, s.1 + (rdR (l.drop s.1)).2)) (fun s => N - s.1) (0, [], 0, []) ?_ ?_
  · exact ⟨⟨rfl, rfl, rfl, trivial⟩, rfl, Nat.zero_le _, rfl, rfl, Nat.zero_le _, by rw [hD]; simp⟩
  rintro ⟨k, rl, m, rs⟩ ⟨k1, k2, k3, k4, k5⟩ rd hrd
  simp only at k1 k2 k3 k4 k5
  obtain ⟨L, hLd⟩ : ∃ L, L = l.drop k := ⟨_, rfl⟩
  rw [← hLd] at k5
  have hLl : L.length = N - k := by rw [hLd, List.length_drop, hN]
  have htx : ∀ zs, zs = bP L → FnL Try.prog 38 [.p (.sl zs)] [] (textR (decT L)) := fun zs h => by rw [h]; exact rtext_spec L (by omega)
  have hzL : (ys.drop k).take (N - k) = bP L := by rw [hys, bP_drop, ← hLd, List.take_of_length_le (by rw [bP_length]; omega)]
  have hus := decT_used L
  have hps := decT_pos (l := L)
  have hok := decT_ok (l := L)
  have hstop := rdR_stop (l := L)
  have hstep := @rdR_step L
  have hsto : rdR L = ([], 0) → rs = rcP D.1 ∧ k = D.2 := fun h => by rw [k5, h]; simp [k3]
  have hframe : (rs.drop 0).take m = rs := frz_full (by rw [k3, rcP_length]; exact k2.symm)
  intro add1 sub1 mul1 quo1 rem1 band1 bor1 bxor1 bclr1 shl1 shr1 ieq1 ilt1 ile1 seq1 slt1 beq1 bnot1 orb1 bcond1 iwrap1 iof1 ssz1 hA1 cat1 sq1 sl1 imin1 imax1 smin1 smax1 len1 slen1 u81 hL1 op1 hop1 call1 hcall1 code1 hcode1
  have hlen1 : len1 ys = Int.ofNat N := by rw [hL1.len, hyl]; rfl
  cbv
  by_cases hk : k < N
  · refine vcIf.yes (by first | (simp [hA1.not, hA1.eq, hA1.lt, hA1.le, hA1.cond, hA1.beq, hA1.orb, hL1.len, hL1.slen, hL1.sq, hlen1, hk]; done) | (simp only [hlen1, hk]; simp [hA1.not, hA1.eq, hA1.lt, hA1.le, hA1.cond, hA1.beq, hA1.orb, hL1.len, hL1.slen, hL1.sq, hlen1, hk]; done) | (simp [hA1.not, hA1.eq, hA1.lt, hA1.le, hA1.cond, hA1.beq, hA1.orb, hL1.len, hL1.slen, hL1.sq, hlen1, hk]; omega) | (simp only [hlen1, hk]; simp [hA1.not, hA1.eq, hA1.lt, hA1.le, hA1.cond, hA1.beq, hA1.orb, hL1.len, hL1.slen, hL1.sq, hlen1, hk]; omega)) ?_
    cbv
    refine ⟨k, N, N, rfl, hyl.symm, hyl.symm, k1, Nat.le_refl _, Nat.le_of_eq hyl.symm, hyw, ?_⟩
    intro zs hz
    replace hz : zs = bP L := by rw [hz]; exact hzL
    cbv
    refine hcall1 _ _ _ _ _ (CallEv.same (htx zs hz) rfl ?_)
    rintro _ _ ⟨s, u, e1, hd, rfl, rfl⟩
    rw [← hd] at hus hps hok hstop hstep
    simp only at hus hps hok hstop
    cbv
    by_cases he1 : e1 = 0
    · subst he1
      have hu := hps rfl
      obtain ⟨g1, g2, g3, g4, g5⟩ := hok rfl
      have hsl : s.length ≤ N := by rw [g4, List.length_take, List.length_drop]; omega
      have hcop : ∀ bs, bs = bP s → FnL Try.prog 39 [.p (.sl bs)] [] _ := fun bs hbs => rOpen_spec s bs hbs (by omega)
      refine vcIf.no (by first | (simp [hA1.not, hA1.eq, hA1.lt, hA1.le, hA1.cond, hA1.beq, hA1.orb, hL1.len, hL1.slen, hL1.sq]; done) | (simp [hA1.not, hA1.eq, hA1.lt, hA1.le, hA1.cond, hA1.beq, hA1.orb, hL1.len, hL1.slen, hL1.sq]; omega)) ?_
      cbv
      refine ⟨(), ?_, fun bs hbs => ?_⟩
      · show s.length ≤ maxLen
        unfold maxLen; omega
      cbv
      refine hcall1 _ _ _ _ _ (CallEv.same (hcop bs hbs) rfl ?_)
      rintro _ _ ⟨zs2, r, e2, hco, hzs2, rfl, rfl⟩
      rw [← hco] at hstop
      simp only at hstop
      cbv
      by_cases he2 : e2 = 0
      · subst he2
        have hst := hstep rfl hco.symm
        have hadd1 : add1 .i64 (Int.ofNat k) (Int.ofNat u) = Int.ofNat (k + u) := by rw [hA1.add, IntWalk.i64_in _ (by simp only [Int.ofNat_eq_natCast]; omega)]; rfl
        have hdr : L.drop u = l.drop (k + u) := by rw [hLd, List.drop_drop]
        obtain ⟨ku, hku⟩ : ∃ ku, ku = k + u := ⟨_, rfl⟩
        rw [← hku] at hadd1 hdr
        refine vcIf.no (by first | (simp [hA1.not, hA1.eq, hA1.lt, hA1.le, hA1.cond, hA1.beq, hA1.orb, hL1.len, hL1.slen, hL1.sq]; done) | (simp [hA1.not, hA1.eq, hA1.lt, hA1.le, hA1.cond, hA1.beq, hA1.orb, hL1.len, hL1.slen, hL1.sq]; omega)) ?_
        cbv
        refine ⟨false, ?_⟩
        cbv
        refine .inl ⟨(), rfl, ?_, ?_, ?_, ?_, ?_⟩
        · rw [k3, rcP_length]; exact k2
        · intro x hx; simp only [Sq.get, List.mem_singleton] at hx; rw [hx]; exact PV.wf1 rfl
        · show m + 1 ≤ maxLen
          unfold maxLen; omega
        · show (m + 1) * 24 ≤ _
          omega
        intro ws n' hw hn'
        replace hw : ws = rs ++ [.sl zs2] := hw
        replace hn' : n' = m + 1 := hn'
        subst hn'
        cbv
        rw [hadd1]
        refine hrd _ ⟨(ku, rl ++ [r], m + 1, ws), [], ?_, ⟨?_, ?_, ?_, ?_, ?_⟩, rfl, (by repeat (first | exact trivial | refine And.intro rfl ?_)), rfl, rfl, rfl, ?_⟩
        · simp only; omega
        · simp only; omega
        · simp only [List.length_append, List.length_singleton]; omega
        · simp only; rw [hw, k3, hzs2, rcP_append]; rfl
        · simp only [List.length_append, List.length_singleton]; omega
        · simp only; rw [k5, hst, hdr]; simp only [List.append_assoc, List.singleton_append, Prod.mk.injEq, true_and]; omega
        · rw [hB]; exact Nat.zero_le _
      · refine vcIf.yes (by first | (simp [hA1.not, hA1.eq, hA1.lt, hA1.le, hA1.cond, hA1.beq, hA1.orb, hL1.len, hL1.slen, hL1.sq, he2]; done) | (simp only [he2]; simp [hA1.not, hA1.eq, hA1.lt, hA1.le, hA1.cond, hA1.beq, hA1.orb, hL1.len, hL1.slen, hL1.sq, he2]; done) | (simp [hA1.not, hA1.eq, hA1.lt, hA1.le, hA1.cond, hA1.beq, hA1.orb, hL1.len, hL1.slen, hL1.sq, he2]; omega) | (simp only [he2]; simp [hA1.not, hA1.eq, hA1.lt, hA1.le, hA1.cond, hA1.beq, hA1.orb, hL1.len, hL1.slen, hL1.sq, he2]; omega)) ?_
        cbv
        refine hret _ (RetEv.retF eOk rfl 0 rfl (by rw [hB]; exact Nat.zero_le _) ⟨rs, k, hsto (hstop (.inr he2)), ?_⟩)
        show V.p (.tup [.sl ((rs.drop 0).take m), .int .i64 (Int.ofNat k)]) = _
        rw [hframe]
    · refine vcIf.yes (by first | (simp [hA1.not, hA1.eq, hA1.lt, hA1.le, hA1.cond, hA1.beq, hA1.orb, hL1.len, hL1.slen, hL1.sq, he1]; done) | (simp only [he1]; simp [hA1.not, hA1.eq, hA1.lt, hA1.le, hA1.cond, hA1.beq, hA1.orb, hL1.len, hL1.slen, hL1.sq, he1]; done) | (simp [hA1.not, hA1.eq, hA1.lt, hA1.le, hA1.cond, hA1.beq, hA1.orb, hL1.len, hL1.slen, hL1.sq, he1]; omega) | (simp only [he1]; simp [hA1.not, hA1.eq, hA1.lt, hA1.le, hA1.cond, hA1.beq, hA1.orb, hL1.len, hL1.slen, hL1.sq, he1]; omega)) ?_
      cbv
      refine hret _ (RetEv.retF eOk rfl 0 rfl (by rw [hB]; exact Nat.zero_le _) ⟨rs, k, hsto (hstop (.inl he1)), ?_⟩)
      show V.p (.tup [.sl ((rs.drop 0).take m), .int .i64 (Int.ofNat k)]) = _
      rw [hframe]
  · refine vcIf.no (by first | (simp [hA1.not, hA1.eq, hA1.lt, hA1.le, hA1.cond, hA1.beq, hA1.orb, hL1.len, hL1.slen, hL1.sq, hlen1, hk]; done) | (simp only [hlen1, hk]; simp [hA1.not, hA1.eq, hA1.lt, hA1.le, hA1.cond, hA1.beq, hA1.orb, hL1.len, hL1.slen, hL1.sq, hlen1, hk]; done) | (simp [hA1.not, hA1.eq, hA1.lt, hA1.le, hA1.cond, hA1.beq, hA1.orb, hL1.len, hL1.slen, hL1.sq, hlen1, hk]; omega) | (simp only [hlen1, hk]; simp [hA1.not, hA1.eq, hA1.lt, hA1.le, hA1.cond, hA1.beq, hA1.orb, hL1.len, hL1.slen, hL1.sq, hlen1, hk]; omega)) ?_
    cbv
    have hL0 : L = [] := List.length_eq_zero_iff.1 (by omega)
    refine hret _ (RetEv.retF eOk rfl 0 rfl (by rw [hB]; exact Nat.zero_le _) ⟨rs, k, hsto (by rw [hL0, rdR_nil]), ?_⟩)
    show V.p (.tup [.sl ((rs.drop 0).take m), .int .i64 (Int.ofNat k)]) = _
    rw [hframe]
end Go.Proofs.Ytgblimlnkefllaa
