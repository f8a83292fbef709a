/- Check sums: the document's More, Sum, Seal, Open. Conditions: on sizes. -/
import Derived.Test.YtgblimlnkefllaaLCas1
set_option maxRecDepth 100000
set_option maxHeartbeats 4000000
set_option linter.unusedSimpArgs false
set_option linter.unusedVariables false
namespace Go.Proofs.Ytgblimlnkefllaa
open Go Go.Lx
open Go.Sx (vcIf)

theorem tmod_nat (a b : Nat) : (Int.ofNat a).tmod (Int.ofNat b) = Int.ofNat (a % b) := rfl
theorem tdiv_nat (a b : Nat) : (Int.ofNat a).tdiv (Int.ofNat b) = Int.ofNat (a / b) := rfl

theorem rMore_spec (l : List UInt8) (xs : List PV) (hxs : xs = bP l) (hl : l.length < 9223372036854775807) :
    FnL Try.prog 57 [.p (.int .u32 0), .p (.sl xs)] [] fun v own => ∃ n, n = csum l ∧ v = .p (.int .u32 (Int.ofNat n)) ∧ own = [] := by
  have hxl : xs.length = l.length := by rw [hxs, bP_length]
  obtain ⟨N, hN⟩ : ∃ N, N = l.length := ⟨_, rfl⟩
  rw [← hN] at hxl hl
  refine fn_of_vc eOk fOk fo57 Try.func57 rfl rfl rfl fun B hB => ?_
  intro add sub mul quo rem band bor bxor bclr shl shr ieq ilt ile seq slt beq bnot orb bcond iwrap iof ssz hA cat sq sl imin imax smin smax len slen u8 hL op hop call hcall code hcode ret hret
  have h0 : bxor .u32 0 4294967295 = Int.ofNat 4294967295 := by rw [hA.xor]; exact xor32 0 4294967295 (by decide) (by decide)
  cbv
  refine hcode _ _ _ (CodeEv.loop eOk fOk (ι := Nat × Nat) (fun s => [(1, .p (.sl xs)), (5, .p (.int .u32 (Int.ofNat s.2))), (6, .p (.int .i64 (Int.ofNat s.1)))])
    (fun s => []) (fun s => s.1 ≤ N ∧ s.2 < 4294967296 ∧ s.2 = cbs 4294967295 (l.take s.1)) (fun s => N - s.1) (0, 4294967295) ?_ ?_)
  · refine ⟨⟨rfl, ?_, rfl, trivial⟩, rfl, Nat.zero_le _, by decide, rfl⟩
    show some (V.p (.int .u32 (bxor .u32 0 4294967295))) = _
    rw [h0]
  rintro ⟨i, y⟩ ⟨h1, h2, h3⟩ rd hrd
  simp only at h1 h2 h3
  intro add1 sub1 mul1 quo1 rem1 band1 bor1 bxor1 bclr1 shl1 shr1 ieq1 ilt1 ile1 seq1 slt1 beq1 bnot1 orb1 bcond1 iwrap1 iof1 ssz1 hA1 cat1 sq1 sl1 imin1 imax1 smin1 smax1 len1 slen1 u81 hL1 op1 hop1 call1 hcall1 code1 hcode1
  cbv
  by_cases hi : i < N
  · obtain ⟨x, hx⟩ := get_of_lt (show i < l.length by omega)
    obtain ⟨xv, hxv⟩ : ∃ xv, xv = x.toNat := ⟨_, rfl⟩
    have hxlt : xv < 256 := by have := x.toNat_lt; omega
    have hxy : xs[i]? = some (.int .u8 (Int.ofNat xv)) := by rw [hxs, hxv]; exact bP_get hx
    obtain ⟨y0, hy0⟩ : ∃ y0, y0 = y ^^^ xv := ⟨_, rfl⟩
    have hxx : y0 < 4294967296 := by rw [hy0]; exact Nat.xor_lt_two_pow (n := 32) h2 (by omega)
    have hx0 : bxor1 .u32 (Int.ofNat y) (iwrap1 .u32 (Int.ofNat xv)) = Int.ofNat y0 := by
      rw [hA1.wrap, show IntKind.u32.wrap (Int.ofNat xv) = Int.ofNat xv from wrap_u32 (by omega), hA1.xor, xor32 _ _ h2 (by omega), hy0]
    have hcby : csts 8 y0 = cby y x := by rw [hy0, hxv]; rfl
    have hsn : cby y x = cbs 4294967295 (l.take (i + 1)) := by rw [List.take_add_one, hx, h3]; exact (cbs_snoc _ _ _).symm
    rw [← hcby] at hsn
    refine vcIf.yes (by first | (simp [hA1.not, hA1.eq, hA1.lt, hA1.le, hA1.cond, hA1.beq, hA1.orb, hL1.len, hL1.slen, hL1.sq, hi, hxl]; done) | (simp only [hi, hxl]; simp [hA1.not, hA1.eq, hA1.lt, hA1.le, hA1.cond, hA1.beq, hA1.orb, hL1.len, hL1.slen, hL1.sq, hi, hxl]; done) | (simp [hA1.not, hA1.eq, hA1.lt, hA1.le, hA1.cond, hA1.beq, hA1.orb, hL1.len, hL1.slen, hL1.sq, hi, hxl]; omega) | (simp only [hi, hxl]; simp [hA1.not, hA1.eq, hA1.lt, hA1.le, hA1.cond, hA1.beq, hA1.orb, hL1.len, hL1.slen, hL1.sq, hi, hxl]; omega)) ?_
    cbv
    refine ⟨i, _, rfl, hxy, rfl, ?_⟩
    cbv
    rw [hx0]
    refine hcode1 _ _ _ (CodeEv.loopX eOk fOk (ι := Nat × Nat) (κ := Nat) (fun s => [(1, .p (.sl xs)), (5, .p (.int .u32 (Int.ofNat s.2))), (6, .p (.int .i64 (Int.ofNat i))), (7, .p (.int .i64 (Int.ofNat s.1)))])
      (fun s => []) (fun s => s.1 ≤ 8 ∧ s.2 < 4294967296 ∧ csts (8 - s.1) s.2 = csts 8 y0) (fun s => 8 - s.1) (0, y0) 2
      (fun q => [(1, .p (.sl xs)), (5, .p (.int .u32 (Int.ofNat q))), (6, .p (.int .i64 (Int.ofNat i)))]) (fun q => []) (fun q => q < 4294967296 ∧ q = csts 8 y0) ?_ ?_ ?_)
    · exact ⟨⟨rfl, rfl, rfl, rfl, trivial⟩, rfl, Nat.zero_le _, hxx, rfl⟩
    · rintro ⟨k, q⟩ ⟨k1, k2, k3⟩ rd2 hrd2 out hout
      simp only at k1 k2 k3
      intro add2 sub2 mul2 quo2 rem2 band2 bor2 bxor2 bclr2 shl2 shr2 ieq2 ilt2 ile2 seq2 slt2 beq2 bnot2 orb2 bcond2 iwrap2 iof2 ssz2 hA2 cat2 sq2 sl2 imin2 imax2 smin2 smax2 len2 slen2 u82 hL2 op2 hop2 call2 hcall2 code2 hcode2
      have hadd2 : add2 .i64 (Int.ofNat k) 1 = Int.ofNat (k + 1) := by rw [hA2.add, IntWalk.i64_in _ (by simp only [Int.ofNat_eq_natCast]; omega)]; rfl
      have hrem : rem2 (Int.ofNat q) (Int.ofNat 2) = Int.ofNat (q % 2) := by rw [hA2.rem]; rfl
      have hquo : quo2 .u32 (Int.ofNat q) (Int.ofNat 2) = Int.ofNat (q / 2) := by rw [hA2.quo, tdiv_nat]; exact wrap_u32 (by omega)
      have hxor : bxor2 .u32 (quo2 .u32 (Int.ofNat q) (Int.ofNat 2)) 2197175160 = Int.ofNat (q / 2 ^^^ 2197175160) := by rw [hquo, hA2.xor]; exact xor32 _ _ (by omega) (by decide)
      cbv
      by_cases hk : k < 8
      · have hstep : csts (8 - (k + 1)) (cst q) = csts 8 y0 := by rw [← k3, show 8 - k = (8 - (k + 1)) + 1 by omega, csts]
        have hlt := cst_lt k2
        unfold cst at hstep hlt
        refine vcIf.yes (by first | (simp [hA2.not, hA2.eq, hA2.lt, hA2.le, hA2.cond, hA2.beq, hA2.orb, hL2.len, hL2.slen, hL2.sq, hk]; done) | (simp only [hk]; simp [hA2.not, hA2.eq, hA2.lt, hA2.le, hA2.cond, hA2.beq, hA2.orb, hL2.len, hL2.slen, hL2.sq, hk]; done) | (simp [hA2.not, hA2.eq, hA2.lt, hA2.le, hA2.cond, hA2.beq, hA2.orb, hL2.len, hL2.slen, hL2.sq, hk]; omega) | (simp only [hk]; simp [hA2.not, hA2.eq, hA2.lt, hA2.le, hA2.cond, hA2.beq, hA2.orb, hL2.len, hL2.slen, hL2.sq, hk]; omega)) ?_
        cbv
        by_cases ho : q % 2 = 1
        · rw [if_pos ho] at hstep hlt
          refine vcIf.yes (by first | (simp [hA2.not, hA2.eq, hA2.lt, hA2.le, hA2.cond, hA2.beq, hA2.orb, hL2.len, hL2.slen, hL2.sq, hrem, ho]; done) | (simp only [hrem, ho]; simp [hA2.not, hA2.eq, hA2.lt, hA2.le, hA2.cond, hA2.beq, hA2.orb, hL2.len, hL2.slen, hL2.sq, hrem, ho]; done) | (simp [hA2.not, hA2.eq, hA2.lt, hA2.le, hA2.cond, hA2.beq, hA2.orb, hL2.len, hL2.slen, hL2.sq, hrem, ho]; omega) | (simp only [hrem, ho]; simp [hA2.not, hA2.eq, hA2.lt, hA2.le, hA2.cond, hA2.beq, hA2.orb, hL2.len, hL2.slen, hL2.sq, hrem, ho]; omega)) ?_
          cbv
          refine hrd2 _ ⟨(k + 1, q / 2 ^^^ 2197175160), [], ?_, ⟨hk, hlt, hstep⟩, rfl, ⟨rfl, ?_, rfl, ?_, trivial⟩, rfl, rfl, rfl, ?_⟩
          · simp only; omega
          · show some (V.p (.int .u32 _)) = _
            rw [hxor]
          · show some (V.p (.int .i64 _)) = _
            rw [hadd2]
          · rw [hB]; exact Nat.zero_le _
        · rw [if_neg ho] at hstep hlt
          refine vcIf.no (by first | (simp [hA2.not, hA2.eq, hA2.lt, hA2.le, hA2.cond, hA2.beq, hA2.orb, hL2.len, hL2.slen, hL2.sq, hrem, ho]; done) | (simp only [hrem, ho]; simp [hA2.not, hA2.eq, hA2.lt, hA2.le, hA2.cond, hA2.beq, hA2.orb, hL2.len, hL2.slen, hL2.sq, hrem, ho]; done) | (simp [hA2.not, hA2.eq, hA2.lt, hA2.le, hA2.cond, hA2.beq, hA2.orb, hL2.len, hL2.slen, hL2.sq, hrem, ho]; omega) | (simp only [hrem, ho]; simp [hA2.not, hA2.eq, hA2.lt, hA2.le, hA2.cond, hA2.beq, hA2.orb, hL2.len, hL2.slen, hL2.sq, hrem, ho]; omega)) ?_
          cbv
          refine hrd2 _ ⟨(k + 1, q / 2), [], ?_, ⟨hk, hlt, hstep⟩, rfl, ⟨rfl, ?_, rfl, ?_, trivial⟩, rfl, rfl, rfl, ?_⟩
          · simp only; omega
          · show some (V.p (.int .u32 _)) = _
            rw [hquo]
          · show some (V.p (.int .i64 _)) = _
            rw [hadd2]
          · rw [hB]; exact Nat.zero_le _
      · refine vcIf.no (by first | (simp [hA2.not, hA2.eq, hA2.lt, hA2.le, hA2.cond, hA2.beq, hA2.orb, hL2.len, hL2.slen, hL2.sq, hk]; done) | (simp only [hk]; simp [hA2.not, hA2.eq, hA2.lt, hA2.le, hA2.cond, hA2.beq, hA2.orb, hL2.len, hL2.slen, hL2.sq, hk]; done) | (simp [hA2.not, hA2.eq, hA2.lt, hA2.le, hA2.cond, hA2.beq, hA2.orb, hL2.len, hL2.slen, hL2.sq, hk]; omega) | (simp only [hk]; simp [hA2.not, hA2.eq, hA2.lt, hA2.le, hA2.cond, hA2.beq, hA2.orb, hL2.len, hL2.slen, hL2.sq, hk]; omega)) ?_
        cbv
        refine hout _ ⟨q, [], ⟨k2, ?_⟩, rfl, (by repeat (first | exact trivial | refine And.intro rfl ?_)), rfl, rfl, rfl, ?_⟩
        · rw [show 8 - k = 0 by omega] at k3; exact k3
        · rw [hB]; exact Nat.zero_le _
    · rintro q ⟨q1, q2⟩
      have hadd1 : add1 .i64 (Int.ofNat i) 1 = Int.ofNat (i + 1) := by rw [hA1.add, IntWalk.i64_in _ (by simp only [Int.ofNat_eq_natCast]; omega)]; rfl
      cbv
      refine hrd _ ⟨(i + 1, q), [], ?_, ⟨hi, q1, q2.trans hsn⟩, rfl, ⟨rfl, rfl, ?_, trivial⟩, rfl, rfl, rfl, ?_⟩
      · simp only; omega
      · show some (V.p (.int .i64 _)) = _
        rw [hadd1]
      · rw [hB]; exact Nat.zero_le _
  · refine vcIf.no (by first | (simp [hA1.not, hA1.eq, hA1.lt, hA1.le, hA1.cond, hA1.beq, hA1.orb, hL1.len, hL1.slen, hL1.sq, hi, hxl]; done) | (simp only [hi, hxl]; simp [hA1.not, hA1.eq, hA1.lt, hA1.le, hA1.cond, hA1.beq, hA1.orb, hL1.len, hL1.slen, hL1.sq, hi, hxl]; done) | (simp [hA1.not, hA1.eq, hA1.lt, hA1.le, hA1.cond, hA1.beq, hA1.orb, hL1.len, hL1.slen, hL1.sq, hi, hxl]; omega) | (simp only [hi, hxl]; simp [hA1.not, hA1.eq, hA1.lt, hA1.le, hA1.cond, hA1.beq, hA1.orb, hL1.len, hL1.slen, hL1.sq, hi, hxl]; omega)) ?_
    cbv
    refine hret _ (RetEv.ret eOk rfl ⟨csum l, rfl, ?_, rfl⟩)
    show V.p (.int .u32 (bxor .u32 (Int.ofNat y) 4294967295)) = _
    rw [List.take_of_length_le (by omega)] at h3
    rw [hA.xor, show (4294967295 : Int) = Int.ofNat 4294967295 from rfl, xor32 _ _ h2 (by decide), h3]
    rfl
theorem rSum_spec (l : List UInt8) (xs : List PV) (hxs : xs = bP l) (hl : l.length < 9223372036854775807) :
    FnL Try.prog 54 [.p (.sl xs)] [] fun v own => ∃ n, n = csum l ∧ v = .p (.int .u32 (Int.ofNat n)) ∧ own = [] := by
  have hm := rMore_spec l xs hxs hl
  refine fn_of_vc eOk fOk fo54 Try.func54 rfl rfl rfl fun B hB => ?_
  intro add sub mul quo rem band bor bxor bclr shl shr ieq ilt ile seq slt beq bnot orb bcond iwrap iof ssz hA cat sq sl imin imax smin smax len slen u8 hL op hop call hcall code hcode ret hret
  cbv
  refine hcall _ _ _ _ _ (CallEv.same hm rfl ?_)
  rintro _ _ ⟨n, hn, rfl, rfl⟩
  cbv
  exact hret _ (RetEv.ret eOk rfl ⟨n, hn, rfl, rfl⟩)

theorem rSeal_spec (l : List UInt8) (xs : List PV) (hxs : xs = bP l) (hl : l.length + 4 ≤ 140737488355328) :
    FnL Try.prog 45 [.p (.sl xs)] [] fun v own => ∃ zs, zs = bP (cseal l) ∧ v = .p (.sl zs) ∧ own = [] := by
  have hs := rSum_spec l xs hxs (by omega)
  have hxl : xs.length = l.length := by rw [hxs, bP_length]
  refine FnL.flat (R := fun v own => ∃ zs, zs = bP (cseal l) ∧ v = .p (.sl zs)) ?_ (by rintro _ _ ⟨zs, h, rfl⟩; exact ⟨_, _, rfl, .refl _, zs, h, rfl, rfl⟩)
  refine fn_of_vc eOk fOk fo45 Try.func45 rfl rfl rfl fun B hB => ?_
  intro add sub mul quo rem band bor bxor bclr shl shr ieq ilt ile seq slt beq bnot orb bcond iwrap iof ssz hA cat sq sl imin imax smin smax len slen u8 hL op hop call hcall code hcode ret hret
  cbv
  refine hcall _ _ _ _ _ (CallEv.same hs rfl ?_)
  rintro _ _ ⟨n, hn, rfl, rfl⟩
  have hnlt : n < 4294967296 := by rw [hn]; exact csum_lt l
  cbv
  refine ⟨true, ?_⟩
  cbv
  refine hcode _ _ _ (CodeEv.loop eOk fOk (ι := Nat × List PV) (fun s => [(0, .p (.sl xs)), (3, .p (.int .u32 (Int.ofNat (n / 256 ^ s.1)))), (4, .vw 0 1 0 s.1 none), (5, .p (.int .i64 (Int.ofNat s.1)))])
    (fun s => [.arr 5 1 s.2]) (fun s => s.1 ≤ 4 ∧ s.2 = bP ((le4 n).take s.1)) (fun s => 4 - s.1) (0, []) ?_ ?_)
  · refine ⟨⟨rfl, ?_, rfl, rfl, trivial⟩, rfl, Nat.zero_le _, rfl⟩
    show some (V.p (.int .u32 (Int.ofNat n))) = some (V.p (.int .u32 (Int.ofNat (n / 256 ^ 0))))
    rw [Nat.pow_zero, Nat.div_one]
  rintro ⟨i, ys⟩ ⟨h1, h2⟩ rd hrd
  simp only at h1 h2
  have h4 : (le4 n).length = 4 := rfl
  have hyl : ys.length = i := by rw [h2, bP_length, List.length_take, h4]; omega
  obtain ⟨q, hq⟩ : ∃ q, q = n / 256 ^ i := ⟨_, rfl⟩
  have hqlt : q < 4294967296 := by rw [hq]; exact Nat.lt_of_le_of_lt (Nat.div_le_self _ _) hnlt
  have hq1 : q / 256 = n / 256 ^ (i + 1) := by rw [hq, Nat.div_div_eq_div_mul, Nat.pow_succ]
  simp only
  rw [← hq]
  intro add1 sub1 mul1 quo1 rem1 band1 bor1 bxor1 bclr1 shl1 shr1 ieq1 ilt1 ile1 seq1 slt1 beq1 bnot1 orb1 bcond1 iwrap1 iof1 ssz1 hA1 cat1 sq1 sl1 imin1 imax1 smin1 smax1 len1 slen1 u81 hL1 op1 hop1 call1 hcall1 code1 hcode1
  have hadd1 : add1 .i64 (Int.ofNat i) 1 = Int.ofNat (i + 1) := by rw [hA1.add, IntWalk.i64_in _ (by simp only [Int.ofNat_eq_natCast]; omega)]; rfl
  have hb : iwrap1 .u8 (rem1 (Int.ofNat q) (Int.ofNat 256)) = ((UInt8.ofNat q).toNat : Int) := by
    rw [hA1.rem, tmod_nat, hA1.wrap, wrap_u8, UInt8.toNat_ofNat']; omega
  have hqq : quo1 .u32 (Int.ofNat q) (Int.ofNat 256) = Int.ofNat (n / 256 ^ (i + 1)) := by rw [hA1.quo, tdiv_nat, ← hq1]; exact wrap_u32 (by omega)
  cbv
  by_cases hi : i < 4
  · have htk : (le4 n).take (i + 1) = (le4 n).take i ++ [UInt8.ofNat q] := by
      rw [List.take_add_one, hq]
      congr 1
      match i, hi with
      | 0, _ => simp [le4]
      | 1, _ => rfl
      | 2, _ => rfl
      | 3, _ => rfl
    refine vcIf.yes (by first | (simp [hA1.not, hA1.eq, hA1.lt, hA1.le, hA1.cond, hA1.beq, hA1.orb, hL1.len, hL1.slen, hL1.sq, hi]; done) | (simp only [hi]; simp [hA1.not, hA1.eq, hA1.lt, hA1.le, hA1.cond, hA1.beq, hA1.orb, hL1.len, hL1.slen, hL1.sq, hi]; done) | (simp [hA1.not, hA1.eq, hA1.lt, hA1.le, hA1.cond, hA1.beq, hA1.orb, hL1.len, hL1.slen, hL1.sq, hi]; omega) | (simp only [hi]; simp [hA1.not, hA1.eq, hA1.lt, hA1.le, hA1.cond, hA1.beq, hA1.orb, hL1.len, hL1.slen, hL1.sq, hi]; omega)) ?_
    cbv
    refine ⟨false, ?_⟩
    cbv
    refine .inl ⟨(), rfl, hyl.symm, Wf.one (PV.wf1 rfl), ?_, ?_, ?_⟩
    · show i + 1 ≤ maxLen
      unfold maxLen; omega
    · show (i + 1) * 1 ≤ _
      omega
    intro zs n' hz hn'
    simp only [Sq.get] at hz hn'
    have hz2 : zs = bP ((le4 n).take (i + 1)) := by rw [hz, hb, htk, bP_append, h2]; rfl
    obtain rfl : n' = i + 1 := hn'
    clear hz
    cbv
    refine hrd _ ⟨(i + 1, zs), [], ?_, ⟨hi, hz2⟩, rfl, ⟨rfl, ?_, rfl, ?_, trivial⟩, rfl, rfl, rfl, ?_⟩
    · simp only; omega
    · show some (V.p (.int .u32 _)) = _
      rw [hqq]
    · show some (V.p (.int .i64 _)) = _
      rw [hadd1]
    · rw [hB]; exact Nat.zero_le _
  · refine vcIf.no (by first | (simp [hA1.not, hA1.eq, hA1.lt, hA1.le, hA1.cond, hA1.beq, hA1.orb, hL1.len, hL1.slen, hL1.sq, hi]; done) | (simp only [hi]; simp [hA1.not, hA1.eq, hA1.lt, hA1.le, hA1.cond, hA1.beq, hA1.orb, hL1.len, hL1.slen, hL1.sq, hi]; done) | (simp [hA1.not, hA1.eq, hA1.lt, hA1.le, hA1.cond, hA1.beq, hA1.orb, hL1.len, hL1.slen, hL1.sq, hi]; omega) | (simp only [hi]; simp [hA1.not, hA1.eq, hA1.lt, hA1.le, hA1.cond, hA1.beq, hA1.orb, hL1.len, hL1.slen, hL1.sq, hi]; omega)) ?_
    cbv
    refine .inl ⟨(), rfl, hyl.symm, by rw [hxs]; exact bP_wf l, ?_, ?_, ?_⟩
    · show i + xs.length ≤ maxLen
      unfold maxLen; omega
    · show (i + xs.length) * 1 ≤ _
      omega
    intro zs n' hz hn'
    have hz2 : zs = bP (cseal l) := by
      rw [hz, h2, List.take_of_length_le (by omega), show (Sq.l xs).get = xs from rfl, hxs, ← bP_append, hn]; rfl
    have hn2 : zs.length = n' := by rw [hn', hz, List.length_append, hyl]
    clear hz
    cbv
    refine hret _ (RetEv.retF eOk rfl 0 rfl (by rw [hB]; exact Nat.zero_le _) ⟨zs, hz2, ?_⟩)
    show V.p (.sl ((zs.drop 0).take n')) = _
    rw [frz_full hn2]

theorem rOpen_spec (l : List UInt8) (xs : List PV) (hxs : xs = bP l) (hl : l.length ≤ 140737488355328) :
    FnL Try.prog 39 [.p (.sl xs)] [] fun v own => ∃ (ys : List PV) (m : List UInt8) (e : Nat), (m, e) = copen l ∧ ys = bP m ∧ v = .p (.tup [.sl ys, .int .i64 (Int.ofNat e)]) ∧ own = [] := by
  refine FnL.flat (R := fun v own => ∃ (ys : List PV) (m : List UInt8) (e : Nat), (m, e) = copen l ∧ ys = bP m ∧ (v = .p (.tup [.sl ys, .int .i64 (Int.ofNat e)]) ∨ ys = [] ∧ v = .p (.tup [.nils, .int .i64 (Int.ofNat e)]))) ?_
    (by
      rintro _ _ ⟨ys, m, e, h1, h2, rfl | ⟨h3, rfl⟩⟩
      · exact ⟨_, _, rfl, .refl _, ys, m, e, h1, h2, rfl, rfl⟩
      · exact ⟨_, .tup [.sl [], .int .i64 (Int.ofNat e)], rfl, PW.tup ⟨PW.nils, .refl _, trivial⟩, ys, m, e, h1, h2, by rw [h3], rfl⟩)
  obtain ⟨R, hR⟩ : ∃ R, R = copen l := ⟨_, rfl⟩
  rw [← hR]
  rw [copen_iff] at hR
  have hxl : xs.length = l.length := by rw [hxs, bP_length]
  obtain ⟨N, hN⟩ : ∃ N, N = l.length := ⟨_, rfl⟩
  rw [← hN] at hxl hl hR
  obtain ⟨r, hr⟩ : ∃ r, r = l.drop 4 := ⟨_, rfl⟩
  rw [← hr] at hR
  obtain ⟨ys, hys⟩ : ∃ ys, ys = bP r := ⟨_, rfl⟩
  have hxd : xs.drop 4 = ys := by rw [hxs, hys, hr, bP_drop]
  have hrl : r.length = N - 4 := by rw [hr, List.length_drop, hN]
  have hyl : ys.length = r.length := by rw [hys, bP_length]
  have hs := rSeal_spec r ys hys
  have hxw : ∀ y ∈ xs, y.cells.length = 1 := fun y hy => by rw [hxs] at hy; exact (bP_wf _ y hy).1
  have hyw : Wf 1 ys := by rw [hys]; exact bP_wf _
  refine fn_of_vc eOk fOk fo39 Try.func39 rfl rfl rfl fun B hB => ?_
  intro add sub mul quo rem band bor bxor bclr shl shr ieq ilt ile seq slt beq bnot orb bcond iwrap iof ssz hA cat sq sl imin imax smin smax len slen u8 hL op hop call hcall code hcode ret hret
  cbv
  by_cases h4 : N < 4
  · rw [if_pos h4] at hR
    refine vcIf.yes (by first | (simp [hA.not, hA.eq, hA.lt, hA.le, hA.cond, hA.beq, hA.orb, hL.len, hL.slen, hL.sq, hxl, h4]; done) | (simp only [hxl, h4]; simp [hA.not, hA.eq, hA.lt, hA.le, hA.cond, hA.beq, hA.orb, hL.len, hL.slen, hL.sq, hxl, h4]; done) | (simp [hA.not, hA.eq, hA.lt, hA.le, hA.cond, hA.beq, hA.orb, hL.len, hL.slen, hL.sq, hxl, h4]; omega) | (simp only [hxl, h4]; simp [hA.not, hA.eq, hA.lt, hA.le, hA.cond, hA.beq, hA.orb, hL.len, hL.slen, hL.sq, hxl, h4]; omega)) ?_
    cbv
    exact hret _ (RetEv.ret eOk rfl ⟨[], [], 3, hR.symm, rfl, .inr ⟨rfl, rfl⟩⟩)
  rw [if_neg h4] at hR
  replace hs := hs (by omega)
  refine vcIf.no (by first | (simp [hA.not, hA.eq, hA.lt, hA.le, hA.cond, hA.beq, hA.orb, hL.len, hL.slen, hL.sq, hxl, h4]; done) | (simp only [hxl, h4]; simp [hA.not, hA.eq, hA.lt, hA.le, hA.cond, hA.beq, hA.orb, hL.len, hL.slen, hL.sq, hxl, h4]; done) | (simp [hA.not, hA.eq, hA.lt, hA.le, hA.cond, hA.beq, hA.orb, hL.len, hL.slen, hL.sq, hxl, h4]; omega) | (simp only [hxl, h4]; simp [hA.not, hA.eq, hA.lt, hA.le, hA.cond, hA.beq, hA.orb, hL.len, hL.slen, hL.sq, hxl, h4]; omega)) ?_
  cbv
  refine hcode _ _ _ (CodeEv.drawA eOk fOk (by kernel_rfl) noX (by kernel_rfl) (by kernel_rfl) (by kernel_rfl) ?_)
  intro add2 sub2 mul2 quo2 rem2 band2 bor2 bxor2 bclr2 shl2 shr2 ieq2 ilt2 ile2 seq2 slt2 beq2 bnot2 orb2 bcond2 iwrap2 iof2 ssz2 hA2 cat2 sq2 sl2 imin2 imax2 smin2 smax2 len2 slen2 u82 hL2 op2 hop2 call2 hcall2 code2 hcode2 q2 hq2
  cbv
  refine ⟨4, xs.length, xs.length, rfl, rfl, rfl, by omega, Nat.le_refl _, Nat.le_refl _, hxw, ?_⟩
  intro zs hz
  obtain rfl : zs = ys := by rw [hz, hxd, List.take_of_length_le (by omega)]
  clear hz
  cbv
  refine ⟨l, hxs, ?_⟩
  cbv
  refine hcall2 _ _ _ _ _ (CallEv.same hs rfl ?_)
  rintro _ _ ⟨us, hus, rfl, rfl⟩
  cbv
  refine ⟨_, hus, ?_⟩
  obtain ⟨sl', hsl'⟩ : ∃ s, s = cseal r := ⟨_, rfl⟩
  rw [← hsl'] at hR ⊢
  cbv
  refine hq2 _ ?_
  by_cases hw : sl' = l
  · rw [if_pos hw] at hR
    refine vcIf.no (by simp [hA2.not, hL2.sq, hw]) ?_
    cbv
    refine ⟨true, ?_⟩
    cbv
    refine ⟨4, xs.length, xs.length, rfl, rfl, rfl, by omega, Nat.le_refl _, Nat.le_refl _, hxw, ?_⟩
    intro zs2 hz
    obtain rfl : zs2 = zs := by rw [hz, hxd, List.take_of_length_le (by omega)]
    clear hz
    cbv
    refine .inl ⟨(), rfl, rfl, hyw, ?_, ?_, ?_⟩
    · show 0 + zs2.length ≤ maxLen
      unfold maxLen; omega
    · show (0 + zs2.length) * 1 ≤ _
      omega
    intro us n' hu hn'
    simp only [Sq.get, List.nil_append, Nat.zero_add] at hu hn'
    subst hu
    cbv
    refine hret _ (RetEv.retF eOk rfl 0 rfl (by rw [hB]; exact Nat.zero_le _) ⟨us, r, 0, hR.symm, hys, .inl ?_⟩)
    show V.p (.tup [.sl ((us.drop 0).take n'), .int .i64 0]) = _
    rw [frz_full hn'.symm]; rfl
  · rw [if_neg hw] at hR
    refine vcIf.yes (by simp [hA2.not, hL2.sq, hw]) ?_
    cbv
    exact hret _ (RetEv.ret eOk rfl ⟨[], [], 2, hR.symm, rfl, .inr ⟨rfl, rfl⟩⟩)
end Go.Proofs.Ytgblimlnkefllaa
