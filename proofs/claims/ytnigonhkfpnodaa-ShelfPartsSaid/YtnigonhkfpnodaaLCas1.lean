/- Check sums: the package's step, More, Sum. Conditions: on sizes. -/
import Derived.Test.YtnigonhkfpnodaaLBc
set_option maxRecDepth 100000
set_option maxHeartbeats 4000000
set_option linter.unusedSimpArgs false
set_option linter.unusedVariables false
namespace Go.Proofs.Ytnigonhkfpnodaa
open Go Go.Lx
open Go.Sx (vcIf)

theorem shr32 (y k : Nat) (hk : k ≤ 32) : (Int.ofNat y).fdiv (2 ^ (min k IntKind.u32.bits)) = Int.ofNat (y / 2 ^ k) := by
  rw [show min k IntKind.u32.bits = k from Nat.min_eq_left hk, Int.fdiv_eq_ediv_of_nonneg _ (Int.le_of_lt (Int.pow_pos (by decide)))]
  simp
theorem and32_1 (y : Nat) (h : y < 4294967296) : bits .and .u32 (Int.ofNat y) 1 = Int.ofNat (y % 2) := by
  have := bits_and32 y 1 h (by decide)
  rw [Nat.and_one_is_mod] at this; exact this
theorem and32_255 (y : Nat) (h : y < 4294967296) : bits .and .u32 (Int.ofNat y) 255 = Int.ofNat (y % 256) := by
  have := bits_and32 y 255 h (by decide)
  rw [show (255 : Nat) = 2 ^ 8 - 1 from rfl, Nat.and_two_pow_sub_one_eq_mod] at this; exact this
theorem xor32 (a b : Nat) (ha : a < 4294967296) (hb : b < 4294967296) : bits .xor .u32 (Int.ofNat a) (Int.ofNat b) = Int.ofNat (a ^^^ b) := bits_xor32 a b ha hb
theorem or32 (a b : Nat) (ha : a < 4294967296) (hb : b < 4294967296) : bits .or .u32 (Int.ofNat a) (Int.ofNat b) = Int.ofNat (a ||| b) := bits_or32 a b ha hb

theorem casStep_spec (r : Nat) (hr : r < 4294967296) (z : Int) (hz : z = Int.ofNat r) :
    FnL Try.prog 126 [.p (.int .u32 z)] [] fun v own => ∃ n, n = csts 8 r ∧ v = .p (.int .u32 (Int.ofNat n)) ∧ own = [] := by
  subst hz
  refine fn_of_vc eOk fOk fo126 Try.func126 rfl rfl rfl fun B hB => ?_
  intro add sub mul quo rem band bor bxor bclr shl shr ieq ilt ile seq slt beq bnot orb bcond iwrap iof ssz hA cat sq sl imin imax smin smax len slen u8 hL op hop call hcall code hcode ret hret
  cbv
  refine hcode _ _ _ (CodeEv.loop eOk fOk (ι := Nat × Nat) (fun s => [(0, .p (.int .u32 (Int.ofNat s.2))), (3, .p (.int .i64 (Int.ofNat s.1)))])
    (fun s => []) (fun s => s.1 ≤ 8 ∧ s.2 < 4294967296 ∧ csts (8 - s.1) s.2 = csts 8 r) (fun s => 8 - s.1) (0, r) ?_ ?_)
  · exact ⟨⟨rfl, rfl, trivial⟩, rfl, Nat.zero_le _, hr, rfl⟩
  rintro ⟨i, y⟩ ⟨h1, h2, h3⟩ rd hrd
  simp only at h1 h2 h3
  intro add1 sub1 mul1 quo1 rem1 band1 bor1 bxor1 bclr1 shl1 shr1 ieq1 ilt1 ile1 seq1 slt1 beq1 bnot1 orb1 bcond1 iwrap1 iof1 ssz1 hA1 cat1 sq1 sl1 imin1 imax1 smin1 smax1 len1 slen1 u81 hL1 op1 hop1 call1 hcall1 code1 hcode1
  have hadd1 : add1 .i64 (Int.ofNat i) 1 = Int.ofNat (i + 1) := by rw [hA1.add, IntWalk.i64_in _ (by simp only [Int.ofNat_eq_natCast]; omega)]; rfl
  have hand : band1 .u32 (Int.ofNat y) 1 = Int.ofNat (y % 2) := by rw [hA1.and]; exact and32_1 y h2
  have hshr : shr1 .u32 (Int.ofNat y) 1 = Int.ofNat (y / 2) := by rw [hA1.shr]; exact shr32 y 1 (by decide)
  have hxor : bxor1 .u32 (shr1 .u32 (Int.ofNat y) 1) 2197175160 = Int.ofNat (y / 2 ^^^ 2197175160) := by rw [hshr, hA1.xor]; exact xor32 _ _ (by omega) (by decide)
  cbv
  by_cases hi : i < 8
  · have hstep : csts (8 - (i + 1)) (cst y) = csts 8 r := by rw [← h3, show 8 - i = (8 - (i + 1)) + 1 by omega, csts]
    have hlt := cst_lt h2
    unfold cst at hstep hlt
    refine vcIf.yes (by first | (simp [hA1.not, hA1.eq, hA1.lt, hA1.le, hA1.cond, hA1.beq, hA1.orb, hL1.len, hL1.slen, hL1.sq, hi]; done) | (simp only [hi]; simp [hA1.not, hA1.eq, hA1.lt, hA1.le, hA1.cond, hA1.beq, hA1.orb, hL1.len, hL1.slen, hL1.sq, hi]; done) | (simp [hA1.not, hA1.eq, hA1.lt, hA1.le, hA1.cond, hA1.beq, hA1.orb, hL1.len, hL1.slen, hL1.sq, hi]; omega) | (simp only [hi]; simp [hA1.not, hA1.eq, hA1.lt, hA1.le, hA1.cond, hA1.beq, hA1.orb, hL1.len, hL1.slen, hL1.sq, hi]; omega)) ?_
    cbv
    by_cases ho : y % 2 = 1
    · rw [if_pos ho] at hstep hlt
      refine vcIf.yes (by first | (simp [hA1.not, hA1.eq, hA1.lt, hA1.le, hA1.cond, hA1.beq, hA1.orb, hL1.len, hL1.slen, hL1.sq, hand, ho]; done) | (simp only [hand, ho]; simp [hA1.not, hA1.eq, hA1.lt, hA1.le, hA1.cond, hA1.beq, hA1.orb, hL1.len, hL1.slen, hL1.sq, hand, ho]; done) | (simp [hA1.not, hA1.eq, hA1.lt, hA1.le, hA1.cond, hA1.beq, hA1.orb, hL1.len, hL1.slen, hL1.sq, hand, ho]; omega) | (simp only [hand, ho]; simp [hA1.not, hA1.eq, hA1.lt, hA1.le, hA1.cond, hA1.beq, hA1.orb, hL1.len, hL1.slen, hL1.sq, hand, ho]; omega)) ?_
      cbv
      refine hrd _ ⟨(i + 1, y / 2 ^^^ 2197175160), [], ?_, ⟨hi, hlt, hstep⟩, rfl, ⟨?_, ?_, trivial⟩, rfl, rfl, rfl, ?_⟩
      · simp only; omega
      · show some (V.p (.int .u32 _)) = _
        rw [hxor]
      · show some (V.p (.int .i64 _)) = _
        rw [hadd1]
      · rw [hB]; exact Nat.zero_le _
    · rw [if_neg ho] at hstep hlt
      refine vcIf.no (by first | (simp [hA1.not, hA1.eq, hA1.lt, hA1.le, hA1.cond, hA1.beq, hA1.orb, hL1.len, hL1.slen, hL1.sq, hand, ho]; done) | (simp only [hand, ho]; simp [hA1.not, hA1.eq, hA1.lt, hA1.le, hA1.cond, hA1.beq, hA1.orb, hL1.len, hL1.slen, hL1.sq, hand, ho]; done) | (simp [hA1.not, hA1.eq, hA1.lt, hA1.le, hA1.cond, hA1.beq, hA1.orb, hL1.len, hL1.slen, hL1.sq, hand, ho]; omega) | (simp only [hand, ho]; simp [hA1.not, hA1.eq, hA1.lt, hA1.le, hA1.cond, hA1.beq, hA1.orb, hL1.len, hL1.slen, hL1.sq, hand, ho]; omega)) ?_
      cbv
      refine hrd _ ⟨(i + 1, y / 2), [], ?_, ⟨hi, hlt, hstep⟩, rfl, ⟨?_, ?_, trivial⟩, rfl, rfl, rfl, ?_⟩
      · simp only; omega
      · show some (V.p (.int .u32 _)) = _
        rw [hshr]
      · show some (V.p (.int .i64 _)) = _
        rw [hadd1]
      · rw [hB]; exact Nat.zero_le _
  · refine vcIf.no (by first | (simp [hA1.not, hA1.eq, hA1.lt, hA1.le, hA1.cond, hA1.beq, hA1.orb, hL1.len, hL1.slen, hL1.sq, hi]; done) | (simp only [hi]; simp [hA1.not, hA1.eq, hA1.lt, hA1.le, hA1.cond, hA1.beq, hA1.orb, hL1.len, hL1.slen, hL1.sq, hi]; done) | (simp [hA1.not, hA1.eq, hA1.lt, hA1.le, hA1.cond, hA1.beq, hA1.orb, hL1.len, hL1.slen, hL1.sq, hi]; omega) | (simp only [hi]; simp [hA1.not, hA1.eq, hA1.lt, hA1.le, hA1.cond, hA1.beq, hA1.orb, hL1.len, hL1.slen, hL1.sq, hi]; omega)) ?_
    cbv
    refine hret _ (RetEv.ret eOk rfl ⟨y, ?_, rfl, rfl⟩)
    rw [show 8 - i = 0 by omega] at h3; exact h3

theorem casMore_spec (l : List UInt8) (xs : List PV) (hxs : xs = bP l) (hl : l.length < 9223372036854775807) :
    FnL Try.prog 122 [.p (.int .u32 0), .p (.sl xs)] [] fun v own => ∃ n, n = csum l ∧ v = .p (.int .u32 (Int.ofNat n)) ∧ own = [] := by
  have hxl : xs.length = l.length := by rw [hxs, bP_length]
  obtain ⟨N, hN⟩ : ∃ N, N = l.length := ⟨_, rfl⟩
  rw [← hN] at hxl hl
  refine fn_of_vc eOk fOk fo122 Try.func122 rfl rfl rfl fun B hB => ?_
  intro add sub mul quo rem band bor bxor bclr shl shr ieq ilt ile seq slt beq bnot orb bcond iwrap iof ssz hA cat sq sl imin imax smin smax len slen u8 hL op hop call hcall code hcode ret hret
  have h0 : bxor .u32 4294967295 0 = Int.ofNat 4294967295 := by rw [hA.xor]; exact xor32 4294967295 0 (by decide) (by decide)
  have hlen : len xs = Int.ofNat N := by rw [hL.len, hxl]; rfl
  cbv
  refine hcode _ _ _ (CodeEv.loop eOk fOk (ι := Nat × Nat) (fun s => [(5, .p (.int .u32 (Int.ofNat s.2))), (10, .p (.sl xs)), (11, .p (.int .i64 (Int.ofNat N))), (12, .p (.int .i64 (Int.ofNat s.1)))])
    (fun s => []) (fun s => s.1 ≤ N ∧ s.2 < 4294967296 ∧ s.2 = cbs 4294967295 (l.take s.1)) (fun s => N - s.1) (0, 4294967295) ?_ ?_)
  · refine ⟨⟨?_, rfl, ?_, rfl, trivial⟩, rfl, Nat.zero_le _, by decide, rfl⟩
    · show some (V.p (.int .u32 (bxor .u32 4294967295 0))) = _
      rw [h0]
    · show some (V.p (.int .i64 (len xs))) = _
      rw [hlen]
  rintro ⟨i, y⟩ ⟨h1, h2, h3⟩ rd hrd
  simp only at h1 h2 h3
  intro add1 sub1 mul1 quo1 rem1 band1 bor1 bxor1 bclr1 shl1 shr1 ieq1 ilt1 ile1 seq1 slt1 beq1 bnot1 orb1 bcond1 iwrap1 iof1 ssz1 hA1 cat1 sq1 sl1 imin1 imax1 smin1 smax1 len1 slen1 u81 hL1 op1 hop1 call1 hcall1 code1 hcode1
  have hadd1 : i < N → add1 .i64 (Int.ofNat i) 1 = Int.ofNat (i + 1) := fun _ => by rw [hA1.add, IntWalk.i64_in _ (by simp only [Int.ofNat_eq_natCast]; omega)]; rfl
  cbv
  by_cases hi : i < N
  · obtain ⟨x, hx⟩ := get_of_lt (show i < l.length by omega)
    obtain ⟨xv, hxv⟩ : ∃ xv, xv = x.toNat := ⟨_, rfl⟩
    have hxlt : xv < 256 := by have := x.toNat_lt; omega
    have hxy : xs[i]? = some (.int .u8 (Int.ofNat xv)) := by rw [hxs, hxv]; exact bP_get hx
    have hxx : y ^^^ xv < 4294967296 := Nat.xor_lt_two_pow (n := 32) h2 (by omega)
    have hw1 : iwrap1 .u32 (Int.ofNat xv) = Int.ofNat xv := by rw [hA1.wrap]; exact wrap_u32 (by omega)
    have hand : band1 .u32 (bxor1 .u32 (Int.ofNat y) (iwrap1 .u32 (Int.ofNat xv))) 255 = Int.ofNat ((y ^^^ xv) % 256) := by
      rw [hw1, hA1.xor, xor32 _ _ h2 (by omega), hA1.and, and32_255 _ hxx]
    have hst := casStep_spec ((y ^^^ xv) % 256) (by omega) _ hand
    have hshr : shr1 .u32 (Int.ofNat y) 8 = Int.ofNat (y / 256) := by rw [hA1.shr]; exact shr32 y 8 (by decide)
    have hfin : ∀ n, n = csts 8 ((y ^^^ xv) % 256) → bxor1 .u32 (shr1 .u32 (Int.ofNat y) 8) (Int.ofNat n) = Int.ofNat (cby y x) := fun n hn => by
      rw [hshr, hA1.xor, xor32 _ _ (by omega) (by rw [hn]; exact csts_lt 8 (by omega)), hn, ← cby_eq, hxv]
    have hcby := cby_lt h2 x
    have hsn : cby y x = cbs 4294967295 (l.take (i + 1)) := by rw [List.take_add_one, hx, h3]; exact (cbs_snoc _ _ _).symm
    refine vcIf.yes (by first | (simp [hA1.not, hA1.eq, hA1.lt, hA1.le, hA1.cond, hA1.beq, hA1.orb, hL1.len, hL1.slen, hL1.sq, hi]; done) | (simp only [hi]; simp [hA1.not, hA1.eq, hA1.lt, hA1.le, hA1.cond, hA1.beq, hA1.orb, hL1.len, hL1.slen, hL1.sq, hi]; done) | (simp [hA1.not, hA1.eq, hA1.lt, hA1.le, hA1.cond, hA1.beq, hA1.orb, hL1.len, hL1.slen, hL1.sq, hi]; omega) | (simp only [hi]; simp [hA1.not, hA1.eq, hA1.lt, hA1.le, hA1.cond, hA1.beq, hA1.orb, hL1.len, hL1.slen, hL1.sq, hi]; omega)) ?_
    clear hxv
    generalize cby y x = q at *
    cbv
    refine ⟨i, _, rfl, hxy, rfl, ?_⟩
    cbv
    refine hcall1 _ _ _ _ _ (CallEv.same hst rfl ?_)
    rintro _ _ ⟨n, hn, rfl, rfl⟩
    cbv
    refine hrd _ ⟨(i + 1, q), [], ?_, ⟨hi, hcby, hsn⟩, rfl, ⟨?_, rfl, rfl, ?_, trivial⟩, rfl, rfl, rfl, ?_⟩
    · simp only; omega
    · show some (V.p (.int .u32 _)) = _
      rw [hfin n hn]
    · show some (V.p (.int .i64 _)) = _
      rw [hadd1 hi]
    · rw [hB]; exact Nat.zero_le _
  · refine vcIf.no (by first | (simp [hA1.not, hA1.eq, hA1.lt, hA1.le, hA1.cond, hA1.beq, hA1.orb, hL1.len, hL1.slen, hL1.sq, hi]; done) | (simp only [hi]; simp [hA1.not, hA1.eq, hA1.lt, hA1.le, hA1.cond, hA1.beq, hA1.orb, hL1.len, hL1.slen, hL1.sq, hi]; done) | (simp [hA1.not, hA1.eq, hA1.lt, hA1.le, hA1.cond, hA1.beq, hA1.orb, hL1.len, hL1.slen, hL1.sq, hi]; omega) | (simp only [hi]; simp [hA1.not, hA1.eq, hA1.lt, hA1.le, hA1.cond, hA1.beq, hA1.orb, hL1.len, hL1.slen, hL1.sq, hi]; omega)) ?_
    cbv
    refine hret _ (RetEv.ret eOk rfl ⟨csum l, rfl, ?_, rfl⟩)
    show V.p (.int .u32 (bxor .u32 4294967295 (Int.ofNat y))) = _
    rw [List.take_of_length_le (by omega)] at h3
    rw [hA.xor, show (4294967295 : Int) = Int.ofNat 4294967295 from rfl, xor32 _ _ (by decide) h2, Nat.xor_comm, h3]
    rfl
theorem casSum_spec (l : List UInt8) (xs : List PV) (hxs : xs = bP l) (hl : l.length < 9223372036854775807) :
    FnL Try.prog 108 [.p (.sl xs)] [] fun v own => ∃ n, n = csum l ∧ v = .p (.int .u32 (Int.ofNat n)) ∧ own = [] := by
  have hm := casMore_spec l xs hxs hl
  refine fn_of_vc eOk fOk fo108 Try.func108 rfl rfl rfl fun B hB => ?_
  intro add sub mul quo rem band bor bxor bclr shl shr ieq ilt ile seq slt beq bnot orb bcond iwrap iof ssz hA cat sq sl imin imax smin smax len slen u8 hL op hop call hcall code hcode ret hret
  cbv
  refine hcall _ _ _ _ _ (CallEv.same hm rfl ?_)
  rintro _ _ ⟨n, hn, rfl, rfl⟩
  cbv
  exact hret _ (RetEv.ret eOk rfl ⟨n, hn, rfl, rfl⟩)
theorem le4_row {n : Nat} {iwrap : IntKind → Int → Int} {shr : IntKind → Int → Nat → Int} (hw : ∀ k a, iwrap k a = k.wrap a) (hs : ∀ (k : IntKind) (a : Int) (m : Nat), shr k a m = a.fdiv (2 ^ (min m k.bits))) :
    [PV.int .u8 (iwrap .u8 (Int.ofNat n)), PV.int .u8 (iwrap .u8 (shr .u32 (Int.ofNat n) 8)), PV.int .u8 (iwrap .u8 (shr .u32 (Int.ofNat n) 16)), PV.int .u8 (iwrap .u8 (shr .u32 (Int.ofNat n) 24))] = bP (le4 n) := by
  have e : ∀ k : Nat, k ≤ 32 → iwrap .u8 (shr .u32 (Int.ofNat n) k) = ((UInt8.ofNat (n / 2 ^ k)).toNat : Int) := fun k hk => by
    rw [hw, hs, shr32 n k hk, wrap_u8, UInt8.toNat_ofNat']
  have e0 : iwrap .u8 (Int.ofNat n) = ((UInt8.ofNat n).toNat : Int) := by rw [hw, wrap_u8, UInt8.toNat_ofNat']
  rw [e0, e 8 (by decide), e 16 (by decide), e 24 (by decide)]; rfl
theorem casSeal_spec (l : List UInt8) (xs : List PV) (hxs : xs = bP l) (hl : l.length + 4 ≤ 140737488355328) :
    FnL Try.prog 121 [.p (.sl xs)] [] fun v own => ∃ zs, zs = bP (cseal l) ∧ v = .p (.sl zs) ∧ own = [] := by
  have hs := casSum_spec l xs hxs (by omega)
  have hxl : xs.length = l.length := by rw [hxs, bP_length]
  refine FnL.flat (R := fun v own => ∃ zs, zs = bP (cseal l) ∧ v = .p (.sl zs)) ?_ (by rintro _ _ ⟨zs, h, rfl⟩; exact ⟨_, _, rfl, .refl _, zs, h, rfl, rfl⟩)
  refine fn_of_vc eOk fOk fo121 Try.func121 rfl rfl rfl fun B hB => ?_
  intro add sub mul quo rem band bor bxor bclr shl shr ieq ilt ile seq slt beq bnot orb bcond iwrap iof ssz hA cat sq sl imin imax smin smax len slen u8 hL op hop call hcall code hcode ret hret
  cbv
  refine hcall _ _ _ _ _ (CallEv.same hs rfl ?_)
  rintro _ _ ⟨n, hn, rfl, rfl⟩
  cbv
  refine ⟨true, ?_⟩
  cbv
  refine .inl ⟨(), rfl, rfl, by rw [hxs]; exact bP_wf l, ?_, ?_, ?_⟩
  · show 4 + xs.length ≤ maxLen
    unfold maxLen; omega
  · show (4 + xs.length) * 1 ≤ _
    omega
  intro zs n' hz hn'
  have hz2 : zs = bP (cseal l) := by
    rw [hz, le4_row hA.wrap hA.shr, show (Sq.l xs).get = xs from rfl, hxs, ← bP_append, hn]; rfl
  have hn2 : zs.length = n' := by rw [hn', hz, List.length_append]; rfl
  clear hz
  cbv
  refine hret _ (RetEv.retF eOk rfl 0 rfl (by rw [hB]; exact Nat.zero_le _) ⟨zs, hz2, ?_⟩)
  show V.p (.sl ((zs.drop 0).take n')) = _
  rw [frz_full hn2]

/-- Four bytes, put together. -/
theorem four {a b c d : Nat} (ha : a < 256) (hb : b < 256) (hc : c < 256) (hd : d < 256) {iwrap : IntKind → Int → Int} {shl : IntKind → Int → Nat → Int} {bor : IntKind → Int → Int → Int} (hw : ∀ k a, iwrap k a = k.wrap a)
    (hs : ∀ (k : IntKind) (a : Int) (m : Nat), shl k a m = k.wrap (a * 2 ^ (min m k.bits))) (ho : ∀ k a b, bor k a b = bits .or k a b) :
    bor .u32 (bor .u32 (bor .u32 (iwrap .u32 (Int.ofNat a)) (shl .u32 (iwrap .u32 (Int.ofNat b)) 8)) (shl .u32 (iwrap .u32 (Int.ofNat c)) 16)) (shl .u32 (iwrap .u32 (Int.ofNat d)) 24) = Int.ofNat (a + b * 256 + c * 65536 + d * 16777216) := by
  have w : ∀ x : Nat, x < 256 → iwrap .u32 (Int.ofNat x) = Int.ofNat x := fun x hx => by rw [hw]; exact wrap_u32 (by omega)
  have s : ∀ (x m : Nat), m ≤ 32 → x * 2 ^ m < 4294967296 → shl .u32 (Int.ofNat x) m = Int.ofNat (x * 2 ^ m) := fun x m hm hx => by
    rw [hs, show min m IntKind.u32.bits = m from Nat.min_eq_left hm]
    have e : (Int.ofNat x) * 2 ^ m = ((x * 2 ^ m : Nat) : Int) := by push_cast; rfl
    rw [e]; exact wrap_u32 hx
  have o : ∀ (x y m : Nat), x < 2 ^ m → m ≤ 24 → y < 256 → bor .u32 (Int.ofNat x) (Int.ofNat (y * 2 ^ m)) = Int.ofNat (x + y * 2 ^ m) := fun x y m hx hm hy => by
    have hp : (2 : Nat) ^ m ≤ 16777216 := Nat.pow_le_pow_right (by decide) hm
    have hym : y * 2 ^ m ≤ 255 * 16777216 := Nat.mul_le_mul (by omega) hp
    rw [ho, or32 _ _ (by omega) (by omega), or_add _ _ _ hx]
  rw [w a ha, w b hb, w c hc, w d hd, s b 8 (by decide) (by omega), s c 16 (by decide) (by omega), s d 24 (by decide) (by omega), o a b 8 (by omega) (by decide) hb, o _ c 16 (by omega) (by decide) hc, o _ d 24 (by omega) (by decide) hd]

theorem casOpen_spec (l : List UInt8) (xs : List PV) (hxs : xs = bP l) (hl : l.length ≤ 140737488355328) :
    FnL Try.prog 71 [.p (.sl xs)] [] fun v own => ∃ (ys : List PV) (m : List UInt8) (e : Nat), (m, e) = copen l ∧ ys = bP m ∧ v = .p (.tup [.sl ys, .int .i64 (Int.ofNat e)]) ∧ own = [] := by
  refine FnL.flat (R := fun v own => ∃ (ys : List PV) (m : List UInt8) (e : Nat), (m, e) = copen l ∧ ys = bP m ∧ (v = .p (.tup [.sl ys, .int .i64 (Int.ofNat e)]) ∨ ys = [] ∧ v = .p (.tup [.nils, .int .i64 (Int.ofNat e)]))) ?_
    (by
      rintro _ _ ⟨ys, m, e, h1, h2, rfl | ⟨h3, rfl⟩⟩
      · exact ⟨_, _, rfl, .refl _, ys, m, e, h1, h2, rfl, rfl⟩
      · exact ⟨_, .tup [.sl [], .int .i64 (Int.ofNat e)], rfl, PW.tup ⟨PW.nils, .refl _, trivial⟩, ys, m, e, h1, h2, by rw [h3], rfl⟩)
  obtain ⟨R, hR⟩ : ∃ R, R = copen l := ⟨_, rfl⟩
  rw [← hR]
  have hxl : xs.length = l.length := by rw [hxs, bP_length]
  obtain ⟨N, hN⟩ : ∃ N, N = l.length := ⟨_, rfl⟩
  rw [← hN] at hxl hl
  by_cases h4 : N < 4
  · have hR2 : R = ([], 3) := by rw [hR, copen_iff, if_pos (by omega)]
    refine fn_of_vc eOk fOk fo71 Try.func71 rfl rfl rfl fun B hB => ?_
    intro add sub mul quo rem band bor bxor bclr shl shr ieq ilt ile seq slt beq bnot orb bcond iwrap iof ssz hA cat sq sl imin imax smin smax len slen u8 hL op hop call hcall code hcode ret hret
    cbv
    refine vcIf.yes (by first | (simp [hA.not, hA.eq, hA.lt, hA.le, hA.cond, hA.beq, hA.orb, hL.len, hL.slen, hL.sq, hxl, h4]; done) | (simp only [hxl, h4]; simp [hA.not, hA.eq, hA.lt, hA.le, hA.cond, hA.beq, hA.orb, hL.len, hL.slen, hL.sq, hxl, h4]; done) | (simp [hA.not, hA.eq, hA.lt, hA.le, hA.cond, hA.beq, hA.orb, hL.len, hL.slen, hL.sq, hxl, h4]; omega) | (simp only [hxl, h4]; simp [hA.not, hA.eq, hA.lt, hA.le, hA.cond, hA.beq, hA.orb, hL.len, hL.slen, hL.sq, hxl, h4]; omega)) ?_
    cbv
    exact hret _ (RetEv.ret eOk rfl ⟨[], [], 3, hR2.symm, rfl, .inr ⟨rfl, rfl⟩⟩)
  obtain ⟨a, b, c, d, r, rfl⟩ : ∃ a b c d r, l = a :: b :: c :: d :: r := by
    match l, hN with
    | a :: b :: c :: d :: r, _ => exact ⟨a, b, c, d, r, rfl⟩
    | [], h => simp at h; omega
    | [_], h => simp at h; omega
    | [_, _], h => simp at h; omega
    | [_, _, _], h => simp at h; omega
  obtain ⟨av, hav⟩ : ∃ av, av = a.toNat := ⟨_, rfl⟩
  obtain ⟨bv, hbv⟩ : ∃ av, av = b.toNat := ⟨_, rfl⟩
  obtain ⟨cv, hcv⟩ : ∃ av, av = c.toNat := ⟨_, rfl⟩
  obtain ⟨dv, hdv⟩ : ∃ av, av = d.toNat := ⟨_, rfl⟩
  have hlt : av < 256 ∧ bv < 256 ∧ cv < 256 ∧ dv < 256 := by have := a.toNat_lt; have := b.toNat_lt; have := c.toNat_lt; have := d.toNat_lt; omega
  have g0 : xs[0]? = some (.int .u8 (Int.ofNat av)) := by rw [hxs, hav]; rfl
  have g1 : xs[1]? = some (.int .u8 (Int.ofNat bv)) := by rw [hxs, hbv]; rfl
  have g2 : xs[2]? = some (.int .u8 (Int.ofNat cv)) := by rw [hxs, hcv]; rfl
  have g3 : xs[3]? = some (.int .u8 (Int.ofNat dv)) := by rw [hxs, hdv]; rfl
  obtain ⟨ys, hys⟩ : ∃ ys, ys = bP r := ⟨_, rfl⟩
  have hyl : ys.length = r.length := by rw [hys, bP_length]
  have hxd : xs.drop 4 = ys := by rw [hxs, hys]; rfl
  have hnl : N = r.length + 4 := by rw [hN]; rfl
  have hs := casSum_spec r ys hys (by omega)
  have hR2 : R = if csum r = av + bv * 256 + cv * 65536 + dv * 16777216 then (r, 0) else ([], 2) := by rw [hR, hav, hbv, hcv, hdv]; rfl
  have hxw : ∀ y ∈ xs, y.cells.length = 1 := fun y hy => by rw [hxs] at hy; exact (bP_wf _ y hy).1
  have hyw : Wf 1 ys := by rw [hys]; exact bP_wf _
  clear hav hbv hcv hdv hxs hR
  refine fn_of_vc eOk fOk fo71 Try.func71 rfl rfl rfl fun B hB => ?_
  intro add sub mul quo rem band bor bxor bclr shl shr ieq ilt ile seq slt beq bnot orb bcond iwrap iof ssz hA cat sq sl imin imax smin smax len slen u8 hL op hop call hcall code hcode ret hret
  cbv
  refine vcIf.no (by first | (simp [hA.not, hA.eq, hA.lt, hA.le, hA.cond, hA.beq, hA.orb, hL.len, hL.slen, hL.sq, hxl, h4]; done) | (simp only [hxl, h4]; simp [hA.not, hA.eq, hA.lt, hA.le, hA.cond, hA.beq, hA.orb, hL.len, hL.slen, hL.sq, hxl, h4]; done) | (simp [hA.not, hA.eq, hA.lt, hA.le, hA.cond, hA.beq, hA.orb, hL.len, hL.slen, hL.sq, hxl, h4]; omega) | (simp only [hxl, h4]; simp [hA.not, hA.eq, hA.lt, hA.le, hA.cond, hA.beq, hA.orb, hL.len, hL.slen, hL.sq, hxl, h4]; omega)) ?_
  cbv
  refine hcode _ _ _ (CodeEv.drawA eOk fOk (by kernel_rfl) noX (by kernel_rfl) (by kernel_rfl) (by kernel_rfl) ?_)
  intro add2 sub2 mul2 quo2 rem2 band2 bor2 bxor2 bclr2 shl2 shr2 ieq2 ilt2 ile2 seq2 slt2 beq2 bnot2 orb2 bcond2 iwrap2 iof2 ssz2 hA2 cat2 sq2 sl2 imin2 imax2 smin2 smax2 len2 slen2 u82 hL2 op2 hop2 call2 hcall2 code2 hcode2 q2 hq2
  have hfour := four hlt.1 hlt.2.1 hlt.2.2.1 hlt.2.2.2 hA2.wrap hA2.shl hA2.or
  cbv
  refine ⟨0, _, rfl, g0, rfl, ?_⟩
  cbv
  refine ⟨1, _, rfl, g1, rfl, ?_⟩
  cbv
  refine ⟨2, _, rfl, g2, rfl, ?_⟩
  cbv
  refine ⟨3, _, rfl, g3, rfl, ?_⟩
  cbv
  refine hq2 _ ?_
  rw [hfour]
  generalize av + bv * 256 + cv * 65536 + dv * 16777216 = w at *
  cbv
  refine ⟨4, xs.length, xs.length, rfl, rfl, rfl, by omega, Nat.le_refl _, Nat.le_refl _, hxw, ?_⟩
  intro zs hz
  obtain rfl : zs = ys := by rw [hz, hxd, List.take_of_length_le (by omega)]
  clear hz
  cbv
  refine hcall _ _ _ _ _ (CallEv.same hs rfl ?_)
  rintro _ _ ⟨n, hn, rfl, rfl⟩
  rw [← hn] at hR2
  cbv
  by_cases hw : n = w
  · rw [if_pos hw] at hR2
    subst hw
    repeat (first | (refine vcIf.yes ?_ ?_; (focus (simp [hA.not, hA.eq, hA.lt, hA.le, hA.cond, hA.beq, hA.orb, hL.len, hL.slen, hL.sq]; done)); cbv) | (refine vcIf.no ?_ ?_; (focus (simp [hA.not, hA.eq, hA.lt, hA.le, hA.cond, hA.beq, hA.orb, hL.len, hL.slen, hL.sq]; done)); cbv) | fail)
    refine ⟨4, xs.length, xs.length, rfl, rfl, rfl, by omega, Nat.le_refl _, Nat.le_refl _, hxw, ?_⟩
    intro zs2 hz
    obtain rfl : zs2 = zs := by rw [hz, hxd, List.take_of_length_le (by omega)]
    clear hz
    cbv
    refine ⟨(), hyw, ?_, ?_, ?_⟩
    · show zs2.length ≤ maxLen
      unfold maxLen; omega
    · show zs2.length * 1 ≤ _
      omega
    intro us n' hu hn'
    simp only [Sq.get] at hu hn'
    subst hu
    cbv
    refine hret _ (RetEv.retF eOk rfl 0 rfl (by rw [hB]; exact Nat.zero_le _) ⟨us, r, 0, hR2.symm, hys, .inl ?_⟩)
    show V.p (.tup [.sl ((us.drop 0).take n'), .int .i64 0]) = _
    rw [frz_full hn'.symm]; rfl
  · rw [if_neg hw] at hR2
    refine vcIf.yes (by rw [hA.not, hA.eq]; simpa using fun c => hw (by omega)) ?_
    cbv
    exact hret _ (RetEv.ret eOk rfl ⟨[], [], 2, hR2.symm, rfl, .inr ⟨rfl, rfl⟩⟩)
end Go.Proofs.Ytnigonhkfpnodaa
