/- The walk of the law FrameSpoiled. Conditions: on sizes. -/
import Derived.Test.YtmenbognkdeipaaLSp2
set_option maxRecDepth 100000
set_option maxHeartbeats 4000000
set_option linter.unusedSimpArgs false
set_option linter.unusedVariables false
namespace Go.Proofs.Ytmenbognkdeipaa
open Go Go.Lx
open Go.Sx (vcIf)

theorem bits_xor8 (a b : Nat) (ha : a < 256) (hb : b < 256) : bits .xor .u8 (a : Int) (b : Int) = ((a ^^^ b : Nat) : Int) := by
  have e1 : BitVec.ofInt 8 (a : Int) = BitVec.ofNat 8 a := BitVec.ofInt_natCast 8 _
  have e2 : BitVec.ofInt 8 (b : Int) = BitVec.ofNat 8 b := BitVec.ofInt_natCast 8 _
  have hx := Nat.xor_lt_two_pow (n := 8) (show a < 2 ^ 8 from ha) (show b < 2 ^ 8 from hb)
  show IntKind.u8.wrap (((BitVec.ofInt 8 (a : Int)) ^^^ (BitVec.ofInt 8 (b : Int))).toNat : Int) = _
  rw [e1, e2, BitVec.toNat_xor, BitVec.toNat_ofNat, BitVec.toNat_ofNat, Nat.mod_eq_of_lt (show a < 2 ^ 8 from ha), Nat.mod_eq_of_lt (show b < 2 ^ 8 from hb)]
  have := wrap_u8 (a ^^^ b)
  rw [Nat.mod_eq_of_lt hx] at this
  exact this
theorem cut4 {l : List UInt8} {k : Nat} (h : k + 4 ≤ l.length) : ∃ p a0 a1 a2 a3 s, l = p ++ ([a0, a1, a2, a3] ++ s) ∧ p.length = k := by
  have hd : (l.drop k).length ≥ 4 := by rw [List.length_drop]; omega
  have ht := List.take_append_drop k l
  generalize l.drop k = d at hd ht
  match d, hd with
  | a0 :: a1 :: a2 :: a3 :: s, _ => exact ⟨l.take k, a0, a1, a2, a3, s, ht.symm, by rw [List.length_take]; omega⟩
def xb (a : UInt8) (t : Nat) : UInt8 := UInt8.ofNat (a.toNat ^^^ t % 256)
theorem xb_nat (a : UInt8) (t : Nat) : (xb a t).toNat = a.toNat ^^^ t % 256 := by
  unfold xb
  rw [UInt8.toNat_ofNat']
  exact Nat.mod_eq_of_lt (Nat.xor_lt_two_pow (n := 8) a.toNat_lt (Nat.mod_lt _ (by decide)))
def sqs (a0 a1 a2 a3 : UInt8) (b : Nat) : Nat → List UInt8
  | 0 => [a0, a1, a2, a3]
  | 1 => [xb a0 b, a1, a2, a3]
  | 2 => [xb a0 b, xb a1 (b / 256), a2, a3]
  | 3 => [xb a0 b, xb a1 (b / 256), xb a2 (b / 256 / 256), a3]
  | _ => [xb a0 b, xb a1 (b / 256), xb a2 (b / 256 / 256), xb a3 (b / 256 / 256 / 256)]
theorem sqs_step (a0 a1 a2 a3 : UInt8) (b : Nat) (p s : List UInt8) (i : Nat) (hi : i < 4) : ∃ x : UInt8, (bP (p ++ (sqs a0 a1 a2 a3 b i ++ s)))[p.length + i]? = some (.int .u8 (Int.ofNat x.toNat)) ∧ (bP (p ++ (sqs a0 a1 a2 a3 b i ++ s))).set (p.length + i) (.int .u8 (Int.ofNat (xb x (b / 2 ^ (8 * i))).toNat)) = bP (p ++ (sqs a0 a1 a2 a3 b (i + 1) ++ s)) := by
  have hp : (bP p).length = p.length := bP_length p
  have g : ∀ X j, (bP (p ++ X))[p.length + j]? = (bP X)[j]? := fun X j => by
    rw [bP_append, List.getElem?_append_right (by omega)]; congr 1; omega
  have t : ∀ X j y, (bP (p ++ X)).set (p.length + j) y = bP p ++ (bP X).set j y := fun X j y => by
    rw [bP_append, List.set_append_right _ _ (by omega)]; congr 2; omega
  have d1 : b / 2 ^ (8 * 0) = b := by simp
  have d2 : b / 2 ^ (8 * 1) = b / 256 := rfl
  have d3 : b / 2 ^ (8 * 2) = b / 256 / 256 := by rw [Nat.div_div_eq_div_mul]
  have d4 : b / 2 ^ (8 * 3) = b / 256 / 256 / 256 := by rw [Nat.div_div_eq_div_mul, Nat.div_div_eq_div_mul]
  match i, hi with
  | 0, _ => exact ⟨a0, by rw [g]; rfl, by show _ = bP (p ++ (sqs a0 a1 a2 a3 b 1 ++ s)); rw [t, bP_append p (sqs a0 a1 a2 a3 b 1 ++ s), d1]; rfl⟩
  | 1, _ => exact ⟨a1, by rw [g]; rfl, by show _ = bP (p ++ (sqs a0 a1 a2 a3 b 2 ++ s)); rw [t, bP_append p (sqs a0 a1 a2 a3 b 2 ++ s), d2]; rfl⟩
  | 2, _ => exact ⟨a2, by rw [g]; rfl, by show _ = bP (p ++ (sqs a0 a1 a2 a3 b 3 ++ s)); rw [t, bP_append p (sqs a0 a1 a2 a3 b 3 ++ s), d3]; rfl⟩
  | 3, _ => exact ⟨a3, by rw [g]; rfl, by show _ = bP (p ++ (sqs a0 a1 a2 a3 b 4 ++ s)); rw [t, bP_append p (sqs a0 a1 a2 a3 b 4 ++ s), d4]; rfl⟩
theorem frameSpoiled (m : Msg) (hm : m.fit) (a : Nat) (ha : a ≤ 65535) (b : Nat) (hb : b ≤ 4294967295) : FnL Try.prog 4 [.p m.v, .p (.int .u16 (a : Int)), .p (.int .u32 (b : Int))] [] fun z own => z = .p (.bool true) := by
  obtain ⟨bs, hbs⟩ : ∃ bs, bs = bP m.body := ⟨_, rfl⟩
  have henc := frEncodeO_spec m hm bs hbs
  have hlen := fun l e => fEnc_len m hm (l := l) (e := e)
  unfold Msg.v
  rw [← hbs]
  obtain ⟨R, hR⟩ : ∃ R, R = fEnc m := ⟨_, rfl⟩
  rw [← hR] at henc hlen
  clear hR hm hbs
  obtain ⟨kd, fr, to, ep, ma, mb, mc, body⟩ := m
  simp only at henc ⊢
  rw [show ((a : Nat) : Int) = Int.ofNat a from rfl, show ((b : Nat) : Int) = Int.ofNat b from rfl]
  refine fn_of_vc eOk fOk fo4 Try.func4 rfl rfl rfl fun B hB => ?_
  intro add sub mul quo rem band bor bxor bclr shl shr ieq ilt ile seq slt beq bnot orb bcond iwrap iof ssz hA cat sq sl imin imax smin smax len slen u8 hL op hop call hcall code hcode ret hret
  cbv
  refine hcall _ _ _ _ _ (CallEv.same henc rfl ?_)
  rintro _ _ (⟨ys, l, n, h1, ⟨bd, hbd⟩, hy, hn, rfl, rfl⟩ | ⟨rfl, rfl⟩)
  rotate_left
  · cbv
    refine hcall _ _ _ _ _ (CallEv.same awake5_spec rfl ?_)
    rintro _ _ ⟨rfl, rfl⟩
    cbv
    repeat (first | (refine vcIf.yes ?_ ?_; (focus (simp [hA.not, hA.eq, hA.lt, hA.le, hA.cond, hA.beq, hA.orb, hL.len, hL.slen, hL.sq]; done)); cbv) | (refine vcIf.no ?_ ?_; (focus (simp [hA.not, hA.eq, hA.lt, hA.le, hA.cond, hA.beq, hA.orb, hL.len, hL.slen, hL.sq]; done)); cbv) | fail)
    refine hcall _ _ _ _ _ (CallEv.same awake5_spec rfl ?_)
    rintro _ _ ⟨rfl, rfl⟩
    cbv
    exact hret _ (RetEv.ret eOk rfl (by simp [hA.not, hA.eq, hA.lt, hA.le, hA.cond, hA.beq, hA.orb, hL.len, hL.slen, hL.sq, oneOf]))
  have hll := hlen l 0 h1
  have hln : n = l.length := by rw [hn, hy, bP_length]
  have hio : iof n = Int.ofNat n := by rw [hA.ofNat]; rfl
  cbv
  refine hcall _ _ _ _ _ (CallEv.same awake5_spec rfl ?_)
  rintro _ _ ⟨rfl, rfl⟩
  cbv
  repeat (first | (refine vcIf.yes ?_ ?_; (focus (simp [hA.not, hA.eq, hA.lt, hA.le, hA.cond, hA.beq, hA.orb, hL.len, hL.slen, hL.sq]; done)); cbv) | (refine vcIf.no ?_ ?_; (focus (simp [hA.not, hA.eq, hA.lt, hA.le, hA.cond, hA.beq, hA.orb, hL.len, hL.slen, hL.sq]; done)); cbv) | fail)
  by_cases hb0 : b = 0
  · refine vcIf.yes (by first | (simp [hA.not, hA.eq, hA.lt, hA.le, hA.cond, hA.beq, hA.orb, hL.len, hL.slen, hL.sq, hb0]; done) | (simp only [hb0]; simp [hA.not, hA.eq, hA.lt, hA.le, hA.cond, hA.beq, hA.orb, hL.len, hL.slen, hL.sq, hb0]; done) | (simp [hA.not, hA.eq, hA.lt, hA.le, hA.cond, hA.beq, hA.orb, hL.len, hL.slen, hL.sq, hb0]; omega) | (simp only [hb0]; simp [hA.not, hA.eq, hA.lt, hA.le, hA.cond, hA.beq, hA.orb, hL.len, hL.slen, hL.sq, hb0]; omega)) ?_
    cbv
    repeat (first | (refine vcIf.yes ?_ ?_; (focus (simp [hA.not, hA.eq, hA.lt, hA.le, hA.cond, hA.beq, hA.orb, hL.len, hL.slen, hL.sq]; done)); cbv) | (refine vcIf.no ?_ ?_; (focus (simp [hA.not, hA.eq, hA.lt, hA.le, hA.cond, hA.beq, hA.orb, hL.len, hL.slen, hL.sq]; done)); cbv) | fail)
    refine hcall _ _ _ _ _ (CallEv.same awake5_spec rfl ?_)
    rintro _ _ ⟨rfl, rfl⟩
    cbv
    exact hret _ (RetEv.ret eOk rfl (by simp [hA.not, hA.eq, hA.lt, hA.le, hA.cond, hA.beq, hA.orb, hL.len, hL.slen, hL.sq, oneOf]))
  refine vcIf.no (by first | (simp [hA.not, hA.eq, hA.lt, hA.le, hA.cond, hA.beq, hA.orb, hL.len, hL.slen, hL.sq, hb0]; done) | (simp only [hb0]; simp [hA.not, hA.eq, hA.lt, hA.le, hA.cond, hA.beq, hA.orb, hL.len, hL.slen, hL.sq, hb0]; done) | (simp [hA.not, hA.eq, hA.lt, hA.le, hA.cond, hA.beq, hA.orb, hL.len, hL.slen, hL.sq, hb0]; omega) | (simp only [hb0]; simp [hA.not, hA.eq, hA.lt, hA.le, hA.cond, hA.beq, hA.orb, hL.len, hL.slen, hL.sq, hb0]; omega)) ?_
  cbv
  by_cases hn8 : n < 8
  · refine vcIf.yes (by first | (simp [hA.not, hA.eq, hA.lt, hA.le, hA.cond, hA.beq, hA.orb, hL.len, hL.slen, hL.sq, hio, hn8]; done) | (simp only [hio, hn8]; simp [hA.not, hA.eq, hA.lt, hA.le, hA.cond, hA.beq, hA.orb, hL.len, hL.slen, hL.sq, hio, hn8]; done) | (simp [hA.not, hA.eq, hA.lt, hA.le, hA.cond, hA.beq, hA.orb, hL.len, hL.slen, hL.sq, hio, hn8]; omega) | (simp only [hio, hn8]; simp [hA.not, hA.eq, hA.lt, hA.le, hA.cond, hA.beq, hA.orb, hL.len, hL.slen, hL.sq, hio, hn8]; omega)) ?_
    cbv
    repeat (first | (refine vcIf.yes ?_ ?_; (focus (simp [hA.not, hA.eq, hA.lt, hA.le, hA.cond, hA.beq, hA.orb, hL.len, hL.slen, hL.sq]; done)); cbv) | (refine vcIf.no ?_ ?_; (focus (simp [hA.not, hA.eq, hA.lt, hA.le, hA.cond, hA.beq, hA.orb, hL.len, hL.slen, hL.sq]; done)); cbv) | fail)
    refine hcall _ _ _ _ _ (CallEv.same awake5_spec rfl ?_)
    rintro _ _ ⟨rfl, rfl⟩
    cbv
    exact hret _ (RetEv.ret eOk rfl (by simp [hA.not, hA.eq, hA.lt, hA.le, hA.cond, hA.beq, hA.orb, hL.len, hL.slen, hL.sq, oneOf]))
  refine vcIf.no (by first | (simp [hA.not, hA.eq, hA.lt, hA.le, hA.cond, hA.beq, hA.orb, hL.len, hL.slen, hL.sq, hio, hn8]; done) | (simp only [hio, hn8]; simp [hA.not, hA.eq, hA.lt, hA.le, hA.cond, hA.beq, hA.orb, hL.len, hL.slen, hL.sq, hio, hn8]; done) | (simp [hA.not, hA.eq, hA.lt, hA.le, hA.cond, hA.beq, hA.orb, hL.len, hL.slen, hL.sq, hio, hn8]; omega) | (simp only [hio, hn8]; simp [hA.not, hA.eq, hA.lt, hA.le, hA.cond, hA.beq, hA.orb, hL.len, hL.slen, hL.sq, hio, hn8]; omega)) ?_
  cbv
  rw [hio]
  have hsub : sub .i64 (Int.ofNat n) 7 = Int.ofNat (n - 7) := by rw [hA.sub, IntWalk.i64_in _ (by simp only [Int.ofNat_eq_natCast]; omega)]; simp only [Int.ofNat_eq_natCast]; omega
  have hiw : iwrap .i64 (Int.ofNat a) = Int.ofNat a := by rw [hA.wrap, IntWalk.i64_in _ (by simp only [Int.ofNat_eq_natCast]; omega)]
  obtain ⟨nm, hnm⟩ : ∃ x, x = n - 7 := ⟨_, rfl⟩
  rw [← hnm] at hsub
  obtain ⟨at0, hat⟩ : ∃ x, x = 4 + a % nm := ⟨_, rfl⟩
  have hatl : at0 + 4 ≤ n := by have := Nat.mod_lt a (show nm > 0 by omega); omega
  have hadd : add .i64 4 (rem (Int.ofNat a) (Int.ofNat nm)) = Int.ofNat at0 := by
    have e : (Int.ofNat a).tmod (Int.ofNat nm) = Int.ofNat (a % nm) := rfl
    rw [hA.add, hA.rem, e, IntWalk.i64_in _ (by simp only [Int.ofNat_eq_natCast]; omega), hat]; simp only [Int.ofNat_eq_natCast]; omega
  rw [hsub]
  refine ⟨⟨⟩, by simp only [Int.ofNat_eq_natCast]; omega, ?_⟩
  cbv
  rw [hiw, hadd]
  obtain ⟨p, a0, a1, a2, a3, s, hps, hpl⟩ := cut4 (l := l) (k := at0) (by omega)
  have hst := sqs_step a0 a1 a2 a3 b p s
  have hend : copen (p ++ (sqs a0 a1 a2 a3 b 4 ++ s)) = ([], 2) := spoilt (by omega) hb0 a0 a1 a2 a3 _ _ _ _ (xb_nat _ _) (xb_nat _ _) (xb_nat _ _) (xb_nat _ _) (hbd.symm.trans hps) (by omega)
  rw [hpl] at hst
  obtain ⟨row, hrow⟩ : ∃ f : Nat → List PV, ∀ i, f i = bP (p ++ (sqs a0 a1 a2 a3 b i ++ s)) := ⟨_, fun _ => rfl⟩
  have hrl : ∀ i, (row i).length = n := fun i => by
    rw [hrow, bP_length, hln, hps]
    simp only [List.length_append]
    match i with
    | 0 | 1 | 2 | 3 | _ + 4 => rfl
  simp only [← hrow] at hst
  refine hcode _ _ _ (CodeEv.loop eOk fOk (ι := Nat × List PV) (fun x => [(2, .p (.int .u32 (Int.ofNat b))), (7, .vw 1 1 0 n none), (9, .p (.int .i64 (Int.ofNat at0))), (10, .p (.int .i64 (Int.ofNat x.1)))])
    (fun x => [.st 24 [.p (.int .i64 kd), .p (.int .i64 fr), .p (.int .i64 to), .p (.int .i64 ep), .p (.int .i64 ma), .p (.int .i64 mb), .p (.int .i64 mc), .p (.sl bs)], wrA x.2]) (fun x => x.1 ≤ 4 ∧ x.2 = row x.1) (fun x => 4 - x.1) (0, ys) ?_ ?_)
  · exact ⟨(by repeat (first | exact trivial | refine And.intro rfl ?_)), rfl, Nat.zero_le _, by rw [hrow, hy, hps]; rfl⟩
  rintro ⟨i, us⟩ ⟨k1, k2⟩ rd hrd
  simp only at k1 k2
  have hul : us.length = n := by rw [k2, hrl]
  intro add1 sub1 mul1 quo1 rem1 band1 bor1 bxor1 bclr1 shl1 shr1 ieq1 ilt1 ile1 seq1 slt1 beq1 bnot1 orb1 bcond1 iwrap1 iof1 ssz1 hA1 cat1 sq1 sl1 imin1 imax1 smin1 smax1 len1 slen1 u81 hL1 op1 hop1 call1 hcall1 code1 hcode1
  have hadd1 : add1 .i64 (Int.ofNat i) 1 = Int.ofNat (i + 1) := by rw [hA1.add, IntWalk.i64_in _ (by simp only [Int.ofNat_eq_natCast]; omega)]; rfl
  cbv
  by_cases hi : i < 4
  · obtain ⟨x, hx1, hx2⟩ := hst i hi
    rw [← k2] at hx1 hx2
    obtain ⟨sh, hsh⟩ : ∃ x, x = 8 * i := ⟨_, rfl⟩
    obtain ⟨pos, hpos⟩ : ∃ x, x = at0 + i := ⟨_, rfl⟩
    rw [← hpos] at hx1 hx2
    rw [← hsh] at hx2
    obtain ⟨xn, hxn⟩ : ∃ k, k = x.toNat := ⟨_, rfl⟩
    obtain ⟨yn, hyn⟩ : ∃ k, k = (xb x (b / 2 ^ sh)).toNat := ⟨_, rfl⟩
    have hyx : yn = xn ^^^ b / 2 ^ sh % 256 := by rw [hyn, hxn]; exact xb_nat _ _
    have hxl : xn < 256 := by rw [hxn]; exact x.toNat_lt
    rw [← hxn] at hx1
    rw [← hyn] at hx2
    clear hyn hxn
    refine vcIf.yes (by first | (simp [hA1.not, hA1.eq, hA1.lt, hA1.le, hA1.cond, hA1.beq, hA1.orb, hL1.len, hL1.slen, hL1.sq, hi]; done) | (simp only [hi]; simp [hA1.not, hA1.eq, hA1.lt, hA1.le, hA1.cond, hA1.beq, hA1.orb, hL1.len, hL1.slen, hL1.sq, hi]; done) | (simp [hA1.not, hA1.eq, hA1.lt, hA1.le, hA1.cond, hA1.beq, hA1.orb, hL1.len, hL1.slen, hL1.sq, hi]; omega) | (simp only [hi]; simp [hA1.not, hA1.eq, hA1.lt, hA1.le, hA1.cond, hA1.beq, hA1.orb, hL1.len, hL1.slen, hL1.sq, hi]; omega)) ?_
    cbv
    refine hcode1 _ _ _ (CodeEv.drawT eOk fOk (by kernel_rfl) (Xof 3 [1]) (.rd 0 (.rd 1 (.rd 2 (.rd 3 (.rd 6 (.rd 7 (.rd 8 (.rd 9 (.rd 10 (.rd 4 (.so 5 (.so 11 (.so 12 (.acts (.cons 13 (.done) (.nil)))))))))))))))) (by kernel_rfl) (by kernel_rfl) ?_)
    intro add2 sub2 mul2 quo2 rem2 band2 bor2 bxor2 bclr2 shl2 shr2 ieq2 ilt2 ile2 seq2 slt2 beq2 bnot2 orb2 bcond2 iwrap2 iof2 ssz2 hA2 cat2 sq2 sl2 imin2 imax2 smin2 smax2 len2 slen2 u82 hL2 op2 hop2 call2 hcall2 code2 hcode2 q2 hq2
    have haddp : add2 .i64 (Int.ofNat at0) (Int.ofNat i) = Int.ofNat pos := by rw [hA2.add, IntWalk.i64_in _ (by simp only [Int.ofNat_eq_natCast]; omega)]; simp only [Int.ofNat_eq_natCast]; omega
    have hmul : mul2 .i64 8 (Int.ofNat i) = Int.ofNat sh := by rw [hA2.mul, IntWalk.i64_in _ (by simp only [Int.ofNat_eq_natCast]; omega)]; simp only [Int.ofNat_eq_natCast]; omega
    have hval : bxor2 .u8 (Int.ofNat xn) (iwrap2 .u8 (shr2 .u32 (Int.ofNat b) sh)) = Int.ofNat yn := by
      rw [hA2.shr, shr32 b sh (by omega), hA2.wrap, wrap_u8, hA2.xor, show (Int.ofNat xn) = ((xn : Nat) : Int) from rfl, bits_xor8 _ _ hxl (Nat.mod_lt _ (by decide)), ← hyx]; rfl
    cbv
    refine ⟨sh, hmul, ?_⟩
    cbv
    refine ⟨pos, haddp, by omega, fun q hq => ?_⟩
    obtain rfl : pos = q := by omega
    cbv
    refine ⟨_, hx1, ?_⟩
    cbv
    refine ⟨pos, haddp, by omega, fun q hq => ?_⟩
    obtain rfl : pos = q := by omega
    cbv
    rw [hval]
    refine ⟨_, hx1, PV.wf1 rfl, fun vs hvs => ?_⟩
    rw [hx2] at hvs
    cbv
    refine hq2 _ ?_
    cbv
    refine hrd _ ⟨(i + 1, vs), [], ?_, ⟨hi, hvs⟩, rfl, ⟨rfl, rfl, rfl, ?_, trivial⟩, rfl, rfl, rfl, ?_⟩
    · simp only; omega
    · show some (V.p (.int .i64 _)) = _
      rw [hadd1]
    · rw [hB]; exact Nat.zero_le _
  · refine vcIf.no (by first | (simp [hA1.not, hA1.eq, hA1.lt, hA1.le, hA1.cond, hA1.beq, hA1.orb, hL1.len, hL1.slen, hL1.sq, hi]; done) | (simp only [hi]; simp [hA1.not, hA1.eq, hA1.lt, hA1.le, hA1.cond, hA1.beq, hA1.orb, hL1.len, hL1.slen, hL1.sq, hi]; done) | (simp [hA1.not, hA1.eq, hA1.lt, hA1.le, hA1.cond, hA1.beq, hA1.orb, hL1.len, hL1.slen, hL1.sq, hi]; omega) | (simp only [hi]; simp [hA1.not, hA1.eq, hA1.lt, hA1.le, hA1.cond, hA1.beq, hA1.orb, hL1.len, hL1.slen, hL1.sq, hi]; omega)) ?_
    cbv
    obtain rfl : i = 4 := by omega
    obtain ⟨l2, hl2⟩ : ∃ x, x = p ++ (sqs a0 a1 a2 a3 b 4 ++ s) := ⟨_, rfl⟩
    rw [← hl2] at hend
    have hl2l : l2.length = n := by have := hrl 4; rw [hrow, ← hl2, bP_length] at this; exact this
    have hde : ∀ vs, vs = us → _ := fun vs hv => frDecode_spec l2 (by omega) vs (by rw [hv, k2, hrow, hl2])
    refine hcall _ _ _ _ _ (CallEv.freezeG 1 rfl (by rw [hB]; exact Nat.zero_le _) fun g hg => CallEv.same (hde (g 0 n) (by rw [hg, frz_full hul])) rfl ?_)
    rintro _ _ ⟨m2, e2, x2, h2, ⟨bs2, _, rfl⟩, rfl, rfl⟩
    rw [fDec_spoilt hend] at h2
    obtain ⟨rfl, rfl⟩ := Prod.mk.inj h2
    cbv
    exact hret _ (RetEv.ret eOk rfl (by simp [hA.not, hA.eq, hA.lt, hA.le, hA.cond, hA.beq, hA.orb, hL.len, hL.slen, hL.sq, oneOf]))
end Go.Proofs.Ytmenbognkdeipaa
