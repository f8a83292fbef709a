/- What math/bits.Mul64 and slices.Repeat answer when one number is repeated. Conditions: on the count. -/
import Derived.Test.YtocmeaamaecgeaaLEnv
import Derived.Laws.Bits64b
set_option maxRecDepth 100000
set_option maxHeartbeats 4000000
set_option linter.unusedSimpArgs false
set_option linter.unusedVariables false
namespace Go.Proofs.Ytocmeaamaecgeaa
open Go Go.Lx
open Go.Sx (vcIf)

theorem r_mask (a : Nat) (ha : a < 18446744073709551616) : bits .and .u64 (Int.ofNat a) 4294967295 = Int.ofNat (a % 4294967296) := by
  have h := bits_and_u64_nat a 4294967295 ha (by omega)
  have e : a &&& 4294967295 = a % 4294967296 := Nat.and_two_pow_sub_one_eq_mod a 32
  rw [e] at h
  exact h
theorem r_shr (a : Nat) : (Int.ofNat a).fdiv (2 ^ (min 32 IntKind.u64.bits)) = Int.ofNat (a / 4294967296) := by
  rw [show (min 32 IntKind.u64.bits) = 32 from rfl, show (2 : Int) ^ 32 = 4294967296 from rfl, Int.fdiv_eq_ediv_of_nonneg _ (by decide)]
  rfl
theorem r_wrap (a : Nat) (ha : a < 18446744073709551616) : IntKind.u64.wrap (Int.ofNat a) = Int.ofNat a := by rw [IntKind.wrap_u64]; simp only [Int.ofNat_eq_natCast]; omega

theorem mul64_spec (n : Nat) (hn : n < 9223372036854775808) : FnL Try.prog 40 [.p (.int .u64 1), .p (.int .u64 (Int.ofNat n))] [] fun v own => v = .p (.tup [.int .u64 0, .int .u64 (Int.ofNat n)]) ∧ own = [] := by
  refine FnL.flat (R := fun v own => v = .p (.tup [.int .u64 0, .int .u64 (Int.ofNat n)])) ?_ (by rintro _ _ rfl; exact ⟨_, _, rfl, .refl _, rfl, rfl⟩)
  refine fn_of_vc eOk fOk fo40 Try.func40 rfl rfl rfl fun B hB => ?_
  intro add sub mul quo rem band bor bxor bclr shl shr ieq ilt ile seq slt beq bnot orb bcond iwrap iof ssz hA cat sq sl imin imax smin smax len slen u8 hL op hop call hcall code hcode ret hret
  obtain ⟨y0, hy0⟩ : ∃ y, y = n % 4294967296 := ⟨_, rfl⟩
  obtain ⟨y1, hy1⟩ : ∃ y, y = n / 4294967296 := ⟨_, rfl⟩
  have e1 : band .u64 1 4294967295 = 1 := by rw [hA.and]; rfl
  have e2 : shr .u64 1 32 = 0 := by rw [hA.shr]; rfl
  have e3 : band .u64 (Int.ofNat n) 4294967295 = Int.ofNat y0 := by rw [hA.and, r_mask n (by omega), hy0]
  have e4 : shr .u64 (Int.ofNat n) 32 = Int.ofNat y1 := by rw [hA.shr, r_shr, hy1]
  have e5 : ∀ a : Nat, a < 9223372036854775808 → mul .u64 1 (Int.ofNat a) = Int.ofNat a := fun a ha => by rw [hA.mul, Int.one_mul, r_wrap a (by omega)]
  have e6 : ∀ a : Nat, mul .u64 0 (Int.ofNat a) = 0 := fun a => by rw [hA.mul, Int.zero_mul]; rfl
  have e7 : shr .u64 (Int.ofNat y0) 32 = 0 := by rw [hA.shr, r_shr, Nat.div_eq_of_lt (by omega)]; rfl
  have e8 : add .u64 0 0 = 0 := by rw [hA.add]; rfl
  have e9 : band .u64 0 4294967295 = 0 := by rw [hA.and]; rfl
  have e10 : shr .u64 0 32 = 0 := by rw [hA.shr]; rfl
  have e11 : add .u64 0 (Int.ofNat y1) = Int.ofNat y1 := by rw [hA.add, Int.zero_add, r_wrap y1 (by omega)]
  have e12 : shr .u64 (Int.ofNat y1) 32 = 0 := by rw [hA.shr, r_shr, Nat.div_eq_of_lt (by omega)]; rfl
  have e13 := e5 y0 (by omega)
  have e14 := e5 y1 (by omega)
  have e15 := e5 n (by omega)
  clear hy0 hy1
  cbv
  refine hret _ (RetEv.ret eOk rfl ?_)
  rw [e1, e2, e3, e4, e13, e14, e6, e6, e7, e15, e8, e9, e10, e11, e12, e8, e8]
  rfl

theorem mul_spec (n : Nat) (hn : n < 9223372036854775808) : FnL Try.prog 32 [.p (.int .u64 1), .p (.int .u64 (Int.ofNat n))] [] fun v own => v = .p (.tup [.int .u64 0, .int .u64 (Int.ofNat n)]) ∧ own = [] := by
  refine FnL.flat (R := fun v own => v = .p (.tup [.int .u64 0, .int .u64 (Int.ofNat n)])) ?_ (by rintro _ _ rfl; exact ⟨_, _, rfl, .refl _, rfl, rfl⟩)
  refine fn_of_vc eOk fOk fo32 Try.func32 rfl rfl rfl fun B hB => ?_
  intro add sub mul quo rem band bor bxor bclr shl shr ieq ilt ile seq slt beq bnot orb bcond iwrap iof ssz hA cat sq sl imin imax smin smax len slen u8 hL op hop call hcall code hcode ret hret
  cbv
  refine hcall _ _ _ _ _ (CallEv.same (mul64_spec n hn) rfl ?_)
  rintro _ _ ⟨rfl, rfl⟩
  cbv
  exact hret _ (RetEv.ret eOk rfl rfl)

theorem rep_take (c n : Nat) (zs : List PV) (x : PV) (m : Nat) (hl : zs.length = n) (hc : c ≤ n) (hm : m = Nat.min c (n - c)) (h : zs.take c = List.replicate c x) (ws : List PV) (hws : ws = zs.take c ++ (((zs.drop 0).take c).take m ++ zs.drop (c + m))) :
    ws.length = n ∧ c + m ≤ n ∧ ws.take (c + m) = List.replicate (c + m) x := by
  have hmc : m ≤ c := by rw [hm]; exact Nat.min_le_left _ _
  have hmn : m ≤ n - c := by rw [hm]; exact Nat.min_le_right _ _
  rw [List.drop_zero, h, List.take_replicate, Nat.min_eq_left hmc] at hws
  refine ⟨by rw [hws]; simp; omega, by omega, ?_⟩
  rw [hws, ← List.append_assoc, List.replicate_append_replicate, List.take_append_of_le_length (by simp), List.take_of_length_le (by simp)]

theorem repeat_spec (n : Nat) (hn : n * 8 ≤ 281474976710656) (os : List PV) (hos : os = [.int .i64 1]) :
    FnL Try.prog 22 [.p (.sl os), .p (.int .i64 (Int.ofNat n))] [] fun v own => ∃ zs, zs = List.replicate n (PV.int .i64 1) ∧ v = .vw 0 1 0 n none ∧ own = [.arr 3 1 zs] := by
  refine fn_of_vc eOk fOk fo22 Try.func22 rfl rfl rfl fun B hB => ?_
  intro add sub mul quo rem band bor bxor bclr shl shr ieq ilt ile seq slt beq bnot orb bcond iwrap iof ssz hA cat sq sl imin imax smin smax len slen u8 hL op hop call hcall code hcode ret hret
  have hlen : len os = 1 := by rw [hL.len, hos]; rfl
  have hw1 : iwrap .u64 1 = 1 := by rw [hA.wrap]; rfl
  have hw2 : iwrap .u64 (Int.ofNat n) = Int.ofNat n := by rw [hA.wrap, r_wrap n (by omega)]
  have hw3 : iwrap .i64 (Int.ofNat n) = Int.ofNat n := by rw [hA.wrap, IntWalk.i64_in _ (by simp only [Int.ofNat_eq_natCast]; omega)]
  cbv
  refine vcIf.no (by first | (simp [hA.not, hA.eq, hA.lt, hA.le, hA.cond, hA.beq, hA.orb, hL.len, hL.slen, hL.sq]; done) | (simp [hA.not, hA.eq, hA.lt, hA.le, hA.cond, hA.beq, hA.orb, hL.len, hL.slen, hL.sq]; omega)) ?_
  cbv
  rw [hlen, hw1, hw2]
  refine hcall _ _ _ _ _ (CallEv.same (mul_spec n (by omega)) rfl ?_)
  rintro _ _ ⟨rfl, rfl⟩
  cbv
  rw [show ilt 0 0 = false by rw [hA.lt]; rfl]
  cbv
  rw [show ilt 9223372036854775807 (Int.ofNat n) = false by rw [hA.lt]; exact decide_eq_false (by simp only [Int.ofNat_eq_natCast]; omega)]
  refine vcIf.no (by first | (simp [hA.not, hA.eq, hA.lt, hA.le, hA.cond, hA.beq, hA.orb, hL.len, hL.slen, hL.sq]; done) | (simp [hA.not, hA.eq, hA.lt, hA.le, hA.cond, hA.beq, hA.orb, hL.len, hL.slen, hL.sq]; omega)) ?_
  cbv
  rw [hw3]
  refine ⟨n, n, rfl, rfl, PV.wf1 rfl, Nat.le_refl _, by show 8 * n ≤ _; omega, by unfold maxLen; omega, fun z0 hz0 => ?_⟩
  have hz0l : z0.length = n := by rw [hz0]; simp
  cbv
  refine hop _ _ _ _ (OpEv.copy eOk (ys := os) rfl rfl rfl rfl rfl rfl rfl rfl rfl rfl (by rw [hos]; intro x hx; simp at hx; rw [hx]; exact PV.wf1 rfl) fun c0 z1 hc0 hz1 => ?_)
  have hz1' : z1.length = n ∧ c0 ≤ n ∧ (0 < n → 0 < c0) ∧ z1.take c0 = List.replicate c0 (PV.int .i64 1) := by
    rw [hos] at hc0 hz1
    rcases Nat.eq_zero_or_pos n with h | h
    · subst h
      obtain rfl : c0 = 0 := by rw [hc0]; rfl
      simp at hz1
      rw [hz1]
      exact ⟨hz0l, Nat.le_refl _, fun h => absurd h (by decide), by simp⟩
    · obtain rfl : c0 = 1 := by rw [hc0]; exact Nat.min_eq_left h
      simp at hz1
      rw [hz1]
      refine ⟨by simp; omega, h, fun _ => by decide, by simp⟩
  clear hc0 hz1
  cbv
  refine hcode _ _ _ (CodeEv.loop eOk fOk (ι := Nat × List PV) (fun s => [(8, .p (.int .i64 (Int.ofNat s.1))), (7, .vw 0 1 0 n none)])
    (fun s => [.arr 3 1 s.2]) (fun s => s.2.length = n ∧ s.1 ≤ n ∧ (0 < n → 0 < s.1) ∧ s.2.take s.1 = List.replicate s.1 (PV.int .i64 1)) (fun s => n - s.1) (c0, z1) ?_ ?_)
  · exact ⟨(by repeat (first | exact trivial | refine And.intro rfl ?_)), rfl, hz1'⟩
  clear hz1'
  rintro ⟨c, zs⟩ ⟨k1, k2, k3, k4⟩ rd hrd
  simp only at k1 k2 k3 k4
  intro add1 sub1 mul1 quo1 rem1 band1 bor1 bxor1 bclr1 shl1 shr1 ieq1 ilt1 ile1 seq1 slt1 beq1 bnot1 orb1 bcond1 iwrap1 iof1 ssz1 hA1 cat1 sq1 sl1 imin1 imax1 smin1 smax1 len1 slen1 u81 hL1 op1 hop1 call1 hcall1 code1 hcode1
  cbv
  by_cases hc : c < n
  · obtain ⟨m, hm⟩ : ∃ m, m = Nat.min c (n - c) := ⟨_, rfl⟩
    have hmc : m ≤ c := by rw [hm]; exact Nat.min_le_left _ _
    have hmn : m ≤ n - c := by rw [hm]; exact Nat.min_le_right _ _
    have hm0 : 0 < m := by have := k3 (by omega); rw [hm]; exact Nat.lt_min.2 ⟨this, by omega⟩
    have hadd1 : add1 .i64 (Int.ofNat c) (Int.ofNat m) = Int.ofNat (c + m) := by rw [hA1.add, IntWalk.i64_in _ (by simp only [Int.ofNat_eq_natCast]; omega)]; rfl
    rw [show iof1 n = Int.ofNat n from hA1.ofNat n]
    refine vcIf.yes (by first | (simp [hA1.not, hA1.eq, hA1.lt, hA1.le, hA1.cond, hA1.beq, hA1.orb, hL1.len, hL1.slen, hL1.sq, hc]; done) | (simp only [hc]; simp [hA1.not, hA1.eq, hA1.lt, hA1.le, hA1.cond, hA1.beq, hA1.orb, hL1.len, hL1.slen, hL1.sq, hc]; done) | (simp [hA1.not, hA1.eq, hA1.lt, hA1.le, hA1.cond, hA1.beq, hA1.orb, hL1.len, hL1.slen, hL1.sq, hc]; omega) | (simp only [hc]; simp [hA1.not, hA1.eq, hA1.lt, hA1.le, hA1.cond, hA1.beq, hA1.orb, hL1.len, hL1.slen, hL1.sq, hc]; omega)) ?_
    cbv
    refine hcode1 _ _ _ (CodeEv.drawT eOk fOk (by kernel_rfl) (Xof 1 [0]) (.rd 0 (.rd 1 (.rd 2 (.rd 3 (.rd 4 (.rd 5 (.rd 6 (.acts (.cons 7 (.so 8 (.so 9 .done)) .nil))))))))) (by kernel_rfl) (by kernel_rfl) ?_)
    intro add2 sub2 mul2 quo2 rem2 band2 bor2 bxor2 bclr2 shl2 shr2 ieq2 ilt2 ile2 seq2 slt2 beq2 bnot2 orb2 bcond2 iwrap2 iof2 ssz2 hA2 cat2 sq2 sl2 imin2 imax2 smin2 smax2 len2 slen2 u82 hL2 op2 hop2 call2 hcall2 code2 hcode2 q2 hq2
    cbv
    refine ⟨c, n, rfl, rfl, k2, by omega, (fun _ h => by cases h), fun o1 n1 ho1 hn1 => ?_⟩
    cbv
    refine ⟨0, c, rfl, rfl, Nat.zero_le _, by omega, (fun _ h => by cases h), fun o2 n2 ho2 hn2 => ?_⟩
    obtain rfl : c = o1 := by omega
    obtain rfl : 0 = o2 := by omega
    obtain rfl : c = n2 := by omega
    cbv
    refine hop2 _ _ _ _ (OpEv.copy eOk rfl rfl rfl rfl rfl rfl rfl rfl rfl rfl ?_ fun m1 ws hm1 hws => ?_)
    · intro x hx
      have hx : x ∈ (zs.drop 0).take c := hx
      rw [List.drop_zero, k4] at hx
      rw [(List.mem_replicate.1 hx).2]; exact PV.wf1 rfl
    obtain ⟨g1, g2, g3⟩ := rep_take c n zs (.int .i64 1) m k1 k2 hm k4 ws (by
      have e : m1 = m := by
        rw [hm1, hm, hn1]
        show Nat.min ((zs.drop 0).take c).length (n - c) = _
        rw [List.drop_zero, List.length_take, k1, Nat.min_eq_left k2]
      rw [← e, hws, ho1, Nat.zero_add]; rfl)
    have e : m1 = m := by
      rw [hm1, hm, hn1]
      show Nat.min ((zs.drop 0).take c).length (n - c) = _
      rw [List.drop_zero, List.length_take, k1, Nat.min_eq_left k2]
    subst e
    obtain ⟨cm, hcm⟩ : ∃ x, x = c + m1 := ⟨_, rfl⟩
    rw [← hcm] at g2 g3
    cbv
    rw [show add2 .i64 (Int.ofNat c) (Int.ofNat m1) = Int.ofNat cm by rw [hA2.add, IntWalk.i64_in _ (by simp only [Int.ofNat_eq_natCast]; omega), hcm]; rfl]
    refine hq2 _ ?_
    cbv
    refine hrd _ ⟨(cm, ws), _, ?_, ⟨g1, g2, fun _ => by simp only; omega, g3⟩, rfl, ⟨rfl, rfl, trivial⟩, rfl, rfl, rfl, ?_⟩
    · simp only; omega
    · rw [hB]; exact Nat.zero_le _
  · rw [show iof1 n = Int.ofNat n from hA1.ofNat n]
    refine vcIf.no (by first | (simp [hA1.not, hA1.eq, hA1.lt, hA1.le, hA1.cond, hA1.beq, hA1.orb, hL1.len, hL1.slen, hL1.sq, hc]; done) | (simp only [hc]; simp [hA1.not, hA1.eq, hA1.lt, hA1.le, hA1.cond, hA1.beq, hA1.orb, hL1.len, hL1.slen, hL1.sq, hc]; done) | (simp [hA1.not, hA1.eq, hA1.lt, hA1.le, hA1.cond, hA1.beq, hA1.orb, hL1.len, hL1.slen, hL1.sq, hc]; omega) | (simp only [hc]; simp [hA1.not, hA1.eq, hA1.lt, hA1.le, hA1.cond, hA1.beq, hA1.orb, hL1.len, hL1.slen, hL1.sq, hc]; omega)) ?_
    cbv
    obtain rfl : c = n := by omega
    refine hret _ (RetEv.ret eOk rfl ⟨zs, ?_, rfl, rfl⟩)
    rw [← k4, List.take_of_length_le (by omega)]
end Go.Proofs.Ytocmeaamaecgeaa
