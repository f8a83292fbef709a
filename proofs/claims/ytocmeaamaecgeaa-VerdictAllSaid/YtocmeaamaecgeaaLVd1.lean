/- What a transaction weighs, and whether it may be. Conditions: on sizes. -/
import Derived.Test.YtocmeaamaecgeaaLFv2
set_option maxRecDepth 100000
set_option maxHeartbeats 4000000
set_option linter.unusedSimpArgs false
set_option linter.unusedVariables false
namespace Go.Proofs.Ytocmeaamaecgeaa
open Go Go.Lx
open Go.Sx (vcIf)

def wC : List Chg → Nat
  | [] => 0
  | c :: l => (c.key.length + c.val.length + 8) + wC l
def wS : List Spn → Nat
  | [] => 0
  | c :: l => (c.lo.length + c.hi.length + 8) + wS l
theorem wC_app : ∀ a b, wC (a ++ b) = wC a + wC b
  | [], b => by simp [wC]
  | c :: a, b => by simp only [List.cons_append, wC]; rw [wC_app a b]; omega
theorem wS_app : ∀ a b, wS (a ++ b) = wS a + wS b
  | [], b => by simp [wS]
  | c :: a, b => by simp only [List.cons_append, wS]; rw [wS_app a b]; omega
def Spn.long (c : Spn) : Bool := decide (17 < c.lo.length ∨ 17 < c.hi.length)
def Spn.rev (c : Spn) : Bool := Op.bytesLess c.hi c.lo
def Tx.chk (t : Tx) : Nat := if t.r < 0 then 1 else if 24 < t.sp.length ∨ 24 < t.ch.length ∨ t.sp.any Spn.long = true ∨ 512 < wC t.ch + wS t.sp then 6 else if t.sp.any Spn.rev = true then 5 else chks t.ch

theorem weight_spec (l : List Chg) (hf : ∀ c ∈ l, c.fit) (hl : l.length ≤ 24) (zs : List PV) (hzs : zs = cP l) :
    FnL Try.prog 24 [.p (.sl zs)] [] fun v own => ∃ n : Nat, n = wC l ∧ v = .p (.int .i64 (Int.ofNat n)) ∧ own = [] := by
  refine FnL.flat (R := fun v own => ∃ n : Nat, n = wC l ∧ v = .p (.int .i64 (Int.ofNat n))) ?_ (by rintro _ _ ⟨b, h, rfl⟩; exact ⟨_, _, rfl, .refl _, b, h, rfl, rfl⟩)
  have hzl : zs.length = l.length := by rw [hzs, cP_length]
  obtain ⟨N, hN⟩ : ∃ N, N = l.length := ⟨_, rfl⟩
  rw [← hN] at hzl hl
  refine fn_of_vc eOk fOk fo24 Try.func24 rfl rfl rfl fun B hB => ?_
  intro add sub mul quo rem band bor bxor bclr shl shr ieq ilt ile seq slt beq bnot orb bcond iwrap iof ssz hA cat sq sl imin imax smin smax len slen u8 hL op hop call hcall code hcode ret hret
  have hlen : len zs = Int.ofNat N := by rw [hL.len, hzl]; rfl
  cbv
  rw [hlen]
  refine hcode _ _ _ (CodeEv.loop eOk fOk (ι := Nat × Nat) (fun s => [(3, .p (.int .i64 (Int.ofNat s.2))), (7, .p (.sl zs)), (8, .p (.int .i64 (Int.ofNat N))), (9, .p (.int .i64 (Int.ofNat s.1)))])
    (fun s => []) (fun s => s.1 ≤ N ∧ s.2 = wC (l.take s.1) ∧ s.2 ≤ 281474976710720 * s.1) (fun s => N - s.1) (0, 0) ?_ ?_)
  · exact ⟨(by repeat (first | exact trivial | refine And.intro rfl ?_)), rfl, Nat.zero_le _, rfl, Nat.le_refl _⟩
  rintro ⟨i, a⟩ ⟨k1, k2, k3⟩ rd hrd
  simp only at k1 k2 k3
  intro add1 sub1 mul1 quo1 rem1 band1 bor1 bxor1 bclr1 shl1 shr1 ieq1 ilt1 ile1 seq1 slt1 beq1 bnot1 orb1 bcond1 iwrap1 iof1 ssz1 hA1 cat1 sq1 sl1 imin1 imax1 smin1 smax1 len1 slen1 u81 hL1 op1 hop1 call1 hcall1 code1 hcode1
  have hadd1 : i < N → add1 .i64 (Int.ofNat i) 1 = Int.ofNat (i + 1) := fun _ => by rw [hA1.add, IntWalk.i64_in _ (by simp only [Int.ofNat_eq_natCast]; omega)]; rfl
  cbv
  by_cases hi : i < N
  · obtain ⟨c, hc⟩ := get_of_lt (show i < l.length by omega)
    have hzz : zs[i]? = some (.agg [.int .i64 c.kind, .str c.key, .str c.val]) := by rw [hzs]; exact cP_get hc
    have htk : wC (l.take (i + 1)) = a + (c.key.length + c.val.length + 8) := by rw [List.take_add_one, hc, wC_app, ← k2]; rfl
    have hcf := hf c (List.mem_of_getElem? hc)
    obtain ⟨kn, hkn⟩ : ∃ n, n = c.key.length := ⟨_, rfl⟩
    obtain ⟨vn, hvn⟩ : ∃ n, n = c.val.length := ⟨_, rfl⟩
    have hkb : kn < 140737488355328 := by rw [hkn]; exact hcf.1
    have hvb : vn < 140737488355328 := by rw [hvn]; exact hcf.2.1
    have hk : slen1 c.key = Int.ofNat kn := by rw [hL1.slen, hkn]; rfl
    have hv : slen1 c.val = Int.ofNat vn := by rw [hL1.slen, hvn]; rfl
    rw [← hkn, ← hvn] at htk
    obtain ⟨m, hm⟩ : ∃ m, m = kn + vn + 8 := ⟨_, rfl⟩
    have e1 : add1 .i64 (Int.ofNat kn) (Int.ofNat vn) = Int.ofNat (kn + vn) := by rw [hA1.add, IntWalk.i64_in _ (by simp only [Int.ofNat_eq_natCast]; omega)]; rfl
    have e2 : add1 .i64 (Int.ofNat (kn + vn)) 8 = Int.ofNat m := by rw [hA1.add, IntWalk.i64_in _ (by simp only [Int.ofNat_eq_natCast]; omega), hm]; rfl
    have e3 : sub1 .i64 9223372036854775807 (Int.ofNat m) = 9223372036854775807 - Int.ofNat m := by rw [hA1.sub, IntWalk.i64_in _ (by simp only [Int.ofNat_eq_natCast]; omega)]
    have e4 : add1 .i64 (Int.ofNat a) (Int.ofNat m) = Int.ofNat (a + m) := by rw [hA1.add, IntWalk.i64_in _ (by simp only [Int.ofNat_eq_natCast]; omega)]; rfl
    have e5 : ¬ (9223372036854775807 - Int.ofNat m < Int.ofNat a) := by simp only [Int.ofNat_eq_natCast]; omega
    obtain ⟨k, ky, vl⟩ := c
    simp only at hzz hk hv
    refine vcIf.yes (by first | (simp [hA1.not, hA1.eq, hA1.lt, hA1.le, hA1.cond, hA1.beq, hA1.orb, hL1.len, hL1.slen, hL1.sq, hi]; done) | (simp only [hi]; simp [hA1.not, hA1.eq, hA1.lt, hA1.le, hA1.cond, hA1.beq, hA1.orb, hL1.len, hL1.slen, hL1.sq, hi]; done) | (simp [hA1.not, hA1.eq, hA1.lt, hA1.le, hA1.cond, hA1.beq, hA1.orb, hL1.len, hL1.slen, hL1.sq, hi]; omega) | (simp only [hi]; simp [hA1.not, hA1.eq, hA1.lt, hA1.le, hA1.cond, hA1.beq, hA1.orb, hL1.len, hL1.slen, hL1.sq, hi]; omega)) ?_
    cbv
    refine ⟨i, _, rfl, hzz, rfl, ?_⟩
    cbv
    rw [hk, hv, e1, e2, e3]
    refine vcIf.no (by rw [hA1.lt]; exact decide_eq_false e5) ?_
    cbv
    rw [e4]
    refine hrd _ ⟨(i + 1, a + m), _, ?_, ⟨hi, ?_, ?_⟩, rfl, ⟨rfl, rfl, rfl, ?_, trivial⟩, rfl, rfl, rfl, ?_⟩
    · simp only; omega
    · simp only; rw [htk, hm]
    · simp only; omega
    · show some (V.p (.int .i64 _)) = _
      rw [hadd1 hi]
    · rw [hB]; exact Nat.zero_le _
  · refine vcIf.no (by first | (simp [hA1.not, hA1.eq, hA1.lt, hA1.le, hA1.cond, hA1.beq, hA1.orb, hL1.len, hL1.slen, hL1.sq, hi]; done) | (simp only [hi]; simp [hA1.not, hA1.eq, hA1.lt, hA1.le, hA1.cond, hA1.beq, hA1.orb, hL1.len, hL1.slen, hL1.sq, hi]; done) | (simp [hA1.not, hA1.eq, hA1.lt, hA1.le, hA1.cond, hA1.beq, hA1.orb, hL1.len, hL1.slen, hL1.sq, hi]; omega) | (simp only [hi]; simp [hA1.not, hA1.eq, hA1.lt, hA1.le, hA1.cond, hA1.beq, hA1.orb, hL1.len, hL1.slen, hL1.sq, hi]; omega)) ?_
    cbv
    rw [List.take_of_length_le (by omega)] at k2
    exact hret _ (RetEv.ret eOk rfl ⟨a, k2, rfl⟩)
theorem vRev_spec (c : Spn) : FnL Try.prog 26 [.p (.agg [.str c.lo, .str c.hi])] [] fun v own => ∃ b, b = c.rev ∧ v = .p (.bool b) ∧ own = [] := by
  refine FnL.flat (R := fun v own => ∃ b, b = c.rev ∧ v = .p (.bool b)) ?_ (by rintro _ _ ⟨b, h, rfl⟩; exact ⟨_, _, rfl, .refl _, b, h, rfl, rfl⟩)
  obtain ⟨lo, hi⟩ := c
  refine fn_of_vc eOk fOk fo26 Try.func26 rfl rfl rfl fun B hB => ?_
  intro add sub mul quo rem band bor bxor bclr shl shr ieq ilt ile seq slt beq bnot orb bcond iwrap iof ssz hA cat sq sl imin imax smin smax len slen u8 hL op hop call hcall code hcode ret hret
  cbv
  refine hret _ (RetEv.ret eOk rfl ⟨_, rfl, ?_⟩)
  show V.p (.bool (bnot (orb (sl lo hi) (sq lo hi)))) = _
  rw [hA.not, hA.orb, hL.sl, hL.sq]
  exact congrArg (fun x => V.p (.bool x)) (bl_gt lo hi)
end Go.Proofs.Ytocmeaamaecgeaa
