/- What package code's functions do: PutNum, Num, PutText; the simplest facts. Conditions: on sizes. -/
import Derived.Test.YtnigonhkfpnodaaLCode1
import Derived.Test.YtnigonhkfpnodaaLBc
set_option maxRecDepth 100000
set_option maxHeartbeats 4000000
set_option linter.unusedSimpArgs false
set_option linter.unusedVariables false
namespace Go.Proofs.Ytnigonhkfpnodaa
open Go Go.Lx
open Go.Sx (vcIf)

def putNumR (l : List UInt8) (x : Int) (z : V) (own : List Res) : Prop :=
  if x < 0 then z = .p (.tup [.nils, .int .i64 5]) ∧ own = [] else z = .p (.tup [.sl (bP (l ++ enc x.toNat)), .int .i64 0]) ∧ own = [.dead]

/-- Three numbers. -/
def numR (r : Nat × Nat × Nat) (z : V) (own : List Res) : Prop := ∃ x u e : Nat, (x, u, e) = r ∧ z = .p (.tup [.int .i64 x, .int .i64 u, .int .i64 e]) ∧ own = []

theorem num_spec (l : List UInt8) : FnL Try.prog 107 [.p (.sl (bP l))] [] (numR (dec 0 0 l)) := by
  obtain ⟨xs, hxs⟩ : ∃ xs, xs = bP l := ⟨_, rfl⟩
  have hxl : xs.length = l.length := by rw [hxs, bP_length]
  rw [← hxs]
  refine fn_of_vc eOk fOk fo107 Try.func107 rfl rfl rfl fun B hB => ?_
  intro add sub mul quo rem band bor bxor bclr shl shr ieq ilt ile seq slt beq bnot orb bcond iwrap iof ssz hA cat sq sl imin imax smin smax len slen u8 hL op hop call hcall code hcode ret hret
  cbv
  refine hcode _ _ _ (CodeEv.loop eOk fOk (ι := Nat × Nat) (fun i => [(0, .p (.sl xs)), (2, .p (.int .i64 (Int.ofNat i.2))), (7, .p (.sl xs)), (8, .p (.int .i64 (len xs))), (9, .p (.int .i64 (Int.ofNat i.1)))])
    (fun i => []) (fun i => i.1 ≤ l.length ∧ i.1 ≤ 9 ∧ i.2 < 128 ^ i.1 ∧ dec 0 0 l = dec i.1 i.2 (l.drop i.1)) (fun i => l.length - i.1) (0, 0) ?_ ?_)
  · exact ⟨⟨rfl, rfl, rfl, rfl, rfl, trivial⟩, rfl, Nat.zero_le _, by simp, by simp, rfl⟩
  rintro ⟨k, acc⟩ ⟨h1, h2, h3, h4⟩ rd hrd
  simp only at h1 h2 h3 h4
  intro add1 sub1 mul1 quo1 rem1 band1 bor1 bxor1 bclr1 shl1 shr1 ieq1 ilt1 ile1 seq1 slt1 beq1 bnot1 orb1 bcond1 iwrap1 iof1 ssz1 hA1 cat1 sq1 sl1 imin1 imax1 smin1 smax1 len1 slen1 u81 hL1 op1 hop1 call1 hcall1 code1 hcode1
  cbv
  have hlen : len xs = (l.length : Int) := by rw [hL.len, hxl]
  by_cases hk : k < l.length
  · refine vcIf.yes (by rw [hA1.lt, hlen]; exact decide_eq_true (Int.ofNat_lt.2 hk)) ?_
    obtain ⟨x, hx⟩ : ∃ x : Nat, (l[k]'(by omega)).toNat = x := ⟨_, rfl⟩
    have hxb : x < 256 := by rw [← hx]; exact UInt8.toNat_lt _
    have hget : xs[k]? = some (.int .u8 (Int.ofNat x)) := by
      rw [← hx, hxs]; exact bP_get (List.getElem?_eq_getElem hk)
    have hdrop : l.drop k = l[k]'(by omega) :: l.drop (k + 1) := List.drop_eq_getElem_cons (by omega)
    rw [hdrop, dec_cons, hx] at h4
    cbv
    refine ⟨k, _, rfl, hget, rfl, ?_⟩
    cbv
    by_cases h9 : k = 9
    · rw [if_pos h9] at h4
      refine vcIf.yes (by rw [hA1.eq, h9]; rfl) ?_
      cbv
      exact hret _ (RetEv.ret eOk rfl ⟨0, 0, 2, h4.symm, rfl, rfl⟩)
    · rw [if_neg h9] at h4
      refine vcIf.no (by rw [hA1.eq]; simp only [Int.ofNat_eq_natCast, beq_eq_false_iff_ne]; omega) ?_
      cbv
      have e1 : mul1 .i64 7 (Int.ofNat k) = ((7 * k : Nat) : Int) := by
        rw [hA1.mul]; exact i64_nat (by simp) (by omega)
      by_cases hx8 : 128 ≤ x
      · rw [if_pos hx8] at h4
        refine vcIf.yes (by rw [hA1.le]; simp only [Int.ofNat_eq_natCast, decide_eq_true_eq]; omega) ?_
        have e2 : iwrap1 .i64 (band1 .u8 (Int.ofNat x) 127) = ((x % 128 : Nat) : Int) := by
          rw [hA1.and, hA1.wrap]; exact i64_nat (and127 x hxb) (by omega)
        obtain ⟨m, hm⟩ : ∃ m, m = 7 * k := ⟨_, rfl⟩
        have e4 : shl1 .i64 (iwrap1 .i64 (band1 .u8 (Int.ofNat x) 127)) m = ((x % 128 * 128 ^ k : Nat) : Int) := by
          rw [hA1.shl, e2, hm]; exact shl_val (by omega) (by omega)
        cbv
        refine ⟨m, by rw [e1, hm], ?_⟩
        cbv
        refine hrd _ ⟨(k + 1, acc + (x - 128) * 128 ^ k), [], ?_, ⟨?_, ?_, ?_, ?_⟩, rfl, ⟨rfl, ?_, rfl, rfl, ?_, trivial⟩, rfl, rfl, rfl, ?_⟩
        · simp only; omega
        · simp only; omega
        · simp only; omega
        · exact dec_step acc (by omega) h3 (by omega)
        · exact h4
        · show some (V.p (.int .i64 (bor1 .i64 (Int.ofNat acc) (shl1 .i64 (iwrap1 .i64 (band1 .u8 (Int.ofNat x) 127)) m)))) = _
          rw [e4, hA1.or]
          simp only [Int.ofNat_eq_natCast]
          rw [or_val (by omega) h3 (by omega), show x % 128 = x - 128 by omega]
        · show some (V.p (.int .i64 (add1 .i64 (Int.ofNat k) 1))) = some (V.p (.int .i64 (Int.ofNat (k + 1))))
          rw [hA1.add, IntWalk.i64_in _ (by simp only [Int.ofNat_eq_natCast]; omega)]; rfl
        · rw [hB]; exact Nat.le_refl _
      · rw [if_neg hx8] at h4
        refine vcIf.no (by rw [hA1.le]; simp only [Int.ofNat_eq_natCast, decide_eq_false_iff_not]; omega) ?_
        obtain ⟨m, hm⟩ : ∃ m, m = 7 * k := ⟨_, rfl⟩
        have e2 : iwrap1 .i64 (Int.ofNat x) = ((x : Nat) : Int) := by
          rw [hA1.wrap]; exact i64_nat rfl (by omega)
        have e4 : bor1 .i64 (Int.ofNat acc) (shl1 .i64 (iwrap1 .i64 (Int.ofNat x)) m) = ((acc + x * 128 ^ k : Nat) : Int) := by
          rw [hA1.shl, e2, hm, show IntKind.i64.wrap (((x : Nat) : Int) * 2 ^ (min (7 * k) IntKind.i64.bits)) = _ from shl_val (by omega) (by omega), hA1.or]
          exact or_val (by omega) h3 (by omega)
        have e5 : add1 .i64 (Int.ofNat k) 1 = ((k + 1 : Nat) : Int) := by
          rw [hA1.add]; exact i64_nat (by simp) (by omega)
        have fin : (acc + x * 128 ^ k, k + 1, 0) = dec 0 0 l → numR (dec 0 0 l) (.p (.tup [.int .i64 (bor1 .i64 (Int.ofNat acc) (shl1 .i64 (iwrap1 .i64 (Int.ofNat x)) m)), .int .i64 (add1 .i64 (Int.ofNat k) 1), .int .i64 0])) [] :=
          fun h => ⟨_, _, 0, h, by rw [e4, e5]; rfl, rfl⟩
        cbv
        by_cases hx0 : x = 0
        · refine vcIf.yes (by rw [hA1.eq, hx0]; rfl) ?_
          cbv
          by_cases hk0 : 0 < k
          · rw [if_pos ⟨hx0, hk0⟩] at h4
            refine vcIf.yes (by rw [hA1.cond, hA1.lt]; simp only [Int.ofNat_eq_natCast, decide_eq_true_eq, cond_true]; omega) ?_
            cbv
            exact hret _ (RetEv.ret eOk rfl ⟨0, 0, 2, h4.symm, rfl, rfl⟩)
          · rw [if_neg (by omega)] at h4
            refine vcIf.no (by rw [hA1.cond, hA1.lt]; simp only [Int.ofNat_eq_natCast, decide_eq_false_iff_not, cond_true]; omega) ?_
            cbv
            refine ⟨m, by rw [e1, hm], ?_⟩
            cbv
            exact hret _ (RetEv.ret eOk rfl (fin h4.symm))
        · rw [if_neg (by omega)] at h4
          refine vcIf.no (by rw [hA1.eq]; simp only [Int.ofNat_eq_natCast, beq_eq_false_iff_ne]; omega) ?_
          cbv
          refine ⟨m, by rw [e1, hm], ?_⟩
          cbv
          exact hret _ (RetEv.ret eOk rfl (fin h4.symm))
  · refine vcIf.no (by rw [hA1.lt, hlen]; exact decide_eq_false (by simp only [Int.ofNat_eq_natCast]; omega)) ?_
    have hke : k = l.length := by omega
    rw [hke, List.drop_length, dec_nil] at h4
    cbv
    by_cases h9 : 9 ≤ l.length
    · refine vcIf.yes (by rw [hA.le, hlen]; exact decide_eq_true (Int.ofNat_le.2 h9)) ?_
      cbv
      exact hret _ (RetEv.ret eOk rfl ⟨0, 0, 2, by rw [h4, if_pos h9], rfl, rfl⟩)
    · refine vcIf.no (by rw [hA.le, hlen]; exact decide_eq_false fun h => h9 (Int.ofNat_le.1 h)) ?_
      cbv
      exact hret _ (RetEv.ret eOk rfl ⟨0, 0, 3, by rw [h4, if_neg h9], rfl, rfl⟩)
end Go.Proofs.Ytnigonhkfpnodaa
