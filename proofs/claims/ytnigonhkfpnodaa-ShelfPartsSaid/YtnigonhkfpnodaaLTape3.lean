/- A tape's crash. Conditions: on sizes. -/
import Derived.Test.YtnigonhkfpnodaaLTape2
set_option maxRecDepth 100000
set_option maxHeartbeats 4000000
set_option linter.unusedSimpArgs false
set_option linter.unusedVariables false
namespace Go.Proofs.Ytnigonhkfpnodaa
open Go Go.Lx
open Go.Sx (vcIf)

/-- So many bytes last. -/
def lasts (t : Tp) (keep : Int) : Nat := t.sure + (if 0 < keep then min keep.toNat (t.all.length - t.sure) else 0)
def tpCrash (t : Tp) (keep : Int) (turn : UInt8) : Tp :=
  if lasts t keep < t.all.length ∧ turn ≠ 0 then { t with all := t.all.take (lasts t keep) ++ [t.all.getD (lasts t keep) 0 ^^^ turn], sure := lasts t keep + 1, after := -1, down := false }
  else { t with all := t.all.take (lasts t keep), sure := lasts t keep, after := -1, down := false }
theorem lasts_le (t : Tp) (keep : Int) (h : t.sure ≤ t.all.length) : lasts t keep ≤ t.all.length ∧ t.sure ≤ lasts t keep := by
  unfold lasts; split <;> omega
theorem xor_u8 (x y : UInt8) : bits .xor .u8 (x.toNat : Int) (y.toNat : Int) = ((x ^^^ y).toNat : Int) := by
  have h1 : BitVec.ofInt 8 (x.toNat : Int) = BitVec.ofNat 8 x.toNat := BitVec.ofInt_natCast 8 _
  have h2 : BitVec.ofInt 8 (y.toNat : Int) = BitVec.ofNat 8 y.toNat := BitVec.ofInt_natCast 8 _
  have hx := x.toNat_lt
  have hy := y.toNat_lt
  have h3 : x.toNat ^^^ y.toNat < 2 ^ 8 := Nat.xor_lt_two_pow (by simpa using hx) (by simpa using hy)
  show IntKind.u8.wrap (((BitVec.ofInt 8 (x.toNat : Int)) ^^^ (BitVec.ofInt 8 (y.toNat : Int))).toNat : Int) = _
  rw [h1, h2, BitVec.toNat_xor, BitVec.toNat_ofNat, BitVec.toNat_ofNat, Nat.mod_eq_of_lt (by omega), Nat.mod_eq_of_lt (by omega), UInt8.toNat_xor]
  have := wrap_u8 (x.toNat ^^^ y.toNat)
  rw [Int.ofNat_eq_natCast, Nat.mod_eq_of_lt (by omega)] at this
  exact this

theorem crash_spec {t : Tp} {n : Nat} {su ro af : Int} {d : Bool} {xs : List PV} (ht : IsTp t n su ro af d xs) (keep : Int) (hk : -9223372036854775808 ≤ keep) (hk2 : keep ≤ 9223372036854775807) (turn : UInt8) :
    FnL Try.prog 18 [.own 0 0, .p (.int .i64 keep), .p (.int .u8 (turn.toNat : Int))] [tpS n su ro af d, tpA xs] fun v own => ∃ (n' : Nat) (su' ro' af' : Int) (d' : Bool) (xs' : List PV), IsTp (tpCrash t keep turn) n' su' ro' af' d' xs' ∧ own = [tpS n' su' ro' af' d', tpA xs'] := by
  obtain ⟨k, hkl⟩ : ∃ k, k = lasts t keep := ⟨_, rfl⟩
  obtain ⟨tn, htn⟩ : ∃ tn : Int, tn = (turn.toNat : Int) := ⟨_, rfl⟩
  have htn0 : tn = 0 ↔ turn = 0 := by rw [htn]; exact ⟨fun h => UInt8.toNat_inj.1 (by simpa using h), fun h => by rw [h]; rfl⟩
  have htn1 : tn ≠ 0 ↔ turn ≠ 0 := not_congr htn0
  rw [← htn]
  refine fn_of_vc eOk fOk fo18 Try.func18 rfl rfl rfl fun B hB => ?_
  intro add sub mul quo rem band bor bxor bclr shl shr ieq ilt ile seq slt beq bnot orb bcond iwrap iof ssz hA cat sq sl imin imax smin smax len slen u8 hL op hop call hcall code hcode ret hret
  have hfinB : ¬ (k < n ∧ tn ≠ 0) → IsTp (tpCrash t keep turn) k (Int.ofNat k) ro (-1) false (xs.take k) := by
    intro hc
    obtain ⟨h1, h2, h3, h4, h5, h6, h7, h8, h9, h10, h11⟩ := ht
    have hle := lasts_le t keep h7
    have : tpCrash t keep turn = { t with all := t.all.take k, sure := k, after := -1, down := false } := by
      unfold tpCrash; rw [← hkl, if_neg (by rw [← htn1, ← h1]; exact hc)]
    rw [this]
    refine ⟨by simp; omega, rfl, h3, rfl, rfl, by simp only; rw [h6, bP_take], by simp; omega, by simp; omega, h9, by simp, by simp⟩
  have hfinA : k < n → tn ≠ 0 → ∀ x : UInt8, x = t.all.getD k 0 → ∀ ys, ys = xs.set k (.int .u8 (bxor .u8 (x.toNat : Int) tn)) → IsTp (tpCrash t keep turn) (k + 1) (add .i64 (Int.ofNat k) 1) ro (-1) false (ys.take (k + 1)) := by
    intro hc hc0 x hx ys hys
    obtain ⟨h1, h2, h3, h4, h5, h6, h7, h8, h9, h10, h11⟩ := ht
    have hle := lasts_le t keep h7
    have : tpCrash t keep turn = { t with all := t.all.take k ++ [x ^^^ turn], sure := k + 1, after := -1, down := false } := by
      unfold tpCrash; rw [← hkl, if_pos ⟨by omega, htn1.1 hc0⟩, hx]
    rw [this]
    refine ⟨by simp; omega, by rw [hA.add, IntWalk.i64_in _ (by simp only [Int.ofNat_eq_natCast]; omega)]; simp, h3, rfl, rfl, ?_, by simp; omega, by simp; omega, h9, by simp, by simp⟩
    simp only
    rw [hys, hA.xor, htn, xor_u8, h6, bP_append, ← bP_take]
    have hkl2 : k < (bP t.all).length := by rw [bP_length]; omega
    rw [List.take_add_one, List.getElem?_set_self hkl2, List.take_set_of_le (Nat.le_refl _)]
    rfl
  cbv
  refine hcode _ _ _ (CodeEv.drawA eOk fOk (by kernel_rfl) noX (by kernel_rfl) (by kernel_rfl) (by kernel_rfl) ?_)
  intro add2 sub2 mul2 quo2 rem2 band2 bor2 bxor2 bclr2 shl2 shr2 ieq2 ilt2 ile2 seq2 slt2 beq2 bnot2 orb2 bcond2 iwrap2 iof2 ssz2 hA2 cat2 sq2 sl2 imin2 imax2 smin2 smax2 len2 slen2 u82 hL2 op2 hop2 call2 hcall2 code2 hcode2 q2 hq2
  have hz : add2 .i64 su (imax2 0 (imin2 keep (sub2 .i64 (iof2 n) su))) = Int.ofNat k := by
    obtain ⟨h1, h2, h3, h4, h5, h6, h7, h8, h9, h10, h11⟩ := ht
    rw [hA2.add, hL2.imax, hL2.imin, hA2.sub, hA2.ofNat, h1, h2, IntWalk.i64_in ((t.all.length : Int) - (t.sure : Int)) (by omega), hkl]
    unfold lasts
    by_cases h0 : 0 < keep
    · rw [if_pos h0, IntWalk.i64_in _ (by (repeat' split) <;> omega)]
      simp only [Int.ofNat_eq_natCast]
      (repeat' split) <;> omega
    · rw [if_neg h0, IntWalk.i64_in _ (by (repeat' split) <;> omega)]
      simp only [Int.ofNat_eq_natCast]
      (repeat' split) <;> omega
  cbv
  refine hq2 _ ?_
  rw [hz]
  cbv
  have hkn : k ≤ n ∧ n = xs.length ∧ n ≤ 1048576 := by
    obtain ⟨h1, h2, h3, h4, h5, h6, h7, h8, h9, h10, h11⟩ := ht
    have := lasts_le t keep h7
    have hxl : xs.length = t.all.length := by rw [h6, bP_length]
    omega
  obtain ⟨hkn, hxl, hn20⟩ := hkn
  by_cases hlt : k < n
  · by_cases h0 : tn = 0
    · have hI := hfinB fun c => c.2 h0
      refine vcIf.yes (by rw [hA.lt, hA.ofNat]; exact dlt hlt) ?_
      cbv
      refine vcIf.no (by rw [hA.cond, hA.not, hA.eq, h0]; rfl) ?_
      cbv
      refine ⟨0, k, k, rfl, rfl, rfl, Nat.zero_le _, Nat.le_refl _, by omega, fun c hc => by (cases hc), fun o' n' c' ho hn' hc' => ?_⟩
      obtain rfl : o' = 0 := ho
      obtain rfl : n' = k := hn'
      obtain rfl : c' = n' := hc'.trans (Nat.zero_add _)
      cbv
      exact hret _ (RetEv.convW (ConvW.trimC 0 0 1 rfl rfl rfl rfl (by decide)) (RetEv.ret eOk rfl ⟨_, _, _, _, _, _, hI, rfl⟩))
    · obtain ⟨x, hx⟩ : ∃ x : UInt8, xs[k]? = some (.int .u8 (x.toNat : Int)) ∧ x = t.all.getD k 0 := by
        obtain ⟨h1, h2, h3, h4, h5, h6, h7, h8, h9, h10, h11⟩ := ht
        have hlt' : k < t.all.length := by omega
        refine ⟨t.all[k]'hlt', ?_, ?_⟩
        · rw [h6]; exact bP_get (List.getElem?_eq_getElem _)
        · rw [List.getD_eq_getElem?_getD, List.getElem?_eq_getElem (show k < t.all.length by omega)]; rfl
      obtain ⟨hx, hxv⟩ := hx
      have h1q : add .i64 (Int.ofNat k) 1 = ((k + 1 : Nat) : Int) := by rw [hA.add, IntWalk.i64_in _ (by simp only [Int.ofNat_eq_natCast]; omega)]; rfl
      refine vcIf.yes (by rw [hA.lt, hA.ofNat]; exact dlt hlt) ?_
      cbv
      refine vcIf.yes (by rw [hA.cond, hA.not, hA.eq]; simpa using h0) ?_
      cbv
      refine ⟨k, rfl, hlt, fun q hq => ?_⟩
      obtain rfl : k = q := (hq.trans (Nat.zero_add _)).symm
      cbv
      refine ⟨_, hx, ?_⟩
      cbv
      refine ⟨k, rfl, hlt, fun q' hq => ?_⟩
      obtain rfl : k = q' := (hq.trans (Nat.zero_add _)).symm
      cbv
      refine ⟨_, hx, PV.wf1 rfl, ?_⟩
      intro ys hys
      cbv
      refine ⟨0, k + 1, k + 1, rfl, h1q, h1q, Nat.zero_le _, Nat.le_refl _, by rw [hys, List.length_set]; omega, fun c hc => by (cases hc), fun o' n' c' ho hn' hc' => ?_⟩
      obtain rfl : o' = 0 := ho
      obtain rfl : n' = k + 1 := hn'
      obtain rfl : c' = k + 1 := hc'.trans (Nat.zero_add _)
      have hI := hfinA hlt h0 x hxv ys hys
      cbv
      exact hret _ (RetEv.convW (ConvW.trimC 0 0 1 rfl rfl rfl rfl (by decide)) (RetEv.ret eOk rfl ⟨_, _, _, _, _, _, hI, rfl⟩))
  · have hI := hfinB fun c => hlt c.1
    refine vcIf.no (by rw [hA.lt, hA.ofNat]; exact dlt' hlt) ?_
    cbv
    refine ⟨0, k, k, rfl, rfl, rfl, Nat.zero_le _, Nat.le_refl _, by omega, fun c hc => by (cases hc), fun o' n' c' ho hn' hc' => ?_⟩
    obtain rfl : o' = 0 := ho
    obtain rfl : n' = k := hn'
    obtain rfl : c' = n' := hc'.trans (Nat.zero_add _)
    cbv
    exact hret _ (RetEv.convW (ConvW.trimC 0 0 1 rfl rfl rfl rfl (by decide)) (RetEv.ret eOk rfl ⟨_, _, _, _, _, _, hI, rfl⟩))
end Go.Proofs.Ytnigonhkfpnodaa
