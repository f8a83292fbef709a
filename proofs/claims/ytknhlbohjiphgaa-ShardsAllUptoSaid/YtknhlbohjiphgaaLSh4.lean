/- The span of a piece: the program's answer and the document's; the simplest facts. Conditions: on sizes. -/
import Derived.Test.YtknhlbohjiphgaaLSh3
import Derived.Test.YtknhlbohjiphgaaLRep
set_option maxRecDepth 100000
set_option maxHeartbeats 8000000
set_option linter.unusedSimpArgs false
set_option linter.unusedVariables false
namespace Go.Proofs.Ytknhlbohjiphgaa
open Go Go.Lx
open Go.Sx (vcIf)

theorem rwhich_spec (bs : BL) (hn : bs.length < 281474976710656) (key : List UInt8) (zs : List PV) (hzs : zs = sP bs) :
    FnL Try.prog 13 [.p (.sl zs), .p (.str key)] [] fun v own => ∃ n : Nat, n = wh bs key ∧ v = .p (.int .i64 (Int.ofNat n)) ∧ own = [] := by
  refine FnL.flat (R := fun v own => ∃ n : Nat, n = wh bs key ∧ v = .p (.int .i64 (Int.ofNat n))) ?_ (by rintro _ _ ⟨n, h, rfl⟩; exact ⟨_, _, rfl, .refl _, n, h, rfl, rfl⟩)
  obtain ⟨N, hN⟩ : ∃ n, n = bs.length := ⟨_, rfl⟩
  have hzl : zs.length = N := by rw [hzs, sP_length, hN]
  have hwe := fun n h1 h2 h3 => wh_eq n bs key h1 h2 h3
  rw [← hN] at hwe
  refine fn_of_vc eOk fOk fo13 Try.func13 rfl rfl rfl fun B hB => ?_
  intro add sub mul quo rem band bor bxor bclr shl shr ieq ilt ile seq slt beq bnot orb bcond iwrap iof ssz hA cat sq sl imin imax smin smax len slen u8 hL op hop call hcall code hcode ret hret
  cbv
  refine hcode _ _ _ (CodeEv.loop eOk fOk (ι := Nat) (fun s => [(0, .p (.sl zs)), (1, .p (.str key)), (5, .p (.int .i64 (Int.ofNat s)))])
    (fun s => []) (fun s => s ≤ N ∧ ∀ q b, q < s → bs[q]? = some b → Op.bytesLess key b = false) (fun s => N - s) 0 ?_ ?_)
  · exact ⟨(by repeat (first | exact trivial | refine And.intro rfl ?_)), rfl, Nat.zero_le _, fun q b h => absurd h (Nat.not_lt_zero q)⟩
  rintro i ⟨k1, k2⟩ rd hrd
  by_cases hi : i < N
  · refine Exists.elim (get_of_lt (show i < bs.length by omega)) fun b hb => ?_
    have hzi : zs[i]? = some (.str b) := by rw [hzs]; exact sP_get hb
    intro add1 sub1 mul1 quo1 rem1 band1 bor1 bxor1 bclr1 shl1 shr1 ieq1 ilt1 ile1 seq1 slt1 beq1 bnot1 orb1 bcond1 iwrap1 iof1 ssz1 hA1 cat1 sq1 sl1 imin1 imax1 smin1 smax1 len1 slen1 u81 hL1 op1 hop1 call1 hcall1 code1 hcode1
    have e0 : len1 zs = Int.ofNat N := by rw [hL1.len, hzl]; rfl
    have hle : orb1 (sl1 b key) (sq1 b key) = !(Op.bytesLess key b) := by rw [hA1.orb, hL1.sl, hL1.sq]; rw [← show (!(Op.bytesLess b key || decide (b = key))) = Op.bytesLess key b from bl_gt b key]; simp
    have hadd1 : add1 .i64 (Int.ofNat i) 1 = Int.ofNat (i + 1) := by rw [hA1.add, IntWalk.i64_in _ (by simp only [Int.ofNat_eq_natCast]; omega)]; rfl
    cbv
    refine vcIf.yes (by first | (simp [hA1.not, hA1.eq, hA1.lt, hA1.le, hA1.cond, hA1.beq, hA1.orb, hL1.len, hL1.slen, hL1.sq, e0, hi]; done) | (simp only [e0, hi]; simp [hA1.not, hA1.eq, hA1.lt, hA1.le, hA1.cond, hA1.beq, hA1.orb, hL1.len, hL1.slen, hL1.sq, e0, hi]; done) | (simp [hA1.not, hA1.eq, hA1.lt, hA1.le, hA1.cond, hA1.beq, hA1.orb, hL1.len, hL1.slen, hL1.sq, e0, hi]; omega) | (simp only [e0, hi]; simp [hA1.not, hA1.eq, hA1.lt, hA1.le, hA1.cond, hA1.beq, hA1.orb, hL1.len, hL1.slen, hL1.sq, e0, hi]; omega)) ?_
    cbv
    refine ⟨i, _, rfl, hzi, rfl, ?_⟩
    cbv
    by_cases hkb : Op.bytesLess key b = true
    · refine vcIf.no (by rw [hle, hkb]; simp [hA1.cond, cond]) ?_
      cbv
      refine hret _ (RetEv.ret eOk rfl ⟨i, ?_, rfl⟩)
      exact (hwe i k1 (fun q c hq hc => k2 q c hq hc) (fun c hc => by rw [hb] at hc; cases hc; exact hkb)).symm
    · have hkb := Bool.eq_false_iff.2 hkb
      refine vcIf.yes (by rw [hle, hkb]; simp [hA1.cond, cond]) ?_
      cbv
      refine hrd _ ⟨i + 1, [], ?_, ⟨hi, ?_⟩, rfl, ⟨rfl, rfl, ?_, trivial⟩, rfl, rfl, rfl, ?_⟩
      · show N - (i + 1) < N - i
        omega
      · intro q c hq hc
        rcases Nat.lt_succ_iff_lt_or_eq.1 hq with e | e
        · exact k2 q c e hc
        · rw [e, hb] at hc; cases hc; exact hkb
      · show some (V.p (.int .i64 _)) = _
        rw [hadd1]
      · rw [hB]; exact Nat.le_refl _
  · intro add1 sub1 mul1 quo1 rem1 band1 bor1 bxor1 bclr1 shl1 shr1 ieq1 ilt1 ile1 seq1 slt1 beq1 bnot1 orb1 bcond1 iwrap1 iof1 ssz1 hA1 cat1 sq1 sl1 imin1 imax1 smin1 smax1 len1 slen1 u81 hL1 op1 hop1 call1 hcall1 code1 hcode1
    have e0 : len1 zs = Int.ofNat N := by rw [hL1.len, hzl]; rfl
    cbv
    refine vcIf.no (by first | (simp [hA1.not, hA1.eq, hA1.lt, hA1.le, hA1.cond, hA1.beq, hA1.orb, hL1.len, hL1.slen, hL1.sq, e0, hi]; done) | (simp only [e0, hi]; simp [hA1.not, hA1.eq, hA1.lt, hA1.le, hA1.cond, hA1.beq, hA1.orb, hL1.len, hL1.slen, hL1.sq, e0, hi]; done) | (simp [hA1.not, hA1.eq, hA1.lt, hA1.le, hA1.cond, hA1.beq, hA1.orb, hL1.len, hL1.slen, hL1.sq, e0, hi]; omega) | (simp only [e0, hi]; simp [hA1.not, hA1.eq, hA1.lt, hA1.le, hA1.cond, hA1.beq, hA1.orb, hL1.len, hL1.slen, hL1.sq, e0, hi]; omega)) ?_
    cbv
    refine hret _ (RetEv.ret eOk rfl ⟨i, ?_, rfl⟩)
    exact (hwe i k1 (fun q c hq hc => k2 q c hq hc) (fun c hc => by have := (List.getElem?_eq_some_iff.1 hc).1; omega)).symm

def pcLo (bs : BL) (n : Nat) : List UInt8 := if 0 < n then bs.getD (n - 1) [] else []
def pcHi (bs : BL) (n : Nat) : List UInt8 := if n < bs.length then bs.getD n [] else List.replicate 17 255
theorem getD_at {bs : BL} {i : Nat} (h : i < bs.length) : bs[i]? = some (bs.getD i []) := by rw [List.getD_eq_getElem?_getD, List.getElem?_eq_getElem h]; rfl

theorem piece_spec (bs : BL) (hn : bs.length < 281474976710656) (n : Nat) (hnb : n ≤ bs.length) (zs : List PV) (hzs : zs = sP bs) :
    FnL Try.prog 28 [.p (.sl zs), .p (.int .i64 (Int.ofNat n))] [] fun v own => v = .p (.agg [.str (pcLo bs n), .str (pcHi bs n)]) ∧ own = [] := by
  obtain ⟨lo, hlo⟩ : ∃ x, x = pcLo bs n := ⟨_, rfl⟩
  obtain ⟨hi, hhi⟩ : ∃ x, x = pcHi bs n := ⟨_, rfl⟩
  obtain ⟨T, hT⟩ : ∃ x : List UInt8, x = List.replicate 17 255 := ⟨_, rfl⟩
  rw [← hlo, ← hhi]
  obtain ⟨N, hN⟩ : ∃ n, n = bs.length := ⟨_, rfl⟩
  have hzl : zs.length = N := by rw [hzs, sP_length, hN]
  have hnN : n ≤ N := by omega
  have hlo0 : ¬ 0 < n → lo = [] := fun h => by rw [hlo, pcLo, if_neg h]
  have hlo1 : 0 < n → zs[n - 1]? = some (.str lo) := fun h => by rw [hzs, hlo, pcLo, if_pos h]; exact sP_get (getD_at (by omega))
  have hhi0 : ¬ n < N → hi = T := fun h => by rw [hhi, pcHi, if_neg (by omega), hT]
  have hhi1 : n < N → zs[n]? = some (.str hi) := fun h => by rw [hzs, hhi, pcHi, if_pos (by omega)]; exact sP_get (getD_at (by omega))
  refine FnL.flat (R := fun v own => v = .p (.agg [.str lo, .str hi])) ?_ (by rintro _ _ rfl; exact ⟨_, _, rfl, .refl _, rfl, rfl⟩)
  have hrep := repeat17_spec
  rw [← hT] at hrep
  refine fn_of_vc eOk fOk fo28 Try.func28 rfl rfl rfl fun B hB => ?_
  intro add sub mul quo rem band bor bxor bclr shl shr ieq ilt ile seq slt beq bnot orb bcond iwrap iof ssz hA cat sq sl imin imax smin smax len slen u8 hL op hop call hcall code hcode ret hret
  have hlen : len zs = Int.ofNat N := by rw [hL.len, hzl]; rfl
  cbv
  refine hcall _ _ _ _ _ (CallEv.same hrep rfl ?_)
  rintro _ _ ⟨rfl, rfl⟩
  cbv
  by_cases hn1 : 0 < n
  · have hlo1 := hlo1 hn1
    obtain ⟨m, hm⟩ : ∃ m, m = n - 1 := ⟨_, rfl⟩
    rw [← hm] at hlo1
    have hsub : sub .i64 (Int.ofNat n) 1 = Int.ofNat m := by rw [hA.sub, IntWalk.i64_in _ (by simp only [Int.ofNat_eq_natCast]; omega), hm]; simp only [Int.ofNat_eq_natCast]; omega
    refine vcIf.yes (by first | (simp [hA.not, hA.eq, hA.lt, hA.le, hA.cond, hA.beq, hA.orb, hL.len, hL.slen, hL.sq, hn1]; done) | (simp only [hn1]; simp [hA.not, hA.eq, hA.lt, hA.le, hA.cond, hA.beq, hA.orb, hL.len, hL.slen, hL.sq, hn1]; done) | (simp [hA.not, hA.eq, hA.lt, hA.le, hA.cond, hA.beq, hA.orb, hL.len, hL.slen, hL.sq, hn1]; omega) | (simp only [hn1]; simp [hA.not, hA.eq, hA.lt, hA.le, hA.cond, hA.beq, hA.orb, hL.len, hL.slen, hL.sq, hn1]; omega)) ?_
    cbv
    refine ⟨m, _, hsub, hlo1, rfl, ?_⟩
    cbv
    by_cases hn2 : n < N
    · have hhi1 := hhi1 hn2
      refine vcIf.yes (by first | (simp [hA.not, hA.eq, hA.lt, hA.le, hA.cond, hA.beq, hA.orb, hL.len, hL.slen, hL.sq, hlen, hn2]; done) | (simp only [hlen, hn2]; simp [hA.not, hA.eq, hA.lt, hA.le, hA.cond, hA.beq, hA.orb, hL.len, hL.slen, hL.sq, hlen, hn2]; done) | (simp [hA.not, hA.eq, hA.lt, hA.le, hA.cond, hA.beq, hA.orb, hL.len, hL.slen, hL.sq, hlen, hn2]; omega) | (simp only [hlen, hn2]; simp [hA.not, hA.eq, hA.lt, hA.le, hA.cond, hA.beq, hA.orb, hL.len, hL.slen, hL.sq, hlen, hn2]; omega)) ?_
      cbv
      refine ⟨n, _, rfl, hhi1, rfl, ?_⟩
      cbv
      exact hret _ (RetEv.ret eOk rfl rfl)
    · have hhi0 := hhi0 hn2
      refine vcIf.no (by first | (simp [hA.not, hA.eq, hA.lt, hA.le, hA.cond, hA.beq, hA.orb, hL.len, hL.slen, hL.sq, hlen, hn2]; done) | (simp only [hlen, hn2]; simp [hA.not, hA.eq, hA.lt, hA.le, hA.cond, hA.beq, hA.orb, hL.len, hL.slen, hL.sq, hlen, hn2]; done) | (simp [hA.not, hA.eq, hA.lt, hA.le, hA.cond, hA.beq, hA.orb, hL.len, hL.slen, hL.sq, hlen, hn2]; omega) | (simp only [hlen, hn2]; simp [hA.not, hA.eq, hA.lt, hA.le, hA.cond, hA.beq, hA.orb, hL.len, hL.slen, hL.sq, hlen, hn2]; omega)) ?_
      cbv
      exact hret _ (RetEv.ret eOk rfl (by rw [hhi0]; rfl))
  · have hlo0 := hlo0 hn1
    refine vcIf.no (by first | (simp [hA.not, hA.eq, hA.lt, hA.le, hA.cond, hA.beq, hA.orb, hL.len, hL.slen, hL.sq, hn1]; done) | (simp only [hn1]; simp [hA.not, hA.eq, hA.lt, hA.le, hA.cond, hA.beq, hA.orb, hL.len, hL.slen, hL.sq, hn1]; done) | (simp [hA.not, hA.eq, hA.lt, hA.le, hA.cond, hA.beq, hA.orb, hL.len, hL.slen, hL.sq, hn1]; omega) | (simp only [hn1]; simp [hA.not, hA.eq, hA.lt, hA.le, hA.cond, hA.beq, hA.orb, hL.len, hL.slen, hL.sq, hn1]; omega)) ?_
    cbv
    by_cases hn2 : n < N
    · have hhi1 := hhi1 hn2
      refine vcIf.yes (by first | (simp [hA.not, hA.eq, hA.lt, hA.le, hA.cond, hA.beq, hA.orb, hL.len, hL.slen, hL.sq, hlen, hn2]; done) | (simp only [hlen, hn2]; simp [hA.not, hA.eq, hA.lt, hA.le, hA.cond, hA.beq, hA.orb, hL.len, hL.slen, hL.sq, hlen, hn2]; done) | (simp [hA.not, hA.eq, hA.lt, hA.le, hA.cond, hA.beq, hA.orb, hL.len, hL.slen, hL.sq, hlen, hn2]; omega) | (simp only [hlen, hn2]; simp [hA.not, hA.eq, hA.lt, hA.le, hA.cond, hA.beq, hA.orb, hL.len, hL.slen, hL.sq, hlen, hn2]; omega)) ?_
      cbv
      refine ⟨n, _, rfl, hhi1, rfl, ?_⟩
      cbv
      exact hret _ (RetEv.ret eOk rfl (by rw [hlo0]; rfl))
    · have hhi0 := hhi0 hn2
      refine vcIf.no (by first | (simp [hA.not, hA.eq, hA.lt, hA.le, hA.cond, hA.beq, hA.orb, hL.len, hL.slen, hL.sq, hlen, hn2]; done) | (simp only [hlen, hn2]; simp [hA.not, hA.eq, hA.lt, hA.le, hA.cond, hA.beq, hA.orb, hL.len, hL.slen, hL.sq, hlen, hn2]; done) | (simp [hA.not, hA.eq, hA.lt, hA.le, hA.cond, hA.beq, hA.orb, hL.len, hL.slen, hL.sq, hlen, hn2]; omega) | (simp only [hlen, hn2]; simp [hA.not, hA.eq, hA.lt, hA.le, hA.cond, hA.beq, hA.orb, hL.len, hL.slen, hL.sq, hlen, hn2]; omega)) ?_
      cbv
      exact hret _ (RetEv.ret eOk rfl (by rw [hlo0, hhi0]; rfl))
theorem rpiece_spec (bs : BL) (hn : bs.length < 281474976710656) (n : Nat) (hnb : n ≤ bs.length) (zs : List PV) (hzs : zs = sP bs) :
    FnL Try.prog 15 [.p (.sl zs), .p (.int .i64 (Int.ofNat n))] [] fun v own => v = .p (.agg [.str (pcLo bs n), .str (pcHi bs n)]) ∧ own = [] := by
  obtain ⟨lo, hlo⟩ : ∃ x, x = pcLo bs n := ⟨_, rfl⟩
  obtain ⟨hi, hhi⟩ : ∃ x, x = pcHi bs n := ⟨_, rfl⟩
  obtain ⟨T, hT⟩ : ∃ x : List UInt8, x = List.replicate 17 255 := ⟨_, rfl⟩
  rw [← hlo, ← hhi]
  obtain ⟨N, hN⟩ : ∃ n, n = bs.length := ⟨_, rfl⟩
  have hzl : zs.length = N := by rw [hzs, sP_length, hN]
  have hnN : n ≤ N := by omega
  have hlo0 : ¬ 0 < n → lo = [] := fun h => by rw [hlo, pcLo, if_neg h]
  have hlo1 : 0 < n → zs[n - 1]? = some (.str lo) := fun h => by rw [hzs, hlo, pcLo, if_pos h]; exact sP_get (getD_at (by omega))
  have hhi0 : ¬ n < N → hi = T := fun h => by rw [hhi, pcHi, if_neg (by omega), hT]
  have hhi1 : n < N → zs[n]? = some (.str hi) := fun h => by rw [hzs, hhi, pcHi, if_pos (by omega)]; exact sP_get (getD_at (by omega))
  have hT' : T = [255, 255, 255, 255, 255, 255, 255, 255, 255, 255, 255, 255, 255, 255, 255, 255, 255] := hT
  refine FnL.flat (R := fun v own => v = .p (.agg [.str lo, .str hi])) ?_ (by rintro _ _ rfl; exact ⟨_, _, rfl, .refl _, rfl, rfl⟩)
  refine fn_of_vc eOk fOk fo15 Try.func15 rfl rfl rfl fun B hB => ?_
  intro add sub mul quo rem band bor bxor bclr shl shr ieq ilt ile seq slt beq bnot orb bcond iwrap iof ssz hA cat sq sl imin imax smin smax len slen u8 hL op hop call hcall code hcode ret hret
  have hlen : len zs = Int.ofNat N := by rw [hL.len, hzl]; rfl
  cbv
  by_cases hn1 : 0 < n
  · have hlo1 := hlo1 hn1
    obtain ⟨m, hm⟩ : ∃ m, m = n - 1 := ⟨_, rfl⟩
    rw [← hm] at hlo1
    have hsub : sub .i64 (Int.ofNat n) 1 = Int.ofNat m := by rw [hA.sub, IntWalk.i64_in _ (by simp only [Int.ofNat_eq_natCast]; omega), hm]; simp only [Int.ofNat_eq_natCast]; omega
    refine vcIf.yes (by first | (simp [hA.not, hA.eq, hA.lt, hA.le, hA.cond, hA.beq, hA.orb, hL.len, hL.slen, hL.sq, hn1]; done) | (simp only [hn1]; simp [hA.not, hA.eq, hA.lt, hA.le, hA.cond, hA.beq, hA.orb, hL.len, hL.slen, hL.sq, hn1]; done) | (simp [hA.not, hA.eq, hA.lt, hA.le, hA.cond, hA.beq, hA.orb, hL.len, hL.slen, hL.sq, hn1]; omega) | (simp only [hn1]; simp [hA.not, hA.eq, hA.lt, hA.le, hA.cond, hA.beq, hA.orb, hL.len, hL.slen, hL.sq, hn1]; omega)) ?_
    cbv
    refine ⟨m, _, hsub, hlo1, rfl, ?_⟩
    cbv
    by_cases hn2 : n < N
    · have hhi1 := hhi1 hn2
      refine vcIf.yes (by first | (simp [hA.not, hA.eq, hA.lt, hA.le, hA.cond, hA.beq, hA.orb, hL.len, hL.slen, hL.sq, hlen, hn2]; done) | (simp only [hlen, hn2]; simp [hA.not, hA.eq, hA.lt, hA.le, hA.cond, hA.beq, hA.orb, hL.len, hL.slen, hL.sq, hlen, hn2]; done) | (simp [hA.not, hA.eq, hA.lt, hA.le, hA.cond, hA.beq, hA.orb, hL.len, hL.slen, hL.sq, hlen, hn2]; omega) | (simp only [hlen, hn2]; simp [hA.not, hA.eq, hA.lt, hA.le, hA.cond, hA.beq, hA.orb, hL.len, hL.slen, hL.sq, hlen, hn2]; omega)) ?_
      cbv
      refine ⟨n, _, rfl, hhi1, rfl, ?_⟩
      cbv
      exact hret _ (RetEv.ret eOk rfl rfl)
    · have hhi0 := hhi0 hn2
      refine vcIf.no (by first | (simp [hA.not, hA.eq, hA.lt, hA.le, hA.cond, hA.beq, hA.orb, hL.len, hL.slen, hL.sq, hlen, hn2]; done) | (simp only [hlen, hn2]; simp [hA.not, hA.eq, hA.lt, hA.le, hA.cond, hA.beq, hA.orb, hL.len, hL.slen, hL.sq, hlen, hn2]; done) | (simp [hA.not, hA.eq, hA.lt, hA.le, hA.cond, hA.beq, hA.orb, hL.len, hL.slen, hL.sq, hlen, hn2]; omega) | (simp only [hlen, hn2]; simp [hA.not, hA.eq, hA.lt, hA.le, hA.cond, hA.beq, hA.orb, hL.len, hL.slen, hL.sq, hlen, hn2]; omega)) ?_
      cbv
      exact hret _ (RetEv.ret eOk rfl (by rw [hhi0, hT']; rfl))
  · have hlo0 := hlo0 hn1
    refine vcIf.no (by first | (simp [hA.not, hA.eq, hA.lt, hA.le, hA.cond, hA.beq, hA.orb, hL.len, hL.slen, hL.sq, hn1]; done) | (simp only [hn1]; simp [hA.not, hA.eq, hA.lt, hA.le, hA.cond, hA.beq, hA.orb, hL.len, hL.slen, hL.sq, hn1]; done) | (simp [hA.not, hA.eq, hA.lt, hA.le, hA.cond, hA.beq, hA.orb, hL.len, hL.slen, hL.sq, hn1]; omega) | (simp only [hn1]; simp [hA.not, hA.eq, hA.lt, hA.le, hA.cond, hA.beq, hA.orb, hL.len, hL.slen, hL.sq, hn1]; omega)) ?_
    cbv
    by_cases hn2 : n < N
    · have hhi1 := hhi1 hn2
      refine vcIf.yes (by first | (simp [hA.not, hA.eq, hA.lt, hA.le, hA.cond, hA.beq, hA.orb, hL.len, hL.slen, hL.sq, hlen, hn2]; done) | (simp only [hlen, hn2]; simp [hA.not, hA.eq, hA.lt, hA.le, hA.cond, hA.beq, hA.orb, hL.len, hL.slen, hL.sq, hlen, hn2]; done) | (simp [hA.not, hA.eq, hA.lt, hA.le, hA.cond, hA.beq, hA.orb, hL.len, hL.slen, hL.sq, hlen, hn2]; omega) | (simp only [hlen, hn2]; simp [hA.not, hA.eq, hA.lt, hA.le, hA.cond, hA.beq, hA.orb, hL.len, hL.slen, hL.sq, hlen, hn2]; omega)) ?_
      cbv
      refine ⟨n, _, rfl, hhi1, rfl, ?_⟩
      cbv
      exact hret _ (RetEv.ret eOk rfl (by rw [hlo0]; rfl))
    · have hhi0 := hhi0 hn2
      refine vcIf.no (by first | (simp [hA.not, hA.eq, hA.lt, hA.le, hA.cond, hA.beq, hA.orb, hL.len, hL.slen, hL.sq, hlen, hn2]; done) | (simp only [hlen, hn2]; simp [hA.not, hA.eq, hA.lt, hA.le, hA.cond, hA.beq, hA.orb, hL.len, hL.slen, hL.sq, hlen, hn2]; done) | (simp [hA.not, hA.eq, hA.lt, hA.le, hA.cond, hA.beq, hA.orb, hL.len, hL.slen, hL.sq, hlen, hn2]; omega) | (simp only [hlen, hn2]; simp [hA.not, hA.eq, hA.lt, hA.le, hA.cond, hA.beq, hA.orb, hL.len, hL.slen, hL.sq, hlen, hn2]; omega)) ?_
      cbv
      exact hret _ (RetEv.ret eOk rfl (by rw [hlo0, hhi0, hT']; rfl))
theorem rhas_spec (lo hi key : List UInt8) : FnL Try.prog 16 [.p (.agg [.str lo, .str hi]), .p (.str key)] [] fun v own => v = .p (.bool (!(bl key lo) && bl key hi)) ∧ own = [] := by
  obtain ⟨R, hR⟩ : ∃ R, R = (!(bl key lo) && bl key hi) := ⟨_, rfl⟩
  rw [← hR]
  refine FnL.flat (R := fun v own => v = .p (.bool R)) ?_ (by rintro _ _ rfl; exact ⟨_, _, rfl, .refl _, rfl, rfl⟩)
  refine fn_of_vc eOk fOk fo16 Try.func16 rfl rfl rfl fun B hB => ?_
  intro add sub mul quo rem band bor bxor bclr shl shr ieq ilt ile seq slt beq bnot orb bcond iwrap iof ssz hA cat sq sl imin imax smin smax len slen u8 hL op hop call hcall code hcode ret hret
  cbv
  by_cases h : Op.bytesLess key lo = true
  · have hf : R = false := by rw [hR, h]; rfl
    refine vcIf.no (by rw [hA.not, hL.sl, h]; rfl) ?_
    cbv
    refine hret _ (RetEv.ret eOk rfl ?_)
    rw [hf]
    rfl
  · have h := Bool.eq_false_iff.2 h
    have hf : R = Op.bytesLess key hi := by rw [hR, h]; rfl
    refine vcIf.yes (by rw [hA.not, hL.sl, h]; rfl) ?_
    cbv
    refine hret _ (RetEv.ret eOk rfl ?_)
    rw [hf]
    show V.p (.bool (bcond true (sl key hi) false)) = _
    rw [hA.cond, hL.sl]; rfl
def pieceE (bs : BL) (n : Int) : Nat := if sndB bs = true then (if 0 ≤ n ∧ n ≤ (bs.length : Int) then 0 else 1) else 2
def pieceLo (bs : BL) (n : Int) : List UInt8 := if pieceE bs n = 0 then pcLo bs n.toNat else []
def pieceHi (bs : BL) (n : Int) : List UInt8 := if pieceE bs n = 0 then pcHi bs n.toNat else []
theorem pieceT_spec (bs : BL) (hn : bs.length < 281474976710656) (hb : ∀ b ∈ bs, b.length < 281474976710656) (n : Int) (zs : List PV) (hzs : zs = sP bs) :
    FnL Try.prog 14 [.p (.sl zs), .p (.int .i64 n)] [] fun v own => v = .p (.tup [.agg [.str (pieceLo bs n), .str (pieceHi bs n)], .int .i64 (Int.ofNat (pieceE bs n))]) ∧ own = [] := by
  obtain ⟨lo, hlo⟩ : ∃ x, x = pieceLo bs n := ⟨_, rfl⟩
  obtain ⟨hi, hhi⟩ : ∃ x, x = pieceHi bs n := ⟨_, rfl⟩
  obtain ⟨e, he⟩ : ∃ x, x = pieceE bs n := ⟨_, rfl⟩
  have hlo0 : e ≠ 0 → lo = [] := fun h => by rw [hlo, pieceLo, if_neg (by rw [← he]; exact h)]
  have hhi0 : e ≠ 0 → hi = [] := fun h => by rw [hhi, pieceHi, if_neg (by rw [← he]; exact h)]
  have hlo1 : e = 0 → lo = pcLo bs n.toNat := fun h => by rw [hlo, pieceLo, if_pos (by rw [← he]; exact h)]
  have hhi1 : e = 0 → hi = pcHi bs n.toNat := fun h => by rw [hhi, pieceHi, if_pos (by rw [← he]; exact h)]
  rw [← hlo, ← hhi, ← he]
  refine FnL.flat (R := fun v own => v = .p (.tup [.agg [.str lo, .str hi], .int .i64 (Int.ofNat e)])) ?_ (by rintro _ _ rfl; exact ⟨_, _, rfl, .refl _, rfl, rfl⟩)
  have hsd := sound_spec bs hn hb zs hzs
  have h8 : 8 ≤ bs.length → sndB bs = false := fun h => decide_eq_false fun c => by omega
  have h9 : sndB bs = true → bs.length < 8 := fun h => (of_decide_eq_true h).1
  obtain ⟨N, hN⟩ : ∃ n, n = bs.length := ⟨_, rfl⟩
  have hzl : zs.length = N := by rw [hzs, sP_length, hN]
  have hpc := fun (h : n.toNat ≤ bs.length) => piece_spec bs hn n.toNat h zs hzs
  obtain ⟨S, hS⟩ : ∃ S, S = sndB bs := ⟨_, rfl⟩
  have he2 : S = false → e = 2 := fun h => by rw [he, pieceE, ← hS, h]; rfl
  have he1 : S = true → ¬ (0 ≤ n ∧ n ≤ (N : Int)) → e = 1 := fun h h' => by rw [he, pieceE, ← hS, h, if_pos rfl, if_neg (by rw [← hN]; exact h')]
  have he0 : S = true → 0 ≤ n ∧ n ≤ (N : Int) → e = 0 := fun h h' => by rw [he, pieceE, ← hS, h, if_pos rfl, if_pos (by rw [← hN]; exact h')]
  rw [← hS] at hsd h8 h9
  rw [← hN] at h8 h9 hpc
  have g1 : S = true → n < 0 → e = 1 := fun h h' => he1 h (by omega)
  have g2 : S = true → Int.ofNat N < n → e = 1 := fun h h' => he1 h (by simp only [Int.ofNat_eq_natCast] at h'; omega)
  have g3 : S = true → ¬ n < 0 → ¬ Int.ofNat N < n → e = 0 ∧ n.toNat ≤ N ∧ Int.ofNat n.toNat = n := fun h h1 h2 => by
    simp only [Int.ofNat_eq_natCast] at h2
    exact ⟨he0 h (by omega), by omega, Int.toNat_of_nonneg (by omega)⟩
  clear he1 he0
  refine fn_of_vc eOk fOk fo14 Try.func14 rfl rfl rfl fun B hB => ?_
  intro add sub mul quo rem band bor bxor bclr shl shr ieq ilt ile seq slt beq bnot orb bcond iwrap iof ssz hA cat sq sl imin imax smin smax len slen u8 hL op hop call hcall code hcode ret hret
  have hlen : len zs = Int.ofNat N := by rw [hL.len, hzl]; rfl
  cbv
  by_cases hN8 : 8 ≤ N
  · have hf := he2 (h8 hN8)
    refine vcIf.yes (by first | (simp [hA.not, hA.eq, hA.lt, hA.le, hA.cond, hA.beq, hA.orb, hL.len, hL.slen, hL.sq, hlen, hN8]; done) | (simp only [hlen, hN8]; simp [hA.not, hA.eq, hA.lt, hA.le, hA.cond, hA.beq, hA.orb, hL.len, hL.slen, hL.sq, hlen, hN8]; done) | (simp [hA.not, hA.eq, hA.lt, hA.le, hA.cond, hA.beq, hA.orb, hL.len, hL.slen, hL.sq, hlen, hN8]; omega) | (simp only [hlen, hN8]; simp [hA.not, hA.eq, hA.lt, hA.le, hA.cond, hA.beq, hA.orb, hL.len, hL.slen, hL.sq, hlen, hN8]; omega)) ?_
    cbv
    exact hret _ (RetEv.ret eOk rfl (by rw [hf, hlo0 (by rw [hf]; decide), hhi0 (by rw [hf]; decide)]; rfl))
  refine vcIf.no (by first | (simp [hA.not, hA.eq, hA.lt, hA.le, hA.cond, hA.beq, hA.orb, hL.len, hL.slen, hL.sq, hlen, hN8]; done) | (simp only [hlen, hN8]; simp [hA.not, hA.eq, hA.lt, hA.le, hA.cond, hA.beq, hA.orb, hL.len, hL.slen, hL.sq, hlen, hN8]; done) | (simp [hA.not, hA.eq, hA.lt, hA.le, hA.cond, hA.beq, hA.orb, hL.len, hL.slen, hL.sq, hlen, hN8]; omega) | (simp only [hlen, hN8]; simp [hA.not, hA.eq, hA.lt, hA.le, hA.cond, hA.beq, hA.orb, hL.len, hL.slen, hL.sq, hlen, hN8]; omega)) ?_
  cbv
  refine hcall _ _ _ _ _ (CallEv.same hsd rfl ?_)
  rintro _ _ ⟨rfl, rfl⟩
  cbv
  by_cases hSS : S = true
  · refine vcIf.no (by first | (simp [hA.not, hA.eq, hA.lt, hA.le, hA.cond, hA.beq, hA.orb, hL.len, hL.slen, hL.sq, hSS]; done) | (simp only [hSS]; simp [hA.not, hA.eq, hA.lt, hA.le, hA.cond, hA.beq, hA.orb, hL.len, hL.slen, hL.sq, hSS]; done) | (simp [hA.not, hA.eq, hA.lt, hA.le, hA.cond, hA.beq, hA.orb, hL.len, hL.slen, hL.sq, hSS]; omega) | (simp only [hSS]; simp [hA.not, hA.eq, hA.lt, hA.le, hA.cond, hA.beq, hA.orb, hL.len, hL.slen, hL.sq, hSS]; omega)) ?_
    cbv
    by_cases hn0 : n < 0
    · have hf := g1 hSS hn0
      refine vcIf.yes (by first | (simp [hA.not, hA.eq, hA.lt, hA.le, hA.cond, hA.beq, hA.orb, hL.len, hL.slen, hL.sq, hn0]; done) | (simp only [hn0]; simp [hA.not, hA.eq, hA.lt, hA.le, hA.cond, hA.beq, hA.orb, hL.len, hL.slen, hL.sq, hn0]; done) | (simp [hA.not, hA.eq, hA.lt, hA.le, hA.cond, hA.beq, hA.orb, hL.len, hL.slen, hL.sq, hn0]; omega) | (simp only [hn0]; simp [hA.not, hA.eq, hA.lt, hA.le, hA.cond, hA.beq, hA.orb, hL.len, hL.slen, hL.sq, hn0]; omega)) ?_
      cbv
      exact hret _ (RetEv.ret eOk rfl (by rw [hf, hlo0 (by rw [hf]; decide), hhi0 (by rw [hf]; decide)]; rfl))
    refine vcIf.no (by first | (simp [hA.not, hA.eq, hA.lt, hA.le, hA.cond, hA.beq, hA.orb, hL.len, hL.slen, hL.sq, hn0]; done) | (simp only [hn0]; simp [hA.not, hA.eq, hA.lt, hA.le, hA.cond, hA.beq, hA.orb, hL.len, hL.slen, hL.sq, hn0]; done) | (simp [hA.not, hA.eq, hA.lt, hA.le, hA.cond, hA.beq, hA.orb, hL.len, hL.slen, hL.sq, hn0]; omega) | (simp only [hn0]; simp [hA.not, hA.eq, hA.lt, hA.le, hA.cond, hA.beq, hA.orb, hL.len, hL.slen, hL.sq, hn0]; omega)) ?_
    cbv
    by_cases hnN : Int.ofNat N < n
    · have hf := g2 hSS hnN
      refine vcIf.yes (by first | (simp [hA.not, hA.eq, hA.lt, hA.le, hA.cond, hA.beq, hA.orb, hL.len, hL.slen, hL.sq, hlen, hnN]; done) | (simp only [hlen, hnN]; simp [hA.not, hA.eq, hA.lt, hA.le, hA.cond, hA.beq, hA.orb, hL.len, hL.slen, hL.sq, hlen, hnN]; done) | (simp [hA.not, hA.eq, hA.lt, hA.le, hA.cond, hA.beq, hA.orb, hL.len, hL.slen, hL.sq, hlen, hnN]; omega) | (simp only [hlen, hnN]; simp [hA.not, hA.eq, hA.lt, hA.le, hA.cond, hA.beq, hA.orb, hL.len, hL.slen, hL.sq, hlen, hnN]; omega)) ?_
      cbv
      exact hret _ (RetEv.ret eOk rfl (by rw [hf, hlo0 (by rw [hf]; decide), hhi0 (by rw [hf]; decide)]; rfl))
    obtain ⟨hf, hf2, hf3⟩ := g3 hSS hn0 hnN
    have hpc := hpc hf2
    rw [← hlo1 hf, ← hhi1 hf, hf3] at hpc
    refine vcIf.no (by first | (simp [hA.not, hA.eq, hA.lt, hA.le, hA.cond, hA.beq, hA.orb, hL.len, hL.slen, hL.sq, hlen, hnN]; done) | (simp only [hlen, hnN]; simp [hA.not, hA.eq, hA.lt, hA.le, hA.cond, hA.beq, hA.orb, hL.len, hL.slen, hL.sq, hlen, hnN]; done) | (simp [hA.not, hA.eq, hA.lt, hA.le, hA.cond, hA.beq, hA.orb, hL.len, hL.slen, hL.sq, hlen, hnN]; omega) | (simp only [hlen, hnN]; simp [hA.not, hA.eq, hA.lt, hA.le, hA.cond, hA.beq, hA.orb, hL.len, hL.slen, hL.sq, hlen, hnN]; omega)) ?_
    cbv
    refine hcall _ _ _ _ _ (CallEv.same hpc rfl ?_)
    rintro _ _ ⟨rfl, rfl⟩
    cbv
    exact hret _ (RetEv.ret eOk rfl (by rw [hf]; rfl))
  · have hf := he2 (Bool.eq_false_iff.2 hSS)
    have hSS := Bool.eq_false_iff.2 hSS
    refine vcIf.yes (by first | (simp [hA.not, hA.eq, hA.lt, hA.le, hA.cond, hA.beq, hA.orb, hL.len, hL.slen, hL.sq, hSS]; done) | (simp only [hSS]; simp [hA.not, hA.eq, hA.lt, hA.le, hA.cond, hA.beq, hA.orb, hL.len, hL.slen, hL.sq, hSS]; done) | (simp [hA.not, hA.eq, hA.lt, hA.le, hA.cond, hA.beq, hA.orb, hL.len, hL.slen, hL.sq, hSS]; omega) | (simp only [hSS]; simp [hA.not, hA.eq, hA.lt, hA.le, hA.cond, hA.beq, hA.orb, hL.len, hL.slen, hL.sq, hSS]; omega)) ?_
    cbv
    exact hret _ (RetEv.ret eOk rfl (by rw [hf, hlo0 (by rw [hf]; decide), hhi0 (by rw [hf]; decide)]; rfl))

theorem awake12_spec : FnL Try.prog 12 [] [] fun z own => z = .p (.bool true) ∧ own = [] := by
  have h1 := fun zs hzs => which_spec [[103], [112]] (by decide) (by decide) [109] zs hzs
  have h2 := fun zs hzs => pieceT_spec [[103], [112]] (by decide) (by decide) 1 zs hzs
  rw [show sndB [[103], [112]] = true by decide, if_pos rfl, if_pos rfl, show wh [[103], [112]] [109] = 1 by decide] at h1
  rw [show pieceE [[103], [112]] 1 = 0 by decide, show pieceLo [[103], [112]] 1 = [103] by decide, show pieceHi [[103], [112]] 1 = [112] by decide] at h2
  refine FnL.flat (R := fun z own => z = .p (.bool true)) ?_ (fun v own' h => ⟨_, _, h, .refl _, rfl, rfl⟩)
  refine fn_of_vc eOk fOk fo12 Try.func12 rfl rfl rfl fun B hB => ?_
  intro add sub mul quo rem band bor bxor bclr shl shr ieq ilt ile seq slt beq bnot orb bcond iwrap iof ssz hA cat sq sl imin imax smin smax len slen u8 hL op hop call hcall code hcode ret hret
  cbv
  refine ⟨false, ?_⟩
  cbv
  refine hcall _ _ _ _ _ (CallEv.same (h1 _ rfl) rfl ?_)
  rintro _ _ ⟨n, e, rfl, rfl, rfl, rfl⟩
  cbv
  refine ⟨false, ?_⟩
  cbv
  refine hcall _ _ _ _ _ (CallEv.same (h2 _ rfl) rfl ?_)
  rintro _ _ ⟨rfl, rfl⟩
  cbv
  repeat (first | (refine vcIf.yes ?_ ?_; (focus (simp [hA.not, hA.eq, hA.lt, hA.le, hA.cond, hA.beq, hA.orb, hL.len, hL.slen, hL.sq]; done)); cbv) | (refine vcIf.no ?_ ?_; (focus (simp [hA.not, hA.eq, hA.lt, hA.le, hA.cond, hA.beq, hA.orb, hL.len, hL.slen, hL.sq]; done)); cbv) | fail)
  exact hret _ (RetEv.ret eOk rfl (by simp [hA.not, hA.eq, hA.lt, hA.le, hA.cond, hA.beq, hA.orb, hL.len, hL.slen, hL.sq, oneOf]))
end Go.Proofs.Ytknhlbohjiphgaa
