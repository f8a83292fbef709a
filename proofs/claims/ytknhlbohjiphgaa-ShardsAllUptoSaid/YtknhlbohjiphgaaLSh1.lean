/- Whether bounds are sound: the program's answer and the document's. Conditions: on sizes. -/
import Derived.Test.YtknhlbohjiphgaaLEnv
set_option maxRecDepth 100000
set_option maxHeartbeats 8000000
set_option linter.unusedSimpArgs false
set_option linter.unusedVariables false
namespace Go.Proofs.Ytknhlbohjiphgaa
open Go Go.Lx
open Go.Sx (vcIf)

abbrev BL := List (List UInt8)
def sP (bs : BL) : List PV := bs.map .str
theorem sP_length (bs : BL) : (sP bs).length = bs.length := List.length_map _
theorem sP_get {bs : BL} {i : Nat} {b : List UInt8} (h : bs[i]? = some b) : (sP bs)[i]? = some (.str b) := by unfold sP; rw [List.getElem?_map, h]; rfl
def gB (bs : BL) (i : Nat) : Bool :=
  match bs[i]? with
  | none => true
  | some b => decide (1 ≤ b.length ∧ b.length ≤ 16 ∧ (i = 0 ∨ bl (bs.getD (i - 1) []) b = true))
theorem gB_some {bs : BL} {i : Nat} {b : List UInt8} (h : bs[i]? = some b) : gB bs i = true ↔ (1 ≤ b.length ∧ b.length ≤ 16 ∧ (i = 0 ∨ bl (bs.getD (i - 1) []) b = true)) := by
  unfold gB; rw [h]; exact decide_eq_true_iff
def sndB (bs : BL) : Bool := decide (bs.length < 8 ∧ ∀ i, i < bs.length → gB bs i = true)
theorem snd_bad {bs : BL} {i : Nat} {b : List UInt8} (h : bs[i]? = some b) (hn : ¬ (1 ≤ b.length ∧ b.length ≤ 16 ∧ (i = 0 ∨ bl (bs.getD (i - 1) []) b = true))) : sndB bs = false := by
  unfold sndB
  refine decide_eq_false fun c => hn ((gB_some h).1 (c.2 i (List.getElem?_eq_some_iff.1 h).1))

theorem sound_spec (bs : BL) (hn : bs.length < 281474976710656) (hb : ∀ b ∈ bs, b.length < 281474976710656) (zs : List PV) (hzs : zs = sP bs) :
    FnL Try.prog 26 [.p (.sl zs)] [] fun v own => v = .p (.bool (sndB bs)) ∧ own = [] := by
  obtain ⟨R, hR⟩ : ∃ R, R = sndB bs := ⟨_, rfl⟩
  rw [← hR]
  refine FnL.flat (R := fun v own => v = .p (.bool R)) ?_ (by rintro _ _ rfl; exact ⟨_, _, rfl, .refl _, rfl, rfl⟩)
  obtain ⟨N, hN⟩ : ∃ n, n = bs.length := ⟨_, rfl⟩
  have hzl : zs.length = N := by rw [hzs, sP_length, hN]
  refine fn_of_vc eOk fOk fo26 Try.func26 rfl rfl rfl fun B hB => ?_
  intro add sub mul quo rem band bor bxor bclr shl shr ieq ilt ile seq slt beq bnot orb bcond iwrap iof ssz hA cat sq sl imin imax smin smax len slen u8 hL op hop call hcall code hcode ret hret
  have hlen : len zs = Int.ofNat N := by rw [hL.len, hzl]; rfl
  cbv
  rw [hlen]
  refine hcode _ _ _ (CodeEv.loop eOk fOk (ι := Nat) (fun s => [(0, .p (.sl zs)), (5, .p (.sl zs)), (6, .p (.int .i64 (Int.ofNat N))), (7, .p (.int .i64 (Int.ofNat s)))])
    (fun s => []) (fun s => s ≤ N ∧ ∀ q, q < s → gB bs q = true) (fun s => N - s) 0 ?_ ?_)
  · exact ⟨(by repeat (first | exact trivial | refine And.intro rfl ?_)), rfl, Nat.zero_le _, fun q h => absurd h (Nat.not_lt_zero q)⟩
  rintro i ⟨k1, k2⟩ rd hrd
  by_cases hi : i < N
  · refine Exists.elim (get_of_lt (show i < bs.length by omega)) fun b hbi => ?_
    have hzi : zs[i]? = some (.str b) := by rw [hzs]; exact sP_get hbi
    have hbl := hb b (List.mem_of_getElem? hbi)
    have bad := fun h => hR.trans (snd_bad hbi h)
    have good := (gB_some hbi).2
    refine Exists.elim (show ∃ n, n = b.length from ⟨_, rfl⟩) fun n hnn => ?_
    rw [← hnn] at bad good
    intro add1 sub1 mul1 quo1 rem1 band1 bor1 bxor1 bclr1 shl1 shr1 ieq1 ilt1 ile1 seq1 slt1 beq1 bnot1 orb1 bcond1 iwrap1 iof1 ssz1 hA1 cat1 sq1 sl1 imin1 imax1 smin1 smax1 len1 slen1 u81 hL1 op1 hop1 call1 hcall1 code1 hcode1
    have e1 : slen1 b = Int.ofNat n := by rw [hL1.slen, hnn]; rfl
    have e2 : sq1 b [] = decide (n = 0) := by
      rw [hL1.sq, hnn]; cases b <;> simp
    have hadd1 : add1 .i64 (Int.ofNat i) 1 = Int.ofNat (i + 1) := by rw [hA1.add, IntWalk.i64_in _ (by simp only [Int.ofNat_eq_natCast]; omega)]; rfl
    cbv
    refine vcIf.yes (by first | (simp [hA1.not, hA1.eq, hA1.lt, hA1.le, hA1.cond, hA1.beq, hA1.orb, hL1.len, hL1.slen, hL1.sq, hi]; done) | (simp only [hi]; simp [hA1.not, hA1.eq, hA1.lt, hA1.le, hA1.cond, hA1.beq, hA1.orb, hL1.len, hL1.slen, hL1.sq, hi]; done) | (simp [hA1.not, hA1.eq, hA1.lt, hA1.le, hA1.cond, hA1.beq, hA1.orb, hL1.len, hL1.slen, hL1.sq, hi]; omega) | (simp only [hi]; simp [hA1.not, hA1.eq, hA1.lt, hA1.le, hA1.cond, hA1.beq, hA1.orb, hL1.len, hL1.slen, hL1.sq, hi]; omega)) ?_
    cbv
    refine ⟨i, _, rfl, hzi, rfl, ?_⟩
    cbv
    by_cases h0 : n = 0
    · have hf := bad (by omega)
      refine vcIf.yes (by rw [e2]; exact decide_eq_true h0) ?_
      cbv
      exact hret _ (RetEv.ret eOk rfl (by rw [hf]; rfl))
    refine vcIf.no (by rw [e2]; exact decide_eq_false h0) ?_
    cbv
    by_cases h16 : 16 < n
    · have hf := bad (by omega)
      refine vcIf.yes (by first | (simp [hA1.not, hA1.eq, hA1.lt, hA1.le, hA1.cond, hA1.beq, hA1.orb, hL1.len, hL1.slen, hL1.sq, e1, h16]; done) | (simp only [e1, h16]; simp [hA1.not, hA1.eq, hA1.lt, hA1.le, hA1.cond, hA1.beq, hA1.orb, hL1.len, hL1.slen, hL1.sq, e1, h16]; done) | (simp [hA1.not, hA1.eq, hA1.lt, hA1.le, hA1.cond, hA1.beq, hA1.orb, hL1.len, hL1.slen, hL1.sq, e1, h16]; omega) | (simp only [e1, h16]; simp [hA1.not, hA1.eq, hA1.lt, hA1.le, hA1.cond, hA1.beq, hA1.orb, hL1.len, hL1.slen, hL1.sq, e1, h16]; omega)) ?_
      cbv
      exact hret _ (RetEv.ret eOk rfl (by rw [hf]; rfl))
    refine vcIf.no (by first | (simp [hA1.not, hA1.eq, hA1.lt, hA1.le, hA1.cond, hA1.beq, hA1.orb, hL1.len, hL1.slen, hL1.sq, e1, h16]; done) | (simp only [e1, h16]; simp [hA1.not, hA1.eq, hA1.lt, hA1.le, hA1.cond, hA1.beq, hA1.orb, hL1.len, hL1.slen, hL1.sq, e1, h16]; done) | (simp [hA1.not, hA1.eq, hA1.lt, hA1.le, hA1.cond, hA1.beq, hA1.orb, hL1.len, hL1.slen, hL1.sq, e1, h16]; omega) | (simp only [e1, h16]; simp [hA1.not, hA1.eq, hA1.lt, hA1.le, hA1.cond, hA1.beq, hA1.orb, hL1.len, hL1.slen, hL1.sq, e1, h16]; omega)) ?_
    cbv
    by_cases hi0 : 0 < i
    · refine Exists.elim (get_of_lt (show i - 1 < bs.length by omega)) fun a hai => ?_
      have hza : zs[i - 1]? = some (.str a) := by rw [hzs]; exact sP_get hai
      have hga : bs.getD (i - 1) [] = a := by rw [List.getD_eq_getElem?_getD, hai]; rfl
      refine Exists.elim (show ∃ j, j = i - 1 from ⟨_, rfl⟩) fun j hj => ?_
      rw [hga] at bad good
      rw [← hj] at hza
      have hsub : sub1 .i64 (Int.ofNat i) 1 = Int.ofNat j := by rw [hA1.sub, IntWalk.i64_in _ (by simp only [Int.ofNat_eq_natCast]; omega), hj]; simp only [Int.ofNat_eq_natCast]; omega
      have hle : orb1 (sl1 b a) (sq1 b a) = !(bl a b) := by rw [hA1.orb, hL1.sl, hL1.sq, ← bl_gt b a]; simp
      refine vcIf.yes (by first | (simp [hA1.not, hA1.eq, hA1.lt, hA1.le, hA1.cond, hA1.beq, hA1.orb, hL1.len, hL1.slen, hL1.sq, hi0]; done) | (simp only [hi0]; simp [hA1.not, hA1.eq, hA1.lt, hA1.le, hA1.cond, hA1.beq, hA1.orb, hL1.len, hL1.slen, hL1.sq, hi0]; done) | (simp [hA1.not, hA1.eq, hA1.lt, hA1.le, hA1.cond, hA1.beq, hA1.orb, hL1.len, hL1.slen, hL1.sq, hi0]; omega) | (simp only [hi0]; simp [hA1.not, hA1.eq, hA1.lt, hA1.le, hA1.cond, hA1.beq, hA1.orb, hL1.len, hL1.slen, hL1.sq, hi0]; omega)) ?_
      cbv
      refine ⟨j, _, hsub, hza, rfl, ?_⟩
      cbv
      by_cases hab : bl a b = true
      · have hgood := good ⟨by omega, by omega, .inr hab⟩
        refine vcIf.no (by rw [hle, show Op.bytesLess a b = true from hab]; simp [hA1.cond, cond]) ?_
        cbv
        refine hrd _ ⟨i + 1, [], ?_, ⟨hi, ?_⟩, rfl, ⟨rfl, rfl, rfl, ?_, trivial⟩, rfl, rfl, rfl, ?_⟩
        · show N - (i + 1) < N - i
          omega
        · intro q hq
          rcases Nat.lt_succ_iff_lt_or_eq.1 hq with c | c
          · exact k2 q c
          · rw [c]; exact hgood
        · show some (V.p (.int .i64 _)) = _
          rw [hadd1]
        · rw [hB]; exact Nat.le_refl _
      · have hf := bad (fun c => by rcases c.2.2 with c | c; omega; exact hab c)
        refine vcIf.yes (by rw [hle, show Op.bytesLess a b = false from Bool.eq_false_iff.2 hab]; simp [hA1.cond, cond]) ?_
        cbv
        exact hret _ (RetEv.ret eOk rfl (by rw [hf]; rfl))
    · have hgood := good ⟨by omega, by omega, .inl (by omega)⟩
      refine vcIf.no (by first | (simp [hA1.not, hA1.eq, hA1.lt, hA1.le, hA1.cond, hA1.beq, hA1.orb, hL1.len, hL1.slen, hL1.sq, hi0]; done) | (simp only [hi0]; simp [hA1.not, hA1.eq, hA1.lt, hA1.le, hA1.cond, hA1.beq, hA1.orb, hL1.len, hL1.slen, hL1.sq, hi0]; done) | (simp [hA1.not, hA1.eq, hA1.lt, hA1.le, hA1.cond, hA1.beq, hA1.orb, hL1.len, hL1.slen, hL1.sq, hi0]; omega) | (simp only [hi0]; simp [hA1.not, hA1.eq, hA1.lt, hA1.le, hA1.cond, hA1.beq, hA1.orb, hL1.len, hL1.slen, hL1.sq, hi0]; omega)) ?_
      cbv
      refine vcIf.no (by first | (simp [hA1.not, hA1.eq, hA1.lt, hA1.le, hA1.cond, hA1.beq, hA1.orb, hL1.len, hL1.slen, hL1.sq]; done) | (simp [hA1.not, hA1.eq, hA1.lt, hA1.le, hA1.cond, hA1.beq, hA1.orb, hL1.len, hL1.slen, hL1.sq]; omega)) ?_
      cbv
      refine hrd _ ⟨i + 1, [], ?_, ⟨hi, ?_⟩, rfl, ⟨rfl, rfl, rfl, ?_, trivial⟩, rfl, rfl, rfl, ?_⟩
      · show N - (i + 1) < N - i
        omega
      · intro q hq
        rcases Nat.lt_succ_iff_lt_or_eq.1 hq with c | c
        · exact k2 q c
        · rw [c]; exact hgood
      · show some (V.p (.int .i64 _)) = _
        rw [hadd1]
      · rw [hB]; exact Nat.le_refl _
  · have hin : i = N := by omega
    have hR2 : R = decide (N < 8) := by
      rw [hR, sndB, ← hN]
      by_cases h : N < 8
      · rw [decide_eq_true h]; exact decide_eq_true ⟨h, fun q hq => k2 q (by omega)⟩
      · rw [decide_eq_false h]; exact decide_eq_false fun c => h c.1
    intro add1 sub1 mul1 quo1 rem1 band1 bor1 bxor1 bclr1 shl1 shr1 ieq1 ilt1 ile1 seq1 slt1 beq1 bnot1 orb1 bcond1 iwrap1 iof1 ssz1 hA1 cat1 sq1 sl1 imin1 imax1 smin1 smax1 len1 slen1 u81 hL1 op1 hop1 call1 hcall1 code1 hcode1
    cbv
    refine vcIf.no (by first | (simp [hA1.not, hA1.eq, hA1.lt, hA1.le, hA1.cond, hA1.beq, hA1.orb, hL1.len, hL1.slen, hL1.sq, hi]; done) | (simp only [hi]; simp [hA1.not, hA1.eq, hA1.lt, hA1.le, hA1.cond, hA1.beq, hA1.orb, hL1.len, hL1.slen, hL1.sq, hi]; done) | (simp [hA1.not, hA1.eq, hA1.lt, hA1.le, hA1.cond, hA1.beq, hA1.orb, hL1.len, hL1.slen, hL1.sq, hi]; omega) | (simp only [hi]; simp [hA1.not, hA1.eq, hA1.lt, hA1.le, hA1.cond, hA1.beq, hA1.orb, hL1.len, hL1.slen, hL1.sq, hi]; omega)) ?_
    cbv
    refine hret _ (RetEv.ret eOk rfl ?_)
    show V.p (.bool (ilt (len zs) 8)) = _
    rw [hA.lt, hlen, hR2, show decide (Int.ofNat N < 8) = decide (N < 8) from decide_eq_decide.2 (by simp only [Int.ofNat_eq_natCast]; omega)]
end Go.Proofs.Ytknhlbohjiphgaa
