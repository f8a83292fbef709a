/- Pairs: whether they are sound, and whether two lists are one; the document's. Conditions: on sizes. -/
import Derived.Test.YtdeolllpbflemaaLSq2
set_option maxRecDepth 100000
set_option maxHeartbeats 8000000
set_option linter.unusedSimpArgs false
set_option linter.unusedVariables false
namespace Go.Proofs.Ytdeolllpbflemaa
open Go Go.Lx
open Go.Sx (vcIf)

structure Pr where
  key : List UInt8
  val : List UInt8
def Pr.v (p : Pr) : PV := .agg [.str p.key, .str p.val]
def prP (l : List Pr) : List PV := l.map Pr.v
theorem prP_length (l : List Pr) : (prP l).length = l.length := List.length_map _
theorem prP_get {l : List Pr} {i : Nat} {p : Pr} (h : l[i]? = some p) : (prP l)[i]? = some (.agg [.str p.key, .str p.val]) := by unfold prP; rw [List.getElem?_map, h]; rfl
theorem Pr.wf (p : Pr) : p.v.wf 2 := ⟨rfl, fun u hu => by simp [Pr.v, PV.cells] at hu; rcases hu with rfl | rfl <;> rfl⟩
def gP (ps : List Pr) (i : Nat) : Bool :=
  match ps[i]? with
  | none => true
  | some p => decide (p.key.length ≤ 16 ∧ p.val.length ≤ 64 ∧ (i = 0 ∨ bl (ps.getD (i - 1) ⟨[], []⟩).key p.key = true))
theorem gP_some {ps : List Pr} {i : Nat} {p : Pr} (h : ps[i]? = some p) : gP ps i = true ↔ (p.key.length ≤ 16 ∧ p.val.length ≤ 64 ∧ (i = 0 ∨ bl (ps.getD (i - 1) ⟨[], []⟩).key p.key = true)) := by
  unfold gP; rw [h]; exact decide_eq_true_iff
def sndP (ps : List Pr) : Bool := decide (∀ i, i < ps.length → gP ps i = true)
theorem sndP_bad {ps : List Pr} {i : Nat} {p : Pr} (h : ps[i]? = some p) (hn : ¬ (p.key.length ≤ 16 ∧ p.val.length ≤ 64 ∧ (i = 0 ∨ bl (ps.getD (i - 1) ⟨[], []⟩).key p.key = true))) : sndP ps = false := by
  unfold sndP
  exact decide_eq_false fun c => hn ((gP_some h).1 (c i (List.getElem?_eq_some_iff.1 h).1))
def Pr.fit (p : Pr) : Prop := p.key.length < 281474976710656 ∧ p.val.length < 281474976710656

theorem rsndP_spec (ps : List Pr) (hn : ps.length < 281474976710656) (hb : ∀ p ∈ ps, p.fit) (zs : List PV) (hzs : zs = prP ps) :
    FnL Try.prog 22 [.p (.sl zs)] [] fun v own => v = .p (.bool (sndP ps)) ∧ own = [] := by
  obtain ⟨R, hR⟩ : ∃ R, R = sndP ps := ⟨_, rfl⟩
  rw [← hR]
  refine FnL.flat (R := fun v own => v = .p (.bool R)) ?_ (by rintro _ _ rfl; exact ⟨_, _, rfl, .refl _, rfl, rfl⟩)
  obtain ⟨N, hN⟩ : ∃ n, n = ps.length := ⟨_, rfl⟩
  have hzl : zs.length = N := by rw [hzs, prP_length, hN]
  refine fn_of_vc eOk fOk fo22 Try.func22 rfl rfl rfl fun B hB => ?_
  intro add sub mul quo rem band bor bxor bclr shl shr ieq ilt ile seq slt beq bnot orb bcond iwrap iof ssz hA cat sq sl imin imax smin smax len slen u8 hL op hop call hcall code hcode ret hret
  cbv
  refine hcode _ _ _ (CodeEv.loop eOk fOk (ι := Nat) (fun s => [(0, .p (.sl zs)), (3, .p (.int .i64 (Int.ofNat s)))])
    (fun s => []) (fun s => s ≤ N ∧ ∀ q, q < s → gP ps q = true) (fun s => N - s) 0 ?_ ?_)
  · exact ⟨(by repeat (first | exact trivial | refine And.intro rfl ?_)), rfl, Nat.zero_le _, fun q h => absurd h (Nat.not_lt_zero q)⟩
  rintro i ⟨k1, k2⟩ rd hrd
  by_cases hi : i < N
  · refine Exists.elim (get_of_lt (show i < ps.length by omega)) fun p hpi => ?_
    have hbl := hb p (List.mem_of_getElem? hpi)
    have bad := fun h => hR.trans (sndP_bad hpi h)
    have good := (gP_some hpi).2
    have hzi : zs[i]? = some (.agg [.str p.key, .str p.val]) := by rw [hzs]; exact prP_get hpi
    obtain ⟨ky, vl⟩ := p
    simp only at hzi bad good
    refine Exists.elim (show ∃ n, n = ky.length from ⟨_, rfl⟩) fun n hnn => ?_
    refine Exists.elim (show ∃ n, n = vl.length from ⟨_, rfl⟩) fun m hmm => ?_
    rw [← hnn, ← hmm] at bad good
    intro add1 sub1 mul1 quo1 rem1 band1 bor1 bxor1 bclr1 shl1 shr1 ieq1 ilt1 ile1 seq1 slt1 beq1 bnot1 orb1 bcond1 iwrap1 iof1 ssz1 hA1 cat1 sq1 sl1 imin1 imax1 smin1 smax1 len1 slen1 u81 hL1 op1 hop1 call1 hcall1 code1 hcode1
    have hadd1 : add1 .i64 (Int.ofNat i) 1 = Int.ofNat (i + 1) := by rw [hA1.add, IntWalk.i64_in _ (by simp only [Int.ofNat_eq_natCast]; omega)]; rfl
    have e0 : len1 zs = Int.ofNat N := by rw [hL1.len, hzl]; rfl
    cbv
    refine vcIf.yes (by first | (simp [hA1.not, hA1.eq, hA1.lt, hA1.le, hA1.cond, hA1.beq, hA1.orb, hL1.len, hL1.slen, hL1.sq, e0, hi]; done) | (simp only [e0, hi]; simp [hA1.not, hA1.eq, hA1.lt, hA1.le, hA1.cond, hA1.beq, hA1.orb, hL1.len, hL1.slen, hL1.sq, e0, hi]; done) | (simp [hA1.not, hA1.eq, hA1.lt, hA1.le, hA1.cond, hA1.beq, hA1.orb, hL1.len, hL1.slen, hL1.sq, e0, hi]; omega) | (simp only [e0, hi]; simp [hA1.not, hA1.eq, hA1.lt, hA1.le, hA1.cond, hA1.beq, hA1.orb, hL1.len, hL1.slen, hL1.sq, e0, hi]; omega)) ?_
    cbv
    refine hcode1 _ _ _ (CodeEv.drawT eOk fOk (by kernel_rfl) noX (.rd 0 (.so 1 (.so 2 (.so 3 (.so 4 (.so 5 (.so 6 (.so 7 (.rd 8 (.so 9 (.so 10 (.so 11 (.so 12 (.so 13 (.so 14 (.so 15 (.so 16 (.so 17 (.so 18 (.so 19 (.rd 20 (.rd 21 (.rd 22 (.rd 23 (.rd 24 (.rd 25 (.so 26 (.so 27 (.so 28 (.so 29 (.so 30 (.so 31 (.so 32 (.so 33 (.done))))))))))))))))))))))))))))))))))) (by kernel_rfl) (by kernel_rfl) ?_)
    intro add2 sub2 mul2 quo2 rem2 band2 bor2 bxor2 bclr2 shl2 shr2 ieq2 ilt2 ile2 seq2 slt2 beq2 bnot2 orb2 bcond2 iwrap2 iof2 ssz2 hA2 cat2 sq2 sl2 imin2 imax2 smin2 smax2 len2 slen2 u82 hL2 op2 hop2 call2 hcall2 code2 hcode2 q2 hq2
    have e1 : slen2 ky = Int.ofNat n := by rw [hL2.slen, hnn]; rfl
    have e2 : slen2 vl = Int.ofNat m := by rw [hL2.slen, hmm]; rfl
    cbv
    refine ⟨i, _, rfl, hzi, rfl, ?_⟩
    cbv
    by_cases h0 : 16 < n
    · have hf := bad (by omega)
      refine vcIf.yes (by first | (simp [hA2.not, hA2.eq, hA2.lt, hA2.le, hA2.cond, hA2.beq, hA2.orb, hL2.len, hL2.slen, hL2.sq, e1, h0]; done) | (simp only [e1, h0]; simp [hA2.not, hA2.eq, hA2.lt, hA2.le, hA2.cond, hA2.beq, hA2.orb, hL2.len, hL2.slen, hL2.sq, e1, h0]; done) | (simp [hA2.not, hA2.eq, hA2.lt, hA2.le, hA2.cond, hA2.beq, hA2.orb, hL2.len, hL2.slen, hL2.sq, e1, h0]; omega) | (simp only [e1, h0]; simp [hA2.not, hA2.eq, hA2.lt, hA2.le, hA2.cond, hA2.beq, hA2.orb, hL2.len, hL2.slen, hL2.sq, e1, h0]; omega)) ?_
      cbv
      refine hq2 _ ?_
      cbv
      exact hret _ (RetEv.ret eOk rfl (by rw [hf]; rfl))
    refine vcIf.no (by first | (simp [hA2.not, hA2.eq, hA2.lt, hA2.le, hA2.cond, hA2.beq, hA2.orb, hL2.len, hL2.slen, hL2.sq, e1, h0]; done) | (simp only [e1, h0]; simp [hA2.not, hA2.eq, hA2.lt, hA2.le, hA2.cond, hA2.beq, hA2.orb, hL2.len, hL2.slen, hL2.sq, e1, h0]; done) | (simp [hA2.not, hA2.eq, hA2.lt, hA2.le, hA2.cond, hA2.beq, hA2.orb, hL2.len, hL2.slen, hL2.sq, e1, h0]; omega) | (simp only [e1, h0]; simp [hA2.not, hA2.eq, hA2.lt, hA2.le, hA2.cond, hA2.beq, hA2.orb, hL2.len, hL2.slen, hL2.sq, e1, h0]; omega)) ?_
    cbv
    refine ⟨i, _, rfl, hzi, rfl, ?_⟩
    cbv
    by_cases h16 : 64 < m
    · have hf := bad (by omega)
      refine vcIf.yes (by first | (simp [hA2.not, hA2.eq, hA2.lt, hA2.le, hA2.cond, hA2.beq, hA2.orb, hL2.len, hL2.slen, hL2.sq, e2, h16]; done) | (simp only [e2, h16]; simp [hA2.not, hA2.eq, hA2.lt, hA2.le, hA2.cond, hA2.beq, hA2.orb, hL2.len, hL2.slen, hL2.sq, e2, h16]; done) | (simp [hA2.not, hA2.eq, hA2.lt, hA2.le, hA2.cond, hA2.beq, hA2.orb, hL2.len, hL2.slen, hL2.sq, e2, h16]; omega) | (simp only [e2, h16]; simp [hA2.not, hA2.eq, hA2.lt, hA2.le, hA2.cond, hA2.beq, hA2.orb, hL2.len, hL2.slen, hL2.sq, e2, h16]; omega)) ?_
      cbv
      refine hq2 _ ?_
      cbv
      exact hret _ (RetEv.ret eOk rfl (by rw [hf]; rfl))
    refine vcIf.no (by first | (simp [hA2.not, hA2.eq, hA2.lt, hA2.le, hA2.cond, hA2.beq, hA2.orb, hL2.len, hL2.slen, hL2.sq, e2, h16]; done) | (simp only [e2, h16]; simp [hA2.not, hA2.eq, hA2.lt, hA2.le, hA2.cond, hA2.beq, hA2.orb, hL2.len, hL2.slen, hL2.sq, e2, h16]; done) | (simp [hA2.not, hA2.eq, hA2.lt, hA2.le, hA2.cond, hA2.beq, hA2.orb, hL2.len, hL2.slen, hL2.sq, e2, h16]; omega) | (simp only [e2, h16]; simp [hA2.not, hA2.eq, hA2.lt, hA2.le, hA2.cond, hA2.beq, hA2.orb, hL2.len, hL2.slen, hL2.sq, e2, h16]; omega)) ?_
    cbv
    by_cases hi0 : 0 < i
    · refine Exists.elim (get_of_lt (show i - 1 < ps.length by omega)) fun a hai => ?_
      have hza : zs[i - 1]? = some (.agg [.str a.key, .str a.val]) := by rw [hzs]; exact prP_get hai
      have hga : ps.getD (i - 1) ⟨[], []⟩ = a := by rw [List.getD_eq_getElem?_getD, hai]; rfl
      rw [hga] at bad good
      obtain ⟨ak, av⟩ := a
      simp only at hza bad good
      refine Exists.elim (show ∃ j, j = i - 1 from ⟨_, rfl⟩) fun j hj => ?_
      rw [← hj] at hza
      have hsub : sub2 .i64 (Int.ofNat i) 1 = Int.ofNat j := by rw [hA2.sub, IntWalk.i64_in _ (by simp only [Int.ofNat_eq_natCast]; omega), hj]; simp only [Int.ofNat_eq_natCast]; omega
      have hle : orb2 (sl2 ky ak) (sq2 ky ak) = !(bl ak ky) := by rw [hA2.orb, hL2.sl, hL2.sq, ← bl_gt ky ak]; simp
      refine vcIf.yes (by first | (simp [hA2.not, hA2.eq, hA2.lt, hA2.le, hA2.cond, hA2.beq, hA2.orb, hL2.len, hL2.slen, hL2.sq, hi0]; done) | (simp only [hi0]; simp [hA2.not, hA2.eq, hA2.lt, hA2.le, hA2.cond, hA2.beq, hA2.orb, hL2.len, hL2.slen, hL2.sq, hi0]; done) | (simp [hA2.not, hA2.eq, hA2.lt, hA2.le, hA2.cond, hA2.beq, hA2.orb, hL2.len, hL2.slen, hL2.sq, hi0]; omega) | (simp only [hi0]; simp [hA2.not, hA2.eq, hA2.lt, hA2.le, hA2.cond, hA2.beq, hA2.orb, hL2.len, hL2.slen, hL2.sq, hi0]; omega)) ?_
      cbv
      refine ⟨i, _, rfl, hzi, rfl, ?_⟩
      cbv
      refine ⟨j, _, hsub, hza, rfl, ?_⟩
      cbv
      refine hq2 _ ?_
      cbv
      by_cases hab : bl ak ky = true
      · have hgood := good ⟨by omega, by omega, .inr hab⟩
        refine vcIf.no (by rw [hle, show Op.bytesLess ak ky = true from hab]; simp [hA2.cond, cond]) ?_
        cbv
        refine hrd _ ⟨i + 1, [], ?_, ⟨hi, ?_⟩, rfl, ⟨rfl, ?_, trivial⟩, rfl, rfl, rfl, ?_⟩
        · show N - (i + 1) < N - i
          omega
        · intro q hq
          rcases Nat.lt_succ_iff_lt_or_eq.1 hq with c | c
          · exact k2 q c
          · rw [c]; exact hgood
        · show some (V.p (.int .i64 _)) = _
          rw [hadd1]
        · rw [hB]; exact Nat.le_refl _
      · have hf := bad (fun c => by rcases c.2.2 with c | c; omega; exact hab c)
        refine vcIf.yes (by rw [hle, show Op.bytesLess ak ky = false from Bool.eq_false_iff.2 hab]; simp [hA2.cond, cond]) ?_
        cbv
        exact hret _ (RetEv.ret eOk rfl (by rw [hf]; rfl))
    · have hgood := good ⟨by omega, by omega, .inl (by omega)⟩
      refine vcIf.no (by first | (simp [hA2.not, hA2.eq, hA2.lt, hA2.le, hA2.cond, hA2.beq, hA2.orb, hL2.len, hL2.slen, hL2.sq, hi0]; done) | (simp only [hi0]; simp [hA2.not, hA2.eq, hA2.lt, hA2.le, hA2.cond, hA2.beq, hA2.orb, hL2.len, hL2.slen, hL2.sq, hi0]; done) | (simp [hA2.not, hA2.eq, hA2.lt, hA2.le, hA2.cond, hA2.beq, hA2.orb, hL2.len, hL2.slen, hL2.sq, hi0]; omega) | (simp only [hi0]; simp [hA2.not, hA2.eq, hA2.lt, hA2.le, hA2.cond, hA2.beq, hA2.orb, hL2.len, hL2.slen, hL2.sq, hi0]; omega)) ?_
      cbv
      refine hq2 _ ?_
      cbv
      refine vcIf.no (by first | (simp [hA2.not, hA2.eq, hA2.lt, hA2.le, hA2.cond, hA2.beq, hA2.orb, hL2.len, hL2.slen, hL2.sq]; done) | (simp [hA2.not, hA2.eq, hA2.lt, hA2.le, hA2.cond, hA2.beq, hA2.orb, hL2.len, hL2.slen, hL2.sq]; omega)) ?_
      cbv
      refine hrd _ ⟨i + 1, [], ?_, ⟨hi, ?_⟩, rfl, ⟨rfl, ?_, trivial⟩, rfl, rfl, rfl, ?_⟩
      · show N - (i + 1) < N - i
        omega
      · intro q hq
        rcases Nat.lt_succ_iff_lt_or_eq.1 hq with c | c
        · exact k2 q c
        · rw [c]; exact hgood
      · show some (V.p (.int .i64 _)) = _
        rw [hadd1]
      · rw [hB]; exact Nat.le_refl _
  · have hin : i = N := by omega
    have hR2 : R = true := by
      rw [hR, sndP, ← hN]
      exact decide_eq_true fun q hq => k2 q (by omega)
    intro add1 sub1 mul1 quo1 rem1 band1 bor1 bxor1 bclr1 shl1 shr1 ieq1 ilt1 ile1 seq1 slt1 beq1 bnot1 orb1 bcond1 iwrap1 iof1 ssz1 hA1 cat1 sq1 sl1 imin1 imax1 smin1 smax1 len1 slen1 u81 hL1 op1 hop1 call1 hcall1 code1 hcode1
    have e0 : len1 zs = Int.ofNat N := by rw [hL1.len, hzl]; rfl
    cbv
    refine vcIf.no (by first | (simp [hA1.not, hA1.eq, hA1.lt, hA1.le, hA1.cond, hA1.beq, hA1.orb, hL1.len, hL1.slen, hL1.sq, e0, hi]; done) | (simp only [e0, hi]; simp [hA1.not, hA1.eq, hA1.lt, hA1.le, hA1.cond, hA1.beq, hA1.orb, hL1.len, hL1.slen, hL1.sq, e0, hi]; done) | (simp [hA1.not, hA1.eq, hA1.lt, hA1.le, hA1.cond, hA1.beq, hA1.orb, hL1.len, hL1.slen, hL1.sq, e0, hi]; omega) | (simp only [e0, hi]; simp [hA1.not, hA1.eq, hA1.lt, hA1.le, hA1.cond, hA1.beq, hA1.orb, hL1.len, hL1.slen, hL1.sq, e0, hi]; omega)) ?_
    cbv
    exact hret _ (RetEv.ret eOk rfl (by rw [hR2]; rfl))
end Go.Proofs.Ytdeolllpbflemaa
