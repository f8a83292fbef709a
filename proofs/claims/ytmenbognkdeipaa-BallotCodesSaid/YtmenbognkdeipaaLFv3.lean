/- Transactions laid. Conditions: on sizes. -/
import Derived.Test.YtmenbognkdeipaaLFv2
set_option maxRecDepth 100000
set_option maxHeartbeats 4000000
set_option linter.unusedSimpArgs false
set_option linter.unusedVariables false
namespace Go.Proofs.Ytmenbognkdeipaa
open Go Go.Lx
open Go.Sx (vcIf)

def encS (c : Spn) : List UInt8 := enct c.lo ++ enct c.hi
def tBytes (s : Tx) : List UInt8 := encs [s.r, (s.sp.length : Int)] ++ s.sp.flatMap encS ++ encCs s.ch
def tEnc (s : Tx) : List UInt8 × Nat := if s.okB = true then (tBytes s, 0) else ([], 2)
theorem iP2 (a b : Int) : iP [a, b] = [PV.int .i64 a, PV.int .i64 b] := rfl
theorem big2 {n M N : Nat} (h : n ≤ 18 + 131092 * M) (hm : M ≤ 24) (h2 : N ≤ 24) : n + 131200 * (N + 1) ≤ 140737488355328 :=
  Nat.le_trans (Nat.add_le_add (Nat.le_trans h (Nat.add_le_add_left (Nat.mul_le_mul_left _ hm) _)) (Nat.mul_le_mul_left _ (Nat.succ_le_succ h2))) (by decide)
theorem big3 {n i : Nat} (h : n ≤ 18 + 131092 * i) (hm : i ≤ 24) : n ≤ 9000000 :=
  Nat.le_trans h (Nat.le_trans (Nat.add_le_add_left (Nat.mul_le_mul_left _ hm) _) (by decide))
theorem big4 {n m i : Nat} (h : n ≤ m + 131092) (hm : m ≤ 18 + 131092 * i) : n ≤ 18 + 131092 * (i + 1) := by
  rw [Nat.mul_succ, ← Nat.add_assoc]; exact Nat.le_trans h (Nat.add_le_add_right hm _)
theorem spn_ok {l : List Spn} (h : l.any Spn.bad = false) {c : Spn} (hc : c ∈ l) : c.lo.length ≤ 17 ∧ c.hi.length ≤ 17 := by
  have := List.any_eq_false.1 h c hc
  unfold Spn.bad at this
  rw [decide_eq_true_eq] at this
  omega
theorem frPutTxn_spec (s : Tx) (hs : s.fit) (xs zs : List PV) (hxs : xs = pP s.sp) (hzs : zs = cP s.ch) :
    FnL Try.prog 32 [.p (.agg [.int .i64 s.r, .sl xs, .sl zs])] [] (bytesR (tEnc s)) := by
  refine bytesR.of ?_
  have hst := frTxn_spec s hs xs zs hxs hzs
  have hok := s.ok_iff
  obtain ⟨R, hR⟩ : ∃ R, R = tEnc s := ⟨_, rfl⟩
  rw [← hR]
  unfold tEnc at hR
  obtain ⟨r, sp, ch⟩ := s
  unfold tBytes at hR
  obtain ⟨hs0, hs1, hs2, hs3⟩ := hs
  simp only at hst hok hR hxs hzs hs0 hs1 hs2 hs3 ⊢
  have hxl : xs.length = sp.length := by rw [hxs, pP_length]
  have hzl : zs.length = ch.length := by rw [hzs, cP_length]
  obtain ⟨M, hM⟩ : ∃ M, M = sp.length := ⟨_, rfl⟩
  rw [← hM] at hxl hok
  refine fn_of_vc eOk fOk fo32 Try.func32 rfl rfl rfl fun B hB => ?_
  intro add sub mul quo rem band bor bxor bclr shl shr ieq ilt ile seq slt beq bnot orb bcond iwrap iof ssz hA cat sq sl imin imax smin smax len slen u8 hL op hop call hcall code hcode ret hret
  have hlx : len xs = Int.ofNat M := by rw [hL.len, hxl]; rfl
  cbv
  refine hcall _ _ _ _ _ (CallEv.same hst rfl ?_)
  rintro _ _ ⟨b, hb, rfl, rfl⟩
  rw [← hb] at hok hR
  cbv
  cases b with
  | false =>
    rw [if_neg (by decide)] at hR
    repeat (first | (refine vcIf.yes ?_ ?_; (focus (simp [hA.not, hA.eq, hA.lt, hA.le, hA.cond, hA.beq, hA.orb, hL.len, hL.slen, hL.sq]; done)); cbv) | (refine vcIf.no ?_ ?_; (focus (simp [hA.not, hA.eq, hA.lt, hA.le, hA.cond, hA.beq, hA.orb, hL.len, hL.slen, hL.sq]; done)); cbv) | fail)
    exact hret _ (RetEv.ret eOk rfl ⟨[], [], 2, hR.symm, rfl, .inr ⟨rfl, rfl⟩⟩)
  | true =>
    rw [if_pos rfl] at hR
    obtain ⟨k1, k2, k3, k4, k5⟩ := hok.1 rfl
    have hn1 := wr0_of (wrNums_spec [r, Int.ofNat M] _ rfl (fun z hz => by
      simp only [List.mem_cons, List.not_mem_nil, or_false] at hz
      rcases hz with rfl | rfl
      · exact hs0.2
      · simp only [Int.ofNat_eq_natCast]; omega) 0 0 [] rfl (by simp))
    rw [iP2] at hn1
    have hok1 : ∀ z ∈ [r, Int.ofNat M], (0 : Int) ≤ z := fun z hz => by
      simp only [List.mem_cons, List.not_mem_nil, or_false] at hz
      rcases hz with rfl | rfl
      · exact k1
      · exact Int.natCast_nonneg M
    have hn2 := fun (n1 : Nat) (e1 : Int) (ys1 : List PV) (w1 : ys1.length = n1) (w2 : n1 ≤ 18 + 131092 * M) => chgs_spec ch k4 zs hzs n1 e1 ys1 w1 (big2 w2 k2 k3)
    cbv
    repeat (first | (refine vcIf.yes ?_ ?_; (focus (simp [hA.not, hA.eq, hA.lt, hA.le, hA.cond, hA.beq, hA.orb, hL.len, hL.slen, hL.sq]; done)); cbv) | (refine vcIf.no ?_ ?_; (focus (simp [hA.not, hA.eq, hA.lt, hA.le, hA.cond, hA.beq, hA.orb, hL.len, hL.slen, hL.sq]; done)); cbv) | fail)
    rw [hlx]
    refine ⟨false, ?_⟩
    cbv
    refine hcall _ _ _ _ _ (CallEv.lend [1] hn1 rfl (.cons (.own 0 1 0 rfl) (.cons (.p _) .nil)) (wrL0 rfl) ?_)
    rintro _ _ ⟨n1, e1, ys1, ⟨w1, w2, w3, w4⟩, rfl, rfl⟩
    obtain ⟨rfl, w5⟩ := w3 hok1
    cbv
    rw [hlx]
    refine hcode _ _ _ (CodeEv.loop eOk fOk (ι := Nat × Nat × List PV) (fun s => [(1, .own 0 0), (4, .own 1 0), (21, .p (.sl xs)), (22, .p (.int .i64 (Int.ofNat M))), (23, .p (.int .i64 (Int.ofNat s.1)))])
      (fun s => [.st 63 [.p (.int .i64 r), .p (.sl xs), .p (.sl zs)], .st 73 [.vw 2 1 0 s.2.1 none, .p (.int .i64 0)], wrA s.2.2]) (fun s => s.1 ≤ M ∧ s.2.2.length = s.2.1 ∧ s.2.1 ≤ 18 + 131092 * s.1 ∧ s.2.2 = bP (encs [r, (sp.length : Int)] ++ (sp.take s.1).flatMap encS)) (fun s => M - s.1) (0, n1, ys1) ?_ ?_)
    · exact ⟨(by repeat (first | exact trivial | refine And.intro rfl ?_)), rfl, Nat.zero_le _, w1, w2, by rw [w5, ← hM]; simp⟩
    rintro ⟨i, m, us⟩ ⟨g1, g2, g3, g4⟩ rd hrd
    simp only at g1 g2 g3 g4
    intro add1 sub1 mul1 quo1 rem1 band1 bor1 bxor1 bclr1 shl1 shr1 ieq1 ilt1 ile1 seq1 slt1 beq1 bnot1 orb1 bcond1 iwrap1 iof1 ssz1 hA1 cat1 sq1 sl1 imin1 imax1 smin1 smax1 len1 slen1 u81 hL1 op1 hop1 call1 hcall1 code1 hcode1
    have hadd1 : i < M → add1 .i64 (Int.ofNat i) 1 = Int.ofNat (i + 1) := fun _ => by rw [hA1.add, IntWalk.i64_in _ (by simp only [Int.ofNat_eq_natCast]; omega)]; rfl
    cbv
    by_cases hi : i < M
    · obtain ⟨c, hc⟩ := get_of_lt (show i < sp.length by omega)
      have hzz : xs[i]? = some (.agg [.str c.lo, .str c.hi]) := by rw [hxs]; exact pP_get hc
      have htk : sp.take (i + 1) = sp.take i ++ [c] := by rw [List.take_add_one, hc]; rfl
      have hco := spn_ok k5 (List.mem_of_getElem? hc)
      have hce : bP (encs [r, (sp.length : Int)] ++ (sp.take (i + 1)).flatMap encS) = us ++ bP (enct c.lo ++ enct c.hi) := by
        rw [htk, g4, List.flatMap_append, ← List.append_assoc, bP_append (encs [r, (sp.length : Int)] ++ List.flatMap encS (List.take i sp))]; simp [encS]
      have hmb := big3 g3 (by omega)
      have htx := wrTexts_spec [c.lo, c.hi] [.str c.lo, .str c.hi] rfl (fun s hs => by
        simp only [List.mem_cons, List.not_mem_nil, or_false] at hs
        rcases hs with rfl | rfl <;> omega) m 0 us g2 (by simp only [List.length_cons, List.length_nil]; omega)
      have htt : ∀ s ∈ [c.lo, c.hi], s.length ≤ 65536 := fun s hs => by
        simp only [List.mem_cons, List.not_mem_nil, or_false] at hs
        rcases hs with rfl | rfl <;> omega
      obtain ⟨lo, hi'⟩ := c
      simp only at hzz hce htx htt
      refine vcIf.yes (by first | (simp [hA1.not, hA1.eq, hA1.lt, hA1.le, hA1.cond, hA1.beq, hA1.orb, hL1.len, hL1.slen, hL1.sq, hi]; done) | (simp only [hi]; simp [hA1.not, hA1.eq, hA1.lt, hA1.le, hA1.cond, hA1.beq, hA1.orb, hL1.len, hL1.slen, hL1.sq, hi]; done) | (simp [hA1.not, hA1.eq, hA1.lt, hA1.le, hA1.cond, hA1.beq, hA1.orb, hL1.len, hL1.slen, hL1.sq, hi]; omega) | (simp only [hi]; simp [hA1.not, hA1.eq, hA1.lt, hA1.le, hA1.cond, hA1.beq, hA1.orb, hL1.len, hL1.slen, hL1.sq, hi]; omega)) ?_
      cbv
      refine ⟨i, _, rfl, hzz, rfl, ?_⟩
      cbv
      refine ⟨false, ?_⟩
      cbv
      refine hcall1 _ _ _ _ _ (CallEv.lend [1, 2] htx rfl (.cons (.own 0 1 0 rfl) (.cons (.p _) .nil)) (wrL rfl rfl rfl rfl) ?_)
      rintro _ _ ⟨n2, e2, ys2, ⟨u1, u2, u3, u4⟩, rfl, rfl⟩
      obtain ⟨rfl, u5⟩ := u3 htt
      replace u2 : n2 ≤ m + 131092 := u2
      cbv
      refine hrd _ ⟨(i + 1, n2, ys2), _, ?_, ⟨hi, u1, ?_, ?_⟩, rfl, ⟨rfl, rfl, rfl, rfl, ?_, trivial⟩, rfl, rfl, rfl, ?_⟩
      · simp only; omega
      · exact big4 u2 g3
      · simp only; rw [hce, u5]; simp [encts]
      · show some (V.p (.int .i64 _)) = _
        rw [hadd1 hi]
      · rw [hB]; exact Nat.zero_le _
    · refine vcIf.no (by first | (simp [hA1.not, hA1.eq, hA1.lt, hA1.le, hA1.cond, hA1.beq, hA1.orb, hL1.len, hL1.slen, hL1.sq, hi]; done) | (simp only [hi]; simp [hA1.not, hA1.eq, hA1.lt, hA1.le, hA1.cond, hA1.beq, hA1.orb, hL1.len, hL1.slen, hL1.sq, hi]; done) | (simp [hA1.not, hA1.eq, hA1.lt, hA1.le, hA1.cond, hA1.beq, hA1.orb, hL1.len, hL1.slen, hL1.sq, hi]; omega) | (simp only [hi]; simp [hA1.not, hA1.eq, hA1.lt, hA1.le, hA1.cond, hA1.beq, hA1.orb, hL1.len, hL1.slen, hL1.sq, hi]; omega)) ?_
      cbv
      rw [List.take_of_length_le (by omega)] at g4
      obtain rfl : i = M := by omega
      have hnn := hn2 m 0 us g2 g3
      refine hcall _ _ _ _ _ (CallEv.lend [1, 2] hnn rfl (.cons (.own 0 1 0 rfl) (.cons (.p _) .nil)) (wrL rfl rfl rfl rfl) ?_)
      rintro _ _ ⟨n2, ys2, u5, u1, u4, rfl⟩
      have hby := wrBytes_spec n2 0 ys2
      have hys : ys2 = bP (encs [r, (sp.length : Int)] ++ sp.flatMap encS ++ encCs ch) := by rw [u5, g4, ← bP_append]
      cbv
      refine hcall _ _ _ _ _ (CallEv.lend [1, 2] hby rfl (.cons (.own 0 1 0 rfl) .nil) (wrL rfl rfl rfl rfl) ?_)
      rintro _ _ ⟨⟨_, rfl⟩ | ⟨he, _⟩, rfl⟩
      rotate_left
      · exact absurd rfl he
      cbv
      refine hret _ (RetEv.retF eOk rfl 2 rfl (by rw [hB]; exact Nat.zero_le _) ⟨ys2, _, 0, hR.symm, hys, .inl ?_⟩)
      show V.p (.tup [.sl ((ys2.drop 0).take n2), .int .i64 0]) = _
      rw [frz_full u1]; rfl
end Go.Proofs.Ytmenbognkdeipaa
