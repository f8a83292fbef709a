/- LFt1, LFt2, LFt3, LFt4 together. Conditions: on sizes. -/
import Derived.Test.YtnigonhkfpnodaaLWr
import Derived.Test.YtnigonhkfpnodaaLCh1
import Derived.Test.YtnigonhkfpnodaaLFr8
set_option maxRecDepth 100000
set_option maxHeartbeats 4000000
set_option linter.unusedSimpArgs false
set_option linter.unusedVariables false
namespace Go.Proofs.Ytnigonhkfpnodaa
section
open Go Go.Lx
open Go.Sx (vcIf)

def encC (c : Chg) : List UInt8 := enc c.kind.toNat ++ (enct c.key ++ enct c.val)
def encCs (l : List Chg) : List UInt8 := enc l.length ++ l.flatMap encC
theorem chk_ok {c : Chg} (h : chk c = 0) : 0 ≤ c.kind ∧ c.kind ≤ 3 ∧ c.key.length ≤ 17 ∧ c.val.length ≤ 64 := by
  unfold chk at h
  split at h
  · split at h
    · simp at h
    · omega
  split at h
  · split at h
    · simp at h
    · omega
  split at h
  · split at h
    · simp at h
    · omega
  · simp at h
theorem chks_mem : ∀ {l : List Chg}, chks l = 0 → ∀ c ∈ l, chk c = 0
  | d :: r, h, c, hc => by
    rw [chks] at h
    split at h
    · rename_i hd; exact absurd h hd
    · rename_i hd
      rcases List.mem_cons.1 hc with rfl | hc
      · simpa using hd
      · exact chks_mem h c hc
theorem chks_of : ∀ {l : List Chg}, (∀ c ∈ l, chk c = 0) → chks l = 0
  | [], _ => rfl
  | d :: r, h => by
    rw [chks, if_neg (by simpa using h d (by simp))]
    exact chks_of fun c hc => h c (by simp [hc])

theorem chg_num3 {n m P n1 n2 a b : Nat} (hab : a + 9 = b) (h3 : m ≤ n + 9 + P) (q1 : n1 ≤ m + 9) (q3 : n2 ≤ n1 + a) : n2 ≤ n + 9 + (P + b) := by omega
theorem chg_num {n m P n1 n2 : Nat} (h3 : m ≤ n + 9 + P) (q1 : n1 ≤ m + 9) (q3 : n2 ≤ n1 + 131092) : n2 ≤ n + 9 + (P + 131101) := chg_num3 (a := 131092) (b := 131101) rfl h3 q1 q3
theorem chgs_spec (l : List Chg) (hl : chks l = 0) (zs : List PV) (hzs : zs = cP l) (n : Nat) (e : Int) (xs : List PV) (hxl : xs.length = n) (hs : n + 131200 * (l.length + 1) ≤ 140737488355328) :
    FnL Try.prog 85 [.own 0 0, .p (.sl zs)] [wrS n e, wrA xs] fun v own => ∃ (n' : Nat) (ys : List PV), ys = xs ++ bP (encCs l) ∧ ys.length = n' ∧ n' ≤ n + 131200 * (l.length + 1) ∧ own = [wrS n' e, wrA ys] := by
  have hzl : zs.length = l.length := by rw [hzs, cP_length]
  obtain ⟨N, hN⟩ : ∃ N, N = l.length := ⟨_, rfl⟩
  have hencl : encCs l = enc N ++ l.flatMap encC := by rw [hN]; rfl
  rw [← hN] at hzl hs ⊢
  have hn0 := wrNums_spec [Int.ofNat N] [.int .i64 (Int.ofNat N)] rfl (fun z hz => by simp at hz; subst hz; omega) n e xs hxl (by simp only [List.length_cons, List.length_nil]; omega)
  refine fn_of_vc eOk fOk fo85 Try.func85 rfl rfl rfl fun B hB => ?_
  intro add sub mul quo rem band bor bxor bclr shl shr ieq ilt ile seq slt beq bnot orb bcond iwrap iof ssz hA cat sq sl imin imax smin smax len slen u8 hL op hop call hcall code hcode ret hret
  have hlen : len zs = Int.ofNat N := by rw [hL.len, hzl]; rfl
  cbv
  rw [hlen]
  refine ⟨false, ?_⟩
  cbv
  refine hcall _ _ _ _ _ (CallEv.lend [0, 1] hn0 rfl (.cons (.own 0 0 0 rfl) (.cons (.p _) .nil)) (wrL rfl rfl rfl rfl) ?_)
  rintro _ _ ⟨n0, e0, ys0, ⟨w1, w2, w3, w4⟩, rfl, rfl⟩
  obtain ⟨rfl, w5⟩ := w3 (fun z hz => by simp at hz; subst hz; omega)
  replace w2 : n0 ≤ n + 9 * 1 := w2
  replace w5 : ys0 = xs ++ bP (enc N) := by rw [w5]; simp [encs]
  cbv
  rw [hlen]
  refine hcode _ _ _ (CodeEv.loop eOk fOk (ι := Nat × Nat × List PV) (fun s => [(0, .own 0 0), (11, .p (.sl zs)), (12, .p (.int .i64 (Int.ofNat N))), (13, .p (.int .i64 (Int.ofNat s.1)))])
    (fun s => [wrS s.2.1 e0, wrA s.2.2]) (fun s => s.1 ≤ N ∧ s.2.2.length = s.2.1 ∧ s.2.1 ≤ n + 9 + 131101 * s.1 ∧ s.2.2 = xs ++ bP (enc N ++ (l.take s.1).flatMap encC)) (fun s => N - s.1) (0, n0, ys0) ?_ ?_)
  · exact ⟨⟨rfl, rfl, rfl, rfl, trivial⟩, rfl, Nat.zero_le _, w1, w2, by simp [w5]⟩
  rintro ⟨i, m, us⟩ ⟨h1, h2, h3, h5⟩ rd hrd
  simp only at h1 h2 h3 h5
  intro add1 sub1 mul1 quo1 rem1 band1 bor1 bxor1 bclr1 shl1 shr1 ieq1 ilt1 ile1 seq1 slt1 beq1 bnot1 orb1 bcond1 iwrap1 iof1 ssz1 hA1 cat1 sq1 sl1 imin1 imax1 smin1 smax1 len1 slen1 u81 hL1 op1 hop1 call1 hcall1 code1 hcode1
  have hadd1 : i < N → add1 .i64 (Int.ofNat i) 1 = Int.ofNat (i + 1) := fun _ => by rw [hA1.add, IntWalk.i64_in _ (by simp only [Int.ofNat_eq_natCast]; omega)]; rfl
  cbv
  by_cases hi : i < N
  · obtain ⟨c, hc⟩ := get_of_lt (show i < l.length by omega)
    have hzz : zs[i]? = some (.agg [.int .i64 c.kind, .str c.key, .str c.val]) := by rw [hzs]; exact cP_get hc
    have hck := chk_ok (chks_mem hl c (List.mem_of_getElem? hc))
    have htk : l.take (i + 1) = l.take i ++ [c] := by rw [List.take_add_one, hc]; rfl
    have hce : xs ++ bP (enc N ++ (l.take (i + 1)).flatMap encC) = us ++ bP (enc c.kind.toNat ++ (enct c.key ++ enct c.val)) := by
      rw [htk, h5, List.flatMap_append, ← List.append_assoc, bP_append (enc N ++ List.flatMap encC (List.take i l)), List.append_assoc]; simp [encC]
    obtain ⟨k, ky, vl⟩ := c
    simp only at hzz hck hce
    obtain ⟨P, hP⟩ : ∃ P, P = 131101 * i := ⟨_, rfl⟩
    obtain ⟨Q, hQ⟩ : ∃ Q, Q = 131200 * N := ⟨_, rfl⟩
    have h6 : P + 131101 ≤ Q := by
      have a1 : 131101 * (i + 1) ≤ 131200 * N := Nat.mul_le_mul (by decide) hi
      rw [Nat.mul_succ] at a1
      rw [hP, hQ]; exact a1
    have hs' : n + Q + 131200 ≤ 140737488355328 := by rw [hQ, Nat.add_assoc, ← Nat.mul_succ]; exact hs
    rw [← hP] at h3
    clear hs
    have hnum := wrNums_spec [k] [.int .i64 k] rfl (fun z hz => by simp at hz; subst hz; omega) m e0 us h2 (by clear hP hQ; simp only [List.length_cons, List.length_nil]; omega)
    have hnn : ∀ z ∈ [k], 0 ≤ z := fun z hz => by simp at hz; subst hz; exact hck.1
    have htt : ∀ s ∈ [ky, vl], s.length ≤ 65536 := fun s hs => by
      simp only [List.mem_cons, List.not_mem_nil, or_false] at hs
      rcases hs with rfl | rfl <;> omega
    have htexts : ∀ (n1 : Nat) (ys1 : List PV), ys1.length = n1 → n1 ≤ m + 9 * [k].length → _ := fun n1 ys1 w1 w2 => wrTexts_spec [ky, vl] [.str ky, .str vl] rfl (fun s hs => by have := htt s hs; omega) n1 e0 ys1 w1 (by clear hP hQ; simp only [List.length_cons, List.length_nil] at w2 ⊢; omega)
    have hend : ∀ (n1 : Nat) (ys1 : List PV) (n2 : Nat) (ys2 : List PV), n1 ≤ m + 9 * [k].length → ys1 = us ++ bP (encs [k]) → n2 ≤ n1 + 65546 * [ky, vl].length → ys2 = ys1 ++ bP (encts [ky, vl]) → n2 ≤ n + 9 + (P + 131101) ∧ ys2 = xs ++ bP (enc N ++ (l.take (i + 1)).flatMap encC) := by
      intro n1 ys1 n2 ys2 q1 q2 q3 q4
      refine ⟨chg_num h3 q1 q3, ?_⟩
      rw [hce, q4, q2]
      simp [encs, encts, bP_append]
    refine vcIf.yes (by first | (simp [hA1.not, hA1.eq, hA1.lt, hA1.le, hA1.cond, hA1.beq, hA1.orb, hL1.len, hL1.slen, hL1.sq, hi]; done) | (simp only [hi]; simp [hA1.not, hA1.eq, hA1.lt, hA1.le, hA1.cond, hA1.beq, hA1.orb, hL1.len, hL1.slen, hL1.sq, hi]; done) | (simp [hA1.not, hA1.eq, hA1.lt, hA1.le, hA1.cond, hA1.beq, hA1.orb, hL1.len, hL1.slen, hL1.sq, hi]; omega) | (simp only [hi]; simp [hA1.not, hA1.eq, hA1.lt, hA1.le, hA1.cond, hA1.beq, hA1.orb, hL1.len, hL1.slen, hL1.sq, hi]; omega)) ?_
    cbv
    refine ⟨i, _, rfl, hzz, rfl, ?_⟩
    cbv
    refine hcode1 _ _ _ (CodeEv.drawT eOk fOk (by kernel_rfl) (Xof 3 [0, 1]) (.rd 0 (.rd 1 (.rd 2 (.rd 5 (.rd 6 (.rd 7 (.rd 8 (.acts (.cons 3 (.acts (.cons 4 (.acts (.cons 9 (.acts (.cons 10 (.done) (.nil))) (.nil))) (.cons 9 (.acts (.cons 4 (.acts (.cons 10 (.done) (.nil))) (.nil))) (.nil)))) (.cons 9 (.acts (.cons 3 (.acts (.cons 4 (.acts (.cons 10 (.done) (.nil))) (.nil))) (.nil))) (.nil))))))))))) (by kernel_rfl) (by kernel_rfl) ?_)
    intro add2 sub2 mul2 quo2 rem2 band2 bor2 bxor2 bclr2 shl2 shr2 ieq2 ilt2 ile2 seq2 slt2 beq2 bnot2 orb2 bcond2 iwrap2 iof2 ssz2 hA2 cat2 sq2 sl2 imin2 imax2 smin2 smax2 len2 slen2 u82 hL2 op2 hop2 call2 hcall2 code2 hcode2 q2 hq2
    cbv
    refine ⟨?_, ?_⟩
    · refine ⟨false, ?_⟩
      cbv
      refine ⟨?_, ?_⟩
      · refine hcall2 _ _ _ _ _ (CallEv.lend [0, 1] hnum rfl (.cons (.own 0 0 0 rfl) (.cons (.p _) .nil)) (wrL rfl rfl rfl rfl) ?_)
        rintro _ _ ⟨n1, e1, ys1, ⟨w1, w2, w3, w4⟩, rfl, rfl⟩
        obtain ⟨rfl, w5⟩ := w3 hnn
        have htx := htexts n1 ys1 w1 w2
        cbv
        refine ⟨false, ?_⟩
        cbv
        refine hcall2 _ _ _ _ _ (CallEv.lend [0, 1] htx rfl (.cons (.own 0 0 0 rfl) (.cons (.p _) .nil)) (wrL rfl rfl rfl rfl) ?_)
        rintro _ _ ⟨n2, e2, ys2, ⟨u1, u2, u3, u4⟩, rfl, rfl⟩
        obtain ⟨rfl, u5⟩ := u3 htt
        have hfin := hend n1 ys1 n2 ys2 w2 w5 u2 u5
        cbv
        refine hq2 _ ?_
        cbv
        refine hrd _ ⟨(i + 1, n2, ys2), _, ?_, ⟨hi, u1, by simp only; rw [Nat.mul_succ, ← hP]; exact hfin.1, hfin.2⟩, rfl, ⟨rfl, rfl, rfl, ?_, trivial⟩, rfl, rfl, rfl, ?_⟩
        · simp only; omega
        · show some (V.p (.int .i64 _)) = _
          rw [hadd1 hi]
        · rw [hB]; exact Nat.le_refl _
      · refine ⟨false, ?_⟩
        cbv
        refine hcall2 _ _ _ _ _ (CallEv.lend [0, 1] hnum rfl (.cons (.own 0 0 0 rfl) (.cons (.p _) .nil)) (wrL rfl rfl rfl rfl) ?_)
        rintro _ _ ⟨n1, e1, ys1, ⟨w1, w2, w3, w4⟩, rfl, rfl⟩
        obtain ⟨rfl, w5⟩ := w3 hnn
        have htx := htexts n1 ys1 w1 w2
        cbv
        refine hcall2 _ _ _ _ _ (CallEv.lend [0, 1] htx rfl (.cons (.own 0 0 0 rfl) (.cons (.p _) .nil)) (wrL rfl rfl rfl rfl) ?_)
        rintro _ _ ⟨n2, e2, ys2, ⟨u1, u2, u3, u4⟩, rfl, rfl⟩
        obtain ⟨rfl, u5⟩ := u3 htt
        have hfin := hend n1 ys1 n2 ys2 w2 w5 u2 u5
        cbv
        refine hq2 _ ?_
        cbv
        refine hrd _ ⟨(i + 1, n2, ys2), _, ?_, ⟨hi, u1, by simp only; rw [Nat.mul_succ, ← hP]; exact hfin.1, hfin.2⟩, rfl, ⟨rfl, rfl, rfl, ?_, trivial⟩, rfl, rfl, rfl, ?_⟩
        · simp only; omega
        · show some (V.p (.int .i64 _)) = _
          rw [hadd1 hi]
        · rw [hB]; exact Nat.le_refl _
    · refine ⟨false, ?_⟩
      cbv
      refine ⟨false, ?_⟩
      cbv
      refine hcall2 _ _ _ _ _ (CallEv.lend [0, 1] hnum rfl (.cons (.own 0 0 0 rfl) (.cons (.p _) .nil)) (wrL rfl rfl rfl rfl) ?_)
      rintro _ _ ⟨n1, e1, ys1, ⟨w1, w2, w3, w4⟩, rfl, rfl⟩
      obtain ⟨rfl, w5⟩ := w3 hnn
      have htx := htexts n1 ys1 w1 w2
      cbv
      refine hcall2 _ _ _ _ _ (CallEv.lend [0, 1] htx rfl (.cons (.own 0 0 0 rfl) (.cons (.p _) .nil)) (wrL rfl rfl rfl rfl) ?_)
      rintro _ _ ⟨n2, e2, ys2, ⟨u1, u2, u3, u4⟩, rfl, rfl⟩
      obtain ⟨rfl, u5⟩ := u3 htt
      have hfin := hend n1 ys1 n2 ys2 w2 w5 u2 u5
      cbv
      refine hq2 _ ?_
      cbv
      refine hrd _ ⟨(i + 1, n2, ys2), _, ?_, ⟨hi, u1, by simp only; rw [Nat.mul_succ, ← hP]; exact hfin.1, hfin.2⟩, rfl, ⟨rfl, rfl, rfl, ?_, trivial⟩, rfl, rfl, rfl, ?_⟩
      · simp only; omega
      · show some (V.p (.int .i64 _)) = _
        rw [hadd1 hi]
      · rw [hB]; exact Nat.le_refl _
  · refine vcIf.no (by first | (simp [hA1.not, hA1.eq, hA1.lt, hA1.le, hA1.cond, hA1.beq, hA1.orb, hL1.len, hL1.slen, hL1.sq, hi]; done) | (simp only [hi]; simp [hA1.not, hA1.eq, hA1.lt, hA1.le, hA1.cond, hA1.beq, hA1.orb, hL1.len, hL1.slen, hL1.sq, hi]; done) | (simp [hA1.not, hA1.eq, hA1.lt, hA1.le, hA1.cond, hA1.beq, hA1.orb, hL1.len, hL1.slen, hL1.sq, hi]; omega) | (simp only [hi]; simp [hA1.not, hA1.eq, hA1.lt, hA1.le, hA1.cond, hA1.beq, hA1.orb, hL1.len, hL1.slen, hL1.sq, hi]; omega)) ?_
    cbv
    rw [List.take_of_length_le (by omega)] at h5
    refine hret _ (RetEv.ret eOk rfl ⟨m, us, by rw [h5, hencl], h2, ?_, rfl⟩)
    have a1 : 131101 * i ≤ 131200 * N := Nat.mul_le_mul (by decide) h1
    rw [Nat.mul_succ]
    generalize 131101 * i = P at *
    generalize 131200 * N = Q at *
    omega
end
section
open Go Go.Lx
open Go.Sx (vcIf)

structure Bat where
  a : Int
  b : Int
  c : Int
  ch : List Chg
def Bat.v (s : Bat) : PV := .agg [.int .i64 s.a, .int .i64 s.b, .int .i64 s.c, .sl (cP s.ch)]
def Bat.okB (s : Bat) : Bool := decide (0 ≤ s.a ∧ 0 ≤ s.b ∧ 0 ≤ s.c ∧ s.ch.length ≤ 4096 ∧ chks s.ch = 0)
def Bat.fit (s : Bat) : Prop := (∀ z ∈ [s.a, s.b, s.c], -9223372036854775808 ≤ z ∧ z ≤ 9223372036854775807) ∧ (∀ c ∈ s.ch, c.fit) ∧ s.ch.length < 9223372036854775807
theorem Bat.ok_iff (s : Bat) : s.okB = true ↔ (0 ≤ s.a ∧ 0 ≤ s.b ∧ 0 ≤ s.c ∧ s.ch.length ≤ 4096 ∧ chks s.ch = 0) := by unfold Bat.okB; rw [decide_eq_true_eq]

theorem frBatch_spec (s : Bat) (hs : s.ch.length < 9223372036854775807) (zs : List PV) (hzs : zs = cP s.ch) :
    FnL Try.prog 84 [.p (.agg [.int .i64 s.a, .int .i64 s.b, .int .i64 s.c, .sl zs])] [] fun v own => ∃ b, b = s.okB ∧ v = .p (.bool b) ∧ own = [] := by
  refine FnL.flat (R := fun v own => ∃ b, b = s.okB ∧ v = .p (.bool b)) ?_ (by rintro _ _ ⟨b, h, rfl⟩; exact ⟨_, _, rfl, .refl _, b, h, rfl, rfl⟩)
  have hR2 := s.ok_iff
  obtain ⟨R, hR⟩ : ∃ R, R = s.okB := ⟨_, rfl⟩
  rw [← hR] at hR2 ⊢
  clear hR
  obtain ⟨g, e, r, ch⟩ := s
  simp only at hs hzs hR2 ⊢
  have hzl : zs.length = ch.length := by rw [hzs, cP_length]
  have hc := all_spec ch hs zs hzs
  obtain ⟨N, hN⟩ : ∃ N, N = ch.length := ⟨_, rfl⟩
  rw [← hN] at hzl hR2
  have hmin : ∀ {imin : Int → Int → Int}, (∀ a b, imin a b = if b < a then b else a) → (0 ≤ imin (imin g e) r ↔ (0 ≤ g ∧ 0 ≤ e ∧ 0 ≤ r)) := fun h => by
    rw [h, h]; split <;> split <;> omega
  refine fn_of_vc eOk fOk fo84 Try.func84 rfl rfl rfl fun B hB => ?_
  intro add sub mul quo rem band bor bxor bclr shl shr ieq ilt ile seq slt beq bnot orb bcond iwrap iof ssz hA cat sq sl imin imax smin smax len slen u8 hL op hop call hcall code hcode ret hret
  have hm := hmin hL.imin
  obtain ⟨mn, hmn⟩ : ∃ m, m = imin (imin g e) r := ⟨_, rfl⟩
  rw [← hmn] at hm
  cbv
  rw [← hmn]
  by_cases h1 : 0 ≤ mn
  rotate_left
  · have : R = false := by rw [Bool.eq_false_iff]; exact fun c => h1 (hm.2 (by have := hR2.1 c; exact ⟨this.1, this.2.1, this.2.2.1⟩))
    refine vcIf.no (by first | (simp [hA.not, hA.eq, hA.lt, hA.le, hA.cond, hA.beq, hA.orb, hL.len, hL.slen, hL.sq, h1]; done) | (simp only [h1]; simp [hA.not, hA.eq, hA.lt, hA.le, hA.cond, hA.beq, hA.orb, hL.len, hL.slen, hL.sq, h1]; done) | (simp [hA.not, hA.eq, hA.lt, hA.le, hA.cond, hA.beq, hA.orb, hL.len, hL.slen, hL.sq, h1]; omega) | (simp only [h1]; simp [hA.not, hA.eq, hA.lt, hA.le, hA.cond, hA.beq, hA.orb, hL.len, hL.slen, hL.sq, h1]; omega)) ?_
    cbv
    repeat (first | (refine vcIf.yes ?_ ?_; (focus (simp [hA.not, hA.eq, hA.lt, hA.le, hA.cond, hA.beq, hA.orb, hL.len, hL.slen, hL.sq]; done)); cbv) | (refine vcIf.no ?_ ?_; (focus (simp [hA.not, hA.eq, hA.lt, hA.le, hA.cond, hA.beq, hA.orb, hL.len, hL.slen, hL.sq]; done)); cbv) | fail)
    exact hret _ (RetEv.ret eOk rfl ⟨false, this.symm, rfl⟩)
  refine vcIf.yes (by first | (simp [hA.not, hA.eq, hA.lt, hA.le, hA.cond, hA.beq, hA.orb, hL.len, hL.slen, hL.sq, h1]; done) | (simp only [h1]; simp [hA.not, hA.eq, hA.lt, hA.le, hA.cond, hA.beq, hA.orb, hL.len, hL.slen, hL.sq, h1]; done) | (simp [hA.not, hA.eq, hA.lt, hA.le, hA.cond, hA.beq, hA.orb, hL.len, hL.slen, hL.sq, h1]; omega) | (simp only [h1]; simp [hA.not, hA.eq, hA.lt, hA.le, hA.cond, hA.beq, hA.orb, hL.len, hL.slen, hL.sq, h1]; omega)) ?_
  cbv
  by_cases h2 : N ≤ 4096
  rotate_left
  · have : R = false := by rw [Bool.eq_false_iff]; exact fun c => h2 (hR2.1 c).2.2.2.1
    refine vcIf.no (by first | (simp [hA.not, hA.eq, hA.lt, hA.le, hA.cond, hA.beq, hA.orb, hL.len, hL.slen, hL.sq, hzl, h2]; done) | (simp only [hzl, h2]; simp [hA.not, hA.eq, hA.lt, hA.le, hA.cond, hA.beq, hA.orb, hL.len, hL.slen, hL.sq, hzl, h2]; done) | (simp [hA.not, hA.eq, hA.lt, hA.le, hA.cond, hA.beq, hA.orb, hL.len, hL.slen, hL.sq, hzl, h2]; omega) | (simp only [hzl, h2]; simp [hA.not, hA.eq, hA.lt, hA.le, hA.cond, hA.beq, hA.orb, hL.len, hL.slen, hL.sq, hzl, h2]; omega)) ?_
    cbv
    repeat (first | (refine vcIf.yes ?_ ?_; (focus (simp [hA.not, hA.eq, hA.lt, hA.le, hA.cond, hA.beq, hA.orb, hL.len, hL.slen, hL.sq]; done)); cbv) | (refine vcIf.no ?_ ?_; (focus (simp [hA.not, hA.eq, hA.lt, hA.le, hA.cond, hA.beq, hA.orb, hL.len, hL.slen, hL.sq]; done)); cbv) | fail)
    exact hret _ (RetEv.ret eOk rfl ⟨false, this.symm, rfl⟩)
  refine vcIf.yes (by first | (simp [hA.not, hA.eq, hA.lt, hA.le, hA.cond, hA.beq, hA.orb, hL.len, hL.slen, hL.sq, hzl, h2]; done) | (simp only [hzl, h2]; simp [hA.not, hA.eq, hA.lt, hA.le, hA.cond, hA.beq, hA.orb, hL.len, hL.slen, hL.sq, hzl, h2]; done) | (simp [hA.not, hA.eq, hA.lt, hA.le, hA.cond, hA.beq, hA.orb, hL.len, hL.slen, hL.sq, hzl, h2]; omega) | (simp only [hzl, h2]; simp [hA.not, hA.eq, hA.lt, hA.le, hA.cond, hA.beq, hA.orb, hL.len, hL.slen, hL.sq, hzl, h2]; omega)) ?_
  cbv
  refine hcall _ _ _ _ _ (CallEv.same hc rfl ?_)
  rintro _ _ ⟨b, hb, rfl, rfl⟩
  have hbR : decide (b = 0) = R := by
    rw [Bool.eq_iff_iff, hR2, decide_eq_true_eq, hb]
    obtain ⟨k1, k2, k3⟩ := hm.1 h1
    exact ⟨fun h => ⟨k1, k2, k3, h2, h⟩, fun h => h.2.2.2.2⟩
  cbv
  refine hret _ (RetEv.ret eOk rfl ⟨_, hbR, ?_⟩)
  show V.p (.bool (bcond true (ieq _ _) false)) = _
  rw [hA.cond, hA.eq]
  refine congrArg (fun x => V.p (.bool x)) ?_
  rw [Bool.eq_iff_iff]
  simp [beq_iff_eq]
end
section
open Go Go.Lx
open Go.Sx (vcIf)

end
section
open Go Go.Lx
open Go.Sx (vcIf)

def bBytes (s : Bat) : List UInt8 := encs [s.a, s.b, s.c] ++ encCs s.ch
def bEnc (s : Bat) : List UInt8 × Nat := if s.okB = true then (bBytes s, 0) else ([], 2)
theorem iP3 (a b c : Int) : iP [a, b, c] = [PV.int .i64 a, PV.int .i64 b, PV.int .i64 c] := rfl
theorem big1 {n N : Nat} (h : n ≤ 0 + 27) (h2 : N ≤ 4096) : n + 131200 * (N + 1) ≤ 140737488355328 := by
  exact Nat.le_trans (Nat.add_le_add h (Nat.mul_le_mul_left _ (Nat.succ_le_succ h2))) (by decide)
theorem frPutBatch_spec (s : Bat) (hs : s.fit) (zs : List PV) (hzs : zs = cP s.ch) :
    FnL Try.prog 48 [.p (.agg [.int .i64 s.a, .int .i64 s.b, .int .i64 s.c, .sl zs])] [] (bytesR (bEnc s)) := by
  refine bytesR.of ?_
  have hst := frBatch_spec s hs.2.2 zs hzs
  have hok := s.ok_iff
  obtain ⟨R, hR⟩ : ∃ R, R = bEnc s := ⟨_, rfl⟩
  rw [← hR]
  unfold bEnc at hR
  obtain ⟨g, e, r, ch⟩ := s
  unfold bBytes at hR
  obtain ⟨hs1, hs2, hs3⟩ := hs
  simp only at hst hok hR hzs hs1 hs2 hs3 ⊢
  have hzl : zs.length = ch.length := by rw [hzs, cP_length]
  refine fn_of_vc eOk fOk fo48 Try.func48 rfl rfl rfl fun B hB => ?_
  intro add sub mul quo rem band bor bxor bclr shl shr ieq ilt ile seq slt beq bnot orb bcond iwrap iof ssz hA cat sq sl imin imax smin smax len slen u8 hL op hop call hcall code hcode ret hret
  cbv
  refine hcall _ _ _ _ _ (CallEv.same hst rfl ?_)
  rintro _ _ ⟨b, hb, rfl, rfl⟩
  rw [← hb] at hok hR
  cbv
  cases b with
  | false =>
    rw [if_neg (by decide)] at hR
    repeat (first | (refine vcIf.yes ?_ ?_; (focus (simp [hA.not, hA.eq, hA.lt, hA.le, hA.cond, hA.beq, hA.orb, hL.len, hL.slen, hL.sq]; done)); cbv) | (refine vcIf.no ?_ ?_; (focus (simp [hA.not, hA.eq, hA.lt, hA.le, hA.cond, hA.beq, hA.orb, hL.len, hL.slen, hL.sq]; done)); cbv) | fail)
    exact hret _ (RetEv.ret eOk rfl ⟨[], [], 2, hR.symm, rfl, .inr ⟨rfl, rfl⟩⟩)
  | true =>
    rw [if_pos rfl] at hR
    obtain ⟨k1, k2, k3, k4, k5⟩ := hok.1 rfl
    have hn1 := wr0_of (wrNums_spec [g, e, r] _ rfl (fun z hz => by
      simp only [List.mem_cons, List.not_mem_nil, or_false] at hz
      rcases hz with rfl | rfl | rfl
      · exact (hs1 _ (by simp)).2
      · exact (hs1 _ (by simp)).2
      · exact (hs1 _ (by simp)).2) 0 0 [] rfl (by simp))
    rw [iP3] at hn1
    have hok1 : ∀ z ∈ [g, e, r], (0 : Int) ≤ z := fun z hz => by
      simp only [List.mem_cons, List.not_mem_nil, or_false] at hz
      rcases hz with rfl | rfl | rfl
      · exact k1
      · exact k2
      · exact k3
    have hn2 := fun (n1 : Nat) (e1 : Int) (ys1 : List PV) (w1 : ys1.length = n1) (w2 : n1 ≤ 0 + 9 * [g, e, r].length) => chgs_spec ch k5 zs hzs n1 e1 ys1 w1 (big1 w2 k4)
    cbv
    repeat (first | (refine vcIf.yes ?_ ?_; (focus (simp [hA.not, hA.eq, hA.lt, hA.le, hA.cond, hA.beq, hA.orb, hL.len, hL.slen, hL.sq]; done)); cbv) | (refine vcIf.no ?_ ?_; (focus (simp [hA.not, hA.eq, hA.lt, hA.le, hA.cond, hA.beq, hA.orb, hL.len, hL.slen, hL.sq]; done)); cbv) | fail)
    refine hcode _ _ _ (CodeEv.drawA eOk fOk (by kernel_rfl) (Xof 1 []) (by kernel_rfl) (by kernel_rfl) (by kernel_rfl) ?_)
    intro add2 sub2 mul2 quo2 rem2 band2 bor2 bxor2 bclr2 shl2 shr2 ieq2 ilt2 ile2 seq2 slt2 beq2 bnot2 orb2 bcond2 iwrap2 iof2 ssz2 hA2 cat2 sq2 sl2 imin2 imax2 smin2 smax2 len2 slen2 u82 hL2 op2 hop2 call2 hcall2 code2 hcode2 q2 hq2
    cbv
    refine ⟨false, ?_⟩
    cbv
    refine hcall2 _ _ _ _ _ (CallEv.lend [1] hn1 rfl (.cons (.own 0 1 0 rfl) (.cons (.p _) .nil)) (wrL0 rfl) ?_)
    rintro _ _ ⟨n1, e1, ys1, ⟨w1, w2, w3, w4⟩, rfl, rfl⟩
    have hnn := hn2 n1 e1 ys1 w1 w2
    obtain ⟨rfl, w5⟩ := w3 hok1
    cbv
    refine hcall2 _ _ _ _ _ (CallEv.lend [1, 2] hnn rfl (.cons (.own 0 1 0 rfl) (.cons (.p _) .nil)) (wrL rfl rfl rfl rfl) ?_)
    rintro _ _ ⟨n2, ys2, u5, u1, u4, rfl⟩
    have hby := wrBytes_spec n2 0 ys2
    have hys : ys2 = bP (encs [g, e, r] ++ encCs ch) := by rw [u5, w5, List.nil_append, ← bP_append]
    cbv
    refine hq2 _ ?_
    cbv
    refine hcall _ _ _ _ _ (CallEv.lend [1, 2] hby rfl (.cons (.own 0 1 0 rfl) .nil) (wrL rfl rfl rfl rfl) ?_)
    rintro _ _ ⟨⟨_, rfl⟩ | ⟨he, _⟩, rfl⟩
    rotate_left
    · exact absurd rfl he
    cbv
    refine hret _ (RetEv.retF eOk rfl 2 rfl (by rw [hB]; exact Nat.zero_le _) ⟨ys2, _, 0, hR.symm, hys, .inl ?_⟩)
    show V.p (.tup [.sl ((ys2.drop 0).take n2), .int .i64 0]) = _
    rw [frz_full u1]; rfl
end
end Go.Proofs.Ytnigonhkfpnodaa
