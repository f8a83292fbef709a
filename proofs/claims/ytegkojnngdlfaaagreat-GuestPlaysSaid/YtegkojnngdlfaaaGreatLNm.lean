/- LFt1, LFt2, LFt3, LFt4, LFt5, LFt6, LFt7, LFt8, LFt9 together. Conditions: on sizes. -/
import Derived.Test.YtegkojnngdlfaaaGreatLMm
import Derived.Test.YtegkojnngdlfaaaGreatLCh1
set_option maxRecDepth 100000
set_option maxHeartbeats 4000000
set_option linter.unusedSimpArgs false
set_option linter.unusedVariables false
section
namespace Go.Proofs.YtegkojnngdlfaaaGreat
open Go Go.Lx
open Go.Sx (vcIf)
def encC (c : Chg) : List UInt8 := enc c.kind.toNat ++ (enct c.key ++ enct c.val)
def encCs (l : List Chg) : List UInt8 := enc l.length ++ l.flatMap encC
theorem chk_ok {c : Chg} (h : chk c = 0) : 0 ≤ c.kind ∧ c.kind ≤ 3 ∧ c.key.length ≤ 17 ∧ c.val.length ≤ 64 := by
  unfold chk at h
  split at h
  · split at h
    · simp at h
    · omega
  split at h
  · split at h
    · simp at h
    · omega
  split at h
  · split at h
    · simp at h
    · omega
  · simp at h
theorem chks_mem : ∀ {l : List Chg}, chks l = 0 → ∀ c ∈ l, chk c = 0
  | d :: r, h, c, hc => by
    rw [chks] at h
    split at h
    · rename_i hd; exact absurd h hd
    · rename_i hd
      rcases List.mem_cons.1 hc with rfl | hc
      · simpa using hd
      · exact chks_mem h c hc
theorem chks_of : ∀ {l : List Chg}, (∀ c ∈ l, chk c = 0) → chks l = 0
  | [], _ => rfl
  | d :: r, h => by
    rw [chks, if_neg (by simpa using h d (by simp))]
    exact chks_of fun c hc => h c (by simp [hc])
theorem chg_num3 {n m P n1 n2 a b : Nat} (hab : a + 9 = b) (h3 : m ≤ n + 9 + P) (q1 : n1 ≤ m + 9) (q3 : n2 ≤ n1 + a) : n2 ≤ n + 9 + (P + b) := by omega
theorem chg_num {n m P n1 n2 : Nat} (h3 : m ≤ n + 9 + P) (q1 : n1 ≤ m + 9) (q3 : n2 ≤ n1 + 131092) : n2 ≤ n + 9 + (P + 131101) := chg_num3 (a := 131092) (b := 131101) rfl h3 q1 q3
theorem chgs_spec (l : List Chg) (hl : chks l = 0) (zs : List PV) (hzs : zs = cP l) (n : Nat) (e : Int) (xs : List PV) (hxl : xs.length = n) (hs : n + 131200 * (l.length + 1) ≤ 140737488355328) :
    FnL Tryz.prog 52 [.own 0 0, .p (.sl zs)] [wrS n e, wrA xs] fun v own => ∃ (n' : Nat) (ys : List PV), ys = xs ++ bP (encCs l) ∧ ys.length = n' ∧ n' ≤ n + 131200 * (l.length + 1) ∧ own = [wrS n' e, wrA ys] := by
  have hzl : zs.length = l.length := by rw [hzs, cP_length]
  obtain ⟨N, hN⟩ : ∃ N, N = l.length := ⟨_, rfl⟩
  have hencl : encCs l = enc N ++ l.flatMap encC := by rw [hN]; rfl
  rw [← hN] at hzl hs ⊢
  have hn0 := wrNums_spec [Int.ofNat N] [.int .i64 (Int.ofNat N)] rfl (fun z hz => by simp at hz; subst hz; omega) n e xs hxl (by simp only [List.length_cons, List.length_nil]; omega)
  refine fn_of_vc eOk fOk fo52 Tryz.func52 rfl rfl rfl fun B hB => ?_
  intro add _ _ _ _ _ _ _ _ _ _ _ _ _ _ _ _ _ _ _ _ _ _ _ _ _ sl _ _ _ _ len _ _ hL _ _ _ hcall _ hcode ret hret
  have hlen : len zs = Int.ofNat N := by rw [hL.len, hzl]; rfl
  cbv
  rw [hlen]
  refine ⟨false, ?_⟩
  cbv
  refine hcall _ _ _ _ _ (CallEv.lend [0, 1] hn0 rfl (.cons (.own 0 0 0 rfl) (.cons (.p _) .nil)) (wrL rfl rfl rfl rfl) ?_)
  rintro _ _ ⟨n0, e0, ys0, ⟨w1, w2, w3, w4⟩, rfl, rfl⟩
  obtain ⟨rfl, w5⟩ := w3 (fun z hz => by simp at hz; subst hz; omega)
  replace w2 : n0 ≤ n + 9 * 1 := w2
  replace w5 : ys0 = xs ++ bP (enc N) := by rw [w5]; simp [encs]
  cbv
  rw [hlen]
  refine hcode _ _ _ (CodeEv.loop eOk fOk (ι := Nat × Nat × List PV) (fun s => [(0, .own 0 0), (11, .p (.sl zs)), (12, .p (.int .i64 (Int.ofNat N))), (13, .p (.int .i64 (Int.ofNat s.1)))])
    (fun s => [wrS s.2.1 e0, wrA s.2.2]) (fun s => s.1 ≤ N ∧ s.2.2.length = s.2.1 ∧ s.2.1 ≤ n + 9 + 131101 * s.1 ∧ s.2.2 = xs ++ bP (enc N ++ (l.take s.1).flatMap encC)) (fun s => N - s.1) (0, n0, ys0) ?_ ?_)
  · exact ⟨⟨rfl, rfl, rfl, rfl, trivial⟩, rfl, Nat.zero_le _, w1, w2, by simp [w5]⟩
  rintro ⟨i, m, us⟩ ⟨h1, h2, h3, h5⟩ rd hrd
  simp only at h1 h2 h3 h5
  intro add1 _ _ _ _ _ _ _ _ _ _ _ _ _ _ _ _ _ _ _ _ _ _ hA1 _ _ _ _ _ _ _ _ _ _ hL1 _ _ _ _ _ hcode1
  have hadd1 : i < N → add1 .i64 (Int.ofNat i) 1 = Int.ofNat (i + 1) := fun _ => by rw [hA1.add, IntWalk.i64_in _ (by simp only [Int.ofNat_eq_natCast]; omega)]; rfl
  cbv
  by_cases hi : i < N
  · obtain ⟨c, hc⟩ := get_of_lt (show i < l.length by omega)
    have hzz : zs[i]? = some (.agg [.int .i64 c.kind, .str c.key, .str c.val]) := by rw [hzs]; exact cP_get hc
    have hck := chk_ok (chks_mem hl c (List.mem_of_getElem? hc))
    have htk : l.take (i + 1) = l.take i ++ [c] := by rw [List.take_add_one, hc]; rfl
    have hce : xs ++ bP (enc N ++ (l.take (i + 1)).flatMap encC) = us ++ bP (enc c.kind.toNat ++ (enct c.key ++ enct c.val)) := by
      rw [htk, h5, List.flatMap_append, ← List.append_assoc, bP_append (enc N ++ List.flatMap encC (List.take i l)), List.append_assoc]; simp [encC]
    obtain ⟨k, ky, vl⟩ := c
    simp only at hzz hck hce
    obtain ⟨P, hP⟩ : ∃ P, P = 131101 * i := ⟨_, rfl⟩
    obtain ⟨Q, hQ⟩ : ∃ Q, Q = 131200 * N := ⟨_, rfl⟩
    have h6 : P + 131101 ≤ Q := by
      have a1 : 131101 * (i + 1) ≤ 131200 * N := Nat.mul_le_mul (by decide) hi
      rw [Nat.mul_succ] at a1
      rw [hP, hQ]; exact a1
    have hs' : n + Q + 131200 ≤ 140737488355328 := by rw [hQ, Nat.add_assoc, ← Nat.mul_succ]; exact hs
    rw [← hP] at h3
    clear hs
    have hnum := wrNums_spec [k] [.int .i64 k] rfl (fun z hz => by simp at hz; subst hz; omega) m e0 us h2 (by clear hP hQ; simp only [List.length_cons, List.length_nil]; omega)
    have hnn : ∀ z ∈ [k], 0 ≤ z := fun z hz => by simp at hz; subst hz; exact hck.1
    have htt : ∀ s ∈ [ky, vl], s.length ≤ 65536 := fun s hs => by
      simp only [List.mem_cons, List.not_mem_nil, or_false] at hs
      rcases hs with rfl | rfl <;> omega
    have htexts : ∀ (n1 : Nat) (ys1 : List PV), ys1.length = n1 → n1 ≤ m + 9 * [k].length → _ := fun n1 ys1 w1 w2 => wrTexts_spec [ky, vl] [.str ky, .str vl] rfl (fun s hs => by have := htt s hs; omega) n1 e0 ys1 w1 (by clear hP hQ; simp only [List.length_cons, List.length_nil] at w2 ⊢; omega)
    have hend : ∀ (n1 : Nat) (ys1 : List PV) (n2 : Nat) (ys2 : List PV), n1 ≤ m + 9 * [k].length → ys1 = us ++ bP (encs [k]) → n2 ≤ n1 + 65546 * [ky, vl].length → ys2 = ys1 ++ bP (encts [ky, vl]) → n2 ≤ n + 9 + (P + 131101) ∧ ys2 = xs ++ bP (enc N ++ (l.take (i + 1)).flatMap encC) := by
      intro n1 ys1 n2 ys2 q1 q2 q3 q4
      refine ⟨chg_num h3 q1 q3, ?_⟩
      rw [hce, q4, q2]
      simp [encs, encts, bP_append]
    refine vcIf.yes (by first | (simp [smW hA1 hL1, hi]; done) | (simp only [hi]; simp [smW hA1 hL1, hi]; done) | (simp [smW hA1 hL1, hi]; omega) | (simp only [hi]; simp [smW hA1 hL1, hi]; omega)) ?_
    cbv
    refine ⟨i, _, rfl, hzz, rfl, ?_⟩
    cbv
    refine hcode1 _ _ _ (CodeEv.drawT eOk fOk (by kernel_rfl) (Xof 3 [0, 1]) (.rd 0 (.rd 1 (.rd 2 (.rd 5 (.rd 6 (.rd 7 (.rd 8 (.acts (.cons 3 (.acts (.cons 4 (.acts (.cons 9 (.acts (.cons 10 (.done) (.nil))) (.nil))) (.cons 9 (.acts (.cons 4 (.acts (.cons 10 (.done) (.nil))) (.nil))) (.nil)))) (.cons 9 (.acts (.cons 3 (.acts (.cons 4 (.acts (.cons 10 (.done) (.nil))) (.nil))) (.nil))) (.nil))))))))))) (by kernel_rfl) (by kernel_rfl) ?_)
    intro _ _ _ _ _ _ _ _ _ _ _ _ _ _ _ _ _ _ _ _ _ _ _ _ _ _ _ _ _ _ _ _ _ _ _ _ _ _ hcall2 _ _ q2 hq2
    cbv
    refine ⟨?_, ?_⟩
    · refine ⟨false, ?_⟩
      cbv
      refine ⟨?_, ?_⟩
      · refine hcall2 _ _ _ _ _ (CallEv.lend [0, 1] hnum rfl (.cons (.own 0 0 0 rfl) (.cons (.p _) .nil)) (wrL rfl rfl rfl rfl) ?_)
        rintro _ _ ⟨n1, e1, ys1, ⟨w1, w2, w3, w4⟩, rfl, rfl⟩
        obtain ⟨rfl, w5⟩ := w3 hnn
        have htx := htexts n1 ys1 w1 w2
        cbv
        refine ⟨false, ?_⟩
        cbv
        refine hcall2 _ _ _ _ _ (CallEv.lend [0, 1] htx rfl (.cons (.own 0 0 0 rfl) (.cons (.p _) .nil)) (wrL rfl rfl rfl rfl) ?_)
        rintro _ _ ⟨n2, e2, ys2, ⟨u1, u2, u3, u4⟩, rfl, rfl⟩
        obtain ⟨rfl, u5⟩ := u3 htt
        have hfin := hend n1 ys1 n2 ys2 w2 w5 u2 u5
        cbv
        refine hq2 _ ?_
        cbv
        refine hrd _ ⟨(i + 1, n2, ys2), _, ?_, ⟨hi, u1, by simp only; rw [Nat.mul_succ, ← hP]; exact hfin.1, hfin.2⟩, rfl, ⟨rfl, rfl, rfl, ?_, trivial⟩, rfl, rfl, rfl, ?_⟩
        · simp only; omega
        · show some (V.p (.int .i64 _)) = _
          rw [hadd1 hi]
        · rw [hB]; exact Nat.le_refl _
      · refine ⟨false, ?_⟩
        cbv
        refine hcall2 _ _ _ _ _ (CallEv.lend [0, 1] hnum rfl (.cons (.own 0 0 0 rfl) (.cons (.p _) .nil)) (wrL rfl rfl rfl rfl) ?_)
        rintro _ _ ⟨n1, e1, ys1, ⟨w1, w2, w3, w4⟩, rfl, rfl⟩
        obtain ⟨rfl, w5⟩ := w3 hnn
        have htx := htexts n1 ys1 w1 w2
        cbv
        refine hcall2 _ _ _ _ _ (CallEv.lend [0, 1] htx rfl (.cons (.own 0 0 0 rfl) (.cons (.p _) .nil)) (wrL rfl rfl rfl rfl) ?_)
        rintro _ _ ⟨n2, e2, ys2, ⟨u1, u2, u3, u4⟩, rfl, rfl⟩
        obtain ⟨rfl, u5⟩ := u3 htt
        have hfin := hend n1 ys1 n2 ys2 w2 w5 u2 u5
        cbv
        refine hq2 _ ?_
        cbv
        refine hrd _ ⟨(i + 1, n2, ys2), _, ?_, ⟨hi, u1, by simp only; rw [Nat.mul_succ, ← hP]; exact hfin.1, hfin.2⟩, rfl, ⟨rfl, rfl, rfl, ?_, trivial⟩, rfl, rfl, rfl, ?_⟩
        · simp only; omega
        · show some (V.p (.int .i64 _)) = _
          rw [hadd1 hi]
        · rw [hB]; exact Nat.le_refl _
    · refine ⟨false, ?_⟩
      cbv
      refine ⟨false, ?_⟩
      cbv
      refine hcall2 _ _ _ _ _ (CallEv.lend [0, 1] hnum rfl (.cons (.own 0 0 0 rfl) (.cons (.p _) .nil)) (wrL rfl rfl rfl rfl) ?_)
      rintro _ _ ⟨n1, e1, ys1, ⟨w1, w2, w3, w4⟩, rfl, rfl⟩
      obtain ⟨rfl, w5⟩ := w3 hnn
      have htx := htexts n1 ys1 w1 w2
      cbv
      refine hcall2 _ _ _ _ _ (CallEv.lend [0, 1] htx rfl (.cons (.own 0 0 0 rfl) (.cons (.p _) .nil)) (wrL rfl rfl rfl rfl) ?_)
      rintro _ _ ⟨n2, e2, ys2, ⟨u1, u2, u3, u4⟩, rfl, rfl⟩
      obtain ⟨rfl, u5⟩ := u3 htt
      have hfin := hend n1 ys1 n2 ys2 w2 w5 u2 u5
      cbv
      refine hq2 _ ?_
      cbv
      refine hrd _ ⟨(i + 1, n2, ys2), _, ?_, ⟨hi, u1, by simp only; rw [Nat.mul_succ, ← hP]; exact hfin.1, hfin.2⟩, rfl, ⟨rfl, rfl, rfl, ?_, trivial⟩, rfl, rfl, rfl, ?_⟩
      · simp only; omega
      · show some (V.p (.int .i64 _)) = _
        rw [hadd1 hi]
      · rw [hB]; exact Nat.le_refl _
  · refine vcIf.no (by first | (simp [smW hA1 hL1, hi]; done) | (simp only [hi]; simp [smW hA1 hL1, hi]; done) | (simp [smW hA1 hL1, hi]; omega) | (simp only [hi]; simp [smW hA1 hL1, hi]; omega)) ?_
    cbv
    rw [List.take_of_length_le (by omega)] at h5
    refine hret _ (RetEv.ret eOk rfl ⟨m, us, by rw [h5, hencl], h2, ?_, rfl⟩)
    have a1 : 131101 * i ≤ 131200 * N := Nat.mul_le_mul (by decide) h1
    rw [Nat.mul_succ]
    generalize 131101 * i = P at *
    generalize 131200 * N = Q at *
    omega
end Go.Proofs.YtegkojnngdlfaaaGreat
end
section
namespace Go.Proofs.YtegkojnngdlfaaaGreat
open Go Go.Lx
open Go.Sx (vcIf)
structure Bat where
  a : Int
  b : Int
  c : Int
  ch : List Chg
def Bat.v (s : Bat) : PV := .agg [.int .i64 s.a, .int .i64 s.b, .int .i64 s.c, .sl (cP s.ch)]
def Bat.okB (s : Bat) : Bool := decide (0 ≤ s.a ∧ 0 ≤ s.b ∧ 0 ≤ s.c ∧ s.ch.length ≤ 4096 ∧ chks s.ch = 0)
def Bat.fit (s : Bat) : Prop := (∀ z ∈ [s.a, s.b, s.c], -9223372036854775808 ≤ z ∧ z ≤ 9223372036854775807) ∧ (∀ c ∈ s.ch, c.fit) ∧ s.ch.length < 9223372036854775807
theorem Bat.ok_iff (s : Bat) : s.okB = true ↔ (0 ≤ s.a ∧ 0 ≤ s.b ∧ 0 ≤ s.c ∧ s.ch.length ≤ 4096 ∧ chks s.ch = 0) := by unfold Bat.okB; rw [decide_eq_true_eq]
end Go.Proofs.YtegkojnngdlfaaaGreat
end
section
namespace Go.Proofs.YtegkojnngdlfaaaGreat
open Go Go.Lx
open Go.Sx (vcIf)
end Go.Proofs.YtegkojnngdlfaaaGreat
end
section
namespace Go.Proofs.YtegkojnngdlfaaaGreat
open Go Go.Lx
open Go.Sx (vcIf)
end Go.Proofs.YtegkojnngdlfaaaGreat
end
section
namespace Go.Proofs.YtegkojnngdlfaaaGreat
open Go Go.Lx
open Go.Sx (vcIf)
def rdG (l : List UInt8) (e : Nat) : Chg × List UInt8 × Nat :=
  (⟨((rdN l e).1 : Int), (rdT (rdN l e).2.1 (rdN l e).2.2).1, (rdT (rdT (rdN l e).2.1 (rdN l e).2.2).2.1 (rdT (rdN l e).2.1 (rdN l e).2.2).2.2).1⟩, (rdT (rdT (rdN l e).2.1 (rdN l e).2.2).2.1 (rdT (rdN l e).2.1 (rdN l e).2.2).2.2).2)
def rdGsT : Nat → List UInt8 → Nat → List Chg × List UInt8 × Nat
  | 0, l, e => ([], l, e)
  | k + 1, l, e => ((rdGsT k l e).1 ++ [(rdG (rdGsT k l e).2.1 (rdGsT k l e).2.2).1], (rdG (rdGsT k l e).2.1 (rdGsT k l e).2.2).2)
theorem rdT_bad {l : List UInt8} {e : Nat} (h : e ≠ 0) : rdT l e = ([], l, e) := by unfold rdT; rw [if_pos h]
theorem rdG_bad {l : List UInt8} {e : Nat} (h : e ≠ 0) : (rdG l e).2 = (l, e) := by
  unfold rdG
  simp only [rdN_bad h, rdT_bad h]
theorem rdG_of {l l1 l2 l3 k v : List UInt8} {e e1 e2 e3 n : Nat} (h1 : (n, l1, e1) = rdN l e) (h2 : (k, l2, e2) = rdT l1 e1) (h3 : (v, l3, e3) = rdT l2 e2) : rdG l e = (⟨(n : Int), k, v⟩, l3, e3) := by
  unfold rdG; rw [← h1]; simp only; rw [← h2]; simp only; rw [← h3]
theorem rdG_len (l : List UInt8) (e : Nat) : (rdG l e).2.1.length ≤ l.length := by
  obtain ⟨⟨n, l1, e1⟩, h1⟩ : ∃ r, r = rdN l e := ⟨_, rfl⟩
  obtain ⟨⟨k, l2, e2⟩, h2⟩ : ∃ r, r = rdT l1 e1 := ⟨_, rfl⟩
  obtain ⟨⟨v, l3, e3⟩, h3⟩ : ∃ r, r = rdT l2 e2 := ⟨_, rfl⟩
  rw [rdG_of h1 h2 h3]
  have := rdN_len h1; have := (rdT_len h2).2; have := (rdT_len h3).2
  simp only; omega
theorem rdGsT_len : ∀ (k : Nat) (l : List UInt8) (e : Nat), (rdGsT k l e).1.length = k ∧ (rdGsT k l e).2.1.length ≤ l.length
  | 0, l, e => ⟨rfl, Nat.le_refl _⟩
  | k + 1, l, e => by
    have h := rdGsT_len k l e
    have h2 := rdG_len (rdGsT k l e).2.1 (rdGsT k l e).2.2
    rw [rdGsT]
    exact ⟨by simp [h.1], Nat.le_trans h2 h.2⟩
theorem rdGsT_bad {l : List UInt8} {e : Nat} : ∀ (k i : Nat), i ≤ k → (rdGsT i l e).2.2 ≠ 0 → (rdGsT k l e).2.2 ≠ 0
  | 0, i, h, hb => by obtain rfl : i = 0 := by omega
                      exact hb
  | k + 1, i, h, hb => by
    rcases Nat.lt_or_ge k i with c | c
    · obtain rfl : i = k + 1 := by omega
      exact hb
    · have := rdGsT_bad k i c hb
      rw [rdGsT, rdG_bad this]
      exact this
structure CI where
  i : Nat
  r : Nat
  ys : List PV
  e : Nat
  zs : List PV
end Go.Proofs.YtegkojnngdlfaaaGreat
end
section
namespace Go.Proofs.YtegkojnngdlfaaaGreat
open Go Go.Lx
open Go.Sx (vcIf)
structure CJ where
  i : Nat
  ys : List PV
  b : Bool
  zs : List PV
theorem rgetChgs_spec (l : List UInt8) (hl : l.length < 9223372036854775807) (e : Nat) (ys : List PV) (hys : ys = bP l) (bad : Bool) (hbad : bad = decide (e ≠ 0)) (most : Nat) (hm : most ≤ 100000) :
    FnL Tryz.prog 88 [.own 0 0, .p (.int .i64 (most : Int))] [rrSt ys bad] fun z own => ∃ (n i : Nat) (l0 : List UInt8) (e0 : Nat) (cs : List Chg) (l' : List UInt8) (e' : Nat) (us zs : List PV) (b : Bool), (n, l0, e0) = rdC l e most ∧ i ≤ n ∧ (i = n ∨ e' ≠ 0) ∧ (cs, l', e') = rdGsT i l0 e0 ∧ us = bP l' ∧ zs = cP cs ∧ b = decide (e' ≠ 0) ∧ z = .p (.sl zs) ∧ own = [rrSt us b] := by
  refine FnL.less (R := fun z own => ∃ (n i : Nat) (l0 : List UInt8) (e0 : Nat) (cs : List Chg) (l' : List UInt8) (e' : Nat) (us zs : List PV) (b : Bool), (n, l0, e0) = rdC l e most ∧ i ≤ n ∧ (i = n ∨ e' ≠ 0) ∧ (cs, l', e') = rdGsT i l0 e0 ∧ us = bP l' ∧ zs = cP cs ∧ b = decide (e' ≠ 0) ∧ z = .p (.sl zs) ∧ ∃ r, own = rrSt us b :: r) ?_ ?_
  rotate_left
  · rintro _ _ ⟨n, i, l0, e0, cs, l', e', us, zs, b, h1, h2, h3, h4, h5, h6, h7, rfl, r, rfl⟩
    exact ⟨_, [rrSt us b], r, rfl, .refl _, rfl, rfl, Nat.le_refl _, n, i, l0, e0, cs, l', e', us, zs, b, h1, h2, h3, h4, h5, h6, h7, rfl, rfl⟩
  have hN0 := rrNum_spec l e ys hys bad hbad
  refine fn_of_vc eOk fOk fo88 Tryz.func88 rfl rfl rfl fun B hB => ?_
  intro add _ _ _ _ _ _ _ _ _ _ _ _ _ _ _ _ _ _ _ _ _ _ hA _ _ sl _ _ _ _ _ _ _ hL _ _ _ hcall _ hcode ret hret
  cbv
  refine hcall _ _ _ _ _ (CallEv.lend [0] hN0 rfl (.cons (.own 0 0 0 rfl) .nil) (rrL rfl) ?_)
  rintro _ _ ⟨n, l0, e0, z0, b0, h0, g0, d0, rfl, rfl⟩
  cbv
  by_cases hnm : most < n
  · have hc : (0, l0, 2) = rdC l e most := by unfold rdC; rw [← h0]; exact (if_pos hnm).symm
    refine vcIf.yes (by first | (simp [smW hA hL, hnm]; done) | (simp only [hnm]; simp [smW hA hL, hnm]; done) | (simp [smW hA hL, hnm]; omega) | (simp only [hnm]; simp [smW hA hL, hnm]; omega)) ?_
    cbv
    refine ⟨false, ?_⟩
    cbv
    refine hcode _ _ _ (CodeEv.loop eOk fOk (ι := Unit) (fun s => [(0, .own 0 0), (1, .p (.int .i64 (Int.ofNat most))), (5, .p (.int .i64 (Int.ofNat n))), (6, .p (.sl [])), (7, .p (.int .i64 0))])
      (fun s => [rrSt z0 true]) (fun s => True) (fun s => 0) () ?_ ?_)
    · exact ⟨(by repeat (first | exact trivial | refine And.intro rfl ?_)), rfl, trivial⟩
    rintro _ _ rd hrd
    intro add1 _ _ _ _ _ _ _ _ _ _ _ _ _ _ _ _ _ _ _ _ _ _ hA1 _ _ _ _ _ _ _ _ _ _ hL1 _ _ _ hcall1 _ _
    have hn0 : 0 < n := by omega
    cbv
    refine vcIf.yes (by first | (simp [smW hA1 hL1, hn0]; done) | (simp only [hn0]; simp [smW hA1 hL1, hn0]; done) | (simp [smW hA1 hL1, hn0]; omega) | (simp only [hn0]; simp [smW hA1 hL1, hn0]; omega)) ?_
    cbv
    repeat (first | (refine vcIf.yes ?_ ?_; (focus (simp [smW hA1 hL1]; done)); cbv) | (refine vcIf.no ?_ ?_; (focus (simp [smW hA1 hL1]; done)); cbv))
    exact hret _ (RetEv.ret eOk rfl ⟨0, 0, l0, 2, [], l0, 2, z0, [], true, hc, Nat.le_refl _, .inl rfl, rfl, g0, rfl, rfl, rfl, [], rfl⟩)
  · have hc : (n, l0, e0) = rdC l e most := by unfold rdC; rw [← h0]; exact (if_neg hnm).symm
    have hln := rdN_len h0
    refine vcIf.no (by first | (simp [smW hA hL, hnm]; done) | (simp only [hnm]; simp [smW hA hL, hnm]; done) | (simp [smW hA hL, hnm]; omega) | (simp only [hnm]; simp [smW hA hL, hnm]; omega)) ?_
    cbv
    refine ⟨true, ?_⟩
    cbv
    refine hcode _ _ _ (CodeEv.loop eOk fOk (ι := CJ) (fun s => [(0, .own 0 0), (1, .p (.int .i64 (Int.ofNat most))), (5, .p (.int .i64 (Int.ofNat n))), (6, .vw 1 3 0 s.i none), (7, .p (.int .i64 (Int.ofNat s.i)))])
      (fun s => [rrSt s.ys s.b, .arr 25 3 s.zs])
      (fun s => s.i ≤ n ∧ s.ys = bP (rdGsT s.i l0 e0).2.1 ∧ s.b = decide ((rdGsT s.i l0 e0).2.2 ≠ 0) ∧ s.zs = cP (rdGsT s.i l0 e0).1) (fun s => n - s.i) ⟨0, z0, b0, []⟩ ?_ ?_)
    · exact ⟨(by repeat (first | exact trivial | refine And.intro rfl ?_)), rfl, Nat.zero_le _, g0, d0, rfl⟩
    rintro ⟨i, ys, b, zs⟩ ⟨k1, k2, k3, k4⟩ rd hrd
    simp only at k1 k2 k3 k4
    obtain ⟨hil, hll⟩ := rdGsT_len i l0 e0
    have hstep := show rdGsT (i + 1) l0 e0 = _ from by rw [rdGsT]
    obtain ⟨⟨cs, li, ei⟩, hT⟩ : ∃ x, x = rdGsT i l0 e0 := ⟨_, rfl⟩
    rw [← hT] at k2 k3 k4 hil hll hstep
    simp only at k2 k3 k4 hil hll hstep
    have hzl : zs.length = i := by rw [k4, cP_length, hil]
    have hN := rrNum_spec li ei ys k2 b k3
    intro add1 _ _ _ _ _ _ _ _ _ _ _ _ _ _ _ _ _ _ _ _ _ _ hA1 _ _ _ _ _ _ _ _ _ _ hL1 _ _ _ hcall1 _ _
    have hadd1 : i < n → add1 .i64 (Int.ofNat i) 1 = Int.ofNat (i + 1) := fun h => by rw [hA1.add, IntWalk.i64_in _ (by simp only [Int.ofNat_eq_natCast]; omega)]; rfl
    cbv
    by_cases hi : i < n
    · refine vcIf.yes (by first | (simp [smW hA1 hL1, hi]; done) | (simp only [hi]; simp [smW hA1 hL1, hi]; done) | (simp [smW hA1 hL1, hi]; omega) | (simp only [hi]; simp [smW hA1 hL1, hi]; omega)) ?_
      cbv
      cases b with
      | false =>
        cbv
        repeat (first | (refine vcIf.yes ?_ ?_; (focus (simp [smW hA1 hL1]; done)); cbv) | (refine vcIf.no ?_ ?_; (focus (simp [smW hA1 hL1]; done)); cbv))
        refine hcall1 _ _ _ _ _ (CallEv.lend [0] hN rfl (.cons (.own 0 0 0 rfl) .nil) (rrL rfl) ?_)
        rintro _ _ ⟨n1, l1, e1, y1, b1, q1, g1, d1, rfl, rfl⟩
        have w1 := rdN_len q1
        have hT1 := rrText_spec l1 (by omega) e1 y1 g1 b1 d1
        cbv
        refine hcall1 _ _ _ _ _ (CallEv.lend [0] hT1 rfl (.cons (.own 0 0 0 rfl) .nil) (rrL rfl) ?_)
        rintro _ _ ⟨s2, l2, e2, y2, b2, q2, g2, d2, rfl, rfl⟩
        have w2 := rdT_len q2
        have hT2 := rrText_spec l2 (by omega) e2 y2 g2 b2 d2
        cbv
        refine hcall1 _ _ _ _ _ (CallEv.lend [0] hT2 rfl (.cons (.own 0 0 0 rfl) .nil) (rrL rfl) ?_)
        rintro _ _ ⟨s3, l3, e3, y3, b3, q3, g3, d3, rfl, rfl⟩
        have hGx := rdG_of q1 q2 q3
        rw [hGx] at hstep
        simp only at hstep
        cbv
        refine ⟨false, ?_⟩
        cbv
        refine .inl ⟨(), rfl, hzl.symm, Wf.one (Chg.wf ⟨(n1 : Int), s2, s3⟩), ?_, ?_, ?_⟩
        · show i + 1 ≤ maxLen
          unfold maxLen; omega
        · show (i + 1) * 40 ≤ _
          omega
        intro us n' hu hn'
        replace hu : us = zs ++ [Chg.v ⟨(n1 : Int), s2, s3⟩] := hu
        obtain rfl : n' = i + 1 := hn'
        cbv
        refine hrd _ ⟨⟨i + 1, y3, b3, us⟩, _, ?_, ⟨hi, ?_, ?_, ?_⟩, rfl, ⟨rfl, rfl, rfl, rfl, ?_, trivial⟩, rfl, rfl, rfl, ?_⟩
        · simp only; omega
        · simp only; rw [hstep]; exact g3
        · simp only; rw [hstep]; exact d3
        · simp only; rw [hstep, hu, k4]; simp [cP]
        · show some (V.p (.int .i64 _)) = _
          rw [hadd1 hi]
        · rw [hB]; exact Nat.le_succ _
      | true =>
        have he := of_decide_eq_true k3.symm
        cbv
        repeat (first | (refine vcIf.yes ?_ ?_; (focus (simp [smW hA1 hL1]; done)); cbv) | (refine vcIf.no ?_ ?_; (focus (simp [smW hA1 hL1]; done)); cbv))
        refine hret _ (RetEv.retF eOk rfl 1 rfl (by rw [hB]; exact Nat.le_refl _) ⟨n, i, l0, e0, cs, li, ei, ys, zs, true, hc, k1, .inr he, hT, k2, k4, k3, ?_, _, rfl⟩)
        show V.p (.sl ((zs.drop 0).take i)) = _
        rw [frz_full hzl]
    · refine vcIf.no (by first | (simp [smW hA1 hL1, hi]; done) | (simp only [hi]; simp [smW hA1 hL1, hi]; done) | (simp [smW hA1 hL1, hi]; omega) | (simp only [hi]; simp [smW hA1 hL1, hi]; omega)) ?_
      cbv
      repeat (first | (refine vcIf.yes ?_ ?_; (focus (simp [smW hA1 hL1]; done)); cbv) | (refine vcIf.no ?_ ?_; (focus (simp [smW hA1 hL1]; done)); cbv))
      refine hret _ (RetEv.retF eOk rfl 1 rfl (by rw [hB]; exact Nat.le_refl _) ⟨n, i, l0, e0, cs, li, ei, ys, zs, b, hc, k1, .inl (by omega), hT, k2, k4, k3, ?_, _, rfl⟩)
      show V.p (.sl ((zs.drop 0).take i)) = _
      rw [frz_full hzl]
end Go.Proofs.YtegkojnngdlfaaaGreat
end
section
namespace Go.Proofs.YtegkojnngdlfaaaGreat
open Go Go.Lx
open Go.Sx (vcIf)
def Bat.zero : Bat := ⟨0, 0, 0, []⟩
end Go.Proofs.YtegkojnngdlfaaaGreat
end
section
namespace Go.Proofs.YtegkojnngdlfaaaGreat
open Go Go.Lx
open Go.Sx (vcIf)
theorem chgEq (k k' : Int) (ky ky' vl vl' : List UInt8) : eqF Tryz.prog [PV.int .i64 k, PV.str ky, PV.str vl] [PV.int .i64 k', PV.str ky', PV.str vl'] (Tryz.prog.fieldsOf 25).toList = some (decide (k = k') && (decide (ky = ky') && (decide (vl = vl') && true))) := by kernel_rfl
theorem sameChgs_spec (l : List Chg) (hl : l.length < 9223372036854775807) (zs : List PV) (hzs : zs = cP l) :
    FnL Tryz.prog 92 [.p (.sl zs), .p (.sl zs)] [] fun v own => v = .p (.bool true) ∧ own = [] := by
  have hzl : zs.length = l.length := by rw [hzs, cP_length]
  obtain ⟨N, hN⟩ : ∃ N, N = l.length := ⟨_, rfl⟩
  rw [← hN] at hzl hl
  refine fn_of_vc eOk fOk fo92 Tryz.func92 rfl rfl rfl fun B hB => ?_
  intro add _ _ _ _ _ _ _ _ _ _ _ _ _ _ _ _ _ _ _ _ _ _ hA _ _ sl _ _ _ _ len _ _ hL _ _ _ _ _ hcode ret hret
  have hlen : len zs = Int.ofNat N := by rw [hL.len, hzl]; rfl
  cbv
  rw [hlen]
  refine vcIf.no (by simp [hA.eq, hA.not]) ?_
  cbv
  refine hcode _ _ _ (CodeEv.loop eOk fOk (ι := Nat) (fun s => [(0, .p (.sl zs)), (1, .p (.sl zs)), (5, .p (.int .i64 (Int.ofNat s)))])
    (fun s => []) (fun s => s ≤ N) (fun s => N - s) 0 ?_ ?_)
  · exact ⟨(by repeat (first | exact trivial | refine And.intro rfl ?_)), rfl, Nat.zero_le _⟩
  rintro i h1 rd hrd
  intro add1 _ _ _ _ _ _ _ _ _ _ _ _ _ _ _ _ _ _ _ _ _ _ hA1 _ _ _ _ _ _ _ _ _ _ hL1 _ _ _ _ _ hcode1
  have hadd1 : i < N → add1 .i64 (Int.ofNat i) 1 = Int.ofNat (i + 1) := fun _ => by rw [hA1.add, IntWalk.i64_in _ (by simp only [Int.ofNat_eq_natCast]; omega)]; rfl
  cbv
  by_cases hi : i < N
  · obtain ⟨c, hc⟩ := get_of_lt (show i < l.length by omega)
    have hzz : zs[i]? = some (.agg [.int .i64 c.kind, .str c.key, .str c.val]) := by rw [hzs]; exact cP_get hc
    obtain ⟨k, ky, vl⟩ := c
    simp only at hzz
    refine vcIf.yes (by first | (simp [smW hA1 hL1, hi, hzl]; done) | (simp only [hi, hzl]; simp [smW hA1 hL1, hi, hzl]; done) | (simp [smW hA1 hL1, hi, hzl]; omega) | (simp only [hi, hzl]; simp [smW hA1 hL1, hi, hzl]; omega)) ?_
    cbv
    refine hcode1 _ _ _ (CodeEv.drawT eOk fOk (by kernel_rfl) noX (.rd 0 (.rd 1 (.rd 2 (.rd 3 (.rd 4 (.so 5 (.so 6 (.so 7 (.acts (.cons 8 (.done) (.nil)))))))))))  (by kernel_rfl) (by kernel_rfl) ?_)
    intro _ _ _ _ _ _ _ _ _ _ _ _ _ _ _ _ _ _ _ _ _ _ _ _ _ _ _ _ _ _ _ _ _ _ _ _ hop2 _ _ _ _ _ hq2
    cbv
    refine ⟨i, _, rfl, hzz, rfl, ?_⟩
    cbv
    refine ⟨i, _, rfl, hzz, rfl, ?_⟩
    cbv
    refine hop2 _ _ _ _ (OpEv.aggNe (b := true) rfl rfl rfl (by kernel_rfl) (by kernel_rfl) (by kernel_rfl) ((chgEq k k ky ky vl vl).trans (by simp)) ?_)
    cbv
    refine hq2 _ ?_
    cbv
    repeat (first | (refine vcIf.yes ?_ ?_; (focus (simp [smW hA1 hL1]; done)); cbv) | (refine vcIf.no ?_ ?_; (focus (simp [smW hA1 hL1]; done)); cbv))
    refine hrd _ ⟨i + 1, [], ?_, hi, rfl, ⟨rfl, rfl, ?_, trivial⟩, rfl, rfl, rfl, ?_⟩
    · show N - (i + 1) < N - i
      omega
    · show some (V.p (.int .i64 _)) = _
      rw [hadd1 hi]
    · rw [hB]; exact Nat.zero_le _
  · refine vcIf.no (by first | (simp [smW hA1 hL1, hi, hzl]; done) | (simp only [hi, hzl]; simp [smW hA1 hL1, hi, hzl]; done) | (simp [smW hA1 hL1, hi, hzl]; omega) | (simp only [hi, hzl]; simp [smW hA1 hL1, hi, hzl]; omega)) ?_
    cbv
    exact hret _ (RetEv.ret eOk rfl ⟨rfl, rfl⟩)
end Go.Proofs.YtegkojnngdlfaaaGreat
end
section
namespace Go.Proofs.YtegkojnngdlfaaaGreat
open Go Go.Lx
open Go.Sx (vcIf)
end Go.Proofs.YtegkojnngdlfaaaGreat
end
