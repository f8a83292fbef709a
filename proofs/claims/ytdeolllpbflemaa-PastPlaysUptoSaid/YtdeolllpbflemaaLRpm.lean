/- LRp1, LRp2, LRp3, LRp4, LRp5, LPy0 together. Conditions: on sizes. -/
import Derived.Test.YtdeolllpbflemaaLPk1
import Derived.Test.YtdeolllpbflemaaLPaf
set_option maxRecDepth 100000
set_option maxHeartbeats 16000000
set_option linter.unusedSimpArgs false
set_option linter.unusedVariables false
namespace Go.Proofs.Ytdeolllpbflemaa
section
open Go Go.Lx
open Go.Sx (vcIf)

abbrev RLay := Int × List Pr
def RLay.v (x : RLay) : PV := .agg [.int .i64 x.1, .sl (prP x.2)]
def rlP (l : List RLay) : List PV := l.map RLay.v
theorem rlP_length (l : List RLay) : (rlP l).length = l.length := List.length_map _
theorem rlP_get {l : List RLay} {i : Nat} {b : RLay} (h : l[i]? = some b) : (rlP l)[i]? = some (.agg [.int .i64 b.1, .sl (prP b.2)]) := by unfold rlP; rw [List.getElem?_map, h]; rfl
theorem rlP_append (a b : List RLay) : rlP (a ++ b) = rlP a ++ rlP b := List.map_append
/-- All pairs at a version. -/
def atR (l : List RLay) (v : Int) : List Pr := l.foldl (fun acc x => if x.1 ≤ v then x.2 else acc) []
theorem atR_next {l : List RLay} {i : Nat} {x : RLay} (v : Int) (h : l[i]? = some x) : atR (l.take (i + 1)) v = if x.1 ≤ v then x.2 else atR (l.take i) v := by
  unfold atR; rw [List.take_add_one, h, List.foldl_append]; rfl
theorem atR_snoc (l : List RLay) (x : RLay) (v : Int) : atR (l ++ [x]) v = if x.1 ≤ v then x.2 else atR l v := by
  unfold atR; rw [List.foldl_append]; rfl
/-- The document's Past, shown as settled; .. of the call's own. -/
abbrev rpI (f l : Int) (ys : List PV) : V := .imm 3 (.agg [.sl ys, .int .i64 f, .int .i64 l]) 0
abbrev rpS (f l : Int) (n : Nat) : Res := .st 60 [.vw 1 2 0 n none, .p (.int .i64 f), .p (.int .i64 l)]
abbrev rpA (xs : List PV) : Res := .arr 86 2 xs

theorem rpL {own : List Res} {js : List Nat} {i j n : Nat} {f l : Int} {xs : List PV} (hi : js[0]? = some i) (hj : js[1]? = some j) (h1 : own[i]? = some (.st 60 [.vw j 2 0 n none, .p (.int .i64 f), .p (.int .i64 l)]))
    (h2 : own[j]? = some (rpA xs)) : TrO own js [] [i, j] [rpS f l n, rpA xs] :=
  ⟨⟨_, h1, .st _ _ _ (.cons (.vw 1 j 2 0 n none hj) (.cons (.p _) (.cons (.p _) .nil)))⟩, ⟨_, h2, .arr _ _ _⟩, trivial⟩
theorem rpT {own : List Res} {bs js : List Nat} {i j n : Nat} {f l : Int} {xs : List PV} (hi : i ∈ bs) (hj : j ∈ bs) (h1 : own[i]? = some (.st 60 [.vw j 2 0 n none, .p (.int .i64 f), .p (.int .i64 l)]))
    (h2 : own[j]? = some (rpA xs)) (ys : List PV) (hy : ys = (xs.drop 0).take n) : Tr own js bs (.own i 0) (rpI f l ys) := by
  refine .bown i 0 _ _ [.p (.sl ys), .p (.int .i64 f), .p (.int .i64 l)] [.sl ys, .int .i64 f, .int .i64 l] hi h1 rfl (fun q hq => ?_) rfl ?_
  · simp only [List.mem_cons, List.not_mem_nil, or_false] at hq
    rcases hq with rfl | rfl | rfl <;> rfl
  · intro k c p hc hp
    match k, hc, hp with
    | 0, hc, hp => simp at hc hp; subst hc hp; exact .bvw j 2 0 n none _ _ xs ys hj h2 hy
    | 1, hc, hp => simp at hc hp; subst hc hp; exact .p _
    | 2, hc, hp => simp at hc hp; subst hc hp; exact .p _
    | k + 3, hc, hp => simp at hc

theorem rpKnown_spec (f l v : Int) (ys : List PV) : FnL Try.prog 48 [rpI f l ys, .p (.int .i64 v)] [] fun r own => ∃ e : Nat, e = knw f l v ∧ r = .p (.int .i64 (Int.ofNat e)) ∧ own = [] := by
  obtain ⟨R, hR⟩ : ∃ R, R = knw f l v := ⟨_, rfl⟩
  rw [← hR]
  unfold knw at hR
  refine fn_of_vc eOk fOk fo48 Try.func48 rfl rfl rfl fun B hB => ?_
  intro add sub mul quo rem band bor bxor bclr shl shr ieq ilt ile seq slt beq bnot orb bcond iwrap iof ssz hA cat sq sl imin imax smin smax len slen u8 hL op hop call hcall code hcode ret hret
  cbv
  by_cases h1 : v < f
  · rw [if_pos h1] at hR
    refine vcIf.yes (by first | (simp [hA.not, hA.eq, hA.lt, hA.le, hA.cond, hA.beq, hA.orb, hL.len, hL.slen, hL.sq, h1]; done) | (simp only [h1]; simp [hA.not, hA.eq, hA.lt, hA.le, hA.cond, hA.beq, hA.orb, hL.len, hL.slen, hL.sq, h1]; done) | (simp [hA.not, hA.eq, hA.lt, hA.le, hA.cond, hA.beq, hA.orb, hL.len, hL.slen, hL.sq, h1]; omega) | (simp only [h1]; simp [hA.not, hA.eq, hA.lt, hA.le, hA.cond, hA.beq, hA.orb, hL.len, hL.slen, hL.sq, h1]; omega)) ?_
    cbv
    exact hret _ (RetEv.ret eOk rfl ⟨_, rfl, by rw [hR]; rfl, rfl⟩)
  · rw [if_neg h1] at hR
    refine vcIf.no (by first | (simp [hA.not, hA.eq, hA.lt, hA.le, hA.cond, hA.beq, hA.orb, hL.len, hL.slen, hL.sq, h1]; done) | (simp only [h1]; simp [hA.not, hA.eq, hA.lt, hA.le, hA.cond, hA.beq, hA.orb, hL.len, hL.slen, hL.sq, h1]; done) | (simp [hA.not, hA.eq, hA.lt, hA.le, hA.cond, hA.beq, hA.orb, hL.len, hL.slen, hL.sq, h1]; omega) | (simp only [h1]; simp [hA.not, hA.eq, hA.lt, hA.le, hA.cond, hA.beq, hA.orb, hL.len, hL.slen, hL.sq, h1]; omega)) ?_
    cbv
    by_cases h2 : l < v
    · rw [if_pos h2] at hR
      refine vcIf.yes (by first | (simp [hA.not, hA.eq, hA.lt, hA.le, hA.cond, hA.beq, hA.orb, hL.len, hL.slen, hL.sq, h2]; done) | (simp only [h2]; simp [hA.not, hA.eq, hA.lt, hA.le, hA.cond, hA.beq, hA.orb, hL.len, hL.slen, hL.sq, h2]; done) | (simp [hA.not, hA.eq, hA.lt, hA.le, hA.cond, hA.beq, hA.orb, hL.len, hL.slen, hL.sq, h2]; omega) | (simp only [h2]; simp [hA.not, hA.eq, hA.lt, hA.le, hA.cond, hA.beq, hA.orb, hL.len, hL.slen, hL.sq, h2]; omega)) ?_
      cbv
      exact hret _ (RetEv.ret eOk rfl ⟨_, rfl, by rw [hR]; rfl, rfl⟩)
    · rw [if_neg h2] at hR
      refine vcIf.no (by first | (simp [hA.not, hA.eq, hA.lt, hA.le, hA.cond, hA.beq, hA.orb, hL.len, hL.slen, hL.sq, h2]; done) | (simp only [h2]; simp [hA.not, hA.eq, hA.lt, hA.le, hA.cond, hA.beq, hA.orb, hL.len, hL.slen, hL.sq, h2]; done) | (simp [hA.not, hA.eq, hA.lt, hA.le, hA.cond, hA.beq, hA.orb, hL.len, hL.slen, hL.sq, h2]; omega) | (simp only [h2]; simp [hA.not, hA.eq, hA.lt, hA.le, hA.cond, hA.beq, hA.orb, hL.len, hL.slen, hL.sq, h2]; omega)) ?_
      cbv
      exact hret _ (RetEv.ret eOk rfl ⟨_, rfl, by rw [hR]; rfl, rfl⟩)

theorem rpFrom_spec (v : Int) (zs : List PV) : FnL Try.prog 23 [.p (.int .i64 v), .p (.sl zs)] [] fun r own => r = .own 0 0 ∧ own = [rpS v v 1, rpA [.agg [.int .i64 v, .sl zs]]] := by
  refine fn_of_vc eOk fOk fo23 Try.func23 rfl rfl rfl fun B hB => ?_
  intro add sub mul quo rem band bor bxor bclr shl shr ieq ilt ile seq slt beq bnot orb bcond iwrap iof ssz hA cat sq sl imin imax smin smax len slen u8 hL op hop call hcall code hcode ret hret
  cbv
  refine ⟨true, ?_⟩
  cbv
  exact hret _ (RetEv.convW (ConvW.pack [1, 0] hB rfl) (RetEv.ret eOk rfl ⟨rfl, rfl⟩))

theorem rpAt_spec (L : List RLay) (hn : L.length < 281474976710656) (f l v : Int) (ys : List PV) (hys : ys = rlP L) :
    FnL Try.prog 46 [rpI f l ys, .p (.int .i64 v)] [] fun r own => r = .p (.sl (prP (atR L v))) ∧ own = [] := by
  obtain ⟨R, hR⟩ : ∃ R, R = prP (atR L v) := ⟨_, rfl⟩
  rw [← hR]
  obtain ⟨N, hN⟩ : ∃ N, N = L.length := ⟨_, rfl⟩
  have hyl : ys.length = N := by rw [hys, rlP_length, hN]
  refine fn_of_vc eOk fOk fo46 Try.func46 rfl rfl rfl fun B hB => ?_
  intro add sub mul quo rem band bor bxor bclr shl shr ieq ilt ile seq slt beq bnot orb bcond iwrap iof ssz hA cat sq sl imin imax smin smax len slen u8 hL op hop call hcall code hcode ret hret
  cbv
  refine ⟨false, ?_⟩
  cbv
  refine hcode _ _ _ (CodeEv.loop eOk fOk (ι := Nat × List PV) (fun s => [(0, rpI f l ys), (1, .p (.int .i64 v)), (5, .p (.sl s.2)), (6, .p (.int .i64 (Int.ofNat s.1)))]) (fun _ => []) (fun s => s.1 ≤ N ∧ s.2 = prP (atR (L.take s.1) v)) (fun s => N - s.1) (0, []) ?_ ?_)
  · exact ⟨(by repeat (first | exact trivial | refine And.intro rfl ?_)), rfl, Nat.zero_le _, rfl⟩
  rintro ⟨i, ps⟩ ⟨hiN, hps⟩ rd hrd
  dsimp only at hiN hps
  by_cases hi : i < N
  · refine Exists.elim (get_of_lt (show i < L.length by omega)) fun b hb => ?_
    refine Exists.elim (show ∃ q, q = prP b.2 from ⟨_, rfl⟩) fun q hq => ?_
    have hzb : ys[i]? = some (.agg [.int .i64 b.1, .sl q]) := by rw [hys, hq]; exact rlP_get hb
    have hnx := atR_next v hb
    have hmu : N - (i + 1) < N - i := by omega
    have hi1 : i + 1 ≤ N := by omega
    intro add1 sub1 mul1 quo1 rem1 band1 bor1 bxor1 bclr1 shl1 shr1 ieq1 ilt1 ile1 seq1 slt1 beq1 bnot1 orb1 bcond1 iwrap1 iof1 ssz1 hA1 cat1 sq1 sl1 imin1 imax1 smin1 smax1 len1 slen1 u81 hL1 op1 hop1 call1 hcall1 code1 hcode1
    have hinc : add1 .i64 (Int.ofNat i) 1 = Int.ofNat (i + 1) := by rw [hA1.add]; exact i64_nat (by simp) (by omega)
    cbv
    refine vcIf.yes (by first | (simp [hA1.not, hA1.eq, hA1.lt, hA1.le, hA1.cond, hA1.beq, hA1.orb, hL1.len, hL1.slen, hL1.sq, hyl, hi]; done) | (simp only [hyl, hi]; simp [hA1.not, hA1.eq, hA1.lt, hA1.le, hA1.cond, hA1.beq, hA1.orb, hL1.len, hL1.slen, hL1.sq, hyl, hi]; done) | (simp [hA1.not, hA1.eq, hA1.lt, hA1.le, hA1.cond, hA1.beq, hA1.orb, hL1.len, hL1.slen, hL1.sq, hyl, hi]; omega) | (simp only [hyl, hi]; simp [hA1.not, hA1.eq, hA1.lt, hA1.le, hA1.cond, hA1.beq, hA1.orb, hL1.len, hL1.slen, hL1.sq, hyl, hi]; omega)) ?_
    cbv
    refine ⟨i, _, rfl, hzb, rfl, ?_⟩
    cbv
    by_cases hv : b.1 ≤ v
    · rw [if_pos hv] at hnx
      refine vcIf.yes (by first | (simp [hA1.not, hA1.eq, hA1.lt, hA1.le, hA1.cond, hA1.beq, hA1.orb, hL1.len, hL1.slen, hL1.sq, hv]; done) | (simp only [hv]; simp [hA1.not, hA1.eq, hA1.lt, hA1.le, hA1.cond, hA1.beq, hA1.orb, hL1.len, hL1.slen, hL1.sq, hv]; done) | (simp [hA1.not, hA1.eq, hA1.lt, hA1.le, hA1.cond, hA1.beq, hA1.orb, hL1.len, hL1.slen, hL1.sq, hv]; omega) | (simp only [hv]; simp [hA1.not, hA1.eq, hA1.lt, hA1.le, hA1.cond, hA1.beq, hA1.orb, hL1.len, hL1.slen, hL1.sq, hv]; omega)) ?_
      cbv
      refine ⟨i, _, rfl, hzb, rfl, ?_⟩
      cbv
      refine hrd _ ⟨(i + 1, q), _, hmu, ⟨hi1, by show q = prP _; rw [hnx, hq]⟩, rfl, ⟨rfl, rfl, rfl, ?_, trivial⟩, rfl, rfl, rfl, by rw [hB]; exact Nat.zero_le _⟩
      show some (Go.Lx.V.p (.int .i64 _)) = _
      rw [hinc]
    · rw [if_neg hv] at hnx
      refine vcIf.no (by first | (simp [hA1.not, hA1.eq, hA1.lt, hA1.le, hA1.cond, hA1.beq, hA1.orb, hL1.len, hL1.slen, hL1.sq, hv]; done) | (simp only [hv]; simp [hA1.not, hA1.eq, hA1.lt, hA1.le, hA1.cond, hA1.beq, hA1.orb, hL1.len, hL1.slen, hL1.sq, hv]; done) | (simp [hA1.not, hA1.eq, hA1.lt, hA1.le, hA1.cond, hA1.beq, hA1.orb, hL1.len, hL1.slen, hL1.sq, hv]; omega) | (simp only [hv]; simp [hA1.not, hA1.eq, hA1.lt, hA1.le, hA1.cond, hA1.beq, hA1.orb, hL1.len, hL1.slen, hL1.sq, hv]; omega)) ?_
      cbv
      refine hrd _ ⟨(i + 1, ps), _, hmu, ⟨hi1, by show ps = prP _; rw [hnx]; exact hps⟩, rfl, ⟨rfl, rfl, rfl, ?_, trivial⟩, rfl, rfl, rfl, by rw [hB]; exact Nat.zero_le _⟩
      show some (Go.Lx.V.p (.int .i64 _)) = _
      rw [hinc]
  · obtain rfl : i = N := by omega
    rw [hN, List.take_length, ← hR] at hps
    intro add1 sub1 mul1 quo1 rem1 band1 bor1 bxor1 bclr1 shl1 shr1 ieq1 ilt1 ile1 seq1 slt1 beq1 bnot1 orb1 bcond1 iwrap1 iof1 ssz1 hA1 cat1 sq1 sl1 imin1 imax1 smin1 smax1 len1 slen1 u81 hL1 op1 hop1 call1 hcall1 code1 hcode1
    cbv
    refine vcIf.no (by first | (simp [hA1.not, hA1.eq, hA1.lt, hA1.le, hA1.cond, hA1.beq, hA1.orb, hL1.len, hL1.slen, hL1.sq, hyl]; done) | (simp only [hyl]; simp [hA1.not, hA1.eq, hA1.lt, hA1.le, hA1.cond, hA1.beq, hA1.orb, hL1.len, hL1.slen, hL1.sq, hyl]; done) | (simp [hA1.not, hA1.eq, hA1.lt, hA1.le, hA1.cond, hA1.beq, hA1.orb, hL1.len, hL1.slen, hL1.sq, hyl]; omega) | (simp only [hyl]; simp [hA1.not, hA1.eq, hA1.lt, hA1.le, hA1.cond, hA1.beq, hA1.orb, hL1.len, hL1.slen, hL1.sq, hyl]; omega)) ?_
    cbv
    exact hret _ (RetEv.ret eOk rfl ⟨by rw [hps]; rfl, rfl⟩)

theorem rpGet_spec (L : List RLay) (hn : L.length < 281474976710656) (f l v : Int) (ys : List PV) (hys : ys = rlP L) (key : List UInt8) (hP : knw f l v = 0 → (atR L v).length < 281474976710656) :
    FnL Try.prog 25 [rpI f l ys, .p (.str key), .p (.int .i64 v)] [] fun r own => ∃ (s : List UInt8) (b : Bool) (e : Nat), e = knw f l v ∧ s = (if knw f l v = 0 then lk (atR L v) key else none).getD [] ∧ b = (if knw f l v = 0 then lk (atR L v) key else none).isSome ∧
      r = .p (.tup [.str s, .bool b, .int .i64 (Int.ofNat e)]) ∧ own = [] := by
  have hkn := rpKnown_spec f l v ys
  have hat := rpAt_spec L hn f l v ys hys
  obtain ⟨W, hW⟩ : ∃ W, W = atR L v := ⟨_, rfl⟩
  obtain ⟨E, hE⟩ : ∃ E, E = knw f l v := ⟨_, rfl⟩
  rw [← hW] at hat hP ⊢
  rw [← hE] at hkn hP ⊢
  obtain ⟨zs, hzs⟩ : ∃ zs, zs = prP W := ⟨_, rfl⟩
  rw [← hzs] at hat
  obtain ⟨N, hN⟩ : ∃ N, N = W.length := ⟨_, rfl⟩
  have hzl : zs.length = N := by rw [hzs, prP_length, hN]
  clear hW hE
  refine fn_of_vc eOk fOk fo25 Try.func25 rfl rfl rfl fun B hB => ?_
  intro add sub mul quo rem band bor bxor bclr shl shr ieq ilt ile seq slt beq bnot orb bcond iwrap iof ssz hA cat sq sl imin imax smin smax len slen u8 hL op hop call hcall code hcode ret hret
  cbv
  refine hcall _ _ _ _ _ (CallEv.pure hkn (.cons (.imm _ _ _) (.cons (.p _) .nil)) ?_)
  rintro _ _ ⟨e, rfl, rfl, rfl⟩
  cbv
  by_cases h0 : e = 0
  rotate_left
  · have h0' : ¬ (e : Int) = 0 := by omega
    refine vcIf.yes (by first | (simp [hA.not, hA.eq, hA.lt, hA.le, hA.cond, hA.beq, hA.orb, hL.len, hL.slen, hL.sq, h0, h0']; done) | (simp only [h0, h0']; simp [hA.not, hA.eq, hA.lt, hA.le, hA.cond, hA.beq, hA.orb, hL.len, hL.slen, hL.sq, h0, h0']; done) | (simp [hA.not, hA.eq, hA.lt, hA.le, hA.cond, hA.beq, hA.orb, hL.len, hL.slen, hL.sq, h0, h0']; omega) | (simp only [h0, h0']; simp [hA.not, hA.eq, hA.lt, hA.le, hA.cond, hA.beq, hA.orb, hL.len, hL.slen, hL.sq, h0, h0']; omega)) ?_
    cbv
    exact hret _ (RetEv.ret eOk rfl ⟨[], false, e, rfl, by rw [if_neg h0]; rfl, by rw [if_neg h0]; rfl, rfl, rfl⟩)
  subst h0
  replace hP := hP rfl
  refine vcIf.no (by first | (simp [hA.not, hA.eq, hA.lt, hA.le, hA.cond, hA.beq, hA.orb, hL.len, hL.slen, hL.sq]; done) | (simp [hA.not, hA.eq, hA.lt, hA.le, hA.cond, hA.beq, hA.orb, hL.len, hL.slen, hL.sq]; omega)) ?_
  cbv
  refine hcall _ _ _ _ _ (CallEv.pure hat (.cons (.imm _ _ _) (.cons (.p _) .nil)) ?_)
  rintro _ _ ⟨rfl, rfl⟩
  cbv
  refine hcode _ _ _ (CodeEv.loop eOk fOk (ι := Nat) (fun s => [(1, .p (.str key)), (10, .p (.sl zs)), (11, .p (.int .i64 (Int.ofNat s)))]) (fun _ => []) (fun s => s ≤ N ∧ ∀ (j : Nat) q, j < s → W[j]? = some q → q.key ≠ key) (fun s => N - s) 0 ?_ ?_)
  · exact ⟨(by repeat (first | exact trivial | refine And.intro rfl ?_)), rfl, Nat.zero_le _, fun j q h => absurd h (Nat.not_lt_zero _)⟩
  rintro i ⟨hiN, hms⟩ rd hrd
  by_cases hi : i < N
  · refine Exists.elim (get_of_lt (show i < W.length by omega)) fun p hp => ?_
    have hzp : zs[i]? = some (.agg [.str p.key, .str p.val]) := by rw [hzs]; exact prP_get hp
    have hmu : N - (i + 1) < N - i := by omega
    have hi1 : i + 1 ≤ N := by omega
    by_cases hk : p.key = key
    · have hl := lk_at hms hp hk
      intro add1 sub1 mul1 quo1 rem1 band1 bor1 bxor1 bclr1 shl1 shr1 ieq1 ilt1 ile1 seq1 slt1 beq1 bnot1 orb1 bcond1 iwrap1 iof1 ssz1 hA1 cat1 sq1 sl1 imin1 imax1 smin1 smax1 len1 slen1 u81 hL1 op1 hop1 call1 hcall1 code1 hcode1
      cbv
      refine vcIf.yes (by first | (simp [hA1.not, hA1.eq, hA1.lt, hA1.le, hA1.cond, hA1.beq, hA1.orb, hL1.len, hL1.slen, hL1.sq, hzl, hi]; done) | (simp only [hzl, hi]; simp [hA1.not, hA1.eq, hA1.lt, hA1.le, hA1.cond, hA1.beq, hA1.orb, hL1.len, hL1.slen, hL1.sq, hzl, hi]; done) | (simp [hA1.not, hA1.eq, hA1.lt, hA1.le, hA1.cond, hA1.beq, hA1.orb, hL1.len, hL1.slen, hL1.sq, hzl, hi]; omega) | (simp only [hzl, hi]; simp [hA1.not, hA1.eq, hA1.lt, hA1.le, hA1.cond, hA1.beq, hA1.orb, hL1.len, hL1.slen, hL1.sq, hzl, hi]; omega)) ?_
      cbv
      refine ⟨i, _, rfl, hzp, rfl, ?_⟩
      cbv
      refine vcIf.yes (by first | (simp [hA1.not, hA1.eq, hA1.lt, hA1.le, hA1.cond, hA1.beq, hA1.orb, hL1.len, hL1.slen, hL1.sq, hk]; done) | (simp only [hk]; simp [hA1.not, hA1.eq, hA1.lt, hA1.le, hA1.cond, hA1.beq, hA1.orb, hL1.len, hL1.slen, hL1.sq, hk]; done) | (simp [hA1.not, hA1.eq, hA1.lt, hA1.le, hA1.cond, hA1.beq, hA1.orb, hL1.len, hL1.slen, hL1.sq, hk]; omega) | (simp only [hk]; simp [hA1.not, hA1.eq, hA1.lt, hA1.le, hA1.cond, hA1.beq, hA1.orb, hL1.len, hL1.slen, hL1.sq, hk]; omega)) ?_
      cbv
      refine ⟨i, _, rfl, hzp, rfl, ?_⟩
      cbv
      exact hret _ (RetEv.ret eOk rfl ⟨p.val, true, 0, rfl, by rw [if_pos rfl, hl]; rfl, by rw [if_pos rfl, hl]; rfl, rfl, rfl⟩)
    · have hms' : ∀ (j : Nat) q, j < i + 1 → W[j]? = some q → q.key ≠ key := fun j q hj hq => by
        rcases Nat.lt_succ_iff_lt_or_eq.1 hj with h | rfl
        · exact hms j q h hq
        · rw [hp] at hq; cases hq; exact hk
      intro add1 sub1 mul1 quo1 rem1 band1 bor1 bxor1 bclr1 shl1 shr1 ieq1 ilt1 ile1 seq1 slt1 beq1 bnot1 orb1 bcond1 iwrap1 iof1 ssz1 hA1 cat1 sq1 sl1 imin1 imax1 smin1 smax1 len1 slen1 u81 hL1 op1 hop1 call1 hcall1 code1 hcode1
      have hinc : add1 .i64 (Int.ofNat i) 1 = Int.ofNat (i + 1) := by rw [hA1.add]; exact i64_nat (by simp) (by omega)
      cbv
      refine vcIf.yes (by first | (simp [hA1.not, hA1.eq, hA1.lt, hA1.le, hA1.cond, hA1.beq, hA1.orb, hL1.len, hL1.slen, hL1.sq, hzl, hi]; done) | (simp only [hzl, hi]; simp [hA1.not, hA1.eq, hA1.lt, hA1.le, hA1.cond, hA1.beq, hA1.orb, hL1.len, hL1.slen, hL1.sq, hzl, hi]; done) | (simp [hA1.not, hA1.eq, hA1.lt, hA1.le, hA1.cond, hA1.beq, hA1.orb, hL1.len, hL1.slen, hL1.sq, hzl, hi]; omega) | (simp only [hzl, hi]; simp [hA1.not, hA1.eq, hA1.lt, hA1.le, hA1.cond, hA1.beq, hA1.orb, hL1.len, hL1.slen, hL1.sq, hzl, hi]; omega)) ?_
      cbv
      refine ⟨i, _, rfl, hzp, rfl, ?_⟩
      cbv
      refine vcIf.no (by first | (simp [hA1.not, hA1.eq, hA1.lt, hA1.le, hA1.cond, hA1.beq, hA1.orb, hL1.len, hL1.slen, hL1.sq, hk]; done) | (simp only [hk]; simp [hA1.not, hA1.eq, hA1.lt, hA1.le, hA1.cond, hA1.beq, hA1.orb, hL1.len, hL1.slen, hL1.sq, hk]; done) | (simp [hA1.not, hA1.eq, hA1.lt, hA1.le, hA1.cond, hA1.beq, hA1.orb, hL1.len, hL1.slen, hL1.sq, hk]; omega) | (simp only [hk]; simp [hA1.not, hA1.eq, hA1.lt, hA1.le, hA1.cond, hA1.beq, hA1.orb, hL1.len, hL1.slen, hL1.sq, hk]; omega)) ?_
      cbv
      refine hrd _ ⟨i + 1, _, hmu, ⟨hi1, hms'⟩, rfl, ⟨rfl, rfl, ?_, trivial⟩, rfl, rfl, rfl, by rw [hB]; exact Nat.zero_le _⟩
      show some (Go.Lx.V.p (.int .i64 _)) = _
      rw [hinc]
  · obtain rfl : i = N := by omega
    have hl : lk W key = none := lk_none fun p hp => by
      obtain ⟨j, hj⟩ := List.mem_iff_getElem?.1 hp
      exact hms j p (by rw [hN]; exact (List.getElem?_eq_some_iff.1 hj).1) hj
    intro add1 sub1 mul1 quo1 rem1 band1 bor1 bxor1 bclr1 shl1 shr1 ieq1 ilt1 ile1 seq1 slt1 beq1 bnot1 orb1 bcond1 iwrap1 iof1 ssz1 hA1 cat1 sq1 sl1 imin1 imax1 smin1 smax1 len1 slen1 u81 hL1 op1 hop1 call1 hcall1 code1 hcode1
    cbv
    refine vcIf.no (by first | (simp [hA1.not, hA1.eq, hA1.lt, hA1.le, hA1.cond, hA1.beq, hA1.orb, hL1.len, hL1.slen, hL1.sq, hzl]; done) | (simp only [hzl]; simp [hA1.not, hA1.eq, hA1.lt, hA1.le, hA1.cond, hA1.beq, hA1.orb, hL1.len, hL1.slen, hL1.sq, hzl]; done) | (simp [hA1.not, hA1.eq, hA1.lt, hA1.le, hA1.cond, hA1.beq, hA1.orb, hL1.len, hL1.slen, hL1.sq, hzl]; omega) | (simp only [hzl]; simp [hA1.not, hA1.eq, hA1.lt, hA1.le, hA1.cond, hA1.beq, hA1.orb, hL1.len, hL1.slen, hL1.sq, hzl]; omega)) ?_
    cbv
    exact hret _ (RetEv.ret eOk rfl ⟨[], false, 0, rfl, by rw [if_pos rfl, hl]; rfl, by rw [if_pos rfl, hl]; rfl, rfl, rfl⟩)
end
section
open Go Go.Lx
open Go.Sx (vcIf)

theorem filtT_next {fl : Pr → Bool} {ps : List Pr} {k M : Nat} {p : Pr} (h : ps[k]? = some p) : ((ps.take (k + 1)).filter fl).take M = if fl p = true ∧ (((ps.take k).filter fl).take M).length < M then (((ps.take k).filter fl).take M) ++ [p] else ((ps.take k).filter fl).take M := by
  rw [List.take_add_one, h, List.filter_append]
  by_cases hp : fl p = true
  · by_cases hm : (((ps.take k).filter fl).take M).length < M
    · rw [if_pos ⟨hp, hm⟩]
      rw [List.length_take] at hm
      rw [List.take_of_length_le (l := (ps.take k).filter fl) (by omega), List.take_of_length_le (by simp [hp]; omega)]
      simp [hp]
    · rw [if_neg (by simp only [hm, and_false, not_false_iff])]
      rw [List.length_take] at hm
      rw [List.take_append_of_le_length (by omega)]
  · rw [if_neg (by simp [hp])]
    simp [hp]

theorem rpList_spec (L : List RLay) (hn : L.length < 281474976710656) (f l v most : Int) (hmost : most ≤ 9223372036854775807) (lo hi : List UInt8) (ys : List PV) (hys : ys = rlP L) (hP : knw f l v = 0 → (atR L v).length * 32 + 32 ≤ 140737488355328) :
    FnL Try.prog 26 [rpI f l ys, .p (.agg [.str lo, .str hi]), .p (.int .i64 v), .p (.int .i64 most)] [] fun r own => ∃ (e : Nat) (us : List PV) (m : Nat), e = liE f l v most ∧ us = prP (if knw f l v = 0 ∧ ¬ most < 0 then lst (atR L v) ⟨lo, hi⟩ most else []) ∧ m = us.length ∧
      r = .tup [.vw 0 2 0 m none, .p (.int .i64 (Int.ofNat e))] ∧ own = [.arr 45 2 us] := by
  have hkn := rpKnown_spec f l v ys
  have hat := rpAt_spec L hn f l v ys hys
  obtain ⟨W, hW⟩ : ∃ W, W = atR L v := ⟨_, rfl⟩
  obtain ⟨E, hE⟩ : ∃ E, E = knw f l v := ⟨_, rfl⟩
  unfold liE
  rw [← hW] at hat hP ⊢
  rw [← hE] at hkn hP ⊢
  obtain ⟨zs, hzs⟩ : ∃ zs, zs = prP W := ⟨_, rfl⟩
  rw [← hzs] at hat
  obtain ⟨N, hN⟩ : ∃ N, N = W.length := ⟨_, rfl⟩
  have hzl : zs.length = N := by rw [hzs, prP_length, hN]
  rw [← hN] at hP
  clear hW hE
  refine fn_of_vc eOk fOk fo26 Try.func26 rfl rfl rfl fun B hB => ?_
  intro add sub mul quo rem band bor bxor bclr shl shr ieq ilt ile seq slt beq bnot orb bcond iwrap iof ssz hA cat sq sl imin imax smin smax len slen u8 hL op hop call hcall code hcode ret hret
  cbv
  refine hcall _ _ _ _ _ (CallEv.pure hkn (.cons (.imm _ _ _) (.cons (.p _) .nil)) ?_)
  rintro _ _ ⟨e, rfl, rfl, rfl⟩
  cbv
  by_cases h0 : e = 0
  rotate_left
  · have h0' : ¬ (e : Int) = 0 := by omega
    refine vcIf.yes (by first | (simp [hA.not, hA.eq, hA.lt, hA.le, hA.cond, hA.beq, hA.orb, hL.len, hL.slen, hL.sq, h0, h0']; done) | (simp only [h0, h0']; simp [hA.not, hA.eq, hA.lt, hA.le, hA.cond, hA.beq, hA.orb, hL.len, hL.slen, hL.sq, h0, h0']; done) | (simp [hA.not, hA.eq, hA.lt, hA.le, hA.cond, hA.beq, hA.orb, hL.len, hL.slen, hL.sq, h0, h0']; omega) | (simp only [h0, h0']; simp [hA.not, hA.eq, hA.lt, hA.le, hA.cond, hA.beq, hA.orb, hL.len, hL.slen, hL.sq, h0, h0']; omega)) ?_
    cbv
    exact hret _ (RetEv.convW ((Conv.hollow 8 45 2 (by decide) rfl).weak.trans (ConvW.pack [1] hB rfl)) (RetEv.ret eOk rfl ⟨e, [], 0, by rw [if_pos h0], by rw [if_neg (by simp [h0])]; rfl, rfl, rfl, rfl⟩))
  subst h0
  replace hP := hP rfl
  refine vcIf.no (by first | (simp [hA.not, hA.eq, hA.lt, hA.le, hA.cond, hA.beq, hA.orb, hL.len, hL.slen, hL.sq]; done) | (simp [hA.not, hA.eq, hA.lt, hA.le, hA.cond, hA.beq, hA.orb, hL.len, hL.slen, hL.sq]; omega)) ?_
  cbv
  by_cases h1 : most < 0
  · refine vcIf.yes (by first | (simp [hA.not, hA.eq, hA.lt, hA.le, hA.cond, hA.beq, hA.orb, hL.len, hL.slen, hL.sq, h1]; done) | (simp only [h1]; simp [hA.not, hA.eq, hA.lt, hA.le, hA.cond, hA.beq, hA.orb, hL.len, hL.slen, hL.sq, h1]; done) | (simp [hA.not, hA.eq, hA.lt, hA.le, hA.cond, hA.beq, hA.orb, hL.len, hL.slen, hL.sq, h1]; omega) | (simp only [h1]; simp [hA.not, hA.eq, hA.lt, hA.le, hA.cond, hA.beq, hA.orb, hL.len, hL.slen, hL.sq, h1]; omega)) ?_
    cbv
    exact hret _ (RetEv.convW ((Conv.hollow 8 45 2 (by decide) rfl).weak.trans (ConvW.pack [1] hB rfl)) (RetEv.ret eOk rfl ⟨1, [], 0, by simp [h1], by rw [if_neg (by simp [h1])]; rfl, rfl, rfl, rfl⟩))
  refine vcIf.no (by first | (simp [hA.not, hA.eq, hA.lt, hA.le, hA.cond, hA.beq, hA.orb, hL.len, hL.slen, hL.sq, h1]; done) | (simp only [h1]; simp [hA.not, hA.eq, hA.lt, hA.le, hA.cond, hA.beq, hA.orb, hL.len, hL.slen, hL.sq, h1]; done) | (simp [hA.not, hA.eq, hA.lt, hA.le, hA.cond, hA.beq, hA.orb, hL.len, hL.slen, hL.sq, h1]; omega) | (simp only [h1]; simp [hA.not, hA.eq, hA.lt, hA.le, hA.cond, hA.beq, hA.orb, hL.len, hL.slen, hL.sq, h1]; omega)) ?_
  cbv
  refine hcall _ _ _ _ _ (CallEv.pure hat (.cons (.imm _ _ _) (.cons (.p _) .nil)) ?_)
  rintro _ _ ⟨rfl, rfl⟩
  obtain ⟨M, hM⟩ : ∃ M, M = most.toNat := ⟨_, rfl⟩
  have hmM : most = Int.ofNat M := by rw [hM]; simp only [Int.ofNat_eq_natCast]; omega
  obtain ⟨fl, hfl⟩ : ∃ fl : Pr → Bool, fl = fun p => hs ⟨lo, hi⟩ p.key := ⟨_, rfl⟩
  have hend : lst W ⟨lo, hi⟩ most = (W.filter fl).take M := by unfold lst; rw [hM, hfl]
  have hfe : 0 = (if (0 : Nat) ≠ 0 then 0 else if most < 0 then 1 else 0) := by rw [if_neg (by simp), if_neg h1]
  have hfu : (if (0 : Nat) = 0 ∧ ¬ most < 0 then lst W ⟨lo, hi⟩ most else []) = (W.filter fl).take M := by rw [if_pos ⟨rfl, h1⟩, hend]
  clear hend
  subst hmM
  cbv
  refine ⟨true, ?_⟩
  cbv
  refine hcode _ _ _ (CodeEv.loop eOk fOk (ι := Nat × List PV × Nat) (fun s => [(3, .p (.int .i64 (Int.ofNat M))), (5, .own 0 0), (11, .p (.sl zs)), (12, .vw 1 2 0 s.2.2 none), (13, .p (.int .i64 (Int.ofNat s.1)))]) (fun s => [.st 24 [.p (.str lo), .p (.str hi)], .arr 45 2 s.2.1]) (fun s => s.1 ≤ N ∧ s.2.1 = prP (((W.take s.1).filter fl).take M) ∧ s.2.2 = s.2.1.length) (fun s => N - s.1) (0, [], 0) ?_ ?_)
  · exact ⟨(by repeat (first | exact trivial | refine And.intro rfl ?_)), rfl, Nat.zero_le _, by simp [prP], rfl⟩
  rintro ⟨i, us, m⟩ ⟨hiN, hus, hm⟩ rd hrd
  dsimp only at hiN hus hm
  by_cases hiN' : i < N
  · refine Exists.elim (get_of_lt (show i < W.length by omega)) fun p hp => ?_
    have hnx := filtT_next (fl := fl) (M := M) hp
    have hml : (((W.take i).filter fl).take M).length = m := by rw [hm, hus, prP_length]
    rw [hml] at hnx
    have hmi : m ≤ i := by
      have h2 := List.length_filter_le fl (W.take i)
      have h3 := List.length_take_le i W
      rw [List.length_take] at hml
      omega
    have hzp : zs[i]? = some (.agg [.str p.key, .str p.val]) := by rw [hzs]; exact prP_get hp
    have hhas := rhas_spec lo hi p.key
    have hflp : fl p = (!(bl p.key lo) && bl p.key hi) := by rw [hfl]; rfl
    refine Exists.elim (show ∃ b, b = fl p from ⟨_, rfl⟩) fun b hb => ?_
    rw [← hb] at hnx hflp
    rw [← hflp] at hhas
    have hmu : N - (i + 1) < N - i := by omega
    have hi1 : i + 1 ≤ N := by omega
    clear hflp hb
    obtain ⟨pk, pv⟩ := p
    simp only at hzp hhas
    intro add1 sub1 mul1 quo1 rem1 band1 bor1 bxor1 bclr1 shl1 shr1 ieq1 ilt1 ile1 seq1 slt1 beq1 bnot1 orb1 bcond1 iwrap1 iof1 ssz1 hA1 cat1 sq1 sl1 imin1 imax1 smin1 smax1 len1 slen1 u81 hL1 op1 hop1 call1 hcall1 code1 hcode1
    have hinc : add1 .i64 (Int.ofNat i) 1 = Int.ofNat (i + 1) := by rw [hA1.add]; exact i64_nat (by simp) (by omega)
    cbv
    refine vcIf.yes (by first | (simp [hA1.not, hA1.eq, hA1.lt, hA1.le, hA1.cond, hA1.beq, hA1.orb, hL1.len, hL1.slen, hL1.sq, hzl, hiN']; done) | (simp only [hzl, hiN']; simp [hA1.not, hA1.eq, hA1.lt, hA1.le, hA1.cond, hA1.beq, hA1.orb, hL1.len, hL1.slen, hL1.sq, hzl, hiN']; done) | (simp [hA1.not, hA1.eq, hA1.lt, hA1.le, hA1.cond, hA1.beq, hA1.orb, hL1.len, hL1.slen, hL1.sq, hzl, hiN']; omega) | (simp only [hzl, hiN']; simp [hA1.not, hA1.eq, hA1.lt, hA1.le, hA1.cond, hA1.beq, hA1.orb, hL1.len, hL1.slen, hL1.sq, hzl, hiN']; omega)) ?_
    cbv
    refine hcode1 _ _ _ (CodeEv.drawT eOk fOk (by kernel_rfl) noX (.rd 0 (.rd 1 (.so 2 (.so 3 (.so 4 (.so 5 (.acts (.cons 6 (.so 7 (.rd 8 (.rd 9 (.so 10 (.so 11 (.so 12 (.done))))))) (.nil))))))))) (by kernel_rfl) (by kernel_rfl) ?_)
    intro add2 sub2 mul2 quo2 rem2 band2 bor2 bxor2 bclr2 shl2 shr2 ieq2 ilt2 ile2 seq2 slt2 beq2 bnot2 orb2 bcond2 iwrap2 iof2 ssz2 hA2 cat2 sq2 sl2 imin2 imax2 smin2 smax2 len2 slen2 u82 hL2 op2 hop2 call2 hcall2 code2 hcode2 q2 hq2
    cbv
    refine ⟨i, _, rfl, hzp, rfl, ?_⟩
    cbv
    refine hcall2 _ _ _ _ _ (CallEv.same hhas rfl ?_)
    rintro _ _ ⟨rfl, rfl⟩
    cbv
    cases b with
    | false =>
      rw [if_neg (by simp)] at hnx
      repeat (first | (refine vcIf.yes ?_ ?_; (focus (simp [hA2.not, hA2.eq, hA2.lt, hA2.le, hA2.cond, hA2.beq, hA2.orb, hL2.len, hL2.slen, hL2.sq]; done)); cbv) | (refine vcIf.no ?_ ?_; (focus (simp [hA2.not, hA2.eq, hA2.lt, hA2.le, hA2.cond, hA2.beq, hA2.orb, hL2.len, hL2.slen, hL2.sq]; done)); cbv) | fail)
      refine hq2 _ ?_
      cbv
      repeat (first | (refine vcIf.yes ?_ ?_; (focus (simp [hA2.not, hA2.eq, hA2.lt, hA2.le, hA2.cond, hA2.beq, hA2.orb, hL2.len, hL2.slen, hL2.sq]; done)); cbv) | (refine vcIf.no ?_ ?_; (focus (simp [hA2.not, hA2.eq, hA2.lt, hA2.le, hA2.cond, hA2.beq, hA2.orb, hL2.len, hL2.slen, hL2.sq]; done)); cbv) | fail)
      refine hrd _ ⟨(i + 1, us, m), _, hmu, ⟨hi1, by show us = prP _; rw [hnx]; exact hus, hm⟩, rfl, ⟨rfl, rfl, rfl, rfl, ?_, trivial⟩, rfl, rfl, rfl, by rw [hB]; exact Nat.zero_le _⟩
      show some (Go.Lx.V.p (.int .i64 _)) = _
      rw [hinc]
    | true =>
      by_cases hmM : m < M
      · rw [if_pos ⟨rfl, hmM⟩] at hnx
        repeat (first | (refine vcIf.yes ?_ ?_; (focus (simp [hA2.not, hA2.eq, hA2.lt, hA2.le, hA2.cond, hA2.beq, hA2.orb, hL2.len, hL2.slen, hL2.sq, hA2.ofNat, hmM]; done)); cbv) | (refine vcIf.no ?_ ?_; (focus (simp [hA2.not, hA2.eq, hA2.lt, hA2.le, hA2.cond, hA2.beq, hA2.orb, hL2.len, hL2.slen, hL2.sq, hA2.ofNat, hmM]; done)); cbv) | fail)
        refine hq2 _ ?_
        cbv
        refine vcIf.yes (by first | (simp [hA2.not, hA2.eq, hA2.lt, hA2.le, hA2.cond, hA2.beq, hA2.orb, hL2.len, hL2.slen, hL2.sq, hA2.ofNat, hmM]; done) | (simp only [hA2.ofNat, hmM]; simp [hA2.not, hA2.eq, hA2.lt, hA2.le, hA2.cond, hA2.beq, hA2.orb, hL2.len, hL2.slen, hL2.sq, hA2.ofNat, hmM]; done) | (simp [hA2.not, hA2.eq, hA2.lt, hA2.le, hA2.cond, hA2.beq, hA2.orb, hL2.len, hL2.slen, hL2.sq, hA2.ofNat, hmM]; omega) | (simp only [hA2.ofNat, hmM]; simp [hA2.not, hA2.eq, hA2.lt, hA2.le, hA2.cond, hA2.beq, hA2.orb, hL2.len, hL2.slen, hL2.sq, hA2.ofNat, hmM]; omega)) ?_
        cbv
        refine ⟨i, _, rfl, hzp, rfl, ?_⟩
        cbv
        refine ⟨false, ?_⟩
        cbv
        refine .inl ⟨(), rfl, hm, ?_, ?_, ?_, fun ws m' hws hm' => ?_⟩
        · intro y hy
          simp [Sq.get] at hy
          rw [hy]; exact ⟨rfl, fun u hu => by simp [PV.cells] at hu; rcases hu with rfl | rfl <;> rfl⟩
        · show m + 1 ≤ maxLen
          unfold maxLen; omega
        · show (m + 1) * 32 ≤ _
          omega
        replace hws : ws = us ++ [Pr.v ⟨pk, pv⟩] := hws
        replace hm' : m' = m + 1 := hm'
        cbv
        refine hrd _ ⟨(i + 1, ws, m'), _, hmu, ⟨hi1, by show ws = prP _; rw [hnx, hws, hus]; unfold prP; rw [List.map_append]; rfl, by show m' = ws.length; rw [hm', hws, List.length_append, ← hm]; rfl⟩, rfl, ⟨rfl, rfl, rfl, rfl, ?_, trivial⟩, rfl, rfl, rfl, by rw [hB]; exact Nat.zero_le _⟩
        show some (Go.Lx.V.p (.int .i64 _)) = _
        rw [hinc]
      · rw [if_neg (by simp [hmM])] at hnx
        repeat (first | (refine vcIf.yes ?_ ?_; (focus (simp [hA2.not, hA2.eq, hA2.lt, hA2.le, hA2.cond, hA2.beq, hA2.orb, hL2.len, hL2.slen, hL2.sq, hA2.ofNat, hmM]; done)); cbv) | (refine vcIf.no ?_ ?_; (focus (simp [hA2.not, hA2.eq, hA2.lt, hA2.le, hA2.cond, hA2.beq, hA2.orb, hL2.len, hL2.slen, hL2.sq, hA2.ofNat, hmM]; done)); cbv) | fail)
        refine hq2 _ ?_
        cbv
        refine vcIf.no (by first | (simp [hA2.not, hA2.eq, hA2.lt, hA2.le, hA2.cond, hA2.beq, hA2.orb, hL2.len, hL2.slen, hL2.sq, hA2.ofNat, hmM]; done) | (simp only [hA2.ofNat, hmM]; simp [hA2.not, hA2.eq, hA2.lt, hA2.le, hA2.cond, hA2.beq, hA2.orb, hL2.len, hL2.slen, hL2.sq, hA2.ofNat, hmM]; done) | (simp [hA2.not, hA2.eq, hA2.lt, hA2.le, hA2.cond, hA2.beq, hA2.orb, hL2.len, hL2.slen, hL2.sq, hA2.ofNat, hmM]; omega) | (simp only [hA2.ofNat, hmM]; simp [hA2.not, hA2.eq, hA2.lt, hA2.le, hA2.cond, hA2.beq, hA2.orb, hL2.len, hL2.slen, hL2.sq, hA2.ofNat, hmM]; omega)) ?_
        cbv
        refine hrd _ ⟨(i + 1, us, m), _, hmu, ⟨hi1, by show us = prP _; rw [hnx]; exact hus, hm⟩, rfl, ⟨rfl, rfl, rfl, rfl, ?_, trivial⟩, rfl, rfl, rfl, by rw [hB]; exact Nat.zero_le _⟩
        show some (Go.Lx.V.p (.int .i64 _)) = _
        rw [hinc]
  · obtain rfl : i = N := by omega
    rw [hN, List.take_length] at hus
    intro add1 sub1 mul1 quo1 rem1 band1 bor1 bxor1 bclr1 shl1 shr1 ieq1 ilt1 ile1 seq1 slt1 beq1 bnot1 orb1 bcond1 iwrap1 iof1 ssz1 hA1 cat1 sq1 sl1 imin1 imax1 smin1 smax1 len1 slen1 u81 hL1 op1 hop1 call1 hcall1 code1 hcode1
    cbv
    refine vcIf.no (by first | (simp [hA1.not, hA1.eq, hA1.lt, hA1.le, hA1.cond, hA1.beq, hA1.orb, hL1.len, hL1.slen, hL1.sq, hzl]; done) | (simp only [hzl]; simp [hA1.not, hA1.eq, hA1.lt, hA1.le, hA1.cond, hA1.beq, hA1.orb, hL1.len, hL1.slen, hL1.sq, hzl]; done) | (simp [hA1.not, hA1.eq, hA1.lt, hA1.le, hA1.cond, hA1.beq, hA1.orb, hL1.len, hL1.slen, hL1.sq, hzl]; omega) | (simp only [hzl]; simp [hA1.not, hA1.eq, hA1.lt, hA1.le, hA1.cond, hA1.beq, hA1.orb, hL1.len, hL1.slen, hL1.sq, hzl]; omega)) ?_
    cbv
    exact hret _ (RetEv.convW (ConvW.pack [1] hB rfl) (RetEv.ret eOk rfl ⟨0, us, m, hfe, by rw [hfu]; exact hus, hm, rfl, rfl⟩))

theorem rpForget_spec (f l v : Int) (n : Nat) (xs : List PV) :
    FnL Try.prog 27 [.own 0 0, .p (.int .i64 v)] [rpS f l n, rpA xs] fun r own => ∃ (e : Nat) (f' : Int), e = fgE l v ∧ f' = (if ¬ l < v ∧ f < v then v else f) ∧ r = .p (.int .i64 (Int.ofNat e)) ∧ own = [rpS f' l n, rpA xs] := by
  refine fn_of_vc eOk fOk fo27 Try.func27 rfl rfl rfl fun B hB => ?_
  intro add sub mul quo rem band bor bxor bclr shl shr ieq ilt ile seq slt beq bnot orb bcond iwrap iof ssz hA cat sq sl imin imax smin smax len slen u8 hL op hop call hcall code hcode ret hret
  cbv
  by_cases h0 : l < v
  · refine vcIf.yes (by first | (simp [hA.not, hA.eq, hA.lt, hA.le, hA.cond, hA.beq, hA.orb, hL.len, hL.slen, hL.sq, h0]; done) | (simp only [h0]; simp [hA.not, hA.eq, hA.lt, hA.le, hA.cond, hA.beq, hA.orb, hL.len, hL.slen, hL.sq, h0]; done) | (simp [hA.not, hA.eq, hA.lt, hA.le, hA.cond, hA.beq, hA.orb, hL.len, hL.slen, hL.sq, h0]; omega) | (simp only [h0]; simp [hA.not, hA.eq, hA.lt, hA.le, hA.cond, hA.beq, hA.orb, hL.len, hL.slen, hL.sq, h0]; omega)) ?_
    cbv
    exact hret _ (RetEv.ret eOk rfl ⟨8, f, by unfold fgE; rw [if_pos h0], by rw [if_neg (by simp [h0])], rfl, rfl⟩)
  have hfg : fgE l v = 0 := by unfold fgE; rw [if_neg h0]
  refine vcIf.no (by first | (simp [hA.not, hA.eq, hA.lt, hA.le, hA.cond, hA.beq, hA.orb, hL.len, hL.slen, hL.sq, h0]; done) | (simp only [h0]; simp [hA.not, hA.eq, hA.lt, hA.le, hA.cond, hA.beq, hA.orb, hL.len, hL.slen, hL.sq, h0]; done) | (simp [hA.not, hA.eq, hA.lt, hA.le, hA.cond, hA.beq, hA.orb, hL.len, hL.slen, hL.sq, h0]; omega) | (simp only [h0]; simp [hA.not, hA.eq, hA.lt, hA.le, hA.cond, hA.beq, hA.orb, hL.len, hL.slen, hL.sq, h0]; omega)) ?_
  cbv
  by_cases h1 : f < v
  · refine vcIf.yes (by first | (simp [hA.not, hA.eq, hA.lt, hA.le, hA.cond, hA.beq, hA.orb, hL.len, hL.slen, hL.sq, h1]; done) | (simp only [h1]; simp [hA.not, hA.eq, hA.lt, hA.le, hA.cond, hA.beq, hA.orb, hL.len, hL.slen, hL.sq, h1]; done) | (simp [hA.not, hA.eq, hA.lt, hA.le, hA.cond, hA.beq, hA.orb, hL.len, hL.slen, hL.sq, h1]; omega) | (simp only [h1]; simp [hA.not, hA.eq, hA.lt, hA.le, hA.cond, hA.beq, hA.orb, hL.len, hL.slen, hL.sq, h1]; omega)) ?_
    cbv
    exact hret _ (RetEv.ret eOk rfl ⟨0, v, hfg.symm, by rw [if_pos ⟨h0, h1⟩], rfl, rfl⟩)
  refine vcIf.no (by first | (simp [hA.not, hA.eq, hA.lt, hA.le, hA.cond, hA.beq, hA.orb, hL.len, hL.slen, hL.sq, h1]; done) | (simp only [h1]; simp [hA.not, hA.eq, hA.lt, hA.le, hA.cond, hA.beq, hA.orb, hL.len, hL.slen, hL.sq, h1]; done) | (simp [hA.not, hA.eq, hA.lt, hA.le, hA.cond, hA.beq, hA.orb, hL.len, hL.slen, hL.sq, h1]; omega) | (simp only [h1]; simp [hA.not, hA.eq, hA.lt, hA.le, hA.cond, hA.beq, hA.orb, hL.len, hL.slen, hL.sq, h1]; omega)) ?_
  cbv
  exact hret _ (RetEv.ret eOk rfl ⟨0, f, hfg.symm, by rw [if_neg (by simp [h1])], rfl, rfl⟩)
end
section
open Go Go.Lx
open Go.Sx (vcIf)

theorem ones_nx (ps : List Pr) {cs : List Chg} {i : Nat} {c : Chg} (h : cs[i]? = some c) : ones ps (cs.take (i + 1)) = one (ones ps (cs.take i)) c := by
  unfold ones; rw [List.take_add_one, h, List.foldl_append]; rfl
theorem ones_tlen {ps : List Pr} (h : Srt ps) (cs : List Chg) (i : Nat) : (ones ps (cs.take i)).length ≤ ps.length + cs.length :=
  Nat.le_trans (ones_len h _) (Nat.add_le_add_left (List.length_take_le' _ _) _)

theorem rpAtO_spec (L : List RLay) (f l v : Int) (ys : List PV) (hys : ys = rlP L) (n : Nat) (hn0 : n = L.length) (hn : n < 281474976710656) :
    FnL Try.prog 46 [.own 0 0, .p (.int .i64 v)] [rpS f l n, rpA ys] fun r own => r = .p (.sl (prP (atR L v))) ∧ own = [rpS f l n, rpA ys] := by
  obtain ⟨R, hR⟩ : ∃ R, R = prP (atR L v) := ⟨_, rfl⟩
  rw [← hR]
  obtain ⟨N, hN⟩ : ∃ N, N = L.length := ⟨_, rfl⟩
  obtain hNn : N = n := hN.trans hn0.symm
  have hyl : ys.length = n := by rw [hys, rlP_length, hn0]
  refine fn_of_vc eOk fOk fo46 Try.func46 rfl rfl rfl fun B hB => ?_
  intro add sub mul quo rem band bor bxor bclr shl shr ieq ilt ile seq slt beq bnot orb bcond iwrap iof ssz hA cat sq sl imin imax smin smax len slen u8 hL op hop call hcall code hcode ret hret
  cbv
  refine ⟨false, ?_⟩
  cbv
  refine hcode _ _ _ (CodeEv.loop eOk fOk (ι := Nat × List PV) (fun s => [(0, .own 0 0), (1, .p (.int .i64 v)), (5, .p (.sl s.2)), (6, .p (.int .i64 (Int.ofNat s.1)))]) (fun _ => [rpS f l n, rpA ys]) (fun s => s.1 ≤ n ∧ s.2 = prP (atR (L.take s.1) v)) (fun s => n - s.1) (0, []) ?_ ?_)
  · exact ⟨(by repeat (first | exact trivial | refine And.intro rfl ?_)), rfl, Nat.zero_le _, rfl⟩
  rintro ⟨i, ps⟩ ⟨hiN, hps⟩ rd hrd
  dsimp only at hiN hps
  by_cases hi : i < n
  · refine Exists.elim (get_of_lt (show i < L.length by omega)) fun b hb => ?_
    refine Exists.elim (show ∃ q, q = prP b.2 from ⟨_, rfl⟩) fun q hq => ?_
    have hzb : ys[i]? = some (.agg [.int .i64 b.1, .sl q]) := by rw [hys, hq]; exact rlP_get hb
    have hnx := atR_next v hb
    have hmu : n - (i + 1) < n - i := by omega
    have hi1 : i + 1 ≤ n := by omega
    intro add1 sub1 mul1 quo1 rem1 band1 bor1 bxor1 bclr1 shl1 shr1 ieq1 ilt1 ile1 seq1 slt1 beq1 bnot1 orb1 bcond1 iwrap1 iof1 ssz1 hA1 cat1 sq1 sl1 imin1 imax1 smin1 smax1 len1 slen1 u81 hL1 op1 hop1 call1 hcall1 code1 hcode1
    have hinc : add1 .i64 (Int.ofNat i) 1 = Int.ofNat (i + 1) := by rw [hA1.add]; exact i64_nat (by simp) (by omega)
    cbv
    refine vcIf.yes (by first | (simp [hA1.not, hA1.eq, hA1.lt, hA1.le, hA1.cond, hA1.beq, hA1.orb, hL1.len, hL1.slen, hL1.sq, hA1.ofNat, hi]; done) | (simp only [hA1.ofNat, hi]; simp [hA1.not, hA1.eq, hA1.lt, hA1.le, hA1.cond, hA1.beq, hA1.orb, hL1.len, hL1.slen, hL1.sq, hA1.ofNat, hi]; done) | (simp [hA1.not, hA1.eq, hA1.lt, hA1.le, hA1.cond, hA1.beq, hA1.orb, hL1.len, hL1.slen, hL1.sq, hA1.ofNat, hi]; omega) | (simp only [hA1.ofNat, hi]; simp [hA1.not, hA1.eq, hA1.lt, hA1.le, hA1.cond, hA1.beq, hA1.orb, hL1.len, hL1.slen, hL1.sq, hA1.ofNat, hi]; omega)) ?_
    cbv
    refine ⟨i, rfl, hi, fun q0 hq0 => ?_⟩
    obtain rfl : i = q0 := by omega
    cbv
    refine ⟨_, hzb, ?_⟩
    cbv
    by_cases hv : b.1 ≤ v
    · rw [if_pos hv] at hnx
      refine vcIf.yes (by first | (simp [hA1.not, hA1.eq, hA1.lt, hA1.le, hA1.cond, hA1.beq, hA1.orb, hL1.len, hL1.slen, hL1.sq, hv]; done) | (simp only [hv]; simp [hA1.not, hA1.eq, hA1.lt, hA1.le, hA1.cond, hA1.beq, hA1.orb, hL1.len, hL1.slen, hL1.sq, hv]; done) | (simp [hA1.not, hA1.eq, hA1.lt, hA1.le, hA1.cond, hA1.beq, hA1.orb, hL1.len, hL1.slen, hL1.sq, hv]; omega) | (simp only [hv]; simp [hA1.not, hA1.eq, hA1.lt, hA1.le, hA1.cond, hA1.beq, hA1.orb, hL1.len, hL1.slen, hL1.sq, hv]; omega)) ?_
      cbv
      refine ⟨i, rfl, hi, fun q1 hq1 => ?_⟩
      obtain rfl : i = q1 := by omega
      cbv
      refine ⟨_, hzb, ?_⟩
      cbv
      refine hrd _ ⟨(i + 1, q), _, hmu, ⟨hi1, by show q = prP _; rw [hnx, hq]⟩, rfl, ⟨rfl, rfl, rfl, ?_, trivial⟩, rfl, rfl, rfl, by rw [hB]; exact Nat.le_refl 2⟩
      show some (Go.Lx.V.p (.int .i64 _)) = _
      rw [hinc]
    · rw [if_neg hv] at hnx
      refine vcIf.no (by first | (simp [hA1.not, hA1.eq, hA1.lt, hA1.le, hA1.cond, hA1.beq, hA1.orb, hL1.len, hL1.slen, hL1.sq, hv]; done) | (simp only [hv]; simp [hA1.not, hA1.eq, hA1.lt, hA1.le, hA1.cond, hA1.beq, hA1.orb, hL1.len, hL1.slen, hL1.sq, hv]; done) | (simp [hA1.not, hA1.eq, hA1.lt, hA1.le, hA1.cond, hA1.beq, hA1.orb, hL1.len, hL1.slen, hL1.sq, hv]; omega) | (simp only [hv]; simp [hA1.not, hA1.eq, hA1.lt, hA1.le, hA1.cond, hA1.beq, hA1.orb, hL1.len, hL1.slen, hL1.sq, hv]; omega)) ?_
      cbv
      refine hrd _ ⟨(i + 1, ps), _, hmu, ⟨hi1, by show ps = prP _; rw [hnx]; exact hps⟩, rfl, ⟨rfl, rfl, rfl, ?_, trivial⟩, rfl, rfl, rfl, by rw [hB]; exact Nat.le_refl 2⟩
      show some (Go.Lx.V.p (.int .i64 _)) = _
      rw [hinc]
  · obtain rfl : i = n := by omega
    rw [hn0, List.take_length, ← hR] at hps
    intro add1 sub1 mul1 quo1 rem1 band1 bor1 bxor1 bclr1 shl1 shr1 ieq1 ilt1 ile1 seq1 slt1 beq1 bnot1 orb1 bcond1 iwrap1 iof1 ssz1 hA1 cat1 sq1 sl1 imin1 imax1 smin1 smax1 len1 slen1 u81 hL1 op1 hop1 call1 hcall1 code1 hcode1
    cbv
    refine vcIf.no (by first | (simp [hA1.not, hA1.eq, hA1.lt, hA1.le, hA1.cond, hA1.beq, hA1.orb, hL1.len, hL1.slen, hL1.sq, hA1.ofNat]; done) | (simp only [hA1.ofNat]; simp [hA1.not, hA1.eq, hA1.lt, hA1.le, hA1.cond, hA1.beq, hA1.orb, hL1.len, hL1.slen, hL1.sq, hA1.ofNat]; done) | (simp [hA1.not, hA1.eq, hA1.lt, hA1.le, hA1.cond, hA1.beq, hA1.orb, hL1.len, hL1.slen, hL1.sq, hA1.ofNat]; omega) | (simp only [hA1.ofNat]; simp [hA1.not, hA1.eq, hA1.lt, hA1.le, hA1.cond, hA1.beq, hA1.orb, hL1.len, hL1.slen, hL1.sq, hA1.ofNat]; omega)) ?_
    cbv
    exact hret _ (RetEv.ret eOk rfl ⟨by rw [hps]; rfl, rfl⟩)

theorem rpAdd_spec (L : List RLay) (f l v : Int) (ch : List Chg) (hcf : ∀ c ∈ ch, c.fit) (hcl : ch.length < 281474976710656) (hS : Srt (atR L l)) (hsz : ((atR L l).length + ch.length + 1) * 32 ≤ 140737488355328) (xs : List PV) (hxs : xs = rlP L) (n : Nat) (hn0 : n = L.length) (hn : (n + 1) * 32 ≤ 140737488355328) (cs : List PV) (hcs : cs = cP ch) :
    FnL Try.prog 24 [.own 0 0, .p (.int .i64 v), .p (.sl cs)] [rpS f l n, rpA xs] fun r own => ∃ e : Nat, e = adE l v ch ∧ r = .p (.int .i64 (Int.ofNat e)) ∧
      ((e ≠ 0 ∧ own = [rpS f l n, rpA xs]) ∨ (e = 0 ∧ ∃ ws m, m = n + 1 ∧ ws = rlP (L ++ [(v, ones (atR L l) ch)]) ∧ own = [rpS f v m, rpA ws])) := by
  have hal := rall_spec ch (by omega) cs hcs
  have hxl : xs.length = n := by rw [hxs, rlP_length, hn0]
  have hyd : xs = (xs.drop 0).take n := by rw [List.drop_zero, ← hxl, List.take_length]
  have hat := rpAtO_spec L f l l xs hxs n hn0 (by omega)
  obtain ⟨W, hW⟩ : ∃ W, W = atR L l := ⟨_, rfl⟩
  rw [← hW] at hat hS hsz ⊢
  obtain ⟨E, hE⟩ : ∃ E, E = adE l v ch := ⟨_, rfl⟩
  rw [← hE]
  unfold adE at hE
  obtain ⟨C, hC⟩ : ∃ C, C = chks ch := ⟨_, rfl⟩
  rw [← hC] at hE hal
  obtain ⟨zs, hzs⟩ : ∃ zs, zs = prP W := ⟨_, rfl⟩
  rw [← hzs] at hat
  obtain ⟨N, hN⟩ : ∃ N, N = ch.length := ⟨_, rfl⟩
  have hcsl : cs.length = N := by rw [hcs, cP_length, hN]
  have hone := fun (i : Nat) (c : Chg) (h : ch[i]? = some c) (us : List PV) (hu : us = prP (ones W (ch.take i))) => rOne_spec (ones W (ch.take i)) (by have := ones_tlen hS ch i; omega) c (hcf c (List.mem_of_getElem? h)) us hu
  refine fn_of_vc eOk fOk fo24 Try.func24 rfl rfl rfl fun B hB => ?_
  intro add sub mul quo rem band bor bxor bclr shl shr ieq ilt ile seq slt beq bnot orb bcond iwrap iof ssz hA cat sq sl imin imax smin smax len slen u8 hL op hop call hcall code hcode ret hret
  cbv
  by_cases h0 : v ≤ l
  · rw [if_pos h0] at hE
    refine vcIf.yes (by first | (simp [hA.not, hA.eq, hA.lt, hA.le, hA.cond, hA.beq, hA.orb, hL.len, hL.slen, hL.sq, h0]; done) | (simp only [h0]; simp [hA.not, hA.eq, hA.lt, hA.le, hA.cond, hA.beq, hA.orb, hL.len, hL.slen, hL.sq, h0]; done) | (simp [hA.not, hA.eq, hA.lt, hA.le, hA.cond, hA.beq, hA.orb, hL.len, hL.slen, hL.sq, h0]; omega) | (simp only [h0]; simp [hA.not, hA.eq, hA.lt, hA.le, hA.cond, hA.beq, hA.orb, hL.len, hL.slen, hL.sq, h0]; omega)) ?_
    cbv
    exact hret _ (RetEv.ret eOk rfl ⟨E, rfl, by rw [hE]; rfl, .inl ⟨by rw [hE]; decide, rfl⟩⟩)
  rw [if_neg h0] at hE
  refine vcIf.no (by first | (simp [hA.not, hA.eq, hA.lt, hA.le, hA.cond, hA.beq, hA.orb, hL.len, hL.slen, hL.sq, h0]; done) | (simp only [h0]; simp [hA.not, hA.eq, hA.lt, hA.le, hA.cond, hA.beq, hA.orb, hL.len, hL.slen, hL.sq, h0]; done) | (simp [hA.not, hA.eq, hA.lt, hA.le, hA.cond, hA.beq, hA.orb, hL.len, hL.slen, hL.sq, h0]; omega) | (simp only [h0]; simp [hA.not, hA.eq, hA.lt, hA.le, hA.cond, hA.beq, hA.orb, hL.len, hL.slen, hL.sq, h0]; omega)) ?_
  cbv
  refine hcall _ _ _ _ _ (CallEv.pure hal (.cons (.p _) .nil) ?_)
  rintro _ _ ⟨e, he, rfl, rfl⟩
  cbv
  by_cases h1 : e = 0
  rotate_left
  · have h1' : ¬ (e : Int) = 0 := by omega
    refine vcIf.yes (by first | (simp [hA.not, hA.eq, hA.lt, hA.le, hA.cond, hA.beq, hA.orb, hL.len, hL.slen, hL.sq, h1, h1']; done) | (simp only [h1, h1']; simp [hA.not, hA.eq, hA.lt, hA.le, hA.cond, hA.beq, hA.orb, hL.len, hL.slen, hL.sq, h1, h1']; done) | (simp [hA.not, hA.eq, hA.lt, hA.le, hA.cond, hA.beq, hA.orb, hL.len, hL.slen, hL.sq, h1, h1']; omega) | (simp only [h1, h1']; simp [hA.not, hA.eq, hA.lt, hA.le, hA.cond, hA.beq, hA.orb, hL.len, hL.slen, hL.sq, h1, h1']; omega)) ?_
    cbv
    exact hret _ (RetEv.ret eOk rfl ⟨e, by rw [he, hE], rfl, .inl ⟨h1, rfl⟩⟩)
  subst h1
  have hE0 : 0 = E := by rw [hE]; exact he
  refine vcIf.no (by first | (simp [hA.not, hA.eq, hA.lt, hA.le, hA.cond, hA.beq, hA.orb, hL.len, hL.slen, hL.sq]; done) | (simp [hA.not, hA.eq, hA.lt, hA.le, hA.cond, hA.beq, hA.orb, hL.len, hL.slen, hL.sq]; omega)) ?_
  cbv
  refine hcall _ _ _ _ _ (CallEv.lend [0, 1] hat rfl (.cons (.own 0 0 0 rfl) (.cons (.p _) .nil)) (rpL rfl rfl rfl rfl) ?_)
  rintro _ _ ⟨rfl, rfl⟩
  cbv
  refine hcode _ _ _ (CodeEv.loop eOk fOk (ι := Nat × List PV) (fun s => [(0, .own 0 0), (1, .p (.int .i64 v)), (2, .p (.sl cs)), (8, .p (.sl s.2)), (9, .p (.int .i64 (Int.ofNat s.1)))]) (fun _ => [rpS f l n, rpA xs]) (fun s => s.1 ≤ N ∧ s.2 = prP (ones W (ch.take s.1))) (fun s => N - s.1) (0, zs) ?_ ?_)
  · exact ⟨(by repeat (first | exact trivial | refine And.intro rfl ?_)), rfl, Nat.zero_le _, hzs⟩
  rintro ⟨i, us⟩ ⟨hiN, hus⟩ rd hrd
  dsimp only at hiN hus
  by_cases hi : i < N
  · refine Exists.elim (get_of_lt (show i < ch.length by omega)) fun c hc => ?_
    have hzc : cs[i]? = some (.agg [.int .i64 c.kind, .str c.key, .str c.val]) := by rw [hcs]; exact cP_get hc
    have ho := hone i c hc us hus
    refine Exists.elim (show ∃ q, q = prP (one (ones W (ch.take i)) c) from ⟨_, rfl⟩) fun q hq => ?_
    rw [← hq] at ho
    have hnx : q = prP (ones W (ch.take (i + 1))) := by rw [hq, ones_nx W hc]
    have hmu : N - (i + 1) < N - i := by omega
    have hi1 : i + 1 ≤ N := by omega
    clear hone
    intro add1 sub1 mul1 quo1 rem1 band1 bor1 bxor1 bclr1 shl1 shr1 ieq1 ilt1 ile1 seq1 slt1 beq1 bnot1 orb1 bcond1 iwrap1 iof1 ssz1 hA1 cat1 sq1 sl1 imin1 imax1 smin1 smax1 len1 slen1 u81 hL1 op1 hop1 call1 hcall1 code1 hcode1
    have hinc : add1 .i64 (Int.ofNat i) 1 = Int.ofNat (i + 1) := by rw [hA1.add]; exact i64_nat (by simp) (by omega)
    cbv
    refine vcIf.yes (by first | (simp [hA1.not, hA1.eq, hA1.lt, hA1.le, hA1.cond, hA1.beq, hA1.orb, hL1.len, hL1.slen, hL1.sq, hcsl, hi]; done) | (simp only [hcsl, hi]; simp [hA1.not, hA1.eq, hA1.lt, hA1.le, hA1.cond, hA1.beq, hA1.orb, hL1.len, hL1.slen, hL1.sq, hcsl, hi]; done) | (simp [hA1.not, hA1.eq, hA1.lt, hA1.le, hA1.cond, hA1.beq, hA1.orb, hL1.len, hL1.slen, hL1.sq, hcsl, hi]; omega) | (simp only [hcsl, hi]; simp [hA1.not, hA1.eq, hA1.lt, hA1.le, hA1.cond, hA1.beq, hA1.orb, hL1.len, hL1.slen, hL1.sq, hcsl, hi]; omega)) ?_
    cbv
    refine ⟨i, _, rfl, hzc, rfl, ?_⟩
    cbv
    refine hcall1 _ _ _ _ _ (CallEv.same ho rfl ?_)
    rintro _ _ ⟨rfl, rfl⟩
    cbv
    refine hrd _ ⟨(i + 1, q), _, hmu, ⟨hi1, hnx⟩, rfl, ⟨rfl, rfl, rfl, rfl, ?_, trivial⟩, rfl, rfl, rfl, by rw [hB]; exact Nat.le_refl 2⟩
    show some (Go.Lx.V.p (.int .i64 _)) = _
    rw [hinc]
  · obtain rfl : i = N := by omega
    rw [hN, List.take_length] at hus
    intro add1 sub1 mul1 quo1 rem1 band1 bor1 bxor1 bclr1 shl1 shr1 ieq1 ilt1 ile1 seq1 slt1 beq1 bnot1 orb1 bcond1 iwrap1 iof1 ssz1 hA1 cat1 sq1 sl1 imin1 imax1 smin1 smax1 len1 slen1 u81 hL1 op1 hop1 call1 hcall1 code1 hcode1
    cbv
    refine vcIf.no (by first | (simp [hA1.not, hA1.eq, hA1.lt, hA1.le, hA1.cond, hA1.beq, hA1.orb, hL1.len, hL1.slen, hL1.sq, hcsl]; done) | (simp only [hcsl]; simp [hA1.not, hA1.eq, hA1.lt, hA1.le, hA1.cond, hA1.beq, hA1.orb, hL1.len, hL1.slen, hL1.sq, hcsl]; done) | (simp [hA1.not, hA1.eq, hA1.lt, hA1.le, hA1.cond, hA1.beq, hA1.orb, hL1.len, hL1.slen, hL1.sq, hcsl]; omega) | (simp only [hcsl]; simp [hA1.not, hA1.eq, hA1.lt, hA1.le, hA1.cond, hA1.beq, hA1.orb, hL1.len, hL1.slen, hL1.sq, hcsl]; omega)) ?_
    cbv
    refine ⟨false, ?_⟩
    cbv
    refine .inl ⟨(), rfl, hxl.symm, ?_, ?_, ?_, fun ws m hws hm => ?_⟩
    · intro y hy
      simp [Sq.get] at hy
      rw [hy]; exact ⟨rfl, fun u hu => by simp [PV.cells] at hu; rcases hu with rfl | rfl <;> rfl⟩
    · show n + 1 ≤ maxLen
      unfold maxLen; omega
    · show (n + 1) * 32 ≤ _
      exact hn
    replace hws : ws = xs ++ [.agg [.int .i64 v, .sl us]] := hws
    replace hm : m = n + 1 := hm
    cbv
    exact hret _ (RetEv.ret eOk rfl ⟨0, hE0, rfl, .inr ⟨rfl, ws, m, hm, by rw [hws, hxs, rlP_append, hus]; rfl, rfl⟩⟩)
end
section
open Go Go.Lx
open Go.Sx (vcIf)

theorem filt_next {fl : RLay → Bool} {ps : List RLay} {k : Nat} {p : RLay} (h : ps[k]? = some p) : (ps.take (k + 1)).filter fl = (ps.take k).filter fl ++ (if fl p = true then [p] else []) := by
  rw [List.take_add_one, h, List.filter_append]
  by_cases hp : fl p = true
  · simp [hp]
  · simp [hp]
def atMost (v : Int) (x : RLay) : Bool := decide (x.1 ≤ v)
theorem rpBack_spec (L : List RLay) (f l v : Int) (xs : List PV) (hxs : xs = rlP L) (n : Nat) (hn0 : n = L.length) (hn : (n + 1) * 32 ≤ 140737488355328) :
    FnL Try.prog 28 [.own 0 0, .p (.int .i64 v)] [rpS f l n, rpA xs] fun r own => ∃ e : Nat, e = knw f l v ∧ r = .p (.int .i64 (Int.ofNat e)) ∧
      ((e ≠ 0 ∧ own = [rpS f l n, rpA xs]) ∨ (e = 0 ∧ ∃ ws m, m = ws.length ∧ ws = rlP (L.filter (atMost v)) ∧ own = [rpS f v m, rpA ws])) := by
  have hxl : xs.length = n := by rw [hxs, rlP_length, hn0]
  have hyd : xs = (xs.drop 0).take n := by rw [List.drop_zero, ← hxl, List.take_length]
  have hkn := rpKnown_spec f l v xs
  obtain ⟨E, hE⟩ : ∃ E, E = knw f l v := ⟨_, rfl⟩
  rw [← hE] at hkn ⊢
  refine fn_of_vc eOk fOk fo28 Try.func28 rfl rfl rfl fun B hB => ?_
  intro add sub mul quo rem band bor bxor bclr shl shr ieq ilt ile seq slt beq bnot orb bcond iwrap iof ssz hA cat sq sl imin imax smin smax len slen u8 hL op hop call hcall code hcode ret hret
  cbv
  refine hcall _ _ _ _ _ (CallEv.shown [] [0, 1] hkn rfl (.cons (rpT (by decide) (by decide) rfl rfl xs hyd) (.cons (.p _) .nil)) trivial ?_)
  rintro _ _ ⟨e, he, rfl, rfl⟩
  refine ⟨.p _ (.int _ _), (by intro r hr; cases hr), ?_⟩
  by_cases h0 : e = 0
  rotate_left
  · have h0' : ¬ (e : Int) = 0 := by omega
    cbv
    refine vcIf.yes (by first | (simp [hA.not, hA.eq, hA.lt, hA.le, hA.cond, hA.beq, hA.orb, hL.len, hL.slen, hL.sq, h0, h0']; done) | (simp only [h0, h0']; simp [hA.not, hA.eq, hA.lt, hA.le, hA.cond, hA.beq, hA.orb, hL.len, hL.slen, hL.sq, h0, h0']; done) | (simp [hA.not, hA.eq, hA.lt, hA.le, hA.cond, hA.beq, hA.orb, hL.len, hL.slen, hL.sq, h0, h0']; omega) | (simp only [h0, h0']; simp [hA.not, hA.eq, hA.lt, hA.le, hA.cond, hA.beq, hA.orb, hL.len, hL.slen, hL.sq, h0, h0']; omega)) ?_
    cbv
    exact hret _ (RetEv.ret eOk rfl ⟨e, he, rfl, .inl ⟨h0, rfl⟩⟩)
  subst h0
  cbv
  refine vcIf.no (by first | (simp [hA.not, hA.eq, hA.lt, hA.le, hA.cond, hA.beq, hA.orb, hL.len, hL.slen, hL.sq]; done) | (simp [hA.not, hA.eq, hA.lt, hA.le, hA.cond, hA.beq, hA.orb, hL.len, hL.slen, hL.sq]; omega)) ?_
  cbv
  refine ⟨true, ?_⟩
  cbv
  refine hcode _ _ _ (CodeEv.loop eOk fOk (ι := Nat × List PV × Nat) (fun s => [(0, .own 0 0), (1, .p (.int .i64 v)), (6, .vw 2 2 0 s.2.2 none), (7, .p (.int .i64 (Int.ofNat s.1)))]) (fun s => [rpS f l n, rpA xs, rpA s.2.1]) (fun s => s.1 ≤ n ∧ s.2.1 = rlP ((L.take s.1).filter (atMost v)) ∧ s.2.2 = s.2.1.length ∧ s.2.2 ≤ s.1) (fun s => n - s.1) (0, [], 0) ?_ ?_)
  · exact ⟨(by repeat (first | exact trivial | refine And.intro rfl ?_)), rfl, Nat.zero_le _, rfl, rfl, Nat.zero_le _⟩
  rintro ⟨i, us, m⟩ ⟨hiN, hus, hm, hmi⟩ rd hrd
  dsimp only at hiN hus hm hmi
  have hpB : B.own0.length ≤ 3 := by rw [hB]; exact (show 2 ≤ 3 by decide)
  by_cases hi : i < n
  · refine Exists.elim (get_of_lt (show i < L.length by omega)) fun b hb => ?_
    refine Exists.elim (show ∃ q, q = prP b.2 from ⟨_, rfl⟩) fun q hq => ?_
    have hzb : xs[i]? = some (.agg [.int .i64 b.1, .sl q]) := by rw [hxs, hq]; exact rlP_get hb
    have hnx := filt_next (fl := atMost v) hb
    have hmu : n - (i + 1) < n - i := by omega
    have hi1 : i + 1 ≤ n := by omega
    by_cases hv : b.1 ≤ v
    · rw [if_pos (show atMost v b = true from decide_eq_true hv)] at hnx
      intro add1 sub1 mul1 quo1 rem1 band1 bor1 bxor1 bclr1 shl1 shr1 ieq1 ilt1 ile1 seq1 slt1 beq1 bnot1 orb1 bcond1 iwrap1 iof1 ssz1 hA1 cat1 sq1 sl1 imin1 imax1 smin1 smax1 len1 slen1 u81 hL1 op1 hop1 call1 hcall1 code1 hcode1
      have hinc : add1 .i64 (Int.ofNat i) 1 = Int.ofNat (i + 1) := by rw [hA1.add]; exact i64_nat (by simp) (by omega)
      cbv
      refine vcIf.yes (by first | (simp [hA1.not, hA1.eq, hA1.lt, hA1.le, hA1.cond, hA1.beq, hA1.orb, hL1.len, hL1.slen, hL1.sq, hA1.ofNat, hi]; done) | (simp only [hA1.ofNat, hi]; simp [hA1.not, hA1.eq, hA1.lt, hA1.le, hA1.cond, hA1.beq, hA1.orb, hL1.len, hL1.slen, hL1.sq, hA1.ofNat, hi]; done) | (simp [hA1.not, hA1.eq, hA1.lt, hA1.le, hA1.cond, hA1.beq, hA1.orb, hL1.len, hL1.slen, hL1.sq, hA1.ofNat, hi]; omega) | (simp only [hA1.ofNat, hi]; simp [hA1.not, hA1.eq, hA1.lt, hA1.le, hA1.cond, hA1.beq, hA1.orb, hL1.len, hL1.slen, hL1.sq, hA1.ofNat, hi]; omega)) ?_
      cbv
      refine ⟨i, rfl, hi, fun q0 hq0 => ?_⟩
      obtain rfl : i = q0 := by omega
      cbv
      refine ⟨_, hzb, ?_⟩
      cbv
      refine vcIf.yes (by first | (simp [hA1.not, hA1.eq, hA1.lt, hA1.le, hA1.cond, hA1.beq, hA1.orb, hL1.len, hL1.slen, hL1.sq, hv]; done) | (simp only [hv]; simp [hA1.not, hA1.eq, hA1.lt, hA1.le, hA1.cond, hA1.beq, hA1.orb, hL1.len, hL1.slen, hL1.sq, hv]; done) | (simp [hA1.not, hA1.eq, hA1.lt, hA1.le, hA1.cond, hA1.beq, hA1.orb, hL1.len, hL1.slen, hL1.sq, hv]; omega) | (simp only [hv]; simp [hA1.not, hA1.eq, hA1.lt, hA1.le, hA1.cond, hA1.beq, hA1.orb, hL1.len, hL1.slen, hL1.sq, hv]; omega)) ?_
      cbv
      refine ⟨i, rfl, hi, fun q0 hq0 => ?_⟩
      obtain rfl : i = q0 := by omega
      cbv
      refine ⟨_, hzb, ?_⟩
      cbv
      refine ⟨false, ?_⟩
      cbv
      refine .inl ⟨(), rfl, hm, ?_, ?_, ?_, fun ws m' hws hm' => ?_⟩
      · intro y hy
        simp [Sq.get] at hy
        rw [hy]; exact ⟨rfl, fun u hu => by simp [PV.cells] at hu; rcases hu with rfl | rfl <;> rfl⟩
      · show m + 1 ≤ maxLen
        unfold maxLen; omega
      · show (m + 1) * 32 ≤ _
        omega
      replace hws : ws = us ++ [.agg [.int .i64 b.1, .sl q]] := hws
      replace hm' : m' = m + 1 := hm'
      cbv
      refine hrd _ ⟨(i + 1, ws, m'), _, hmu, ⟨hi1, by show ws = rlP _; rw [hnx, hws, hus, rlP_append, hq]; rfl, by show m' = ws.length; rw [hm', hws, List.length_append, ← hm]; rfl, by show m' ≤ i + 1; omega⟩, rfl, ⟨rfl, rfl, rfl, ?_, trivial⟩, rfl, rfl, rfl, hpB⟩
      show some (Go.Lx.V.p (.int .i64 _)) = _
      rw [hinc]
    · rw [if_neg (show ¬ atMost v b = true by unfold atMost; simp [hv]), List.append_nil] at hnx
      intro add1 sub1 mul1 quo1 rem1 band1 bor1 bxor1 bclr1 shl1 shr1 ieq1 ilt1 ile1 seq1 slt1 beq1 bnot1 orb1 bcond1 iwrap1 iof1 ssz1 hA1 cat1 sq1 sl1 imin1 imax1 smin1 smax1 len1 slen1 u81 hL1 op1 hop1 call1 hcall1 code1 hcode1
      have hinc : add1 .i64 (Int.ofNat i) 1 = Int.ofNat (i + 1) := by rw [hA1.add]; exact i64_nat (by simp) (by omega)
      cbv
      refine vcIf.yes (by first | (simp [hA1.not, hA1.eq, hA1.lt, hA1.le, hA1.cond, hA1.beq, hA1.orb, hL1.len, hL1.slen, hL1.sq, hA1.ofNat, hi]; done) | (simp only [hA1.ofNat, hi]; simp [hA1.not, hA1.eq, hA1.lt, hA1.le, hA1.cond, hA1.beq, hA1.orb, hL1.len, hL1.slen, hL1.sq, hA1.ofNat, hi]; done) | (simp [hA1.not, hA1.eq, hA1.lt, hA1.le, hA1.cond, hA1.beq, hA1.orb, hL1.len, hL1.slen, hL1.sq, hA1.ofNat, hi]; omega) | (simp only [hA1.ofNat, hi]; simp [hA1.not, hA1.eq, hA1.lt, hA1.le, hA1.cond, hA1.beq, hA1.orb, hL1.len, hL1.slen, hL1.sq, hA1.ofNat, hi]; omega)) ?_
      cbv
      refine ⟨i, rfl, hi, fun q0 hq0 => ?_⟩
      obtain rfl : i = q0 := by omega
      cbv
      refine ⟨_, hzb, ?_⟩
      cbv
      refine vcIf.no (by first | (simp [hA1.not, hA1.eq, hA1.lt, hA1.le, hA1.cond, hA1.beq, hA1.orb, hL1.len, hL1.slen, hL1.sq, hv]; done) | (simp only [hv]; simp [hA1.not, hA1.eq, hA1.lt, hA1.le, hA1.cond, hA1.beq, hA1.orb, hL1.len, hL1.slen, hL1.sq, hv]; done) | (simp [hA1.not, hA1.eq, hA1.lt, hA1.le, hA1.cond, hA1.beq, hA1.orb, hL1.len, hL1.slen, hL1.sq, hv]; omega) | (simp only [hv]; simp [hA1.not, hA1.eq, hA1.lt, hA1.le, hA1.cond, hA1.beq, hA1.orb, hL1.len, hL1.slen, hL1.sq, hv]; omega)) ?_
      cbv
      refine hrd _ ⟨(i + 1, us, m), _, hmu, ⟨hi1, by show us = rlP _; rw [hnx]; exact hus, hm, by show m ≤ i + 1; omega⟩, rfl, ⟨rfl, rfl, rfl, ?_, trivial⟩, rfl, rfl, rfl, hpB⟩
      show some (Go.Lx.V.p (.int .i64 _)) = _
      rw [hinc]
  · obtain rfl : i = n := by omega
    rw [hn0, List.take_length] at hus
    intro add1 sub1 mul1 quo1 rem1 band1 bor1 bxor1 bclr1 shl1 shr1 ieq1 ilt1 ile1 seq1 slt1 beq1 bnot1 orb1 bcond1 iwrap1 iof1 ssz1 hA1 cat1 sq1 sl1 imin1 imax1 smin1 smax1 len1 slen1 u81 hL1 op1 hop1 call1 hcall1 code1 hcode1
    cbv
    refine vcIf.no (by first | (simp [hA1.not, hA1.eq, hA1.lt, hA1.le, hA1.cond, hA1.beq, hA1.orb, hL1.len, hL1.slen, hL1.sq, hA1.ofNat]; done) | (simp only [hA1.ofNat]; simp [hA1.not, hA1.eq, hA1.lt, hA1.le, hA1.cond, hA1.beq, hA1.orb, hL1.len, hL1.slen, hL1.sq, hA1.ofNat]; done) | (simp [hA1.not, hA1.eq, hA1.lt, hA1.le, hA1.cond, hA1.beq, hA1.orb, hL1.len, hL1.slen, hL1.sq, hA1.ofNat]; omega) | (simp only [hA1.ofNat]; simp [hA1.not, hA1.eq, hA1.lt, hA1.le, hA1.cond, hA1.beq, hA1.orb, hL1.len, hL1.slen, hL1.sq, hA1.ofNat]; omega)) ?_
    cbv
    exact hret _ (RetEv.convW (ConvW.pack [0, 2] hB rfl) (RetEv.ret eOk rfl ⟨0, he, rfl, .inr ⟨rfl, us, m, hm, hus, rfl⟩⟩))
end
section
open Go Go.Lx
open Go.Sx (vcIf)

theorem forgetB_spec (a f l v : Int) (ps : List Pr) (hps : Srt ps) (ls : List Lay) (M : Nat) (hM : ∀ l ∈ ls, l.ch.length ≤ M) (hck : ∀ l ∈ ls, chks l.ch = 0) (hsz : (ps.length + ls.length * M + 1) * 32 ≤ 140737488355328) (hn : ls.length * 32 ≤ 140737488355328)
    (zs : List PV) (hzs : zs = prP ps) (xs : List PV) (hxs : xs = layP ls) (n : Nat) (hn0 : n = ls.length) :
    FnL Try.prog 18 [.own 0 0, .p (.int .i64 v)] [psS a f l zs n, psA xs] fun r own => ∃ e : Nat, e = fgE l v ∧ r = .p (.int .i64 (Int.ofNat e)) ∧
      (((e ≠ 0 ∨ v ≤ f) ∧ own = [psS a f l zs n, psA xs]) ∨ (e = 0 ∧ ¬ v ≤ f ∧ ∃ us ws m, us = prP (whole ps ls v) ∧ m = ls.length - upto ls v ∧ ws = layP (ls.drop (upto ls v)) ∧ own = [psS v v l us m, psA ws])) := by
  have hxl : xs.length = n := by rw [hxs, layP_length, hn0]
  obtain ⟨ys, hys⟩ : ∃ ys, ys = xs := ⟨_, rfl⟩
  have hy : ys = (xs.drop 0).take n := by rw [hys, List.drop_zero, ← hxl, List.take_length]
  have hwo := wholeO_spec a f l v ps hps ls M hM hck hsz (by omega) zs hzs xs hxs n hn0
  have hup := upto_spec a f l v zs ls (by omega) ys (by rw [hys, hxs])
  obtain ⟨N, hN⟩ : ∃ N, N = upto ls v := ⟨_, rfl⟩
  have hNl : N ≤ n := by rw [hN, hn0]; exact upto_le v ls
  rw [← hN] at hup ⊢
  obtain ⟨W, hW⟩ : ∃ W, W = whole ps ls v := ⟨_, rfl⟩
  rw [← hW] at hwo ⊢
  obtain ⟨us, hus⟩ : ∃ us, us = xs.drop N := ⟨_, rfl⟩
  have hul : us.length = n - N := by rw [hus, List.length_drop, hxl]
  obtain ⟨q, hq⟩ : ∃ q, q = n - N := ⟨_, rfl⟩
  rw [← hq] at hul
  have hus2 : us = (xs.drop N).take q := by rw [← hus, ← hul, List.take_length]
  have husw : us = layP (ls.drop N) := by rw [hus, hxs, layP_drop]
  have hcl := cloneL_spec xs N q us hus2 hul (by rw [husw]; exact layP_wf _) (by omega)
  rw [← hn0]
  refine fn_of_vc eOk fOk fo18 Try.func18 rfl rfl rfl fun B hB => ?_
  intro add sub mul quo rem band bor bxor bclr shl shr ieq ilt ile seq slt beq bnot orb bcond iwrap iof ssz hA cat sq sl imin imax smin smax len slen u8 hL op hop call hcall code hcode ret hret
  cbv
  by_cases h0 : l < v
  · refine vcIf.yes (by first | (simp [hA.not, hA.eq, hA.lt, hA.le, hA.cond, hA.beq, hA.orb, hL.len, hL.slen, hL.sq, h0]; done) | (simp only [h0]; simp [hA.not, hA.eq, hA.lt, hA.le, hA.cond, hA.beq, hA.orb, hL.len, hL.slen, hL.sq, h0]; done) | (simp [hA.not, hA.eq, hA.lt, hA.le, hA.cond, hA.beq, hA.orb, hL.len, hL.slen, hL.sq, h0]; omega) | (simp only [h0]; simp [hA.not, hA.eq, hA.lt, hA.le, hA.cond, hA.beq, hA.orb, hL.len, hL.slen, hL.sq, h0]; omega)) ?_
    cbv
    exact hret _ (RetEv.ret eOk rfl ⟨8, by unfold fgE; rw [if_pos h0], rfl, .inl ⟨.inl (by decide), rfl⟩⟩)
  have hfg : fgE l v = 0 := by unfold fgE; rw [if_neg h0]
  refine vcIf.no (by first | (simp [hA.not, hA.eq, hA.lt, hA.le, hA.cond, hA.beq, hA.orb, hL.len, hL.slen, hL.sq, h0]; done) | (simp only [h0]; simp [hA.not, hA.eq, hA.lt, hA.le, hA.cond, hA.beq, hA.orb, hL.len, hL.slen, hL.sq, h0]; done) | (simp [hA.not, hA.eq, hA.lt, hA.le, hA.cond, hA.beq, hA.orb, hL.len, hL.slen, hL.sq, h0]; omega) | (simp only [h0]; simp [hA.not, hA.eq, hA.lt, hA.le, hA.cond, hA.beq, hA.orb, hL.len, hL.slen, hL.sq, h0]; omega)) ?_
  cbv
  by_cases h1 : v ≤ f
  · refine vcIf.yes (by first | (simp [hA.not, hA.eq, hA.lt, hA.le, hA.cond, hA.beq, hA.orb, hL.len, hL.slen, hL.sq, h1]; done) | (simp only [h1]; simp [hA.not, hA.eq, hA.lt, hA.le, hA.cond, hA.beq, hA.orb, hL.len, hL.slen, hL.sq, h1]; done) | (simp [hA.not, hA.eq, hA.lt, hA.le, hA.cond, hA.beq, hA.orb, hL.len, hL.slen, hL.sq, h1]; omega) | (simp only [h1]; simp [hA.not, hA.eq, hA.lt, hA.le, hA.cond, hA.beq, hA.orb, hL.len, hL.slen, hL.sq, h1]; omega)) ?_
    cbv
    exact hret _ (RetEv.ret eOk rfl ⟨0, hfg.symm, rfl, .inl ⟨.inr h1, rfl⟩⟩)
  refine vcIf.no (by first | (simp [hA.not, hA.eq, hA.lt, hA.le, hA.cond, hA.beq, hA.orb, hL.len, hL.slen, hL.sq, h1]; done) | (simp only [h1]; simp [hA.not, hA.eq, hA.lt, hA.le, hA.cond, hA.beq, hA.orb, hL.len, hL.slen, hL.sq, h1]; done) | (simp [hA.not, hA.eq, hA.lt, hA.le, hA.cond, hA.beq, hA.orb, hL.len, hL.slen, hL.sq, h1]; omega) | (simp only [h1]; simp [hA.not, hA.eq, hA.lt, hA.le, hA.cond, hA.beq, hA.orb, hL.len, hL.slen, hL.sq, h1]; omega)) ?_
  cbv
  refine hcall _ _ _ _ _ (CallEv.lend [0, 1] hwo rfl (.cons (.own 0 0 0 rfl) (.cons (.p _) .nil)) (psL rfl rfl rfl rfl) ?_)
  rintro _ _ ⟨K, m0, ws, rfl, rfl, hw⟩
  have hwg : (ws.drop 0).take m0 = prP W := by rw [List.drop_zero, hw.2.2.2.2]
  cbv
  refine hcall _ _ _ _ _ (CallEv.shown [] [0, 1] hup rfl (.cons (psT (by decide) (by decide) rfl rfl ys hy) (.cons (.p _) .nil)) trivial ?_)
  rintro _ _ ⟨e, he, rfl, rfl⟩
  refine ⟨.p _ (.int _ _), (by intro r hr; cases hr), ?_⟩
  replace he := he.symm
  subst he
  cbv
  refine ⟨N, n, rfl, rfl, hNl, by omega, (fun c h => by cases h), fun o1 m1 ho hm => ?_⟩
  obtain rfl : N = o1 := by omega
  obtain rfl : q = m1 := by omega
  cbv
  refine hcall _ _ _ _ _ (CallEv.lend [1] hcl rfl (.cons (.vw 0 1 2 N q none rfl) .nil) ⟨⟨_, rfl, .arr _ _ _⟩, trivial⟩ ?_)
  rintro _ _ ⟨rfl, rfl⟩
  cbv
  exact hret _ (RetEv.convW ((Conv.freeze 2 rfl (by rw [hB]; exact (show 2 ≤ 2 by decide))).weak.trans (ConvW.pack [0, 3] hB rfl)) (RetEv.ret eOk rfl ⟨0, hfg.symm, rfl, .inr ⟨rfl, h1, (ws.drop 0).take m0, us, q, hwg, hq, husw, rfl⟩⟩))

/-- A Past and the document's hold the same. -/
def SameP (f l : Int) (ps : List Pr) (ls : List Lay) (R : List RLay) : Prop := f ≤ l ∧ Srt ps ∧ (∀ x ∈ ls, x.ver ≤ l) ∧ ∀ w, f ≤ w → atR R w = whole ps ls w
theorem SameP.from' (v : Int) {ps : List Pr} (h : Srt ps) : SameP v v ps [] [(v, ps)] := by
  refine ⟨Int.le_refl _, h, fun x hx => by simp at hx, fun w hw => ?_⟩
  show (if v ≤ w then ps else []) = ps
  rw [if_pos hw]
theorem upto_all {w : Int} : ∀ {ls : List Lay}, (∀ x ∈ ls, x.ver ≤ w) → upto ls w = ls.length
  | [], _ => rfl
  | l :: r, h => by
    show (if w < l.ver then 0 else upto r w + 1) = r.length + 1
    rw [if_neg (by have := h l (by simp); omega), upto_all fun x hx => h x (by simp [hx])]
theorem whole_all {w : Int} (ps : List Pr) {ls : List Lay} (h : ∀ x ∈ ls, x.ver ≤ w) : whole ps ls w = lays ps ls := by
  unfold whole; rw [upto_all h, List.take_length]
theorem upto_snoc {w : Int} {x : Lay} (h : w < x.ver) : ∀ ls : List Lay, upto (ls ++ [x]) w = upto ls w
  | [] => by show (if w < x.ver then 0 else _) = 0; rw [if_pos h]
  | l :: r => by
    show (if w < l.ver then 0 else upto (r ++ [x]) w + 1) = (if w < l.ver then 0 else upto r w + 1)
    rw [upto_snoc h r]
theorem upto_mono {v w : Int} (h : w ≤ v) : ∀ ls : List Lay, upto ls w ≤ upto ls v
  | [] => Nat.le_refl _
  | l :: r => by
    show (if w < l.ver then 0 else upto r w + 1) ≤ (if v < l.ver then 0 else upto r v + 1)
    by_cases h1 : w < l.ver
    · rw [if_pos h1]; exact Nat.zero_le _
    · rw [if_neg h1, if_neg (by omega)]; exact Nat.succ_le_succ (upto_mono h r)
theorem upto_take {v w : Int} (h : w ≤ v) : ∀ ls : List Lay, upto (ls.take (upto ls v)) w = upto ls w
  | [] => rfl
  | l :: r => by
    by_cases h1 : v < l.ver
    · rw [show upto (l :: r) v = 0 from if_pos h1, show upto (l :: r) w = 0 from if_pos (by omega)]; rfl
    · rw [show upto (l :: r) v = upto r v + 1 from if_neg h1, List.take_succ_cons]
      show (if w < l.ver then 0 else upto (r.take (upto r v)) w + 1) = (if w < l.ver then 0 else upto r w + 1)
      rw [upto_take h r]
theorem whole_take {v w : Int} (h : w ≤ v) (ps : List Pr) (ls : List Lay) : whole ps (ls.take (upto ls v)) w = whole ps ls w := by
  unfold whole; rw [upto_take h, List.take_take, Nat.min_eq_left (upto_mono h ls)]
theorem take_below {v : Int} (ls : List Lay) : ∀ x ∈ ls.take (upto ls v), x.ver ≤ v := fun x hx => by
  obtain ⟨i, hi⟩ := List.mem_iff_getElem?.1 hx
  have hlt : i < upto ls v := by have := (List.getElem?_eq_some_iff.1 hi).1; rw [List.length_take] at this; omega
  rw [List.getElem?_take_of_lt hlt] at hi
  exact upto_below v ls i x hlt hi
theorem atR_filter {v w : Int} (h : w ≤ v) : ∀ (R : List RLay) (acc : List Pr), (R.filter (atMost v)).foldl (fun acc x => if x.1 ≤ w then x.2 else acc) acc = R.foldl (fun acc x => if x.1 ≤ w then x.2 else acc) acc
  | [], _ => rfl
  | x :: r, acc => by
    by_cases h1 : x.1 ≤ v
    · rw [List.filter_cons_of_pos (show atMost v x = true from decide_eq_true h1), List.foldl_cons, List.foldl_cons, atR_filter h r]
    · rw [List.filter_cons_of_neg (show ¬ atMost v x = true by unfold atMost; simp [h1]), List.foldl_cons, if_neg (by omega), atR_filter h r]
theorem atR_filter2 {v w : Int} (h : v ≤ w) : ∀ (R : List RLay) (acc : List Pr), (R.filter (atMost v)).foldl (fun acc x => if x.1 ≤ w then x.2 else acc) acc = R.foldl (fun acc x => if x.1 ≤ v then x.2 else acc) acc
  | [], _ => rfl
  | x :: r, acc => by
    by_cases h1 : x.1 ≤ v
    · rw [List.filter_cons_of_pos (show atMost v x = true from decide_eq_true h1), List.foldl_cons, List.foldl_cons, if_pos (by omega), if_pos h1, atR_filter2 h r]
    · rw [List.filter_cons_of_neg (show ¬ atMost v x = true by unfold atMost; simp [h1]), List.foldl_cons, if_neg h1, atR_filter2 h r]
theorem SameP.add {f l v : Int} {ps : List Pr} {ls : List Lay} {R : List RLay} (h : SameP f l ps ls R) (hv : l < v) (ch : List Chg) : SameP f v ps (ls ++ [⟨v, ch⟩]) (R ++ [(v, ones (atR R l) ch)]) := by
  obtain ⟨h1, h2, h3, h4⟩ := h
  refine ⟨by omega, h2, fun x hx => ?_, fun w hw => ?_⟩
  · rcases List.mem_append.1 hx with hx | hx
    · have := h3 x hx; omega
    · simp at hx; subst hx; exact Int.le_refl _
  · rw [atR_snoc]
    by_cases hvw : v ≤ w
    · rw [if_pos (show v ≤ w from hvw), whole_all (w := w) ps (fun x hx => by
        rcases List.mem_append.1 hx with hx | hx
        · have := h3 x hx; omega
        · simp at hx; subst hx; exact hvw), h4 l h1, whole_all ps h3]
      unfold lays; rw [List.foldl_append]; rfl
    · rw [if_neg (show ¬ v ≤ w from hvw), h4 w hw]
      unfold whole
      rw [upto_snoc (by show w < v; omega), List.take_append_of_le_length (upto_le w ls)]
theorem SameP.back {f l v : Int} {ps : List Pr} {ls : List Lay} {R : List RLay} (h : SameP f l ps ls R) (hf : f ≤ v) (hl : v ≤ l) : SameP f v ps (ls.take (upto ls v)) (R.filter (atMost v)) := by
  obtain ⟨h1, h2, h3, h4⟩ := h
  refine ⟨hf, h2, take_below ls, fun w hw => ?_⟩
  by_cases hvw : w ≤ v
  · rw [whole_take hvw, ← h4 w hw]; exact atR_filter hvw R []
  · rw [whole_all (w := w) ps (fun x hx => by have := take_below ls x hx; omega)]
    show _ = whole ps ls v
    rw [← h4 v hf]; exact atR_filter2 (by omega) R []
theorem SameP.forget {f l v : Int} {ps : List Pr} {ls : List Lay} {R : List RLay} (h : SameP f l ps ls R) (hf : f ≤ v) (hl : v ≤ l) : SameP v l (whole ps ls v) (ls.drop (upto ls v)) R := by
  obtain ⟨h1, h2, h3, h4⟩ := h
  refine ⟨hl, lays_srt _ h2, fun x hx => h3 x (List.mem_of_mem_drop hx), fun w hw => ?_⟩
  rw [whole_more hw, h4 w (by omega)]
end
section
open Go Go.Lx

/-- One call. -/
structure Ac where
  what : Int
  ver : Int
  most : Int
  key : List UInt8
  lo : List UInt8
  hi : List UInt8
  ch : List Chg
def Ac.v (x : Ac) : PV := .agg [.int .i64 x.what, .int .i64 x.ver, .int .i64 x.most, .str x.key, .str x.lo, .str x.hi, .sl (cP x.ch)]
def Ac.fit (x : Ac) : Prop := x.most ≤ 9223372036854775807 ∧ ∀ c ∈ x.ch, c.fit
def acP (l : List Ac) : List PV := l.map Ac.v
theorem acP_length (l : List Ac) : (acP l).length = l.length := List.length_map _
theorem acP_get {l : List Ac} {i : Nat} {x : Ac} (h : l[i]? = some x) : (acP l)[i]? = some (.agg [.int .i64 x.what, .int .i64 x.ver, .int .i64 x.most, .str x.key, .str x.lo, .str x.hi, .sl (cP x.ch)]) := by unfold acP; rw [List.getElem?_map, h]; rfl
/-- Where the plays stand. -/
structure Py where
  i : Nat
  n : Nat
  m : Nat
  a : Int
  f : Int
  l : Int
  us : List PV
  ws : List PV
  rs : List PV
  ps : List Pr
  ls : List Lay
  R : List RLay
structure Py.Ok (s : Py) (P M : Nat) : Prop where
  i60 : s.i ≤ 60
  us : s.us = prP s.ps
  ws : s.ws = layP s.ls
  rs : s.rs = rlP s.R
  n : s.n = s.ls.length
  m : s.m = s.R.length
  same : SameP s.f s.l s.ps s.ls s.R
  sz : s.ps.length + s.ls.length * M ≤ P + s.i * M
  ni : s.n ≤ s.i
  mi : s.m ≤ s.i + 1
  lay : ∀ x ∈ s.ls, x.ch.length ≤ M ∧ chks x.ch = 0 ∧ ∀ c ∈ x.ch, c.fit

theorem adE_ord {l v : Int} {ch : List Chg} (h : 0 = adE l v ch) : l < v ∧ chks ch = 0 := by
  unfold adE at h
  by_cases hv : v ≤ l
  · rw [if_pos hv] at h; cases h
  · rw [if_neg hv] at h; exact ⟨by omega, h.symm⟩
theorem knw_0 {f l v : Int} (h : knw f l v = 0) : f ≤ v ∧ v ≤ l := by
  unfold knw at h
  by_cases h1 : v < f
  · rw [if_pos h1] at h; cases h
  · rw [if_neg h1] at h
    by_cases h2 : l < v
    · rw [if_pos h2] at h; cases h
    · omega
theorem Py.Ok.stay {P M i n m : Nat} {a f l : Int} {us ws rs : List PV} {ps : List Pr} {ls : List Lay} {R : List RLay} (h : (Py.mk i n m a f l us ws rs ps ls R).Ok P M) (hi : i < 60) : (Py.mk (i + 1) n m a f l us ws rs ps ls R).Ok P M := by
  obtain ⟨h1, h2, h3, h4, h5, h6, h7, h8, h9, h10, h11⟩ := h
  dsimp only at *
  exact ⟨by dsimp only; omega, h2, h3, h4, h5, h6, h7, by dsimp only; rw [Nat.succ_mul]; omega, by dsimp only; omega, by dsimp only; omega, h11⟩
theorem Py.Ok.add {P M i n m : Nat} {a f l : Int} {us ws rs : List PV} {ps : List Pr} {ls : List Lay} {R : List RLay} (h : (Py.mk i n m a f l us ws rs ps ls R).Ok P M) (hi : i < 60) {v : Int} {ch : List Chg} (he : 0 = adE l v ch) (hch : ch.length ≤ M) (hcf : ∀ c ∈ ch, c.fit)
    {ws' rs' : List PV} {n' m' : Nat} (hn' : n' = n + 1) (hm' : m' = m + 1) (hws' : ws' = ws ++ [.agg [.int .i64 v, .sl (cP ch)]]) (hrs' : rs' = rlP (R ++ [(v, ones (atR R l) ch)])) :
    (Py.mk (i + 1) n' m' a f v us ws' rs' ps (ls ++ [⟨v, ch⟩]) (R ++ [(v, ones (atR R l) ch)])).Ok P M := by
  obtain ⟨h1, h2, h3, h4, h5, h6, h7, h8, h9, h10, h11⟩ := h
  dsimp only at *
  obtain ⟨hlv, hck⟩ := adE_ord he
  refine ⟨by dsimp only; omega, h2, by dsimp only; rw [hws', h3]; unfold layP; rw [List.map_append]; rfl, hrs', by dsimp only; rw [List.length_append, hn', h5]; rfl, by dsimp only; rw [List.length_append, hm', h6]; rfl, h7.add hlv ch, ?_, by dsimp only; omega, by dsimp only; omega, fun x hx => ?_⟩
  · dsimp only; rw [List.length_append, List.length_cons, List.length_nil, Nat.succ_mul, Nat.add_mul]; omega
  · rcases List.mem_append.1 hx with hx | hx
    · exact h11 x hx
    · simp at hx; subst hx; exact ⟨hch, hck, hcf⟩
theorem Py.Ok.back {P M i n m : Nat} {a f l : Int} {us ws rs : List PV} {ps : List Pr} {ls : List Lay} {R : List RLay} (h : (Py.mk i n m a f l us ws rs ps ls R).Ok P M) (hi : i < 60) {v : Int} (he : 0 = knw f l v)
    {ws' rs' : List PV} {n' m' : Nat} (hn' : n' = upto ls v) (hws' : ws' = layP (ls.take n')) (hm' : m' = rs'.length) (hrs' : rs' = rlP (R.filter (atMost v))) :
    (Py.mk (i + 1) n' m' a f v us ws' rs' ps (ls.take (upto ls v)) (R.filter (atMost v))).Ok P M := by
  obtain ⟨h1, h2, h3, h4, h5, h6, h7, h8, h9, h10, h11⟩ := h
  dsimp only at *
  obtain ⟨hf, hl⟩ := knw_0 he.symm
  have hu := upto_le v ls
  have hfl := List.length_filter_le (atMost v) R
  have hml : m' = (R.filter (atMost v)).length := by rw [hm', hrs', rlP_length]
  refine ⟨by dsimp only; omega, h2, by dsimp only; rw [hws', hn'], hrs', by dsimp only; rw [List.length_take, hn']; omega, hml, h7.back hf hl, ?_, by dsimp only; omega, by dsimp only; omega, fun x hx => h11 x (List.mem_of_mem_take hx)⟩
  dsimp only; rw [List.length_take]
  have := Nat.mul_le_mul_right M (show min (upto ls v) ls.length ≤ ls.length by omega)
  rw [Nat.succ_mul]; omega
theorem Py.Ok.forget {P M i n m : Nat} {a f l : Int} {us ws rs : List PV} {ps : List Pr} {ls : List Lay} {R : List RLay} (h : (Py.mk i n m a f l us ws rs ps ls R).Ok P M) (hi : i < 60) {v : Int} (he : 0 = fgE l v) (hf : ¬ v ≤ f)
    {us' ws' : List PV} {n' : Nat} (hus' : us' = prP (whole ps ls v)) (hn' : n' = ls.length - upto ls v) (hws' : ws' = layP (ls.drop (upto ls v))) :
    (Py.mk (i + 1) n' m v v l us' ws' rs (whole ps ls v) (ls.drop (upto ls v)) R).Ok P M := by
  obtain ⟨h1, h2, h3, h4, h5, h6, h7, h8, h9, h10, h11⟩ := h
  dsimp only at *
  have hl : v ≤ l := by
    unfold fgE at he
    by_cases h : l < v
    · rw [if_pos h] at he; cases he
    · omega
  have hu := upto_le v ls
  have hwl : (whole ps ls v).length ≤ ps.length + upto ls v * M := lays_take_len h7.2.1 (fun x hx => (h11 x hx).1) hu
  refine ⟨by dsimp only; omega, hus', hws', h4, by dsimp only; rw [List.length_drop, hn'], h6, h7.forget (Int.le_of_lt (Int.not_le.1 hf)) hl, ?_, by dsimp only; omega, by dsimp only; omega, fun x hx => h11 x (List.mem_of_mem_drop hx)⟩
  dsimp only; rw [List.length_drop]
  have := Nat.sub_mul ls.length (upto ls v) M
  have := Nat.mul_le_mul_right M hu
  rw [Nat.succ_mul]; omega
theorem Py.Ok.bnd {P M i n m : Nat} {a f l : Int} {us ws rs : List PV} {ps : List Pr} {ls : List Lay} {R : List RLay} (h : (Py.mk i n m a f l us ws rs ps ls R).Ok P M) : ps.length + ls.length * M ≤ P + 60 * M := by
  have h1 := h.i60
  have h2 := h.sz
  dsimp only at h1 h2
  exact Nat.le_trans h2 (Nat.add_le_add_left (Nat.mul_le_mul_right M h1) P)
theorem Py.lim {P : Nat} (hP : P * 32 ≤ 67108864) : ∃ M, (∀ k : Nat, k * 40 ≤ 100663296 → k ≤ M) ∧ (∀ X, X ≤ P + 60 * M → (X + M + 1) * 32 ≤ 140737488355328) ∧ M < 281474976710656 :=
  ⟨2516582, fun k h => by omega, fun X h => by omega, by decide⟩
end
end Go.Proofs.Ytdeolllpbflemaa
