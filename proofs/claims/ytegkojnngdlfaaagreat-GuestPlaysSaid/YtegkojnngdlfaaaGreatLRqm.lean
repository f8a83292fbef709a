/- LPas, LPab, LPk1, LRp1, LRp2, LRp3 together. Conditions: on sizes. -/
import Derived.Test.YtegkojnngdlfaaaGreatLPcm
set_option maxRecDepth 100000
set_option maxHeartbeats 32000000
set_option linter.unusedSimpArgs false
set_option linter.unusedVariables false
section
namespace Go.Proofs.YtegkojnngdlfaaaGreat
open Go Go.Lx
open Go.Sx (vcIf)
theorem getD_of {L : List (List Chg)} {i : Nat} {ch : List Chg} (h : L[i]? = some ch) : L.getD i [] = ch := by rw [List.getD_eq_getElem?_getD, h]; rfl
end Go.Proofs.YtegkojnngdlfaaaGreat
end
section
namespace Go.Proofs.YtegkojnngdlfaaaGreat
open Go Go.Lx
open Go.Sx (vcIf)
end Go.Proofs.YtegkojnngdlfaaaGreat
end
section
namespace Go.Proofs.YtegkojnngdlfaaaGreat
open Go Go.Lx
theorem lk_in {W : List Pr} (hW : Srt W) {p : Pr} (h : p ∈ W) : lk W p.key = some p.val := by
  obtain ⟨i, hi⟩ := List.mem_iff_getElem?.1 h
  exact lk_at (fun j q hj hq he => by have := srt_lt hW hq hi hj; rw [he, bl_irrefl] at this; cases this) hi rfl
theorem lst_all {W : List Pr} {s : Spn} {m : Int} (h : W.length ≤ m.toNat) : lst W s m = W.filter fun p => hs s p.key := by
  unfold lst; rw [List.take_of_length_le (Nat.le_trans (List.length_filter_le _ _) h)]
def FndK (X : List Pr) (key : List UInt8) (i f : Nat) : Prop := (f = 0 ∧ ∀ j p, j < i → X[j]? = some p → p.key ≠ key) ∨ (f = 1 ∧ ∃ j p, j < i ∧ X[j]? = some p ∧ p.key = key)
theorem FndK.zero (X : List Pr) (key : List UInt8) : FndK X key 0 0 := .inl ⟨rfl, fun j p h => by omega⟩
end Go.Proofs.YtegkojnngdlfaaaGreat
end
section
namespace Go.Proofs.YtegkojnngdlfaaaGreat
open Go Go.Lx
open Go.Sx (vcIf)
abbrev RLay := Int × List Pr
def RLay.v (x : RLay) : PV := .agg [.int .i64 x.1, .sl (prP x.2)]
def rlP (l : List RLay) : List PV := l.map RLay.v
theorem rlP_length (l : List RLay) : (rlP l).length = l.length := List.length_map _
theorem rlP_get {l : List RLay} {i : Nat} {b : RLay} (h : l[i]? = some b) : (rlP l)[i]? = some (.agg [.int .i64 b.1, .sl (prP b.2)]) := by unfold rlP; rw [List.getElem?_map, h]; rfl
theorem rlP_append (a b : List RLay) : rlP (a ++ b) = rlP a ++ rlP b := List.map_append
def atR (l : List RLay) (v : Int) : List Pr := l.foldl (fun acc x => if x.1 ≤ v then x.2 else acc) []
theorem atR_next {l : List RLay} {i : Nat} {x : RLay} (v : Int) (h : l[i]? = some x) : atR (l.take (i + 1)) v = if x.1 ≤ v then x.2 else atR (l.take i) v := by
  unfold atR; rw [List.take_add_one, h, List.foldl_append]; rfl
abbrev rpI (f l : Int) (ys : List PV) : V := .imm 3 (.agg [.sl ys, .int .i64 f, .int .i64 l]) 0
abbrev rpS (f l : Int) (n : Nat) : Res := .st 133 [.vw 1 2 0 n none, .p (.int .i64 f), .p (.int .i64 l)]
abbrev rpA (xs : List PV) : Res := .arr 130 2 xs
theorem rpL {own : List Res} {js : List Nat} {i j n : Nat} {f l : Int} {xs : List PV} (hi : js[0]? = some i) (hj : js[1]? = some j) (h1 : own[i]? = some (.st 133 [.vw j 2 0 n none, .p (.int .i64 f), .p (.int .i64 l)]))
    (h2 : own[j]? = some (rpA xs)) : TrO own js [] [i, j] [rpS f l n, rpA xs] :=
  ⟨⟨_, h1, .st _ _ _ (.cons (.vw 1 j 2 0 n none hj) (.cons (.p _) (.cons (.p _) .nil)))⟩, ⟨_, h2, .arr _ _ _⟩, trivial⟩
theorem rpT {own : List Res} {bs js : List Nat} {i j n : Nat} {f l : Int} {xs : List PV} (hi : i ∈ bs) (hj : j ∈ bs) (h1 : own[i]? = some (.st 133 [.vw j 2 0 n none, .p (.int .i64 f), .p (.int .i64 l)]))
    (h2 : own[j]? = some (rpA xs)) (ys : List PV) (hy : ys = (xs.drop 0).take n) : Tr own js bs (.own i 0) (rpI f l ys) := by
  refine .bown i 0 _ _ [.p (.sl ys), .p (.int .i64 f), .p (.int .i64 l)] [.sl ys, .int .i64 f, .int .i64 l] hi h1 rfl (fun q hq => ?_) rfl ?_
  · simp only [List.mem_cons, List.not_mem_nil, or_false] at hq
    rcases hq with rfl | rfl | rfl <;> rfl
  · intro k c p hc hp
    match k, hc, hp with
    | 0, hc, hp => simp at hc hp; subst hc hp; exact .bvw j 2 0 n none _ _ xs ys hj h2 hy
    | 1, hc, hp => simp at hc hp; subst hc hp; exact .p _
    | 2, hc, hp => simp at hc hp; subst hc hp; exact .p _
    | k + 3, hc, hp => simp at hc
theorem rpKnown_spec (f l v : Int) (ys : List PV) : FnL Tryz.prog 90 [rpI f l ys, .p (.int .i64 v)] [] fun r own => ∃ e : Nat, e = knw f l v ∧ r = .p (.int .i64 (Int.ofNat e)) ∧ own = [] := by
  obtain ⟨R, hR⟩ : ∃ R, R = knw f l v := ⟨_, rfl⟩
  rw [← hR]
  unfold knw at hR
  refine fn_of_vc eOk fOk fo90 Tryz.func90 rfl rfl rfl fun B hB => ?_
  intro _ _ _ _ _ _ _ _ _ _ _ _ _ _ _ _ _ _ _ _ _ _ _ hA _ _ _ _ _ _ _ _ _ _ hL _ _ _ _ _ _ ret hret
  cbv
  by_cases h1 : v < f
  · rw [if_pos h1] at hR
    refine vcIf.yes (by first | (simp [smW hA hL, h1]; done) | (simp only [h1]; simp [smW hA hL, h1]; done) | (simp [smW hA hL, h1]; omega) | (simp only [h1]; simp [smW hA hL, h1]; omega)) ?_
    cbv
    exact hret _ (RetEv.ret eOk rfl ⟨_, rfl, by rw [hR]; rfl, rfl⟩)
  · rw [if_neg h1] at hR
    refine vcIf.no (by first | (simp [smW hA hL, h1]; done) | (simp only [h1]; simp [smW hA hL, h1]; done) | (simp [smW hA hL, h1]; omega) | (simp only [h1]; simp [smW hA hL, h1]; omega)) ?_
    cbv
    by_cases h2 : l < v
    · rw [if_pos h2] at hR
      refine vcIf.yes (by first | (simp [smW hA hL, h2]; done) | (simp only [h2]; simp [smW hA hL, h2]; done) | (simp [smW hA hL, h2]; omega) | (simp only [h2]; simp [smW hA hL, h2]; omega)) ?_
      cbv
      exact hret _ (RetEv.ret eOk rfl ⟨_, rfl, by rw [hR]; rfl, rfl⟩)
    · rw [if_neg h2] at hR
      refine vcIf.no (by first | (simp [smW hA hL, h2]; done) | (simp only [h2]; simp [smW hA hL, h2]; done) | (simp [smW hA hL, h2]; omega) | (simp only [h2]; simp [smW hA hL, h2]; omega)) ?_
      cbv
      exact hret _ (RetEv.ret eOk rfl ⟨_, rfl, by rw [hR]; rfl, rfl⟩)
theorem rpFrom_spec (v : Int) (zs : List PV) : FnL Tryz.prog 35 [.p (.int .i64 v), .p (.sl zs)] [] fun r own => r = .own 0 0 ∧ own = [rpS v v 1, rpA [.agg [.int .i64 v, .sl zs]]] := by
  refine fn_of_vc eOk fOk fo35 Tryz.func35 rfl rfl rfl fun B hB => ?_
  intro _ _ _ _ _ _ _ _ _ _ _ _ _ _ _ _ _ _ _ _ _ _ _ _ _ _ sl _ _ _ _ _ _ _ _ _ _ _ _ _ _ ret hret
  cbv
  refine ⟨true, ?_⟩
  cbv
  exact hret _ (RetEv.convW (ConvW.pack [1, 0] hB rfl) (RetEv.ret eOk rfl ⟨rfl, rfl⟩))
theorem rpAt_spec (L : List RLay) (hn : L.length < 281474976710656) (f l v : Int) (ys : List PV) (hys : ys = rlP L) :
    FnL Tryz.prog 68 [rpI f l ys, .p (.int .i64 v)] [] fun r own => r = .p (.sl (prP (atR L v))) ∧ own = [] := by
  obtain ⟨R, hR⟩ : ∃ R, R = prP (atR L v) := ⟨_, rfl⟩
  rw [← hR]
  obtain ⟨N, hN⟩ : ∃ N, N = L.length := ⟨_, rfl⟩
  have hyl : ys.length = N := by rw [hys, rlP_length, hN]
  refine fn_of_vc eOk fOk fo68 Tryz.func68 rfl rfl rfl fun B hB => ?_
  intro add _ _ _ _ _ _ _ _ _ _ _ _ _ _ _ _ _ _ _ _ _ _ _ _ _ sl _ _ _ _ _ _ _ _ _ _ _ _ _ hcode ret hret
  cbv
  refine ⟨false, ?_⟩
  cbv
  refine hcode _ _ _ (CodeEv.loop eOk fOk (ι := Nat × List PV) (fun s => [(0, rpI f l ys), (1, .p (.int .i64 v)), (5, .p (.sl s.2)), (6, .p (.int .i64 (Int.ofNat s.1)))]) (fun _ => []) (fun s => s.1 ≤ N ∧ s.2 = prP (atR (L.take s.1) v)) (fun s => N - s.1) (0, []) ?_ ?_)
  · exact ⟨(by repeat (first | exact trivial | refine And.intro rfl ?_)), rfl, Nat.zero_le _, rfl⟩
  rintro ⟨i, ps⟩ ⟨hiN, hps⟩ rd hrd
  dsimp only at hiN hps
  by_cases hi : i < N
  · refine Exists.elim (get_of_lt (show i < L.length by omega)) fun b hb => ?_
    refine Exists.elim (show ∃ q, q = prP b.2 from ⟨_, rfl⟩) fun q hq => ?_
    have hzb : ys[i]? = some (.agg [.int .i64 b.1, .sl q]) := by rw [hys, hq]; exact rlP_get hb
    have hnx := atR_next v hb
    have hmu : N - (i + 1) < N - i := by omega
    have hi1 : i + 1 ≤ N := by omega
    intro add1 _ _ _ _ _ _ _ _ _ _ _ _ _ _ _ _ _ _ _ _ _ _ hA1 _ _ _ _ _ _ _ _ _ _ hL1 _ _ _ _ _ _
    have hinc : add1 .i64 (Int.ofNat i) 1 = Int.ofNat (i + 1) := by rw [hA1.add]; exact i64_nat (by simp) (by omega)
    cbv
    refine vcIf.yes (by first | (simp [smW hA1 hL1, hyl, hi]; done) | (simp only [hyl, hi]; simp [smW hA1 hL1, hyl, hi]; done) | (simp [smW hA1 hL1, hyl, hi]; omega) | (simp only [hyl, hi]; simp [smW hA1 hL1, hyl, hi]; omega)) ?_
    cbv
    refine ⟨i, _, rfl, hzb, rfl, ?_⟩
    cbv
    by_cases hv : b.1 ≤ v
    · rw [if_pos hv] at hnx
      refine vcIf.yes (by first | (simp [smW hA1 hL1, hv]; done) | (simp only [hv]; simp [smW hA1 hL1, hv]; done) | (simp [smW hA1 hL1, hv]; omega) | (simp only [hv]; simp [smW hA1 hL1, hv]; omega)) ?_
      cbv
      refine ⟨i, _, rfl, hzb, rfl, ?_⟩
      cbv
      refine hrd _ ⟨(i + 1, q), _, hmu, ⟨hi1, by show q = prP _; rw [hnx, hq]⟩, rfl, ⟨rfl, rfl, rfl, ?_, trivial⟩, rfl, rfl, rfl, by rw [hB]; exact Nat.zero_le _⟩
      show some (Go.Lx.V.p (.int .i64 _)) = _
      rw [hinc]
    · rw [if_neg hv] at hnx
      refine vcIf.no (by first | (simp [smW hA1 hL1, hv]; done) | (simp only [hv]; simp [smW hA1 hL1, hv]; done) | (simp [smW hA1 hL1, hv]; omega) | (simp only [hv]; simp [smW hA1 hL1, hv]; omega)) ?_
      cbv
      refine hrd _ ⟨(i + 1, ps), _, hmu, ⟨hi1, by show ps = prP _; rw [hnx]; exact hps⟩, rfl, ⟨rfl, rfl, rfl, ?_, trivial⟩, rfl, rfl, rfl, by rw [hB]; exact Nat.zero_le _⟩
      show some (Go.Lx.V.p (.int .i64 _)) = _
      rw [hinc]
  · obtain rfl : i = N := by omega
    rw [hN, List.take_length, ← hR] at hps
    intro add1 _ _ _ _ _ _ _ _ _ _ _ _ _ _ _ _ _ _ _ _ _ _ hA1 _ _ _ _ _ _ _ _ _ _ hL1 _ _ _ _ _ _
    cbv
    refine vcIf.no (by first | (simp [smW hA1 hL1, hyl]; done) | (simp only [hyl]; simp [smW hA1 hL1, hyl]; done) | (simp [smW hA1 hL1, hyl]; omega) | (simp only [hyl]; simp [smW hA1 hL1, hyl]; omega)) ?_
    cbv
    exact hret _ (RetEv.ret eOk rfl ⟨by rw [hps]; rfl, rfl⟩)
end Go.Proofs.YtegkojnngdlfaaaGreat
end
section
namespace Go.Proofs.YtegkojnngdlfaaaGreat
open Go Go.Lx
open Go.Sx (vcIf)
theorem filtT_next {fl : Pr → Bool} {ps : List Pr} {k M : Nat} {p : Pr} (h : ps[k]? = some p) : ((ps.take (k + 1)).filter fl).take M = if fl p = true ∧ (((ps.take k).filter fl).take M).length < M then (((ps.take k).filter fl).take M) ++ [p] else ((ps.take k).filter fl).take M := by
  rw [List.take_add_one, h, List.filter_append]
  by_cases hp : fl p = true
  · by_cases hm : (((ps.take k).filter fl).take M).length < M
    · rw [if_pos ⟨hp, hm⟩]
      rw [List.length_take] at hm
      rw [List.take_of_length_le (l := (ps.take k).filter fl) (by omega), List.take_of_length_le (by simp [hp]; omega)]
      simp [hp]
    · rw [if_neg (by simp only [hm, and_false, not_false_iff])]
      rw [List.length_take] at hm
      rw [List.take_append_of_le_length (by omega)]
  · rw [if_neg (by simp [hp])]
    simp [hp]
theorem rpList_spec (L : List RLay) (hn : L.length < 281474976710656) (f l v most : Int) (hmost : most ≤ 9223372036854775807) (lo hi : List UInt8) (ys : List PV) (hys : ys = rlP L) (hP : knw f l v = 0 → (atR L v).length * 32 + 32 ≤ 140737488355328) :
    FnL Tryz.prog 63 [rpI f l ys, .p (.agg [.str lo, .str hi]), .p (.int .i64 v), .p (.int .i64 most)] [] fun r own => ∃ (e : Nat) (us : List PV) (m : Nat), e = liE f l v most ∧ us = prP (if knw f l v = 0 ∧ ¬ most < 0 then lst (atR L v) ⟨lo, hi⟩ most else []) ∧ m = us.length ∧
      r = .tup [.vw 0 2 0 m none, .p (.int .i64 (Int.ofNat e))] ∧ own = [.arr 84 2 us] := by
  have hkn := rpKnown_spec f l v ys
  have hat := rpAt_spec L hn f l v ys hys
  obtain ⟨W, hW⟩ : ∃ W, W = atR L v := ⟨_, rfl⟩
  obtain ⟨E, hE⟩ : ∃ E, E = knw f l v := ⟨_, rfl⟩
  unfold liE
  rw [← hW] at hat hP ⊢
  rw [← hE] at hkn hP ⊢
  obtain ⟨zs, hzs⟩ : ∃ zs, zs = prP W := ⟨_, rfl⟩
  rw [← hzs] at hat
  obtain ⟨N, hN⟩ : ∃ N, N = W.length := ⟨_, rfl⟩
  have hzl : zs.length = N := by rw [hzs, prP_length, hN]
  rw [← hN] at hP
  clear hW hE
  refine fn_of_vc eOk fOk fo63 Tryz.func63 rfl rfl rfl fun B hB => ?_
  intro add _ _ _ _ _ _ _ _ _ _ _ _ _ _ _ _ _ _ _ _ _ _ hA _ _ sl _ _ _ _ _ _ _ hL _ _ _ hcall _ hcode ret hret
  cbv
  refine hcall _ _ _ _ _ (CallEv.pure hkn (.cons (.imm _ _ _) (.cons (.p _) .nil)) ?_)
  rintro _ _ ⟨e, rfl, rfl, rfl⟩
  cbv
  by_cases h0 : e = 0
  rotate_left
  · have h0' : ¬ (e : Int) = 0 := by omega
    refine vcIf.yes (by first | (simp [smW hA hL, h0, h0']; done) | (simp only [h0, h0']; simp [smW hA hL, h0, h0']; done) | (simp [smW hA hL, h0, h0']; omega) | (simp only [h0, h0']; simp [smW hA hL, h0, h0']; omega)) ?_
    cbv
    exact hret _ (RetEv.convW ((Conv.hollow 8 84 2 (by decide) rfl).weak.trans (ConvW.pack [1] hB rfl)) (RetEv.ret eOk rfl ⟨e, [], 0, by rw [if_pos h0], by rw [if_neg (by simp [h0])]; rfl, rfl, rfl, rfl⟩))
  subst h0
  replace hP := hP rfl
  refine vcIf.no (by first | (simp [smW hA hL]; done) | (simp [smW hA hL]; omega)) ?_
  cbv
  by_cases h1 : most < 0
  · refine vcIf.yes (by first | (simp [smW hA hL, h1]; done) | (simp only [h1]; simp [smW hA hL, h1]; done) | (simp [smW hA hL, h1]; omega) | (simp only [h1]; simp [smW hA hL, h1]; omega)) ?_
    cbv
    exact hret _ (RetEv.convW ((Conv.hollow 8 84 2 (by decide) rfl).weak.trans (ConvW.pack [1] hB rfl)) (RetEv.ret eOk rfl ⟨1, [], 0, by simp [h1], by rw [if_neg (by simp [h1])]; rfl, rfl, rfl, rfl⟩))
  refine vcIf.no (by first | (simp [smW hA hL, h1]; done) | (simp only [h1]; simp [smW hA hL, h1]; done) | (simp [smW hA hL, h1]; omega) | (simp only [h1]; simp [smW hA hL, h1]; omega)) ?_
  cbv
  refine hcall _ _ _ _ _ (CallEv.pure hat (.cons (.imm _ _ _) (.cons (.p _) .nil)) ?_)
  rintro _ _ ⟨rfl, rfl⟩
  obtain ⟨M, hM⟩ : ∃ M, M = most.toNat := ⟨_, rfl⟩
  have hmM : most = Int.ofNat M := by rw [hM]; simp only [Int.ofNat_eq_natCast]; omega
  obtain ⟨fl, hfl⟩ : ∃ fl : Pr → Bool, fl = fun p => hs ⟨lo, hi⟩ p.key := ⟨_, rfl⟩
  have hend : lst W ⟨lo, hi⟩ most = (W.filter fl).take M := by unfold lst; rw [hM, hfl]
  have hfe : 0 = (if (0 : Nat) ≠ 0 then 0 else if most < 0 then 1 else 0) := by rw [if_neg (by simp), if_neg h1]
  have hfu : (if (0 : Nat) = 0 ∧ ¬ most < 0 then lst W ⟨lo, hi⟩ most else []) = (W.filter fl).take M := by rw [if_pos ⟨rfl, h1⟩, hend]
  clear hend
  subst hmM
  cbv
  refine ⟨true, ?_⟩
  cbv
  refine hcode _ _ _ (CodeEv.loop eOk fOk (ι := Nat × List PV × Nat) (fun s => [(3, .p (.int .i64 (Int.ofNat M))), (5, .own 0 0), (11, .p (.sl zs)), (12, .vw 1 2 0 s.2.2 none), (13, .p (.int .i64 (Int.ofNat s.1)))]) (fun s => [.st 38 [.p (.str lo), .p (.str hi)], .arr 84 2 s.2.1]) (fun s => s.1 ≤ N ∧ s.2.1 = prP (((W.take s.1).filter fl).take M) ∧ s.2.2 = s.2.1.length) (fun s => N - s.1) (0, [], 0) ?_ ?_)
  · exact ⟨(by repeat (first | exact trivial | refine And.intro rfl ?_)), rfl, Nat.zero_le _, by simp [prP], rfl⟩
  rintro ⟨i, us, m⟩ ⟨hiN, hus, hm⟩ rd hrd
  dsimp only at hiN hus hm
  by_cases hiN' : i < N
  · refine Exists.elim (get_of_lt (show i < W.length by omega)) fun p hp => ?_
    have hnx := filtT_next (fl := fl) (M := M) hp
    have hml : (((W.take i).filter fl).take M).length = m := by rw [hm, hus, prP_length]
    rw [hml] at hnx
    have hmi : m ≤ i := by
      have h2 := List.length_filter_le fl (W.take i)
      have h3 := List.length_take_le i W
      rw [List.length_take] at hml
      omega
    have hzp : zs[i]? = some (.agg [.str p.key, .str p.val]) := by rw [hzs]; exact prP_get hp
    have hhas := rhas_spec lo hi p.key
    have hflp : fl p = (!(bl p.key lo) && bl p.key hi) := by rw [hfl]; rfl
    refine Exists.elim (show ∃ b, b = fl p from ⟨_, rfl⟩) fun b hb => ?_
    rw [← hb] at hnx hflp
    rw [← hflp] at hhas
    have hmu : N - (i + 1) < N - i := by omega
    have hi1 : i + 1 ≤ N := by omega
    clear hflp hb
    obtain ⟨pk, pv⟩ := p
    simp only at hzp hhas
    intro add1 _ _ _ _ _ _ _ _ _ _ _ _ _ _ _ _ _ _ _ _ _ _ hA1 _ _ _ _ _ _ _ _ _ _ hL1 _ _ _ _ _ hcode1
    have hinc : add1 .i64 (Int.ofNat i) 1 = Int.ofNat (i + 1) := by rw [hA1.add]; exact i64_nat (by simp) (by omega)
    cbv
    refine vcIf.yes (by first | (simp [smW hA1 hL1, hzl, hiN']; done) | (simp only [hzl, hiN']; simp [smW hA1 hL1, hzl, hiN']; done) | (simp [smW hA1 hL1, hzl, hiN']; omega) | (simp only [hzl, hiN']; simp [smW hA1 hL1, hzl, hiN']; omega)) ?_
    cbv
    refine hcode1 _ _ _ (CodeEv.drawT eOk fOk (by kernel_rfl) noX (.rd 0 (.rd 1 (.so 2 (.so 3 (.so 4 (.so 5 (.acts (.cons 6 (.so 7 (.rd 8 (.rd 9 (.so 10 (.so 11 (.so 12 (.done))))))) (.nil))))))))) (by kernel_rfl) (by kernel_rfl) ?_)
    intro _ _ _ _ _ _ _ _ _ _ _ _ _ _ _ _ _ _ _ _ _ _ _ hA2 _ _ _ _ _ _ _ _ _ _ hL2 _ _ _ hcall2 _ _ _ hq2
    cbv
    refine ⟨i, _, rfl, hzp, rfl, ?_⟩
    cbv
    refine hcall2 _ _ _ _ _ (CallEv.same hhas rfl ?_)
    rintro _ _ ⟨rfl, rfl⟩
    cbv
    cases b with
    | false =>
      rw [if_neg (by simp)] at hnx
      repeat (first | (refine vcIf.yes ?_ ?_; (focus (simp [smW hA2 hL2]; done)); cbv) | (refine vcIf.no ?_ ?_; (focus (simp [smW hA2 hL2]; done)); cbv))
      refine hq2 _ ?_
      cbv
      repeat (first | (refine vcIf.yes ?_ ?_; (focus (simp [smW hA2 hL2]; done)); cbv) | (refine vcIf.no ?_ ?_; (focus (simp [smW hA2 hL2]; done)); cbv))
      refine hrd _ ⟨(i + 1, us, m), _, hmu, ⟨hi1, by show us = prP _; rw [hnx]; exact hus, hm⟩, rfl, ⟨rfl, rfl, rfl, rfl, ?_, trivial⟩, rfl, rfl, rfl, by rw [hB]; exact Nat.zero_le _⟩
      show some (Go.Lx.V.p (.int .i64 _)) = _
      rw [hinc]
    | true =>
      by_cases hmM : m < M
      · rw [if_pos ⟨rfl, hmM⟩] at hnx
        repeat (first | (refine vcIf.yes ?_ ?_; (focus (simp [smW hA2 hL2, hA2.ofNat, hmM]; done)); cbv) | (refine vcIf.no ?_ ?_; (focus (simp [smW hA2 hL2, hA2.ofNat, hmM]; done)); cbv))
        refine hq2 _ ?_
        cbv
        refine vcIf.yes (by first | (simp [smW hA2 hL2, hA2.ofNat, hmM]; done) | (simp only [hA2.ofNat, hmM]; simp [smW hA2 hL2, hA2.ofNat, hmM]; done) | (simp [smW hA2 hL2, hA2.ofNat, hmM]; omega) | (simp only [hA2.ofNat, hmM]; simp [smW hA2 hL2, hA2.ofNat, hmM]; omega)) ?_
        cbv
        refine ⟨i, _, rfl, hzp, rfl, ?_⟩
        cbv
        refine ⟨false, ?_⟩
        cbv
        refine .inl ⟨(), rfl, hm, ?_, ?_, ?_, fun ws m' hws hm' => ?_⟩
        · intro y hy
          simp [Sq.get] at hy
          rw [hy]; exact ⟨rfl, fun u hu => by simp [PV.cells] at hu; rcases hu with rfl | rfl <;> rfl⟩
        · show m + 1 ≤ maxLen
          unfold maxLen; omega
        · show (m + 1) * 32 ≤ _
          omega
        replace hws : ws = us ++ [Pr.v ⟨pk, pv⟩] := hws
        replace hm' : m' = m + 1 := hm'
        cbv
        refine hrd _ ⟨(i + 1, ws, m'), _, hmu, ⟨hi1, by show ws = prP _; rw [hnx, hws, hus]; unfold prP; rw [List.map_append]; rfl, by show m' = ws.length; rw [hm', hws, List.length_append, ← hm]; rfl⟩, rfl, ⟨rfl, rfl, rfl, rfl, ?_, trivial⟩, rfl, rfl, rfl, by rw [hB]; exact Nat.zero_le _⟩
        show some (Go.Lx.V.p (.int .i64 _)) = _
        rw [hinc]
      · rw [if_neg (by simp [hmM])] at hnx
        repeat (first | (refine vcIf.yes ?_ ?_; (focus (simp [smW hA2 hL2, hA2.ofNat, hmM]; done)); cbv) | (refine vcIf.no ?_ ?_; (focus (simp [smW hA2 hL2, hA2.ofNat, hmM]; done)); cbv))
        refine hq2 _ ?_
        cbv
        refine vcIf.no (by first | (simp [smW hA2 hL2, hA2.ofNat, hmM]; done) | (simp only [hA2.ofNat, hmM]; simp [smW hA2 hL2, hA2.ofNat, hmM]; done) | (simp [smW hA2 hL2, hA2.ofNat, hmM]; omega) | (simp only [hA2.ofNat, hmM]; simp [smW hA2 hL2, hA2.ofNat, hmM]; omega)) ?_
        cbv
        refine hrd _ ⟨(i + 1, us, m), _, hmu, ⟨hi1, by show us = prP _; rw [hnx]; exact hus, hm⟩, rfl, ⟨rfl, rfl, rfl, rfl, ?_, trivial⟩, rfl, rfl, rfl, by rw [hB]; exact Nat.zero_le _⟩
        show some (Go.Lx.V.p (.int .i64 _)) = _
        rw [hinc]
  · obtain rfl : i = N := by omega
    rw [hN, List.take_length] at hus
    intro add1 _ _ _ _ _ _ _ _ _ _ _ _ _ _ _ _ _ _ _ _ _ _ hA1 _ _ _ _ _ _ _ _ _ _ hL1 _ _ _ _ _ hcode1
    cbv
    refine vcIf.no (by first | (simp [smW hA1 hL1, hzl]; done) | (simp only [hzl]; simp [smW hA1 hL1, hzl]; done) | (simp [smW hA1 hL1, hzl]; omega) | (simp only [hzl]; simp [smW hA1 hL1, hzl]; omega)) ?_
    cbv
    exact hret _ (RetEv.convW (ConvW.pack [1] hB rfl) (RetEv.ret eOk rfl ⟨0, us, m, hfe, by rw [hfu]; exact hus, hm, rfl, rfl⟩))
end Go.Proofs.YtegkojnngdlfaaaGreat
end
section
namespace Go.Proofs.YtegkojnngdlfaaaGreat
open Go Go.Lx
open Go.Sx (vcIf)
theorem ones_nx (ps : List Pr) {cs : List Chg} {i : Nat} {c : Chg} (h : cs[i]? = some c) : ones ps (cs.take (i + 1)) = one (ones ps (cs.take i)) c := by
  unfold ones; rw [List.take_add_one, h, List.foldl_append]; rfl
theorem ones_tlen {ps : List Pr} (h : Srt ps) (cs : List Chg) (i : Nat) : (ones ps (cs.take i)).length ≤ ps.length + cs.length :=
  Nat.le_trans (ones_len h _) (Nat.add_le_add_left (List.length_take_le' _ _) _)
theorem rpAtO_spec (L : List RLay) (f l v : Int) (ys : List PV) (hys : ys = rlP L) (n : Nat) (hn0 : n = L.length) (hn : n < 281474976710656) :
    FnL Tryz.prog 68 [.own 0 0, .p (.int .i64 v)] [rpS f l n, rpA ys] fun r own => r = .p (.sl (prP (atR L v))) ∧ own = [rpS f l n, rpA ys] := by
  obtain ⟨R, hR⟩ : ∃ R, R = prP (atR L v) := ⟨_, rfl⟩
  rw [← hR]
  obtain ⟨N, hN⟩ : ∃ N, N = L.length := ⟨_, rfl⟩
  obtain hNn : N = n := hN.trans hn0.symm
  have hyl : ys.length = n := by rw [hys, rlP_length, hn0]
  refine fn_of_vc eOk fOk fo68 Tryz.func68 rfl rfl rfl fun B hB => ?_
  intro add _ _ _ _ _ _ _ _ _ _ _ _ _ _ _ _ _ _ _ _ _ _ _ _ _ sl _ _ _ _ _ _ _ _ _ _ _ _ _ hcode ret hret
  cbv
  refine ⟨false, ?_⟩
  cbv
  refine hcode _ _ _ (CodeEv.loop eOk fOk (ι := Nat × List PV) (fun s => [(0, .own 0 0), (1, .p (.int .i64 v)), (5, .p (.sl s.2)), (6, .p (.int .i64 (Int.ofNat s.1)))]) (fun _ => [rpS f l n, rpA ys]) (fun s => s.1 ≤ n ∧ s.2 = prP (atR (L.take s.1) v)) (fun s => n - s.1) (0, []) ?_ ?_)
  · exact ⟨(by repeat (first | exact trivial | refine And.intro rfl ?_)), rfl, Nat.zero_le _, rfl⟩
  rintro ⟨i, ps⟩ ⟨hiN, hps⟩ rd hrd
  dsimp only at hiN hps
  by_cases hi : i < n
  · refine Exists.elim (get_of_lt (show i < L.length by omega)) fun b hb => ?_
    refine Exists.elim (show ∃ q, q = prP b.2 from ⟨_, rfl⟩) fun q hq => ?_
    have hzb : ys[i]? = some (.agg [.int .i64 b.1, .sl q]) := by rw [hys, hq]; exact rlP_get hb
    have hnx := atR_next v hb
    have hmu : n - (i + 1) < n - i := by omega
    have hi1 : i + 1 ≤ n := by omega
    intro add1 _ _ _ _ _ _ _ _ _ _ _ _ _ _ _ _ _ _ _ _ _ _ hA1 _ _ _ _ _ _ _ _ _ _ hL1 _ _ _ _ _ _
    have hinc : add1 .i64 (Int.ofNat i) 1 = Int.ofNat (i + 1) := by rw [hA1.add]; exact i64_nat (by simp) (by omega)
    cbv
    refine vcIf.yes (by first | (simp [smW hA1 hL1, hA1.ofNat, hi]; done) | (simp only [hA1.ofNat, hi]; simp [smW hA1 hL1, hA1.ofNat, hi]; done) | (simp [smW hA1 hL1, hA1.ofNat, hi]; omega) | (simp only [hA1.ofNat, hi]; simp [smW hA1 hL1, hA1.ofNat, hi]; omega)) ?_
    cbv
    refine ⟨i, rfl, hi, fun q0 hq0 => ?_⟩
    obtain rfl : i = q0 := by omega
    cbv
    refine ⟨_, hzb, ?_⟩
    cbv
    by_cases hv : b.1 ≤ v
    · rw [if_pos hv] at hnx
      refine vcIf.yes (by first | (simp [smW hA1 hL1, hv]; done) | (simp only [hv]; simp [smW hA1 hL1, hv]; done) | (simp [smW hA1 hL1, hv]; omega) | (simp only [hv]; simp [smW hA1 hL1, hv]; omega)) ?_
      cbv
      refine ⟨i, rfl, hi, fun q1 hq1 => ?_⟩
      obtain rfl : i = q1 := by omega
      cbv
      refine ⟨_, hzb, ?_⟩
      cbv
      refine hrd _ ⟨(i + 1, q), _, hmu, ⟨hi1, by show q = prP _; rw [hnx, hq]⟩, rfl, ⟨rfl, rfl, rfl, ?_, trivial⟩, rfl, rfl, rfl, by rw [hB]; exact Nat.le_refl 2⟩
      show some (Go.Lx.V.p (.int .i64 _)) = _
      rw [hinc]
    · rw [if_neg hv] at hnx
      refine vcIf.no (by first | (simp [smW hA1 hL1, hv]; done) | (simp only [hv]; simp [smW hA1 hL1, hv]; done) | (simp [smW hA1 hL1, hv]; omega) | (simp only [hv]; simp [smW hA1 hL1, hv]; omega)) ?_
      cbv
      refine hrd _ ⟨(i + 1, ps), _, hmu, ⟨hi1, by show ps = prP _; rw [hnx]; exact hps⟩, rfl, ⟨rfl, rfl, rfl, ?_, trivial⟩, rfl, rfl, rfl, by rw [hB]; exact Nat.le_refl 2⟩
      show some (Go.Lx.V.p (.int .i64 _)) = _
      rw [hinc]
  · obtain rfl : i = n := by omega
    rw [hn0, List.take_length, ← hR] at hps
    intro add1 _ _ _ _ _ _ _ _ _ _ _ _ _ _ _ _ _ _ _ _ _ _ hA1 _ _ _ _ _ _ _ _ _ _ hL1 _ _ _ _ _ _
    cbv
    refine vcIf.no (by first | (simp [smW hA1 hL1, hA1.ofNat]; done) | (simp only [hA1.ofNat]; simp [smW hA1 hL1, hA1.ofNat]; done) | (simp [smW hA1 hL1, hA1.ofNat]; omega) | (simp only [hA1.ofNat]; simp [smW hA1 hL1, hA1.ofNat]; omega)) ?_
    cbv
    exact hret _ (RetEv.ret eOk rfl ⟨by rw [hps]; rfl, rfl⟩)
theorem rpAdd_spec (L : List RLay) (f l v : Int) (ch : List Chg) (hcf : ∀ c ∈ ch, c.fit) (hcl : ch.length < 281474976710656) (hS : Srt (atR L l)) (hsz : ((atR L l).length + ch.length + 1) * 32 ≤ 140737488355328) (xs : List PV) (hxs : xs = rlP L) (n : Nat) (hn0 : n = L.length) (hn : (n + 1) * 32 ≤ 140737488355328) (cs : List PV) (hcs : cs = cP ch) :
    FnL Tryz.prog 36 [.own 0 0, .p (.int .i64 v), .p (.sl cs)] [rpS f l n, rpA xs] fun r own => ∃ e : Nat, e = adE l v ch ∧ r = .p (.int .i64 (Int.ofNat e)) ∧
      ((e ≠ 0 ∧ own = [rpS f l n, rpA xs]) ∨ (e = 0 ∧ ∃ ws m, m = n + 1 ∧ ws = rlP (L ++ [(v, ones (atR L l) ch)]) ∧ own = [rpS f v m, rpA ws])) := by
  have hal := rall_spec ch (by omega) cs hcs
  have hxl : xs.length = n := by rw [hxs, rlP_length, hn0]
  have hyd : xs = (xs.drop 0).take n := by rw [List.drop_zero, ← hxl, List.take_length]
  have hat := rpAtO_spec L f l l xs hxs n hn0 (by omega)
  obtain ⟨W, hW⟩ : ∃ W, W = atR L l := ⟨_, rfl⟩
  rw [← hW] at hat hS hsz ⊢
  obtain ⟨E, hE⟩ : ∃ E, E = adE l v ch := ⟨_, rfl⟩
  rw [← hE]
  unfold adE at hE
  obtain ⟨C, hC⟩ : ∃ C, C = chks ch := ⟨_, rfl⟩
  rw [← hC] at hE hal
  obtain ⟨zs, hzs⟩ : ∃ zs, zs = prP W := ⟨_, rfl⟩
  rw [← hzs] at hat
  obtain ⟨N, hN⟩ : ∃ N, N = ch.length := ⟨_, rfl⟩
  have hcsl : cs.length = N := by rw [hcs, cP_length, hN]
  have hone := fun (i : Nat) (c : Chg) (h : ch[i]? = some c) (us : List PV) (hu : us = prP (ones W (ch.take i))) => rOne_spec (ones W (ch.take i)) (by have := ones_tlen hS ch i; omega) c (hcf c (List.mem_of_getElem? h)) us hu
  refine fn_of_vc eOk fOk fo36 Tryz.func36 rfl rfl rfl fun B hB => ?_
  intro add _ _ _ _ _ _ _ _ _ _ _ _ _ _ _ _ _ _ _ _ _ _ hA _ _ sl _ _ _ _ _ _ _ hL _ _ _ hcall _ hcode ret hret
  cbv
  by_cases h0 : v ≤ l
  · rw [if_pos h0] at hE
    refine vcIf.yes (by first | (simp [smW hA hL, h0]; done) | (simp only [h0]; simp [smW hA hL, h0]; done) | (simp [smW hA hL, h0]; omega) | (simp only [h0]; simp [smW hA hL, h0]; omega)) ?_
    cbv
    exact hret _ (RetEv.ret eOk rfl ⟨E, rfl, by rw [hE]; rfl, .inl ⟨by rw [hE]; decide, rfl⟩⟩)
  rw [if_neg h0] at hE
  refine vcIf.no (by first | (simp [smW hA hL, h0]; done) | (simp only [h0]; simp [smW hA hL, h0]; done) | (simp [smW hA hL, h0]; omega) | (simp only [h0]; simp [smW hA hL, h0]; omega)) ?_
  cbv
  refine hcall _ _ _ _ _ (CallEv.pure hal (.cons (.p _) .nil) ?_)
  rintro _ _ ⟨e, he, rfl, rfl⟩
  cbv
  by_cases h1 : e = 0
  rotate_left
  · have h1' : ¬ (e : Int) = 0 := by omega
    refine vcIf.yes (by first | (simp [smW hA hL, h1, h1']; done) | (simp only [h1, h1']; simp [smW hA hL, h1, h1']; done) | (simp [smW hA hL, h1, h1']; omega) | (simp only [h1, h1']; simp [smW hA hL, h1, h1']; omega)) ?_
    cbv
    exact hret _ (RetEv.ret eOk rfl ⟨e, by rw [he, hE], rfl, .inl ⟨h1, rfl⟩⟩)
  subst h1
  have hE0 : 0 = E := by rw [hE]; exact he
  refine vcIf.no (by first | (simp [smW hA hL]; done) | (simp [smW hA hL]; omega)) ?_
  cbv
  refine hcall _ _ _ _ _ (CallEv.lend [0, 1] hat rfl (.cons (.own 0 0 0 rfl) (.cons (.p _) .nil)) (rpL rfl rfl rfl rfl) ?_)
  rintro _ _ ⟨rfl, rfl⟩
  cbv
  refine hcode _ _ _ (CodeEv.loop eOk fOk (ι := Nat × List PV) (fun s => [(0, .own 0 0), (1, .p (.int .i64 v)), (2, .p (.sl cs)), (8, .p (.sl s.2)), (9, .p (.int .i64 (Int.ofNat s.1)))]) (fun _ => [rpS f l n, rpA xs]) (fun s => s.1 ≤ N ∧ s.2 = prP (ones W (ch.take s.1))) (fun s => N - s.1) (0, zs) ?_ ?_)
  · exact ⟨(by repeat (first | exact trivial | refine And.intro rfl ?_)), rfl, Nat.zero_le _, hzs⟩
  rintro ⟨i, us⟩ ⟨hiN, hus⟩ rd hrd
  dsimp only at hiN hus
  by_cases hi : i < N
  · refine Exists.elim (get_of_lt (show i < ch.length by omega)) fun c hc => ?_
    have hzc : cs[i]? = some (.agg [.int .i64 c.kind, .str c.key, .str c.val]) := by rw [hcs]; exact cP_get hc
    have ho := hone i c hc us hus
    refine Exists.elim (show ∃ q, q = prP (one (ones W (ch.take i)) c) from ⟨_, rfl⟩) fun q hq => ?_
    rw [← hq] at ho
    have hnx : q = prP (ones W (ch.take (i + 1))) := by rw [hq, ones_nx W hc]
    have hmu : N - (i + 1) < N - i := by omega
    have hi1 : i + 1 ≤ N := by omega
    clear hone
    intro add1 _ _ _ _ _ _ _ _ _ _ _ _ _ _ _ _ _ _ _ _ _ _ hA1 _ _ _ _ _ _ _ _ _ _ hL1 _ _ _ hcall1 _ _
    have hinc : add1 .i64 (Int.ofNat i) 1 = Int.ofNat (i + 1) := by rw [hA1.add]; exact i64_nat (by simp) (by omega)
    cbv
    refine vcIf.yes (by first | (simp [smW hA1 hL1, hcsl, hi]; done) | (simp only [hcsl, hi]; simp [smW hA1 hL1, hcsl, hi]; done) | (simp [smW hA1 hL1, hcsl, hi]; omega) | (simp only [hcsl, hi]; simp [smW hA1 hL1, hcsl, hi]; omega)) ?_
    cbv
    refine ⟨i, _, rfl, hzc, rfl, ?_⟩
    cbv
    refine hcall1 _ _ _ _ _ (CallEv.same ho rfl ?_)
    rintro _ _ ⟨rfl, rfl⟩
    cbv
    refine hrd _ ⟨(i + 1, q), _, hmu, ⟨hi1, hnx⟩, rfl, ⟨rfl, rfl, rfl, rfl, ?_, trivial⟩, rfl, rfl, rfl, by rw [hB]; exact Nat.le_refl 2⟩
    show some (Go.Lx.V.p (.int .i64 _)) = _
    rw [hinc]
  · obtain rfl : i = N := by omega
    rw [hN, List.take_length] at hus
    intro add1 _ _ _ _ _ _ _ _ _ _ _ _ _ _ _ _ _ _ _ _ _ _ hA1 _ _ _ _ _ _ _ _ _ _ hL1 _ _ _ hcall1 _ _
    cbv
    refine vcIf.no (by first | (simp [smW hA1 hL1, hcsl]; done) | (simp only [hcsl]; simp [smW hA1 hL1, hcsl]; done) | (simp [smW hA1 hL1, hcsl]; omega) | (simp only [hcsl]; simp [smW hA1 hL1, hcsl]; omega)) ?_
    cbv
    refine ⟨false, ?_⟩
    cbv
    refine .inl ⟨(), rfl, hxl.symm, ?_, ?_, ?_, fun ws m hws hm => ?_⟩
    · intro y hy
      simp [Sq.get] at hy
      rw [hy]; exact ⟨rfl, fun u hu => by simp [PV.cells] at hu; rcases hu with rfl | rfl <;> rfl⟩
    · show n + 1 ≤ maxLen
      unfold maxLen; omega
    · show (n + 1) * 32 ≤ _
      exact hn
    replace hws : ws = xs ++ [.agg [.int .i64 v, .sl us]] := hws
    replace hm : m = n + 1 := hm
    cbv
    exact hret _ (RetEv.ret eOk rfl ⟨0, hE0, rfl, .inr ⟨rfl, ws, m, hm, by rw [hws, hxs, rlP_append, hus]; rfl, rfl⟩⟩)
end Go.Proofs.YtegkojnngdlfaaaGreat
end
