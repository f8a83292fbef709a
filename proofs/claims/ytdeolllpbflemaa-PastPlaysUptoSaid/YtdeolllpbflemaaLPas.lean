/- PastStays. Conditions: on sizes. -/
import Derived.Test.YtdeolllpbflemaaLPa9
set_option maxRecDepth 100000
set_option maxHeartbeats 32000000
set_option linter.unusedSimpArgs false
set_option linter.unusedVariables false
namespace Go.Proofs.Ytdeolllpbflemaa
open Go Go.Lx
open Go.Sx (vcIf)

/-- The layers that lists make, at versions. -/
def layN (L : List (List Chg)) (v : Nat → Int) (n : Nat) : List Lay := (List.range n).map fun j => ⟨v j, L.getD j []⟩
theorem layN_length (L : List (List Chg)) (v : Nat → Int) (n : Nat) : (layN L v n).length = n := by unfold layN; simp
theorem layN_succ (L : List (List Chg)) (v : Nat → Int) (n : Nat) : layN L v (n + 1) = layN L v n ++ [⟨v n, L.getD n []⟩] := by unfold layN; rw [List.range_succ, List.map_append]; rfl
theorem layN_get {L : List (List Chg)} {v : Nat → Int} {n j : Nat} {l : Lay} (h : (layN L v n)[j]? = some l) : j < n ∧ l = ⟨v j, L.getD j []⟩ := by
  have hlt := (List.getElem?_eq_some_iff.1 h).1
  rw [layN_length] at hlt
  unfold layN at h
  rw [List.getElem?_map, List.getElem?_range hlt] at h
  cases h; exact ⟨hlt, rfl⟩
theorem layN_mem {L : List (List Chg)} {v : Nat → Int} {n : Nat} {l : Lay} (h : l ∈ layN L v n) : ∃ j, j < n ∧ l = ⟨v j, L.getD j []⟩ := by
  obtain ⟨j, hj⟩ := List.mem_iff_getElem?.1 h
  exact ⟨j, layN_get hj⟩
theorem layN_take (L : List (List Chg)) (v : Nat → Int) {k n : Nat} (h : k ≤ n) : (layN L v n).take k = layN L v k := by
  unfold layN; rw [← List.map_take, List.take_range, Nat.min_eq_left h]
theorem layN_upto (L : List (List Chg)) (v : Nat → Int) {k n : Nat} {w : Int} (h : k ≤ n) (h1 : ∀ i, i < k → v i ≤ w) (h2 : k < n → w < v k) : upto (layN L v n) w = k := by
  refine upto_eq w (by rw [layN_length]; exact h) (fun i l hi hl => ?_) (fun l hl => ?_)
  · obtain ⟨_, rfl⟩ := layN_get hl; exact h1 i hi
  · obtain ⟨h3, rfl⟩ := layN_get hl; exact h2 h3
theorem layN_whole (L : List (List Chg)) (v : Nat → Int) {k n : Nat} {w : Int} (h : k ≤ n) (h1 : ∀ i, i < k → v i ≤ w) (h2 : k < n → w < v k) (ps : List Pr) : whole ps (layN L v n) w = lays ps (layN L v k) := by
  unfold whole; rw [layN_upto L v h h1 h2, layN_take L v h]
def cLP (L : List (List Chg)) : List PV := L.map fun ch => .sl (cP ch)
theorem cLP_length (L : List (List Chg)) : (cLP L).length = L.length := List.length_map _
theorem cLP_get {L : List (List Chg)} {i : Nat} {ch : List Chg} (h : L[i]? = some ch) : (cLP L)[i]? = some (.sl (cP ch)) := by unfold cLP; rw [List.getElem?_map, h]; rfl
theorem lst_len {ps : List Pr} {s : Spn} : (lst ps s 1000).length < 281474976710656 := Nat.lt_of_le_of_lt (List.length_take_le _ _) (by decide)
theorem getD_of {L : List (List Chg)} {i : Nat} {ch : List Chg} (h : L[i]? = some ch) : L.getD i [] = ch := by rw [List.getD_eq_getElem?_getD, h]; rfl

/-- List of a Past of layers that lists have made. -/
theorem listN_spec (L : List (List Chg)) (v : Nat → Int) (n : Nat) (hM : ∀ ch ∈ L, ch.length ≤ 1677721) (hn : n ≤ 40) (hck : ∀ j, j < n → chks (L.getD j []) = 0) (f l w : Int) (lo hi : List UInt8) (ys : List PV) (hys : ys = layP (layN L v n)) :
    FnL Try.prog 14 [psI 0 f l [] ys, .p (.agg [.str lo, .str hi]), .p (.int .i64 w), .p (.int .i64 1000)] [] fun r own => ∃ (e : Nat) (us : List PV) (m : Nat), e = liE f l w 1000 ∧ us = prP (liP f l [] (layN L v n) w ⟨lo, hi⟩ 1000) ∧ m = us.length ∧
      r = .tup [.vw 0 2 0 m none, .p (.int .i64 (Int.ofNat e))] ∧ own = [.arr 45 2 us] := by
  have hgM : ∀ j, (L.getD j []).length ≤ 1677721 := fun j => by
    rw [List.getD_eq_getElem?_getD]
    cases h : L[j]? with
    | none => simp
    | some ch => exact hM ch (List.mem_of_getElem? h)
  refine listW_spec 0 f l w lo hi 1000 [] List.Pairwise.nil (layN L v n) 1677721 (fun l hl => ?_) (fun l hl => ?_) ?_ (by rw [layN_length]; omega) [] rfl ys hys
  · obtain ⟨j, _, rfl⟩ := layN_mem hl; exact hgM j
  · obtain ⟨j, hj, rfl⟩ := layN_mem hl; exact hck j hj
  · rw [layN_length]
    have := Nat.mul_le_mul_right 1677721 hn
    simp only [List.length_nil]
    omega

def vS (j : Nat) : Int := 10 * (j : Int) + 10
theorem stays_k {l w : Nat} (h : w ≤ l) : knw 0 (Int.ofNat l) (Int.ofNat w) = 0 := by
  unfold knw; rw [if_neg (by simp), if_neg (by simp only [Int.ofNat_eq_natCast]; omega)]
theorem stays_k8 {l w : Nat} (h : l < w) : knw 0 (Int.ofNat l) (Int.ofNat w) = 8 := by
  unfold knw; rw [if_neg (by simp), if_pos (by simp only [Int.ofNat_eq_natCast]; omega)]
theorem stays_E {l w : Nat} (h : w ≤ l) : liE 0 (Int.ofNat l) (Int.ofNat w) 1000 = 0 := by
  unfold liE; rw [stays_k h]; rfl
theorem stays_E8 {l w : Nat} (h : l < w) : liE 0 (Int.ofNat l) (Int.ofNat w) 1000 = 8 := by
  unfold liE; rw [stays_k8 h]; rfl
theorem stays_P (L : List (List Chg)) (s : Spn) {l w K n : Nat} (hn : K + 1 ≤ n) (h : w ≤ l) (h1 : 10 * K + 10 ≤ w) (h2 : w < 10 * K + 20) : liP 0 (Int.ofNat l) [] (layN L vS n) (Int.ofNat w) s 1000 = lst (lays [] (layN L vS (K + 1))) s 1000 := by
  unfold liP
  rw [stays_k h, if_pos ⟨rfl, by decide⟩, layN_whole L vS hn (fun j hj => by unfold vS; simp only [Int.ofNat_eq_natCast]; omega) (fun _ => by unfold vS; simp only [Int.ofNat_eq_natCast]; omega)]
theorem pastStays_spec (L : List (List Chg)) (hLn : L.length * 24 ≤ 67108864) (hLm : ∀ ch ∈ L, ch.length * 40 ≤ 67108864) (lo hi : List UInt8) (at' : Nat) (hat : at' < 256) :
    FnL Try.prog 3 [.p (.sl (cLP L)), .p (.agg [.str lo, .str hi]), .p (.int .u8 (Int.ofNat at'))] [] fun r own => r = .p (.bool true) ∧ own = [] := by
  refine FnL.flat (R := fun r own => r = .p (.bool true)) ?_ (by rintro _ _ rfl; exact ⟨_, _, rfl, .refl _, rfl, rfl⟩)
  have hM : ∀ ch ∈ L, ch.length ≤ 1677721 := fun ch h => by have := hLm ch h; omega
  obtain ⟨N, hN⟩ : ∃ N, N = L.length := ⟨_, rfl⟩
  obtain ⟨LL, hLL⟩ : ∃ LL, LL = cLP L := ⟨_, rfl⟩
  have hLl : LL.length = N := by rw [hLL, cLP_length, hN]
  obtain ⟨K, hK⟩ : ∃ K, K = at' % 30 := ⟨_, rfl⟩
  have hK30 : K < 30 := by omega
  rw [← hLL]
  refine fn_of_vc eOk fOk fo3 Try.func3 rfl rfl rfl fun B hB => ?_
  intro add sub mul quo rem band bor bxor bclr shl shr ieq ilt ile seq slt beq bnot orb bcond iwrap iof ssz hA cat sq sl imin imax smin smax len slen u8 hL op hop call hcall code hcode ret hret
  cbv
  refine hcall _ _ _ _ _ (CallEv.same pastNew_spec rfl ?_)
  rintro _ _ ⟨rfl, rfl⟩
  cbv
  refine hcall _ _ _ _ _ (CallEv.pure awakeP_spec .nil ?_)
  rintro _ _ ⟨rfl, rfl⟩
  cbv
  repeat (first | (refine vcIf.yes ?_ ?_; (focus (simp [hA.not, hA.eq, hA.lt, hA.le, hA.cond, hA.beq, hA.orb, hL.len, hL.slen, hL.sq]; done)); cbv) | (refine vcIf.no ?_ ?_; (focus (simp [hA.not, hA.eq, hA.lt, hA.le, hA.cond, hA.beq, hA.orb, hL.len, hL.slen, hL.sq]; done)); cbv) | fail)
  have hrem : iwrap .i64 (rem (Int.ofNat at') (Int.ofNat 30)) = Int.ofNat K := by
    rw [hA.wrap, hA.rem, hK]; exact i64_nat rfl (by omega)
  refine hcode _ _ _ (CodeEv.loop eOk fOk (ι := Nat × PV × List PV × Int) (fun s => [(0, .p (.sl LL)), (4, .own 0 0), (7, .own 1 0), (8, .p (.int .i64 (Int.ofNat K))), (9, .p s.2.1), (10, .p (.int .i64 (Int.ofNat s.1)))])
    (fun s => [.st 24 [.p (.str lo), .p (.str hi)], .st 64 [.p (.int .i64 0), .p (.sl []), .vw 2 2 0 s.1 none, .p (.int .i64 0), .p (.int .i64 s.2.2.2)], psA s.2.2.1])
    (fun s => s.1 ≤ 30 ∧ s.1 ≤ N ∧ s.2.2.1 = layP (layN L vS s.1) ∧ s.2.2.2 = Int.ofNat (10 * s.1) ∧ (∀ j, j < s.1 → chks (L.getD j []) = 0) ∧ (s.1 ≤ K → s.2.1 = .nils) ∧ (K < s.1 → ∃ zs, s.2.1 = .sl zs ∧ zs = prP (lst (lays [] (layN L vS (K + 1))) ⟨lo, hi⟩ 1000)))
    (fun s => N - s.1) (0, .nils, [], 0) ?_ ?_)
  · refine ⟨⟨rfl, rfl, rfl, ?_, rfl, rfl, trivial⟩, rfl, Nat.zero_le _, Nat.zero_le _, rfl, rfl, fun j h => absurd h (Nat.not_lt_zero _), fun _ => rfl, fun h => absurd h (Nat.not_lt_zero _)⟩
    show some (Go.Lx.V.p (.int .i64 _)) = _
    rw [hrem]
  rintro ⟨i, seen, ws, l0⟩ ⟨hi30, hiN, hws, hl0, hck, hs1, hs2⟩ rd hrd
  dsimp only at hi30 hiN hws hl0 hck hs1 hs2
  by_cases hiN' : i < N
  · by_cases hi3 : i < 30
    · obtain ⟨ch, hch⟩ : ∃ ch, L[i]? = some ch := ⟨L[i]'(by omega), List.getElem?_eq_getElem (by omega)⟩
      have hg := cLP_get hch
      rw [← hLL] at hg
      have hcL := hLm ch (List.mem_of_getElem? hch)
      obtain ⟨cc, hcc⟩ : ∃ cc, cc = cP ch := ⟨_, rfl⟩
      rw [← hcc] at hg
      have hall := rall_spec ch (by omega) cc hcc
      have hAd := fun V => add_spec 0 0 l0 V ch (by omega) [] ws i (by rw [hws, layP_length, layN_length]) (by omega) cc hcc
      have hLi := fun (f l w : Int) (n : Nat) (hn : n ≤ 40) (hc : ∀ j, j < n → chks (L.getD j []) = 0) (ys : List PV) (hy : ys = layP (layN L vS n)) => listN_spec L vS n hM hn hc f l w lo hi ys hy
      have hgD := getD_of hch
      intro add1 sub1 mul1 quo1 rem1 band1 bor1 bxor1 bclr1 shl1 shr1 ieq1 ilt1 ile1 seq1 slt1 beq1 bnot1 orb1 bcond1 iwrap1 iof1 ssz1 hA1 cat1 sq1 sl1 imin1 imax1 smin1 smax1 len1 slen1 u81 hL1 op1 hop1 call1 hcall1 code1 hcode1
      have hmul : mul1 .i64 10 (Int.ofNat i) = Int.ofNat (10 * i) := by
        rw [hA1.mul]; exact i64_nat (by simp) (by omega)
      have hadd : add1 .i64 (mul1 .i64 10 (Int.ofNat i)) 10 = Int.ofNat (10 * i + 10) := by
        rw [hmul, hA1.add]; exact i64_nat (by simp) (by omega)
      have hmK : add1 .i64 (mul1 .i64 10 (Int.ofNat K)) 15 = Int.ofNat (10 * K + 15) := by
        rw [hA1.mul, i64_nat (n := 10 * K) (by simp) (by omega), hA1.add]; exact i64_nat (by simp) (by omega)
      have hinc : add1 .i64 (Int.ofNat i) 1 = Int.ofNat (i + 1) := by
        rw [hA1.add]; exact i64_nat (by simp) (by omega)

      replace hAd := hAd (add1 .i64 (mul1 .i64 10 (Int.ofNat i)) 10)
      rw [show adE l0 (add1 .i64 (mul1 .i64 10 (Int.ofNat i)) 10) ch = chks ch by rw [hadd, hl0]; unfold adE; rw [if_neg (by simp only [Int.ofNat_eq_natCast]; omega)]] at hAd
      cbv
      repeat (first | (refine vcIf.yes ?_ ?_; (focus (simp [hA1.not, hA1.eq, hA1.lt, hA1.le, hA1.cond, hA1.beq, hA1.orb, hL1.len, hL1.slen, hL1.sq, hLl, hiN', hi3]; done)); cbv) | (refine vcIf.no ?_ ?_; (focus (simp [hA1.not, hA1.eq, hA1.lt, hA1.le, hA1.cond, hA1.beq, hA1.orb, hL1.len, hL1.slen, hL1.sq, hLl, hiN', hi3]; done)); cbv) | fail)
      refine vcIf.yes (by first | (simp [hA1.not, hA1.eq, hA1.lt, hA1.le, hA1.cond, hA1.beq, hA1.orb, hL1.len, hL1.slen, hL1.sq, hi3]; done) | (simp only [hi3]; simp [hA1.not, hA1.eq, hA1.lt, hA1.le, hA1.cond, hA1.beq, hA1.orb, hL1.len, hL1.slen, hL1.sq, hi3]; done) | (simp [hA1.not, hA1.eq, hA1.lt, hA1.le, hA1.cond, hA1.beq, hA1.orb, hL1.len, hL1.slen, hL1.sq, hi3]; omega) | (simp only [hi3]; simp [hA1.not, hA1.eq, hA1.lt, hA1.le, hA1.cond, hA1.beq, hA1.orb, hL1.len, hL1.slen, hL1.sq, hi3]; omega)) ?_
      cbv
      repeat (first | (refine vcIf.yes ?_ ?_; (focus (simp [hA1.not, hA1.eq, hA1.lt, hA1.le, hA1.cond, hA1.beq, hA1.orb, hL1.len, hL1.slen, hL1.sq]; done)); cbv) | (refine vcIf.no ?_ ?_; (focus (simp [hA1.not, hA1.eq, hA1.lt, hA1.le, hA1.cond, hA1.beq, hA1.orb, hL1.len, hL1.slen, hL1.sq]; done)); cbv) | fail)
      refine ⟨i, .sl cc, rfl, hg, rfl, ?_⟩
      cbv
      refine hcall1 _ _ _ _ _ (CallEv.lend [1, 2] hAd rfl (.cons (.own 0 1 0 rfl) (.cons (.p _) (.cons (.p _) .nil))) (psL rfl rfl rfl rfl) ?_)
      rintro _ _ ⟨e, he, rfl, hcase⟩
      by_cases hc : chks ch = 0
      · rcases hcase with ⟨hne, _⟩ | ⟨_, xs, m, hm, hxs, rfl⟩
        · exact absurd (he.trans hc) hne
        obtain rfl : e = 0 := he.trans hc
        obtain rfl : m = i + 1 := hm
        rw [hc] at hall
        have hxl : xs = layP (layN L vS (i + 1)) := by
          rw [hxs, hws, layN_succ, hcc, hadd, hgD]; unfold layP; rw [List.map_append]; rfl
        have hck' : ∀ j, j < i + 1 → chks (L.getD j []) = 0 := fun j hj => by
          rcases Nat.lt_succ_iff_lt_or_eq.1 hj with h | rfl
          · exact hck j h
          · rw [hgD]; exact hc
        have hxd : xs = (xs.drop 0).take (i + 1) := by rw [List.drop_zero, List.take_of_length_le]; rw [hxl, layP_length, layN_length]; exact Nat.le_refl _
        obtain ⟨V, hV⟩ : ∃ V, V = add1 .i64 (mul1 .i64 10 (Int.ofNat i)) 10 := ⟨_, rfl⟩
        obtain ⟨W, hW⟩ : ∃ W, W = add1 .i64 (mul1 .i64 10 (Int.ofNat K)) 15 := ⟨_, rfl⟩
        have hVn := hV.trans hadd
        have hWn := hW.trans hmK
        have hLx := fun (w : Int) => hLi 0 V w (i + 1) (by omega) hck' xs hxl
        obtain ⟨Z, hZ⟩ : ∃ Z, Z = lst (lays [] (layN L vS (K + 1))) ⟨lo, hi⟩ 1000 := ⟨_, rfl⟩
        have hZn : Z.length < 281474976710656 := by rw [hZ]; exact lst_len
        have hL9 := fun (w : Nat) (hw : w ≤ 10 * i + 10) (h1 : 10 * K + 10 ≤ w) (h2 : w < 10 * K + 20) (hKi : K ≤ i) (w' : Int) (hw' : w' = Int.ofNat w) => (hLx w').mono (R' := fun r own => ∃ (us : List PV) (m : Nat), us = prP Z ∧ m = us.length ∧ r = .tup [.vw 0 2 0 m none, .p (.int .i64 0)] ∧ own = [.arr 45 2 us]) fun r own ⟨e, us, m, a1, a2, a3, a4, a5⟩ => by
          rw [hVn, hw', stays_E hw] at a1
          rw [hVn, hw', stays_P L ⟨lo, hi⟩ (by omega) hw h1 h2, ← hZ] at a2
          subst a1
          exact ⟨us, m, a2, a3, a4, a5⟩
        have hL8 := fun (hKi : i = K) => (hLx W).mono (R' := fun r own => ∃ (us : List PV) (m : Nat) (X : List Pr), us = prP X ∧ r = .tup [.vw 0 2 0 m none, .p (.int .i64 8)] ∧ own = [.arr 45 2 us]) fun r own ⟨e, us, m, a1, a2, a3, a4, a5⟩ => by
          rw [hVn, hWn, stays_E8 (by omega)] at a1
          subst a1
          exact ⟨us, m, _, a2, a4, a5⟩
        rw [hV] at hL9 hL8
        rw [hW] at hL8
        clear hLx hLi hAd
        rw [← hZ] at hs2
        have hend : ∀ (sn : PV), (i + 1 ≤ K → sn = .nils) → (K < i + 1 → ∃ zs, sn = .sl zs ∧ zs = prP Z) → (30 ≥ i + 1 ∧ i + 1 ≤ N ∧ xs = layP (layN L vS (i + 1)) ∧ V = Int.ofNat (10 * (i + 1)) ∧ (∀ j, j < i + 1 → chks (L.getD j []) = 0) ∧ (i + 1 ≤ K → sn = .nils) ∧ (K < i + 1 → ∃ zs, sn = .sl zs ∧ zs = prP (lst (lays [] (layN L vS (K + 1))) ⟨lo, hi⟩ 1000))) := fun sn h1 h2 => ⟨by omega, by omega, hxl, hVn, hck', h1, by rw [← hZ]; exact h2⟩
        rw [hV] at hend
        have hmu : N - (i + 1) < N - i := by omega
        rcases Nat.lt_trichotomy i K with hlt | heq | hgt
        · have hne : ¬ (i : Int) = (K : Int) := by omega
          obtain rfl := hs1 (by omega)
          cbv
          repeat (first | (refine vcIf.yes ?_ ?_; (focus (simp [hA1.not, hA1.eq, hA1.lt, hA1.le, hA1.cond, hA1.beq, hA1.orb, hL1.len, hL1.slen, hL1.sq]; done)); cbv) | (refine vcIf.no ?_ ?_; (focus (simp [hA1.not, hA1.eq, hA1.lt, hA1.le, hA1.cond, hA1.beq, hA1.orb, hL1.len, hL1.slen, hL1.sq]; done)); cbv) | fail)
          refine ⟨i, .sl cc, rfl, hg, rfl, ?_⟩
          cbv
          refine hcall1 _ _ _ _ _ (CallEv.same hall rfl ?_)
          rintro _ _ ⟨_, rfl, rfl, rfl⟩
          cbv
          repeat (first | (refine vcIf.yes ?_ ?_; (focus (simp [hA1.not, hA1.eq, hA1.lt, hA1.le, hA1.cond, hA1.beq, hA1.orb, hL1.len, hL1.slen, hL1.sq, hne, hlt]; done)); cbv) | (refine vcIf.no ?_ ?_; (focus (simp [hA1.not, hA1.eq, hA1.lt, hA1.le, hA1.cond, hA1.beq, hA1.orb, hL1.len, hL1.slen, hL1.sq, hne, hlt]; done)); cbv) | fail)
          refine hrd _ ⟨(i + 1, .nils, xs, _), _, hmu, hend .nils (fun _ => rfl) (fun h => absurd h (by omega)), rfl, ⟨rfl, rfl, rfl, rfl, rfl, ?_, trivial⟩, rfl, rfl, rfl, ?_⟩
          · show some (Go.Lx.V.p (.int .i64 _)) = _
            rw [hinc]
          · rw [hB]; exact Nat.zero_le _
        · have hie : (i : Int) = (K : Int) := by omega
          have hnl : ¬ (i : Int) < (K : Int) := by omega
          have hLk := hL9 (10 * i + 10) (by omega) (by omega) (by omega) (by omega) _ hadd
          replace hL8 := hL8 heq
          cbv
          repeat (first | (refine vcIf.yes ?_ ?_; (focus (simp [hA1.not, hA1.eq, hA1.lt, hA1.le, hA1.cond, hA1.beq, hA1.orb, hL1.len, hL1.slen, hL1.sq]; done)); cbv) | (refine vcIf.no ?_ ?_; (focus (simp [hA1.not, hA1.eq, hA1.lt, hA1.le, hA1.cond, hA1.beq, hA1.orb, hL1.len, hL1.slen, hL1.sq]; done)); cbv) | fail)
          refine ⟨i, .sl cc, rfl, hg, rfl, ?_⟩
          cbv
          refine hcall1 _ _ _ _ _ (CallEv.same hall rfl ?_)
          rintro _ _ ⟨_, rfl, rfl, rfl⟩
          cbv
          repeat (first | (refine vcIf.yes ?_ ?_; (focus (simp [hA1.not, hA1.eq, hA1.lt, hA1.le, hA1.cond, hA1.beq, hA1.orb, hL1.len, hL1.slen, hL1.sq, hie, hnl]; done)); cbv) | (refine vcIf.no ?_ ?_; (focus (simp [hA1.not, hA1.eq, hA1.lt, hA1.le, hA1.cond, hA1.beq, hA1.orb, hL1.len, hL1.slen, hL1.sq, hie, hnl]; done)); cbv) | fail)
          refine hcall1 _ _ _ _ _ (CallEv.frzR (CallEv.shown [] [1, 2] hLk rfl (.cons (psT (by decide) (by decide) rfl rfl _ hxd) (.cons (.p _) (.cons (.p _) (.cons (.p _) .nil)))) trivial ?_))
          rintro _ _ ⟨u1, k1, hu1, hk1, rfl, rfl⟩
          refine ⟨flat_l1 (e := 0), flat_l2 hu1, 3, _, _, _, rfl, (by rw [hB]; exact Nat.zero_le _), fun g1 hg1 => ?_⟩
          have hz1 : g1 0 k1 = prP Z := by rw [hg1, List.drop_zero, hk1, List.take_length, hu1]
          cbv
          repeat (first | (refine vcIf.yes ?_ ?_; (focus (simp [hA1.not, hA1.eq, hA1.lt, hA1.le, hA1.cond, hA1.beq, hA1.orb, hL1.len, hL1.slen, hL1.sq, hie, hnl]; done)); cbv) | (refine vcIf.no ?_ ?_; (focus (simp [hA1.not, hA1.eq, hA1.lt, hA1.le, hA1.cond, hA1.beq, hA1.orb, hL1.len, hL1.slen, hL1.sq, hie, hnl]; done)); cbv) | fail)
          refine hcall1 _ _ _ _ _ (CallEv.frzR (CallEv.shown [] [1, 2] hL8 rfl (.cons (psT (by decide) (by decide) rfl rfl _ hxd) (.cons (.p _) (.cons (.p _) (.cons (.p _) .nil)))) trivial ?_))
          rintro _ _ ⟨u2, k2, X2, hu2, rfl, rfl⟩
          refine ⟨flat_l1 (e := 8), flat_l2 hu2, 4, _, _, _, rfl, (by rw [hB]; exact Nat.zero_le _), fun g2 hg2 => ?_⟩
          cbv
          repeat (first | (refine vcIf.yes ?_ ?_; (focus (simp [hA1.not, hA1.eq, hA1.lt, hA1.le, hA1.cond, hA1.beq, hA1.orb, hL1.len, hL1.slen, hL1.sq, hie, hnl]; done)); cbv) | (refine vcIf.no ?_ ?_; (focus (simp [hA1.not, hA1.eq, hA1.lt, hA1.le, hA1.cond, hA1.beq, hA1.orb, hL1.len, hL1.slen, hL1.sq, hie, hnl]; done)); cbv) | fail)
          refine hrd _ ⟨(i + 1, .sl (g1 0 k1), xs, _), _, hmu, hend _ (fun h => absurd h (by omega)) (fun _ => ⟨_, rfl, hz1⟩), rfl, ⟨rfl, rfl, rfl, rfl, rfl, ?_, trivial⟩, rfl, rfl, rfl, ?_⟩
          · show some (Go.Lx.V.p (.int .i64 _)) = _
            rw [hinc]
          · rw [hB]; exact Nat.zero_le _
        · have hne : ¬ (i : Int) = (K : Int) := by omega
          have hnl : ¬ (i : Int) < (K : Int) := by omega
          obtain ⟨zs, rfl, hzs⟩ := hs2 hgt
          have hLk := hL9 (10 * K + 15) (by omega) (by omega) (by omega) (by omega) _ hmK
          cbv
          repeat (first | (refine vcIf.yes ?_ ?_; (focus (simp [hA1.not, hA1.eq, hA1.lt, hA1.le, hA1.cond, hA1.beq, hA1.orb, hL1.len, hL1.slen, hL1.sq]; done)); cbv) | (refine vcIf.no ?_ ?_; (focus (simp [hA1.not, hA1.eq, hA1.lt, hA1.le, hA1.cond, hA1.beq, hA1.orb, hL1.len, hL1.slen, hL1.sq]; done)); cbv) | fail)
          refine ⟨i, .sl cc, rfl, hg, rfl, ?_⟩
          cbv
          refine hcall1 _ _ _ _ _ (CallEv.same hall rfl ?_)
          rintro _ _ ⟨_, rfl, rfl, rfl⟩
          cbv
          repeat (first | (refine vcIf.yes ?_ ?_; (focus (simp [hA1.not, hA1.eq, hA1.lt, hA1.le, hA1.cond, hA1.beq, hA1.orb, hL1.len, hL1.slen, hL1.sq, hne, hnl]; done)); cbv) | (refine vcIf.no ?_ ?_; (focus (simp [hA1.not, hA1.eq, hA1.lt, hA1.le, hA1.cond, hA1.beq, hA1.orb, hL1.len, hL1.slen, hL1.sq, hne, hnl]; done)); cbv) | fail)
          refine hcall1 _ _ _ _ _ (CallEv.frzR (CallEv.shown [] [1, 2] hLk rfl (.cons (psT (by decide) (by decide) rfl rfl _ hxd) (.cons (.p _) (.cons (.p _) (.cons (.p _) .nil)))) trivial ?_))
          rintro _ _ ⟨u1, k1, hu1, hk1, rfl, rfl⟩
          refine ⟨flat_l1 (e := 0), flat_l2 hu1, 3, _, _, _, rfl, (by rw [hB]; exact Nat.zero_le _), fun g1 hg1 => ?_⟩
          have hz1 : g1 0 k1 = prP Z := by rw [hg1, List.drop_zero, hk1, List.take_length, hu1]
          have hpr := rPairs_spec Z Z hZn hZn true ⟨fun _ => rfl, fun _ => rfl⟩ (g1 0 k1) zs hz1 hzs
          cbv
          repeat (first | (refine vcIf.yes ?_ ?_; (focus (simp [hA1.not, hA1.eq, hA1.lt, hA1.le, hA1.cond, hA1.beq, hA1.orb, hL1.len, hL1.slen, hL1.sq, hne, hnl]; done)); cbv) | (refine vcIf.no ?_ ?_; (focus (simp [hA1.not, hA1.eq, hA1.lt, hA1.le, hA1.cond, hA1.beq, hA1.orb, hL1.len, hL1.slen, hL1.sq, hne, hnl]; done)); cbv) | fail)
          refine hcall1 _ _ _ _ _ (CallEv.same hpr rfl ?_)
          rintro _ _ ⟨rfl, rfl⟩
          cbv
          repeat (first | (refine vcIf.yes ?_ ?_; (focus (simp [hA1.not, hA1.eq, hA1.lt, hA1.le, hA1.cond, hA1.beq, hA1.orb, hL1.len, hL1.slen, hL1.sq]; done)); cbv) | (refine vcIf.no ?_ ?_; (focus (simp [hA1.not, hA1.eq, hA1.lt, hA1.le, hA1.cond, hA1.beq, hA1.orb, hL1.len, hL1.slen, hL1.sq]; done)); cbv) | fail)
          refine hrd _ ⟨(i + 1, .sl zs, xs, _), _, hmu, hend _ (fun h => absurd h (by omega)) (fun _ => ⟨_, rfl, hzs⟩), rfl, ⟨rfl, rfl, rfl, rfl, rfl, ?_, trivial⟩, rfl, rfl, rfl, ?_⟩
          · show some (Go.Lx.V.p (.int .i64 _)) = _
            rw [hinc]
          · rw [hB]; exact Nat.zero_le _
      · rcases hcase with ⟨_, rfl⟩ | ⟨h0, _⟩
        · have hne : ¬ (e : Int) = 0 := by omega
          cbv
          repeat (first | (refine vcIf.yes ?_ ?_; (focus (simp [hA1.not, hA1.eq, hA1.lt, hA1.le, hA1.cond, hA1.beq, hA1.orb, hL1.len, hL1.slen, hL1.sq]; done)); cbv) | (refine vcIf.no ?_ ?_; (focus (simp [hA1.not, hA1.eq, hA1.lt, hA1.le, hA1.cond, hA1.beq, hA1.orb, hL1.len, hL1.slen, hL1.sq]; done)); cbv) | fail)
          refine ⟨i, .sl cc, rfl, hg, rfl, ?_⟩
          cbv
          refine hcall1 _ _ _ _ _ (CallEv.same hall rfl ?_)
          rintro _ _ ⟨e2, he2, rfl, rfl⟩
          have hne2 : ¬ (e2 : Int) = 0 := by omega
          cbv
          refine vcIf.yes (by first | (simp [hA1.not, hA1.eq, hA1.lt, hA1.le, hA1.cond, hA1.beq, hA1.orb, hL1.len, hL1.slen, hL1.sq, hne, hne2]; done) | (simp only [hne, hne2]; simp [hA1.not, hA1.eq, hA1.lt, hA1.le, hA1.cond, hA1.beq, hA1.orb, hL1.len, hL1.slen, hL1.sq, hne, hne2]; done) | (simp [hA1.not, hA1.eq, hA1.lt, hA1.le, hA1.cond, hA1.beq, hA1.orb, hL1.len, hL1.slen, hL1.sq, hne, hne2]; omega) | (simp only [hne, hne2]; simp [hA1.not, hA1.eq, hA1.lt, hA1.le, hA1.cond, hA1.beq, hA1.orb, hL1.len, hL1.slen, hL1.sq, hne, hne2]; omega)) ?_
          cbv
          exact hret _ (RetEv.ret eOk rfl (by simp [hA1.not, hA1.eq, hA1.cond, oneOf]; exact fun h => hne (by rw [h]; rfl)))
        · exact absurd (he.symm.trans h0) hc
    · intro add1 sub1 mul1 quo1 rem1 band1 bor1 bxor1 bclr1 shl1 shr1 ieq1 ilt1 ile1 seq1 slt1 beq1 bnot1 orb1 bcond1 iwrap1 iof1 ssz1 hA1 cat1 sq1 sl1 imin1 imax1 smin1 smax1 len1 slen1 u81 hL1 op1 hop1 call1 hcall1 code1 hcode1
      cbv
      repeat (first | (refine vcIf.yes ?_ ?_; (focus (simp [hA1.not, hA1.eq, hA1.lt, hA1.le, hA1.cond, hA1.beq, hA1.orb, hL1.len, hL1.slen, hL1.sq, hLl, hiN', hi3]; done)); cbv) | (refine vcIf.no ?_ ?_; (focus (simp [hA1.not, hA1.eq, hA1.lt, hA1.le, hA1.cond, hA1.beq, hA1.orb, hL1.len, hL1.slen, hL1.sq, hLl, hiN', hi3]; done)); cbv) | fail)
      refine vcIf.no (by first | (simp [hA1.not, hA1.eq, hA1.lt, hA1.le, hA1.cond, hA1.beq, hA1.orb, hL1.len, hL1.slen, hL1.sq, hi3]; done) | (simp only [hi3]; simp [hA1.not, hA1.eq, hA1.lt, hA1.le, hA1.cond, hA1.beq, hA1.orb, hL1.len, hL1.slen, hL1.sq, hi3]; done) | (simp [hA1.not, hA1.eq, hA1.lt, hA1.le, hA1.cond, hA1.beq, hA1.orb, hL1.len, hL1.slen, hL1.sq, hi3]; omega) | (simp only [hi3]; simp [hA1.not, hA1.eq, hA1.lt, hA1.le, hA1.cond, hA1.beq, hA1.orb, hL1.len, hL1.slen, hL1.sq, hi3]; omega)) ?_
      cbv
      repeat (first | (refine vcIf.yes ?_ ?_; (focus (simp [hA.not, hA.eq, hA.lt, hA.le, hA.cond, hA.beq, hA.orb, hL.len, hL.slen, hL.sq]; done)); cbv) | (refine vcIf.no ?_ ?_; (focus (simp [hA.not, hA.eq, hA.lt, hA.le, hA.cond, hA.beq, hA.orb, hL.len, hL.slen, hL.sq]; done)); cbv) | fail)
      exact hret _ (RetEv.ret eOk rfl (by simp [hA.not, hA.eq, hA.lt, hA.le, hA.cond, hA.beq, hA.orb, hL.len, hL.slen, hL.sq, oneOf]))
  · intro add1 sub1 mul1 quo1 rem1 band1 bor1 bxor1 bclr1 shl1 shr1 ieq1 ilt1 ile1 seq1 slt1 beq1 bnot1 orb1 bcond1 iwrap1 iof1 ssz1 hA1 cat1 sq1 sl1 imin1 imax1 smin1 smax1 len1 slen1 u81 hL1 op1 hop1 call1 hcall1 code1 hcode1
    cbv
    repeat (first | (refine vcIf.yes ?_ ?_; (focus (simp [hA1.not, hA1.eq, hA1.lt, hA1.le, hA1.cond, hA1.beq, hA1.orb, hL1.len, hL1.slen, hL1.sq, hLl, hiN']; done)); cbv) | (refine vcIf.no ?_ ?_; (focus (simp [hA1.not, hA1.eq, hA1.lt, hA1.le, hA1.cond, hA1.beq, hA1.orb, hL1.len, hL1.slen, hL1.sq, hLl, hiN']; done)); cbv) | fail)
    exact hret _ (RetEv.ret eOk rfl (by simp [hA.not, hA.eq, hA.lt, hA.le, hA.cond, hA.beq, hA.orb, hL.len, hL.slen, hL.sq, oneOf]))
end Go.Proofs.Ytdeolllpbflemaa
