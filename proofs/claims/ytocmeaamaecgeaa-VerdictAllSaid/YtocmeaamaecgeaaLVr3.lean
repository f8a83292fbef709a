/- What verdict.Both answers: the columns' greatest, or an error. Conditions: on sizes. -/
import Derived.Test.YtocmeaamaecgeaaLVr2
import Derived.Test.YtocmeaamaecgeaaLVd1
set_option maxRecDepth 100000
set_option maxHeartbeats 40000000
set_option linter.unusedSimpArgs false
set_option linter.unusedVariables false
namespace Go.Proofs.Ytocmeaamaecgeaa
open Go Go.Lx
open Go.Sx (vcIf)

def llP (ls : List (List Int)) : List PV := ls.map fun l => .sl (iP l)
theorem llP_length (ls : List (List Int)) : (llP ls).length = ls.length := by simp [llP]
theorem llP_get {ls : List (List Int)} {i : Nat} {l : List Int} (h : ls[i]? = some l) : (llP ls)[i]? = some (.sl (iP l)) := by simp [llP, h]
theorem llP_inv {ls : List (List Int)} {i : Nat} {z : PV} (h : (llP ls)[i]? = some z) : ∃ l, ls[i]? = some l ∧ z = .sl (iP l) := by
  simp only [llP, List.getElem?_map, Option.map_eq_some_iff] at h
  obtain ⟨l, h1, h2⟩ := h
  exact ⟨l, h1, h2.symm⟩
def okV (z : Int) : Bool := decide (1 ≤ z ∧ z ≤ 3)
def colM (ls : List (List Int)) (k : Nat) : Int := ls.foldl (fun v l => max v (l.getD k 0)) 1
def wid (ls : List (List Int)) : Nat := (ls.headD []).length
def bothE (ls : List (List Int)) : Int := if ls = [] ∨ (∃ l ∈ ls, l.length ≠ wid ls) then 1 else if ∀ l ∈ ls, ∀ z ∈ l, okV z = true then 0 else 2
def bothL (ls : List (List Int)) : List Int := (List.range (wid ls)).map (colM ls)
def bothR (ls : List (List Int)) : List Int := if bothE ls = 0 then bothL ls else []
/-- What is reckoned after i lists, and j numbers of the next. -/
def midL (ls : List (List Int)) (n i j : Nat) : List Int := (List.range n).map fun k => if k < j then colM (ls.take (i + 1)) k else colM (ls.take i) k
theorem midL_length (ls : List (List Int)) (n i j : Nat) : (midL ls n i j).length = n := by simp [midL]
theorem midL_get (ls : List (List Int)) {n i j k : Nat} (h : k < n) : (midL ls n i j)[k]? = some (if k < j then colM (ls.take (i + 1)) k else colM (ls.take i) k) := by simp [midL, h]
theorem midL_next (ls : List (List Int)) (n i : Nat) : midL ls n i n = midL ls n (i + 1) 0 := by
  unfold midL
  apply List.map_congr_left
  intro k hk
  have := List.mem_range.1 hk
  simp [this]
theorem midL_first (ls : List (List Int)) (n : Nat) : midL ls n 0 0 = List.replicate n 1 := by
  unfold midL
  simp [colM]
  induction n with
  | zero => rfl
  | succ n ih => rw [List.range_succ, List.map_append, ih, List.replicate_succ']; rfl
theorem midL_step (ls : List (List Int)) {n i j : Nat} {l : List Int} {v : Int} (hl : ls[i]? = some l) (hv : l[j]? = some v) (hj : j < n) : midL ls n i (j + 1) = (midL ls n i j).set j (max (colM (ls.take i) j) v) := by
  apply List.ext_getElem?
  intro k
  rw [List.getElem?_set]
  by_cases hk : k < n
  · rw [midL_get ls hk, midL_get ls hk]
    by_cases e : j = k
    · subst e
      rw [if_pos (Nat.lt_succ_self _), if_pos rfl, if_pos (by rw [midL_length]; exact hk)]
      rw [List.take_add_one, hl, colM, List.foldl_append]
      simp [colM, List.getD_eq_getElem?_getD, hv]
    · rw [if_neg e]
      have : (k < j + 1) = (k < j) := by apply propext; omega
      simp only [this]
  · rw [List.getElem?_eq_none (by rw [midL_length]; omega), List.getElem?_eq_none (by rw [midL_length]; omega)]
    split
    · subst_vars; split
      · rename_i h; rw [midL_length] at h; omega
      · rfl
    · rfl

theorem vIs_spec (z : Int) : FnL Try.prog 23 [.p (.int .i64 z)] [] fun v own => v = .p (.bool (okV z)) ∧ own = [] := by
  refine FnL.flat (R := fun v own => v = .p (.bool (okV z))) ?_ (by rintro _ _ rfl; exact ⟨_, _, rfl, .refl _, rfl, rfl⟩)
  refine fn_of_vc eOk fOk fo23 Try.func23 rfl rfl rfl fun B hB => ?_
  intro add sub mul quo rem band bor bxor bclr shl shr ieq ilt ile seq slt beq bnot orb bcond iwrap iof ssz hA cat sq sl imin imax smin smax len slen u8 hL op hop call hcall code hcode ret hret
  cbv
  by_cases h1 : 1 ≤ z
  · have e1 : ile 1 z = true := by rw [hA.le]; exact decide_eq_true h1
    rw [e1]
    cbv
    refine hret _ (RetEv.ret eOk rfl ?_)
    show V.p (.bool (bcond true (ile z 3) false)) = _
    rw [hA.cond, hA.le]
    by_cases h2 : z ≤ 3 <;> simp [okV, h1, h2, cond]
  · have e1 : ile 1 z = false := by rw [hA.le]; exact decide_eq_false h1
    rw [e1]
    cbv
    refine hret _ (RetEv.ret eOk rfl ?_)
    show V.p (.bool false) = _
    simp [okV, h1]

theorem vLen_spec (ls : List (List Int)) (l0 : List Int) (h0 : ls[0]? = some l0) (hn : ∀ l ∈ ls, l.length * 8 ≤ 281474976710656) (zs : List PV) (hzs : zs = llP ls) (i : Nat) (z : PV) (hz : zs[i]? = some z) :
    FnL Try.prog 21 [.p z, .own 0 0] [.st 22 [.p (.sl zs)]] fun v own => ∃ b, b = decide ((ls.getD i []).length ≠ l0.length) ∧ v = .p (.bool b) ∧ own = [.st 22 [.p (.sl zs)]] := by
  rw [hzs] at hz
  obtain ⟨l, hl, rfl⟩ := llP_inv hz
  have hzz : zs[0]? = some (.sl (iP l0)) := by rw [hzs]; exact llP_get h0
  have hgd : ls.getD i [] = l := by rw [List.getD_eq_getElem?_getD, hl]; rfl
  rw [hgd]
  obtain ⟨ys, hys⟩ : ∃ ys, ys = iP l := ⟨_, rfl⟩
  obtain ⟨y0, hy0⟩ : ∃ ys, ys = iP l0 := ⟨_, rfl⟩
  rw [← hys]
  rw [← hy0] at hzz
  have b1 := hn l (List.mem_of_getElem? hl)
  have b2 := hn l0 (List.mem_of_getElem? h0)
  refine fn_of_vc eOk fOk fo21 Try.func21 rfl rfl rfl fun B hB => ?_
  intro add sub mul quo rem band bor bxor bclr shl shr ieq ilt ile seq slt beq bnot orb bcond iwrap iof ssz hA cat sq sl imin imax smin smax len slen u8 hL op hop call hcall code hcode ret hret
  have e1 : len ys = Int.ofNat l.length := by rw [hL.len, hys, iP_length]; rfl
  have e2 : len y0 = Int.ofNat l0.length := by rw [hL.len, hy0, iP_length]; rfl
  clear hzs hz hys hy0
  cbv
  refine ⟨0, _, rfl, hzz, rfl, ?_⟩
  cbv
  rw [e1, e2]
  refine hret _ (RetEv.ret eOk rfl ⟨_, ?_, rfl, rfl⟩)
  show bnot (ieq (Int.ofNat l.length) (Int.ofNat l0.length)) = _
  rw [hA.not, hA.eq]
  simp only [Int.ofNat_eq_natCast]
  by_cases h : l.length = l0.length
  · simp [h]
  · have : ¬ ((l.length : Int) = (l0.length : Int)) := by omega
    simp [h, this]

theorem vBoth_spec (ls : List (List Int)) (hk : ls.length < 281474976710656) (hn : ∀ l ∈ ls, l.length * 8 ≤ 281474976710656) (zs : List PV) (hzs : zs = llP ls) :
    FnL Try.prog 9 [.p (.sl zs)] [] fun v own => v = .p (.tup [.sl (iP (bothR ls)), .int .i64 (bothE ls)]) ∧ own = [] := by
  obtain ⟨R1, hR1⟩ : ∃ x, x = PV.sl (iP (bothR ls)) := ⟨_, rfl⟩
  obtain ⟨R2, hR2⟩ : ∃ x, x = bothE ls := ⟨_, rfl⟩
  rw [← hR1, ← hR2]
  refine FnL.flat (R := fun v own => ∃ x, v = .p (.tup [x, .int .i64 R2]) ∧ PW x R1) ?_ (by
    rintro _ _ ⟨x, rfl, h⟩; exact ⟨_, .tup [R1, .int .i64 R2], rfl, .tup ⟨h, .refl _, trivial⟩, rfl, rfl⟩)
  obtain ⟨N, hN⟩ : ∃ n, n = ls.length := ⟨_, rfl⟩
  have hzl : zs.length = N := by rw [hzs, llP_length, hN]
  have herr : R2 ≠ 0 → R1 = .sl [] := fun h => by rw [hR1, bothR, if_neg (by rw [← hR2]; exact h)]; rfl
  by_cases h0 : N = 0
  · have hl0 : ls = [] := List.length_eq_zero_iff.1 (by omega)
    have hE : R2 = 1 := by rw [hR2, bothE, if_pos (.inl hl0)]
    rw [hE, herr (by rw [hE]; decide)]
    refine fn_of_vc eOk fOk fo9 Try.func9 rfl rfl rfl fun B hB => ?_
    intro add sub mul quo rem band bor bxor bclr shl shr ieq ilt ile seq slt beq bnot orb bcond iwrap iof ssz hA cat sq sl imin imax smin smax len slen u8 hL op hop call hcall code hcode ret hret
    have hlen : len zs = Int.ofNat N := by rw [hL.len, hzl]; rfl
    cbv
    rw [hlen, show ieq (Int.ofNat N) 0 = true by rw [hA.eq, h0]; rfl]
    cbv
    exact hret _ (RetEv.ret eOk rfl ⟨.nils, rfl, .nils⟩)
  obtain ⟨l0, hl0⟩ := get_of_lt (show 0 < ls.length by omega)
  have hwid : wid ls = l0.length := by rw [wid, List.headD_eq_head?_getD, List.head?_eq_getElem?, hl0]; rfl
  obtain ⟨n, hnn⟩ : ∃ n, n = l0.length := ⟨_, rfl⟩
  have hne : ls ≠ [] := fun c => by rw [c] at hl0; cases hl0
  have hn0 := hn l0 (List.mem_of_getElem? hl0)
  obtain ⟨C, hC⟩ : ∃ C : Bool, C = decide (∃ l ∈ ls, l.length ≠ n) := ⟨_, rfl⟩
  have hcl := fun b0 (e : b0 = PV.sl zs) => ints2Has zs N hzl (by omega) (fun i z hz => by rw [hzs] at hz; obtain ⟨l, _, rfl⟩ := llP_inv hz; rfl) 21 b0 (fun i => decide ((ls.getD i []).length ≠ l0.length))
    (fun i z hz => by rw [e]; exact vLen_spec ls l0 hl0 hn zs hzs i z hz) C (by
      rw [hC, decide_eq_true_eq]
      constructor
      · rintro ⟨l, h1, h2⟩
        obtain ⟨i, hi, he⟩ := List.getElem_of_mem h1
        refine ⟨i, by omega, decide_eq_true ?_⟩
        rw [List.getD_eq_getElem?_getD, List.getElem?_eq_getElem hi, he, ← hnn]; exact h2
      · rintro ⟨i, h1, h2⟩
        have h2 := of_decide_eq_true h2
        obtain ⟨l, hl⟩ := get_of_lt (show i < ls.length by omega)
        rw [List.getD_eq_getElem?_getD, hl] at h2
        exact ⟨l, List.mem_of_getElem? hl, by rw [hnn]; exact h2⟩)
  have hcl := hcl _ rfl
  have hrep := fun os hos => repeat_spec n (by omega) os hos
  have hzz0 : zs[0]? = some (.sl (iP l0)) := by rw [hzs]; exact llP_get hl0
  obtain ⟨y0, hy0⟩ : ∃ ys, ys = iP l0 := ⟨_, rfl⟩
  rw [← hy0] at hzz0
  refine fn_of_vc eOk fOk fo9 Try.func9 rfl rfl rfl fun B hB => ?_
  intro add sub mul quo rem band bor bxor bclr shl shr ieq ilt ile seq slt beq bnot orb bcond iwrap iof ssz hA cat sq sl imin imax smin smax len slen u8 hL op hop call hcall code hcode ret hret
  have hlen : len zs = Int.ofNat N := by rw [hL.len, hzl]; rfl
  have e0 : len y0 = Int.ofNat n := by rw [hL.len, hy0, iP_length, hnn]; rfl
  clear hy0
  cbv
  rw [hlen, show ieq (Int.ofNat N) 0 = false by rw [hA.eq]; simp only [Int.ofNat_eq_natCast]; simp; omega]
  cbv
  refine hcall _ _ _ _ _ (CallEv.lend [0] hcl rfl (.cons (.p _) (.cons (Tr.fnL (.cons (.own 0 0 0 rfl) .nil)) .nil)) ⟨⟨_, rfl, .st _ _ _ (.cons (.p _) .nil)⟩, trivial⟩ ?_)
  rintro _ _ ⟨rfl, rfl⟩
  cbv
  cases hCC : C with
  | true =>
    have hE : R2 = 1 := by rw [hR2, bothE, if_pos]; right; rw [hwid, ← hnn]; exact of_decide_eq_true (hC.symm.trans hCC)
    refine vcIf.yes (by first | (simp [hA.not, hA.eq, hA.lt, hA.le, hA.cond, hA.beq, hA.orb, hL.len, hL.slen, hL.sq]; done) | (simp [hA.not, hA.eq, hA.lt, hA.le, hA.cond, hA.beq, hA.orb, hL.len, hL.slen, hL.sq]; omega)) ?_
    cbv
    exact hret _ (RetEv.ret eOk rfl ⟨.nils, by rw [hE]; rfl, by rw [herr (by rw [hE]; decide)]; exact .nils⟩)
  | false =>
  have hlens : ∀ l ∈ ls, l.length = n := fun l hl => by
    have := of_decide_eq_false (hC.symm.trans hCC)
    exact Classical.not_not.1 fun c => this ⟨l, hl, c⟩
  have hno1 : ¬ (ls = [] ∨ ∃ l ∈ ls, l.length ≠ wid ls) := by
    rintro (c | ⟨l, h1, h2⟩)
    · exact hne c
    · exact h2 (by rw [hwid, ← hnn]; exact hlens l h1)
  have hbad : ∀ l z, l ∈ ls → z ∈ l → okV z = false → R2 = 2 := fun l z h1 h2 h3 => by
    rw [hR2, bothE, if_neg hno1, if_neg fun c => by have := c l h1 z h2; rw [h3] at this; cases this]
  have hgood : (∀ q l, q < N → ls[q]? = some l → ∀ z ∈ l, okV z = true) → R2 = 0 ∧ R1 = .sl (iP (midL ls n N 0)) := fun h => by
    have hE : bothE ls = 0 := by
      rw [bothE, if_neg hno1, if_pos]
      intro l h1 z h2
      obtain ⟨q, hq, he⟩ := List.getElem_of_mem h1
      exact h q l (by omega) (by rw [List.getElem?_eq_getElem hq, he]) z h2
    refine ⟨hR2.trans hE, ?_⟩
    rw [hR1, bothR, if_pos hE, bothL, hwid, ← hnn, midL]
    congr 2
    apply List.map_congr_left
    intro k _
    rw [if_neg (Nat.not_lt_zero k), List.take_of_length_le (by omega)]
  refine vcIf.no (by first | (simp [hA.not, hA.eq, hA.lt, hA.le, hA.cond, hA.beq, hA.orb, hL.len, hL.slen, hL.sq]; done) | (simp [hA.not, hA.eq, hA.lt, hA.le, hA.cond, hA.beq, hA.orb, hL.len, hL.slen, hL.sq]; omega)) ?_
  cbv
  refine ⟨false, ?_⟩
  cbv
  refine ⟨0, _, rfl, hzz0, rfl, ?_⟩
  cbv
  rw [e0]
  refine hcall _ _ _ _ _ (CallEv.same (hrep _ rfl) rfl ?_)
  rintro _ _ ⟨rs, hrs, rfl, rfl⟩
  cbv
  rw [hlen]
  refine hcode _ _ _ (CodeEv.loop eOk fOk (ι := Nat × List PV) (fun s => [(4, .vw 1 1 0 n none), (23, .p (.sl zs)), (24, .p (.int .i64 (Int.ofNat N))), (25, .p (.int .i64 (Int.ofNat s.1)))])
    (fun s => [.st 22 [.p (.sl zs)], .arr 3 1 s.2]) (fun s => s.1 ≤ N ∧ s.2 = iP (midL ls n s.1 0) ∧ ∀ q l, q < s.1 → ls[q]? = some l → ∀ z ∈ l, okV z = true) (fun s => N - s.1) (0, rs) ?_ ?_)
  · refine ⟨(by repeat (first | exact trivial | refine And.intro rfl ?_)), rfl, Nat.zero_le _, ?_, fun q l h => absurd h (Nat.not_lt_zero q)⟩
    simp only
    rw [hrs, midL_first, iP_eq, List.map_replicate]
    done
  clear hrs
  rintro ⟨i, rs⟩ ⟨k1, k2, k3⟩ rd hrd
  simp only at k1 k2 k3
  intro add1 sub1 mul1 quo1 rem1 band1 bor1 bxor1 bclr1 shl1 shr1 ieq1 ilt1 ile1 seq1 slt1 beq1 bnot1 orb1 bcond1 iwrap1 iof1 ssz1 hA1 cat1 sq1 sl1 imin1 imax1 smin1 smax1 len1 slen1 u81 hL1 op1 hop1 call1 hcall1 code1 hcode1
  have hadd1 : i < N → add1 .i64 (Int.ofNat i) 1 = Int.ofNat (i + 1) := fun _ => by rw [hA1.add, IntWalk.i64_in _ (by simp only [Int.ofNat_eq_natCast]; omega)]; rfl
  cbv
  by_cases hi : i < N
  · obtain ⟨l, hl⟩ := get_of_lt (show i < ls.length by omega)
    have hzi : zs[i]? = some (.sl (iP l)) := by rw [hzs]; exact llP_get hl
    have hll := hlens l (List.mem_of_getElem? hl)
    obtain ⟨ys, hys⟩ : ∃ ys, ys = iP l := ⟨_, rfl⟩
    rw [← hys] at hzi
    have e1 : len1 ys = Int.ofNat n := by rw [hL1.len, hys, iP_length, hll]; rfl
    refine vcIf.yes (by first | (simp [hA1.not, hA1.eq, hA1.lt, hA1.le, hA1.cond, hA1.beq, hA1.orb, hL1.len, hL1.slen, hL1.sq, hi]; done) | (simp only [hi]; simp [hA1.not, hA1.eq, hA1.lt, hA1.le, hA1.cond, hA1.beq, hA1.orb, hL1.len, hL1.slen, hL1.sq, hi]; done) | (simp [hA1.not, hA1.eq, hA1.lt, hA1.le, hA1.cond, hA1.beq, hA1.orb, hL1.len, hL1.slen, hL1.sq, hi]; omega) | (simp only [hi]; simp [hA1.not, hA1.eq, hA1.lt, hA1.le, hA1.cond, hA1.beq, hA1.orb, hL1.len, hL1.slen, hL1.sq, hi]; omega)) ?_
    cbv
    refine ⟨i, _, rfl, hzi, rfl, ?_⟩
    cbv
    rw [e1]
    refine hcode1 _ _ _ (CodeEv.loop eOk fOk (ι := Nat × List PV) (fun s => [(4, .vw 1 1 0 n none), (23, .p (.sl zs)), (24, .p (.int .i64 (Int.ofNat N))), (25, .p (.int .i64 (Int.ofNat i))), (29, .p (.sl ys)), (30, .p (.int .i64 (Int.ofNat n))), (31, .p (.int .i64 (Int.ofNat s.1)))])
      (fun s => [.st 22 [.p (.sl zs)], .arr 3 1 s.2]) (fun s => s.1 ≤ n ∧ s.2 = iP (midL ls n i s.1) ∧ ∀ q z, q < s.1 → l[q]? = some z → okV z = true) (fun s => n - s.1) (0, rs) ?_ ?_)
    · exact ⟨(by repeat (first | exact trivial | refine And.intro rfl ?_)), rfl, Nat.zero_le _, k2, fun q z h => absurd h (Nat.not_lt_zero q)⟩
    clear k2
    rintro ⟨j, rs⟩ ⟨m1, m2, m3⟩ rd2 hrd2
    simp only at m1 m2 m3
    intro add2 sub2 mul2 quo2 rem2 band2 bor2 bxor2 bclr2 shl2 shr2 ieq2 ilt2 ile2 seq2 slt2 beq2 bnot2 orb2 bcond2 iwrap2 iof2 ssz2 hA2 cat2 sq2 sl2 imin2 imax2 smin2 smax2 len2 slen2 u82 hL2 op2 hop2 call2 hcall2 code2 hcode2
    have hadd2 : j < n → add2 .i64 (Int.ofNat j) 1 = Int.ofNat (j + 1) := fun _ => by rw [hA2.add, IntWalk.i64_in _ (by simp only [Int.ofNat_eq_natCast]; omega)]; rfl
    cbv
    by_cases hj : j < n
    · obtain ⟨v, hv⟩ := get_of_lt (show j < l.length by omega)
      have hyj : ys[j]? = some (.int .i64 v) := by rw [hys]; exact iP_get hv
      obtain ⟨x, hx⟩ : ∃ x, x = colM (ls.take i) j := ⟨_, rfl⟩
      have hrj : rs[j]? = some (.int .i64 x) := by rw [m2]; refine iP_get ?_; rw [midL_get ls hj, if_neg (Nat.lt_irrefl _), hx]
      have hrl : rs.length = n := by rw [m2, iP_length, midL_length]
      obtain ⟨y, hy⟩ : ∃ y, y = max x v := ⟨_, rfl⟩
      have hmax : imax2 x v = y := by rw [hy]; rw [hL2.imax]; simp only [Int.max_def]; split <;> split <;> omega
      have hstep := midL_step ls hl hv hj
      rw [← hx, ← hy] at hstep
      clear hy
      have his := vIs_spec v
      obtain ⟨ok, hok⟩ : ∃ b, b = okV v := ⟨_, rfl⟩
      rw [← hok] at his
      refine vcIf.yes (by first | (simp [hA2.not, hA2.eq, hA2.lt, hA2.le, hA2.cond, hA2.beq, hA2.orb, hL2.len, hL2.slen, hL2.sq, hj]; done) | (simp only [hj]; simp [hA2.not, hA2.eq, hA2.lt, hA2.le, hA2.cond, hA2.beq, hA2.orb, hL2.len, hL2.slen, hL2.sq, hj]; done) | (simp [hA2.not, hA2.eq, hA2.lt, hA2.le, hA2.cond, hA2.beq, hA2.orb, hL2.len, hL2.slen, hL2.sq, hj]; omega) | (simp only [hj]; simp [hA2.not, hA2.eq, hA2.lt, hA2.le, hA2.cond, hA2.beq, hA2.orb, hL2.len, hL2.slen, hL2.sq, hj]; omega)) ?_
      cbv
      refine ⟨j, _, rfl, hyj, rfl, ?_⟩
      cbv
      refine hcall2 _ _ _ _ _ (CallEv.same his rfl ?_)
      rintro _ _ ⟨rfl, rfl⟩
      cbv
      cases hoo : ok with
      | false =>
        have hE := hbad l v (List.mem_of_getElem? hl) (List.mem_of_getElem? hv) (hok.symm.trans hoo)
        refine vcIf.yes (by first | (simp [hA2.not, hA2.eq, hA2.lt, hA2.le, hA2.cond, hA2.beq, hA2.orb, hL2.len, hL2.slen, hL2.sq]; done) | (simp [hA2.not, hA2.eq, hA2.lt, hA2.le, hA2.cond, hA2.beq, hA2.orb, hL2.len, hL2.slen, hL2.sq]; omega)) ?_
        cbv
        exact hret _ (RetEv.ret eOk rfl ⟨.nils, by rw [hE]; rfl, by rw [herr (by rw [hE]; decide)]; exact .nils⟩)
      | true =>
        refine vcIf.no (by first | (simp [hA2.not, hA2.eq, hA2.lt, hA2.le, hA2.cond, hA2.beq, hA2.orb, hL2.len, hL2.slen, hL2.sq]; done) | (simp [hA2.not, hA2.eq, hA2.lt, hA2.le, hA2.cond, hA2.beq, hA2.orb, hL2.len, hL2.slen, hL2.sq]; omega)) ?_
        cbv
        refine ⟨j, rfl, by omega, fun q hq => ?_⟩
        have hq : q = j := by omega
        have hrq : rs[q]? = some (.int .i64 x) := by rw [hq]; exact hrj
        cbv
        refine ⟨_, hrq, ?_⟩
        cbv
        refine ⟨j, rfl, by omega, fun p hp => ?_⟩
        have hp : p = j := by omega
        have hrp : rs[p]? = some (.int .i64 x) := by rw [hp]; exact hrj
        cbv
        refine ⟨_, hrp, PV.wf1 rfl, fun us hus => ?_⟩
        have hus : us = iP (midL ls n i (j + 1)) := by rw [hus, hmax, hp, m2, hstep, iP_eq, iP_eq, List.map_set]
        cbv
        refine hrd2 _ ⟨(j + 1, us), _, ?_, ⟨hj, hus, ?_⟩, rfl, ⟨rfl, rfl, rfl, rfl, rfl, rfl, ?_, trivial⟩, rfl, rfl, rfl, ?_⟩
        · simp only; omega
        · intro r z hr hz
          rcases Nat.lt_succ_iff_lt_or_eq.1 hr with c | c
          · exact m3 r z c hz
          · rw [c, hv] at hz; cases hz; exact hok.symm.trans hoo
        · show some (V.p (.int .i64 _)) = _
          rw [hadd2 hj]
        · rw [hB]; exact Nat.zero_le _
    · refine vcIf.no (by first | (simp [hA2.not, hA2.eq, hA2.lt, hA2.le, hA2.cond, hA2.beq, hA2.orb, hL2.len, hL2.slen, hL2.sq, hj]; done) | (simp only [hj]; simp [hA2.not, hA2.eq, hA2.lt, hA2.le, hA2.cond, hA2.beq, hA2.orb, hL2.len, hL2.slen, hL2.sq, hj]; done) | (simp [hA2.not, hA2.eq, hA2.lt, hA2.le, hA2.cond, hA2.beq, hA2.orb, hL2.len, hL2.slen, hL2.sq, hj]; omega) | (simp only [hj]; simp [hA2.not, hA2.eq, hA2.lt, hA2.le, hA2.cond, hA2.beq, hA2.orb, hL2.len, hL2.slen, hL2.sq, hj]; omega)) ?_
      cbv
      obtain rfl : j = n := by omega
      refine hrd _ ⟨(i + 1, rs), _, ?_, ⟨hi, ?_, ?_⟩, rfl, ⟨rfl, rfl, rfl, ?_, trivial⟩, rfl, rfl, rfl, ?_⟩
      · simp only; omega
      · simp only; rw [m2, midL_next]
      · intro q l' hq hl' z hz
        rcases Nat.lt_succ_iff_lt_or_eq.1 hq with c | c
        · exact k3 q l' c hl' z hz
        · rw [c, hl] at hl'; cases hl'
          obtain ⟨r, hr, he⟩ := List.getElem_of_mem hz
          exact m3 r z (by omega) (by rw [List.getElem?_eq_getElem hr, he])
      · show some (V.p (.int .i64 _)) = _
        rw [hadd1 hi]
      · rw [hB]; exact Nat.zero_le _
  · refine vcIf.no (by first | (simp [hA1.not, hA1.eq, hA1.lt, hA1.le, hA1.cond, hA1.beq, hA1.orb, hL1.len, hL1.slen, hL1.sq, hi]; done) | (simp only [hi]; simp [hA1.not, hA1.eq, hA1.lt, hA1.le, hA1.cond, hA1.beq, hA1.orb, hL1.len, hL1.slen, hL1.sq, hi]; done) | (simp [hA1.not, hA1.eq, hA1.lt, hA1.le, hA1.cond, hA1.beq, hA1.orb, hL1.len, hL1.slen, hL1.sq, hi]; omega) | (simp only [hi]; simp [hA1.not, hA1.eq, hA1.lt, hA1.le, hA1.cond, hA1.beq, hA1.orb, hL1.len, hL1.slen, hL1.sq, hi]; omega)) ?_
    cbv
    obtain rfl : i = N := by omega
    obtain ⟨g1, g2⟩ := hgood k3
    refine hret _ (RetEv.retF eOk rfl 1 rfl (by rw [hB]; exact Nat.zero_le _) ⟨.sl rs, ?_, by rw [g2, k2]; exact .refl _⟩)
    rw [g1]
    have hrl : rs.length = n := by rw [k2, iP_length, midL_length]
    show V.p (.tup [.sl ((rs.drop 0).take n), .int .i64 0]) = _
    rw [frz_full hrl]
end Go.Proofs.Ytocmeaamaecgeaa
