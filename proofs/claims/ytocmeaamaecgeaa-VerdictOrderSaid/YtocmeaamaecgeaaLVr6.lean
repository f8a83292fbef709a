/- What VerdictSmall and VerdictOrder answer. Conditions: on sizes. -/
import Derived.Test.YtocmeaamaecgeaaLVr5
set_option maxRecDepth 100000
set_option maxHeartbeats 4000000
set_option linter.unusedSimpArgs false
set_option linter.unusedVariables false
namespace Go.Proofs.Ytocmeaamaecgeaa
open Go Go.Lx
open Go.Sx (vcIf)

theorem wC_take : ∀ (l : List Chg) (n : Nat), wC (l.take n) ≤ wC l
  | [], n => by simp
  | c :: l, 0 => by simp [wC]
  | c :: l, n + 1 => by simp only [List.take_succ_cons, wC]; have := wC_take l n; omega
theorem wS_take : ∀ (l : List Spn) (n : Nat), wS (l.take n) ≤ wS l
  | [], n => by simp
  | c :: l, 0 => by simp [wS]
  | c :: l, n + 1 => by simp only [List.take_succ_cons, wS]; have := wS_take l n; omega
theorem any_take {α : Type} (p : α → Bool) (l : List α) (n : Nat) (h : l.any p = false) : (l.take n).any p = false := by
  rw [List.any_eq_false] at h ⊢
  exact fun x hx => h x (List.mem_of_mem_take hx)
theorem chks_takeN : ∀ (l : List Chg) (n : Nat), chks l = 0 → chks (l.take n) = 0
  | [], n, _ => by simp [chks]
  | c :: l, 0, _ => rfl
  | c :: l, n + 1, h => by
    simp only [List.take_succ_cons, chks] at h ⊢
    split at h
    · rename_i h0
      exact absurd h h0
    · rename_i h0
      rw [if_neg h0]; exact chks_takeN l n h
theorem chk_zero {t : Tx} (h : t.chk = 0) : 0 ≤ t.r ∧ t.sp.length ≤ 24 ∧ t.ch.length ≤ 24 ∧ t.sp.any Spn.long = false ∧ wC t.ch + wS t.sp ≤ 512 ∧ t.sp.any Spn.rev = false ∧ chks t.ch = 0 := by
  unfold Tx.chk at h
  split at h
  · cases h
  · split at h
    · cases h
    · split at h
      · cases h
      · rename_i h1 h2 h3
        refine ⟨by omega, by omega, by omega, ?_, by omega, ?_, h⟩
        · simpa using fun c => h2 (.inr (.inr (.inl c)))
        · simpa using h3
theorem chk_of {t : Tx} (h : 0 ≤ t.r ∧ t.sp.length ≤ 24 ∧ t.ch.length ≤ 24 ∧ t.sp.any Spn.long = false ∧ wC t.ch + wS t.sp ≤ 512 ∧ t.sp.any Spn.rev = false ∧ chks t.ch = 0) : t.chk = 0 := by
  obtain ⟨h1, h2, h3, h4, h5, h6, h7⟩ := h
  unfold Tx.chk
  rw [if_neg (by omega), if_neg (by rw [h4]; simp; omega), if_neg (by rw [h6]; decide), h7]
theorem small_law {t : Tx} (h : t.chk = 0) (i j : Nat) : t.okB = true ∧ Tx.chk ⟨t.r, t.sp.take i, t.ch.take j⟩ = 0 := by
  obtain ⟨h1, h2, h3, h4, h5, h6, h7⟩ := chk_zero h
  refine ⟨t.ok_iff.2 ⟨h1, h2, h3, h7, ?_⟩, chk_of ⟨h1, ?_, ?_, any_take _ _ _ h4, ?_, any_take _ _ _ h6, chks_takeN _ _ h7⟩⟩
  · rw [List.any_eq_false] at h4 h6 ⊢
    intro x hx
    have a := h4 x hx
    have b := h6 x hx
    unfold Spn.long at a; unfold Spn.rev at b; unfold Spn.bad
    simp only [decide_eq_true_eq] at a ⊢
    rintro (c | c | c)
    · exact a (.inl c)
    · exact a (.inr c)
    · exact b c
  · simp only [List.length_take]; omega
  · simp only [List.length_take]; omega
  · have := wC_take t.ch j; have := wS_take t.sp i; simp only; omega

theorem verdictSmall (t : Tx) (ht : t.fit) (a b : Nat) (ha : a ≤ 255) (hb : b ≤ 255) :
    FnL Try.prog 6 [.p t.v, .p (.int .u8 (a : Int)), .p (.int .u8 (b : Int))] [] fun z own => z = .p (.bool true) ∧ own = [] := by
  refine FnL.flat (R := fun z own => z = .p (.bool true)) ?_ (fun v own' h => ⟨_, _, h, .refl _, rfl, rfl⟩)
  have h1 := vCheck_spec t ht _ _ rfl rfl
  have h2 := rTxn_spec t ht _ _ rfl rfl
  obtain ⟨e, he⟩ : ∃ e, e = t.chk := ⟨_, rfl⟩
  obtain ⟨ok, hok⟩ : ∃ e, e = t.okB := ⟨_, rfl⟩
  have hsl := fun h => small_law (t := t) h
  rw [← he] at h1 hsl
  rw [← hok] at h2 hsl
  have h3 := fun i j us ws hus hws => vCheck_spec ⟨t.r, t.sp.take i, t.ch.take j⟩ ⟨ht.1, fun c hc => ht.2.1 c (List.mem_of_mem_take hc), by have := ht.2.2.1; simp only [List.length_take]; omega, by have := ht.2.2.2; simp only [List.length_take]; omega⟩ us ws hus hws
  unfold Tx.v
  obtain ⟨xs, hxs⟩ : ∃ x, x = pP t.sp := ⟨_, rfl⟩
  obtain ⟨zs, hzs⟩ : ∃ x, x = cP t.ch := ⟨_, rfl⟩
  obtain ⟨r, hr⟩ : ∃ x, x = t.r := ⟨_, rfl⟩
  obtain ⟨n, hn⟩ : ∃ x, x = t.sp.length := ⟨_, rfl⟩
  obtain ⟨m, hm⟩ : ∃ x, x = t.ch.length := ⟨_, rfl⟩
  have hxl : xs.length = n := by rw [hxs, pP_length, hn]
  have hzl : zs.length = m := by rw [hzs, cP_length, hm]
  have hn2 : n < 9223372036854775807 := by rw [hn]; exact ht.2.2.1
  have hm2 : m < 9223372036854775807 := by rw [hm]; exact ht.2.2.2
  have hxt : ∀ i, pP (t.sp.take i) = xs.take i := fun i => by rw [hxs]; simp [pP, List.map_take]
  have hzt : ∀ i, cP (t.ch.take i) = zs.take i := fun i => by rw [hzs]; simp [cP, List.map_take]
  rw [← hxs, ← hzs, ← hr] at h1 h2 ⊢
  refine fn_of_vc eOk fOk fo6 Try.func6 rfl rfl rfl fun B hB => ?_
  intro add sub mul quo rem band bor bxor bclr shl shr ieq ilt ile seq slt beq bnot orb bcond iwrap iof ssz hA cat sq sl imin imax smin smax len slen u8 hL op hop call hcall code hcode ret hret
  cbv
  refine hcall _ _ _ _ _ (CallEv.same awake14_spec rfl ?_)
  rintro _ _ ⟨rfl, rfl⟩
  cbv
  repeat (first | (refine vcIf.yes ?_ ?_; (focus (simp [hA.not, hA.eq, hA.lt, hA.le, hA.cond, hA.beq, hA.orb, hL.len, hL.slen, hL.sq]; done)); cbv) | (refine vcIf.no ?_ ?_; (focus (simp [hA.not, hA.eq, hA.lt, hA.le, hA.cond, hA.beq, hA.orb, hL.len, hL.slen, hL.sq]; done)); cbv) | fail)
  refine hcall _ _ _ _ _ (CallEv.same h1 rfl ?_)
  rintro _ _ ⟨e1, q1, rfl, rfl⟩
  cbv
  by_cases h0 : e1 = 0
  · have hsl := hsl (by rw [← q1]; exact h0)
    refine vcIf.no (by first | (simp [hA.not, hA.eq, hA.lt, hA.le, hA.cond, hA.beq, hA.orb, hL.len, hL.slen, hL.sq, h0]; done) | (simp only [h0]; simp [hA.not, hA.eq, hA.lt, hA.le, hA.cond, hA.beq, hA.orb, hL.len, hL.slen, hL.sq, h0]; done) | (simp [hA.not, hA.eq, hA.lt, hA.le, hA.cond, hA.beq, hA.orb, hL.len, hL.slen, hL.sq, h0]; omega) | (simp only [h0]; simp [hA.not, hA.eq, hA.lt, hA.le, hA.cond, hA.beq, hA.orb, hL.len, hL.slen, hL.sq, h0]; omega)) ?_
    cbv
    refine hcode _ _ _ (CodeEv.drawA eOk fOk (by kernel_rfl) (Xof 1 [1]) (by kernel_rfl) (by kernel_rfl) (by kernel_rfl) ?_)
    obtain ⟨i, hi⟩ : ∃ i, i = a % (n + 1) := ⟨_, rfl⟩
    obtain ⟨j, hj⟩ : ∃ j, j = b % (m + 1) := ⟨_, rfl⟩
    have hin : i ≤ n := by rw [hi]; exact Nat.le_of_lt_succ (Nat.mod_lt _ (Nat.succ_pos n))
    have hjm : j ≤ m := by rw [hj]; exact Nat.le_of_lt_succ (Nat.mod_lt _ (Nat.succ_pos m))
    obtain ⟨hsl1, hsl2⟩ := hsl i j
    have h3 := h3 i j _ _ rfl rfl
    rw [hsl2, hxt, hzt] at h3
    simp only at h3
    rw [← hr] at h3
    obtain ⟨us, hus⟩ : ∃ us, us = xs.take i := ⟨_, rfl⟩
    obtain ⟨ws, hws⟩ : ∃ us, us = zs.take j := ⟨_, rfl⟩
    rw [← hus, ← hws] at h3
    have hwx : ∀ y ∈ xs, y.cells.length = 2 := fun y hy => by rw [hxs] at hy; obtain ⟨c, _, rfl⟩ := List.mem_map.1 hy; rfl
    have hwz : ∀ y ∈ zs, y.cells.length = 3 := fun y hy => by rw [hzs] at hy; obtain ⟨c, _, rfl⟩ := List.mem_map.1 hy; rfl
    intro add1 sub1 mul1 quo1 rem1 band1 bor1 bxor1 bclr1 shl1 shr1 ieq1 ilt1 ile1 seq1 slt1 beq1 bnot1 orb1 bcond1 iwrap1 iof1 ssz1 hA1 cat1 sq1 sl1 imin1 imax1 smin1 smax1 len1 slen1 u81 hL1 op1 hop1 call1 hcall1 code1 hcode1 q1 hq1
    have f1 : add1 .i64 (len1 xs) 1 = ((n + 1 : Nat) : Int) := by rw [hL1.len, hxl, hA1.add, IntWalk.i64_in _ (by omega)]; rfl
    have f2 : rem1 (iwrap1 .i64 (a : Int)) (add1 .i64 (len1 xs) 1) = (i : Int) := by
      rw [f1, hA1.rem, hA1.wrap, IntWalk.i64_in _ (by omega), hi]; rfl
    have f3 : ¬ add1 .i64 (len1 xs) 1 = 0 := by rw [f1]; omega
    clear f1 hi
    cbv
    refine ⟨(), f3, ?_⟩
    cbv
    refine ⟨0, i, _, rfl, f2, rfl, Nat.zero_le _, by omega, Nat.le_refl _, hwx, fun us' hus' => ?_⟩
    replace hus' : us' = us := by rw [hus', hus]; rfl
    cbv
    refine hq1 _ ?_
    cbv
    refine hcode _ _ _ (CodeEv.drawA eOk fOk (by kernel_rfl) (Xof 1 [1]) (by kernel_rfl) (by kernel_rfl) (by kernel_rfl) ?_)
    intro add2 sub2 mul2 quo2 rem2 band2 bor2 bxor2 bclr2 shl2 shr2 ieq2 ilt2 ile2 seq2 slt2 beq2 bnot2 orb2 bcond2 iwrap2 iof2 ssz2 hA2 cat2 sq2 sl2 imin2 imax2 smin2 smax2 len2 slen2 u82 hL2 op2 hop2 call2 hcall2 code2 hcode2 q2 hq2
    have f1 : add2 .i64 (len2 zs) 1 = ((m + 1 : Nat) : Int) := by rw [hL2.len, hzl, hA2.add, IntWalk.i64_in _ (by omega)]; rfl
    have f2 : rem2 (iwrap2 .i64 (b : Int)) (add2 .i64 (len2 zs) 1) = (j : Int) := by
      rw [f1, hA2.rem, hA2.wrap, IntWalk.i64_in _ (by omega), hj]; rfl
    have f3 : ¬ add2 .i64 (len2 zs) 1 = 0 := by rw [f1]; omega
    clear f1 hj
    cbv
    refine ⟨(), f3, ?_⟩
    cbv
    refine ⟨0, j, _, rfl, f2, rfl, Nat.zero_le _, by omega, Nat.le_refl _, hwz, fun ws' hws' => ?_⟩
    replace hws' : ws' = ws := by rw [hws', hws]; rfl
    rw [← hus', ← hws'] at h3
    cbv
    refine hq2 _ ?_
    cbv
    refine hcall _ _ _ _ _ (CallEv.same h2 rfl ?_)
    rintro _ _ ⟨o1, q2, rfl, rfl⟩
    rw [hsl1] at q2
    cbv
    refine vcIf.yes (by first | (simp [hA.not, hA.eq, hA.lt, hA.le, hA.cond, hA.beq, hA.orb, hL.len, hL.slen, hL.sq, q2]; done) | (simp only [q2]; simp [hA.not, hA.eq, hA.lt, hA.le, hA.cond, hA.beq, hA.orb, hL.len, hL.slen, hL.sq, q2]; done) | (simp [hA.not, hA.eq, hA.lt, hA.le, hA.cond, hA.beq, hA.orb, hL.len, hL.slen, hL.sq, q2]; omega) | (simp only [q2]; simp [hA.not, hA.eq, hA.lt, hA.le, hA.cond, hA.beq, hA.orb, hL.len, hL.slen, hL.sq, q2]; omega)) ?_
    cbv
    refine hcall _ _ _ _ _ (CallEv.same h3 rfl ?_)
    rintro _ _ ⟨o2, q3, rfl, rfl⟩
    cbv
    exact hret _ (RetEv.ret eOk rfl (by simp [hA.not, hA.eq, hA.lt, hA.le, hA.cond, hA.beq, hA.orb, hL.len, hL.slen, hL.sq, oneOf, q3]))
  · refine vcIf.yes (by first | (simp [hA.not, hA.eq, hA.lt, hA.le, hA.cond, hA.beq, hA.orb, hL.len, hL.slen, hL.sq, h0]; done) | (simp only [h0]; simp [hA.not, hA.eq, hA.lt, hA.le, hA.cond, hA.beq, hA.orb, hL.len, hL.slen, hL.sq, h0]; done) | (simp [hA.not, hA.eq, hA.lt, hA.le, hA.cond, hA.beq, hA.orb, hL.len, hL.slen, hL.sq, h0]; omega) | (simp only [h0]; simp [hA.not, hA.eq, hA.lt, hA.le, hA.cond, hA.beq, hA.orb, hL.len, hL.slen, hL.sq, h0]; omega)) ?_
    cbv
    refine hcall _ _ _ _ _ (CallEv.same awake14_spec rfl ?_)
    rintro _ _ ⟨rfl, rfl⟩
    cbv
    exact hret _ (RetEv.ret eOk rfl rfl)

theorem bothE_lens {ls : List (List Int)} (h : ls = [] ∨ ∃ l ∈ ls, l.length ≠ wid ls) : bothE ls = 1 := by rw [bothE, if_pos h]
theorem bothE_zero {ls : List (List Int)} : bothE ls = 0 ↔ ls ≠ [] ∧ (∀ l ∈ ls, l.length = wid ls) ∧ ∀ l ∈ ls, ∀ z ∈ l, okV z = true := by
  unfold bothE
  split
  · rename_i h
    refine ⟨fun c => absurd c (by decide), fun ⟨h1, h2, _⟩ => ?_⟩
    rcases h with h | ⟨l, h3, h4⟩
    · exact absurd h h1
    · exact absurd (h2 l h3) h4
  · rename_i h
    have h1 : ls ≠ [] := fun c => h (.inl c)
    have h2 : ∀ l ∈ ls, l.length = wid ls := fun l hl => Classical.not_not.1 fun c => h (.inr ⟨l, hl, c⟩)
    split
    · rename_i h3
      exact ⟨fun _ => ⟨h1, h2, h3⟩, fun _ => rfl⟩
    · rename_i h3
      exact ⟨fun c => absurd c (by decide), fun c => absurd c.2.2 h3⟩
theorem bothE_eq {ls ms : List (List Int)} (h0 : ls ≠ []) (h1 : ms ≠ []) (hs : ∀ l, l ∈ ls ↔ l ∈ ms) : bothE ls = bothE ms := by
  have hw : (∀ l ∈ ls, l.length = wid ls) ↔ (∀ l ∈ ms, l.length = wid ms) := by
    have key : ∀ {xs ys : List (List Int)}, ys ≠ [] → (∀ l, l ∈ ys → l ∈ xs) → (∀ l ∈ xs, l.length = wid xs) → ∀ l ∈ ys, l.length = wid ys := by
      intro xs ys hy hsub h l hl
      cases ys with
      | nil => exact absurd rfl hy
      | cons y r => rw [h l (hsub l hl)]; exact (h y (hsub y (by simp))).symm
    exact ⟨key h1 fun l hl => (hs l).2 hl, key h0 fun l hl => (hs l).1 hl⟩
  by_cases hl : ∀ l ∈ ls, l.length = wid ls
  · by_cases ho : ∀ l ∈ ls, ∀ z ∈ l, okV z = true
    · rw [bothE_zero.2 ⟨h0, hl, ho⟩, bothE_zero.2 ⟨h1, hw.1 hl, fun l h => ho l ((hs l).2 h)⟩]
    · have h2 : ∀ {xs : List (List Int)}, xs ≠ [] → (∀ l ∈ xs, l.length = wid xs) → (¬ ∀ l ∈ xs, ∀ z ∈ l, okV z = true) → bothE xs = 2 := fun {xs} a b c => by
        rw [bothE, if_neg (by rintro (d | ⟨l, d1, d2⟩); exact a d; exact d2 (b l d1)), if_neg c]
      rw [h2 h0 hl ho, h2 h1 (hw.1 hl) fun c => ho fun l h => c l ((hs l).1 h)]
  · have h2 : ∀ {xs : List (List Int)}, (¬ ∀ l ∈ xs, l.length = wid xs) → bothE xs = 1 := fun {xs} a => bothE_lens (.inr (Classical.byContradiction fun c => a fun l hl => Classical.not_not.1 fun d => c ⟨l, hl, d⟩))
    rw [h2 hl, h2 fun c => hl (hw.2 c)]
theorem order_law (a b c : List Int) : bothE [c, a, b, a] = bothE [a, b, c] ∧ bothR [c, a, b, a] = bothR [a, b, c] := by
  have he : bothE [c, a, b, a] = bothE [a, b, c] := bothE_eq (by simp) (by simp) fun l => by
    simp only [List.mem_cons, List.not_mem_nil, or_false]
    constructor
    · rintro (h | h | h | h) <;> simp [h]
    · rintro (h | h | h) <;> simp [h]
  refine ⟨he, ?_⟩
  unfold bothR
  rw [he]
  split
  · rename_i h
    obtain ⟨_, h1, _⟩ := bothE_zero.1 h
    have hc := h1 c (by simp)
    unfold bothL
    have hw : wid [c, a, b, a] = wid [a, b, c] := hc
    rw [hw]
    apply List.map_congr_left
    intro k _
    simp only [colM, List.foldl_cons, List.foldl_nil]
    omega
  · rfl
theorem order_law2 (a b c : List Int) (h : bothE [a, b, c] = 0) : bothE [a, b] = 0 ∧ bothE [bothR [a, b], c] = 0 ∧ bothR [bothR [a, b], c] = bothR [a, b, c] := by
  obtain ⟨_, h1, h2⟩ := bothE_zero.1 h
  have hb : b.length = a.length := h1 b (by simp)
  have hc : c.length = a.length := h1 c (by simp)
  have e1 : bothE [a, b] = 0 := bothE_zero.2 ⟨by simp, fun l hl => by
    simp only [List.mem_cons, List.not_mem_nil, or_false] at hl
    rcases hl with rfl | rfl
    · rfl
    · exact hb, fun l hl => h2 l (by simp only [List.mem_cons, List.not_mem_nil, or_false] at hl ⊢; rcases hl with rfl | rfl <;> simp)⟩
  have eR : bothR [a, b] = (List.range a.length).map (colM [a, b]) := by rw [bothR, if_pos e1]; rfl
  have hRl : (bothR [a, b]).length = a.length := by rw [eR]; simp
  have hok : ∀ {l : List Int} {k : Nat}, l.length = a.length → (∀ z ∈ l, okV z = true) → k < a.length → 1 ≤ l.getD k 0 ∧ l.getD k 0 ≤ 3 := fun {l k} hl ho hk => by
    rw [List.getD_eq_getElem?_getD, List.getElem?_eq_getElem (by omega)]
    exact of_decide_eq_true (ho _ (List.getElem_mem _))
  have e2 : bothE [bothR [a, b], c] = 0 := bothE_zero.2 ⟨by simp, fun l hl => by
    simp only [List.mem_cons, List.not_mem_nil, or_false] at hl
    show l.length = (bothR [a, b]).length
    rcases hl with rfl | rfl
    · rfl
    · rw [hRl]; exact hc, fun l hl z hz => by
    simp only [List.mem_cons, List.not_mem_nil, or_false] at hl
    rcases hl with rfl | rfl
    · rw [eR] at hz
      obtain ⟨k, hk, rfl⟩ := List.mem_map.1 hz
      have hk := List.mem_range.1 hk
      have ga := hok rfl (h2 a (by simp)) hk
      have gb := hok hb (h2 b (by simp)) hk
      simp only [colM, List.foldl_cons, List.foldl_nil]
      exact decide_eq_true (by omega)
    · exact h2 _ (by simp) z hz⟩
  refine ⟨e1, e2, ?_⟩
  have q1 : bothR [bothR [a, b], c] = bothL [bothR [a, b], c] := if_pos e2
  have q2 : bothR [a, b, c] = bothL [a, b, c] := if_pos h
  rw [q1, q2]
  unfold bothL
  have hw : wid [bothR [a, b], c] = wid [a, b, c] := hRl
  rw [hw]
  apply List.map_congr_left
  intro k hk
  have hk : k < a.length := List.mem_range.1 hk
  have : (bothR [a, b]).getD k 0 = colM [a, b] k := by rw [eR, List.getD_eq_getElem?_getD]; simp [hk]
  simp only [colM, List.foldl_cons, List.foldl_nil] at this ⊢
  rw [this]; omega
theorem bothR_len (ls : List (List Int)) : (bothR ls).length ≤ wid ls := by
  unfold bothR
  split
  · simp [bothL]
  · exact Nat.zero_le _

theorem verdictOrder (a b c : List Int) (ha : a.length * 8 ≤ 140737488355328) (hb : b.length * 8 ≤ 140737488355328) (hc : c.length * 8 ≤ 140737488355328) :
    FnL Try.prog 5 [.p (.sl (iP a)), .p (.sl (iP b)), .p (.sl (iP c))] [] fun z own => z = .p (.bool true) ∧ own = [] := by
  refine FnL.flat (R := fun z own => z = .p (.bool true)) ?_ (fun v own' h => ⟨_, _, h, .refl _, rfl, rfl⟩)
  have hmem : ∀ {ls : List (List Int)}, (∀ l ∈ ls, l = a ∨ l = b ∨ l = c) → ∀ l ∈ ls, l.length * 8 ≤ 281474976710656 := fun h l hl => by rcases h l hl with rfl | rfl | rfl <;> omega
  have h1 := vBoth_spec [a, b, c] (by simp) (hmem fun l hl => by simpa using hl) _ rfl
  have h2 := vBoth_spec [c, a, b, a] (by simp) (hmem fun l hl => by simp at hl; rcases hl with h | h | h | h <;> simp [h]) _ rfl
  have h3 := vBoth_spec [a, b] (by simp) (hmem fun l hl => by simp at hl; rcases hl with h | h <;> simp [h]) _ rfl
  have hrl : (bothR [a, b]).length ≤ a.length := bothR_len _
  have h4 := vBoth_spec [bothR [a, b], c] (by simp) (fun l hl => by simp at hl; rcases hl with rfl | rfl <;> omega) _ rfl
  obtain ⟨o1, o2⟩ := order_law a b c
  have o3 := order_law2 a b c
  rw [o1, o2] at h2
  have hi := ints_spec (bothR [a, b, c]) (bothR [a, b, c]) (by have : (bothR [a, b, c]).length ≤ a.length := bothR_len _; omega)
  rw [decide_eq_true rfl] at hi
  obtain ⟨E, hE⟩ : ∃ E, E = bothE [a, b, c] := ⟨_, rfl⟩
  rw [← hE] at h1 h2 o3
  obtain ⟨A, hA⟩ : ∃ x, x = iP a := ⟨_, rfl⟩
  obtain ⟨B', hB'⟩ : ∃ x, x = iP b := ⟨_, rfl⟩
  obtain ⟨C, hC⟩ : ∃ x, x = iP c := ⟨_, rfl⟩
  obtain ⟨X, hX⟩ : ∃ x, x = iP (bothR [a, b, c]) := ⟨_, rfl⟩
  obtain ⟨Y, hY⟩ : ∃ x, x = iP (bothR [a, b]) := ⟨_, rfl⟩
  simp only [llP, List.map_cons, List.map_nil, ← hA, ← hB', ← hC, ← hX, ← hY] at h1 h2 h3 h4 hi ⊢
  refine fn_of_vc eOk fOk fo5 Try.func5 rfl rfl rfl fun B hB => ?_
  intro add sub mul quo rem band bor bxor bclr shl shr ieq ilt ile seq slt beq bnot orb bcond iwrap iof ssz hA cat sq sl imin imax smin smax len slen u8 hL op hop call hcall code hcode ret hret
  cbv
  refine ⟨false, ?_⟩
  cbv
  refine hcall _ _ _ _ _ (CallEv.same h1 rfl ?_)
  rintro _ _ ⟨rfl, rfl⟩
  cbv
  refine ⟨false, ?_⟩
  cbv
  refine hcall _ _ _ _ _ (CallEv.same h2 rfl ?_)
  rintro _ _ ⟨rfl, rfl⟩
  cbv
  refine hcall _ _ _ _ _ (CallEv.same awake14_spec rfl ?_)
  rintro _ _ ⟨rfl, rfl⟩
  cbv
  repeat (first | (refine vcIf.yes ?_ ?_; (focus (simp [hA.not, hA.eq, hA.lt, hA.le, hA.cond, hA.beq, hA.orb, hL.len, hL.slen, hL.sq]; done)); cbv) | (refine vcIf.no ?_ ?_; (focus (simp [hA.not, hA.eq, hA.lt, hA.le, hA.cond, hA.beq, hA.orb, hL.len, hL.slen, hL.sq]; done)); cbv) | fail)
  refine hcall _ _ _ _ _ (CallEv.same hi rfl ?_)
  rintro _ _ ⟨rfl, rfl⟩
  cbv
  repeat (first | (refine vcIf.yes ?_ ?_; (focus (simp [hA.not, hA.eq, hA.lt, hA.le, hA.cond, hA.beq, hA.orb, hL.len, hL.slen, hL.sq]; done)); cbv) | (refine vcIf.no ?_ ?_; (focus (simp [hA.not, hA.eq, hA.lt, hA.le, hA.cond, hA.beq, hA.orb, hL.len, hL.slen, hL.sq]; done)); cbv) | fail)
  by_cases hE0 : E = 0
  · obtain ⟨p1, p2, p3⟩ := o3 hE0
    rw [p1] at h3
    rw [p2, p3, ← hX] at h4
    refine vcIf.no (by first | (simp [hA.not, hA.eq, hA.lt, hA.le, hA.cond, hA.beq, hA.orb, hL.len, hL.slen, hL.sq, hE0]; done) | (simp only [hE0]; simp [hA.not, hA.eq, hA.lt, hA.le, hA.cond, hA.beq, hA.orb, hL.len, hL.slen, hL.sq, hE0]; done) | (simp [hA.not, hA.eq, hA.lt, hA.le, hA.cond, hA.beq, hA.orb, hL.len, hL.slen, hL.sq, hE0]; omega) | (simp only [hE0]; simp [hA.not, hA.eq, hA.lt, hA.le, hA.cond, hA.beq, hA.orb, hL.len, hL.slen, hL.sq, hE0]; omega)) ?_
    cbv
    refine ⟨false, ?_⟩
    cbv
    refine hcall _ _ _ _ _ (CallEv.same h3 rfl ?_)
    rintro _ _ ⟨rfl, rfl⟩
    cbv
    refine ⟨false, ?_⟩
    cbv
    refine hcall _ _ _ _ _ (CallEv.same h4 rfl ?_)
    rintro _ _ ⟨rfl, rfl⟩
    cbv
    repeat (first | (refine vcIf.yes ?_ ?_; (focus (simp [hA.not, hA.eq, hA.lt, hA.le, hA.cond, hA.beq, hA.orb, hL.len, hL.slen, hL.sq]; done)); cbv) | (refine vcIf.no ?_ ?_; (focus (simp [hA.not, hA.eq, hA.lt, hA.le, hA.cond, hA.beq, hA.orb, hL.len, hL.slen, hL.sq]; done)); cbv) | fail)
    refine hcall _ _ _ _ _ (CallEv.same hi rfl ?_)
    rintro _ _ ⟨rfl, rfl⟩
    cbv
    exact hret _ (RetEv.ret eOk rfl (by simp [hA.not, hA.eq, hA.lt, hA.le, hA.cond, hA.beq, hA.orb, hL.len, hL.slen, hL.sq, oneOf]))
  · refine vcIf.yes (by first | (simp [hA.not, hA.eq, hA.lt, hA.le, hA.cond, hA.beq, hA.orb, hL.len, hL.slen, hL.sq, hE0]; done) | (simp only [hE0]; simp [hA.not, hA.eq, hA.lt, hA.le, hA.cond, hA.beq, hA.orb, hL.len, hL.slen, hL.sq, hE0]; done) | (simp [hA.not, hA.eq, hA.lt, hA.le, hA.cond, hA.beq, hA.orb, hL.len, hL.slen, hL.sq, hE0]; omega) | (simp only [hE0]; simp [hA.not, hA.eq, hA.lt, hA.le, hA.cond, hA.beq, hA.orb, hL.len, hL.slen, hL.sq, hE0]; omega)) ?_
    cbv
    exact hret _ (RetEv.ret eOk rfl rfl)
end Go.Proofs.Ytocmeaamaecgeaa
