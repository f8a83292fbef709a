/- What VerdictPicks and VerdictAll answer. Conditions: on sizes. -/
import Derived.Test.YtocmeaamaecgeaaLPk2
import Derived.Test.YtocmeaamaecgeaaLSame
set_option maxRecDepth 100000
set_option maxHeartbeats 4000000
set_option linter.unusedSimpArgs false
set_option linter.unusedVariables false
namespace Go.Proofs.Ytocmeaamaecgeaa
open Go Go.Lx
open Go.Sx (vcIf)

theorem vFill_spec (zs : List PV) (n : Nat) (hl : zs.length = n) : FnL Try.prog 19 [.p (.sl zs)] [] fun v own => v = .p (.int .i64 (Int.ofNat (min n 4))) ∧ own = [] := by
  refine FnL.flat (R := fun v own => v = .p (.int .i64 (Int.ofNat (min n 4)))) ?_ (by rintro _ _ rfl; exact ⟨_, _, rfl, .refl _, rfl, rfl⟩)
  refine fn_of_vc eOk fOk fo19 Try.func19 rfl rfl rfl fun B hB => ?_
  intro add sub mul quo rem band bor bxor bclr shl shr ieq ilt ile seq slt beq bnot orb bcond iwrap iof ssz hA cat sq sl imin imax smin smax len slen u8 hL op hop call hcall code hcode ret hret
  cbv
  refine hret _ (RetEv.ret eOk rfl ?_)
  show V.p (.int .i64 (imin (len zs) 4)) = _
  rw [hL.imin, hL.len, hl]
  congr 2
  simp only [Int.ofNat_eq_natCast]
  split <;> omega

theorem cut40 {ts : List Tx} (h : 40 < ts.length) (zs : List PV) (hzs : zs = tP ts) : zs.take 40 = tP (ts.take 40) := by rw [hzs]; simp [tP, List.map_take]

/-- Behind the cut to forty. -/
theorem picks40 (ts : List Tx) (vs : List Int) (hf : ∀ t ∈ ts, t.fit) (hn : ts.length ≤ 281474976710656) (hv : vs.length * 8 ≤ 140737488355328) :
    FnL Try.prog 8 [.p (.sl (tP ts)), .p (.sl (iP vs))] [] fun z own => z = .p (.bool true) := by
  obtain ⟨us, hus⟩ : ∃ us, us = if 40 < ts.length then ts.take 40 else ts := ⟨_, rfl⟩
  have huf : ∀ t ∈ us, t.fit := fun t ht => by
    rw [hus] at ht; split at ht
    · exact hf t (List.mem_of_mem_take ht)
    · exact hf t ht
  have hul : us.length ≤ 40 := by
    rw [hus]; split
    · simp only [List.length_take]; omega
    · omega
  have h1 := fun zs ys hzs hys => vPick_spec us vs huf (by omega) hv zs ys hzs hys
  have h2 := fun zs ys hzs hys => rPick_spec us vs huf (by omega) hv zs ys hzs hys
  have hR : (pickR us vs).length < 9223372036854775807 := by
    by_cases h : us.length = vs.length ∧ pkE us vs = 0
    · have e1 : pickE us vs = 0 := by rw [pickE, if_pos h.1]; exact h.2
      rw [pickR, if_pos e1]
      have := pkL_len us vs h.2; omega
    · have e1 : pickE us vs ≠ 0 := fun c => h (by
        unfold pickE at c; split at c
        · rename_i h1; exact ⟨h1, c⟩
        · cases c)
      rw [pickR, if_neg e1]; decide
  have h3 := sameChgs_spec (pickR us vs) hR _ rfl
  obtain ⟨R, hRR⟩ : ∃ x, x = cP (pickR us vs) := ⟨_, rfl⟩
  obtain ⟨e, he⟩ : ∃ x, x = pickE us vs := ⟨_, rfl⟩
  rw [← hRR, ← he] at h1 h2
  rw [← hRR] at h3
  obtain ⟨N, hN⟩ : ∃ n, n = ts.length := ⟨_, rfl⟩
  obtain ⟨zs, hzs⟩ : ∃ x, x = tP ts := ⟨_, rfl⟩
  obtain ⟨ys, hys⟩ : ∃ x, x = iP vs := ⟨_, rfl⟩
  have hzl : zs.length = N := by rw [hzs, tP_length, hN]
  have hwz : ∀ y ∈ zs, y.cells.length = 3 := fun y hy => by rw [hzs] at hy; exact (tP_wf ts y hy).1
  rw [← hzs, ← hys]
  obtain ⟨n, hnn⟩ : ∃ n, n = us.length := ⟨_, rfl⟩
  by_cases hc : 40 < N
  · have hcut : zs.take 40 = tP us := by rw [hus, if_pos (by omega)]; exact cut40 (by omega) zs hzs
    have hn40 : n = 40 := by rw [hnn, hus, if_pos (by omega)]; simp; omega
    refine fn_of_vc eOk fOk fo8 Try.func8 rfl rfl rfl fun B hB => ?_
    intro add sub mul quo rem band bor bxor bclr shl shr ieq ilt ile seq slt beq bnot orb bcond iwrap iof ssz hA cat sq sl imin imax smin smax len slen u8 hL op hop call hcall code hcode ret hret
    have e1 : len zs = Int.ofNat N := by rw [hL.len, hzl]; rfl
    cbv
    refine vcIf.yes (by first | (simp [hA.not, hA.eq, hA.lt, hA.le, hA.cond, hA.beq, hA.orb, hL.len, hL.slen, hL.sq, e1, hc]; done) | (simp only [e1, hc]; simp [hA.not, hA.eq, hA.lt, hA.le, hA.cond, hA.beq, hA.orb, hL.len, hL.slen, hL.sq, e1, hc]; done) | (simp [hA.not, hA.eq, hA.lt, hA.le, hA.cond, hA.beq, hA.orb, hL.len, hL.slen, hL.sq, e1, hc]; omega) | (simp only [e1, hc]; simp [hA.not, hA.eq, hA.lt, hA.le, hA.cond, hA.beq, hA.orb, hL.len, hL.slen, hL.sq, e1, hc]; omega)) ?_
    cbv
    refine ⟨0, 40, _, rfl, rfl, rfl, by decide, by omega, Nat.le_refl _, hwz, fun ws hws => ?_⟩
    replace hws : ws = tP us := by rw [hws, ← hcut]; rfl
    have hwl : ws.length = n := by rw [hws, tP_length, hnn]
    have h1 := h1 ws ys hws hys
    have h2 := h2 ws ys hws hys
    have h4 := vFill_spec ws n hwl
    rw [show min n 4 = 4 by omega] at h4
    have e2 : len ws = 40 := by rw [hL.len, hwl, hn40]; rfl
    cbv
    refine hcall _ _ _ _ _ (CallEv.same h1 rfl ?_)
    rintro _ _ ⟨rfl, rfl⟩
    cbv
    refine hcall _ _ _ _ _ (CallEv.same h2 rfl ?_)
    rintro _ _ ⟨rfl, rfl⟩
    cbv
    refine vcIf.yes (by first | (simp [hA.not, hA.eq, hA.lt, hA.le, hA.cond, hA.beq, hA.orb, hL.len, hL.slen, hL.sq, e2]; done) | (simp only [e2]; simp [hA.not, hA.eq, hA.lt, hA.le, hA.cond, hA.beq, hA.orb, hL.len, hL.slen, hL.sq, e2]; done) | (simp [hA.not, hA.eq, hA.lt, hA.le, hA.cond, hA.beq, hA.orb, hL.len, hL.slen, hL.sq, e2]; omega) | (simp only [e2]; simp [hA.not, hA.eq, hA.lt, hA.le, hA.cond, hA.beq, hA.orb, hL.len, hL.slen, hL.sq, e2]; omega)) ?_
    cbv
    refine hcall _ _ _ _ _ (CallEv.same awake14_spec rfl ?_)
    rintro _ _ ⟨rfl, rfl⟩
    cbv
    repeat (first | (refine vcIf.yes ?_ ?_; (focus (simp [hA.not, hA.eq, hA.lt, hA.le, hA.cond, hA.beq, hA.orb, hL.len, hL.slen, hL.sq]; done)); cbv) | (refine vcIf.no ?_ ?_; (focus (simp [hA.not, hA.eq, hA.lt, hA.le, hA.cond, hA.beq, hA.orb, hL.len, hL.slen, hL.sq]; done)); cbv) | fail)
    refine hcall _ _ _ _ _ (CallEv.same h3 rfl ?_)
    rintro _ _ ⟨rfl, rfl⟩
    cbv
    repeat (first | (refine vcIf.yes ?_ ?_; (focus (simp [hA.not, hA.eq, hA.lt, hA.le, hA.cond, hA.beq, hA.orb, hL.len, hL.slen, hL.sq]; done)); cbv) | (refine vcIf.no ?_ ?_; (focus (simp [hA.not, hA.eq, hA.lt, hA.le, hA.cond, hA.beq, hA.orb, hL.len, hL.slen, hL.sq]; done)); cbv) | fail)
    refine hcall _ _ _ _ _ (CallEv.same h4 rfl ?_)
    rintro _ _ ⟨rfl, rfl⟩
    cbv
    exact hret _ (RetEv.ret eOk rfl (by simp [hA.not, hA.eq, hA.lt, hA.le, hA.cond, hA.beq, hA.orb, hL.len, hL.slen, hL.sq, oneOf]))
  · have husz : us = ts := by rw [hus, if_neg (by omega)]
    rw [husz] at h1 h2 hnn
    have h1 := h1 zs ys hzs hys
    have h2 := h2 zs ys hzs hys
    have hnN : n = N := by omega
    have h4 := vFill_spec zs N hzl
    refine fn_of_vc eOk fOk fo8 Try.func8 rfl rfl rfl fun B hB => ?_
    intro add sub mul quo rem band bor bxor bclr shl shr ieq ilt ile seq slt beq bnot orb bcond iwrap iof ssz hA cat sq sl imin imax smin smax len slen u8 hL op hop call hcall code hcode ret hret
    have e1 : len zs = Int.ofNat N := by rw [hL.len, hzl]; rfl
    cbv
    refine vcIf.no (by first | (simp [hA.not, hA.eq, hA.lt, hA.le, hA.cond, hA.beq, hA.orb, hL.len, hL.slen, hL.sq, e1, hc]; done) | (simp only [e1, hc]; simp [hA.not, hA.eq, hA.lt, hA.le, hA.cond, hA.beq, hA.orb, hL.len, hL.slen, hL.sq, e1, hc]; done) | (simp [hA.not, hA.eq, hA.lt, hA.le, hA.cond, hA.beq, hA.orb, hL.len, hL.slen, hL.sq, e1, hc]; omega) | (simp only [e1, hc]; simp [hA.not, hA.eq, hA.lt, hA.le, hA.cond, hA.beq, hA.orb, hL.len, hL.slen, hL.sq, e1, hc]; omega)) ?_
    cbv
    refine hcall _ _ _ _ _ (CallEv.same h1 rfl ?_)
    rintro _ _ ⟨rfl, rfl⟩
    cbv
    refine hcall _ _ _ _ _ (CallEv.same h2 rfl ?_)
    rintro _ _ ⟨rfl, rfl⟩
    cbv
    by_cases hn4 : 4 < N
    · rw [show min N 4 = 4 by omega] at h4
      refine vcIf.yes (by first | (simp [hA.not, hA.eq, hA.lt, hA.le, hA.cond, hA.beq, hA.orb, hL.len, hL.slen, hL.sq, e1, hn4]; done) | (simp only [e1, hn4]; simp [hA.not, hA.eq, hA.lt, hA.le, hA.cond, hA.beq, hA.orb, hL.len, hL.slen, hL.sq, e1, hn4]; done) | (simp [hA.not, hA.eq, hA.lt, hA.le, hA.cond, hA.beq, hA.orb, hL.len, hL.slen, hL.sq, e1, hn4]; omega) | (simp only [e1, hn4]; simp [hA.not, hA.eq, hA.lt, hA.le, hA.cond, hA.beq, hA.orb, hL.len, hL.slen, hL.sq, e1, hn4]; omega)) ?_
      cbv
      refine hcall _ _ _ _ _ (CallEv.same awake14_spec rfl ?_)
      rintro _ _ ⟨rfl, rfl⟩
      cbv
      repeat (first | (refine vcIf.yes ?_ ?_; (focus (simp [hA.not, hA.eq, hA.lt, hA.le, hA.cond, hA.beq, hA.orb, hL.len, hL.slen, hL.sq]; done)); cbv) | (refine vcIf.no ?_ ?_; (focus (simp [hA.not, hA.eq, hA.lt, hA.le, hA.cond, hA.beq, hA.orb, hL.len, hL.slen, hL.sq]; done)); cbv) | fail)
      refine hcall _ _ _ _ _ (CallEv.same h3 rfl ?_)
      rintro _ _ ⟨rfl, rfl⟩
      cbv
      repeat (first | (refine vcIf.yes ?_ ?_; (focus (simp [hA.not, hA.eq, hA.lt, hA.le, hA.cond, hA.beq, hA.orb, hL.len, hL.slen, hL.sq]; done)); cbv) | (refine vcIf.no ?_ ?_; (focus (simp [hA.not, hA.eq, hA.lt, hA.le, hA.cond, hA.beq, hA.orb, hL.len, hL.slen, hL.sq]; done)); cbv) | fail)
      refine hcall _ _ _ _ _ (CallEv.same h4 rfl ?_)
      rintro _ _ ⟨rfl, rfl⟩
      cbv
      exact hret _ (RetEv.ret eOk rfl (by simp [hA.not, hA.eq, hA.lt, hA.le, hA.cond, hA.beq, hA.orb, hL.len, hL.slen, hL.sq, oneOf]))
    · rw [show min N 4 = N by omega] at h4
      refine vcIf.no (by first | (simp [hA.not, hA.eq, hA.lt, hA.le, hA.cond, hA.beq, hA.orb, hL.len, hL.slen, hL.sq, e1, hn4]; done) | (simp only [e1, hn4]; simp [hA.not, hA.eq, hA.lt, hA.le, hA.cond, hA.beq, hA.orb, hL.len, hL.slen, hL.sq, e1, hn4]; done) | (simp [hA.not, hA.eq, hA.lt, hA.le, hA.cond, hA.beq, hA.orb, hL.len, hL.slen, hL.sq, e1, hn4]; omega) | (simp only [e1, hn4]; simp [hA.not, hA.eq, hA.lt, hA.le, hA.cond, hA.beq, hA.orb, hL.len, hL.slen, hL.sq, e1, hn4]; omega)) ?_
      cbv
      refine hcall _ _ _ _ _ (CallEv.same awake14_spec rfl ?_)
      rintro _ _ ⟨rfl, rfl⟩
      cbv
      repeat (first | (refine vcIf.yes ?_ ?_; (focus (simp [hA.not, hA.eq, hA.lt, hA.le, hA.cond, hA.beq, hA.orb, hL.len, hL.slen, hL.sq]; done)); cbv) | (refine vcIf.no ?_ ?_; (focus (simp [hA.not, hA.eq, hA.lt, hA.le, hA.cond, hA.beq, hA.orb, hL.len, hL.slen, hL.sq]; done)); cbv) | fail)
      refine hcall _ _ _ _ _ (CallEv.same h3 rfl ?_)
      rintro _ _ ⟨rfl, rfl⟩
      cbv
      repeat (first | (refine vcIf.yes ?_ ?_; (focus (simp [hA.not, hA.eq, hA.lt, hA.le, hA.cond, hA.beq, hA.orb, hL.len, hL.slen, hL.sq]; done)); cbv) | (refine vcIf.no ?_ ?_; (focus (simp [hA.not, hA.eq, hA.lt, hA.le, hA.cond, hA.beq, hA.orb, hL.len, hL.slen, hL.sq]; done)); cbv) | fail)
      refine hcall _ _ _ _ _ (CallEv.same h4 rfl ?_)
      rintro _ _ ⟨rfl, rfl⟩
      cbv
      exact hret _ (RetEv.ret eOk rfl (by simp [hA.not, hA.eq, hA.lt, hA.le, hA.cond, hA.beq, hA.orb, hL.len, hL.slen, hL.sq, oneOf, hzl]))

def noneL (n : Nat) : List Int := (List.range n).map fun i => ((2 + i % 2 : Nat) : Int)
def fineL (n : Nat) : List Int := List.replicate n 1
def sumCh : List Tx → Nat
  | [] => 0
  | t :: ts => t.ch.length + sumCh ts
theorem sumCh_app (a b : List Tx) : sumCh (a ++ b) = sumCh a + sumCh b := by
  induction a with
  | nil => simp [sumCh]
  | cons t a ih => simp only [List.cons_append, sumCh, ih]; omega
theorem noneL_next (n : Nat) : noneL (n + 1) = noneL n ++ [((2 + n % 2 : Nat) : Int)] := by simp [noneL, List.range_succ]
theorem fineL_next (n : Nat) : fineL (n + 1) = fineL n ++ [1] := List.replicate_succ'
theorem pkE_any : ∀ (ts : List Tx) (vs ws : List Int), vs.length = ts.length → ws.length = ts.length → (∀ v ∈ vs, okV v = true) → (∀ v ∈ ws, okV v = true) → pkE ts vs = pkE ts ws
  | [], _, _, _, _, _, _ => by simp [pkE]
  | t :: ts, v :: vs, w :: ws, h1, h2, h3, h4 => by
    simp only [pkE, h3 v (by simp), h4 w (by simp), true_and]
    rw [pkE_any ts vs ws (by simpa using h1) (by simpa using h2) (fun x hx => h3 x (by simp [hx])) (fun x hx => h4 x (by simp [hx]))]
  | _ :: _, [], _, h1, _, _, _ => by simp at h1
  | _ :: _, _ :: _, [], _, h2, _, _ => by simp at h2
theorem pkL_none : ∀ (ts : List Tx) (vs : List Int), (∀ v ∈ vs, v ≠ 1) → pkL ts vs = []
  | [], _, _ => by simp [pkL]
  | _ :: _, [], _ => by simp [pkL]
  | t :: ts, v :: vs, h => by simp only [pkL]; rw [if_neg (h v (by simp)), pkL_none ts vs fun x hx => h x (by simp [hx])]; rfl
theorem pkL_fine : ∀ (ts : List Tx), (pkL ts (fineL ts.length)).length = sumCh ts
  | [] => by simp [pkL, sumCh]
  | t :: ts => by
    have := pkL_fine ts
    simp only [List.length_cons, fineL, List.replicate_succ, pkL, if_pos rfl, List.length_append, sumCh] at this ⊢
    rw [← this]; simp [fineL]
theorem all_law (us : List Tx) : pickE us (noneL us.length) = pickE us (fineL us.length) ∧ pickR us (noneL us.length) = [] ∧ (pickE us (fineL us.length) = 0 → (pickR us (fineL us.length)).length = sumCh us) := by
  have hn : (noneL us.length).length = us.length := by simp [noneL]
  have hf : (fineL us.length).length = us.length := by simp [fineL]
  have he : pickE us (noneL us.length) = pickE us (fineL us.length) := by
    rw [pickE, pickE, if_pos hn.symm, if_pos hf.symm]
    refine pkE_any us _ _ hn hf (fun v hv => ?_) (fun v hv => ?_)
    · obtain ⟨i, _, rfl⟩ := List.mem_map.1 hv
      exact decide_eq_true (by omega)
    · rw [(List.mem_replicate.1 hv).2]; rfl
  refine ⟨he, ?_, fun h => ?_⟩
  · have : pkL us (noneL us.length) = [] := pkL_none us _ fun v hv => by
      obtain ⟨i, _, rfl⟩ := List.mem_map.1 hv
      omega
    unfold pickR; rw [this]; split <;> rfl
  · rw [pickR, if_pos h]; exact pkL_fine us

theorem all40 (ts : List Tx) (hf : ∀ t ∈ ts, t.fit ∧ t.ch.length * 40 ≤ 140737488355328) (hn : ts.length ≤ 281474976710656) :
    FnL Try.prog 7 [.p (.sl (tP ts))] [] fun z own => z = .p (.bool true) := by
  obtain ⟨us, hus⟩ : ∃ us, us = if 40 < ts.length then ts.take 40 else ts := ⟨_, rfl⟩
  have huf : ∀ t ∈ us, t.fit ∧ t.ch.length * 40 ≤ 140737488355328 := fun t ht => by
    rw [hus] at ht; split at ht
    · exact hf t (List.mem_of_mem_take ht)
    · exact hf t ht
  have hub : ∀ t ∈ us, t.ch.length ≤ 140737488355328 := fun t ht => by have := (huf t ht).2; omega
  have hul : us.length ≤ 40 := by
    rw [hus]; split
    · simp only [List.length_take]; omega
    · omega
  obtain ⟨n, hnn⟩ : ∃ n, n = us.length := ⟨_, rfl⟩
  have h1 := fun zs ys hzs hys => vPick_spec us (fineL n) (fun t ht => (huf t ht).1) (by omega) (by simp [fineL]; omega) zs ys hzs hys
  have h2 := fun zs ys hzs hys => vPick_spec us (noneL n) (fun t ht => (huf t ht).1) (by omega) (by simp [noneL]; omega) zs ys hzs hys
  obtain ⟨l1, l2, l3⟩ := all_law us
  rw [← hnn] at l1 l2 l3
  rw [l1, l2] at h2
  obtain ⟨R, hRR⟩ : ∃ x, x = cP (pickR us (fineL n)) := ⟨_, rfl⟩
  obtain ⟨e, he⟩ : ∃ x, x = pickE us (fineL n) := ⟨_, rfl⟩
  have hRl : e = 0 → R.length = sumCh us := fun h => by rw [hRR, cP_length]; exact l3 (he.symm.trans h)
  rw [← hRR, ← he] at h1
  rw [← he] at h2
  obtain ⟨N, hN⟩ : ∃ n, n = ts.length := ⟨_, rfl⟩
  obtain ⟨zs, hzs⟩ : ∃ x, x = tP ts := ⟨_, rfl⟩
  have hzl : zs.length = N := by rw [hzs, tP_length, hN]
  have hwz : ∀ y ∈ zs, y.cells.length = 3 := fun y hy => by rw [hzs] at hy; exact (tP_wf ts y hy).1
  rw [← hzs]
  by_cases hc : 40 < N
  · have hcut : zs.take 40 = tP us := by rw [hus, if_pos (by omega)]; exact cut40 (by omega) zs hzs
    have hn40 : n = 40 := by rw [hnn, hus, if_pos (by omega)]; simp; omega
    refine fn_of_vc eOk fOk fo7 Try.func7 rfl rfl rfl fun B hB => ?_
    intro add sub mul quo rem band bor bxor bclr shl shr ieq ilt ile seq slt beq bnot orb bcond iwrap iof ssz hA cat sq sl imin imax smin smax len slen u8 hL op hop call hcall code hcode ret hret
    have e1 : len zs = Int.ofNat N := by rw [hL.len, hzl]; rfl
    cbv
    refine vcIf.yes (by first | (simp [hA.not, hA.eq, hA.lt, hA.le, hA.cond, hA.beq, hA.orb, hL.len, hL.slen, hL.sq, e1, hc]; done) | (simp only [e1, hc]; simp [hA.not, hA.eq, hA.lt, hA.le, hA.cond, hA.beq, hA.orb, hL.len, hL.slen, hL.sq, e1, hc]; done) | (simp [hA.not, hA.eq, hA.lt, hA.le, hA.cond, hA.beq, hA.orb, hL.len, hL.slen, hL.sq, e1, hc]; omega) | (simp only [e1, hc]; simp [hA.not, hA.eq, hA.lt, hA.le, hA.cond, hA.beq, hA.orb, hL.len, hL.slen, hL.sq, e1, hc]; omega)) ?_
    cbv
    refine ⟨0, 40, _, rfl, rfl, rfl, by decide, by omega, Nat.le_refl _, hwz, fun ws hws => ?_⟩
    replace hws : ws = tP us := by rw [hws, ← hcut]; rfl
    have hwl : ws.length = n := by rw [hws, tP_length, hnn]
    cbv
    refine ⟨true, ?_⟩
    cbv
    refine ⟨true, ?_⟩
    cbv
    refine hcode _ _ _ (CodeEv.loop eOk fOk (ι := Nat × Nat × List PV × List PV) (fun s => [(0, .p (.sl ws)), (3, .vw 0 1 0 s.1 none), (4, .vw 1 1 0 s.1 none), (5, .p (.int .i64 (Int.ofNat s.2.1))), (6, .p (.int .i64 (Int.ofNat s.1)))])
      (fun s => [.arr 3 1 s.2.2.1, .arr 3 1 s.2.2.2]) (fun s => s.1 ≤ n ∧ s.2.1 = sumCh (us.take s.1) ∧ s.2.1 ≤ 140737488355328 * s.1 ∧ s.2.2.1 = iP (fineL s.1) ∧ s.2.2.2 = iP (noneL s.1)) (fun s => n - s.1) (0, 0, [], []) ?_ ?_)
    · exact ⟨(by repeat (first | exact trivial | refine And.intro rfl ?_)), rfl, Nat.zero_le _, rfl, Nat.le_refl _, rfl, rfl⟩
    rintro ⟨i, q, fs, gs⟩ ⟨k1, k2, k3, k4, k5⟩ rd hrd
    simp only at k1 k2 k3 k4 k5
    have hfl : fs.length = i := by rw [k4, iP_length]; simp [fineL]
    have hgl : gs.length = i := by rw [k5, iP_length]; simp [noneL]
    by_cases hi : i < n
    · refine Exists.elim (get_of_lt (show i < us.length by omega)) fun t ht => ?_
      have hwi : ws[i]? = some (.agg [.int .i64 t.r, .sl (pP t.sp), .sl (cP t.ch)]) := by rw [hws]; exact tP_get ht
      have htb := hub t (List.mem_of_getElem? ht)
      have hsum : sumCh (us.take (i + 1)) = q + t.ch.length := by rw [List.take_add_one, ht, sumCh_app, ← k2]; simp [sumCh]
      refine Exists.elim (show ∃ b, b = pP t.sp from ⟨_, rfl⟩) fun xs hxs => ?_
      refine Exists.elim (show ∃ b, b = cP t.ch from ⟨_, rfl⟩) fun cs hcs => ?_
      refine Exists.elim (show ∃ b, b = t.r from ⟨_, rfl⟩) fun r hr => ?_
      refine Exists.elim (show ∃ b, b = t.ch.length from ⟨_, rfl⟩) fun cl hcl => ?_
      refine Exists.elim (show ∃ b, b = q + cl from ⟨_, rfl⟩) fun q' hq' => ?_
      have hcsl : cs.length = cl := by rw [hcs, cP_length, hcl]
      rw [← hxs, ← hcs, ← hr] at hwi
      rw [← hcl] at htb hsum
      rw [← hq'] at hsum
      clear hxs hcs hr hcl
      intro add1 sub1 mul1 quo1 rem1 band1 bor1 bxor1 bclr1 shl1 shr1 ieq1 ilt1 ile1 seq1 slt1 beq1 bnot1 orb1 bcond1 iwrap1 iof1 ssz1 hA1 cat1 sq1 sl1 imin1 imax1 smin1 smax1 len1 slen1 u81 hL1 op1 hop1 call1 hcall1 code1 hcode1
      have e3 : len1 ws = Int.ofNat n := by rw [hL1.len, hwl]; rfl
      have e4 : len1 cs = Int.ofNat cl := by rw [hL1.len, hcsl]; rfl
      have hadd1 : add1 .i64 (Int.ofNat i) 1 = Int.ofNat (i + 1) := by rw [hA1.add, IntWalk.i64_in _ (by simp only [Int.ofNat_eq_natCast]; omega)]; rfl
      have hadd2 : add1 .i64 (Int.ofNat q) (len1 cs) = Int.ofNat q' := by rw [e4, hA1.add, IntWalk.i64_in _ (by simp only [Int.ofNat_eq_natCast]; omega), hq']; rfl
      have hrem : add1 .i64 2 (rem1 (Int.ofNat i) 2) = ((2 + i % 2 : Nat) : Int) := by
        rw [hA1.rem, hA1.add, show (Int.ofNat i).tmod 2 = ((i % 2 : Nat) : Int) from rfl, IntWalk.i64_in _ (by omega)]; omega
      cbv
      refine vcIf.yes (by first | (simp [hA1.not, hA1.eq, hA1.lt, hA1.le, hA1.cond, hA1.beq, hA1.orb, hL1.len, hL1.slen, hL1.sq, e3, hi]; done) | (simp only [e3, hi]; simp [hA1.not, hA1.eq, hA1.lt, hA1.le, hA1.cond, hA1.beq, hA1.orb, hL1.len, hL1.slen, hL1.sq, e3, hi]; done) | (simp [hA1.not, hA1.eq, hA1.lt, hA1.le, hA1.cond, hA1.beq, hA1.orb, hL1.len, hL1.slen, hL1.sq, e3, hi]; omega) | (simp only [e3, hi]; simp [hA1.not, hA1.eq, hA1.lt, hA1.le, hA1.cond, hA1.beq, hA1.orb, hL1.len, hL1.slen, hL1.sq, e3, hi]; omega)) ?_
      cbv
      refine ⟨false, ?_⟩
      cbv
      refine .inl ⟨(), rfl, hfl.symm, Wf.one (PV.wf1 rfl), ?_, ?_, ?_⟩
      · show i + 1 ≤ maxLen
        unfold maxLen; omega
      · show (i + 1) * 8 ≤ _
        omega
      intro fs' n1 hf1 hn1
      replace hf1 : fs' = fs ++ [.int .i64 1] := hf1
      replace hn1 : n1 = i + 1 := hn1
      cbv
      refine ⟨false, ?_⟩
      cbv
      refine .inl ⟨(), rfl, hgl.symm, Wf.one (PV.wf1 rfl), ?_, ?_, ?_⟩
      · show i + 1 ≤ maxLen
        unfold maxLen; omega
      · show (i + 1) * 8 ≤ _
        omega
      intro gs' n2 hg1 hn2
      replace hg1 : gs' = gs ++ [.int .i64 (add1 .i64 2 (rem1 (Int.ofNat i) 2))] := hg1
      rw [hrem] at hg1
      replace hn2 : n2 = i + 1 := hn2
      cbv
      refine ⟨i, _, rfl, hwi, rfl, ?_⟩
      cbv
      refine hrd _ ⟨(i + 1, q', fs', gs'), _, ?_, ⟨by simp only; omega, hsum.symm, ?_, ?_, ?_⟩, rfl, ⟨rfl, ?_, ?_, ?_, ?_, trivial⟩, rfl, rfl, rfl, ?_⟩
      · simp only; omega
      · simp only; omega
      · simp only; rw [hf1, k4, fineL_next, iP_append]; rfl
      · simp only; rw [hg1, k5, noneL_next, iP_append]; rfl
      · show some (V.vw 0 1 0 n1 none) = _
        rw [hn1]
      · show some (V.vw 1 1 0 n2 none) = _
        rw [hn2]
      · show some (V.p (.int .i64 _)) = _
        rw [hadd2]
      · show some (V.p (.int .i64 _)) = _
        rw [hadd1]
      · rw [hB]; exact Nat.zero_le _
    · have hin : i = n := by omega
      rw [List.take_of_length_le (by omega)] at k2
      rw [hin] at k4 k5 hfl hgl
      have h1 := fun fs hfs => h1 ws fs hws hfs
      have h2 := fun fs hfs => h2 ws fs hws hfs
      intro add1 sub1 mul1 quo1 rem1 band1 bor1 bxor1 bclr1 shl1 shr1 ieq1 ilt1 ile1 seq1 slt1 beq1 bnot1 orb1 bcond1 iwrap1 iof1 ssz1 hA1 cat1 sq1 sl1 imin1 imax1 smin1 smax1 len1 slen1 u81 hL1 op1 hop1 call1 hcall1 code1 hcode1
      have e3 : len1 ws = Int.ofNat n := by rw [hL1.len, hwl]; rfl
      cbv
      refine vcIf.no (by first | (simp [hA1.not, hA1.eq, hA1.lt, hA1.le, hA1.cond, hA1.beq, hA1.orb, hL1.len, hL1.slen, hL1.sq, e3, hi]; done) | (simp only [e3, hi]; simp [hA1.not, hA1.eq, hA1.lt, hA1.le, hA1.cond, hA1.beq, hA1.orb, hL1.len, hL1.slen, hL1.sq, e3, hi]; done) | (simp [hA1.not, hA1.eq, hA1.lt, hA1.le, hA1.cond, hA1.beq, hA1.orb, hL1.len, hL1.slen, hL1.sq, e3, hi]; omega) | (simp only [e3, hi]; simp [hA1.not, hA1.eq, hA1.lt, hA1.le, hA1.cond, hA1.beq, hA1.orb, hL1.len, hL1.slen, hL1.sq, e3, hi]; omega)) ?_
      cbv
      refine hcall _ _ _ _ _ (CallEv.freezeG 0 rfl (by rw [hB]; exact Nat.zero_le _) fun g hg => CallEv.same (h1 (g 0 i) (by rw [hg, hin, frz_full hfl]; exact k4)) rfl ?_)
      rintro _ _ ⟨rfl, rfl⟩
      cbv
      refine hcall _ _ _ _ _ (CallEv.freezeG 1 rfl (by rw [hB]; exact Nat.zero_le _) fun g hg => CallEv.same (h2 (g 0 i) (by rw [hg, hin, frz_full hgl]; exact k5)) rfl ?_)
      rintro _ _ ⟨rfl, rfl⟩
      cbv
      refine hcall _ _ _ _ _ (CallEv.same awake14_spec rfl ?_)
      rintro _ _ ⟨rfl, rfl⟩
      cbv
      repeat (first | (refine vcIf.yes ?_ ?_; (focus (simp [hA.not, hA.eq, hA.lt, hA.le, hA.cond, hA.beq, hA.orb, hL.len, hL.slen, hL.sq]; done)); cbv) | (refine vcIf.no ?_ ?_; (focus (simp [hA.not, hA.eq, hA.lt, hA.le, hA.cond, hA.beq, hA.orb, hL.len, hL.slen, hL.sq]; done)); cbv) | fail)
      by_cases he0 : e = 0
      · have hRl := hRl he0
        have e5 : len R = Int.ofNat q := by rw [hL.len, hRl, k2]; rfl
        refine vcIf.no (by first | (simp [hA.not, hA.eq, hA.lt, hA.le, hA.cond, hA.beq, hA.orb, hL.len, hL.slen, hL.sq, he0]; done) | (simp only [he0]; simp [hA.not, hA.eq, hA.lt, hA.le, hA.cond, hA.beq, hA.orb, hL.len, hL.slen, hL.sq, he0]; done) | (simp [hA.not, hA.eq, hA.lt, hA.le, hA.cond, hA.beq, hA.orb, hL.len, hL.slen, hL.sq, he0]; omega) | (simp only [he0]; simp [hA.not, hA.eq, hA.lt, hA.le, hA.cond, hA.beq, hA.orb, hL.len, hL.slen, hL.sq, he0]; omega)) ?_
        cbv
        refine hret _ (RetEv.ret eOk rfl ?_)
        simp [oneOf, hA.not, hA.eq, hA.cond, hL.len, he0, hRl, k2, cond]
      · refine vcIf.yes (by first | (simp [hA.not, hA.eq, hA.lt, hA.le, hA.cond, hA.beq, hA.orb, hL.len, hL.slen, hL.sq, he0]; done) | (simp only [he0]; simp [hA.not, hA.eq, hA.lt, hA.le, hA.cond, hA.beq, hA.orb, hL.len, hL.slen, hL.sq, he0]; done) | (simp [hA.not, hA.eq, hA.lt, hA.le, hA.cond, hA.beq, hA.orb, hL.len, hL.slen, hL.sq, he0]; omega) | (simp only [he0]; simp [hA.not, hA.eq, hA.lt, hA.le, hA.cond, hA.beq, hA.orb, hL.len, hL.slen, hL.sq, he0]; omega)) ?_
        cbv
        refine hret _ (RetEv.ret eOk rfl ?_)
        simp [oneOf, hA.not, hA.eq, hA.cond, hL.len, he0, cond]
  · have husz : us = ts := by rw [hus, if_neg (by omega)]
    have hnN : n = N := by rw [hnn, husz, hN]
    obtain ⟨ws, hww⟩ : ∃ x, x = zs := ⟨_, rfl⟩
    have hws : ws = tP us := by rw [hww, hzs, husz]
    have hwl : ws.length = n := by rw [hws, tP_length, hnn]
    rw [← hww]
    refine fn_of_vc eOk fOk fo7 Try.func7 rfl rfl rfl fun B hB => ?_
    intro add sub mul quo rem band bor bxor bclr shl shr ieq ilt ile seq slt beq bnot orb bcond iwrap iof ssz hA cat sq sl imin imax smin smax len slen u8 hL op hop call hcall code hcode ret hret
    have e1 : len ws = Int.ofNat N := by rw [hL.len, hwl, hnN]; rfl
    cbv
    refine vcIf.no (by first | (simp [hA.not, hA.eq, hA.lt, hA.le, hA.cond, hA.beq, hA.orb, hL.len, hL.slen, hL.sq, e1, hc]; done) | (simp only [e1, hc]; simp [hA.not, hA.eq, hA.lt, hA.le, hA.cond, hA.beq, hA.orb, hL.len, hL.slen, hL.sq, e1, hc]; done) | (simp [hA.not, hA.eq, hA.lt, hA.le, hA.cond, hA.beq, hA.orb, hL.len, hL.slen, hL.sq, e1, hc]; omega) | (simp only [e1, hc]; simp [hA.not, hA.eq, hA.lt, hA.le, hA.cond, hA.beq, hA.orb, hL.len, hL.slen, hL.sq, e1, hc]; omega)) ?_
    cbv
    refine ⟨true, ?_⟩
    cbv
    refine ⟨true, ?_⟩
    cbv
    refine hcode _ _ _ (CodeEv.loop eOk fOk (ι := Nat × Nat × List PV × List PV) (fun s => [(0, .p (.sl ws)), (3, .vw 0 1 0 s.1 none), (4, .vw 1 1 0 s.1 none), (5, .p (.int .i64 (Int.ofNat s.2.1))), (6, .p (.int .i64 (Int.ofNat s.1)))])
      (fun s => [.arr 3 1 s.2.2.1, .arr 3 1 s.2.2.2]) (fun s => s.1 ≤ n ∧ s.2.1 = sumCh (us.take s.1) ∧ s.2.1 ≤ 140737488355328 * s.1 ∧ s.2.2.1 = iP (fineL s.1) ∧ s.2.2.2 = iP (noneL s.1)) (fun s => n - s.1) (0, 0, [], []) ?_ ?_)
    · exact ⟨(by repeat (first | exact trivial | refine And.intro rfl ?_)), rfl, Nat.zero_le _, rfl, Nat.le_refl _, rfl, rfl⟩
    rintro ⟨i, q, fs, gs⟩ ⟨k1, k2, k3, k4, k5⟩ rd hrd
    simp only at k1 k2 k3 k4 k5
    have hfl : fs.length = i := by rw [k4, iP_length]; simp [fineL]
    have hgl : gs.length = i := by rw [k5, iP_length]; simp [noneL]
    by_cases hi : i < n
    · refine Exists.elim (get_of_lt (show i < us.length by omega)) fun t ht => ?_
      have hwi : ws[i]? = some (.agg [.int .i64 t.r, .sl (pP t.sp), .sl (cP t.ch)]) := by rw [hws]; exact tP_get ht
      have htb := hub t (List.mem_of_getElem? ht)
      have hsum : sumCh (us.take (i + 1)) = q + t.ch.length := by rw [List.take_add_one, ht, sumCh_app, ← k2]; simp [sumCh]
      refine Exists.elim (show ∃ b, b = pP t.sp from ⟨_, rfl⟩) fun xs hxs => ?_
      refine Exists.elim (show ∃ b, b = cP t.ch from ⟨_, rfl⟩) fun cs hcs => ?_
      refine Exists.elim (show ∃ b, b = t.r from ⟨_, rfl⟩) fun r hr => ?_
      refine Exists.elim (show ∃ b, b = t.ch.length from ⟨_, rfl⟩) fun cl hcl => ?_
      refine Exists.elim (show ∃ b, b = q + cl from ⟨_, rfl⟩) fun q' hq' => ?_
      have hcsl : cs.length = cl := by rw [hcs, cP_length, hcl]
      rw [← hxs, ← hcs, ← hr] at hwi
      rw [← hcl] at htb hsum
      rw [← hq'] at hsum
      clear hxs hcs hr hcl
      intro add1 sub1 mul1 quo1 rem1 band1 bor1 bxor1 bclr1 shl1 shr1 ieq1 ilt1 ile1 seq1 slt1 beq1 bnot1 orb1 bcond1 iwrap1 iof1 ssz1 hA1 cat1 sq1 sl1 imin1 imax1 smin1 smax1 len1 slen1 u81 hL1 op1 hop1 call1 hcall1 code1 hcode1
      have e3 : len1 ws = Int.ofNat n := by rw [hL1.len, hwl]; rfl
      have e4 : len1 cs = Int.ofNat cl := by rw [hL1.len, hcsl]; rfl
      have hadd1 : add1 .i64 (Int.ofNat i) 1 = Int.ofNat (i + 1) := by rw [hA1.add, IntWalk.i64_in _ (by simp only [Int.ofNat_eq_natCast]; omega)]; rfl
      have hadd2 : add1 .i64 (Int.ofNat q) (len1 cs) = Int.ofNat q' := by rw [e4, hA1.add, IntWalk.i64_in _ (by simp only [Int.ofNat_eq_natCast]; omega), hq']; rfl
      have hrem : add1 .i64 2 (rem1 (Int.ofNat i) 2) = ((2 + i % 2 : Nat) : Int) := by
        rw [hA1.rem, hA1.add, show (Int.ofNat i).tmod 2 = ((i % 2 : Nat) : Int) from rfl, IntWalk.i64_in _ (by omega)]; omega
      cbv
      refine vcIf.yes (by first | (simp [hA1.not, hA1.eq, hA1.lt, hA1.le, hA1.cond, hA1.beq, hA1.orb, hL1.len, hL1.slen, hL1.sq, e3, hi]; done) | (simp only [e3, hi]; simp [hA1.not, hA1.eq, hA1.lt, hA1.le, hA1.cond, hA1.beq, hA1.orb, hL1.len, hL1.slen, hL1.sq, e3, hi]; done) | (simp [hA1.not, hA1.eq, hA1.lt, hA1.le, hA1.cond, hA1.beq, hA1.orb, hL1.len, hL1.slen, hL1.sq, e3, hi]; omega) | (simp only [e3, hi]; simp [hA1.not, hA1.eq, hA1.lt, hA1.le, hA1.cond, hA1.beq, hA1.orb, hL1.len, hL1.slen, hL1.sq, e3, hi]; omega)) ?_
      cbv
      refine ⟨false, ?_⟩
      cbv
      refine .inl ⟨(), rfl, hfl.symm, Wf.one (PV.wf1 rfl), ?_, ?_, ?_⟩
      · show i + 1 ≤ maxLen
        unfold maxLen; omega
      · show (i + 1) * 8 ≤ _
        omega
      intro fs' n1 hf1 hn1
      replace hf1 : fs' = fs ++ [.int .i64 1] := hf1
      replace hn1 : n1 = i + 1 := hn1
      cbv
      refine ⟨false, ?_⟩
      cbv
      refine .inl ⟨(), rfl, hgl.symm, Wf.one (PV.wf1 rfl), ?_, ?_, ?_⟩
      · show i + 1 ≤ maxLen
        unfold maxLen; omega
      · show (i + 1) * 8 ≤ _
        omega
      intro gs' n2 hg1 hn2
      replace hg1 : gs' = gs ++ [.int .i64 (add1 .i64 2 (rem1 (Int.ofNat i) 2))] := hg1
      rw [hrem] at hg1
      replace hn2 : n2 = i + 1 := hn2
      cbv
      refine ⟨i, _, rfl, hwi, rfl, ?_⟩
      cbv
      refine hrd _ ⟨(i + 1, q', fs', gs'), _, ?_, ⟨by simp only; omega, hsum.symm, ?_, ?_, ?_⟩, rfl, ⟨rfl, ?_, ?_, ?_, ?_, trivial⟩, rfl, rfl, rfl, ?_⟩
      · simp only; omega
      · simp only; omega
      · simp only; rw [hf1, k4, fineL_next, iP_append]; rfl
      · simp only; rw [hg1, k5, noneL_next, iP_append]; rfl
      · show some (V.vw 0 1 0 n1 none) = _
        rw [hn1]
      · show some (V.vw 1 1 0 n2 none) = _
        rw [hn2]
      · show some (V.p (.int .i64 _)) = _
        rw [hadd2]
      · show some (V.p (.int .i64 _)) = _
        rw [hadd1]
      · rw [hB]; exact Nat.zero_le _
    · have hin : i = n := by omega
      rw [List.take_of_length_le (by omega)] at k2
      rw [hin] at k4 k5 hfl hgl
      have h1 := fun fs hfs => h1 ws fs hws hfs
      have h2 := fun fs hfs => h2 ws fs hws hfs
      intro add1 sub1 mul1 quo1 rem1 band1 bor1 bxor1 bclr1 shl1 shr1 ieq1 ilt1 ile1 seq1 slt1 beq1 bnot1 orb1 bcond1 iwrap1 iof1 ssz1 hA1 cat1 sq1 sl1 imin1 imax1 smin1 smax1 len1 slen1 u81 hL1 op1 hop1 call1 hcall1 code1 hcode1
      have e3 : len1 ws = Int.ofNat n := by rw [hL1.len, hwl]; rfl
      cbv
      refine vcIf.no (by first | (simp [hA1.not, hA1.eq, hA1.lt, hA1.le, hA1.cond, hA1.beq, hA1.orb, hL1.len, hL1.slen, hL1.sq, e3, hi]; done) | (simp only [e3, hi]; simp [hA1.not, hA1.eq, hA1.lt, hA1.le, hA1.cond, hA1.beq, hA1.orb, hL1.len, hL1.slen, hL1.sq, e3, hi]; done) | (simp [hA1.not, hA1.eq, hA1.lt, hA1.le, hA1.cond, hA1.beq, hA1.orb, hL1.len, hL1.slen, hL1.sq, e3, hi]; omega) | (simp only [e3, hi]; simp [hA1.not, hA1.eq, hA1.lt, hA1.le, hA1.cond, hA1.beq, hA1.orb, hL1.len, hL1.slen, hL1.sq, e3, hi]; omega)) ?_
      cbv
      refine hcall _ _ _ _ _ (CallEv.freezeG 0 rfl (by rw [hB]; exact Nat.zero_le _) fun g hg => CallEv.same (h1 (g 0 i) (by rw [hg, hin, frz_full hfl]; exact k4)) rfl ?_)
      rintro _ _ ⟨rfl, rfl⟩
      cbv
      refine hcall _ _ _ _ _ (CallEv.freezeG 1 rfl (by rw [hB]; exact Nat.zero_le _) fun g hg => CallEv.same (h2 (g 0 i) (by rw [hg, hin, frz_full hgl]; exact k5)) rfl ?_)
      rintro _ _ ⟨rfl, rfl⟩
      cbv
      refine hcall _ _ _ _ _ (CallEv.same awake14_spec rfl ?_)
      rintro _ _ ⟨rfl, rfl⟩
      cbv
      repeat (first | (refine vcIf.yes ?_ ?_; (focus (simp [hA.not, hA.eq, hA.lt, hA.le, hA.cond, hA.beq, hA.orb, hL.len, hL.slen, hL.sq]; done)); cbv) | (refine vcIf.no ?_ ?_; (focus (simp [hA.not, hA.eq, hA.lt, hA.le, hA.cond, hA.beq, hA.orb, hL.len, hL.slen, hL.sq]; done)); cbv) | fail)
      by_cases he0 : e = 0
      · have hRl := hRl he0
        have e5 : len R = Int.ofNat q := by rw [hL.len, hRl, k2]; rfl
        refine vcIf.no (by first | (simp [hA.not, hA.eq, hA.lt, hA.le, hA.cond, hA.beq, hA.orb, hL.len, hL.slen, hL.sq, he0]; done) | (simp only [he0]; simp [hA.not, hA.eq, hA.lt, hA.le, hA.cond, hA.beq, hA.orb, hL.len, hL.slen, hL.sq, he0]; done) | (simp [hA.not, hA.eq, hA.lt, hA.le, hA.cond, hA.beq, hA.orb, hL.len, hL.slen, hL.sq, he0]; omega) | (simp only [he0]; simp [hA.not, hA.eq, hA.lt, hA.le, hA.cond, hA.beq, hA.orb, hL.len, hL.slen, hL.sq, he0]; omega)) ?_
        cbv
        refine hret _ (RetEv.ret eOk rfl ?_)
        simp [oneOf, hA.not, hA.eq, hA.cond, hL.len, he0, hRl, k2, cond]
      · refine vcIf.yes (by first | (simp [hA.not, hA.eq, hA.lt, hA.le, hA.cond, hA.beq, hA.orb, hL.len, hL.slen, hL.sq, he0]; done) | (simp only [he0]; simp [hA.not, hA.eq, hA.lt, hA.le, hA.cond, hA.beq, hA.orb, hL.len, hL.slen, hL.sq, he0]; done) | (simp [hA.not, hA.eq, hA.lt, hA.le, hA.cond, hA.beq, hA.orb, hL.len, hL.slen, hL.sq, he0]; omega) | (simp only [he0]; simp [hA.not, hA.eq, hA.lt, hA.le, hA.cond, hA.beq, hA.orb, hL.len, hL.slen, hL.sq, he0]; omega)) ?_
        cbv
        refine hret _ (RetEv.ret eOk rfl ?_)
        simp [oneOf, hA.not, hA.eq, hA.cond, hL.len, he0, cond]
end Go.Proofs.Ytocmeaamaecgeaa
