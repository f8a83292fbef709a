/- What verdict.Pick answers: the changes of those that are fine. Conditions: on sizes. -/
import Derived.Test.YtocmeaamaecgeaaLCl1
import Derived.Test.YtocmeaamaecgeaaLVr5
set_option maxRecDepth 100000
set_option maxHeartbeats 4000000
set_option linter.unusedSimpArgs false
set_option linter.unusedVariables false
namespace Go.Proofs.Ytocmeaamaecgeaa
open Go Go.Lx
open Go.Sx (vcIf)

def tP (ts : List Tx) : List PV := ts.map Tx.v
theorem tP_length (ts : List Tx) : (tP ts).length = ts.length := List.length_map _
theorem tP_get {ts : List Tx} {i : Nat} {t : Tx} (h : ts[i]? = some t) : (tP ts)[i]? = some (.agg [.int .i64 t.r, .sl (pP t.sp), .sl (cP t.ch)]) := by unfold tP; rw [List.getElem?_map, h]; rfl
theorem tP_wf (ts : List Tx) : Wf 3 (tP ts) := fun x hx => by obtain ⟨c, _, rfl⟩ := List.mem_map.1 hx; exact ⟨rfl, fun u hu => by simp [Tx.v, PV.cells] at hu; rcases hu with rfl | rfl | rfl <;> rfl⟩
/-- The pairs of transactions and verdicts, one behind the other. -/
def pkE : List Tx → List Int → Int
  | t :: ts, v :: vs => if okV v = true ∧ t.okB = true then pkE ts vs else 2
  | _, _ => 0
def pkL : List Tx → List Int → List Chg
  | t :: ts, v :: vs => (if v = 1 then t.ch else []) ++ pkL ts vs
  | _, _ => []
def pickE (ts : List Tx) (vs : List Int) : Int := if ts.length = vs.length then pkE ts vs else 1
def pickR (ts : List Tx) (vs : List Int) : List Chg := if pickE ts vs = 0 then pkL ts vs else []
theorem pkE_step : ∀ (i : Nat) (ts : List Tx) (vs : List Int) (t : Tx) (v : Int), ts[i]? = some t → vs[i]? = some v → pkE (ts.take i) (vs.take i) = 0 →
    (okV v = true ∧ t.okB = true → pkE (ts.take (i + 1)) (vs.take (i + 1)) = 0) ∧ (¬ (okV v = true ∧ t.okB = true) → pkE ts vs = 2)
  | 0, t' :: ts, v' :: vs, t, v, ht, hv, _ => by
    simp at ht hv; subst ht hv
    refine ⟨fun h => by simp [pkE, h], fun h => by simp only [pkE]; rw [if_neg h]⟩
  | i + 1, t' :: ts, v' :: vs, t, v, ht, hv, h => by
    simp only [List.getElem?_cons_succ] at ht hv
    simp only [List.take_succ_cons, pkE] at h ⊢
    split at h
    · rename_i h0
      rw [if_pos h0, if_pos h0]
      exact pkE_step i ts vs t v ht hv h
    · cases h
  | 0, [], _, t, v, ht, _, _ => by simp at ht
  | 0, _ :: _, [], t, v, _, hv, _ => by simp at hv
  | i + 1, [], _, t, v, ht, _, _ => by simp at ht
  | i + 1, _ :: _, [], t, v, _, hv, _ => by simp at hv
theorem pkL_step : ∀ (i : Nat) (ts : List Tx) (vs : List Int) (t : Tx) (v : Int), ts[i]? = some t → vs[i]? = some v → pkL (ts.take (i + 1)) (vs.take (i + 1)) = pkL (ts.take i) (vs.take i) ++ (if v = 1 then t.ch else [])
  | 0, t' :: ts, v' :: vs, t, v, ht, hv => by
    simp at ht hv; subst ht hv
    simp [pkL]
  | i + 1, t' :: ts, v' :: vs, t, v, ht, hv => by
    simp only [List.getElem?_cons_succ] at ht hv
    simp only [List.take_succ_cons, pkL]
    have := pkL_step i ts vs t v ht hv
    rw [this, List.append_assoc]
  | 0, [], _, t, v, ht, _ => by simp at ht
  | 0, _ :: _, [], t, v, _, hv => by simp at hv
  | i + 1, [], _, t, v, ht, _ => by simp at ht
  | i + 1, _ :: _, [], t, v, _, hv => by simp at hv
theorem pkL_len : ∀ (ts : List Tx) (vs : List Int), pkE ts vs = 0 → (pkL ts vs).length ≤ 24 * ts.length
  | [], _, _ => by simp [pkL]
  | _ :: _, [], _ => by simp [pkL]
  | t :: ts, v :: vs, h => by
    simp only [pkE] at h
    split at h
    · rename_i h0
      have h1 := pkL_len ts vs h
      have h2 := (t.ok_iff.1 h0.2).2.2.1
      simp only [pkL, List.length_append, List.length_cons]
      split
      · omega
      · simp only [List.length_nil]; omega
    · cases h

theorem vPick_spec (ts : List Tx) (vs : List Int) (hf : ∀ t ∈ ts, t.fit) (hn : ts.length ≤ 1000000) (hv : vs.length * 8 ≤ 140737488355328) (zs ys : List PV) (hzs : zs = tP ts) (hys : ys = iP vs) :
    FnL Try.prog 16 [.p (.sl zs), .p (.sl ys)] [] fun v own => v = .p (.tup [.sl (cP (pickR ts vs)), .int .i64 (pickE ts vs)]) ∧ own = [] := by
  obtain ⟨R1, hR1⟩ : ∃ x, x = PV.sl (cP (pickR ts vs)) := ⟨_, rfl⟩
  obtain ⟨R2, hR2⟩ : ∃ x, x = pickE ts vs := ⟨_, rfl⟩
  rw [← hR1, ← hR2]
  refine FnL.flat (R := fun v own => ∃ x, v = .p (.tup [x, .int .i64 R2]) ∧ PW x R1) ?_ (by
    rintro _ _ ⟨x, rfl, h⟩; exact ⟨_, .tup [R1, .int .i64 R2], rfl, .tup ⟨h, .refl _, trivial⟩, rfl, rfl⟩)
  obtain ⟨n, hnn⟩ : ∃ n, n = ts.length := ⟨_, rfl⟩
  obtain ⟨m, hmm⟩ : ∃ n, n = vs.length := ⟨_, rfl⟩
  have hzl : zs.length = n := by rw [hzs, tP_length, hnn]
  have hyl : ys.length = m := by rw [hys, iP_length, hmm]
  have herr : R2 ≠ 0 → R1 = .sl [] := fun h => by rw [hR1, pickR, if_neg (by rw [← hR2]; exact h)]; rfl
  by_cases hnm : n = m
  · have hE : R2 = pkE ts vs := by rw [hR2, pickE, if_pos (by omega)]
    refine fn_of_vc eOk fOk fo16 Try.func16 rfl rfl rfl fun B hB => ?_
    intro add sub mul quo rem band bor bxor bclr shl shr ieq ilt ile seq slt beq bnot orb bcond iwrap iof ssz hA cat sq sl imin imax smin smax len slen u8 hL op hop call hcall code hcode ret hret
    have e1 : len zs = Int.ofNat n := by rw [hL.len, hzl]; rfl
    have e2 : len ys = Int.ofNat n := by rw [hL.len, hyl, hnm]; rfl
    cbv
    rw [e1, e2]
    refine vcIf.no (by first | (simp [hA.not, hA.eq, hA.lt, hA.le, hA.cond, hA.beq, hA.orb, hL.len, hL.slen, hL.sq]; done) | (simp [hA.not, hA.eq, hA.lt, hA.le, hA.cond, hA.beq, hA.orb, hL.len, hL.slen, hL.sq]; omega)) ?_
    cbv
    rw [e1]
    refine hcode _ _ _ (CodeEv.conv (Conv.hollow 6 57 3 (by decide) rfl) (CodeEv.loop eOk fOk (ι := Nat × List PV × Nat) (fun s => [(1, .p (.sl ys)), (6, .vw 0 3 0 s.2.2 none), (14, .p (.sl zs)), (15, .p (.int .i64 (Int.ofNat n))), (16, .p (.int .i64 (Int.ofNat s.1)))])
      (fun s => [.arr 57 3 s.2.1]) (fun s => s.1 ≤ n ∧ pkE (ts.take s.1) (vs.take s.1) = 0 ∧ s.2.1 = cP (pkL (ts.take s.1) (vs.take s.1)) ∧ s.2.1.length = s.2.2) (fun s => n - s.1) (0, [], 0) ?_ ?_))
    · exact ⟨(by repeat (first | exact trivial | refine And.intro rfl ?_)), rfl, Nat.zero_le _, rfl, rfl, rfl⟩
    rintro ⟨i, us, k⟩ ⟨k1, k2, k3, k4⟩ rd hrd
    simp only at k1 k2 k3 k4
    by_cases hi : i < n
    · refine Exists.elim (get_of_lt (show i < ts.length by omega)) fun t ht => ?_
      refine Exists.elim (get_of_lt (show i < vs.length by omega)) fun v hvi => ?_
      have hzi : zs[i]? = some (.agg [.int .i64 t.r, .sl (pP t.sp), .sl (cP t.ch)]) := by rw [hzs]; exact tP_get ht
      have hyi : ys[i]? = some (.int .i64 v) := by rw [hys]; exact iP_get hvi
      have htf := hf t (List.mem_of_getElem? ht)
      have hst := pkE_step i ts vs t v ht hvi k2
      have hsl := pkL_step i ts vs t v ht hvi
      have his := vIs_spec v
      have hfr := frTxn_spec t htf _ _ rfl rfl
      have hklen := pkL_len _ _ k2
      rw [List.length_take] at hklen
      have hkk : k ≤ 24 * n := by
        have : k = (pkL (ts.take i) (vs.take i)).length := by rw [← k4, k3, cP_length]
        omega
      have hcl := fun (h : t.okB = true) => chClone_spec t.ch htf.2.1 (by have := (t.ok_iff.1 h).2.2.1; omega) _ rfl
      have hchl : t.okB = true → (cP t.ch).length ≤ 24 := fun h => by rw [cP_length]; exact (t.ok_iff.1 h).2.2.1
      refine Exists.elim (show ∃ b, b = okV v from ⟨_, rfl⟩) fun ok hok => ?_
      refine Exists.elim (show ∃ b, b = t.okB from ⟨_, rfl⟩) fun tk htk => ?_
      refine Exists.elim (show ∃ b, b = pP t.sp from ⟨_, rfl⟩) fun xs hxs => ?_
      refine Exists.elim (show ∃ b, b = cP t.ch from ⟨_, rfl⟩) fun ws hws => ?_
      refine Exists.elim (show ∃ b, b = t.r from ⟨_, rfl⟩) fun r hr => ?_
      have hww : Wf 3 ws := by rw [hws]; exact cP_wf t.ch
      rw [← hok] at his hst
      rw [← htk, ← hxs, ← hws, ← hr] at hfr
      rw [← htk] at hst hcl hchl
      rw [← hws] at hcl hchl
      rw [← hxs, ← hws, ← hr] at hzi
      have hfr := hfr
      intro add1 sub1 mul1 quo1 rem1 band1 bor1 bxor1 bclr1 shl1 shr1 ieq1 ilt1 ile1 seq1 slt1 beq1 bnot1 orb1 bcond1 iwrap1 iof1 ssz1 hA1 cat1 sq1 sl1 imin1 imax1 smin1 smax1 len1 slen1 u81 hL1 op1 hop1 call1 hcall1 code1 hcode1
      have hadd1 : add1 .i64 (Int.ofNat i) 1 = Int.ofNat (i + 1) := by rw [hA1.add, IntWalk.i64_in _ (by simp only [Int.ofNat_eq_natCast]; omega)]; rfl
      cbv
      refine vcIf.yes (by first | (simp [hA1.not, hA1.eq, hA1.lt, hA1.le, hA1.cond, hA1.beq, hA1.orb, hL1.len, hL1.slen, hL1.sq, hi]; done) | (simp only [hi]; simp [hA1.not, hA1.eq, hA1.lt, hA1.le, hA1.cond, hA1.beq, hA1.orb, hL1.len, hL1.slen, hL1.sq, hi]; done) | (simp [hA1.not, hA1.eq, hA1.lt, hA1.le, hA1.cond, hA1.beq, hA1.orb, hL1.len, hL1.slen, hL1.sq, hi]; omega) | (simp only [hi]; simp [hA1.not, hA1.eq, hA1.lt, hA1.le, hA1.cond, hA1.beq, hA1.orb, hL1.len, hL1.slen, hL1.sq, hi]; omega)) ?_
      cbv
      refine ⟨i, _, rfl, hzi, rfl, ?_⟩
      cbv
      refine ⟨i, _, rfl, hyi, rfl, ?_⟩
      cbv
      refine hcall1 _ _ _ _ _ (CallEv.same his rfl ?_)
      rintro _ _ ⟨rfl, rfl⟩
      cbv
      by_cases hoo : ok = true
      · refine vcIf.no (by first | (simp [hA1.not, hA1.eq, hA1.lt, hA1.le, hA1.cond, hA1.beq, hA1.orb, hL1.len, hL1.slen, hL1.sq, hoo]; done) | (simp only [hoo]; simp [hA1.not, hA1.eq, hA1.lt, hA1.le, hA1.cond, hA1.beq, hA1.orb, hL1.len, hL1.slen, hL1.sq, hoo]; done) | (simp [hA1.not, hA1.eq, hA1.lt, hA1.le, hA1.cond, hA1.beq, hA1.orb, hL1.len, hL1.slen, hL1.sq, hoo]; omega) | (simp only [hoo]; simp [hA1.not, hA1.eq, hA1.lt, hA1.le, hA1.cond, hA1.beq, hA1.orb, hL1.len, hL1.slen, hL1.sq, hoo]; omega)) ?_
        cbv
        refine hcall1 _ _ _ _ _ (CallEv.same hfr rfl ?_)
        rintro _ _ ⟨b, hb, rfl, rfl⟩
        cbv
        by_cases htt : b = true
        · have htk1 : tk = true := hb.symm.trans htt
          refine vcIf.no (by first | (simp [hA1.not, hA1.eq, hA1.lt, hA1.le, hA1.cond, hA1.beq, hA1.orb, hL1.len, hL1.slen, hL1.sq, htt]; done) | (simp only [htt]; simp [hA1.not, hA1.eq, hA1.lt, hA1.le, hA1.cond, hA1.beq, hA1.orb, hL1.len, hL1.slen, hL1.sq, htt]; done) | (simp [hA1.not, hA1.eq, hA1.lt, hA1.le, hA1.cond, hA1.beq, hA1.orb, hL1.len, hL1.slen, hL1.sq, htt]; omega) | (simp only [htt]; simp [hA1.not, hA1.eq, hA1.lt, hA1.le, hA1.cond, hA1.beq, hA1.orb, hL1.len, hL1.slen, hL1.sq, htt]; omega)) ?_
          cbv
          refine ⟨i, _, rfl, hyi, rfl, ?_⟩
          cbv
          have hE1 := hst.1 ⟨hoo, htk1⟩
          by_cases hv1 : v = 1
          · have hcl := hcl htk1
            have hchl := hchl htk1
            rw [if_pos hv1] at hsl
            refine vcIf.yes (by first | (simp [hA1.not, hA1.eq, hA1.lt, hA1.le, hA1.cond, hA1.beq, hA1.orb, hL1.len, hL1.slen, hL1.sq, hv1]; done) | (simp only [hv1]; simp [hA1.not, hA1.eq, hA1.lt, hA1.le, hA1.cond, hA1.beq, hA1.orb, hL1.len, hL1.slen, hL1.sq, hv1]; done) | (simp [hA1.not, hA1.eq, hA1.lt, hA1.le, hA1.cond, hA1.beq, hA1.orb, hL1.len, hL1.slen, hL1.sq, hv1]; omega) | (simp only [hv1]; simp [hA1.not, hA1.eq, hA1.lt, hA1.le, hA1.cond, hA1.beq, hA1.orb, hL1.len, hL1.slen, hL1.sq, hv1]; omega)) ?_
            cbv
            refine hcall1 _ _ _ _ _ (CallEv.same hcl rfl ?_)
            rintro _ _ ⟨rfl, rfl⟩
            cbv
            refine .inl ⟨(), rfl, k4.symm, hww, ?_, ?_, ?_⟩
            · show k + ws.length ≤ maxLen
              unfold maxLen; omega
            · show (k + ws.length) * 40 ≤ _
              omega
            intro vs' n' hu hn'
            replace hu : vs' = us ++ ws := hu
            replace hn' : n' = k + ws.length := hn'
            cbv
            refine hrd _ ⟨(i + 1, vs', n'), _, ?_, ⟨by simp only; omega, hE1, ?_, ?_⟩, rfl, ⟨rfl, rfl, rfl, rfl, ?_, trivial⟩, rfl, rfl, rfl, ?_⟩
            · simp only; omega
            · simp only; rw [hsl, hu, k3, hws]; simp [cP]
            · simp only; rw [hu, hn', List.length_append, k4]
            · show some (V.p (.int .i64 _)) = _
              rw [hadd1]
            · rw [hB]; exact Nat.zero_le _
          · rw [if_neg hv1, List.append_nil] at hsl
            refine vcIf.no (by first | (simp [hA1.not, hA1.eq, hA1.lt, hA1.le, hA1.cond, hA1.beq, hA1.orb, hL1.len, hL1.slen, hL1.sq, hv1]; done) | (simp only [hv1]; simp [hA1.not, hA1.eq, hA1.lt, hA1.le, hA1.cond, hA1.beq, hA1.orb, hL1.len, hL1.slen, hL1.sq, hv1]; done) | (simp [hA1.not, hA1.eq, hA1.lt, hA1.le, hA1.cond, hA1.beq, hA1.orb, hL1.len, hL1.slen, hL1.sq, hv1]; omega) | (simp only [hv1]; simp [hA1.not, hA1.eq, hA1.lt, hA1.le, hA1.cond, hA1.beq, hA1.orb, hL1.len, hL1.slen, hL1.sq, hv1]; omega)) ?_
            cbv
            refine hrd _ ⟨(i + 1, us, k), _, ?_, ⟨by simp only; omega, hE1, ?_, k4⟩, rfl, ⟨rfl, rfl, rfl, rfl, ?_, trivial⟩, rfl, rfl, rfl, ?_⟩
            · simp only; omega
            · simp only; rw [hsl, k3]
            · show some (V.p (.int .i64 _)) = _
              rw [hadd1]
            · rw [hB]; exact Nat.zero_le _
        · have hE2 : R2 = 2 := hE.trans (hst.2 fun c => htt (hb.trans c.2))
          refine vcIf.yes (by first | (simp [hA1.not, hA1.eq, hA1.lt, hA1.le, hA1.cond, hA1.beq, hA1.orb, hL1.len, hL1.slen, hL1.sq, htt]; done) | (simp only [htt]; simp [hA1.not, hA1.eq, hA1.lt, hA1.le, hA1.cond, hA1.beq, hA1.orb, hL1.len, hL1.slen, hL1.sq, htt]; done) | (simp [hA1.not, hA1.eq, hA1.lt, hA1.le, hA1.cond, hA1.beq, hA1.orb, hL1.len, hL1.slen, hL1.sq, htt]; omega) | (simp only [htt]; simp [hA1.not, hA1.eq, hA1.lt, hA1.le, hA1.cond, hA1.beq, hA1.orb, hL1.len, hL1.slen, hL1.sq, htt]; omega)) ?_
          cbv
          exact hret _ (RetEv.ret eOk rfl ⟨.nils, by rw [hE2]; rfl, by rw [herr (by rw [hE2]; decide)]; exact .nils⟩)
      · have hE2 : R2 = 2 := hE.trans (hst.2 fun c => hoo c.1)
        refine vcIf.yes (by first | (simp [hA1.not, hA1.eq, hA1.lt, hA1.le, hA1.cond, hA1.beq, hA1.orb, hL1.len, hL1.slen, hL1.sq, hoo]; done) | (simp only [hoo]; simp [hA1.not, hA1.eq, hA1.lt, hA1.le, hA1.cond, hA1.beq, hA1.orb, hL1.len, hL1.slen, hL1.sq, hoo]; done) | (simp [hA1.not, hA1.eq, hA1.lt, hA1.le, hA1.cond, hA1.beq, hA1.orb, hL1.len, hL1.slen, hL1.sq, hoo]; omega) | (simp only [hoo]; simp [hA1.not, hA1.eq, hA1.lt, hA1.le, hA1.cond, hA1.beq, hA1.orb, hL1.len, hL1.slen, hL1.sq, hoo]; omega)) ?_
        cbv
        exact hret _ (RetEv.ret eOk rfl ⟨.nils, by rw [hE2]; rfl, by rw [herr (by rw [hE2]; decide)]; exact .nils⟩)
    · have hin : i = n := by omega
      rw [List.take_of_length_le (by omega), List.take_of_length_le (by omega)] at k2 k3
      have hE0 : R2 = 0 := hE.trans k2
      have hR : R1 = .sl us := by rw [hR1, pickR, if_pos (by rw [← hR2]; exact hE0), k3]
      intro add1 sub1 mul1 quo1 rem1 band1 bor1 bxor1 bclr1 shl1 shr1 ieq1 ilt1 ile1 seq1 slt1 beq1 bnot1 orb1 bcond1 iwrap1 iof1 ssz1 hA1 cat1 sq1 sl1 imin1 imax1 smin1 smax1 len1 slen1 u81 hL1 op1 hop1 call1 hcall1 code1 hcode1
      cbv
      refine vcIf.no (by first | (simp [hA1.not, hA1.eq, hA1.lt, hA1.le, hA1.cond, hA1.beq, hA1.orb, hL1.len, hL1.slen, hL1.sq, hi]; done) | (simp only [hi]; simp [hA1.not, hA1.eq, hA1.lt, hA1.le, hA1.cond, hA1.beq, hA1.orb, hL1.len, hL1.slen, hL1.sq, hi]; done) | (simp [hA1.not, hA1.eq, hA1.lt, hA1.le, hA1.cond, hA1.beq, hA1.orb, hL1.len, hL1.slen, hL1.sq, hi]; omega) | (simp only [hi]; simp [hA1.not, hA1.eq, hA1.lt, hA1.le, hA1.cond, hA1.beq, hA1.orb, hL1.len, hL1.slen, hL1.sq, hi]; omega)) ?_
      cbv
      refine hret _ (RetEv.retF eOk rfl 0 rfl (by rw [hB]; exact Nat.zero_le _) ⟨.sl us, ?_, by rw [hR]; exact .refl _⟩)
      rw [hE0]
      show V.p (.tup [.sl ((us.drop 0).take k), .int .i64 0]) = _
      rw [frz_full k4]
  · have hE : R2 = 1 := by rw [hR2, pickE, if_neg (by omega)]
    refine fn_of_vc eOk fOk fo16 Try.func16 rfl rfl rfl fun B hB => ?_
    intro add sub mul quo rem band bor bxor bclr shl shr ieq ilt ile seq slt beq bnot orb bcond iwrap iof ssz hA cat sq sl imin imax smin smax len slen u8 hL op hop call hcall code hcode ret hret
    have e1 : len zs = Int.ofNat n := by rw [hL.len, hzl]; rfl
    have e2 : len ys = Int.ofNat m := by rw [hL.len, hyl]; rfl
    have hnm' : ¬ ((n : Int) = (m : Int)) := by omega
    cbv
    refine vcIf.yes (by rw [e1, e2, hA.not, hA.eq]; simp only [Int.ofNat_eq_natCast]; simp [hnm']) ?_
    cbv
    exact hret _ (RetEv.ret eOk rfl ⟨.nils, by rw [hE]; rfl, by rw [herr (by rw [hE]; decide)]; exact .nils⟩)
end Go.Proofs.Ytocmeaamaecgeaa
