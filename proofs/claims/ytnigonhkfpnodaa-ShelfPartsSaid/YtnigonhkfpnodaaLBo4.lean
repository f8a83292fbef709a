/- A book's records; a tape is opened. Conditions: on sizes. -/
import Derived.Test.YtnigonhkfpnodaaLBo3
import Derived.Test.YtnigonhkfpnodaaLCode4
import Derived.Test.YtnigonhkfpnodaaLRd
import Derived.Test.YtnigonhkfpnodaaLFr4
set_option maxRecDepth 100000
set_option maxHeartbeats 8000000
set_option linter.unusedSimpArgs false
set_option linter.unusedVariables false
namespace Go.Proofs.Ytnigonhkfpnodaa
open Go Go.Lx
open Go.Sx (vcIf)

theorem bkRecords_spec {b : Bk} {n : Nat} {su ro af : Int} {d : Bool} {xs : List PV} {m : Nat} {dn : Bool} {rs : List PV} (hb : IsBk b n su ro af d xs m dn rs) (hl : ∀ r ∈ b.rs, r.length ≤ 140737488355328) (hn : m * 24 ≤ 140737488355328) :
    FnL Try.prog 38 [.own 2 0] (bkO n su ro af d xs m dn rs) fun v own => v = .p (.sl rs) ∧ own = bkO n su ro af d xs m dn rs := by
  refine FnL.less (R := fun v own => ∃ ex, v = .p (.sl rs) ∧ own = bkO n su ro af d xs m dn rs ++ ex) ?_
    (by
      rintro _ _ ⟨ex, rfl, rfl⟩
      exact ⟨_, _, ex, rfl, .p (.refl _), rfl, rfl, Nat.le_refl _, rfl, rfl⟩)
  obtain ⟨ht, h1, h2, h3⟩ := hb
  have hcl := bkCloneO_spec b.rs hl (by rw [← h1]; exact hn) rs h3 m h1 (n := n) (su := su) (ro := ro) (af := af) (d := d) (xs := xs) (dn := dn)
  have hrl : rs.length = m := by rw [h3, rcP_length, h1]
  refine fn_of_vc eOk fOk fo38 Try.func38 rfl rfl rfl fun B hB => ?_
  intro add sub mul quo rem band bor bxor bclr shl shr ieq ilt ile seq slt beq bnot orb bcond iwrap iof ssz hA cat sq sl imin imax smin smax len slen u8 hL op hop call hcall code hcode ret hret
  cbv
  refine hcall _ _ _ _ _ (CallEv.lend [0, 1, 2, 3] hcl rfl (.cons (.vw 3 3 1 0 m none rfl) .nil) (bkL rfl rfl rfl rfl rfl rfl rfl) ?_)
  rintro _ _ ⟨rfl, rfl⟩
  cbv
  refine hret _ (RetEv.retF eOk rfl 4 rfl (by rw [hB]; exact Nat.le_refl _) ⟨_, ?_, rfl⟩)
  show V.p (.sl ((rs.drop 0).take m)) = _
  rw [frz_full hrl]
theorem bkRecords_nil : FnL Try.prog 38 [.p .nilp] [] fun v own => v = .p .nils ∧ own = [] := by
  refine fn_of_vc eOk fOk fo38 Try.func38 rfl rfl rfl fun B hB => ?_
  intro add sub mul quo rem band bor bxor bclr shl shr ieq ilt ile seq slt beq bnot orb bcond iwrap iof ssz hA cat sq sl imin imax smin smax len slen u8 hL op hop call hcall code hcode ret hret
  cbv
  exact hret _ (RetEv.ret eOk rfl ⟨rfl, rfl⟩)
theorem bkReset_nil (zs : List PV) : FnL Try.prog 61 [.p .nilp, .p (.sl zs)] [] fun v own => v = .p (.int .i64 1) ∧ own = [] := by
  refine FnL.less (R := fun v own => ∃ ex, v = .p (.int .i64 1) ∧ own = ex) ?_
    (by rintro _ _ ⟨ex, rfl, rfl⟩; exact ⟨_, [], _, rfl, .p (.refl _), rfl, rfl, Nat.le_refl _, rfl, rfl⟩)
  refine fn_of_vc eOk fOk fo61 Try.func61 rfl rfl rfl fun B hB => ?_
  intro add sub mul quo rem band bor bxor bclr shl shr ieq ilt ile seq slt beq bnot orb bcond iwrap iof ssz hA cat sq sl imin imax smin smax len slen u8 hL op hop call hcall code hcode ret hret
  cbv
  refine hcall _ _ _ _ _ (CallEv.same (bkLay_nil zs) rfl ?_)
  rintro _ _ ⟨rfl, rfl⟩
  cbv
  refine vcIf.yes (by first | (simp [hA.not, hA.eq, hA.lt, hA.le, hA.cond, hA.beq, hA.orb, hL.len, hL.slen, hL.sq]; done) | (simp [hA.not, hA.eq, hA.lt, hA.le, hA.cond, hA.beq, hA.orb, hL.len, hL.slen, hL.sq]; omega)) ?_
  cbv
  exact hret _ (RetEv.ret eOk rfl ⟨_, rfl, rfl⟩)

/-! ### What bytes begin with -/
def rdR (l : List UInt8) : List (List UInt8) × Nat :=
  if h : (decT l).2.2 = 0 ∧ (copen (decT l).1).2 = 0 ∧ 0 < (decT l).2.1 ∧ l ≠ [] then ((copen (decT l).1).1 :: (rdR (l.drop (decT l).2.1)).1, (decT l).2.1 + (rdR (l.drop (decT l).2.1)).2) else ([], 0)
termination_by l.length
decreasing_by
  all_goals
    have h1 := h.2.2.1
    have h2 : 0 < l.length := List.length_pos_iff.2 h.2.2.2
    simp only [List.length_drop]; omega
theorem decT_pos {l : List UInt8} (h : (decT l).2.2 = 0) : 0 < (decT l).2.1 ∧ l ≠ [] := by
  unfold decT at h ⊢
  have hu := dec_used l 0 0
  generalize hd : dec 0 0 l = D at h hu ⊢
  obtain ⟨n, u, e⟩ := D
  simp only at h hu ⊢
  split at h
  · rename_i c; exact absurd h c
  · rename_i c
    have hu := hu (by simpa using c)
    split at h
    · cases h
    · split at h
      · cases h
      · rw [if_neg c, if_neg (by assumption), if_neg (by assumption)]
        refine ⟨by simp only; omega, fun c2 => ?_⟩
        subst c2
        simp only [List.length_nil] at hu
        omega
theorem rdR_step {l s r : List UInt8} {u : Nat} (h1 : decT l = (s, u, 0)) (h2 : copen s = (r, 0)) : rdR l = (r :: (rdR (l.drop u)).1, u + (rdR (l.drop u)).2) := by
  have hp := decT_pos (l := l) (by rw [h1])
  rw [rdR, dif_pos ⟨by rw [h1], by rw [h1]; simp only; rw [h2], hp⟩, h1]
  simp only; rw [h2]
theorem rdR_stop {l : List UInt8} (h : (decT l).2.2 ≠ 0 ∨ (copen (decT l).1).2 ≠ 0) : rdR l = ([], 0) := by
  rw [rdR, dif_neg]; intro c
  rcases h with h | h
  · exact h c.1
  · exact h c.2.1
theorem rdR_nil : rdR [] = ([], 0) := rdR_stop (.inl (fun c => (decT_pos c).2 rfl))
theorem rdR_le (k : Nat) : ∀ (l : List UInt8), l.length ≤ k → (rdR l).2 ≤ l.length ∧ (rdR l).1.length ≤ (rdR l).2 ∧ ∀ r ∈ (rdR l).1, r.length ≤ 65536 := by
  induction k with
  | zero => intro l h; rw [show l = [] from List.length_eq_zero_iff.1 (by omega), rdR_nil]; simp
  | succ k ih =>
    intro l h
    by_cases hc : (decT l).2.2 = 0 ∧ (copen (decT l).1).2 = 0
    · obtain ⟨⟨s, u, e⟩, hd⟩ : ∃ x, decT l = x := ⟨_, rfl⟩
      rw [hd] at hc
      obtain ⟨rfl, hc2⟩ := hc
      obtain ⟨⟨r, f⟩, hf⟩ : ∃ x, copen s = x := ⟨_, rfl⟩
      simp only at hc2
      rw [hf] at hc2
      simp only at hc2
      subst hc2
      have hp := decT_pos (l := l) (by rw [hd])
      have hu := decT_used l
      rw [hd] at hp hu
      simp only at hp hu
      have hl : (l.drop u).length ≤ k := by rw [List.length_drop]; omega
      obtain ⟨i1, i2, i3⟩ := ih _ hl
      rw [List.length_drop] at i1
      have hs := decT_ok (l := l) (by rw [hd])
      have hsl : s.length ≤ 65536 := by
        have := hs.2.2.2.1
        rw [hd] at this
        simp only at this
        rw [this, List.length_take]; omega
      have hrl := copen_len hf
      rw [rdR_step hd hf]
      refine ⟨by simp only; omega, by simp only [List.length_cons]; omega, fun x hx => ?_⟩
      rcases List.mem_cons.1 hx with rfl | hx
      · omega
      · exact i3 x hx
    · rw [rdR_stop (by omega)]; simp

theorem tpBytes_spec {t : Tp} {n : Nat} {su ro af : Int} {d : Bool} {xs : List PV} (ht : IsTp t n su ro af d xs) :
    FnL Try.prog 69 [.own 0 0] [tpS n su ro af d, tpA xs] fun v own => ∃ (e : Int) (ys : List PV), e = (if t.down then 11 else 0) ∧ ys = bP (if t.down then [] else t.all) ∧ v = .p (.tup [.sl ys, .int .i64 e]) ∧ own = [tpS n su ro af d, tpA xs] := by
  refine FnL.less (bytes_spec ht) ?_
  rintro _ _ ⟨e, ys, h1, h2, ⟨rfl, rfl⟩ | ⟨h3, rfl, rfl⟩⟩
  · exact ⟨_, _, [.dead], rfl, .p (.refl _), rfl, rfl, Nat.le_refl _, e, ys, h1, h2, rfl, rfl⟩
  · exact ⟨.p (.tup [.sl ys, .int .i64 e]), _, [], rfl, .p (PW.tup ⟨by rw [h3]; exact PW.nils, .refl _, trivial⟩), rfl, rfl, Nat.le_refl _, e, ys, h1, h2, rfl, rfl⟩
/-- A tape is opened. -/
def bkOpen (t : Tp) : Nat × Bk :=
  if t.down = true then (11, ⟨t, [], false⟩)
  else if (rdR t.all).2 < t.all.length then ((tpRep t (t.all.take (rdR t.all).2)).1, ⟨(tpRep t (t.all.take (rdR t.all).2)).2, (rdR t.all).1, false⟩)
  else (0, ⟨t, (rdR t.all).1, false⟩)
def OpenR (R : Nat × Bk) (v : V) (own : List Res) : Prop :=
  (∃ (n' : Nat) (su' ro' af' : Int) (d' : Bool) (xs' : List PV) (m' : Nat) (dn' : Bool) (rs' : List PV), R.1 = 0 ∧ IsBk R.2 n' su' ro' af' d' xs' m' dn' rs' ∧ v = .tup [.own 2 0, .p (.int .i64 0)] ∧ own = bkO n' su' ro' af' d' xs' m' dn' rs') ∨
  (∃ (e : Int) (n' : Nat) (su' ro' af' : Int) (d' : Bool) (xs' : List PV), R.1 ≠ 0 ∧ e = (R.1 : Int) ∧ IsTp R.2.t n' su' ro' af' d' xs' ∧ v = .p (.tup [.nilp, .int .i64 e]) ∧ own = [tpS n' su' ro' af' d', tpA xs'])
theorem bkOpen_nil : FnL Try.prog 37 [.p .nilp] [] fun v own => v = .p (.tup [.nilp, .int .i64 1]) ∧ own = [] := by
  refine fn_of_vc eOk fOk fo37 Try.func37 rfl rfl rfl fun B hB => ?_
  intro add sub mul quo rem band bor bxor bclr shl shr ieq ilt ile seq slt beq bnot orb bcond iwrap iof ssz hA cat sq sl imin imax smin smax len slen u8 hL op hop call hcall code hcode ret hret
  cbv
  exact hret _ (RetEv.ret eOk rfl ⟨rfl, rfl⟩)
theorem bkOpen_spec {t : Tp} {n : Nat} {su ro af : Int} {d : Bool} {xs : List PV} (ht : IsTp t n su ro af d xs) :
    FnL Try.prog 37 [.own 0 0] [tpS n su ro af d, tpA xs] (OpenR (bkOpen t)) := by
  refine FnL.less (R := fun v own => ∃ own' ex, own = own' ++ ex ∧ OpenR (bkOpen t) v own') ?_
    (by
      rintro v _ ⟨own', ex, rfl, ⟨n', su', ro', af', d', xs', m', dn', rs', g1, g2, rfl, rfl⟩ | ⟨e, n', su', ro', af', d', xs', g1, g2, g3, rfl, rfl⟩⟩
      · exact ⟨_, _, ex, rfl, VW.refl _, rfl, rfl, Nat.le_of_ble_eq_true rfl, .inl ⟨n', su', ro', af', d', xs', m', dn', rs', g1, g2, rfl, rfl⟩⟩
      · exact ⟨_, _, ex, rfl, VW.refl _, rfl, rfl, Nat.le_of_ble_eq_true rfl, .inr ⟨e, n', su', ro', af', d', xs', g1, g2, g3, rfl, rfl⟩⟩)
  obtain ⟨R, hR⟩ : ∃ R, R = bkOpen t := ⟨_, rfl⟩
  rw [← hR]
  have ht0 := ht
  have hby := tpBytes_spec ht
  obtain ⟨h1, h2, h3, h4, h5, h6, h7, h8, h9, h10, h11⟩ := ht
  unfold bkOpen at hR
  have hdl : t.all.length ≤ 1048576 := by omega
  rw [← h5] at hby hR
  refine fn_of_vc eOk fOk fo37 Try.func37 rfl rfl rfl fun B hB => ?_
  intro add sub mul quo rem band bor bxor bclr shl shr ieq ilt ile seq slt beq bnot orb bcond iwrap iof ssz hA cat sq sl imin imax smin smax len slen u8 hL op hop call hcall code hcode ret hret
  cbv
  refine hcall _ _ _ _ _ (CallEv.lend [0, 1] hby rfl (.cons (.own 0 0 0 rfl) .nil) (tpL rfl rfl rfl rfl) ?_)
  rintro _ _ ⟨e, ys, he, hys, rfl, rfl⟩
  cases d with
  | true =>
    rw [if_pos rfl] at hR he
    cbv
    refine vcIf.yes (by first | (simp [hA.not, hA.eq, hA.lt, hA.le, hA.cond, hA.beq, hA.orb, hL.len, hL.slen, hL.sq, he]; done) | (simp only [he]; simp [hA.not, hA.eq, hA.lt, hA.le, hA.cond, hA.beq, hA.orb, hL.len, hL.slen, hL.sq, he]; done) | (simp [hA.not, hA.eq, hA.lt, hA.le, hA.cond, hA.beq, hA.orb, hL.len, hL.slen, hL.sq, he]; omega) | (simp only [he]; simp [hA.not, hA.eq, hA.lt, hA.le, hA.cond, hA.beq, hA.orb, hL.len, hL.slen, hL.sq, he]; omega)) ?_
    cbv
    refine hret _ (RetEv.ret eOk rfl ⟨_, [], (List.append_nil _).symm, .inr ⟨e, n, su, ro, af, true, xs, ?_, ?_, ?_, rfl, rfl⟩⟩)
    · rw [hR]; simp
    · rw [hR, he]; rfl
    · rw [hR]; exact ht0
  | false =>
    rw [if_neg (by decide)] at hR he hys
    obtain ⟨N, hN⟩ : ∃ N, N = t.all.length := ⟨_, rfl⟩
    have hyl : ys.length = N := by rw [hys, bP_length, hN]
    have hyw : ∀ y ∈ ys, y.cells.length = 1 := fun y hy => by rw [hys] at hy; exact (bP_wf _ y hy).1
    have hlen : len ys = Int.ofNat N := by rw [hL.len, hyl]; rfl
    cbv
    refine vcIf.no (by first | (simp [hA.not, hA.eq, hA.lt, hA.le, hA.cond, hA.beq, hA.orb, hL.len, hL.slen, hL.sq, he]; done) | (simp only [he]; simp [hA.not, hA.eq, hA.lt, hA.le, hA.cond, hA.beq, hA.orb, hL.len, hL.slen, hL.sq, he]; done) | (simp [hA.not, hA.eq, hA.lt, hA.le, hA.cond, hA.beq, hA.orb, hL.len, hL.slen, hL.sq, he]; omega) | (simp only [he]; simp [hA.not, hA.eq, hA.lt, hA.le, hA.cond, hA.beq, hA.orb, hL.len, hL.slen, hL.sq, he]; omega)) ?_
    cbv
    refine hcode _ _ _ (CodeEv.conv (Conv.hollowC 2 1 94 1 (by decide) rfl rfl) ?_)
    refine CodeEv.loopX eOk fOk (ι := Nat × List (List UInt8) × Nat × List PV) (κ := Nat × List (List UInt8) × Nat × List PV) (fun s => [(0, .own 0 0), (4, .p (.sl ys)), (6, .own 2 0), (7, .p (.int .i64 (Int.ofNat s.1)))])
      (fun s => [tpS n su ro af false, tpA xs, bkS s.2.2.1 false, bkA s.2.2.2]) (fun s => s.1 ≤ N ∧ s.2.2.1 = s.2.1.length ∧ s.2.2.2 = rcP s.2.1 ∧ s.2.1.length ≤ s.1 ∧ rdR t.all = (s.2.1 ++ (rdR (t.all.drop s.1)).1, s.1 + (rdR (t.all.drop s.1)).2)) (fun s => N - s.1) (0, [], 0, []) 0
      (fun s => [(0, .own 0 0), (4, .p (.sl ys)), (6, .own 2 0), (7, .p (.int .i64 (Int.ofNat s.1)))])
      (fun s => [tpS n su ro af false, tpA xs, bkS s.2.2.1 false, bkA s.2.2.2]) (fun s => s.1 ≤ N ∧ s.2.2.1 = s.2.1.length ∧ s.2.2.2 = rcP s.2.1 ∧ rdR t.all = (s.2.1, s.1)) ?_ ?_ ?_
    · exact ⟨⟨rfl, rfl, rfl, rfl, trivial⟩, rfl, Nat.zero_le _, rfl, rfl, Nat.zero_le _, by simp⟩
    · rintro ⟨k, rl, m, rs⟩ ⟨k1, k2, k3, k4, k5⟩ rd hrd out hout
      simp only at k1 k2 k3 k4 k5
      obtain ⟨L, hLd⟩ : ∃ L, L = t.all.drop k := ⟨_, rfl⟩
      rw [← hLd] at k5
      have hLl : L.length = N - k := by rw [hLd, List.length_drop, hN]
      have htx : ∀ zs, zs = bP L → FnL Try.prog 70 [.p (.sl zs)] [] (textR (decT L)) := fun zs h => by rw [h]; exact text_spec L (by omega)
      have hzL : (ys.drop k).take (N - k) = bP L := by rw [hys, bP_drop, ← hLd, List.take_of_length_le (by rw [bP_length]; omega)]
      have hus := decT_used L
      have hps := decT_pos (l := L)
      have hok := decT_ok (l := L)
      have hstop := rdR_stop (l := L)
      have hstep := @rdR_step L
      have hrl : k ≤ N := k1
      intro add1 sub1 mul1 quo1 rem1 band1 bor1 bxor1 bclr1 shl1 shr1 ieq1 ilt1 ile1 seq1 slt1 beq1 bnot1 orb1 bcond1 iwrap1 iof1 ssz1 hA1 cat1 sq1 sl1 imin1 imax1 smin1 smax1 len1 slen1 u81 hL1 op1 hop1 call1 hcall1 code1 hcode1
      have hlen1 : len1 ys = Int.ofNat N := by rw [hL1.len, hyl]; rfl
      cbv
      by_cases hk : k < N
      · refine vcIf.yes (by first | (simp [hA1.not, hA1.eq, hA1.lt, hA1.le, hA1.cond, hA1.beq, hA1.orb, hL1.len, hL1.slen, hL1.sq, hlen1, hk]; done) | (simp only [hlen1, hk]; simp [hA1.not, hA1.eq, hA1.lt, hA1.le, hA1.cond, hA1.beq, hA1.orb, hL1.len, hL1.slen, hL1.sq, hlen1, hk]; done) | (simp [hA1.not, hA1.eq, hA1.lt, hA1.le, hA1.cond, hA1.beq, hA1.orb, hL1.len, hL1.slen, hL1.sq, hlen1, hk]; omega) | (simp only [hlen1, hk]; simp [hA1.not, hA1.eq, hA1.lt, hA1.le, hA1.cond, hA1.beq, hA1.orb, hL1.len, hL1.slen, hL1.sq, hlen1, hk]; omega)) ?_
        cbv
        refine ⟨k, N, N, rfl, hyl.symm, hyl.symm, k1, Nat.le_refl _, Nat.le_of_eq hyl.symm, hyw, ?_⟩
        intro zs hz
        replace hz : zs = bP L := by rw [hz]; exact hzL
        cbv
        refine hcall1 _ _ _ _ _ (CallEv.same (htx zs hz) rfl ?_)
        rintro _ _ ⟨s, u, e1, hd, rfl, rfl⟩
        rw [← hd] at hus hps hok hstop hstep
        simp only at hus hps hok hstop
        cbv
        by_cases he1 : e1 = 0
        · subst he1
          have hu := hps rfl
          obtain ⟨g1, g2, g3, g4, g5⟩ := hok rfl
          have hsl : s.length ≤ N := by rw [g4, List.length_take, List.length_drop]; omega
          have hcop : ∀ bs, bs = bP s → FnL Try.prog 71 [.p (.sl bs)] [] _ := fun bs hbs => casOpen_spec s bs hbs (by omega)
          refine vcIf.no (by first | (simp [hA1.not, hA1.eq, hA1.lt, hA1.le, hA1.cond, hA1.beq, hA1.orb, hL1.len, hL1.slen, hL1.sq]; done) | (simp [hA1.not, hA1.eq, hA1.lt, hA1.le, hA1.cond, hA1.beq, hA1.orb, hL1.len, hL1.slen, hL1.sq]; omega)) ?_
          cbv
          refine ⟨(), ?_, fun bs hbs => ?_⟩
          · show s.length ≤ maxLen
            unfold maxLen; omega
          cbv
          refine hcall1 _ _ _ _ _ (CallEv.same (hcop bs hbs) rfl ?_)
          rintro _ _ ⟨zs2, r, e2, hco, hzs2, rfl, rfl⟩
          rw [← hco] at hstop
          simp only at hstop
          cbv
          by_cases he2 : e2 = 0
          · subst he2
            have hst := hstep rfl hco.symm
            have hadd1 : add1 .i64 (Int.ofNat k) (Int.ofNat u) = Int.ofNat (k + u) := by rw [hA1.add, IntWalk.i64_in _ (by simp only [Int.ofNat_eq_natCast]; omega)]; rfl
            have hdr : L.drop u = t.all.drop (k + u) := by rw [hLd, List.drop_drop]
            obtain ⟨ku, hku⟩ : ∃ ku, ku = k + u := ⟨_, rfl⟩
            rw [← hku] at hadd1 hdr
            refine vcIf.no (by first | (simp [hA1.not, hA1.eq, hA1.lt, hA1.le, hA1.cond, hA1.beq, hA1.orb, hL1.len, hL1.slen, hL1.sq]; done) | (simp [hA1.not, hA1.eq, hA1.lt, hA1.le, hA1.cond, hA1.beq, hA1.orb, hL1.len, hL1.slen, hL1.sq]; omega)) ?_
            cbv
            refine ⟨false, ?_⟩
            cbv
            refine .inl ⟨(), rfl, ?_, ?_, ?_, ?_, ?_⟩
            · rw [k3, rcP_length]; exact k2
            · intro x hx; simp only [Sq.get, List.mem_singleton] at hx; rw [hx]; exact PV.wf1 rfl
            · show m + 1 ≤ maxLen
              unfold maxLen; omega
            · show (m + 1) * 24 ≤ _
              omega
            intro ws n' hw hn'
            replace hw : ws = rs ++ [.sl zs2] := hw
            replace hn' : n' = m + 1 := hn'
            subst hn'
            cbv
            rw [hadd1]
            refine hrd _ ⟨(ku, rl ++ [r], m + 1, ws), [], ?_, ⟨?_, ?_, ?_, ?_, ?_⟩, rfl, (by repeat (first | exact trivial | refine And.intro rfl ?_)), rfl, rfl, rfl, ?_⟩
            · simp only; omega
            · simp only; omega
            · simp only [List.length_append, List.length_singleton]; omega
            · simp only; rw [hw, k3, hzs2, rcP_append]; rfl
            · simp only [List.length_append, List.length_singleton]; omega
            · simp only; rw [k5, hst, hdr]; simp only [List.append_assoc, List.singleton_append, Prod.mk.injEq, true_and]; omega
            · rw [hB]; exact Nat.le_of_ble_eq_true rfl
          · refine vcIf.yes (by first | (simp [hA1.not, hA1.eq, hA1.lt, hA1.le, hA1.cond, hA1.beq, hA1.orb, hL1.len, hL1.slen, hL1.sq, he2]; done) | (simp only [he2]; simp [hA1.not, hA1.eq, hA1.lt, hA1.le, hA1.cond, hA1.beq, hA1.orb, hL1.len, hL1.slen, hL1.sq, he2]; done) | (simp [hA1.not, hA1.eq, hA1.lt, hA1.le, hA1.cond, hA1.beq, hA1.orb, hL1.len, hL1.slen, hL1.sq, he2]; omega) | (simp only [he2]; simp [hA1.not, hA1.eq, hA1.lt, hA1.le, hA1.cond, hA1.beq, hA1.orb, hL1.len, hL1.slen, hL1.sq, he2]; omega)) ?_
            cbv
            refine hout _ ⟨(k, rl, m, rs), [], ⟨k1, k2, k3, ?_⟩, rfl, (by repeat (first | exact trivial | refine And.intro rfl ?_)), rfl, rfl, rfl, ?_⟩
            · rw [k5, hstop (.inr he2)]; simp
            · rw [hB]; exact Nat.le_of_ble_eq_true rfl
        · refine vcIf.yes (by first | (simp [hA1.not, hA1.eq, hA1.lt, hA1.le, hA1.cond, hA1.beq, hA1.orb, hL1.len, hL1.slen, hL1.sq, he1]; done) | (simp only [he1]; simp [hA1.not, hA1.eq, hA1.lt, hA1.le, hA1.cond, hA1.beq, hA1.orb, hL1.len, hL1.slen, hL1.sq, he1]; done) | (simp [hA1.not, hA1.eq, hA1.lt, hA1.le, hA1.cond, hA1.beq, hA1.orb, hL1.len, hL1.slen, hL1.sq, he1]; omega) | (simp only [he1]; simp [hA1.not, hA1.eq, hA1.lt, hA1.le, hA1.cond, hA1.beq, hA1.orb, hL1.len, hL1.slen, hL1.sq, he1]; omega)) ?_
          cbv
          refine hout _ ⟨(k, rl, m, rs), [], ⟨k1, k2, k3, ?_⟩, rfl, (by repeat (first | exact trivial | refine And.intro rfl ?_)), rfl, rfl, rfl, ?_⟩
          · rw [k5, hstop (.inl he1)]; simp
          · rw [hB]; exact Nat.le_of_ble_eq_true rfl
      · refine vcIf.no (by first | (simp [hA1.not, hA1.eq, hA1.lt, hA1.le, hA1.cond, hA1.beq, hA1.orb, hL1.len, hL1.slen, hL1.sq, hlen1, hk]; done) | (simp only [hlen1, hk]; simp [hA1.not, hA1.eq, hA1.lt, hA1.le, hA1.cond, hA1.beq, hA1.orb, hL1.len, hL1.slen, hL1.sq, hlen1, hk]; done) | (simp [hA1.not, hA1.eq, hA1.lt, hA1.le, hA1.cond, hA1.beq, hA1.orb, hL1.len, hL1.slen, hL1.sq, hlen1, hk]; omega) | (simp only [hlen1, hk]; simp [hA1.not, hA1.eq, hA1.lt, hA1.le, hA1.cond, hA1.beq, hA1.orb, hL1.len, hL1.slen, hL1.sq, hlen1, hk]; omega)) ?_
        cbv
        have hL0 : L = [] := List.length_eq_zero_iff.1 (by omega)
        refine hout _ ⟨(k, rl, m, rs), [], ⟨k1, k2, k3, ?_⟩, rfl, (by repeat (first | exact trivial | refine And.intro rfl ?_)), rfl, rfl, rfl, ?_⟩
        · rw [k5, hL0, rdR_nil]; simp
        · rw [hB]; exact Nat.le_of_ble_eq_true rfl
    · rintro ⟨k, rl, m, rs⟩ ⟨k1, k2, k3, k4⟩
      simp only at k1 k2 k3 k4
      rw [k4] at hR
      simp only at hR
      have hrep := replace_spec ht0 (t.all.take k) (by rw [List.length_take]; omega)
      obtain ⟨ts, hts⟩ : ∃ ts, ts = bP (t.all.take k) := ⟨_, rfl⟩
      rw [← hts] at hrep
      have hyt : ys.take k = ts := by rw [hys, hts, bP_take]
      obtain ⟨A, hA0⟩ : ∃ A, A = tpRep t (t.all.take k) := ⟨_, rfl⟩
      rw [← hA0] at hrep hR
      rw [← hN] at hR
      cbv
      by_cases hk : k < N
      · rw [if_pos hk] at hR
        refine vcIf.yes (by first | (simp [hA.not, hA.eq, hA.lt, hA.le, hA.cond, hA.beq, hA.orb, hL.len, hL.slen, hL.sq, hlen, hk]; done) | (simp only [hlen, hk]; simp [hA.not, hA.eq, hA.lt, hA.le, hA.cond, hA.beq, hA.orb, hL.len, hL.slen, hL.sq, hlen, hk]; done) | (simp [hA.not, hA.eq, hA.lt, hA.le, hA.cond, hA.beq, hA.orb, hL.len, hL.slen, hL.sq, hlen, hk]; omega) | (simp only [hlen, hk]; simp [hA.not, hA.eq, hA.lt, hA.le, hA.cond, hA.beq, hA.orb, hL.len, hL.slen, hL.sq, hlen, hk]; omega)) ?_
        cbv
        refine ⟨0, k, N, rfl, rfl, hyl.symm, Nat.zero_le _, k1, Nat.le_of_eq hyl.symm, hyw, ?_⟩
        intro zs hz
        obtain rfl : zs = ts := by rw [hz, ← hyt]; simp
        cbv
        refine hcall _ _ _ _ _ (CallEv.lend [0, 1] hrep rfl (.cons (.own 0 0 0 rfl) (.cons (.p _) .nil)) (tpL rfl rfl rfl rfl) ?_)
        rintro _ _ ⟨e1, n1, su1, ro1, af1, d1, xs1, he1, ht1, rfl, rfl⟩
        obtain ⟨hz1p, hz1n, he1'⟩ := isE he1
        cbv
        by_cases hz1 : e1 = 0
        · refine vcIf.no (by first | (simp [hA.not, hA.eq, hA.lt, hA.le, hA.cond, hA.beq, hA.orb, hL.len, hL.slen, hL.sq, hz1]; done) | (simp only [hz1]; simp [hA.not, hA.eq, hA.lt, hA.le, hA.cond, hA.beq, hA.orb, hL.len, hL.slen, hL.sq, hz1]; done) | (simp [hA.not, hA.eq, hA.lt, hA.le, hA.cond, hA.beq, hA.orb, hL.len, hL.slen, hL.sq, hz1]; omega) | (simp only [hz1]; simp [hA.not, hA.eq, hA.lt, hA.le, hA.cond, hA.beq, hA.orb, hL.len, hL.slen, hL.sq, hz1]; omega)) ?_
          cbv
          refine hret _ (RetEv.ret eOk rfl ⟨_, [], (List.append_nil _).symm, .inl ⟨n1, su1, ro1, af1, d1, xs1, m, false, rs, ?_, ?_, rfl, rfl⟩⟩)
          · rw [hR]; exact hz1p hz1
          · rw [hR]; exact ⟨ht1, k2, rfl, k3⟩
        · refine vcIf.yes (by first | (simp [hA.not, hA.eq, hA.lt, hA.le, hA.cond, hA.beq, hA.orb, hL.len, hL.slen, hL.sq, hz1]; done) | (simp only [hz1]; simp [hA.not, hA.eq, hA.lt, hA.le, hA.cond, hA.beq, hA.orb, hL.len, hL.slen, hL.sq, hz1]; done) | (simp [hA.not, hA.eq, hA.lt, hA.le, hA.cond, hA.beq, hA.orb, hL.len, hL.slen, hL.sq, hz1]; omega) | (simp only [hz1]; simp [hA.not, hA.eq, hA.lt, hA.le, hA.cond, hA.beq, hA.orb, hL.len, hL.slen, hL.sq, hz1]; omega)) ?_
          cbv
          refine hret _ (RetEv.ret eOk rfl ⟨_, _, rfl, .inr ⟨e1, n1, su1, ro1, af1, d1, xs1, ?_, ?_, ?_, rfl, rfl⟩⟩)
          · rw [hR]; exact hz1n hz1
          · rw [hR]; exact he1
          · rw [hR]; exact ht1
      · rw [if_neg hk] at hR
        refine vcIf.no (by first | (simp [hA.not, hA.eq, hA.lt, hA.le, hA.cond, hA.beq, hA.orb, hL.len, hL.slen, hL.sq, hlen, hk]; done) | (simp only [hlen, hk]; simp [hA.not, hA.eq, hA.lt, hA.le, hA.cond, hA.beq, hA.orb, hL.len, hL.slen, hL.sq, hlen, hk]; done) | (simp [hA.not, hA.eq, hA.lt, hA.le, hA.cond, hA.beq, hA.orb, hL.len, hL.slen, hL.sq, hlen, hk]; omega) | (simp only [hlen, hk]; simp [hA.not, hA.eq, hA.lt, hA.le, hA.cond, hA.beq, hA.orb, hL.len, hL.slen, hL.sq, hlen, hk]; omega)) ?_
        cbv
        refine hret _ (RetEv.ret eOk rfl ⟨_, [], (List.append_nil _).symm, .inl ⟨n, su, ro, af, false, xs, m, false, rs, ?_, ?_, rfl, rfl⟩⟩)
        · rw [hR]
        · rw [hR]; exact ⟨ht0, k2, rfl, k3⟩
end Go.Proofs.Ytnigonhkfpnodaa
