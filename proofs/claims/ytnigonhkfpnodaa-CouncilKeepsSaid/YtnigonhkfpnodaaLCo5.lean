/- A council is opened. Conditions: on sizes. -/
import Derived.Test.YtnigonhkfpnodaaLCo4
set_option maxRecDepth 100000
set_option maxHeartbeats 8000000
set_option linter.unusedSimpArgs false
set_option linter.unusedVariables false
namespace Go.Proofs.Ytnigonhkfpnodaa
open Go Go.Lx
open Go.Sx (vcIf)

/-- What the last record says. -/
def cnLast (rs : List (List UInt8)) : Vw4 × Nat := match rs.getLast? with
  | none => (Vw4.zero, 0)
  | some l => gVw l
def cnOpen (t : Tp) : Nat × Cn :=
  if (bkOpen t).1 ≠ 0 then ((bkOpen t).1, ⟨(bkOpen t).2, Vw4.zero⟩) else ((cnLast (bkOpen t).2.rs).2, ⟨(bkOpen t).2, (cnLast (bkOpen t).2.rs).1⟩)
def COpenR (R : Nat × Cn) (v : V) (own : List Res) : Prop :=
  (∃ (n' : Nat) (su' ro' af' : Int) (d' : Bool) (xs' : List PV) (m' : Nat) (dn' : Bool) (rs' : List PV) (pn' pd' an' ad' g' e' r' : Int) (zs' : List PV), R.1 = 0 ∧ IsCo R.2 n' su' ro' af' d' xs' m' dn' rs' pn' pd' an' ad' g' e' r' zs' ∧ v = .tup [.own 4 0, .p (.int .i64 0)] ∧ own = coO n' su' ro' af' d' xs' m' dn' rs' pn' pd' an' ad' g' e' r' zs') ∨
  (∃ (e : Int) (n' : Nat) (su' ro' af' : Int) (d' : Bool) (xs' : List PV), R.1 ≠ 0 ∧ e = (R.1 : Int) ∧ IsTp R.2.b.t n' su' ro' af' d' xs' ∧ v = .p (.tup [.nilp, .int .i64 e]) ∧ own = [tpS n' su' ro' af' d', tpA xs'])
theorem coOpen_nil : FnL Try.prog 11 [.p .nilp] [] fun v own => v = .p (.tup [.nilp, .int .i64 1]) ∧ own = [] := by
  refine fn_of_vc eOk fOk fo11 Try.func11 rfl rfl rfl fun B hB => ?_
  intro add sub mul quo rem band bor bxor bclr shl shr ieq ilt ile seq slt beq bnot orb bcond iwrap iof ssz hA cat sq sl imin imax smin smax len slen u8 hL op hop call hcall code hcode ret hret
  cbv
  refine hcall _ _ _ _ _ (CallEv.same bkOpen_nil rfl ?_)
  rintro _ _ ⟨rfl, rfl⟩
  cbv
  refine vcIf.yes (by first | (simp [hA.not, hA.eq, hA.lt, hA.le, hA.cond, hA.beq, hA.orb, hL.len, hL.slen, hL.sq]; done) | (simp [hA.not, hA.eq, hA.lt, hA.le, hA.cond, hA.beq, hA.orb, hL.len, hL.slen, hL.sq]; omega)) ?_
  cbv
  exact hret _ (RetEv.ret eOk rfl ⟨rfl, rfl⟩)
theorem bkOpen_fit (t : Tp) (hl : t.all.length ≤ 1048576) : (∀ r ∈ (bkOpen t).2.rs, r.length ≤ 65536) ∧ (bkOpen t).2.rs.length ≤ 1048576 := by
  have h := rdR_le t.all.length t.all (Nat.le_refl _)
  unfold bkOpen
  split
  · simp
  split
  · exact ⟨h.2.2, by simp only; omega⟩
  · exact ⟨h.2.2, by simp only; omega⟩
theorem coOpen_spec {t : Tp} {n : Nat} {su ro af : Int} {d : Bool} {xs : List PV} (ht : IsTp t n su ro af d xs) :
    FnL Try.prog 11 [.own 0 0] [tpS n su ro af d, tpA xs] (COpenR (cnOpen t)) := by
  refine FnL.less (R := fun v own => ∃ own' ex, own = own' ++ ex ∧ COpenR (cnOpen t) v own') ?_
    (by
      rintro v _ ⟨own', ex, rfl, ⟨n', su', ro', af', d', xs', m', dn', rs', pn', pd', an', ad', g', e', r', zs', g1, g2, rfl, rfl⟩ | ⟨e, n', su', ro', af', d', xs', g1, g2, g3, rfl, rfl⟩⟩
      · exact ⟨_, _, ex, rfl, VW.refl _, rfl, rfl, Nat.le_of_ble_eq_true rfl, .inl ⟨n', su', ro', af', d', xs', m', dn', rs', pn', pd', an', ad', g', e', r', zs', g1, g2, rfl, rfl⟩⟩
      · exact ⟨_, _, ex, rfl, VW.refl _, rfl, rfl, Nat.le_of_ble_eq_true rfl, .inr ⟨e, n', su', ro', af', d', xs', g1, g2, g3, rfl, rfl⟩⟩)
  obtain ⟨R, hR⟩ : ∃ R, R = cnOpen t := ⟨_, rfl⟩
  rw [← hR]
  have hopn := bkOpen_spec ht
  have hfit := bkOpen_fit t (by unfold IsTp at ht; omega)
  unfold cnOpen at hR
  obtain ⟨⟨E, b⟩, hb⟩ : ∃ X, X = bkOpen t := ⟨_, rfl⟩
  rw [← hb] at hopn hR hfit
  obtain ⟨hf1, hf2⟩ := hfit
  simp only at hR hf1 hf2
  refine fn_of_vc eOk fOk fo11 Try.func11 rfl rfl rfl fun B hB => ?_
  intro add sub mul quo rem band bor bxor bclr shl shr ieq ilt ile seq slt beq bnot orb bcond iwrap iof ssz hA cat sq sl imin imax smin smax len slen u8 hL op hop call hcall code hcode ret hret
  cbv
  refine hcall _ _ _ _ _ (CallEv.lend [0, 1] hopn rfl (.cons (.own 0 0 0 rfl) .nil) (tpL rfl rfl rfl rfl) ?_)
  rintro _ _ (⟨n1, su1, ro1, af1, d1, xs1, m1, dn1, rs1, h0, hb1, rfl, rfl⟩ | ⟨e1, n1, su1, ro1, af1, d1, xs1, h0, he, ht1, rfl, rfl⟩)
  · replace h0 : E = 0 := h0
    rw [if_neg (fun c => c h0)] at hR
    replace hb1 : IsBk b n1 su1 ro1 af1 d1 xs1 m1 dn1 rs1 := hb1
    have hrec := bkRecords_spec hb1 (fun r hr => by have := hf1 r hr; omega) (by rw [hb1.2.1]; omega)
    have hrl : rs1.length = b.rs.length := by rw [hb1.2.2.2, rcP_length]
    obtain ⟨N, hN⟩ : ∃ N, N = b.rs.length := ⟨_, rfl⟩
    have hlen : len rs1 = Int.ofNat N := by rw [hL.len, hrl, hN]; rfl
    cbv
    refine vcIf.no (by first | (simp [hA.not, hA.eq, hA.lt, hA.le, hA.cond, hA.beq, hA.orb, hL.len, hL.slen, hL.sq]; done) | (simp [hA.not, hA.eq, hA.lt, hA.le, hA.cond, hA.beq, hA.orb, hL.len, hL.slen, hL.sq]; omega)) ?_
    cbv
    refine hcall _ _ _ _ _ (CallEv.lend [0, 1, 2, 3] hrec rfl (.cons (.own 2 2 0 rfl) .nil) (bkL rfl rfl rfl rfl rfl rfl rfl) ?_)
    rintro _ _ ⟨rfl, rfl⟩
    cases hcase : b.rs.getLast? with
    | none =>
      have hn0 : N = 0 := by rw [hN, List.getLast?_eq_none_iff.1 hcase]; rfl
      have hl0 : cnLast b.rs = (Vw4.zero, 0) := by unfold cnLast; rw [hcase]
      rw [hl0] at hR
      cbv
      refine vcIf.no (by first | (simp [hA.not, hA.eq, hA.lt, hA.le, hA.cond, hA.beq, hA.orb, hL.len, hL.slen, hL.sq, hlen, hn0]; done) | (simp only [hlen, hn0]; simp [hA.not, hA.eq, hA.lt, hA.le, hA.cond, hA.beq, hA.orb, hL.len, hL.slen, hL.sq, hlen, hn0]; done) | (simp [hA.not, hA.eq, hA.lt, hA.le, hA.cond, hA.beq, hA.orb, hL.len, hL.slen, hL.sq, hlen, hn0]; omega) | (simp only [hlen, hn0]; simp [hA.not, hA.eq, hA.lt, hA.le, hA.cond, hA.beq, hA.orb, hL.len, hL.slen, hL.sq, hlen, hn0]; omega)) ?_
      cbv
      refine hret _ (RetEv.convW (ConvW.cell 4 8 (.p (.sl [])) rfl rfl (.p PW.nils)) (RetEv.ret eOk rfl ⟨_, [], (List.append_nil _).symm, .inl ⟨n1, su1, ro1, af1, d1, xs1, m1, dn1, rs1, 0, 0, 0, 0, 0, 0, 0, [], ?_, ?_, rfl, rfl⟩⟩))
      · rw [hR]
      · rw [hR]; exact ⟨hb1, IsVw.zero⟩
    | some l =>
      have hl0 : cnLast b.rs = gVw l := by unfold cnLast; rw [hcase]
      rw [hl0] at hR
      obtain ⟨k, hk⟩ : ∃ k, N = k + 1 := by
        cases hNn : N with
        | zero => rw [hNn] at hN; rw [List.length_eq_zero_iff.1 hN.symm] at hcase; cases hcase
        | succ k => exact ⟨k, rfl⟩
      have hget : b.rs[k]? = some l := by rw [List.getLast?_eq_getElem?, ← hN, hk] at hcase; exact hcase
      obtain ⟨bs, hbs⟩ : ∃ bs, bs = bP l := ⟨_, rfl⟩
      have hzz : rs1[k]? = some (.sl bs) := by rw [hb1.2.2.2, hbs]; exact rcP_get hget
      have hdec := blDecode_spec l bs hbs
      obtain ⟨D, hD⟩ : ∃ D, D = gVw l := ⟨_, rfl⟩
      rw [← hD] at hdec hR
      have hsub : sub .i64 (Int.ofNat N) 1 = Int.ofNat k := by rw [hA.sub, IntWalk.i64_in _ (by simp only [Int.ofNat_eq_natCast]; omega), hk]; simp only [Int.ofNat_eq_natCast]; omega
      have hpos : 0 < N := by omega
      cbv
      rw [hlen]
      refine vcIf.yes (by first | (simp [hA.not, hA.eq, hA.lt, hA.le, hA.cond, hA.beq, hA.orb, hL.len, hL.slen, hL.sq, hpos]; done) | (simp only [hpos]; simp [hA.not, hA.eq, hA.lt, hA.le, hA.cond, hA.beq, hA.orb, hL.len, hL.slen, hL.sq, hpos]; done) | (simp [hA.not, hA.eq, hA.lt, hA.le, hA.cond, hA.beq, hA.orb, hL.len, hL.slen, hL.sq, hpos]; omega) | (simp only [hpos]; simp [hA.not, hA.eq, hA.lt, hA.le, hA.cond, hA.beq, hA.orb, hL.len, hL.slen, hL.sq, hpos]; omega)) ?_
      cbv
      refine ⟨k, _, by rw [hlen]; exact hsub, hzz, rfl, ?_⟩
      cbv
      refine hcall _ _ _ _ _ (CallEv.same hdec rfl ?_)
      rintro _ _ ⟨w, e2, x, hwe, ⟨zs, hzs, rfl⟩, rfl, rfl⟩
      obtain ⟨pn, pd, an, ad, ⟨g, e, r, ch⟩⟩ := w
      simp only at hzs
      cbv
      by_cases he2 : e2 = 0
      · refine vcIf.no (by first | (simp [hA.not, hA.eq, hA.lt, hA.le, hA.cond, hA.beq, hA.orb, hL.len, hL.slen, hL.sq, he2]; done) | (simp only [he2]; simp [hA.not, hA.eq, hA.lt, hA.le, hA.cond, hA.beq, hA.orb, hL.len, hL.slen, hL.sq, he2]; done) | (simp [hA.not, hA.eq, hA.lt, hA.le, hA.cond, hA.beq, hA.orb, hL.len, hL.slen, hL.sq, he2]; omega) | (simp only [he2]; simp [hA.not, hA.eq, hA.lt, hA.le, hA.cond, hA.beq, hA.orb, hL.len, hL.slen, hL.sq, he2]; omega)) ?_
        cbv
        refine hret _ (RetEv.ret eOk rfl ⟨_, [], (List.append_nil _).symm, .inl ⟨n1, su1, ro1, af1, d1, xs1, m1, dn1, rs1, pn, pd, an, ad, g, e, r, zs, ?_, ?_, rfl, rfl⟩⟩)
        · rw [hR, ← hwe]; exact he2
        · rw [hR, ← hwe]; exact ⟨hb1, rfl, rfl, rfl, rfl, rfl, rfl, rfl, hzs⟩
      · refine vcIf.yes (by first | (simp [hA.not, hA.eq, hA.lt, hA.le, hA.cond, hA.beq, hA.orb, hL.len, hL.slen, hL.sq, he2]; done) | (simp only [he2]; simp [hA.not, hA.eq, hA.lt, hA.le, hA.cond, hA.beq, hA.orb, hL.len, hL.slen, hL.sq, he2]; done) | (simp [hA.not, hA.eq, hA.lt, hA.le, hA.cond, hA.beq, hA.orb, hL.len, hL.slen, hL.sq, he2]; omega) | (simp only [he2]; simp [hA.not, hA.eq, hA.lt, hA.le, hA.cond, hA.beq, hA.orb, hL.len, hL.slen, hL.sq, he2]; omega)) ?_
        cbv
        refine hret _ (RetEv.ret eOk rfl ⟨_, _, rfl, .inr ⟨Int.ofNat e2, n1, su1, ro1, af1, d1, xs1, ?_, ?_, ?_, rfl, rfl⟩⟩)
        · rw [hR, ← hwe]; exact he2
        · rw [hR, ← hwe]; rfl
        · rw [hR]; exact hb1.1
  · replace h0 : E ≠ 0 := h0
    replace he : e1 = (E : Int) := he
    obtain ⟨hz0, hz1, _⟩ := isE he
    rw [if_pos h0] at hR
    have hne : e1 ≠ 0 := fun c => h0 (hz0 c)
    cbv
    refine vcIf.yes (by first | (simp [hA.not, hA.eq, hA.lt, hA.le, hA.cond, hA.beq, hA.orb, hL.len, hL.slen, hL.sq, hne]; done) | (simp only [hne]; simp [hA.not, hA.eq, hA.lt, hA.le, hA.cond, hA.beq, hA.orb, hL.len, hL.slen, hL.sq, hne]; done) | (simp [hA.not, hA.eq, hA.lt, hA.le, hA.cond, hA.beq, hA.orb, hL.len, hL.slen, hL.sq, hne]; omega) | (simp only [hne]; simp [hA.not, hA.eq, hA.lt, hA.le, hA.cond, hA.beq, hA.orb, hL.len, hL.slen, hL.sq, hne]; omega)) ?_
    cbv
    refine hret _ (RetEv.ret eOk rfl ⟨_, _, rfl, .inr ⟨e1, n1, su1, ro1, af1, d1, xs1, ?_, ?_, ?_, rfl, rfl⟩⟩)
    · rw [hR]; exact h0
    · rw [hR]; exact he
    · rw [hR]; exact ht1
end Go.Proofs.Ytnigonhkfpnodaa
