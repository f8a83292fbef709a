/- Records are added, or laid anew. Conditions: on sizes. -/
import Derived.Test.YtnigonhkfpnodaaLBo2
import Derived.Test.YtnigonhkfpnodaaLY10
set_option maxRecDepth 100000
set_option maxHeartbeats 8000000
set_option linter.unusedSimpArgs false
set_option linter.unusedVariables false
namespace Go.Proofs.Ytnigonhkfpnodaa
open Go Go.Lx
open Go.Sx (vcIf)

abbrev erS (e : Int) : Res := .st 30 [.p (.int .i64 e)]
abbrev bxS : Res := .st 83 [.own 2 0]
theorem resetZ {e : Int} {n : Nat} {su ro af : Int} {d : Bool} {xs : List PV} {m : Nat} {dn : Bool} {rs : List PV} :
    FnD Try.prog 100 [.own 4 0, .own 5 0] [tpS n su ro af d, tpA xs, bkS m dn, bkA rs, erS e, bxS] fun v own => ∃ b, b = decide (e = 11) ∧ own = [tpS n su ro af d, tpA xs, bkS m b, bkA rs, erS e, bxS] := by
  refine fnD_of_vc eOk fOk fo100 Try.func100 rfl rfl rfl fun B hB => ?_
  intro add sub mul quo rem band bor bxor bclr shl shr ieq ilt ile seq slt beq bnot orb bcond iwrap iof ssz hA cat sq sl imin imax smin smax len slen u8 hL op hop call hcall code hcode ret hret
  have hb : ieq e 11 = decide (e = 11) := hA.eq e 11
  cbv
  exact hret _ (RetEv.ret eOk rfl ⟨ieq e 11, hb, rfl⟩)

structure Bk where
  t : Tp
  rs : List (List UInt8)
  dn : Bool
def IsBk (b : Bk) (n : Nat) (su ro af : Int) (d : Bool) (xs : List PV) (m : Nat) (dn : Bool) (rs : List PV) : Prop :=
  IsTp b.t n su ro af d xs ∧ m = b.rs.length ∧ dn = b.dn ∧ rs = rcP b.rs
abbrev bkO (n : Nat) (su ro af : Int) (d : Bool) (xs : List PV) (m : Nat) (dn : Bool) (rs : List PV) : List Res := [tpS n su ro af d, tpA xs, bkS m dn, bkA rs]
/-- What the tape answers, and a book with it. -/
def bkFin (b : Bk) (rs : List (List UInt8)) (r : Nat × Tp) : Nat × Bk := (r.1, ⟨r.2, if r.1 = 0 then rs else b.rs, decide (r.1 = 11)⟩)
def bkAdd (b : Bk) (l : List (List UInt8)) : Nat × Bk :=
  if layE b.dn l ≠ 0 then (layE b.dn l, b)
  else if (tpAdd b.t (rbytes l)).1 = 0 then bkFin b (b.rs ++ l) (tpSync (tpAdd b.t (rbytes l)).2) else bkFin b (b.rs ++ l) (tpAdd b.t (rbytes l))
def bkReset (b : Bk) (l : List (List UInt8)) : Nat × Bk :=
  if layE b.dn l ≠ 0 then (layE b.dn l, b) else bkFin b l (tpRep b.t (rbytes l))

theorem bkL6 {own : List Res} {i j k q x y : Nat} {n : Nat} {su ro af : Int} {d : Bool} {xs : List PV} {m : Nat} {dn : Bool} {rs : List PV} {e : Int}
    (g0 : own[i]? = some (.st 96 [.vw j 1 0 n none, .p (.int .i64 su), .p (.int .i64 ro), .p (.int .i64 af), .p (.bool d)])) (g1 : own[j]? = some (tpA xs)) (g2 : own[k]? = some (.st 131 [.own i 0, .vw q 1 0 m none, .p (.bool dn)])) (g3 : own[q]? = some (bkA rs))
    (g4 : own[x]? = some (erS e)) (g5 : own[y]? = some (.st 83 [.own k 0])) :
    TrO own [i, j, k, q, x, y] [] [i, j, k, q, x, y] [tpS n su ro af d, tpA xs, bkS m dn, bkA rs, erS e, bxS] :=
  ⟨⟨_, g0, .st _ _ _ (.cons (.vw 1 j 1 0 n none rfl) (.cons (.p _) (.cons (.p _) (.cons (.p _) (.cons (.p _) .nil)))))⟩, ⟨_, g1, .arr _ _ _⟩, ⟨_, g2, .st _ _ _ (.cons (.own 0 i 0 rfl) (.cons (.vw 3 q 1 0 m none rfl) (.cons (.p _) .nil)))⟩, ⟨_, g3, .arr _ _ _⟩,
    ⟨_, g4, .st _ _ _ (.cons (.p _) .nil)⟩, ⟨_, g5, .st _ _ _ (.cons (.own 2 k 0 rfl) .nil)⟩, trivial⟩
theorem IsBk.fin {b : Bk} {r : Nat × Tp} {rs' : List (List UInt8)} {n : Nat} {su ro af : Int} {d : Bool} {xs : List PV} {m : Nat} {dn : Bool} {rs : List PV} (ht : IsTp r.2 n su ro af d xs) (hm : m = (if r.1 = 0 then rs' else b.rs).length) (hd : dn = decide ((r.1 : Int) = 11)) (hr : rs = rcP (if r.1 = 0 then rs' else b.rs)) :
    IsBk (bkFin b rs' r).2 n su ro af d xs m dn rs := ⟨ht, hm, by rw [hd]; simp only [bkFin]; congr 1; exact propext ⟨fun h => by omega, fun h => by omega⟩, hr⟩

theorem isE {e : Int} {k : Nat} (h : e = (k : Int)) : (e = 0 → k = 0) ∧ (e ≠ 0 → ¬ k = 0) ∧ decide (e = 11) = decide ((k : Int) = 11) := ⟨by omega, by omega, by rw [h]⟩
theorem bkReset_spec {b : Bk} {n : Nat} {su ro af : Int} {d : Bool} {xs : List PV} {m : Nat} {dn : Bool} {rs : List PV} (hb : IsBk b n su ro af d xs m dn rs) (l : List (List UInt8)) (hl : ∀ r ∈ l, r.length + 4 ≤ 140737488355328) (hs : 65546 * l.length + 20 ≤ 140737488355328) (zs : List PV) (hzs : zs = rcP l) :
    FnL Try.prog 61 [.own 2 0, .p (.sl zs)] (bkO n su ro af d xs m dn rs) fun v own => ∃ (e : Int) (n' : Nat) (su' ro' af' : Int) (d' : Bool) (xs' : List PV) (m' : Nat) (dn' : Bool) (rs' : List PV), e = ((bkReset b l).1 : Int) ∧ IsBk (bkReset b l).2 n' su' ro' af' d' xs' m' dn' rs' ∧ v = .p (.int .i64 e) ∧ own = bkO n' su' ro' af' d' xs' m' dn' rs' := by
  refine FnL.less (R := fun v own => ∃ (e : Int) (n' : Nat) (su' ro' af' : Int) (d' : Bool) (xs' : List PV) (m' : Nat) (dn' : Bool) (rs' : List PV) (ex : List Res), e = ((bkReset b l).1 : Int) ∧ IsBk (bkReset b l).2 n' su' ro' af' d' xs' m' dn' rs' ∧ v = .p (.int .i64 e) ∧ own = bkO n' su' ro' af' d' xs' m' dn' rs' ++ ex) ?_
    (by
      rintro _ _ ⟨e, n', su', ro', af', d', xs', m', dn', rs', ex, h1, h2, rfl, rfl⟩
      exact ⟨_, _, ex, rfl, .p (.refl _), rfl, rfl, Nat.le_refl _, e, n', su', ro', af', d', xs', m', dn', rs', h1, h2, rfl, rfl⟩)
  obtain ⟨R, hR⟩ : ∃ R, R = bkReset b l := ⟨_, rfl⟩
  rw [← hR]
  have hb0 := hb
  obtain ⟨ht, h1, h2, h3⟩ := hb
  have hlay := bkLay_spec l hl (by omega) zs hzs (n := n) (su := su) (ro := ro) (af := af) (d := d) (xs := xs) (m := m) (dn := dn) (rs := rs)
  have hcl := bkClone_spec l (fun r hr => by have := hl r hr; omega) (by omega) zs hzs
  obtain ⟨N, hN⟩ : ∃ N, N = l.length := ⟨_, rfl⟩
  rw [← hN] at hcl
  have hzl : zs.length = N := by rw [hzs, rcP_length, hN]
  refine fn_of_defer eOk fOk fo61 Try.func61 rfl rfl 3 rfl rfl rfl rfl rfl fun B hB => ?_
  intro add sub mul quo rem band bor bxor bclr shl shr ieq ilt ile seq slt beq bnot orb bcond iwrap iof ssz hA cat sq sl imin imax smin smax len slen u8 hL op hop call hcall code hcode ret hret
  intro mid hmid
  cbv
  refine hcall _ _ _ _ _ (CallEv.lend [0, 1, 2, 3] hlay rfl (.cons (.own 2 2 0 rfl) (.cons (.p _) .nil)) (bkL rfl rfl rfl rfl rfl rfl rfl) ?_)
  rintro _ _ ⟨ys, e, he, hy0, hy1, rfl, rfl⟩
  rw [h2] at he
  cbv
  by_cases h0 : e = 0
  · have hys := hy0 h0
    have hrl := rbytes_len l (by
      rw [h0] at he; unfold layE at he
      split at he
      · cases he
      · split at he
        · assumption
        · cases he)
    have hrep := replace_spec ht (rbytes l) (by omega)
    rw [← hys] at hrep
    rw [bkReset, if_neg (by rw [← he]; exact fun c => c h0)] at hR
    obtain ⟨A, hA0⟩ : ∃ A, A = tpRep b.t (rbytes l) := ⟨_, rfl⟩
    rw [← hA0] at hrep hR
    refine vcIf.no (by first | (simp [hA.not, hA.eq, hA.lt, hA.le, hA.cond, hA.beq, hA.orb, hL.len, hL.slen, hL.sq, h0]; done) | (simp only [h0]; simp [hA.not, hA.eq, hA.lt, hA.le, hA.cond, hA.beq, hA.orb, hL.len, hL.slen, hL.sq, h0]; done) | (simp [hA.not, hA.eq, hA.lt, hA.le, hA.cond, hA.beq, hA.orb, hL.len, hL.slen, hL.sq, h0]; omega) | (simp only [h0]; simp [hA.not, hA.eq, hA.lt, hA.le, hA.cond, hA.beq, hA.orb, hL.len, hL.slen, hL.sq, h0]; omega)) ?_
    cbv
    refine hmid _ ⟨_, _, rfl, rfl, fo100, fun B2 hB2 => ?_⟩
    intro add2 sub2 mul2 quo2 rem2 band2 bor2 bxor2 bclr2 shl2 shr2 ieq2 ilt2 ile2 seq2 slt2 beq2 bnot2 orb2 bcond2 iwrap2 iof2 ssz2 hA2 cat2 sq2 sl2 imin2 imax2 smin2 smax2 len2 slen2 u82 hL2 op2 hop2 call2 hcall2 code2 hcode2 ret2 hret2
    cbv
    refine hcall2 _ _ _ _ _ (CallEv.lend [0, 1] hrep rfl (.cons (.own 0 0 0 rfl) (.cons (.p _) .nil)) (tpL rfl rfl rfl rfl) ?_)
    rintro _ _ ⟨e1, n1, su1, ro1, af1, d1, xs1, he1, ht1, rfl, rfl⟩
    obtain ⟨hz1p, hz1n, he1'⟩ := isE he1
    cbv
    by_cases hz1 : e1 = 0
    · refine vcIf.yes (by first | (simp [hA2.not, hA2.eq, hA2.lt, hA2.le, hA2.cond, hA2.beq, hA2.orb, hL2.len, hL2.slen, hL2.sq, hz1]; done) | (simp only [hz1]; simp [hA2.not, hA2.eq, hA2.lt, hA2.le, hA2.cond, hA2.beq, hA2.orb, hL2.len, hL2.slen, hL2.sq, hz1]; done) | (simp [hA2.not, hA2.eq, hA2.lt, hA2.le, hA2.cond, hA2.beq, hA2.orb, hL2.len, hL2.slen, hL2.sq, hz1]; omega) | (simp only [hz1]; simp [hA2.not, hA2.eq, hA2.lt, hA2.le, hA2.cond, hA2.beq, hA2.orb, hL2.len, hL2.slen, hL2.sq, hz1]; omega)) ?_
      cbv
      refine hcode2 _ _ _ (CodeEv.drawT eOk fOk (by kernel_rfl) (Xof 6 [2, 3]) (.rd 0 (.so 1 (.acts (.cons 2 (.so 3 (.so 4 (.acts (.cons 5 (.done) (.nil))))) (.nil))))) (by kernel_rfl) (by kernel_rfl) ?_)
      intro add3 sub3 mul3 quo3 rem3 band3 bor3 bxor3 bclr3 shl3 shr3 ieq3 ilt3 ile3 seq3 slt3 beq3 bnot3 orb3 bcond3 iwrap3 iof3 ssz3 hA3 cat3 sq3 sl3 imin3 imax3 smin3 smax3 len3 slen3 u83 hL3 op3 hop3 call3 hcall3 code3 hcode3 q3 hq3
      cbv
      refine hcall3 _ _ _ _ _ (CallEv.same hcl rfl ?_)
      rintro _ _ ⟨rfl, rfl⟩
      cbv
      refine hq3 _ ?_
      cbv
      refine hret2 _ (EndD.lend [0, 1, 2, 6, 5, 4] resetZ rfl (.cons (.own 4 5 0 rfl) (.cons (.own 5 4 0 rfl) .nil)) (bkL6 rfl rfl rfl rfl rfl rfl) ?_)
      rintro _ _ ⟨b1, hb1, rfl⟩
      refine RetEv.convW (ConvW.pack [0, 1, 2, 6, 4, 5] hB rfl) (RetEv.ret eOk rfl ⟨e1, n1, su1, ro1, af1, d1, xs1, N, b1, zs, _, ?_, ?_, rfl, rfl⟩)
      · rw [hR]; exact he1
      · rw [hR]; exact IsBk.fin ht1 (by rw [if_pos (hz1p hz1), hN]) (hb1.trans he1') (by rw [if_pos (hz1p hz1), hzs])
    · refine vcIf.no (by first | (simp [hA2.not, hA2.eq, hA2.lt, hA2.le, hA2.cond, hA2.beq, hA2.orb, hL2.len, hL2.slen, hL2.sq, hz1]; done) | (simp only [hz1]; simp [hA2.not, hA2.eq, hA2.lt, hA2.le, hA2.cond, hA2.beq, hA2.orb, hL2.len, hL2.slen, hL2.sq, hz1]; done) | (simp [hA2.not, hA2.eq, hA2.lt, hA2.le, hA2.cond, hA2.beq, hA2.orb, hL2.len, hL2.slen, hL2.sq, hz1]; omega) | (simp only [hz1]; simp [hA2.not, hA2.eq, hA2.lt, hA2.le, hA2.cond, hA2.beq, hA2.orb, hL2.len, hL2.slen, hL2.sq, hz1]; omega)) ?_
      cbv
      refine hret2 _ (EndD.lend [0, 1, 2, 3, 5, 4] resetZ rfl (.cons (.own 4 5 0 rfl) (.cons (.own 5 4 0 rfl) .nil)) (bkL6 rfl rfl rfl rfl rfl rfl) ?_)
      rintro _ _ ⟨b1, hb1, rfl⟩
      refine RetEv.ret eOk rfl ⟨e1, n1, su1, ro1, af1, d1, xs1, m, b1, rs, _, ?_, ?_, rfl, rfl⟩
      · rw [hR]; exact he1
      · rw [hR]; exact IsBk.fin ht1 (by rw [if_neg (hz1n hz1)]; exact h1) (hb1.trans he1') (by rw [if_neg (hz1n hz1)]; exact h3)
  · have hR2 : R = (e, b) := by rw [hR, bkReset, if_pos (by rw [← he]; exact h0), ← he]
    refine vcIf.yes (by first | (simp [hA.not, hA.eq, hA.lt, hA.le, hA.cond, hA.beq, hA.orb, hL.len, hL.slen, hL.sq, h0]; done) | (simp only [h0]; simp [hA.not, hA.eq, hA.lt, hA.le, hA.cond, hA.beq, hA.orb, hL.len, hL.slen, hL.sq, h0]; done) | (simp [hA.not, hA.eq, hA.lt, hA.le, hA.cond, hA.beq, hA.orb, hL.len, hL.slen, hL.sq, h0]; omega) | (simp only [h0]; simp [hA.not, hA.eq, hA.lt, hA.le, hA.cond, hA.beq, hA.orb, hL.len, hL.slen, hL.sq, h0]; omega)) ?_
    cbv
    refine hret _ (RetEv.ret eOk rfl ⟨Int.ofNat e, n, su, ro, af, d, xs, m, dn, rs, _, ?_, ?_, rfl, rfl⟩)
    · rw [hR2]; rfl
    · rw [hR2]; exact hb0
end Go.Proofs.Ytnigonhkfpnodaa
