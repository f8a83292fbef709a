/- Records as they stand on a tape. Conditions: on sizes. -/
import Derived.Test.YtnigonhkfpnodaaLBo1
import Derived.Test.YtnigonhkfpnodaaLWr
import Derived.Test.YtnigonhkfpnodaaLCas1
set_option maxRecDepth 100000
set_option maxHeartbeats 4000000
set_option linter.unusedSimpArgs false
set_option linter.unusedVariables false
namespace Go.Proofs.Ytnigonhkfpnodaa
open Go Go.Lx
open Go.Sx (vcIf)

def rbytes (l : List (List UInt8)) : List UInt8 := encts (l.map cseal)
def layE (dn : Bool) (l : List (List UInt8)) : Nat := if dn = true then 11 else if ∀ r ∈ l, r.length ≤ 65532 then 0 else 6
theorem cseal_length (l : List UInt8) : (cseal l).length = l.length + 4 := by simp only [cseal, le4, List.length_append, List.length_cons, List.length_nil]; omega
theorem rbytes_append (a b : List (List UInt8)) : rbytes (a ++ b) = rbytes a ++ rbytes b := by simp [rbytes, encts]
theorem rbytes_one (r : List UInt8) : rbytes [r] = enct (cseal r) := by simp [rbytes, encts]
theorem rbytes_len : ∀ (l : List (List UInt8)), (∀ r ∈ l, r.length ≤ 65532) → (rbytes l).length ≤ 65546 * l.length
  | [], _ => by simp [rbytes, encts]
  | r :: l, h => by
    have h1 := rbytes_len l fun x hx => h x (by simp [hx])
    have h2 := h r (by simp)
    have h3 := enc_len9 (show (cseal r).length < 9223372036854775808 by rw [cseal_length]; omega)
    rw [show r :: l = [r] ++ l from rfl, rbytes_append, rbytes_one, List.length_append, List.length_append]
    unfold enct
    rw [List.length_append, cseal_length]
    rw [cseal_length] at h3
    simp only [List.length_singleton]; omega
theorem sP_one (s : List UInt8) : [PV.str s] = sP [s] := rfl

theorem bkLay_nil (zs : List PV) : FnL Try.prog 99 [.p .nilp, .p (.sl zs)] [] fun v own => v = .p (.tup [.nils, .int .i64 1]) ∧ own = [] := by
  refine fn_of_vc eOk fOk fo99 Try.func99 rfl rfl rfl fun B hB => ?_
  intro add sub mul quo rem band bor bxor bclr shl shr ieq ilt ile seq slt beq bnot orb bcond iwrap iof ssz hA cat sq sl imin imax smin smax len slen u8 hL op hop call hcall code hcode ret hret
  cbv
  refine hcall _ _ _ _ _ (CallEv.same bkReady_nil rfl ?_)
  rintro _ _ ⟨rfl, rfl⟩
  cbv
  refine vcIf.yes (by first | (simp [hA.not, hA.eq, hA.lt, hA.le, hA.cond, hA.beq, hA.orb, hL.len, hL.slen, hL.sq]; done) | (simp [hA.not, hA.eq, hA.lt, hA.le, hA.cond, hA.beq, hA.orb, hL.len, hL.slen, hL.sq]; omega)) ?_
  cbv
  exact hret _ (RetEv.ret eOk rfl ⟨rfl, rfl⟩)

theorem bkL {own : List Res} {js : List Nat} {i j k q : Nat} {n : Nat} {su ro af : Int} {d : Bool} {xs : List PV} {m : Nat} {dn : Bool} {rs : List PV} (h0 : js[0]? = some i) (h1 : js[1]? = some j) (h3 : js[3]? = some q)
    (g0 : own[i]? = some (.st 96 [.vw j 1 0 n none, .p (.int .i64 su), .p (.int .i64 ro), .p (.int .i64 af), .p (.bool d)])) (g1 : own[j]? = some (tpA xs)) (g2 : own[k]? = some (.st 131 [.own i 0, .vw q 1 0 m none, .p (.bool dn)])) (g3 : own[q]? = some (bkA rs)) :
    TrO own js [] [i, j, k, q] [tpS n su ro af d, tpA xs, bkS m dn, bkA rs] :=
  ⟨⟨_, g0, .st _ _ _ (.cons (.vw 1 j 1 0 n none h1) (.cons (.p _) (.cons (.p _) (.cons (.p _) (.cons (.p _) .nil)))))⟩, ⟨_, g1, .arr _ _ _⟩, ⟨_, g2, .st _ _ _ (.cons (.own 0 i 0 h0) (.cons (.vw 3 q 1 0 m none h3) (.cons (.p _) .nil)))⟩, ⟨_, g3, .arr _ _ _⟩, trivial⟩
theorem bkLay_spec (l : List (List UInt8)) (hl : ∀ r ∈ l, r.length + 4 ≤ 140737488355328) (hs : 65546 * l.length + 20 ≤ 140737488355328) (zs : List PV) (hzs : zs = rcP l) {n : Nat} {su ro af : Int} {d : Bool} {xs : List PV} {m : Nat} {dn : Bool} {rs : List PV} :
    FnL Try.prog 99 [.own 2 0, .p (.sl zs)] [tpS n su ro af d, tpA xs, bkS m dn, bkA rs] fun v own => ∃ (ys : List PV) (e : Nat), e = layE dn l ∧ (e = 0 → ys = bP (rbytes l)) ∧ (e ≠ 0 → ys = []) ∧ v = .p (.tup [.sl ys, .int .i64 (Int.ofNat e)]) ∧ own = [tpS n su ro af d, tpA xs, bkS m dn, bkA rs] := by
  refine FnL.less (R := fun v own => ∃ (ys : List PV) (e : Nat) (y : PV) (ex : List Res), e = layE dn l ∧ (e = 0 → ys = bP (rbytes l)) ∧ (e ≠ 0 → ys = []) ∧ v = .p (.tup [y, .int .i64 (Int.ofNat e)]) ∧ PW y (.sl ys) ∧ own = [tpS n su ro af d, tpA xs, bkS m dn, bkA rs] ++ ex) ?_
    (by
      rintro _ _ ⟨ys, e, y, ex, h1, h2, h3, rfl, hy, rfl⟩
      exact ⟨.p (.tup [.sl ys, .int .i64 (Int.ofNat e)]), _, ex, rfl, .p (PW.tup ⟨hy, .refl _, trivial⟩), rfl, rfl, Nat.le_refl _, ys, e, h1, h2, h3, rfl, rfl⟩)
  obtain ⟨N, hN⟩ : ∃ N, N = l.length := ⟨_, rfl⟩
  have hzl : zs.length = N := by rw [hzs, rcP_length, hN]
  rw [← hN] at hs
  obtain ⟨e0, he0⟩ : ∃ e0, e0 = layE dn l := ⟨_, rfl⟩
  rw [← he0]
  refine fn_of_vc eOk fOk fo99 Try.func99 rfl rfl rfl fun B hB => ?_
  intro add sub mul quo rem band bor bxor bclr shl shr ieq ilt ile seq slt beq bnot orb bcond iwrap iof ssz hA cat sq sl imin imax smin smax len slen u8 hL op hop call hcall code hcode ret hret
  have hlen : len zs = Int.ofNat N := by rw [hL.len, hzl]; rfl
  cbv
  refine hcall _ _ _ _ _ (CallEv.lend [0, 1, 2, 3] (bkReady_spec (n := n) (su := su) (ro := ro) (af := af) (d := d) (xs := xs) (m := m) (dn := dn) (rs := rs)) rfl (.cons (.own 2 2 0 rfl) .nil) (bkL rfl rfl rfl rfl rfl rfl rfl) ?_)
  rintro _ _ ⟨rfl, rfl⟩
  cases dn with
  | true =>
    have he : e0 = 11 := by rw [he0]; rfl
    cbv
    refine vcIf.yes (by first | (simp [hA.not, hA.eq, hA.lt, hA.le, hA.cond, hA.beq, hA.orb, hL.len, hL.slen, hL.sq]; done) | (simp [hA.not, hA.eq, hA.lt, hA.le, hA.cond, hA.beq, hA.orb, hL.len, hL.slen, hL.sq]; omega)) ?_
    cbv
    exact hret _ (RetEv.ret eOk rfl ⟨[], 11, .nils, [], he.symm, (fun h => by cases h), fun _ => rfl, rfl, PW.nils, rfl⟩)
  | false =>
    have he : e0 = if ∀ r ∈ l, r.length ≤ 65532 then 0 else 6 := he0
    cbv
    refine vcIf.no (by first | (simp [hA.not, hA.eq, hA.lt, hA.le, hA.cond, hA.beq, hA.orb, hL.len, hL.slen, hL.sq]; done) | (simp [hA.not, hA.eq, hA.lt, hA.le, hA.cond, hA.beq, hA.orb, hL.len, hL.slen, hL.sq]; omega)) ?_
    cbv
    rw [hlen]
    refine hcode _ _ _ (CodeEv.conv (Conv.hollowC 4 0 5 1 (by decide) rfl rfl) ?_)
    refine CodeEv.loop eOk fOk (ι := Nat × Nat × List PV) (fun s => [(7, .own 4 0), (17, .p (.sl zs)), (18, .p (.int .i64 (Int.ofNat N))), (19, .p (.int .i64 (Int.ofNat s.1)))])
      (fun s => [tpS n su ro af d, tpA xs, bkS m false, bkA rs, .st 121 [.vw 5 1 0 s.2.1 none, .p (.int .i64 0)], wrA s.2.2]) (fun s => s.1 ≤ N ∧ s.2.2.length = s.2.1 ∧ s.2.1 ≤ 65546 * s.1 ∧ (∀ z ∈ l.take s.1, z.length ≤ 65532) ∧ s.2.2 = bP (rbytes (l.take s.1))) (fun s => N - s.1) (0, 0, []) ?_ ?_
    · exact ⟨⟨rfl, rfl, rfl, rfl, trivial⟩, rfl, Nat.zero_le _, rfl, Nat.zero_le _, fun z hz => by simp at hz, by simp [rbytes, encts, bP]⟩
    rintro ⟨i, k, us⟩ ⟨h1, h2, h3, h4, h5⟩ rd hrd
    simp only at h1 h2 h3 h4 h5
    intro add1 sub1 mul1 quo1 rem1 band1 bor1 bxor1 bclr1 shl1 shr1 ieq1 ilt1 ile1 seq1 slt1 beq1 bnot1 orb1 bcond1 iwrap1 iof1 ssz1 hA1 cat1 sq1 sl1 imin1 imax1 smin1 smax1 len1 slen1 u81 hL1 op1 hop1 call1 hcall1 code1 hcode1
    have hadd1 : i < N → add1 .i64 (Int.ofNat i) 1 = Int.ofNat (i + 1) := fun _ => by rw [hA1.add, IntWalk.i64_in _ (by simp only [Int.ofNat_eq_natCast]; omega)]; rfl
    cbv
    by_cases hi : i < N
    · obtain ⟨r, hr⟩ := get_of_lt (show i < l.length by omega)
      obtain ⟨bs, hbs⟩ : ∃ bs, bs = bP r := ⟨_, rfl⟩
      have hbl : len1 bs = Int.ofNat r.length := by rw [hL1.len, hbs, bP_length]; rfl
      have hzz : zs[i]? = some (.sl bs) := by rw [hzs, hbs]; exact rcP_get hr
      have htk : l.take (i + 1) = l.take i ++ [r] := by rw [List.take_add_one, hr]; rfl
      have hrm := hl r (List.mem_of_getElem? hr)
      refine vcIf.yes (by first | (simp [hA1.not, hA1.eq, hA1.lt, hA1.le, hA1.cond, hA1.beq, hA1.orb, hL1.len, hL1.slen, hL1.sq, hi]; done) | (simp only [hi]; simp [hA1.not, hA1.eq, hA1.lt, hA1.le, hA1.cond, hA1.beq, hA1.orb, hL1.len, hL1.slen, hL1.sq, hi]; done) | (simp [hA1.not, hA1.eq, hA1.lt, hA1.le, hA1.cond, hA1.beq, hA1.orb, hL1.len, hL1.slen, hL1.sq, hi]; omega) | (simp only [hi]; simp [hA1.not, hA1.eq, hA1.lt, hA1.le, hA1.cond, hA1.beq, hA1.orb, hL1.len, hL1.slen, hL1.sq, hi]; omega)) ?_
      cbv
      refine ⟨i, _, rfl, hzz, rfl, ?_⟩
      cbv
      by_cases hbig : 65532 < r.length
      · have he2 : e0 = 6 := by rw [he, if_neg (fun c => by have := c r (List.mem_of_getElem? hr); omega)]
        refine vcIf.yes (by first | (simp [hA1.not, hA1.eq, hA1.lt, hA1.le, hA1.cond, hA1.beq, hA1.orb, hL1.len, hL1.slen, hL1.sq, hbl, hbig]; done) | (simp only [hbl, hbig]; simp [hA1.not, hA1.eq, hA1.lt, hA1.le, hA1.cond, hA1.beq, hA1.orb, hL1.len, hL1.slen, hL1.sq, hbl, hbig]; done) | (simp [hA1.not, hA1.eq, hA1.lt, hA1.le, hA1.cond, hA1.beq, hA1.orb, hL1.len, hL1.slen, hL1.sq, hbl, hbig]; omega) | (simp only [hbl, hbig]; simp [hA1.not, hA1.eq, hA1.lt, hA1.le, hA1.cond, hA1.beq, hA1.orb, hL1.len, hL1.slen, hL1.sq, hbl, hbig]; omega)) ?_
        cbv
        exact hret _ (RetEv.ret eOk rfl ⟨[], 6, .nils, _, he2.symm, (fun h => by cases h), fun _ => rfl, rfl, PW.nils, rfl⟩)
      · have hse := casSeal_spec r bs hbs hrm
        have hsl := cseal_length r
        obtain ⟨S, hS⟩ : ∃ S, S = cseal r := ⟨_, rfl⟩
        rw [← hS] at hse hsl
        have htx := wrTexts_spec [S] [.str S] (sP_one S) (by simp; omega) k 0 us h2 (by simp; omega)
        have hrb : rbytes (l.take (i + 1)) = rbytes (l.take i) ++ encts [S] := by rw [htk, rbytes_append, hS]; rfl
        have hok : ∀ s ∈ [S], s.length ≤ 65536 := by simp; omega
        have h4' : ∀ z ∈ l.take (i + 1), z.length ≤ 65532 := fun z hz => by
          rw [htk] at hz
          rcases List.mem_append.1 hz with c | c
          · exact h4 z c
          · simp at c; rw [c]; omega
        refine vcIf.no (by first | (simp [hA1.not, hA1.eq, hA1.lt, hA1.le, hA1.cond, hA1.beq, hA1.orb, hL1.len, hL1.slen, hL1.sq, hbl, hbig]; done) | (simp only [hbl, hbig]; simp [hA1.not, hA1.eq, hA1.lt, hA1.le, hA1.cond, hA1.beq, hA1.orb, hL1.len, hL1.slen, hL1.sq, hbl, hbig]; done) | (simp [hA1.not, hA1.eq, hA1.lt, hA1.le, hA1.cond, hA1.beq, hA1.orb, hL1.len, hL1.slen, hL1.sq, hbl, hbig]; omega) | (simp only [hbl, hbig]; simp [hA1.not, hA1.eq, hA1.lt, hA1.le, hA1.cond, hA1.beq, hA1.orb, hL1.len, hL1.slen, hL1.sq, hbl, hbig]; omega)) ?_
        cbv
        refine hcall1 _ _ _ _ _ (CallEv.same hse rfl ?_)
        rintro _ _ ⟨ws, hws, rfl, rfl⟩
        cbv
        refine ⟨S, hws, ?_⟩
        cbv
        refine ⟨false, ?_⟩
        cbv
        refine hcall1 _ _ _ _ _ (CallEv.lend [4, 5] htx rfl (.cons (.own 0 4 0 rfl) (.cons (.p _) .nil)) (wrL rfl rfl rfl rfl) ?_)
        rintro _ _ ⟨k', e', us', ⟨w1, w2, w3, w4⟩, rfl, rfl⟩
        obtain ⟨w5, w6⟩ := w3 hok
        subst w5
        cbv
        refine hrd _ ⟨(i + 1, k', us'), [], ?_, ⟨hi, w1, ?_, h4', ?_⟩, rfl, ⟨rfl, rfl, rfl, ?_, trivial⟩, rfl, rfl, rfl, ?_⟩
        · simp only; omega
        · simp only [List.length_singleton] at w2; simp only; omega
        · simp only; rw [hrb, w6, h5, bP_append]
        · show some (V.p (.int .i64 _)) = _
          rw [hadd1 hi]
        · rw [hB]; exact Nat.le_of_ble_eq_true rfl
    · refine vcIf.no (by first | (simp [hA1.not, hA1.eq, hA1.lt, hA1.le, hA1.cond, hA1.beq, hA1.orb, hL1.len, hL1.slen, hL1.sq, hi]; done) | (simp only [hi]; simp [hA1.not, hA1.eq, hA1.lt, hA1.le, hA1.cond, hA1.beq, hA1.orb, hL1.len, hL1.slen, hL1.sq, hi]; done) | (simp [hA1.not, hA1.eq, hA1.lt, hA1.le, hA1.cond, hA1.beq, hA1.orb, hL1.len, hL1.slen, hL1.sq, hi]; omega) | (simp only [hi]; simp [hA1.not, hA1.eq, hA1.lt, hA1.le, hA1.cond, hA1.beq, hA1.orb, hL1.len, hL1.slen, hL1.sq, hi]; omega)) ?_
      cbv
      have hiN : i = N := by omega
      rw [List.take_of_length_le (by omega)] at h4 h5
      have he2 : e0 = 0 := by rw [he, if_pos h4]
      refine hcall _ _ _ _ _ (CallEv.lend [4, 5] (wrBytes_spec k 0 us) rfl (.cons (.own 0 4 0 rfl) .nil) (wrL rfl rfl rfl rfl) ?_)
      rintro _ _ ⟨⟨_, rfl⟩ | ⟨c, rfl⟩, rfl⟩
      · cbv
        refine hret _ (RetEv.retF eOk rfl 5 rfl (by rw [hB]; exact Nat.le_of_ble_eq_true rfl) ⟨us, 0, .sl ((us.drop 0).take k), _, he2.symm, fun _ => h5, fun c => absurd rfl c, rfl, ?_, rfl⟩)
        rw [frz_full h2]; exact PW.refl _
      · exact absurd rfl c
end Go.Proofs.Ytnigonhkfpnodaa
