/- A tape's calls: ready, write, New. Conditions: on sizes. -/
import Derived.Test.YtnigonhkfpnodaaLBc
set_option maxRecDepth 100000
set_option maxHeartbeats 4000000
set_option linter.unusedSimpArgs false
set_option linter.unusedVariables false
namespace Go.Proofs.Ytnigonhkfpnodaa
open Go Go.Lx
open Go.Sx (vcIf)

structure Tp where
  all : List UInt8
  sure : Nat
  room : Nat
  after : Int
  down : Bool
abbrev tpS (n : Nat) (su ro af : Int) (d : Bool) : Res := .st 96 [.vw 1 1 0 n none, .p (.int .i64 su), .p (.int .i64 ro), .p (.int .i64 af), .p (.bool d)]
abbrev tpA (xs : List PV) : Res := .arr 5 1 xs
def IsTp (t : Tp) (n : Nat) (su ro af : Int) (d : Bool) (xs : List PV) : Prop :=
  n = t.all.length ∧ su = (t.sure : Int) ∧ ro = (t.room : Int) ∧ af = t.after ∧ d = t.down ∧ xs = bP t.all ∧ t.sure ≤ t.all.length ∧ t.all.length ≤ t.room ∧ t.room ≤ 1048576 ∧ -1 ≤ t.after ∧ t.after ≤ 9223372036854775807
/-- One call that writes. -/
def wr (t : Tp) (size : Nat) : Nat × Tp :=
  if t.down then (11, t) else if t.room < size then (10, t) else if t.after = 0 then (11, { t with down := true }) else if 0 < t.after then (0, { t with after := t.after - 1 }) else (0, t)

theorem ready_spec {n : Nat} {su ro af : Int} {d : Bool} {xs : List PV} : FnL Try.prog 105 [.own 0 0] [tpS n su ro af d, tpA xs] fun z own => z = .p (.int .i64 (if d then 11 else 0)) ∧ own = [tpS n su ro af d, tpA xs] := by
  refine fn_of_vc eOk fOk fo105 Try.func105 rfl rfl rfl fun B hB => ?_
  intro add sub mul quo rem band bor bxor bclr shl shr ieq ilt ile seq slt beq bnot orb bcond iwrap iof ssz hA cat sq sl imin imax smin smax len slen u8 hL op hop call hcall code hcode ret hret
  cbv
  cases d with
  | true =>
    cbv
    exact hret _ (RetEv.ret eOk rfl ⟨rfl, rfl⟩)
  | false =>
    cbv
    exact hret _ (RetEv.ret eOk rfl ⟨rfl, rfl⟩)
theorem ready_nil : FnL Try.prog 105 [.p .nilp] [] fun z own => z = .p (.int .i64 1) ∧ own = [] := by
  refine fn_of_vc eOk fOk fo105 Try.func105 rfl rfl rfl fun B hB => ?_
  intro add sub mul quo rem band bor bxor bclr shl shr ieq ilt ile seq slt beq bnot orb bcond iwrap iof ssz hA cat sq sl imin imax smin smax len slen u8 hL op hop call hcall code hcode ret hret
  cbv
  exact hret _ (RetEv.ret eOk rfl ⟨rfl, rfl⟩)

/-- The tape, lent. -/
theorem tpL {own : List Res} {js : List Nat} {i j n : Nat} {su ro af : Int} {d : Bool} {xs : List PV} (hi : js[0]? = some i) (hj : js[1]? = some j)
    (h1 : own[i]? = some (.st 96 [.vw j 1 0 n none, .p (.int .i64 su), .p (.int .i64 ro), .p (.int .i64 af), .p (.bool d)])) (h2 : own[j]? = some (tpA xs)) : TrO own js [] [i, j] [tpS n su ro af d, tpA xs] :=
  ⟨⟨_, h1, .st _ _ _ (.cons (.vw 1 j 1 0 n none hj) (.cons (.p _) (.cons (.p _) (.cons (.p _) (.cons (.p _) .nil)))))⟩, ⟨_, h2, .arr _ _ _⟩, trivial⟩

theorem write_spec {t : Tp} {n : Nat} {su ro af : Int} {d : Bool} {xs : List PV} (ht : IsTp t n su ro af d xs) (size : Nat) (z : Int) (hz : z = (size : Int)) :
    FnL Try.prog 109 [.own 0 0, .p (.int .i64 z)] [tpS n su ro af d, tpA xs] fun v own => ∃ (e af' : Int) (d' : Bool), e = ((wr t size).1 : Int) ∧ IsTp (wr t size).2 n su ro af' d' xs ∧ v = .p (.int .i64 e) ∧ own = [tpS n su ro af' d', tpA xs] := by
  obtain ⟨a, sr, rm, af0, d0⟩ := t
  obtain ⟨h1, h2, h3, h4, h5, h6, h7, h8, h9, h10, h11⟩ := ht
  simp only at h1 h2 h3 h4 h5 h6 h7 h8 h9 h10 h11
  subst h4 h5
  obtain ⟨R, hR⟩ : ∃ R, R = wr ⟨a, sr, rm, af, d⟩ size := ⟨_, rfl⟩
  have hR2 := hR
  rw [← hR]
  unfold wr at hR2
  simp only at hR2
  have hro : ro < z ↔ rm < size := by omega
  clear hR
  refine fn_of_vc eOk fOk fo109 Try.func109 rfl rfl rfl fun B hB => ?_
  intro add sub mul quo rem band bor bxor bclr shl shr ieq ilt ile seq slt beq bnot orb bcond iwrap iof ssz hA cat sq sl imin imax smin smax len slen u8 hL op hop call hcall code hcode ret hret
  cbv
  refine hcall _ _ _ _ _ (CallEv.lend [0, 1] (ready_spec (n := n) (su := su) (ro := ro) (af := af) (d := d) (xs := xs)) rfl (.cons (.own 0 0 0 rfl) .nil) (tpL rfl rfl rfl rfl) ?_)
  rintro _ _ ⟨rfl, rfl⟩
  cbv
  cases d with
  | true =>
    rw [if_pos rfl] at hR2
    refine vcIf.yes (by rw [hA.not, hA.eq]; rfl) ?_
    cbv
    exact hret _ (RetEv.ret eOk rfl ⟨11, af, true, by rw [hR2]; rfl, by rw [hR2]; exact ⟨h1, h2, h3, rfl, rfl, h6, h7, h8, h9, h10, h11⟩, rfl, rfl⟩)
  | false =>
    rw [if_neg (by decide)] at hR2
    refine vcIf.no (by rw [hA.not, hA.eq]; rfl) ?_
    cbv
    by_cases hr : ro < z
    · rw [if_pos (hro.1 hr)] at hR2
      refine vcIf.yes (by rw [hA.lt]; exact decide_eq_true hr) ?_
      cbv
      exact hret _ (RetEv.ret eOk rfl ⟨10, af, false, by rw [hR2]; rfl, by rw [hR2]; exact ⟨h1, h2, h3, rfl, rfl, h6, h7, h8, h9, h10, h11⟩, rfl, rfl⟩)
    · rw [if_neg (fun c => hr (hro.2 c))] at hR2
      refine vcIf.no (by rw [hA.lt]; exact decide_eq_false hr) ?_
      cbv
      by_cases ha : af = 0
      · rw [if_pos ha] at hR2
        refine vcIf.yes (by rw [hA.eq, ha]; rfl) ?_
        cbv
        exact hret _ (RetEv.ret eOk rfl ⟨11, af, true, by rw [hR2]; rfl, by rw [hR2]; exact ⟨h1, h2, h3, rfl, rfl, h6, h7, h8, h9, h10, h11⟩, rfl, rfl⟩)
      · rw [if_neg ha] at hR2
        refine vcIf.no (by rw [hA.eq]; simpa using ha) ?_
        cbv
        by_cases ha2 : 0 < af
        · rw [if_pos ha2] at hR2
          have hsub : sub .i64 af 1 = af - 1 := by rw [hA.sub, IntWalk.i64_in _ (by omega)]
          refine vcIf.yes (by rw [hA.lt]; exact decide_eq_true ha2) ?_
          cbv
          exact hret _ (RetEv.ret eOk rfl ⟨0, sub .i64 af 1, false, by rw [hR2]; rfl, by rw [hR2, hsub]; exact ⟨h1, h2, h3, rfl, rfl, h6, h7, h8, h9, by simp only; omega, by simp only; omega⟩, rfl, rfl⟩)
        · rw [if_neg ha2] at hR2
          refine vcIf.no (by rw [hA.lt]; exact decide_eq_false ha2) ?_
          cbv
          exact hret _ (RetEv.ret eOk rfl ⟨0, af, false, by rw [hR2]; rfl, by rw [hR2]; exact ⟨h1, h2, h3, rfl, rfl, h6, h7, h8, h9, h10, h11⟩, rfl, rfl⟩)
theorem write_nil (z : Int) : FnL Try.prog 109 [.p .nilp, .p (.int .i64 z)] [] fun v own => v = .p (.int .i64 1) ∧ own = [] := by
  refine fn_of_vc eOk fOk fo109 Try.func109 rfl rfl rfl fun B hB => ?_
  intro add sub mul quo rem band bor bxor bclr shl shr ieq ilt ile seq slt beq bnot orb bcond iwrap iof ssz hA cat sq sl imin imax smin smax len slen u8 hL op hop call hcall code hcode ret hret
  cbv
  refine hcall _ _ _ _ _ (CallEv.same ready_nil rfl ?_)
  rintro _ _ ⟨rfl, rfl⟩
  cbv
  refine vcIf.yes (by rw [hA.not, hA.eq]; rfl) ?_
  cbv
  exact hret _ (RetEv.ret eOk rfl ⟨rfl, rfl⟩)

theorem tapeNew_spec (room : Int) (h1 : -9223372036854775808 ≤ room) (h2 : room ≤ 9223372036854775807) :
    FnL Try.prog 15 [.p (.int .i64 room)] [] fun v own => (room < 0 ∨ 1048576 < room) ∧ v = .p (.tup [.nilp, .int .i64 1]) ∧ own = [] ∨
      ¬ (room < 0 ∨ 1048576 < room) ∧ v = .tup [.own 0 0, .p (.int .i64 0)] ∧ own = [tpS 0 0 room (-1) false, tpA []] := by
  refine fn_of_vc eOk fOk fo15 Try.func15 rfl rfl rfl fun B hB => ?_
  intro add sub mul quo rem band bor bxor bclr shl shr ieq ilt ile seq slt beq bnot orb bcond iwrap iof ssz hA cat sq sl imin imax smin smax len slen u8 hL op hop call hcall code hcode ret hret
  cbv
  by_cases h0 : room < 0
  · refine vcIf.yes (by rw [hA.lt]; exact decide_eq_true h0) ?_
    cbv
    exact hret _ (RetEv.ret eOk rfl (.inl ⟨.inl h0, rfl, rfl⟩))
  refine vcIf.no (by rw [hA.lt]; exact decide_eq_false h0) ?_
  cbv
  by_cases h1 : 1048576 < room
  · refine vcIf.yes (by rw [hA.cond, hA.lt]; exact decide_eq_true h1) ?_
    cbv
    exact hret _ (RetEv.ret eOk rfl (.inl ⟨.inr h1, rfl, rfl⟩))
  refine vcIf.no (by rw [hA.cond, hA.lt]; exact decide_eq_false h1) ?_
  cbv
  exact hret _ (RetEv.convC (Conv.hollowC 0 0 5 1 (by decide) rfl rfl) (RetEv.ret eOk rfl (.inr ⟨by omega, rfl, rfl⟩)))
end Go.Proofs.Ytnigonhkfpnodaa
