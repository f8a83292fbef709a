/- Texts; the simplest facts of layer 3. Conditions: on sizes. -/
import Derived.Test.YtnigonhkfpnodaaLCode3
set_option maxRecDepth 100000
set_option maxHeartbeats 4000000
set_option linter.unusedSimpArgs false
set_option linter.unusedVariables false
namespace Go.Proofs.Ytnigonhkfpnodaa
open Go Go.Lx
open Go.Sx (vcIf)

def putTextR (l ts : List UInt8) (z : V) (own : List Res) : Prop :=
  if 65536 < ts.length then z = .p (.tup [.nils, .int .i64 6]) ∧ own = [] else z = .p (.tup [.sl (bP (l ++ enc ts.length ++ ts)), .int .i64 0]) ∧ own = [.dead]

/-- What text bytes begin with. -/
def decT (l : List UInt8) : List UInt8 × Nat × Nat :=
  match dec 0 0 l with
  | (n, u, e) => if e ≠ 0 then ([], 0, e) else if 65536 < n then ([], 0, 6) else if l.length - u < n then ([], 0, 3) else ((l.drop u).take n, u + n, 0)
def textR (r : List UInt8 × Nat × Nat) (z : V) (own : List Res) : Prop := ∃ (s : List UInt8) (u e : Nat), (s, u, e) = r ∧ z = .p (.tup [.str s, .int .i64 u, .int .i64 e]) ∧ own = []

theorem text_spec (l : List UInt8) (hl : l.length < 9223372036854775807) : FnL Try.prog 70 [.p (.sl (bP l))] [] (textR (decT l)) := by
  have hnum := num_spec l
  have hus := dec_used l 0 0
  have her := dec_err l 0 0
  have hlt := dec_lt l 0 0 (by omega) (by simp)
  obtain ⟨R, hR⟩ : ∃ R, R = decT l := ⟨_, rfl⟩
  have hR2 := hR
  unfold decT at hR2
  rw [← hR]
  obtain ⟨xs, hxs⟩ : ∃ xs, xs = bP l := ⟨_, rfl⟩
  have hxl : xs.length = l.length := by rw [hxs, bP_length]
  obtain ⟨n, hn⟩ : ∃ n, n = l.length := ⟨_, rfl⟩
  rw [← hxs] at hnum ⊢
  refine fn_of_vc eOk fOk fo70 Try.func70 rfl rfl rfl fun B hB => ?_
  intro add sub mul quo rem band bor bxor bclr shl shr ieq ilt ile seq slt beq bnot orb bcond iwrap iof ssz hA cat sq sl imin imax smin smax len slen u8 hL op hop call hcall code hcode ret hret
  have hlen : len xs = Int.ofNat n := by rw [hL.len, hxl, hn]; rfl
  cbv
  refine hcall _ _ _ _ _ (CallEv.same hnum rfl ?_)
  rintro _ _ ⟨x, u, e, hd, rfl, rfl⟩
  rw [← hd] at hus her hlt hR2
  simp only at hR2
  simp only at hus her hlt
  cbv
  by_cases he : e = 0
  · subst he
    have hus := hus rfl
    refine vcIf.no (by rw [hA.not, hA.eq]; rfl) ?_
    cbv
    by_cases hx : 65536 < x
    · refine vcIf.yes (by rw [hA.lt]; exact dlt hx) ?_
      cbv
      exact hret _ (RetEv.ret eOk rfl ⟨[], 0, 6, by rw [hR2]; simp [hx], rfl, rfl⟩)
    · refine vcIf.no (by rw [hA.lt]; exact dlt' hx) ?_
      have e1 : sub .i64 (len xs) (Int.ofNat u) = ((n - u : Nat) : Int) := by
        rw [hA.sub, hlen]; exact i64_nat (by simp only [Int.ofNat_eq_natCast]; omega) (by omega)
      cbv
      by_cases hs : n - u < x
      · refine vcIf.yes (by rw [hA.lt, e1]; exact dlt hs) ?_
        cbv
        exact hret _ (RetEv.ret eOk rfl ⟨[], 0, 3, by rw [hR2]; simp [hx, show l.length - u < x by omega], rfl, rfl⟩)
      · have e2 : add .i64 (Int.ofNat u) (Int.ofNat x) = ((u + x : Nat) : Int) := by
          rw [hA.add]; exact i64_nat (by simp) (by omega)
        refine vcIf.no (by rw [hA.lt, e1]; exact dlt' hs) ?_
        cbv
        refine ⟨u, u + x, n, rfl, e2, hxl.symm ▸ hn, by omega, by omega, by omega, fun y hy => ?_, ?_⟩
        · rw [hxs] at hy; exact (bP_wf l y hy).1
        intro zs hz
        cbv
        refine ⟨(l.drop u).take x, ?_, ?_⟩
        · show zs = _
          rw [hz, hxs, bP_drop, bP_take, show u + x - u = x by omega]
        obtain ⟨r, hr⟩ : ∃ r, r = (l.drop u).take x := ⟨_, rfl⟩
        rw [← hr]
        cbv
        refine hret _ (RetEv.ret eOk rfl ⟨r, u + x, 0, ?_, ?_, rfl⟩)
        · rw [hR2]; simp [hx, show ¬ l.length - u < x by omega, hr]
        · show V.p (.tup [.str r, .int .i64 (add .i64 (Int.ofNat u) (Int.ofNat x)), .int .i64 0]) = _
          rw [e2]; rfl
  · refine vcIf.yes (by rw [hA.not, hA.eq]; simp; omega) ?_
    cbv
    exact hret _ (RetEv.ret eOk rfl ⟨[], 0, e, by rw [hR2]; simp [he], rfl, rfl⟩)
end Go.Proofs.Ytnigonhkfpnodaa
