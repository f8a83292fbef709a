/- What package ballot's clone, Promise, Take and Best do. A condition: on sizes. -/
import Derived.Test.YtdbagbklhchbkaaBal1
set_option maxRecDepth 100000
set_option maxHeartbeats 4000000
set_option linter.unusedSimpArgs false
set_option linter.unusedVariables false
namespace Go.Proofs.Ytdbagbklhchbkaa
open Go Go.Sx

def intV (l : List Int) : List Value := l.map fun z => .int .i64 z
theorem intV_length (l : List Int) : (intV l).length = l.length := List.length_map _
theorem intV_flat (a : List Int) : (intV a).flatMap (fun y => y.cells.toList) = intV a := by
  induction a with
  | nil => rfl
  | cons x r ih => simp only [intV, List.map_cons, List.flatMap_cons] at ih ⊢; rw [ih]; rfl
theorem intV_size {a : List Int} : ∀ y ∈ intV a, y.cells.toList.length = 1 := by
  intro y hy; obtain ⟨b, _, rfl⟩ := List.mem_map.1 hy; rfl
theorem intV_one {a : List Int} : ∀ y ∈ intV a, ∀ u ∈ y.cells.toList, u.oneCell' = true := by
  intro y hy; obtain ⟨b, _, rfl⟩ := List.mem_map.1 hy
  intro u hu; simp [Value.cells] at hu; subst hu; rfl
abbrev Ns (H : Hp) (a : Option Addr) (n c : Nat) (l : List Int) : Prop := SlV H 1 a n c (intV l)

theorem sclone_spec {H : Hp} (hb : H.Bd) {a : Option Addr} {n c : Nat} {l : List Int} (S : Ns H a n c l) (hn : n * 8 ≤ 140737488355328) :
    FnV Try.prog 47 [.slice a n c] H fun v H' => ∃ a' c', v = .slice a' n c' ∧ Ns H' a' n c' l := by
  refine fn_of_vc eOk fOk Try.func47 rfl rfl rfl hb ?_
  intro add sub mul quo rem band bor bxor bclr shl shr ieq ilt ile seq slt beq bnot orb bcond iwrap iof ssz hA op hop code hcode ret hret
  cbv
  refine hop _ _ _ (PEv.bin rfl rfl rfl (run_nil_eql eOk rfl rfl a n c _ _) ?_).op
  cases a with
  | none =>
    obtain ⟨rfl, rfl⟩ := S.nil rfl
    have hl : l = [] := List.eq_nil_of_length_eq_zero (by have := S.len; rwa [intV_length] at this)
    subst hl
    cbv
    exact hret _ (RetEv.fn eOk rfl fun H' _ => ⟨none, 0, rfl, SlV.none⟩)
  | some ad =>
    cbv
    refine hop _ _ _ (EEv.litRow eOk rfl rfl rfl rfl rfl rfl (by decide) rfl rfl (by decide) rfl ?_).op
    intro a0 H1 hle1
    cbv
    refine hop _ _ _ (EEv.appendV eOk (j := 0) (ys := intV l) rfl rfl rfl rfl rfl rfl (by decide) rfl rfl rfl (S.mono hle1) intV_size intV_one ?_ ?_ ?_).op
    · unfold maxLen; simp; omega
    · simp; omega
    intro a' c' n' xs' H3 hle3 hn' hxs'
    have e1 : n' = n := by omega
    have e2 : xs' = intV l := by rw [hxs', intV_flat]; rfl
    subst e1
    cbv
    refine hret _ (RetEv.conv (Conv.freeze _ _ 0 (ys := intV l) (by rw [intV_flat, ← e2]; rfl) intV_size (by decide) (fun _ c => c)) ?_)
    rintro own' H5 ⟨rfl, hl5, a5, c5, h5, S5, h6, h7, h8⟩
    cases h5
    exact RetEv.fn eOk rfl fun H' hl' => ⟨_, _, rfl, SlV.mono ⟨S5, h6, h7, h8⟩ hl'⟩

abbrev vow (p q r s g e t : Int) (a : Option Addr) (n c : Nat) : Value := .agg #[.int .i64 p, .int .i64 q, .int .i64 r, .int .i64 s, .int .i64 g, .int .i64 e, .int .i64 t, .slice a n c]

theorem vclone_spec {H : Hp} (hb : H.Bd) {a : Option Addr} {n c : Nat} {l : List Int} (S : Ns H a n c l) (hn : n * 8 ≤ 140737488355328) (p q r s g e t : Int) :
    FnV Try.prog 40 [vow p q r s g e t a n c] H fun v H' => ∃ a' c', v = vow p q r s g e t a' n c' ∧ Ns H' a' n c' l := by
  refine fn_of_vc eOk fOk Try.func40 rfl rfl rfl hb ?_
  intro add sub mul quo rem band bor bxor bclr shl shr ieq ilt ile seq slt beq bnot orb bcond iwrap iof ssz hA op hop code hcode ret hret
  cbv
  refine hop _ _ _ (EEv.callF fo47 rfl rfl (fun H1 hl1 hb1 => sclone_spec hb1 (S.mono hl1) hn) ?_).op
  rintro v H2 hl2 hb2 ⟨a2, c2, rfl, S2⟩
  cbv
  exact hret _ (RetEv.fn eOk rfl fun H' hl' => ⟨_, _, rfl, S2.mono hl'⟩)
end Go.Proofs.Ytdbagbklhchbkaa
