/- A Past: what it is; which versions are known; how many layers are not above a version. Conditions: on sizes. -/
import Derived.Test.YtdeolllpbflemaaLPr3
import Derived.Test.YtdeolllpbflemaaLBk1
import Derived.Test.YtdeolllpbflemaaLY9
set_option maxRecDepth 100000
set_option maxHeartbeats 16000000
set_option linter.unusedSimpArgs false
set_option linter.unusedVariables false
namespace Go.Proofs.Ytdeolllpbflemaa
open Go Go.Lx
open Go.Sx (vcIf)

structure Lay where
  ver : Int
  ch : List Chg
def Lay.v (l : Lay) : PV := .agg [.int .i64 l.ver, .sl (cP l.ch)]
def layP (l : List Lay) : List PV := l.map Lay.v
theorem layP_length (l : List Lay) : (layP l).length = l.length := List.length_map _
theorem layP_get {l : List Lay} {i : Nat} {b : Lay} (h : l[i]? = some b) : (layP l)[i]? = some (.agg [.int .i64 b.ver, .sl (cP b.ch)]) := by unfold layP; rw [List.getElem?_map, h]; rfl
theorem Lay.wf (l : Lay) : l.v.wf 2 := ⟨rfl, fun u hu => by
  simp only [Lay.v, PV.cells, List.mem_cons, List.not_mem_nil, or_false] at hu
  rcases hu with rfl | rfl <;> rfl⟩
theorem layP_wf (ls : List Lay) : Wf 2 (layP ls) := fun x hx => by
  obtain ⟨p, _, rfl⟩ := List.mem_map.1 hx; exact p.wf
theorem layP_append (a b : List Lay) : layP (a ++ b) = layP a ++ layP b := List.map_append
theorem layP_take (a : List Lay) (n : Nat) : layP (a.take n) = (layP a).take n := List.map_take
theorem layP_drop (a : List Lay) (n : Nat) : layP (a.drop n) = (layP a).drop n := List.map_drop
theorem layP_shape {ls : List Lay} {zs : List PV} (h : zs = layP ls) (i : Nat) (z : PV) (hz : zs[i]? = some z) : z.isAgg = true ∧ z.cells.length = 2 := by
  rw [h] at hz; unfold layP at hz; rw [List.getElem?_map] at hz
  cases hl : ls[i]? with
  | none => rw [hl] at hz; cases hz
  | some l => rw [hl] at hz; cases hz; exact ⟨rfl, rfl⟩

/-- How many layers are not above a version. -/
def upto : List Lay → Int → Nat
  | [], _ => 0
  | l :: r, v => if v < l.ver then 0 else upto r v + 1
theorem upto_le (v : Int) : ∀ ls, upto ls v ≤ ls.length
  | [] => Nat.le_refl _
  | l :: r => by
    unfold upto; split
    · omega
    · have := upto_le v r; simp only [List.length_cons]; omega
theorem upto_below (v : Int) : ∀ (ls : List Lay) (i : Nat) (l : Lay), i < upto ls v → ls[i]? = some l → l.ver ≤ v
  | a :: r, i, l, h, hl => by
    unfold upto at h; split at h
    · omega
    · cases i with
      | zero => simp at hl; subst hl; omega
      | succ i => exact upto_below v r i l (by omega) (by simpa using hl)
theorem upto_at (v : Int) : ∀ (ls : List Lay) (l : Lay), ls[upto ls v]? = some l → v < l.ver
  | a :: r, l, hl => by
    unfold upto at hl; split at hl
    · simp at hl; subst hl; assumption
    · exact upto_at v r l (by simpa using hl)
theorem upto_eq (v : Int) {ls : List Lay} {k : Nat} (hk : k ≤ ls.length) (h1 : ∀ (i : Nat) (l : Lay), i < k → ls[i]? = some l → l.ver ≤ v) (h2 : ∀ l, ls[k]? = some l → v < l.ver) : upto ls v = k := by
  rcases Nat.lt_trichotomy (upto ls v) k with h | h | h
  · obtain ⟨l, hl⟩ := get_of_lt (show upto ls v < ls.length by omega)
    have := upto_at v ls l hl
    have := h1 _ l h hl
    omega
  · exact h
  · obtain ⟨l, hl⟩ := get_of_lt (show k < ls.length by have := upto_le v ls; omega)
    have := upto_below v ls k l h hl
    have := h2 l hl
    omega

structure Ps where
  at' : Int
  pairs : List Pr
  ls : List Lay
  first : Int
  last : Int
/-- A Past, shown as settled. -/
abbrev psI (a f l : Int) (zs ys : List PV) : V := .imm 5 (.agg [.int .i64 a, .sl zs, .sl ys, .int .i64 f, .int .i64 l]) 0
/-- A Past of the call's own: its struct and the row of its layers. -/
abbrev psS (a f l : Int) (zs : List PV) (n : Nat) : Res := .st 64 [.p (.int .i64 a), .p (.sl zs), .vw 1 2 0 n none, .p (.int .i64 f), .p (.int .i64 l)]
abbrev psA (xs : List PV) : Res := .arr 69 2 xs
def knw (f l v : Int) : Nat := if v < f then 7 else if l < v then 8 else 0

theorem known_spec (a f l v : Int) (zs ys : List PV) : FnL Try.prog 32 [psI a f l zs ys, .p (.int .i64 v)] [] fun r own => ∃ e : Nat, e = knw f l v ∧ r = .p (.int .i64 (Int.ofNat e)) ∧ own = [] := by
  obtain ⟨R, hR⟩ : ∃ R, R = knw f l v := ⟨_, rfl⟩
  rw [← hR]
  unfold knw at hR
  refine fn_of_vc eOk fOk fo32 Try.func32 rfl rfl rfl fun B hB => ?_
  intro add sub mul quo rem band bor bxor bclr shl shr ieq ilt ile seq slt beq bnot orb bcond iwrap iof ssz hA cat sq sl imin imax smin smax len slen u8 hL op hop call hcall code hcode ret hret
  cbv
  by_cases h1 : v < f
  · rw [if_pos h1] at hR
    refine vcIf.yes (by first | (simp [hA.not, hA.eq, hA.lt, hA.le, hA.cond, hA.beq, hA.orb, hL.len, hL.slen, hL.sq, h1]; done) | (simp only [h1]; simp [hA.not, hA.eq, hA.lt, hA.le, hA.cond, hA.beq, hA.orb, hL.len, hL.slen, hL.sq, h1]; done) | (simp [hA.not, hA.eq, hA.lt, hA.le, hA.cond, hA.beq, hA.orb, hL.len, hL.slen, hL.sq, h1]; omega) | (simp only [h1]; simp [hA.not, hA.eq, hA.lt, hA.le, hA.cond, hA.beq, hA.orb, hL.len, hL.slen, hL.sq, h1]; omega)) ?_
    cbv
    exact hret _ (RetEv.ret eOk rfl ⟨_, rfl, by rw [hR]; rfl, rfl⟩)
  · rw [if_neg h1] at hR
    refine vcIf.no (by first | (simp [hA.not, hA.eq, hA.lt, hA.le, hA.cond, hA.beq, hA.orb, hL.len, hL.slen, hL.sq, h1]; done) | (simp only [h1]; simp [hA.not, hA.eq, hA.lt, hA.le, hA.cond, hA.beq, hA.orb, hL.len, hL.slen, hL.sq, h1]; done) | (simp [hA.not, hA.eq, hA.lt, hA.le, hA.cond, hA.beq, hA.orb, hL.len, hL.slen, hL.sq, h1]; omega) | (simp only [h1]; simp [hA.not, hA.eq, hA.lt, hA.le, hA.cond, hA.beq, hA.orb, hL.len, hL.slen, hL.sq, h1]; omega)) ?_
    cbv
    by_cases h2 : l < v
    · rw [if_pos h2] at hR
      refine vcIf.yes (by first | (simp [hA.not, hA.eq, hA.lt, hA.le, hA.cond, hA.beq, hA.orb, hL.len, hL.slen, hL.sq, h2]; done) | (simp only [h2]; simp [hA.not, hA.eq, hA.lt, hA.le, hA.cond, hA.beq, hA.orb, hL.len, hL.slen, hL.sq, h2]; done) | (simp [hA.not, hA.eq, hA.lt, hA.le, hA.cond, hA.beq, hA.orb, hL.len, hL.slen, hL.sq, h2]; omega) | (simp only [h2]; simp [hA.not, hA.eq, hA.lt, hA.le, hA.cond, hA.beq, hA.orb, hL.len, hL.slen, hL.sq, h2]; omega)) ?_
      cbv
      exact hret _ (RetEv.ret eOk rfl ⟨_, rfl, by rw [hR]; rfl, rfl⟩)
    · rw [if_neg h2] at hR
      refine vcIf.no (by first | (simp [hA.not, hA.eq, hA.lt, hA.le, hA.cond, hA.beq, hA.orb, hL.len, hL.slen, hL.sq, h2]; done) | (simp only [h2]; simp [hA.not, hA.eq, hA.lt, hA.le, hA.cond, hA.beq, hA.orb, hL.len, hL.slen, hL.sq, h2]; done) | (simp [hA.not, hA.eq, hA.lt, hA.le, hA.cond, hA.beq, hA.orb, hL.len, hL.slen, hL.sq, h2]; omega) | (simp only [h2]; simp [hA.not, hA.eq, hA.lt, hA.le, hA.cond, hA.beq, hA.orb, hL.len, hL.slen, hL.sq, h2]; omega)) ?_
      cbv
      exact hret _ (RetEv.ret eOk rfl ⟨_, rfl, by rw [hR]; rfl, rfl⟩)
theorem known_nil (v : Int) : FnL Try.prog 32 [.p .nilp, .p (.int .i64 v)] [] fun r own => r = .p (.int .i64 1) ∧ own = [] := by
  refine fn_of_vc eOk fOk fo32 Try.func32 rfl rfl rfl fun B hB => ?_
  intro add sub mul quo rem band bor bxor bclr shl shr ieq ilt ile seq slt beq bnot orb bcond iwrap iof ssz hA cat sq sl imin imax smin smax len slen u8 hL op hop call hcall code hcode ret hret
  cbv
  exact hret _ (RetEv.ret eOk rfl ⟨rfl, rfl⟩)
theorem upto1_spec (v w : Int) (c : List PV) : FnL Try.prog 54 [.p (.agg [.int .i64 v, .sl c]), .imm 1 (.int .i64 w) 0] [] fun r own => ∃ b, b = decide (w < v) ∧ r = .p (.bool b) ∧ own = [] := by
  refine FnL.flat (R := fun r own => ∃ b, b = decide (w < v) ∧ r = .p (.bool b)) ?_ (by rintro _ _ ⟨b, h, rfl⟩; exact ⟨_, _, rfl, .refl _, b, h, rfl, rfl⟩)
  refine fn_of_vc eOk fOk fo54 Try.func54 rfl rfl rfl fun B hB => ?_
  intro add sub mul quo rem band bor bxor bclr shl shr ieq ilt ile seq slt beq bnot orb bcond iwrap iof ssz hA cat sq sl imin imax smin smax len slen u8 hL op hop call hcall code hcode ret hret
  cbv

  exact hret _ (RetEv.ret eOk rfl ⟨_, hA.lt w v, rfl⟩)
def kept (c : Chg) : Nat := if c.kind = 1 then 1 else 0
theorem kept_spec (k : Int) (ky vl : List UInt8) : FnL Try.prog 42 [.p (.agg [.int .i64 k, .str ky, .str vl])] [] fun r own => ∃ e : Nat, e = (if k = 1 then 1 else 0) ∧ r = .p (.int .i64 (Int.ofNat e)) ∧ own = [] := by
  obtain ⟨R, hR⟩ : ∃ R, R = (if k = 1 then 1 else 0) := ⟨_, rfl⟩
  rw [← hR]
  refine FnL.flat (R := fun r own => ∃ e : Nat, e = R ∧ r = .p (.int .i64 (Int.ofNat e))) ?_ (by rintro _ _ ⟨b, h, rfl⟩; exact ⟨_, _, rfl, .refl _, b, h, rfl, rfl⟩)
  refine fn_of_vc eOk fOk fo42 Try.func42 rfl rfl rfl fun B hB => ?_
  intro add sub mul quo rem band bor bxor bclr shl shr ieq ilt ile seq slt beq bnot orb bcond iwrap iof ssz hA cat sq sl imin imax smin smax len slen u8 hL op hop call hcall code hcode ret hret
  cbv
  by_cases h1 : k = 1
  · rw [if_pos h1] at hR
    refine vcIf.yes (by first | (simp [hA.not, hA.eq, hA.lt, hA.le, hA.cond, hA.beq, hA.orb, hL.len, hL.slen, hL.sq, h1]; done) | (simp only [h1]; simp [hA.not, hA.eq, hA.lt, hA.le, hA.cond, hA.beq, hA.orb, hL.len, hL.slen, hL.sq, h1]; done) | (simp [hA.not, hA.eq, hA.lt, hA.le, hA.cond, hA.beq, hA.orb, hL.len, hL.slen, hL.sq, h1]; omega) | (simp only [h1]; simp [hA.not, hA.eq, hA.lt, hA.le, hA.cond, hA.beq, hA.orb, hL.len, hL.slen, hL.sq, h1]; omega)) ?_
    cbv
    exact hret _ (RetEv.ret eOk rfl ⟨_, rfl, by rw [hR]; rfl⟩)
  · rw [if_neg h1] at hR
    refine vcIf.no (by first | (simp [hA.not, hA.eq, hA.lt, hA.le, hA.cond, hA.beq, hA.orb, hL.len, hL.slen, hL.sq, h1]; done) | (simp only [h1]; simp [hA.not, hA.eq, hA.lt, hA.le, hA.cond, hA.beq, hA.orb, hL.len, hL.slen, hL.sq, h1]; done) | (simp [hA.not, hA.eq, hA.lt, hA.le, hA.cond, hA.beq, hA.orb, hL.len, hL.slen, hL.sq, h1]; omega) | (simp only [h1]; simp [hA.not, hA.eq, hA.lt, hA.le, hA.cond, hA.beq, hA.orb, hL.len, hL.slen, hL.sq, h1]; omega)) ?_
    cbv
    exact hret _ (RetEv.ret eOk rfl ⟨_, rfl, by rw [hR]; rfl⟩)
theorem pastNew_spec : FnL Try.prog 10 [] [] fun r own => r = .own 0 0 ∧ own = [psS 0 0 0 [] 0, psA []] := by
  refine fn_of_vc eOk fOk fo10 Try.func10 rfl rfl rfl fun B hB => ?_
  intro add sub mul quo rem band bor bxor bclr shl shr ieq ilt ile seq slt beq bnot orb bcond iwrap iof ssz hA cat sq sl imin imax smin smax len slen u8 hL op hop call hcall code hcode ret hret
  cbv
  exact hret _ (RetEv.convW ((Conv.hollowC 0 2 69 2 (by decide) rfl rfl).weak.trans (ConvW.cell 0 1 (.p (.sl [])) rfl rfl (.p .nils))) (RetEv.ret eOk rfl ⟨rfl, rfl⟩))
end Go.Proofs.Ytdeolllpbflemaa
