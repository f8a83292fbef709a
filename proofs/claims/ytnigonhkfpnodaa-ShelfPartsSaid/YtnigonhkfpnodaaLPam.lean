/- LPa1, LPi4, LPi3, LPd3, LPa2 together. Conditions: on sizes. -/
import Derived.Test.YtnigonhkfpnodaaLPrm
import Derived.Test.YtnigonhkfpnodaaLBk1
import Derived.Test.YtnigonhkfpnodaaLY9
set_option maxRecDepth 100000
set_option maxHeartbeats 16000000
set_option linter.unusedSimpArgs false
set_option linter.unusedVariables false
section
namespace Go.Proofs.Ytnigonhkfpnodaa
open Go Go.Lx
open Go.Sx (vcIf)

structure Lay where
  ver : Int
  ch : List Chg
def Lay.v (l : Lay) : PV := .agg [.int .i64 l.ver, .sl (cP l.ch)]
def layP (l : List Lay) : List PV := l.map Lay.v
theorem layP_length (l : List Lay) : (layP l).length = l.length := List.length_map _
theorem layP_get {l : List Lay} {i : Nat} {b : Lay} (h : l[i]? = some b) : (layP l)[i]? = some (.agg [.int .i64 b.ver, .sl (cP b.ch)]) := by unfold layP; rw [List.getElem?_map, h]; rfl
theorem Lay.wf (l : Lay) : l.v.wf 2 := ⟨rfl, fun u hu => by
  simp only [Lay.v, PV.cells, List.mem_cons, List.not_mem_nil, or_false] at hu
  rcases hu with rfl | rfl <;> rfl⟩
theorem layP_wf (ls : List Lay) : Wf 2 (layP ls) := fun x hx => by
  obtain ⟨p, _, rfl⟩ := List.mem_map.1 hx; exact p.wf
theorem layP_append (a b : List Lay) : layP (a ++ b) = layP a ++ layP b := List.map_append
theorem layP_take (a : List Lay) (n : Nat) : layP (a.take n) = (layP a).take n := List.map_take
theorem layP_drop (a : List Lay) (n : Nat) : layP (a.drop n) = (layP a).drop n := List.map_drop
theorem layP_shape {ls : List Lay} {zs : List PV} (h : zs = layP ls) (i : Nat) (z : PV) (hz : zs[i]? = some z) : z.isAgg = true ∧ z.cells.length = 2 := by
  rw [h] at hz; unfold layP at hz; rw [List.getElem?_map] at hz
  cases hl : ls[i]? with
  | none => rw [hl] at hz; cases hz
  | some l => rw [hl] at hz; cases hz; exact ⟨rfl, rfl⟩

/-- How many layers are not above a version. -/
def upto : List Lay → Int → Nat
  | [], _ => 0
  | l :: r, v => if v < l.ver then 0 else upto r v + 1
theorem upto_le (v : Int) : ∀ ls, upto ls v ≤ ls.length
  | [] => Nat.le_refl _
  | l :: r => by
    unfold upto; split
    · omega
    · have := upto_le v r; simp only [List.length_cons]; omega
theorem upto_below (v : Int) : ∀ (ls : List Lay) (i : Nat) (l : Lay), i < upto ls v → ls[i]? = some l → l.ver ≤ v
  | a :: r, i, l, h, hl => by
    unfold upto at h; split at h
    · omega
    · cases i with
      | zero => simp at hl; subst hl; omega
      | succ i => exact upto_below v r i l (by omega) (by simpa using hl)
theorem upto_at (v : Int) : ∀ (ls : List Lay) (l : Lay), ls[upto ls v]? = some l → v < l.ver
  | a :: r, l, hl => by
    unfold upto at hl; split at hl
    · simp at hl; subst hl; assumption
    · exact upto_at v r l (by simpa using hl)
theorem upto_eq (v : Int) {ls : List Lay} {k : Nat} (hk : k ≤ ls.length) (h1 : ∀ (i : Nat) (l : Lay), i < k → ls[i]? = some l → l.ver ≤ v) (h2 : ∀ l, ls[k]? = some l → v < l.ver) : upto ls v = k := by
  rcases Nat.lt_trichotomy (upto ls v) k with h | h | h
  · obtain ⟨l, hl⟩ := get_of_lt (show upto ls v < ls.length by omega)
    have := upto_at v ls l hl
    have := h1 _ l h hl
    omega
  · exact h
  · obtain ⟨l, hl⟩ := get_of_lt (show k < ls.length by have := upto_le v ls; omega)
    have := upto_below v ls k l h hl
    have := h2 l hl
    omega

structure Ps where
  at' : Int
  pairs : List Pr
  ls : List Lay
  first : Int
  last : Int
/-- A Past, shown as settled. -/
abbrev psI (a f l : Int) (zs ys : List PV) : V := .imm 5 (.agg [.int .i64 a, .sl zs, .sl ys, .int .i64 f, .int .i64 l]) 0
/-- A Past of the call's own: its struct and the row of its layers. -/
abbrev psS (a f l : Int) (zs : List PV) (n : Nat) : Res := .st 146 [.p (.int .i64 a), .p (.sl zs), .vw 1 2 0 n none, .p (.int .i64 f), .p (.int .i64 l)]
abbrev psA (xs : List PV) : Res := .arr 155 2 xs
def knw (f l v : Int) : Nat := if v < f then 7 else if l < v then 8 else 0

theorem known_spec (a f l v : Int) (zs ys : List PV) : FnL Try.prog 89 [psI a f l zs ys, .p (.int .i64 v)] [] fun r own => ∃ e : Nat, e = knw f l v ∧ r = .p (.int .i64 (Int.ofNat e)) ∧ own = [] := by
  obtain ⟨R, hR⟩ : ∃ R, R = knw f l v := ⟨_, rfl⟩
  rw [← hR]
  unfold knw at hR
  refine fn_of_vc eOk fOk fo89 Try.func89 rfl rfl rfl fun B hB => ?_
  intro add sub mul quo rem band bor bxor bclr shl shr ieq ilt ile seq slt beq bnot orb bcond iwrap iof ssz hA cat sq sl imin imax smin smax len slen u8 hL op hop call hcall code hcode ret hret
  cbv
  by_cases h1 : v < f
  · rw [if_pos h1] at hR
    refine vcIf.yes (by first | (simp [hA.not, hA.eq, hA.lt, hA.le, hA.cond, hA.beq, hA.orb, hL.len, hL.slen, hL.sq, h1]; done) | (simp only [h1]; simp [hA.not, hA.eq, hA.lt, hA.le, hA.cond, hA.beq, hA.orb, hL.len, hL.slen, hL.sq, h1]; done) | (simp [hA.not, hA.eq, hA.lt, hA.le, hA.cond, hA.beq, hA.orb, hL.len, hL.slen, hL.sq, h1]; omega) | (simp only [h1]; simp [hA.not, hA.eq, hA.lt, hA.le, hA.cond, hA.beq, hA.orb, hL.len, hL.slen, hL.sq, h1]; omega)) ?_
    cbv
    exact hret _ (RetEv.ret eOk rfl ⟨_, rfl, by rw [hR]; rfl, rfl⟩)
  · rw [if_neg h1] at hR
    refine vcIf.no (by first | (simp [hA.not, hA.eq, hA.lt, hA.le, hA.cond, hA.beq, hA.orb, hL.len, hL.slen, hL.sq, h1]; done) | (simp only [h1]; simp [hA.not, hA.eq, hA.lt, hA.le, hA.cond, hA.beq, hA.orb, hL.len, hL.slen, hL.sq, h1]; done) | (simp [hA.not, hA.eq, hA.lt, hA.le, hA.cond, hA.beq, hA.orb, hL.len, hL.slen, hL.sq, h1]; omega) | (simp only [h1]; simp [hA.not, hA.eq, hA.lt, hA.le, hA.cond, hA.beq, hA.orb, hL.len, hL.slen, hL.sq, h1]; omega)) ?_
    cbv
    by_cases h2 : l < v
    · rw [if_pos h2] at hR
      refine vcIf.yes (by first | (simp [hA.not, hA.eq, hA.lt, hA.le, hA.cond, hA.beq, hA.orb, hL.len, hL.slen, hL.sq, h2]; done) | (simp only [h2]; simp [hA.not, hA.eq, hA.lt, hA.le, hA.cond, hA.beq, hA.orb, hL.len, hL.slen, hL.sq, h2]; done) | (simp [hA.not, hA.eq, hA.lt, hA.le, hA.cond, hA.beq, hA.orb, hL.len, hL.slen, hL.sq, h2]; omega) | (simp only [h2]; simp [hA.not, hA.eq, hA.lt, hA.le, hA.cond, hA.beq, hA.orb, hL.len, hL.slen, hL.sq, h2]; omega)) ?_
      cbv
      exact hret _ (RetEv.ret eOk rfl ⟨_, rfl, by rw [hR]; rfl, rfl⟩)
    · rw [if_neg h2] at hR
      refine vcIf.no (by first | (simp [hA.not, hA.eq, hA.lt, hA.le, hA.cond, hA.beq, hA.orb, hL.len, hL.slen, hL.sq, h2]; done) | (simp only [h2]; simp [hA.not, hA.eq, hA.lt, hA.le, hA.cond, hA.beq, hA.orb, hL.len, hL.slen, hL.sq, h2]; done) | (simp [hA.not, hA.eq, hA.lt, hA.le, hA.cond, hA.beq, hA.orb, hL.len, hL.slen, hL.sq, h2]; omega) | (simp only [h2]; simp [hA.not, hA.eq, hA.lt, hA.le, hA.cond, hA.beq, hA.orb, hL.len, hL.slen, hL.sq, h2]; omega)) ?_
      cbv
      exact hret _ (RetEv.ret eOk rfl ⟨_, rfl, by rw [hR]; rfl, rfl⟩)
theorem known_nil (v : Int) : FnL Try.prog 89 [.p .nilp, .p (.int .i64 v)] [] fun r own => r = .p (.int .i64 1) ∧ own = [] := by
  refine fn_of_vc eOk fOk fo89 Try.func89 rfl rfl rfl fun B hB => ?_
  intro add sub mul quo rem band bor bxor bclr shl shr ieq ilt ile seq slt beq bnot orb bcond iwrap iof ssz hA cat sq sl imin imax smin smax len slen u8 hL op hop call hcall code hcode ret hret
  cbv
  exact hret _ (RetEv.ret eOk rfl ⟨rfl, rfl⟩)
theorem upto1_spec (v w : Int) (c : List PV) : FnL Try.prog 119 [.p (.agg [.int .i64 v, .sl c]), .imm 1 (.int .i64 w) 0] [] fun r own => ∃ b, b = decide (w < v) ∧ r = .p (.bool b) ∧ own = [] := by
  refine FnL.flat (R := fun r own => ∃ b, b = decide (w < v) ∧ r = .p (.bool b)) ?_ (by rintro _ _ ⟨b, h, rfl⟩; exact ⟨_, _, rfl, .refl _, b, h, rfl, rfl⟩)
  refine fn_of_vc eOk fOk fo119 Try.func119 rfl rfl rfl fun B hB => ?_
  intro add sub mul quo rem band bor bxor bclr shl shr ieq ilt ile seq slt beq bnot orb bcond iwrap iof ssz hA cat sq sl imin imax smin smax len slen u8 hL op hop call hcall code hcode ret hret
  cbv

  exact hret _ (RetEv.ret eOk rfl ⟨_, hA.lt w v, rfl⟩)
def kept (c : Chg) : Nat := if c.kind = 1 then 1 else 0
theorem kept_spec (k : Int) (ky vl : List UInt8) : FnL Try.prog 97 [.p (.agg [.int .i64 k, .str ky, .str vl])] [] fun r own => ∃ e : Nat, e = (if k = 1 then 1 else 0) ∧ r = .p (.int .i64 (Int.ofNat e)) ∧ own = [] := by
  obtain ⟨R, hR⟩ : ∃ R, R = (if k = 1 then 1 else 0) := ⟨_, rfl⟩
  rw [← hR]
  refine FnL.flat (R := fun r own => ∃ e : Nat, e = R ∧ r = .p (.int .i64 (Int.ofNat e))) ?_ (by rintro _ _ ⟨b, h, rfl⟩; exact ⟨_, _, rfl, .refl _, b, h, rfl, rfl⟩)
  refine fn_of_vc eOk fOk fo97 Try.func97 rfl rfl rfl fun B hB => ?_
  intro add sub mul quo rem band bor bxor bclr shl shr ieq ilt ile seq slt beq bnot orb bcond iwrap iof ssz hA cat sq sl imin imax smin smax len slen u8 hL op hop call hcall code hcode ret hret
  cbv
  by_cases h1 : k = 1
  · rw [if_pos h1] at hR
    refine vcIf.yes (by first | (simp [hA.not, hA.eq, hA.lt, hA.le, hA.cond, hA.beq, hA.orb, hL.len, hL.slen, hL.sq, h1]; done) | (simp only [h1]; simp [hA.not, hA.eq, hA.lt, hA.le, hA.cond, hA.beq, hA.orb, hL.len, hL.slen, hL.sq, h1]; done) | (simp [hA.not, hA.eq, hA.lt, hA.le, hA.cond, hA.beq, hA.orb, hL.len, hL.slen, hL.sq, h1]; omega) | (simp only [h1]; simp [hA.not, hA.eq, hA.lt, hA.le, hA.cond, hA.beq, hA.orb, hL.len, hL.slen, hL.sq, h1]; omega)) ?_
    cbv
    exact hret _ (RetEv.ret eOk rfl ⟨_, rfl, by rw [hR]; rfl⟩)
  · rw [if_neg h1] at hR
    refine vcIf.no (by first | (simp [hA.not, hA.eq, hA.lt, hA.le, hA.cond, hA.beq, hA.orb, hL.len, hL.slen, hL.sq, h1]; done) | (simp only [h1]; simp [hA.not, hA.eq, hA.lt, hA.le, hA.cond, hA.beq, hA.orb, hL.len, hL.slen, hL.sq, h1]; done) | (simp [hA.not, hA.eq, hA.lt, hA.le, hA.cond, hA.beq, hA.orb, hL.len, hL.slen, hL.sq, h1]; omega) | (simp only [h1]; simp [hA.not, hA.eq, hA.lt, hA.le, hA.cond, hA.beq, hA.orb, hL.len, hL.slen, hL.sq, h1]; omega)) ?_
    cbv
    exact hret _ (RetEv.ret eOk rfl ⟨_, rfl, by rw [hR]; rfl⟩)
theorem pastNew_spec : FnL Try.prog 46 [] [] fun r own => r = .own 0 0 ∧ own = [psS 0 0 0 [] 0, psA []] := by
  refine fn_of_vc eOk fOk fo46 Try.func46 rfl rfl rfl fun B hB => ?_
  intro add sub mul quo rem band bor bxor bclr shl shr ieq ilt ile seq slt beq bnot orb bcond iwrap iof ssz hA cat sq sl imin imax smin smax len slen u8 hL op hop call hcall code hcode ret hret
  cbv
  exact hret _ (RetEv.convW ((Conv.hollowC 0 2 155 2 (by decide) rfl rfl).weak.trans (ConvW.cell 0 1 (.p (.sl [])) rfl rfl (.p .nils))) (RetEv.ret eOk rfl ⟨rfl, rfl⟩))
end Go.Proofs.Ytnigonhkfpnodaa
end
section
namespace Go.Proofs.Ytnigonhkfpnodaa
open Go Go.Lx
open Go.Sx (vcIf)

theorem layIdx (zs : List PV) (N : Nat) (hN : zs.length = N) (hl : N < 9223372036854775807) (hz : ∀ (i : Nat) (z : PV), zs[i]? = some z → z.isAgg = true ∧ z.cells.length = 2) (f : FuncId) (b0 : PV) (p : Nat → Bool)
    (hf : ∀ (i : Nat) (z : PV), zs[i]? = some z → FnL Try.prog f [.p z, .imm 1 b0 0] [] fun v own => ∃ b, b = p i ∧ v = .p (.bool b) ∧ own = []) :
    FnL Try.prog 118 [.p (.sl zs), .fn f [.imm 1 b0 0]] [] fun v own => ∃ k : Int, ((k = -1 ∧ ∀ j, j < N → p j = false) ∨ ∃ i : Nat, i < N ∧ k = Int.ofNat i ∧ p i = true ∧ ∀ j, j < i → p j = false) ∧ v = .p (.int .i64 k) ∧ own = [] := by
  refine fn_of_vc eOk fOk fo118 Try.func118 rfl rfl rfl fun B hB => ?_
  intro add sub mul quo rem band bor bxor bclr shl shr ieq ilt ile seq slt beq bnot orb bcond iwrap iof ssz hA cat sq sl imin imax smin smax len slen u8 hL op hop call hcall code hcode ret hret
  have hlen : len zs = Int.ofNat N := by rw [hL.len, hN]; rfl
  cbv
  rw [hlen]
  refine hcode _ _ _ (CodeEv.loop eOk fOk (ι := Nat) (fun s => [(0, .p (.sl zs)), (1, .fn f [.imm 1 b0 0]), (7, .p (.int .i64 (Int.ofNat N))), (8, .p (.int .i64 (Int.ofNat s)))])
    (fun s => []) (fun s => s ≤ N ∧ ∀ j, j < s → p j = false) (fun s => N - s) 0 ?_ ?_)
  · exact ⟨⟨rfl, rfl, rfl, rfl, trivial⟩, rfl, Nat.zero_le _, fun j h => absurd h (Nat.not_lt_zero j)⟩
  rintro i ⟨h1, h2⟩ rd hrd
  intro add1 sub1 mul1 quo1 rem1 band1 bor1 bxor1 bclr1 shl1 shr1 ieq1 ilt1 ile1 seq1 slt1 beq1 bnot1 orb1 bcond1 iwrap1 iof1 ssz1 hA1 cat1 sq1 sl1 imin1 imax1 smin1 smax1 len1 slen1 u81 hL1 op1 hop1 call1 hcall1 code1 hcode1
  have hadd1 : i < N → add1 .i64 (Int.ofNat i) 1 = Int.ofNat (i + 1) := fun _ => by rw [hA1.add, IntWalk.i64_in _ (by simp only [Int.ofNat_eq_natCast]; omega)]; rfl
  cbv
  by_cases hi : i < N
  · obtain ⟨z, hzz⟩ := get_of_lt (show i < zs.length by omega)
    refine vcIf.yes (by first | (simp [hA1.not, hA1.eq, hA1.lt, hA1.le, hA1.cond, hA1.beq, hA1.orb, hL1.len, hL1.slen, hL1.sq, hi]; done) | (simp only [hi]; simp [hA1.not, hA1.eq, hA1.lt, hA1.le, hA1.cond, hA1.beq, hA1.orb, hL1.len, hL1.slen, hL1.sq, hi]; done) | (simp [hA1.not, hA1.eq, hA1.lt, hA1.le, hA1.cond, hA1.beq, hA1.orb, hL1.len, hL1.slen, hL1.sq, hi]; omega) | (simp only [hi]; simp [hA1.not, hA1.eq, hA1.lt, hA1.le, hA1.cond, hA1.beq, hA1.orb, hL1.len, hL1.slen, hL1.sq, hi]; omega)) ?_
    cbv
    refine ⟨i, _, rfl, hzz, (hz i z hzz).2, ?_⟩
    cbv
    have hz1 := (hz i z hzz).1
    unfold PV.isAgg at hz1
    rw [hz1]
    cbv
    refine hcall1 _ _ _ _ _ (CallEv.same (hf i z hzz) rfl ?_)
    rintro _ _ ⟨b, hb, rfl, rfl⟩
    cbv
    cases b with
    | true =>
      cbv
      exact hret _ (RetEv.ret eOk rfl ⟨_, .inr ⟨i, hi, rfl, hb.symm, h2⟩, rfl, rfl⟩)
    | false =>
      cbv
      refine hrd _ ⟨i + 1, [], ?_, ⟨hi, ?_⟩, rfl, ⟨rfl, rfl, rfl, ?_, trivial⟩, rfl, rfl, rfl, ?_⟩
      · show N - (i + 1) < N - i
        omega
      · intro j hj
        rcases Nat.lt_succ_iff_lt_or_eq.1 hj with c | c
        · exact h2 j c
        · rw [c]; exact hb.symm
      · show some (V.p (.int .i64 _)) = _
        rw [hadd1 hi]
      · rw [hB]; exact Nat.le_refl _
  · refine vcIf.no (by first | (simp [hA1.not, hA1.eq, hA1.lt, hA1.le, hA1.cond, hA1.beq, hA1.orb, hL1.len, hL1.slen, hL1.sq, hi]; done) | (simp only [hi]; simp [hA1.not, hA1.eq, hA1.lt, hA1.le, hA1.cond, hA1.beq, hA1.orb, hL1.len, hL1.slen, hL1.sq, hi]; done) | (simp [hA1.not, hA1.eq, hA1.lt, hA1.le, hA1.cond, hA1.beq, hA1.orb, hL1.len, hL1.slen, hL1.sq, hi]; omega) | (simp only [hi]; simp [hA1.not, hA1.eq, hA1.lt, hA1.le, hA1.cond, hA1.beq, hA1.orb, hL1.len, hL1.slen, hL1.sq, hi]; omega)) ?_
    cbv
    exact hret _ (RetEv.ret eOk rfl ⟨-1, .inl ⟨rfl, fun j hj => h2 j (by omega)⟩, rfl, rfl⟩)
end Go.Proofs.Ytnigonhkfpnodaa
end
section
namespace Go.Proofs.Ytnigonhkfpnodaa
open Go Go.Lx
open Go.Sx (vcIf)

theorem prTIdx (zs : List PV) (N : Nat) (hN : zs.length = N) (hl : N < 9223372036854775807) (hz : ∀ (i : Nat) (z : PV), zs[i]? = some z → z.isAgg = true ∧ z.cells.length = 2) (f : FuncId) (b0a b0b : PV) (p : Nat → Bool)
    (hf : ∀ (i : Nat) (z : PV), zs[i]? = some z → FnL Try.prog f [.p z, .imm 2 (.agg [b0a, b0b]) 0] [] fun v own => ∃ b, b = p i ∧ v = .p (.bool b) ∧ own = []) :
    FnL Try.prog 115 [.p (.sl zs), .fn f [.imm 2 (.agg [b0a, b0b]) 0]] [] fun v own => ∃ k : Int, ((k = -1 ∧ ∀ j, j < N → p j = false) ∨ ∃ i : Nat, i < N ∧ k = Int.ofNat i ∧ p i = true ∧ ∀ j, j < i → p j = false) ∧ v = .p (.int .i64 k) ∧ own = [] := by
  refine fn_of_vc eOk fOk fo115 Try.func115 rfl rfl rfl fun B hB => ?_
  intro add sub mul quo rem band bor bxor bclr shl shr ieq ilt ile seq slt beq bnot orb bcond iwrap iof ssz hA cat sq sl imin imax smin smax len slen u8 hL op hop call hcall code hcode ret hret
  have hlen : len zs = Int.ofNat N := by rw [hL.len, hN]; rfl
  cbv
  rw [hlen]
  refine hcode _ _ _ (CodeEv.loop eOk fOk (ι := Nat) (fun s => [(0, .p (.sl zs)), (1, .fn f [.imm 2 (.agg [b0a, b0b]) 0]), (7, .p (.int .i64 (Int.ofNat N))), (8, .p (.int .i64 (Int.ofNat s)))])
    (fun s => []) (fun s => s ≤ N ∧ ∀ j, j < s → p j = false) (fun s => N - s) 0 ?_ ?_)
  · exact ⟨⟨rfl, rfl, rfl, rfl, trivial⟩, rfl, Nat.zero_le _, fun j h => absurd h (Nat.not_lt_zero j)⟩
  rintro i ⟨h1, h2⟩ rd hrd
  intro add1 sub1 mul1 quo1 rem1 band1 bor1 bxor1 bclr1 shl1 shr1 ieq1 ilt1 ile1 seq1 slt1 beq1 bnot1 orb1 bcond1 iwrap1 iof1 ssz1 hA1 cat1 sq1 sl1 imin1 imax1 smin1 smax1 len1 slen1 u81 hL1 op1 hop1 call1 hcall1 code1 hcode1
  have hadd1 : i < N → add1 .i64 (Int.ofNat i) 1 = Int.ofNat (i + 1) := fun _ => by rw [hA1.add, IntWalk.i64_in _ (by simp only [Int.ofNat_eq_natCast]; omega)]; rfl
  cbv
  by_cases hi : i < N
  · obtain ⟨z, hzz⟩ := get_of_lt (show i < zs.length by omega)
    refine vcIf.yes (by first | (simp [hA1.not, hA1.eq, hA1.lt, hA1.le, hA1.cond, hA1.beq, hA1.orb, hL1.len, hL1.slen, hL1.sq, hi]; done) | (simp only [hi]; simp [hA1.not, hA1.eq, hA1.lt, hA1.le, hA1.cond, hA1.beq, hA1.orb, hL1.len, hL1.slen, hL1.sq, hi]; done) | (simp [hA1.not, hA1.eq, hA1.lt, hA1.le, hA1.cond, hA1.beq, hA1.orb, hL1.len, hL1.slen, hL1.sq, hi]; omega) | (simp only [hi]; simp [hA1.not, hA1.eq, hA1.lt, hA1.le, hA1.cond, hA1.beq, hA1.orb, hL1.len, hL1.slen, hL1.sq, hi]; omega)) ?_
    cbv
    refine ⟨i, _, rfl, hzz, (hz i z hzz).2, ?_⟩
    cbv
    have hz1 := (hz i z hzz).1
    unfold PV.isAgg at hz1
    rw [hz1]
    cbv
    refine hcall1 _ _ _ _ _ (CallEv.same (hf i z hzz) rfl ?_)
    rintro _ _ ⟨b, hb, rfl, rfl⟩
    cbv
    cases b with
    | true =>
      cbv
      exact hret _ (RetEv.ret eOk rfl ⟨_, .inr ⟨i, hi, rfl, hb.symm, h2⟩, rfl, rfl⟩)
    | false =>
      cbv
      refine hrd _ ⟨i + 1, [], ?_, ⟨hi, ?_⟩, rfl, ⟨rfl, rfl, rfl, ?_, trivial⟩, rfl, rfl, rfl, ?_⟩
      · show N - (i + 1) < N - i
        omega
      · intro j hj
        rcases Nat.lt_succ_iff_lt_or_eq.1 hj with c | c
        · exact h2 j c
        · rw [c]; exact hb.symm
      · show some (V.p (.int .i64 _)) = _
        rw [hadd1 hi]
      · rw [hB]; exact Nat.le_refl _
  · refine vcIf.no (by first | (simp [hA1.not, hA1.eq, hA1.lt, hA1.le, hA1.cond, hA1.beq, hA1.orb, hL1.len, hL1.slen, hL1.sq, hi]; done) | (simp only [hi]; simp [hA1.not, hA1.eq, hA1.lt, hA1.le, hA1.cond, hA1.beq, hA1.orb, hL1.len, hL1.slen, hL1.sq, hi]; done) | (simp [hA1.not, hA1.eq, hA1.lt, hA1.le, hA1.cond, hA1.beq, hA1.orb, hL1.len, hL1.slen, hL1.sq, hi]; omega) | (simp only [hi]; simp [hA1.not, hA1.eq, hA1.lt, hA1.le, hA1.cond, hA1.beq, hA1.orb, hL1.len, hL1.slen, hL1.sq, hi]; omega)) ?_
    cbv
    exact hret _ (RetEv.ret eOk rfl ⟨-1, .inl ⟨rfl, fun j hj => h2 j (by omega)⟩, rfl, rfl⟩)
end Go.Proofs.Ytnigonhkfpnodaa
end
section
namespace Go.Proofs.Ytnigonhkfpnodaa
open Go Go.Lx
open Go.Sx (vcIf)

/-- The closure of List's DeleteFunc. -/
theorem ldel1_spec (lo hi ky vl : List UInt8) : FnL Try.prog 92 [.p (.agg [.str ky, .str vl]), .imm 2 (.agg [.str lo, .str hi]) 0] []
    fun v own => ∃ b, b = !(hs ⟨lo, hi⟩ ky) ∧ v = .p (.bool b) ∧ own = [] := by
  refine FnL.flat (R := fun v own => ∃ b, b = !(hs ⟨lo, hi⟩ ky) ∧ v = .p (.bool b)) ?_ (by rintro _ _ ⟨b, h, rfl⟩; exact ⟨_, _, rfl, .refl _, b, h, rfl, rfl⟩)
  have hh := has_spec lo hi ky
  obtain ⟨R, hR⟩ : ∃ R, R = hs ⟨lo, hi⟩ ky := ⟨_, rfl⟩
  rw [← hR] at hh ⊢
  refine fn_of_vc eOk fOk fo92 Try.func92 rfl rfl rfl fun B hB => ?_
  intro add sub mul quo rem band bor bxor bclr shl shr ieq ilt ile seq slt beq bnot orb bcond iwrap iof ssz hA cat sq sl imin imax smin smax len slen u8 hL op hop call hcall code hcode ret hret
  cbv
  refine hcall _ _ _ _ _ (CallEv.same hh rfl ?_)
  rintro _ _ ⟨b, rfl, rfl, rfl⟩
  cbv
  exact hret _ (RetEv.ret eOk rfl ⟨_, hA.not b, rfl⟩)

/-- What a row is while pairs are deleted from it: the kept ones first, the others behind j as they were. -/
theorem delfSp_spec (ps : List Pr) (xs : List PV) (K n : Nat) (hx : RowP xs K n ps) (hn : n < 140737488355328) (f : FuncId) (b0 b1 : PV) (hbo : ∀ q ∈ [b0, b1], q.one = true) (p : Pr → Bool)
    (hf : ∀ a : Pr, FnL Try.prog f [.p (.agg [.str a.key, .str a.val]), .imm 2 (.agg [b0, b1]) 0] [] fun v own => ∃ b, b = p a ∧ v = .p (.bool b) ∧ own = []) :
    FnL Try.prog 90 [.vw 0 2 0 n (some K), .fn f [.own 1 0]] [.arr 102 2 xs, .st 58 [.p b0, .p b1]]
      fun v own => ∃ n' xs', v = .vw 0 2 0 n' (some K) ∧ own = [.arr 102 2 xs', .st 58 [.p b0, .p b1]] ∧ RowP xs' K n' (ps.filter fun a => !(p a)) := by
  have hps := hx.2.1
  have hxt := hx.2.2.2.2
  obtain ⟨zs, hzs⟩ : ∃ zs, zs = prP ps := ⟨_, rfl⟩
  have hzl : zs.length = n := by rw [hzs, prP_length, hps]
  have hzx : zs = (xs.drop 0).take n := by rw [hzs, List.drop_zero, hxt]
  have hget : ∀ (i : Nat) (z : PV), zs[i]? = some z → ∃ a : Pr, ps[i]? = some a ∧ z = a.v := fun i z h => by
    rw [hzs] at h; unfold prP at h; rw [List.getElem?_map] at h
    cases hp : ps[i]? with
    | none => rw [hp] at h; cases h
    | some a => rw [hp] at h; cases h; exact ⟨a, rfl, rfl⟩
  have hidx := prTIdx zs n hzl (by omega) (fun i z h => by obtain ⟨a, _, rfl⟩ := hget i z h; exact ⟨rfl, rfl⟩) f b0 b1 (fun i => match ps[i]? with | some a => p a | none => false) (fun i z h => by
    obtain ⟨a, ha, rfl⟩ := hget i z h
    rw [ha]; exact hf a)
  have hT : ∀ us, TrL [.arr 102 2 us, .st 58 [.p b0, .p b1]] [] [0, 1] [.own 1 0] [.imm 2 (.agg [b0, b1]) 0] := fun us => .cons (Tr.box (qs := [b0, b1]) (by decide) rfl hbo) .nil
  have hT1 : ∀ us, TrL [.arr 102 2 us, .st 58 [.p b0, .p b1]] [] [1] [.own 1 0] [.imm 2 (.agg [b0, b1]) 0] := fun us => .cons (Tr.box (qs := [b0, b1]) (by decide) rfl hbo) .nil
  refine fn_of_vc eOk fOk fo90 Try.func90 rfl rfl rfl fun B hB => ?_
  intro add sub mul quo rem band bor bxor bclr shl shr ieq ilt ile seq slt beq bnot orb bcond iwrap iof ssz hA cat sq sl imin imax smin smax len slen u8 hL op hop call hcall code hcode ret hret
  cbv
  refine hcall _ _ _ _ _ (CallEv.shown [] [0, 1] hidx rfl (.cons (.bvw 0 2 0 n (some K) _ 2 xs zs (by decide) rfl hzx) (.cons (.fn _ _ _ (hT xs).1 (hT xs).2) .nil)) trivial ?_)
  rintro _ _ ⟨k, hk, rfl, rfl⟩
  refine ⟨.p _ (.int _ _), (by intro r hr; cases hr), ?_⟩
  have hnone : k = -1 → RowP xs K n (ps.filter fun a => !(p a)) := fun h => by
    have hall : ∀ j, j < n → (match ps[j]? with | some a => p a | none => false) = false := by
      rcases hk with c | ⟨i, _, h2, _⟩
      · exact c.2
      · rw [h] at h2; simp only [Int.ofNat_eq_natCast] at h2; omega
    rw [List.filter_eq_self.2 fun a ha => ?_]
    · exact hx
    · obtain ⟨q, hq⟩ := List.mem_iff_getElem?.1 ha
      have := hall q (by rw [hps]; exact (List.getElem?_eq_some_iff.1 hq).1)
      rw [hq] at this; simp only at this; rw [this]; rfl
  cbv
  by_cases hk0 : k = -1
  · have key := hnone hk0
    refine vcIf.yes (by first | (simp [hA.not, hA.eq, hA.lt, hA.le, hA.cond, hA.beq, hA.orb, hL.len, hL.slen, hL.sq, hk0]; done) | (simp only [hk0]; simp [hA.not, hA.eq, hA.lt, hA.le, hA.cond, hA.beq, hA.orb, hL.len, hL.slen, hL.sq, hk0]; done) | (simp [hA.not, hA.eq, hA.lt, hA.le, hA.cond, hA.beq, hA.orb, hL.len, hL.slen, hL.sq, hk0]; omega) | (simp only [hk0]; simp [hA.not, hA.eq, hA.lt, hA.le, hA.cond, hA.beq, hA.orb, hL.len, hL.slen, hL.sq, hk0]; omega)) ?_
    cbv
    exact hret _ (RetEv.ret eOk rfl ⟨n, xs, rfl, rfl, key⟩)
  have hk2 : ∃ i : Nat, i < n ∧ k = Int.ofNat i ∧ (match ps[i]? with | some a => p a | none => false) = true ∧ ∀ j, j < i → (match ps[j]? with | some a => p a | none => false) = false := by
    rcases hk with c | c
    · exact absurd c.1 hk0
    · exact c
  refine Exists.elim hk2 fun i0 hi0 => ?_
  refine Exists.elim (get_of_lt (show i0 < ps.length by omega)) fun a0 ha0 => ?_
  have hst := DelSt.first hx ha0 (p := p) (by have := hi0.2.2.1; rw [ha0] at this; exact this) (fun j hj b hb => by have := hi0.2.2.2 j hj; rw [hb] at this; exact this)
  have hi0n := hi0.1
  have hki := hi0.2.1
  refine Exists.elim (show ∃ j0, j0 = i0 + 1 from ⟨_, rfl⟩) fun j0 hj0 => ?_
  rw [← hj0] at hst
  have hadd : add .i64 k 1 = Int.ofNat j0 := by rw [hki, hA.add, IntWalk.i64_in _ (by simp only [Int.ofNat_eq_natCast]; omega), hj0]; rfl
  clear hk hk2 hi0
  refine vcIf.no (by first | (simp [hA.not, hA.eq, hA.lt, hA.le, hA.cond, hA.beq, hA.orb, hL.len, hL.slen, hL.sq, hk0]; done) | (simp only [hk0]; simp [hA.not, hA.eq, hA.lt, hA.le, hA.cond, hA.beq, hA.orb, hL.len, hL.slen, hL.sq, hk0]; done) | (simp [hA.not, hA.eq, hA.lt, hA.le, hA.cond, hA.beq, hA.orb, hL.len, hL.slen, hL.sq, hk0]; omega) | (simp only [hk0]; simp [hA.not, hA.eq, hA.lt, hA.le, hA.cond, hA.beq, hA.orb, hL.len, hL.slen, hL.sq, hk0]; omega)) ?_
  cbv
  rw [hadd, hki]
  refine hcode _ _ _ (CodeEv.loop eOk fOk (ι := Nat × Nat × List PV) (fun s => [(0, .vw 0 2 0 n (some K)), (1, .fn f [.own 1 0]), (5, .p (.int .i64 (Int.ofNat s.1))), (6, .p (.int .i64 (Int.ofNat s.2.1)))])
    (fun s => [.arr 102 2 s.2.2, .st 58 [.p b0, .p b1]]) (fun s => s.1 < s.2.1 ∧ s.2.1 ≤ n ∧ DelSt xs s.2.2 K ps p s.1 s.2.1) (fun s => n - s.2.1) (i0, j0, xs) ?_ ?_)
  · exact ⟨(by repeat (first | exact trivial | refine And.intro rfl ?_)), rfl, by simp only; omega, by simp only; omega, hst⟩
  rintro ⟨i, j, us⟩ ⟨k1, k2, k3⟩ rd hrd
  simp only at k1 k2 k3
  by_cases hj : j < n
  · refine Exists.elim (get_of_lt (show j < ps.length by omega)) fun a ha => ?_
    have huj : us[j]? = some (.agg [.str a.key, .str a.val]) := by
      rw [k3.2.2.2.2 j (Nat.le_refl _)]
      have h1 : (xs.take n)[j]? = some a.v := by rw [hxt]; unfold prP; rw [List.getElem?_map, ha]; rfl
      rwa [List.getElem?_take_of_lt hj] at h1
    have hul : us.length = K := k3.1
    have hfa := hf a
    have hkeep := fun (h : p a = false) (ws : List PV) => k3.keep ha h (by have := hx.2.2.1; omega) (ws := ws)
    have hskip := fun (h : p a = true) => k3.skip ha h
    have hnK := hx.2.2.1
    refine Exists.elim (show ∃ b, b = p a from ⟨_, rfl⟩) fun pb hpb => ?_
    rw [← hpb] at hfa hkeep hskip
    obtain ⟨ak, av⟩ := a
    simp only at huj hfa
    intro add1 sub1 mul1 quo1 rem1 band1 bor1 bxor1 bclr1 shl1 shr1 ieq1 ilt1 ile1 seq1 slt1 beq1 bnot1 orb1 bcond1 iwrap1 iof1 ssz1 hA1 cat1 sq1 sl1 imin1 imax1 smin1 smax1 len1 slen1 u81 hL1 op1 hop1 call1 hcall1 code1 hcode1
    have haj : add1 .i64 (Int.ofNat j) 1 = Int.ofNat (j + 1) := by rw [hA1.add, IntWalk.i64_in _ (by simp only [Int.ofNat_eq_natCast]; omega)]; rfl
    have hai : add1 .i64 (Int.ofNat i) 1 = Int.ofNat (i + 1) := by rw [hA1.add, IntWalk.i64_in _ (by simp only [Int.ofNat_eq_natCast]; omega)]; rfl
    have hnn : iof1 n = Int.ofNat n := hA1.ofNat n
    cbv
    refine vcIf.yes (by first | (simp [hA1.not, hA1.eq, hA1.lt, hA1.le, hA1.cond, hA1.beq, hA1.orb, hL1.len, hL1.slen, hL1.sq, hnn, hj]; done) | (simp only [hnn, hj]; simp [hA1.not, hA1.eq, hA1.lt, hA1.le, hA1.cond, hA1.beq, hA1.orb, hL1.len, hL1.slen, hL1.sq, hnn, hj]; done) | (simp [hA1.not, hA1.eq, hA1.lt, hA1.le, hA1.cond, hA1.beq, hA1.orb, hL1.len, hL1.slen, hL1.sq, hnn, hj]; omega) | (simp only [hnn, hj]; simp [hA1.not, hA1.eq, hA1.lt, hA1.le, hA1.cond, hA1.beq, hA1.orb, hL1.len, hL1.slen, hL1.sq, hnn, hj]; omega)) ?_
    cbv
    refine ⟨j, rfl, hj, fun q hq => ?_⟩
    have hq : q = j := by omega
    have guq : us[q]? = some (.agg [.str ak, .str av]) := by rw [hq]; exact huj
    cbv
    refine ⟨_, guq, ?_⟩
    cbv
    refine hcall1 _ _ _ _ _ (CallEv.shown [] [1] hfa rfl (.cons (.p _) (.cons (Tr.box (qs := [b0, b1]) (by decide) rfl hbo) .nil)) trivial ?_)
    rintro _ _ ⟨b, hb, rfl, rfl⟩
    refine ⟨.p _ (.bool _), (by intro r hr; cases hr), ?_⟩
    cbv
    by_cases hbb : b = true
    · have hs := hskip (by rw [← hb]; exact hbb)
      refine vcIf.no (by first | (simp [hA1.not, hA1.eq, hA1.lt, hA1.le, hA1.cond, hA1.beq, hA1.orb, hL1.len, hL1.slen, hL1.sq, hbb]; done) | (simp only [hbb]; simp [hA1.not, hA1.eq, hA1.lt, hA1.le, hA1.cond, hA1.beq, hA1.orb, hL1.len, hL1.slen, hL1.sq, hbb]; done) | (simp [hA1.not, hA1.eq, hA1.lt, hA1.le, hA1.cond, hA1.beq, hA1.orb, hL1.len, hL1.slen, hL1.sq, hbb]; omega) | (simp only [hbb]; simp [hA1.not, hA1.eq, hA1.lt, hA1.le, hA1.cond, hA1.beq, hA1.orb, hL1.len, hL1.slen, hL1.sq, hbb]; omega)) ?_
      cbv
      refine hrd _ ⟨(i, j + 1, us), _, ?_, ⟨?_, hj, hs⟩, rfl, ⟨rfl, rfl, rfl, ?_, trivial⟩, rfl, rfl, rfl, ?_⟩
      · show n - (j + 1) < n - j
        omega
      · simp only; omega
      · show some (V.p (.int .i64 _)) = _
        rw [haj]
      · rw [hB]; exact Nat.le_refl _
    · have hkp := hkeep (by rw [← hb]; exact Bool.eq_false_iff.2 hbb)
      have hbb := Bool.eq_false_iff.2 hbb
      refine vcIf.yes (by first | (simp [hA1.not, hA1.eq, hA1.lt, hA1.le, hA1.cond, hA1.beq, hA1.orb, hL1.len, hL1.slen, hL1.sq, hbb]; done) | (simp only [hbb]; simp [hA1.not, hA1.eq, hA1.lt, hA1.le, hA1.cond, hA1.beq, hA1.orb, hL1.len, hL1.slen, hL1.sq, hbb]; done) | (simp [hA1.not, hA1.eq, hA1.lt, hA1.le, hA1.cond, hA1.beq, hA1.orb, hL1.len, hL1.slen, hL1.sq, hbb]; omega) | (simp only [hbb]; simp [hA1.not, hA1.eq, hA1.lt, hA1.le, hA1.cond, hA1.beq, hA1.orb, hL1.len, hL1.slen, hL1.sq, hbb]; omega)) ?_
      cbv
      refine ⟨i, rfl, by omega, fun d hd => ?_⟩
      have hd : d = i := by omega
      refine Exists.elim (get_of_lt (show d < us.length by omega)) fun z hz => ?_
      cbv
      refine ⟨z, hz, Pr.wf ⟨ak, av⟩, fun ws hws => ?_⟩
      have hkp := hkp ws (by rw [hws, hd]; rfl)
      cbv
      refine hrd _ ⟨(i + 1, j + 1, ws), _, ?_, ⟨?_, hj, hkp⟩, rfl, ⟨rfl, rfl, ?_, ?_, trivial⟩, rfl, rfl, rfl, ?_⟩
      · show n - (j + 1) < n - j
        omega
      · simp only; omega
      · show some (V.p (.int .i64 _)) = _
        rw [hai]
      · show some (V.p (.int .i64 _)) = _
        rw [haj]
      · rw [hB]; exact Nat.le_refl _
  · intro add1 sub1 mul1 quo1 rem1 band1 bor1 bxor1 bclr1 shl1 shr1 ieq1 ilt1 ile1 seq1 slt1 beq1 bnot1 orb1 bcond1 iwrap1 iof1 ssz1 hA1 cat1 sq1 sl1 imin1 imax1 smin1 smax1 len1 slen1 u81 hL1 op1 hop1 call1 hcall1 code1 hcode1
    have hnn : iof1 n = Int.ofNat n := hA1.ofNat n
    cbv
    refine vcIf.no (by first | (simp [hA1.not, hA1.eq, hA1.lt, hA1.le, hA1.cond, hA1.beq, hA1.orb, hL1.len, hL1.slen, hL1.sq, hnn, hj]; done) | (simp only [hnn, hj]; simp [hA1.not, hA1.eq, hA1.lt, hA1.le, hA1.cond, hA1.beq, hA1.orb, hL1.len, hL1.slen, hL1.sq, hnn, hj]; done) | (simp [hA1.not, hA1.eq, hA1.lt, hA1.le, hA1.cond, hA1.beq, hA1.orb, hL1.len, hL1.slen, hL1.sq, hnn, hj]; omega) | (simp only [hnn, hj]; simp [hA1.not, hA1.eq, hA1.lt, hA1.le, hA1.cond, hA1.beq, hA1.orb, hL1.len, hL1.slen, hL1.sq, hnn, hj]; omega)) ?_
    cbv
    refine ⟨i, n, rfl, rfl, by omega, by have := hx.2.2.1; have := k3.1; omega, (fun c h => by cases h; have := hx.2.2.1; omega), fun o1 m1 ho1 hm1 => ?_⟩
    have hii : o1 = i := by omega
    cbv
    refine hop _ _ _ _ (OpEv.clear eOk rfl rfl rfl rfl rfl rfl rfl (Pr.wf ⟨[], []⟩) rfl rfl rfl fun ws hws => ?_)
    have key := DelSt.last hx (show DelSt xs us K ps p i n by rw [show n = j by omega]; exact k3) (show i + m1 = n by omega) (ws := ws) (by rw [hws, hii]; rfl)
    cbv
    refine ⟨0, i, rfl, rfl, Nat.zero_le _, by have := key.1; have := key.2.2.1; omega, (fun c h => by cases h; have := key.1; have := key.2.2.1; omega), fun o2 m2 ho2 hm2 => ?_⟩
    obtain rfl : 0 = o2 := by omega
    obtain rfl : i = m2 := by omega
    cbv
    exact hret _ (RetEv.ret eOk rfl ⟨i, ws, rfl, rfl, key⟩)

end Go.Proofs.Ytnigonhkfpnodaa
end
section
namespace Go.Proofs.Ytnigonhkfpnodaa
open Go Go.Lx
open Go.Sx (vcIf)

theorem upto_spec (a f l v : Int) (zs : List PV) (ls : List Lay) (hn : ls.length < 281474976710656) (ys : List PV) (hys : ys = layP ls) :
    FnL Try.prog 95 [psI a f l zs ys, .p (.int .i64 v)] [] fun r own => ∃ e : Nat, e = upto ls v ∧ r = .p (.int .i64 (Int.ofNat e)) ∧ own = [] := by
  obtain ⟨N, hN⟩ : ∃ N, N = ls.length := ⟨_, rfl⟩
  have hyl : ys.length = N := by rw [hys, layP_length, hN]
  have hshape := layP_shape hys
  have hidx := layIdx ys N hyl (by omega) hshape 119 (.int .i64 v) (fun i => match ls[i]? with | some b => decide (v < b.ver) | none => false) (fun i z hz => by
    rw [hys] at hz; unfold layP at hz; rw [List.getElem?_map] at hz
    cases hb : ls[i]? with
    | none => rw [hb] at hz; cases hz
    | some b => rw [hb] at hz; cases hz; exact upto1_spec b.ver v (cP b.ch))
  have hT : TrL [.st 3 [.p (.int .i64 v)]] [] [0] [.own 0 0] [.imm 1 (.int .i64 v) 0] := .cons (.bown1 0 0 _ _ (by decide) rfl rfl) .nil
  refine FnL.flat (R := fun r own => ∃ e : Nat, e = upto ls v ∧ r = .p (.int .i64 (Int.ofNat e))) ?_ (by rintro _ _ ⟨b, h, rfl⟩; exact ⟨_, _, rfl, .refl _, b, h, rfl, rfl⟩)
  have hall : (∀ j, j < N → (match ls[j]? with | some b => decide (v < b.ver) | none => false) = false) → N = upto ls v := fun h => by
    refine (upto_eq v (by omega) (fun i b hi hb => ?_) (fun b hb => ?_)).symm
    · have := h i hi; rw [hb] at this; simp at this; omega
    · have := (List.getElem?_eq_some_iff.1 hb).1; omega
  have hone : ∀ i : Nat, i < N → (match ls[i]? with | some b => decide (v < b.ver) | none => false) = true → (∀ j, j < i → (match ls[j]? with | some b => decide (v < b.ver) | none => false) = false) → i = upto ls v := fun i hi h1 h2 => by
    refine (upto_eq v (by omega) (fun j b hj hb => ?_) (fun b hb => ?_)).symm
    · have := h2 j hj; rw [hb] at this; simp at this; omega
    · rw [hb] at h1; simpa using h1
  refine fn_of_vc eOk fOk fo95 Try.func95 rfl rfl rfl fun B hB => ?_
  intro add sub mul quo rem band bor bxor bclr shl shr ieq ilt ile seq slt beq bnot orb bcond iwrap iof ssz hA cat sq sl imin imax smin smax len slen u8 hL op hop call hcall code hcode ret hret
  have hlen : len ys = Int.ofNat N := by rw [hL.len, hyl]; rfl
  cbv
  refine hcall _ _ _ _ _ (CallEv.shown [] [0] hidx rfl (.cons (.p _) (.cons (.fn _ _ _ hT.1 hT.2) .nil)) trivial ?_)
  rintro _ _ ⟨k, hk, rfl, rfl⟩
  refine ⟨.p _ (.int _ _), (by intro r hr; cases hr), ?_⟩
  have hk2 : (k < 0 ∧ N = upto ls v) ∨ ∃ e : Nat, k = Int.ofNat e ∧ e = upto ls v := by
    rcases hk with ⟨h1, h2⟩ | ⟨i, h1, h2, h3, h4⟩
    · exact .inl ⟨by rw [h1]; decide, hall h2⟩
    · exact .inr ⟨i, h2, hone i h1 h3 h4⟩
  clear hk hall hone hidx
  cbv
  rcases hk2 with ⟨h1, h2⟩ | ⟨e, h1, h2⟩
  · refine vcIf.yes (by first | (simp [hA.not, hA.eq, hA.lt, hA.le, hA.cond, hA.beq, hA.orb, hL.len, hL.slen, hL.sq, h1]; done) | (simp only [h1]; simp [hA.not, hA.eq, hA.lt, hA.le, hA.cond, hA.beq, hA.orb, hL.len, hL.slen, hL.sq, h1]; done) | (simp [hA.not, hA.eq, hA.lt, hA.le, hA.cond, hA.beq, hA.orb, hL.len, hL.slen, hL.sq, h1]; omega) | (simp only [h1]; simp [hA.not, hA.eq, hA.lt, hA.le, hA.cond, hA.beq, hA.orb, hL.len, hL.slen, hL.sq, h1]; omega)) ?_
    cbv
    rw [hlen]
    exact hret _ (RetEv.ret eOk rfl ⟨N, h2, rfl⟩)
  · have h3 : ¬ k < 0 := by rw [h1]; simp only [Int.ofNat_eq_natCast]; omega
    refine vcIf.no (by first | (simp [hA.not, hA.eq, hA.lt, hA.le, hA.cond, hA.beq, hA.orb, hL.len, hL.slen, hL.sq, h3]; done) | (simp only [h3]; simp [hA.not, hA.eq, hA.lt, hA.le, hA.cond, hA.beq, hA.orb, hL.len, hL.slen, hL.sq, h3]; done) | (simp [hA.not, hA.eq, hA.lt, hA.le, hA.cond, hA.beq, hA.orb, hL.len, hL.slen, hL.sq, h3]; omega) | (simp only [h3]; simp [hA.not, hA.eq, hA.lt, hA.le, hA.cond, hA.beq, hA.orb, hL.len, hL.slen, hL.sq, h3]; omega)) ?_
    cbv
    exact hret _ (RetEv.ret eOk rfl ⟨e, h2, by rw [h1]; rfl⟩)

/-- What layers make of pairs. -/
def lays (ps : List Pr) (ls : List Lay) : List Pr := ls.foldl (fun ps l => ones ps l.ch) ps
def whole (ps : List Pr) (ls : List Lay) (v : Int) : List Pr := lays ps (ls.take (upto ls v))
theorem lays_next (ps : List Pr) {ls : List Lay} {k : Nat} {l : Lay} (h : ls[k]? = some l) : lays ps (ls.take (k + 1)) = ones (lays ps (ls.take k)) l.ch := by
  unfold lays; rw [List.take_add_one, h, List.foldl_append]; rfl
theorem lays_srt : ∀ (ls : List Lay) {ps : List Pr}, Srt ps → Srt (lays ps ls)
  | [], _, h => h
  | l :: r, _, h => lays_srt r (ones_srt h l.ch)
theorem lays_len {M : Nat} : ∀ (ls : List Lay) {ps : List Pr}, Srt ps → (∀ l ∈ ls, l.ch.length ≤ M) → (lays ps ls).length ≤ ps.length + ls.length * M
  | [], _, _, _ => by simp [lays]
  | l :: r, ps, h, hM => by
    have h1 := lays_len r (ones_srt h l.ch) (fun c hc => hM c (by simp [hc]))
    have h2 := ones_len h l.ch
    have h3 := hM l (by simp)
    have e : lays ps (l :: r) = lays (ones ps l.ch) r := rfl
    rw [e]
    simp only [List.length_cons, Nat.add_mul]
    omega
theorem lays_take_len {ls : List Lay} {M : Nat} {ps : List Pr} (hs : Srt ps) (hM : ∀ l ∈ ls, l.ch.length ≤ M) {i : Nat} (hi : i ≤ ls.length) : (lays ps (ls.take i)).length ≤ ps.length + i * M := by
  have := lays_len (M := M) (ls.take i) hs (fun b hb => hM b (List.mem_of_mem_take hb))
  rwa [List.length_take, Nat.min_eq_left hi] at this

theorem bnd_le {n a K : Nat} (h : n ≤ a) (hk : (a + 1) * 32 ≤ K) : (n + 1) * 32 ≤ K := Nat.le_trans (Nat.mul_le_mul_right _ (Nat.succ_le_succ h)) hk
theorem bnd_le0 {n a b K : Nat} (hk : (n + a + 1) * 32 ≤ K) : n * 32 ≤ K := Nat.le_trans (Nat.mul_le_mul_right _ (by omega)) hk

theorem whole_spec (a f l v : Int) (ps : List Pr) (hps : Srt ps) (ls : List Lay) (M : Nat) (hM : ∀ l ∈ ls, l.ch.length ≤ M) (hck : ∀ l ∈ ls, chks l.ch = 0) (hsz : (ps.length + ls.length * M + 1) * 32 ≤ 140737488355328) (hn : ls.length < 281474976710656)
    (zs : List PV) (hzs : zs = prP ps) (ys : List PV) (hys : ys = layP ls) :
    FnL Try.prog 91 [psI a f l zs ys, .p (.int .i64 v)] [] fun r own => ∃ K n xs, r = .vw 0 2 0 n (some K) ∧ own = [.arr 102 2 xs] ∧ RowP xs K n (whole ps ls v) := by
  have hcl := clonePr_spec ps (bnd_le0 (b := 0) hsz) zs hzs
  have hup := upto_spec a f l v zs ls hn ys hys
  obtain ⟨N, hN⟩ : ∃ N, N = upto ls v := ⟨_, rfl⟩
  have hNl : N ≤ ls.length := by rw [hN]; exact upto_le v ls
  have hNy : N ≤ ys.length := by rw [hys, layP_length]; exact hNl
  have hyc : ∀ y : PV, y ∈ ys → y.cells.length = 2 := fun y hy => by rw [hys] at hy; exact (layP_wf ls y hy).1
  obtain ⟨us, hus⟩ : ∃ us, us = ys.take N := ⟨_, rfl⟩
  have hul : us.length = N := by rw [hus, List.length_take]; omega
  have hwh : whole ps ls v = lays ps (ls.take N) := by rw [hN]; rfl
  rw [hwh]
  rw [← hN] at hup
  refine fn_of_vc eOk fOk fo91 Try.func91 rfl rfl rfl fun B hB => ?_
  intro add sub mul quo rem band bor bxor bclr shl shr ieq ilt ile seq slt beq bnot orb bcond iwrap iof ssz hA cat sq sl imin imax smin smax len slen u8 hL op hop call hcall code hcode ret hret
  cbv
  refine hcall _ _ _ _ _ (CallEv.same hcl rfl ?_)
  rintro _ _ ⟨K0, n0, xs0, rfl, rfl, hx0⟩
  have hlen : len us = Int.ofNat N := by rw [hL.len, hul]; rfl
  cbv
  refine hcode _ _ _ (CodeEv.drawA eOk fOk (by kernel_rfl) noX (by kernel_rfl) (by kernel_rfl) (by kernel_rfl) ?_)
  intro add2 sub2 mul2 quo2 rem2 band2 bor2 bxor2 bclr2 shl2 shr2 ieq2 ilt2 ile2 seq2 slt2 beq2 bnot2 orb2 bcond2 iwrap2 iof2 ssz2 hA2 cat2 sq2 sl2 imin2 imax2 smin2 smax2 len2 slen2 u82 hL2 op2 hop2 call2 hcall2 code2 hcode2 q2 hq2
  cbv
  refine hcall2 _ _ _ _ _ (CallEv.pure hup (.cons (.imm _ _ _) (.cons (.p _) .nil)) ?_)
  rintro _ _ ⟨e, he, rfl, rfl⟩
  cbv
  refine ⟨0, e, ys.length, rfl, rfl, rfl, Nat.zero_le _, (by omega), Nat.le_refl _, hyc, fun u hu => ?_⟩
  have hu : u = us := by rw [hu, hus, he]; rfl
  subst hu
  cbv
  rw [show len2 u = Int.ofNat N by rw [hL2.len, hul]; rfl]
  refine hq2 _ ?_
  cbv
  refine hcode _ _ _ (CodeEv.loop eOk fOk (ι := Nat × Nat × Nat × List PV) (fun s => [(5, .vw 0 2 0 s.2.1 (some s.2.2.1)), (22, .p (.sl u)), (23, .p (.int .i64 (Int.ofNat N))), (24, .p (.int .i64 (Int.ofNat s.1)))])
    (fun s => [.arr 102 2 s.2.2.2]) (fun s => s.1 ≤ N ∧ RowP s.2.2.2 s.2.2.1 s.2.1 (lays ps (ls.take s.1))) (fun s => N - s.1) (0, n0, K0, xs0) ?_ ?_)
  · exact ⟨(by repeat (first | exact trivial | refine And.intro rfl ?_)), rfl, Nat.zero_le _, hx0⟩
  rintro ⟨i, n, K, xs⟩ ⟨k1, k2⟩ rd hrd
  simp only at k1 k2
  by_cases hi : i < N
  · refine Exists.elim (get_of_lt (show i < ls.length by omega)) fun b hb => ?_
    have hbm := List.mem_of_getElem? hb
    have hbM := hM b hbm
    have hck := chks_kind (hck b hbm)
    have hnx := lays_next ps hb
    have hzi : u[i]? = some (.agg [.int .i64 b.ver, .sl (cP b.ch)]) := by rw [hus, List.getElem?_take_of_lt hi, hys]; exact layP_get hb
    have hpl := lays_take_len hps hM (show i ≤ ls.length by omega)
    have hsr := lays_srt (ls.take i) hps
    have hmul : i * M + M ≤ ls.length * M := by rw [← Nat.succ_mul]; exact Nat.mul_le_mul_right _ (by omega)
    refine Exists.elim (show ∃ qs, qs = lays ps (ls.take i) from ⟨_, rfl⟩) fun qs hqs => ?_
    rw [← hqs] at hnx hpl hsr k2
    obtain ⟨bv, bc⟩ := b
    simp only at hzi hck hbM hnx
    refine Exists.elim (show ∃ cs, cs = cP bc from ⟨_, rfl⟩) fun cs hcs => ?_
    rw [← hcs] at hzi
    refine Exists.elim (show ∃ C, C = bc.length from ⟨_, rfl⟩) fun C hC => ?_
    have hcl : cs.length = C := by rw [hcs, cP_length, hC]
    intro add1 sub1 mul1 quo1 rem1 band1 bor1 bxor1 bclr1 shl1 shr1 ieq1 ilt1 ile1 seq1 slt1 beq1 bnot1 orb1 bcond1 iwrap1 iof1 ssz1 hA1 cat1 sq1 sl1 imin1 imax1 smin1 smax1 len1 slen1 u81 hL1 op1 hop1 call1 hcall1 code1 hcode1
    have hadd1 : add1 .i64 (Int.ofNat i) 1 = Int.ofNat (i + 1) := by rw [hA1.add, IntWalk.i64_in _ (by simp only [Int.ofNat_eq_natCast]; omega)]; rfl
    have hlc : len1 cs = Int.ofNat C := by rw [hL1.len, hcl]; rfl
    cbv
    refine vcIf.yes (by first | (simp [hA1.not, hA1.eq, hA1.lt, hA1.le, hA1.cond, hA1.beq, hA1.orb, hL1.len, hL1.slen, hL1.sq, hi]; done) | (simp only [hi]; simp [hA1.not, hA1.eq, hA1.lt, hA1.le, hA1.cond, hA1.beq, hA1.orb, hL1.len, hL1.slen, hL1.sq, hi]; done) | (simp [hA1.not, hA1.eq, hA1.lt, hA1.le, hA1.cond, hA1.beq, hA1.orb, hL1.len, hL1.slen, hL1.sq, hi]; omega) | (simp only [hi]; simp [hA1.not, hA1.eq, hA1.lt, hA1.le, hA1.cond, hA1.beq, hA1.orb, hL1.len, hL1.slen, hL1.sq, hi]; omega)) ?_
    cbv
    refine ⟨i, _, rfl, hzi, rfl, ?_⟩
    cbv
    rw [hlc]
    refine hcode1 _ _ _ (CodeEv.loop eOk fOk (ι := Nat × Nat × Nat × List PV) (fun s => [(5, .vw 0 2 0 s.2.1 (some s.2.2.1)), (22, .p (.sl u)), (23, .p (.int .i64 (Int.ofNat N))), (24, .p (.int .i64 (Int.ofNat i))), (29, .p (.sl cs)), (30, .p (.int .i64 (Int.ofNat C))), (31, .p (.int .i64 (Int.ofNat s.1)))])
      (fun s => [.arr 102 2 s.2.2.2, .st 155 [.p (.int .i64 bv), .p (.sl cs)]]) (fun s => s.1 ≤ C ∧ RowP s.2.2.2 s.2.2.1 s.2.1 (ones qs (bc.take s.1))) (fun s => C - s.1) (0, n, K, xs) ?_ ?_)
    · exact ⟨(by repeat (first | exact trivial | refine And.intro rfl ?_)), rfl, Nat.zero_le _, by simp only [List.take_zero]; exact k2⟩
    rintro ⟨j, n', K', xs'⟩ ⟨m1, m2⟩ rd2 hrd2
    simp only at m1 m2
    by_cases hj : j < C
    · refine Exists.elim (get_of_lt (show j < bc.length by omega)) fun c hc => ?_
      have hzj : cs[j]? = some (.agg [.int .i64 c.kind, .str c.key, .str c.val]) := by rw [hcs]; exact cP_get hc
      have hkc := hck c (List.mem_of_getElem? hc)
      have hon := ones_next qs hc
      have hol : (ones qs (bc.take j)).length ≤ ps.length + i * M + M := by
        have h1 := ones_len hsr (bc.take j)
        have h2 : (bc.take j).length ≤ bc.length := by rw [List.length_take]; exact Nat.min_le_right _ _
        omega
      have h1 := oneP_spec (ones qs (bc.take j)) (ones_srt hsr _) c hkc xs' K' n' m2 (bnd_le (a := ps.length + ls.length * M) (by have := m2.2.1; clear hsz; omega) hsz)
      obtain ⟨ck, cy, cv⟩ := c
      simp only at hzj h1
      rw [← hon] at h1
      intro add2 sub2 mul2 quo2 rem2 band2 bor2 bxor2 bclr2 shl2 shr2 ieq2 ilt2 ile2 seq2 slt2 beq2 bnot2 orb2 bcond2 iwrap2 iof2 ssz2 hA2 cat2 sq2 sl2 imin2 imax2 smin2 smax2 len2 slen2 u82 hL2 op2 hop2 call2 hcall2 code2 hcode2
      have hadd2 : add2 .i64 (Int.ofNat j) 1 = Int.ofNat (j + 1) := by rw [hA2.add, IntWalk.i64_in _ (by simp only [Int.ofNat_eq_natCast]; omega)]; rfl
      cbv
      refine vcIf.yes (by first | (simp [hA2.not, hA2.eq, hA2.lt, hA2.le, hA2.cond, hA2.beq, hA2.orb, hL2.len, hL2.slen, hL2.sq, hj]; done) | (simp only [hj]; simp [hA2.not, hA2.eq, hA2.lt, hA2.le, hA2.cond, hA2.beq, hA2.orb, hL2.len, hL2.slen, hL2.sq, hj]; done) | (simp [hA2.not, hA2.eq, hA2.lt, hA2.le, hA2.cond, hA2.beq, hA2.orb, hL2.len, hL2.slen, hL2.sq, hj]; omega) | (simp only [hj]; simp [hA2.not, hA2.eq, hA2.lt, hA2.le, hA2.cond, hA2.beq, hA2.orb, hL2.len, hL2.slen, hL2.sq, hj]; omega)) ?_
      cbv
      refine ⟨j, _, rfl, hzj, rfl, ?_⟩
      cbv
      refine hcall2 _ _ _ _ _ (CallEv.lend [0] h1 rfl (.cons (.vw 0 0 2 0 n' (some K') rfl) (.cons (.p _) .nil)) ⟨⟨_, rfl, .arr _ _ _⟩, trivial⟩ ?_)
      rintro _ _ ⟨K2, n2, xs2, rfl, rfl, g⟩
      cbv
      refine hrd2 _ ⟨(j + 1, n2, K2, xs2), _, ?_, ⟨hj, g⟩, rfl, ⟨rfl, rfl, rfl, rfl, rfl, rfl, ?_, trivial⟩, rfl, rfl, rfl, ?_⟩
      · show C - (j + 1) < C - j
        omega
      · show some (V.p (.int .i64 _)) = _
        rw [hadd2]
      · rw [hB]; exact Nat.zero_le _
    · have hgood : RowP xs' K' n' (lays ps (ls.take (i + 1))) := by rw [hnx]; rw [List.take_of_length_le (by omega)] at m2; exact m2
      intro add2 sub2 mul2 quo2 rem2 band2 bor2 bxor2 bclr2 shl2 shr2 ieq2 ilt2 ile2 seq2 slt2 beq2 bnot2 orb2 bcond2 iwrap2 iof2 ssz2 hA2 cat2 sq2 sl2 imin2 imax2 smin2 smax2 len2 slen2 u82 hL2 op2 hop2 call2 hcall2 code2 hcode2
      cbv
      refine vcIf.no (by first | (simp [hA2.not, hA2.eq, hA2.lt, hA2.le, hA2.cond, hA2.beq, hA2.orb, hL2.len, hL2.slen, hL2.sq, hj]; done) | (simp only [hj]; simp [hA2.not, hA2.eq, hA2.lt, hA2.le, hA2.cond, hA2.beq, hA2.orb, hL2.len, hL2.slen, hL2.sq, hj]; done) | (simp [hA2.not, hA2.eq, hA2.lt, hA2.le, hA2.cond, hA2.beq, hA2.orb, hL2.len, hL2.slen, hL2.sq, hj]; omega) | (simp only [hj]; simp [hA2.not, hA2.eq, hA2.lt, hA2.le, hA2.cond, hA2.beq, hA2.orb, hL2.len, hL2.slen, hL2.sq, hj]; omega)) ?_
      cbv
      refine hrd _ ⟨(i + 1, n', K', xs'), _, ?_, ⟨hi, hgood⟩, rfl, ⟨rfl, rfl, rfl, ?_, trivial⟩, rfl, rfl, rfl, ?_⟩
      · show N - (i + 1) < N - i
        omega
      · show some (V.p (.int .i64 _)) = _
        rw [hadd1]
      · rw [hB]; exact Nat.zero_le _
  · have hgood : RowP xs K n (lays ps (ls.take N)) := by rw [show N = i by omega]; exact k2
    intro add1 sub1 mul1 quo1 rem1 band1 bor1 bxor1 bclr1 shl1 shr1 ieq1 ilt1 ile1 seq1 slt1 beq1 bnot1 orb1 bcond1 iwrap1 iof1 ssz1 hA1 cat1 sq1 sl1 imin1 imax1 smin1 smax1 len1 slen1 u81 hL1 op1 hop1 call1 hcall1 code1 hcode1
    cbv
    refine vcIf.no (by first | (simp [hA1.not, hA1.eq, hA1.lt, hA1.le, hA1.cond, hA1.beq, hA1.orb, hL1.len, hL1.slen, hL1.sq, hi]; done) | (simp only [hi]; simp [hA1.not, hA1.eq, hA1.lt, hA1.le, hA1.cond, hA1.beq, hA1.orb, hL1.len, hL1.slen, hL1.sq, hi]; done) | (simp [hA1.not, hA1.eq, hA1.lt, hA1.le, hA1.cond, hA1.beq, hA1.orb, hL1.len, hL1.slen, hL1.sq, hi]; omega) | (simp only [hi]; simp [hA1.not, hA1.eq, hA1.lt, hA1.le, hA1.cond, hA1.beq, hA1.orb, hL1.len, hL1.slen, hL1.sq, hi]; omega)) ?_
    cbv
    exact hret _ (RetEv.ret eOk rfl ⟨K, n, xs, rfl, rfl, hgood⟩)
end Go.Proofs.Ytnigonhkfpnodaa
end
