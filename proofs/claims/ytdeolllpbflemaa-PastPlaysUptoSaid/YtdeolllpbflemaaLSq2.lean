/- What a change names, and what changes do to the keys of a span. Conditions: on sizes. -/
import Derived.Test.YtdeolllpbflemaaLSq1
set_option maxRecDepth 100000
set_option maxHeartbeats 8000000
set_option linter.unusedSimpArgs false
set_option linter.unusedVariables false
namespace Go.Proofs.Ytdeolllpbflemaa
open Go Go.Lx
open Go.Sx (vcIf)

theorem chSpan_spec (k : Int) (ky vl : List UInt8) (hk : ky.length < 140737488355328) : FnL Try.prog 41 [.p (.agg [.int .i64 k, .str ky, .str vl])] [] fun v own => ∃ m, m = spn ⟨k, ky, vl⟩ ∧ v = .p (.agg [.str m.lo, .str m.hi]) ∧ own = [] := by
  obtain ⟨⟨lo, hi⟩, hm⟩ : ∃ m, m = spn ⟨k, ky, vl⟩ := ⟨_, rfl⟩
  rw [← hm]
  unfold spn at hm
  simp only at hm
  refine FnL.flat (R := fun v own => v = .p (.agg [.str lo, .str hi])) ?_ (by rintro _ _ rfl; exact ⟨_, _, rfl, .refl _, ⟨lo, hi⟩, rfl, rfl, rfl⟩)
  have hnx := next_spec ky (by omega)
  refine fn_of_vc eOk fOk fo41 Try.func41 rfl rfl rfl fun B hB => ?_
  by_cases h3 : k = 3
  · rw [if_pos h3] at hm
    obtain ⟨g1, g2⟩ := Spn.mk.inj hm
    intro add sub mul quo rem band bor bxor bclr shl shr ieq ilt ile seq slt beq bnot orb bcond iwrap iof ssz hA cat sq sl imin imax smin smax len slen u8 hL op hop call hcall code hcode ret hret
    cbv
    refine vcIf.yes (by first | (simp [hA.not, hA.eq, hA.lt, hA.le, hA.cond, hA.beq, hA.orb, hL.len, hL.slen, hL.sq, h3]; done) | (simp only [h3]; simp [hA.not, hA.eq, hA.lt, hA.le, hA.cond, hA.beq, hA.orb, hL.len, hL.slen, hL.sq, h3]; done) | (simp [hA.not, hA.eq, hA.lt, hA.le, hA.cond, hA.beq, hA.orb, hL.len, hL.slen, hL.sq, h3]; omega) | (simp only [h3]; simp [hA.not, hA.eq, hA.lt, hA.le, hA.cond, hA.beq, hA.orb, hL.len, hL.slen, hL.sq, h3]; omega)) ?_
    cbv
    exact hret _ (RetEv.ret eOk rfl (by rw [g1, g2]; rfl))
  · rw [if_neg h3] at hm
    obtain ⟨g1, g2⟩ := Spn.mk.inj hm
    intro add sub mul quo rem band bor bxor bclr shl shr ieq ilt ile seq slt beq bnot orb bcond iwrap iof ssz hA cat sq sl imin imax smin smax len slen u8 hL op hop call hcall code hcode ret hret
    cbv
    refine vcIf.no (by first | (simp [hA.not, hA.eq, hA.lt, hA.le, hA.cond, hA.beq, hA.orb, hL.len, hL.slen, hL.sq, h3]; done) | (simp only [h3]; simp [hA.not, hA.eq, hA.lt, hA.le, hA.cond, hA.beq, hA.orb, hL.len, hL.slen, hL.sq, h3]; done) | (simp [hA.not, hA.eq, hA.lt, hA.le, hA.cond, hA.beq, hA.orb, hL.len, hL.slen, hL.sq, h3]; omega) | (simp only [h3]; simp [hA.not, hA.eq, hA.lt, hA.le, hA.cond, hA.beq, hA.orb, hL.len, hL.slen, hL.sq, h3]; omega)) ?_
    cbv
    refine hcode _ _ _ (CodeEv.drawA eOk fOk (by kernel_rfl) (Xof 1 [1]) (by kernel_rfl) (by kernel_rfl) (by kernel_rfl) ?_)
    intro add1 sub1 mul1 quo1 rem1 band1 bor1 bxor1 bclr1 shl1 shr1 ieq1 ilt1 ile1 seq1 slt1 beq1 bnot1 orb1 bcond1 iwrap1 iof1 ssz1 hA1 cat1 sq1 sl1 imin1 imax1 smin1 smax1 len1 slen1 u81 hL1 op1 hop1 call1 hcall1 code1 hcode1 q1 hq1
    cbv
    refine hcall1 _ _ _ _ _ (CallEv.same hnx rfl ?_)
    rintro _ _ ⟨nk, hnk, rfl, rfl⟩
    cbv
    refine hq1 _ ?_
    cbv
    exact hret _ (RetEv.ret eOk rfl (by rw [g1, g2, hnk]; rfl))
theorem rSpan_spec (k : Int) (ky vl : List UInt8) (hk : ky.length < 140737488355328) : FnL Try.prog 57 [.p (.agg [.int .i64 k, .str ky, .str vl])] [] fun v own => ∃ m, m = spn ⟨k, ky, vl⟩ ∧ v = .p (.agg [.str m.lo, .str m.hi]) ∧ own = [] := by
  obtain ⟨⟨lo, hi⟩, hm⟩ : ∃ m, m = spn ⟨k, ky, vl⟩ := ⟨_, rfl⟩
  rw [← hm]
  unfold spn at hm
  simp only at hm
  obtain ⟨n, hn⟩ : ∃ n, n = ky.length := ⟨_, rfl⟩
  have hn1 : n + 1 ≤ 9223372036854775807 := by omega
  refine FnL.flat (R := fun v own => v = .p (.agg [.str lo, .str hi])) ?_ (by rintro _ _ rfl; exact ⟨_, _, rfl, .refl _, ⟨lo, hi⟩, rfl, rfl, rfl⟩)
  refine fn_of_vc eOk fOk fo57 Try.func57 rfl rfl rfl fun B hB => ?_
  by_cases h3 : k = 3
  · rw [if_pos h3] at hm
    obtain ⟨g1, g2⟩ := Spn.mk.inj hm
    intro add sub mul quo rem band bor bxor bclr shl shr ieq ilt ile seq slt beq bnot orb bcond iwrap iof ssz hA cat sq sl imin imax smin smax len slen u8 hL op hop call hcall code hcode ret hret
    cbv
    refine vcIf.yes (by first | (simp [hA.not, hA.eq, hA.lt, hA.le, hA.cond, hA.beq, hA.orb, hL.len, hL.slen, hL.sq, h3]; done) | (simp only [h3]; simp [hA.not, hA.eq, hA.lt, hA.le, hA.cond, hA.beq, hA.orb, hL.len, hL.slen, hL.sq, h3]; done) | (simp [hA.not, hA.eq, hA.lt, hA.le, hA.cond, hA.beq, hA.orb, hL.len, hL.slen, hL.sq, h3]; omega) | (simp only [h3]; simp [hA.not, hA.eq, hA.lt, hA.le, hA.cond, hA.beq, hA.orb, hL.len, hL.slen, hL.sq, h3]; omega)) ?_
    cbv
    exact hret _ (RetEv.ret eOk rfl (by rw [g1, g2]; rfl))
  · rw [if_neg h3] at hm
    obtain ⟨g1, g2⟩ := Spn.mk.inj hm
    intro add sub mul quo rem band bor bxor bclr shl shr ieq ilt ile seq slt beq bnot orb bcond iwrap iof ssz hA cat sq sl imin imax smin smax len slen u8 hL op hop call hcall code hcode ret hret
    have hcat : cat ky [0] = ky ++ [0] := hL.cat _ _
    cbv
    refine vcIf.no (by first | (simp [hA.not, hA.eq, hA.lt, hA.le, hA.cond, hA.beq, hA.orb, hL.len, hL.slen, hL.sq, h3]; done) | (simp only [h3]; simp [hA.not, hA.eq, hA.lt, hA.le, hA.cond, hA.beq, hA.orb, hL.len, hL.slen, hL.sq, h3]; done) | (simp [hA.not, hA.eq, hA.lt, hA.le, hA.cond, hA.beq, hA.orb, hL.len, hL.slen, hL.sq, h3]; omega) | (simp only [h3]; simp [hA.not, hA.eq, hA.lt, hA.le, hA.cond, hA.beq, hA.orb, hL.len, hL.slen, hL.sq, h3]; omega)) ?_
    cbv
    refine ⟨(), by rw [← hn]; exact hn1, ?_⟩
    cbv
    exact hret _ (RetEv.ret eOk rfl (by rw [g1, g2, ← hcat]; rfl))

def cut1 (s : Spn) (c : Chg) : List Chg :=
  if c.kind = 3 then (if Op.bytesLess (mt s (spn c)).lo (mt s (spn c)).hi then [⟨3, (mt s (spn c)).lo, (mt s (spn c)).hi⟩] else []) else if hs s c.key then [c] else []
def cutL (s : Spn) (l : List Chg) : List Chg := l.flatMap (cut1 s)
theorem cutL_next (s : Spn) {l : List Chg} {i : Nat} {c : Chg} (h : l[i]? = some c) : cutL s (l.take (i + 1)) = cutL s (l.take i) ++ cut1 s c := by
  rw [List.take_add_one, h, cutL, List.flatMap_append]; simp [cutL]
theorem cut1_len (s : Spn) (c : Chg) : (cut1 s c).length ≤ 1 := by
  unfold cut1; split
  · split <;> simp
  · split <;> simp
theorem cutL_len (s : Spn) : ∀ l, (cutL s l).length ≤ l.length
  | [] => Nat.le_refl _
  | c :: l => by
    have := cutL_len s l
    have h1 := cut1_len s c
    simp only [cutL, List.flatMap_cons, List.length_append, List.length_cons] at this ⊢
    omega

end Go.Proofs.Ytdeolllpbflemaa
