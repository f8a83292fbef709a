/- Do changes name a key of a span? Conditions: on sizes. -/
import Derived.Test.YtdoikpagilmplaaLPc3
import Derived.Test.YtdoikpagilmplaaLSq2
set_option maxRecDepth 100000
set_option maxHeartbeats 16000000
set_option linter.unusedSimpArgs false
set_option linter.unusedVariables false
namespace Go.Proofs.Ytdoikpagilmplaa
open Go Go.Lx
open Go.Sx (vcIf)

/-- A change names a key of a span. -/
def tch (lo hi : List UInt8) (c : Chg) : Bool := bl (mt ⟨lo, hi⟩ (spn c)).lo (mt ⟨lo, hi⟩ (spn c)).hi
theorem touch1_spec (lo hi : List UInt8) (c : Chg) (hc : c.fit) :
    FnL Try.prog 59 [.p (.agg [.int .i64 c.kind, .str c.key, .str c.val]), .imm 2 (.agg [.str lo, .str hi]) 0] [] fun v own => ∃ x, x = tch lo hi c ∧ v = .p (.bool x) ∧ own = [] := by
  refine FnL.flat (R := fun v own => ∃ x, x = tch lo hi c ∧ v = .p (.bool x)) ?_ (by rintro _ _ ⟨x, h, rfl⟩; exact ⟨_, _, rfl, .refl _, x, h, rfl, rfl⟩)
  have h1 := chSpan_spec c.kind c.key c.val hc.1
  have h2 := fun (m : Spn) => meet_spec lo hi m.lo m.hi
  have h3 := fun (m : Spn) => empty_spec m.lo m.hi
  obtain ⟨k, ky, vl⟩ := c
  simp only at h1
  obtain ⟨R, hR⟩ : ∃ R, R = tch lo hi ⟨k, ky, vl⟩ := ⟨_, rfl⟩
  obtain ⟨sp, hsp⟩ : ∃ s, s = spn ⟨k, ky, vl⟩ := ⟨_, rfl⟩
  unfold tch at hR
  rw [← hsp] at h1 hR
  rw [show tch lo hi ⟨k, ky, vl⟩ = R by rw [hR]; unfold tch; rw [← hsp]]
  have h2 := h2 sp
  obtain ⟨m, hm⟩ : ∃ m, m = mt ⟨lo, hi⟩ sp := ⟨_, rfl⟩
  rw [show (⟨sp.lo, sp.hi⟩ : Spn) = sp from rfl, ← hm] at h2
  rw [← hm] at hR
  have h3 := h3 m
  rw [show Op.bytesLess m.lo m.hi = R from hR.symm] at h3
  obtain ⟨sl, sh⟩ := sp
  obtain ⟨ml, mh⟩ := m
  simp only at h1 h2 h3
  clear hsp hm hR
  refine fn_of_vc eOk fOk fo59 Try.func59 rfl rfl rfl fun B hB => ?_
  intro add sub mul quo rem band bor bxor bclr shl shr ieq ilt ile seq slt beq bnot orb bcond iwrap iof ssz hA cat sq sl imin imax smin smax len slen u8 hL op hop call hcall code hcode ret hret
  cbv
  refine hcode _ _ _ (CodeEv.drawT eOk fOk (by kernel_rfl) noX (.rd 0 (.so 1 (.acts (.cons 2 (.acts (.cons 3 (.acts (.cons 4 (.so 5 (.so 6 (.done))) (.nil))) (.nil))) (.nil))))) (by kernel_rfl) (by kernel_rfl) ?_)
  intro add2 sub2 mul2 quo2 rem2 band2 bor2 bxor2 bclr2 shl2 shr2 ieq2 ilt2 ile2 seq2 slt2 beq2 bnot2 orb2 bcond2 iwrap2 iof2 ssz2 hA2 cat2 sq2 sl2 imin2 imax2 smin2 smax2 len2 slen2 u82 hL2 op2 hop2 call2 hcall2 code2 hcode2 q2 hq2
  cbv
  refine hcall2 _ _ _ _ _ (CallEv.same h1 rfl ?_)
  rintro _ _ ⟨_, rfl, rfl, rfl⟩
  cbv
  refine hcall2 _ _ _ _ _ (CallEv.same h2 rfl ?_)
  rintro _ _ ⟨_, rfl, rfl, rfl⟩
  cbv
  refine hcall2 _ _ _ _ _ (CallEv.same h3 rfl ?_)
  rintro _ _ ⟨_, rfl, rfl, rfl⟩
  cbv
  refine hq2 _ ?_
  cbv
  refine hret _ (RetEv.ret eOk rfl ⟨R, rfl, ?_⟩)
  show V.p (.bool (bnot2 (!R))) = _
  rw [hA2.not]; simp

theorem cP_at {l : List Chg} {i : Nat} {z : PV} (h : (cP l)[i]? = some z) : ∃ c : Chg, l[i]? = some c ∧ z = .agg [.int .i64 c.kind, .str c.key, .str c.val] := by
  unfold cP at h; rw [List.getElem?_map] at h
  cases hp : l[i]? with
  | none => rw [hp] at h; cases h
  | some a => rw [hp] at h; cases h; exact ⟨a, rfl, rfl⟩
def touch (lo hi : List UInt8) (l : List Chg) : Prop := ∃ (j : Nat) (c : Chg), l[j]? = some c ∧ tch lo hi c = true
theorem touches_spec (lo hi : List UInt8) (l : List Chg) (hf : ∀ c ∈ l, c.fit) (hn : l.length < 281474976710656) (zs : List PV) (hzs : zs = cP l) :
    FnL Try.prog 41 [.p (.agg [.str lo, .str hi]), .p (.sl zs)] [] fun v own => ∃ R : Bool, (R = true ↔ touch lo hi l) ∧ v = .p (.bool R) ∧ own = [] := by
  refine FnL.flat (R := fun v own => ∃ R : Bool, (R = true ↔ touch lo hi l) ∧ v = .p (.bool R)) ?_ (by rintro _ _ ⟨x, h, rfl⟩; exact ⟨_, _, rfl, .refl _, x, h, rfl, rfl⟩)
  obtain ⟨R, hR⟩ := bool_of (touch lo hi l)
  have hhas := chSHas zs l.length (by rw [hzs, cP_length]) (by omega) (fun i z h => by rw [hzs] at h; obtain ⟨c, _, rfl⟩ := cP_at h; exact ⟨rfl, rfl⟩) 59 (.str lo) (.str hi) (fun i => match l[i]? with | some c => tch lo hi c | none => false) (fun i z h => by
    rw [hzs] at h; obtain ⟨c, hc, rfl⟩ := cP_at h
    rw [hc]; exact touch1_spec lo hi c (hf c (List.mem_of_getElem? hc))) R (by
      rw [hR]
      constructor
      · rintro ⟨j, c, h1, h2⟩
        exact ⟨j, (List.getElem?_eq_some_iff.1 h1).1, by rw [h1]; exact h2⟩
      · rintro ⟨j, h1, h2⟩
        obtain ⟨c, hc⟩ := get_of_lt h1
        rw [hc] at h2
        exact ⟨j, c, hc, h2⟩)
  refine fn_of_vc eOk fOk fo41 Try.func41 rfl rfl rfl fun B hB => ?_
  intro add sub mul quo rem band bor bxor bclr shl shr ieq ilt ile seq slt beq bnot orb bcond iwrap iof ssz hA cat sq sl imin imax smin smax len slen u8 hL op hop call hcall code hcode ret hret
  cbv
  have hT : TrL [.st 38 [.p (.str lo), .p (.str hi)]] [] [0] [.own 0 0] [.imm 2 (.agg [.str lo, .str hi]) 0] := .cons (Tr.box (qs := [.str lo, .str hi]) (by decide) rfl (by intro u hu; simp at hu; rcases hu with rfl | rfl <;> rfl)) .nil
  refine hcall _ _ _ _ _ (CallEv.shown [] [0] hhas rfl (.cons (.p _) (.cons (.fn _ _ _ hT.1 hT.2) .nil)) trivial ?_)
  rintro _ _ ⟨rfl, rfl⟩
  refine ⟨.p _ (.bool _), (by intro r hr; cases hr), ?_⟩
  clear hT
  cbv
  exact hret _ (RetEv.ret eOk rfl ⟨R, hR, rfl⟩)
theorem clear1_spec (lo hi : List UInt8) (aft : Int) (qs : List PV) (bp bv bk : PV) (l : List Chg) (hf : ∀ c ∈ l, c.fit) (hn : l.length < 281474976710656) (zs : List PV) (hzs : zs = cP l) (R : Bool) (hR : R = true ↔ touch lo hi l) :
    FnL Try.prog 40 [.p (.agg [.str lo, .str hi, .int .i64 aft, .sl qs]), .imm 4 (.agg [bp, bv, bk, .sl zs]) 0] [] fun v own => ∃ b, b = R ∧ v = .p (.bool b) ∧ own = [] := by
  refine FnL.flat (R := fun v own => ∃ b, b = R ∧ v = .p (.bool b)) ?_ (by rintro _ _ ⟨x, h, rfl⟩; exact ⟨_, _, rfl, .refl _, x, h, rfl, rfl⟩)
  have h1 := touches_spec lo hi l hf hn zs hzs
  refine fn_of_vc eOk fOk fo40 Try.func40 rfl rfl rfl fun B hB => ?_
  intro add sub mul quo rem band bor bxor bclr shl shr ieq ilt ile seq slt beq bnot orb bcond iwrap iof ssz hA cat sq sl imin imax smin smax len slen u8 hL op hop call hcall code hcode ret hret
  cbv
  refine hcall _ _ _ _ _ (CallEv.same h1 rfl ?_)
  rintro _ _ ⟨b, hb, rfl, rfl⟩
  cbv
  exact hret _ (RetEv.ret eOk rfl ⟨b, by rw [Bool.eq_iff_iff, hb, hR], rfl⟩)
end Go.Proofs.Ytdoikpagilmplaa
