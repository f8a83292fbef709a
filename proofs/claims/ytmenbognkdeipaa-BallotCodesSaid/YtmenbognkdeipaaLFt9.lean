/- The walk of the law FrameBatches. Conditions: on sizes. -/
import Derived.Test.YtmenbognkdeipaaLFt8
import Derived.Test.YtmenbognkdeipaaLFr9
set_option maxRecDepth 100000
set_option maxHeartbeats 4000000
set_option linter.unusedSimpArgs false
set_option linter.unusedVariables false
namespace Go.Proofs.Ytmenbognkdeipaa
open Go Go.Lx
open Go.Sx (vcIf)

theorem gBat_ok {l : List UInt8} {s : Bat} {e : Nat} (h : (s, e) = gBat l) : s.ch.length ≤ 4096 := by
  unfold gBat at h
  obtain ⟨⟨n1, l1, e1⟩, h1⟩ : ∃ r, r = rdN l 0 := ⟨_, rfl⟩
  rw [← h1] at h; simp only at h
  obtain ⟨⟨n2, l2, e2⟩, h2⟩ : ∃ r, r = rdN l1 e1 := ⟨_, rfl⟩
  rw [← h2] at h; simp only at h
  obtain ⟨⟨n3, l3, e3⟩, h3⟩ : ∃ r, r = rdN l2 e2 := ⟨_, rfl⟩
  rw [← h3] at h; simp only at h
  obtain ⟨⟨n4, l4, e4⟩, h4⟩ : ∃ r, r = rdC l3 e3 4096 := ⟨_, rfl⟩
  rw [← h4] at h; simp only at h
  obtain ⟨⟨ns, l5, e5⟩, h5⟩ : ∃ r, r = rdGsT n4 l4 e4 := ⟨_, rfl⟩
  rw [← h5] at h; simp only at h
  split at h
  · rename_i hc
    have hok := (Bat.ok_iff _).1 hc.2.2
    rw [(Prod.mk.inj h).1]
    exact hok.2.2.2.1
  · rw [(Prod.mk.inj h).1]; exact Nat.zero_le _

theorem frameBatches (s : Bat) (hs : s.fit) (b : List UInt8) (hb : b.length < 9223372036854775807) : FnL Try.prog 7 [.p s.v, .p (.sl (bP b))] [] fun z own => z = .p (.bool true) := by
  obtain ⟨zs, hzs⟩ : ∃ zs, zs = cP s.ch := ⟨_, rfl⟩
  obtain ⟨ys, hys⟩ : ∃ ys, ys = bP b := ⟨_, rfl⟩
  have henc := frPutBatch_spec s hs zs hzs
  have hrenc := rPutBatch_spec s hs zs hzs
  have hdec := frGetBatch_spec b hb ys hys
  have hrdec := rGetBatch_spec b hb ys hys
  unfold Bat.v
  rw [← hzs, ← hys]
  obtain ⟨R, hR⟩ : ∃ R, R = bEnc s := ⟨_, rfl⟩
  rw [← hR] at henc hrenc
  have hgok : ∀ (s : Bat) (e : Nat), (s, e) = gBat b → s.ch.length ≤ 4096 := fun s e h => gBat_ok h
  obtain ⟨D, hD⟩ : ∃ D, D = gBat b := ⟨_, rfl⟩
  rw [← hD] at hdec hrdec hgok
  obtain ⟨g, e, r, ch⟩ := s
  simp only at henc hrenc hzs ⊢
  refine fn_of_vc eOk fOk fo7 Try.func7 rfl rfl rfl fun B hB => ?_
  intro add sub mul quo rem band bor bxor bclr shl shr ieq ilt ile seq slt beq bnot orb bcond iwrap iof ssz hA cat sq sl imin imax smin smax len slen u8 hL op hop call hcall code hcode ret hret
  cbv
  refine hcall _ _ _ _ _ (CallEv.same henc rfl ?_)
  rintro _ _ ⟨ws, l, e1, h1, hz, rfl, rfl⟩
  cbv
  refine hcall _ _ _ _ _ (CallEv.same hrenc rfl ?_)
  rintro _ _ ⟨ws', l', e1', h1', hz', rfl, rfl⟩
  obtain ⟨rfl, rfl⟩ : l' = l ∧ e1' = e1 := by have := h1'.trans h1.symm; simpa using this
  cbv
  refine hcall _ _ _ _ _ (CallEv.same hdec rfl ?_)
  rintro _ _ ⟨m1, e2, x1, h2, hx1, rfl, rfl⟩
  have hx1' := hx1
  obtain ⟨cs, hcs, rfl⟩ := hx1
  cbv
  refine hcall _ _ _ _ _ (CallEv.same hrdec rfl ?_)
  rintro _ _ ⟨m2, e3, x2, h2', ⟨cs2, hcs2, rfl⟩, rfl, rfl⟩
  obtain ⟨rfl, rfl⟩ : m2 = m1 ∧ e3 = e2 := by have := h2'.trans h2.symm; simpa using this
  obtain rfl : cs2 = cs := hcs2.trans hcs.symm
  have hsame := sameBatch_spec m2 (Nat.lt_of_le_of_lt (hgok _ _ h2) (by decide)) _ hx1'
  cbv
  refine hcall _ _ _ _ _ (CallEv.same awake5_spec rfl ?_)
  rintro _ _ ⟨rfl, rfl⟩
  cbv
  repeat (first | (refine vcIf.yes ?_ ?_; (focus (simp [hA.not, hA.eq, hA.lt, hA.le, hA.cond, hA.beq, hA.orb, hL.len, hL.slen, hL.sq]; done)); cbv) | (refine vcIf.no ?_ ?_; (focus (simp [hA.not, hA.eq, hA.lt, hA.le, hA.cond, hA.beq, hA.orb, hL.len, hL.slen, hL.sq]; done)); cbv) | fail)
  refine ⟨_, hz, ?_⟩
  cbv
  refine ⟨_, hz', ?_⟩
  cbv
  repeat (first | (refine vcIf.yes ?_ ?_; (focus (simp [hA.not, hA.eq, hA.lt, hA.le, hA.cond, hA.beq, hA.orb, hL.len, hL.slen, hL.sq]; done)); cbv) | (refine vcIf.no ?_ ?_; (focus (simp [hA.not, hA.eq, hA.lt, hA.le, hA.cond, hA.beq, hA.orb, hL.len, hL.slen, hL.sq]; done)); cbv) | fail)
  refine hcall _ _ _ _ _ (CallEv.same hsame rfl ?_)
  rintro _ _ rfl
  cbv
  exact hret _ (RetEv.ret eOk rfl (by simp [hA.not, hA.eq, hA.lt, hA.le, hA.cond, hA.beq, hA.orb, hL.len, hL.slen, hL.sq, oneOf]))
theorem has_Chg {K : Nat} (hK : K < 140737488355328) {z : PV} (h : Sh.Has K (.st [.int .i64, .str, .str]) z) : ∃ s : Chg, z = s.v ∧ s.fit := by
  obtain ⟨cs, rfl, h0⟩ := has_st h
  obtain ⟨y0, c0, k0, e0, h1⟩ := has_cons h0
  obtain ⟨y1, c1, k1, e1, h2⟩ := has_cons h1
  obtain ⟨y2, c2, k2, e2, h3⟩ := has_cons h2
  obtain rfl := has_nil h3
  subst e2 e1 e0
  obtain ⟨a0, rfl, p0, q0⟩ := has_int k0
  obtain ⟨a1, rfl, p1⟩ := has_str k1
  obtain ⟨a2, rfl, p2⟩ := has_str k2
  exact ⟨⟨a0, a1, a2⟩, rfl, Nat.lt_of_le_of_lt p1 hK, Nat.lt_of_le_of_lt p2 hK, p0, q0⟩
theorem has_Bat {K : Nat} (hK : K < 140737488355328) {z : PV} (h : Sh.Has K (.st [.int .i64, .int .i64, .int .i64, .sl 40 (.st [.int .i64, .str, .str])]) z) : ∃ s : Bat, z = s.v ∧ s.fit := by
  obtain ⟨cs, rfl, h0⟩ := has_st h
  obtain ⟨y0, c0, k0, e0, h1⟩ := has_cons h0
  obtain ⟨y1, c1, k1, e1, h2⟩ := has_cons h1
  obtain ⟨y2, c2, k2, e2, h3⟩ := has_cons h2
  obtain ⟨y3, c3, k3, e3, h4⟩ := has_cons h3
  obtain rfl := has_nil h4
  subst e3 e2 e1 e0
  obtain ⟨a0, rfl, p0, q0⟩ := has_int k0
  obtain ⟨a1, rfl, p1, q1⟩ := has_int k1
  obtain ⟨a2, rfl, p2, q2⟩ := has_int k2
  obtain ⟨l, rfl, hl, hm⟩ := has_sl k3 fun z hz => has_Chg hK hz
  refine ⟨⟨a0, a1, a2, l⟩, rfl, fun z hz => ?_, hm, by simp only; omega⟩
  simp only [List.mem_cons, List.not_mem_nil, or_false] at hz
  rcases hz with rfl | rfl | rfl <;> exact ⟨by assumption, by assumption⟩
end Go.Proofs.Ytmenbognkdeipaa
