/- Numbers laid and split: the walks of the laws CodeLists and CodeSplits. Conditions: on sizes. -/
import Derived.Test.YtdbagbklhchbkaaLCode8
set_option maxRecDepth 100000
set_option maxHeartbeats 4000000
set_option linter.unusedSimpArgs false
set_option linter.unusedVariables false
namespace Go.Proofs.Ytdbagbklhchbkaa
open Go Go.Lx
open Go.Sx (vcIf)

theorem rdN_zero (l : List UInt8) : rdN l 0 = ((dec 0 0 l).1, l.drop (dec 0 0 l).2.1, (dec 0 0 l).2.2) := by unfold rdN; rw [if_neg (by simp)]
theorem rdNs_lay : ∀ (l : List Int) (r : List UInt8), (∀ z ∈ l, 0 ≤ z ∧ z ≤ 9223372036854775807) → rdNs l.length ((l.flatMap fun z => enc z.toNat) ++ r) 0 = (l, r, 0)
  | [], r, _ => rfl
  | z :: l, r, h => by
    obtain ⟨y, rfl⟩ : ∃ y : Nat, z = (y : Int) := ⟨z.toNat, by have := h z (by simp); omega⟩
    have hy := h (y : Int) (by simp)
    rw [List.length_cons, rdNs, if_neg (by simp), rdN_zero, List.flatMap_cons, List.append_assoc, Int.toNat_natCast, dec_enc0 y _ (by omega)]
    simp only [List.drop_left]
    rw [rdNs_lay l r fun z hz => h z (by simp [hz])]
theorem lay_ok {l : List Int} {bs : List UInt8} (h : (bs, 0) = lay l) : l.length ≤ 4096 ∧ (∀ z ∈ l, 0 ≤ z) ∧ bs = l.flatMap fun z => enc z.toNat := by
  unfold lay at h
  split at h
  · simp at h
  split at h
  · simp at h
  · rename_i h1 h2
    simp only [Prod.mk.injEq, and_true] at h
    refine ⟨by omega, fun z hz => ?_, h⟩
    have := fun c => h2 (List.any_eq_true.2 ⟨z, hz, c⟩)
    simpa using this
theorem spl_lay {l : List Int} {bs : List UInt8} (hl : ∀ z ∈ l, -9223372036854775808 ≤ z ∧ z ≤ 9223372036854775807) (h : (bs, 0) = lay l) : spl bs l.length = (l, 0) := by
  obtain ⟨h1, h2, h3⟩ := lay_ok h
  have := rdNs_lay l [] fun z hz => ⟨h2 z hz, (hl z hz).2⟩
  rw [List.append_nil, ← h3] at this
  unfold spl
  rw [if_neg (by omega), Int.toNat_natCast, this]
  simp
theorem rdNs_back : ∀ (k : Nat) (l : List UInt8) (ns : List Int) (l' : List UInt8), rdNs k l 0 = (ns, l', 0) → ns.length = k ∧ (∀ z ∈ ns, 0 ≤ z ∧ z ≤ 9223372036854775807) ∧ l = (ns.flatMap fun z => enc z.toNat) ++ l'
  | 0, l, ns, l', h => by
    simp only [rdNs, Prod.mk.injEq, and_true] at h
    obtain ⟨rfl, rfl⟩ := h; simp
  | k + 1, l, ns, l', h => by
    rw [rdNs, if_neg (by simp), rdN_zero] at h
    simp only [Prod.mk.injEq] at h
    obtain ⟨h1, h2⟩ := h
    by_cases he : (dec 0 0 l).2.2 = 0
    · rw [he] at h1 h2
      obtain ⟨g1, g2, g3⟩ := rdNs_back k (l.drop (dec 0 0 l).2.1) _ l' (Prod.ext rfl h2)
      have hlt := dec_lt l 0 0 (by omega) (by decide)
      have henc := enc_dec0 l he
      rw [← h1]
      refine ⟨by simp [g1], fun z hz => ?_, ?_⟩
      · rcases List.mem_cons.1 hz with rfl | c
        · omega
        · exact g2 z c
      · rw [List.flatMap_cons, Int.toNat_natCast, henc, List.append_assoc, ← g3, List.take_append_drop]
    · rw [rdNs_err _ _ he] at h2
      simp only [Prod.mk.injEq] at h2
      exact absurd h2.2 he
theorem lay_spl {l : List UInt8} {c : Int} {ns : List Int} (h : (ns, 0) = spl l c) : lay ns = (l, 0) ∧ (ns.length : Int) = c ∧ (∀ z ∈ ns, 0 ≤ z ∧ z ≤ 9223372036854775807) := by
  unfold spl at h
  split at h
  · simp at h
  rename_i h0
  obtain ⟨⟨ms, l', e⟩, hr⟩ : ∃ r, r = rdNs c.toNat l 0 := ⟨_, rfl⟩
  rw [← hr] at h
  simp only at h
  split at h
  · rename_i he; simp only [Prod.mk.injEq] at h; exact absurd h.2.symm he
  split at h
  · simp at h
  rename_i he hl
  simp only [ne_eq, Decidable.not_not] at he hl
  subst he hl
  simp only [Prod.mk.injEq, and_true] at h
  subst h
  obtain ⟨g1, g2, g3⟩ := rdNs_back _ _ _ _ hr.symm
  refine ⟨?_, by omega, g2⟩
  unfold lay
  rw [if_neg (by omega), if_neg]
  · rw [g3, List.append_nil]
  · intro c
    obtain ⟨z, hz, hc⟩ := List.any_eq_true.1 c
    have := g2 z hz
    simp at hc; omega

theorem lay_splN {l : List UInt8} {k : Nat} {ns : List Int} (h : (ns, 0) = spl l (k : Int)) : lay ns = (l, 0) ∧ ns.length = k ∧ (∀ z ∈ ns, 0 ≤ z ∧ z ≤ 9223372036854775807) := by
  obtain ⟨h1, h2, h3⟩ := lay_spl h
  exact ⟨h1, by omega, h3⟩

theorem codeLists (l : List Int) (hl : ∀ z ∈ l, -9223372036854775808 ≤ z ∧ z ≤ 9223372036854775807) (hll : l.length < 9223372036854775807) (b : List UInt8) (c : Int) (hc : -9223372036854775808 ≤ c) (hc2 : c ≤ 9223372036854775807) :
    FnL Try.prog 12 [.p (.sl (iP l)), .p (.sl (bP b)), .p (.int .i64 c)] [] fun z own => z = .p (.bool true) := by
  have hn := layR.flat (nums_spec l hl hll)
  have hr := layR.flat (rnums_spec l hl hll)
  have hs := splR.flat (split_spec b c hc hc2)
  have hrs := splR.flat (rsplit_spec b c hc hc2)
  obtain ⟨xs, hxs⟩ : ∃ xs, xs = iP l := ⟨_, rfl⟩
  obtain ⟨ys, hys⟩ : ∃ ys, ys = bP b := ⟨_, rfl⟩
  rw [← hxs] at hn hr ⊢
  rw [← hys] at hs hrs ⊢
  refine fn_of_vc eOk fOk fo12 Try.func12 rfl rfl rfl fun B hB => ?_
  intro add sub mul quo rem band bor bxor bclr shl shr ieq ilt ile seq slt beq bnot orb bcond iwrap iof ssz hA cat sq sl imin imax smin smax len slen u8 hL op hop call hcall code hcode ret hret
  cbv
  refine hcall _ _ _ _ _ (CallEv.same hn rfl ?_)
  rintro _ _ ⟨bs, zs, e, h1, h2, rfl, rfl⟩
  cbv
  refine hcall _ _ _ _ _ (CallEv.same hr rfl ?_)
  rintro _ _ ⟨bs', zs', e', h1', h2', rfl, rfl⟩
  obtain ⟨rfl, rfl⟩ : bs' = bs ∧ e' = e := by have := h1'.trans h1.symm; simpa using this
  obtain rfl : zs' = zs := h2'.trans h2.symm
  cbv
  refine hcall _ _ _ _ _ (CallEv.same hs rfl ?_)
  rintro _ _ ⟨ns, ms, f, h3, h4, rfl, rfl⟩
  cbv
  refine hcall _ _ _ _ _ (CallEv.same hrs rfl ?_)
  rintro _ _ ⟨ns', ms', f', h3', h4', rfl, rfl⟩
  obtain ⟨rfl, rfl⟩ : ns' = ns ∧ f' = f := by have := h3'.trans h3.symm; simpa using this
  obtain rfl : ms' = ms := h4'.trans h4.symm
  have hln : ns'.length < 9223372036854775807 := by
    have := h3
    unfold spl at this
    split at this
    · simp at this; rw [this.1]; decide
    · split at this
      rename_i hh
      split at this
      · simp at this; rw [this.1]; decide
      split at this
      · simp at this; rw [this.1]; decide
      · rename_i he' _
        simp only [ne_eq, Decidable.not_not] at he'
        subst he'
        have hb := (rdNs_back _ _ _ _ hh).1
        simp at this; rw [this.1]; omega
  have hints := ints_spec ns' ns' hln
  rw [← h4] at hints
  cbv
  refine hcall _ _ _ _ _ (CallEv.same awake3_spec rfl ?_)
  rintro _ _ ⟨rfl, rfl⟩
  cbv
  refine vcIf.yes (by rw [hA.cond, hA.eq]; simp) ?_
  cbv
  refine ⟨_, h2, ?_⟩
  cbv
  refine ⟨_, h2, ?_⟩
  cbv
  refine vcIf.yes (by rw [hA.cond, hL.sq]; simp) ?_
  cbv
  refine vcIf.yes (by rw [hA.cond, hA.eq]; simp) ?_
  cbv
  refine hcall _ _ _ _ _ (CallEv.same hints rfl ?_)
  rintro _ _ ⟨rfl, rfl⟩
  cbv
  refine hret _ (RetEv.ret eOk rfl ?_)
  show V.p (.bool (bcond true true false)) = _
  rw [hA.cond]; simp

theorem codeSplits (l : List Int) (hl : ∀ z ∈ l, -9223372036854775808 ≤ z ∧ z ≤ 9223372036854775807) (hll : l.length < 9223372036854775807) (b : List UInt8) (k : Nat) (hk : k ≤ 255) :
    FnL Try.prog 13 [.p (.sl (iP l)), .p (.sl (bP b)), .p (.int .u8 (k : Int))] [] fun z own => z = .p (.bool true) := by
  have hn := layR.flat (nums_spec l hl hll)
  have hs := splR.flat (split_spec b (k : Int) (by omega) (by omega))
  obtain ⟨xs, hxs⟩ : ∃ xs, xs = iP l := ⟨_, rfl⟩
  obtain ⟨ys, hys⟩ : ∃ ys, ys = bP b := ⟨_, rfl⟩
  have hxl : (xs.length : Int) = (l.length : Int) := by rw [hxs, iP_length]
  have hints := ints_spec l l hll
  rw [← hxs] at hn hints ⊢
  rw [← hys] at hs ⊢
  refine fn_of_vc eOk fOk fo13 Try.func13 rfl rfl rfl fun B hB => ?_
  intro add sub mul quo rem band bor bxor bclr shl shr ieq ilt ile seq slt beq bnot orb bcond iwrap iof ssz hA cat sq sl imin imax smin smax len slen u8 hL op hop call hcall code hcode ret hret
  have hw1 : iwrap .i64 (k : Int) = (k : Int) := by rw [hA.wrap, IntWalk.i64_in _ (by omega)]
  have hlen : len xs = (l.length : Int) := by rw [hL.len, hxl]
  have hs2 : FnL Try.prog 37 [.p (.sl ys), .p (.int .i64 (iwrap .i64 (k : Int)))] [] (splW (spl b k)) := by rw [hw1]; exact hs
  have hsp0 : ∀ bs zs, (bs, 0) = lay l → zs = bP bs → FnL Try.prog 37 [.p (.sl zs), .p (.int .i64 (len xs))] [] (splW (l, 0)) := fun bs zs h1 h2 => by
    have := splR.flat (split_spec bs (l.length : Int) (by omega) (by omega))
    rw [spl_lay hl h1, ← h2] at this
    rw [hlen]; exact this
  cbv
  refine hcall _ _ _ _ _ (CallEv.same hn rfl ?_)
  rintro _ _ ⟨bs, zs, e, h1, h2, rfl, rfl⟩
  cbv
  by_cases he : e = 0
  subst he
  have hsp := hsp0 bs zs h1 h2
  refine vcIf.yes (by rw [hA.eq]; rfl) ?_
  cbv
  refine hcall _ _ _ _ _ (CallEv.same hsp rfl ?_)
  rintro _ _ ⟨ns, ms, f, h3, h4, rfl, rfl⟩
  obtain ⟨rfl, rfl⟩ : ns = l ∧ f = 0 := by simpa using h3
  obtain rfl : ms = xs := h4.trans hxs.symm
  cbv
  refine vcIf.no (by rw [hA.not, hA.eq]; rfl) ?_
  cbv
  refine hcall _ _ _ _ _ (CallEv.same hints rfl ?_)
  rintro _ _ ⟨rfl, rfl⟩
  cbv
  refine vcIf.no (by rw [hA.cond, hA.not]; simp) ?_
  cbv
  rotate_left 1
  refine vcIf.no (by rw [hA.eq]; simp; omega) ?_
  cbv
  all_goals
    refine hcall _ _ _ _ _ (CallEv.same hs2 rfl ?_)
    rintro _ _ ⟨ns, ms, f, h5, h6, rfl, rfl⟩
    cbv
    by_cases hf : f = 0
    · subst hf
      obtain ⟨g1, g2, g3⟩ := lay_splN h5
      have hn2 := layR.flat (nums_spec ns (fun z hz => by have := g3 z hz; omega) (by omega))
      rw [g1, ← h6] at hn2
      have hml : ms.length = k := by rw [h6, iP_length, g2]
      refine vcIf.no (by rw [hA.not, hA.eq]; rfl) ?_
      cbv
      refine hcall _ _ _ _ _ (CallEv.same hn2 rfl ?_)
      rintro _ _ ⟨bs2, zs2, e2, h7, h8, rfl, rfl⟩
      obtain ⟨rfl, rfl⟩ : bs2 = b ∧ e2 = 0 := by simpa using h7
      cbv
      refine hcall _ _ _ _ _ (CallEv.same awake3_spec rfl ?_)
      rintro _ _ ⟨rfl, rfl⟩
      cbv
      refine vcIf.yes (by rw [hA.cond, hA.eq]; rfl) ?_
      cbv
      refine ⟨_, h8, ?_⟩
      cbv
      refine ⟨_, hys, ?_⟩
      cbv
      refine vcIf.yes (by rw [hA.cond, hL.sq]; simp) ?_
      cbv
      refine hret _ (RetEv.ret eOk rfl ?_)
      show V.p (.bool (bcond true (ieq (len ms) (iwrap .i64 (k : Int))) false)) = _
      rw [hA.cond, hA.eq, hw1, hL.len]; simp [hml]
    · refine vcIf.yes (by rw [hA.not, hA.eq]; simp; omega) ?_
      cbv
      refine hcall _ _ _ _ _ (CallEv.same awake3_spec rfl ?_)
      rintro _ _ ⟨rfl, rfl⟩
      cbv
      exact hret _ (RetEv.ret eOk rfl rfl)
end Go.Proofs.Ytdbagbklhchbkaa
