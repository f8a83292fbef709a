/- LSl1, LSa1, LHasC together. Conditions: on sizes. -/
import Derived.Test.YtnigonhkfpnodaaLSem
import Derived.Test.YtnigonhkfpnodaaLHsm
set_option maxRecDepth 100000
set_option maxHeartbeats 16000000
set_option linter.unusedSimpArgs false
set_option linter.unusedVariables false
section
namespace Go.Proofs.Ytnigonhkfpnodaa
open Go Go.Lx

theorem bl_smx (k a c : List UInt8) : bl k (smx a c) = (bl k a || bl k c) := by
  unfold smx
  by_cases h : Op.bytesLess a c = true
  · rw [if_pos h]
    by_cases h2 : bl k a = true
    · rw [h2, show bl k c = true from bl_trans h2 h]; rfl
    · rw [Bool.eq_false_iff.2 h2]; rfl
  · rw [if_neg h]
    by_cases h2 : bl k c = true
    · rw [h2, show bl k a = true from bl_lt_le h2 (Bool.eq_false_iff.2 h)]; rfl
    · rw [Bool.eq_false_iff.2 h2]; simp
theorem bl_smn (k b d : List UInt8) : bl k (smn b d) = (bl k b && bl k d) := by
  unfold smn
  by_cases h : Op.bytesLess d b = true
  · rw [if_pos h]
    by_cases h2 : bl k d = true
    · rw [h2, show bl k b = true from bl_trans h2 h]; rfl
    · rw [Bool.eq_false_iff.2 h2]; simp
  · rw [if_neg h]
    by_cases h2 : bl k b = true
    · rw [h2, show bl k d = true from bl_lt_le h2 (Bool.eq_false_iff.2 h)]; rfl
    · rw [Bool.eq_false_iff.2 h2]; rfl
theorem hs_mt (s p : Spn) (k : List UInt8) : hs (mt s p) k = (hs s k && hs p k) := by
  have key : hs ⟨smx s.lo p.lo, smn s.hi p.hi⟩ k = (hs s k && hs p k) := by
    unfold hs
    simp only [bl_smx, bl_smn]
    cases bl k s.lo <;> cases bl k p.lo <;> cases bl k s.hi <;> cases bl k p.hi <;> rfl
  unfold mt
  split
  · exact key
  · rename_i h
    rw [← key]
    unfold hs
    simp only [bl_nil]
    cases h1 : bl k (smx s.lo p.lo) with
    | true => simp
    | false =>
      cases h2 : bl k (smn s.hi p.hi) with
      | false => simp
      | true => exact absurd (bl_le_trans h1 h2) h
theorem eff_cut1 (p : Spn) (c : Chg) (k : List UInt8) (o : Option (List UInt8)) : (cut1 p c).foldl (eff k) o = if hs p k = true then eff k o c else o := by
  unfold cut1
  by_cases h3 : c.kind = 3
  · rw [if_pos h3]
    have hm := hs_mt p (spn c) k
    have he : eff k o c = if hs (spn c) k = true then none else o := by rw [eff, if_neg (by rw [h3]; decide)]
    by_cases hb : Op.bytesLess (mt p (spn c)).lo (mt p (spn c)).hi = true
    · rw [if_pos hb]
      have e2 : eff k o ⟨3, (mt p (spn c)).lo, (mt p (spn c)).hi⟩ = if hs (mt p (spn c)) k = true then none else o := by
        rw [eff, if_neg (show ¬ (3 : Int) = 1 by decide), spn, if_pos rfl]
      show eff k o ⟨3, (mt p (spn c)).lo, (mt p (spn c)).hi⟩ = _
      rw [e2, hm, he]
      cases hs p k <;> simp
    · rw [if_neg hb]
      have hf : hs (mt p (spn c)) k = false := by
        unfold hs
        cases h1 : bl k (mt p (spn c)).lo with
        | true => rfl
        | false =>
          cases h2 : bl k (mt p (spn c)).hi with
          | false => rfl
          | true => exact absurd (bl_le_trans h1 h2) hb
      rw [hf] at hm
      rw [he]
      show o = _
      cases h1 : hs p k <;> cases h2 : hs (spn c) k <;> rw [h1, h2] at hm <;> simp at hm ⊢
  · rw [if_neg h3]
    have hk := hs_spn h3 k
    have hne : k ≠ c.key → eff k o c = o := fun h => by
      rw [eff]
      by_cases h1 : c.kind = 1
      · rw [if_pos h1, if_neg h]
      · rw [if_neg h1, if_neg fun d => h (hk.1 d)]
    by_cases e : k = c.key
    · subst e
      cases hs p c.key <;> rfl
    · rw [hne e]
      cases hs p c.key with
      | true =>
        show eff k o c = _
        rw [hne e]; simp
      | false => show o = _; simp
theorem eff_cutL (p : Spn) (k : List UInt8) : ∀ (l : List Chg) (o : Option (List UInt8)), (cutL p l).foldl (eff k) o = if hs p k = true then l.foldl (eff k) o else o
  | [], o => by simp [cutL]
  | c :: l, o => by
    have ih := eff_cutL p k l
    unfold cutL at ih ⊢
    rw [List.flatMap_cons, List.foldl_append, ih, eff_cut1]
    cases hs p k <;> simp

theorem smx_len (a b : List UInt8) (n : Nat) (h1 : a.length ≤ n) (h2 : b.length ≤ n) : (smx a b).length ≤ n := by unfold smx; split <;> assumption
theorem smn_len (a b : List UInt8) (n : Nat) (h1 : a.length ≤ n) (h2 : b.length ≤ n) : (smn a b).length ≤ n := by unfold smn; split <;> assumption
theorem mt_len (s t : Spn) (n : Nat) (h1 : s.lo.length ≤ n) (h2 : s.hi.length ≤ n) (h3 : t.lo.length ≤ n) (h4 : t.hi.length ≤ n) : (mt s t).lo.length ≤ n ∧ (mt s t).hi.length ≤ n := by
  unfold mt; split
  · exact ⟨smx_len _ _ _ h1 h3, smn_len _ _ _ h2 h4⟩
  · exact ⟨Nat.zero_le _, Nat.zero_le _⟩
theorem cut1_chk {p : Spn} (h1 : p.lo.length ≤ 17) (h2 : p.hi.length ≤ 17) {c : Chg} (hc : chk c = 0) : ∀ d ∈ cut1 p c, chk d = 0 := by
  intro d hd
  unfold cut1 at hd
  split at hd
  · rename_i h3
    split at hd
    · rename_i hb
      simp at hd
      have hl : c.key.length ≤ 17 ∧ c.val.length ≤ 17 := by
        unfold chk at hc; rw [if_pos h3] at hc
        split at hc
        · cases hc
        · omega
      have hs3 : spn c = ⟨c.key, c.val⟩ := by rw [spn, if_pos h3]
      obtain ⟨m1, m2⟩ := mt_len p (spn c) 17 h1 h2 (by rw [hs3]; exact hl.1) (by rw [hs3]; exact hl.2)
      rw [hd]
      unfold chk
      simp only
      rw [if_pos trivial, if_neg (by omega), if_neg (by rw [show Op.bytesLess (mt p (spn c)).hi (mt p (spn c)).lo = false from bl_asymm hb]; decide)]
    · cases hd
  · split at hd
    · simp at hd; rw [hd]; exact hc
    · cases hd
theorem cutL_chks {p : Spn} (h1 : p.lo.length ≤ 17) (h2 : p.hi.length ≤ 17) {l : List Chg} (hl : chks l = 0) : chks (cutL p l) = 0 :=
  chks_of fun d hd => by
    obtain ⟨c, hc, hd⟩ := List.mem_flatMap.1 hd
    exact cut1_chk h1 h2 (chks_mem hl c hc) d hd


theorem ones_ok : ∀ (l : List Chg) (ps : List Pr), Srt ps → Srt (ones ps l) ∧ ∀ k, lk (ones ps l) k = l.foldl (eff k) (lk ps k)
  | [], ps, h => ⟨h, fun k => rfl⟩
  | c :: l, ps, h => by
    obtain ⟨h1, h2⟩ := one_ok c ps h
    obtain ⟨h3, h4⟩ := ones_ok l (one ps c) h1
    exact ⟨h3, fun k => by show lk (ones (one ps c) l) k = _; rw [h4 k, h2 k]; rfl⟩
theorem lk_hs (s : Spn) (k : List UInt8) : ∀ ps : List Pr, lk (ps.filter fun p => hs s p.key) k = if hs s k = true then lk ps k else none
  | [] => by simp [lk]
  | p :: r => by
    have ih := lk_hs s k r
    rw [List.filter_cons]
    by_cases h : hs s p.key = true
    · rw [if_pos h, lk, lk, ih]
      by_cases e : p.key = k
      · rw [if_pos e, if_pos e, if_pos (by rw [← e]; exact h)]
      · rw [if_neg e, if_neg e]
    · rw [if_neg h, ih, lk]
      by_cases e : p.key = k
      · rw [if_neg (by rw [← e]; exact h), if_neg (by rw [← e]; exact h)]
      · rw [if_neg e]
theorem lk_append (a b : List Pr) (k : List UInt8) : lk (a ++ b) k = (lk a k).or (lk b k) := by
  induction a with
  | nil => rfl
  | cons p r ih =>
    rw [List.cons_append, lk, lk, ih]
    split <;> rfl
/-- What a piece shows of a list of changes. -/
def pcs (all s : Spn) (l : List Chg) : List Pr := (ones [] (cutL s l)).filter fun p => hs (mt all s) p.key
theorem pcs_srt (all s : Spn) (l : List Chg) : Srt (pcs all s l) := srt_filter (ones_ok _ _ srt_nil).1 _
theorem pcs_lk (all s : Spn) (l : List Chg) (k : List UInt8) : lk (pcs all s l) k = if hs all k = true ∧ hs s k = true then l.foldl (eff k) none else none := by
  unfold pcs
  rw [lk_hs, (ones_ok _ _ srt_nil).2 k, hs_mt, eff_cutL]
  cases hs all k <;> cases hs s k <;> simp [lk]
theorem pcs_mem {all s : Spn} {l : List Chg} {p : Pr} (h : p ∈ pcs all s l) : hs s p.key = true := by
  have h2 := (List.mem_filter.1 h).2
  rw [hs_mt, Bool.and_eq_true] at h2
  exact h2.2
theorem pcs_two (z at' : List UInt8) (l : List Chg) : pcs ⟨[], z⟩ ⟨[], z⟩ l = pcs ⟨[], z⟩ ⟨[], at'⟩ l ++ pcs ⟨[], z⟩ ⟨at', z⟩ l := by
  refine srt_ext (pcs_srt _ _ _) ?_ fun k => ?_
  · refine List.pairwise_append.2 ⟨pcs_srt _ _ _, pcs_srt _ _ _, fun a ha b hb => ?_⟩
    have h1 := pcs_mem ha
    have h2 := pcs_mem hb
    unfold hs at h1 h2
    simp only [Bool.and_eq_true, Bool.not_eq_true'] at h1 h2
    exact bl_lt_le h1.2 h2.1
  · rw [lk_append, pcs_lk, pcs_lk, pcs_lk]
    unfold hs
    simp only [bl_nil]
    cases bl k at' <;> cases bl k z <;> simp
end Go.Proofs.Ytnigonhkfpnodaa
end
section
namespace Go.Proofs.Ytnigonhkfpnodaa
open Go Go.Lx
open Go.Sx (vcIf)

theorem tk_ok {sp : Spn} {l x y : Int} {ch : List Chg} (hp1 : sp.lo.length ≤ 17) (hp2 : sp.hi.length ≤ 17) (ha : 0 ≤ x) (hb : 0 ≤ y) (hn : ch.length ≤ 1000) (hk : chks ch = 0) :
    tkE sp l ⟨x, y, 0, ch⟩ = (if y ≤ l then 0 else if l < x ∨ y ≤ x then 9 else 0) ∧ cutR sp ch = cutL sp ch := by
  have h1 : (bEnc ⟨x, y, 0, ch⟩).2 = 0 := by
    have : (Bat.mk x y 0 ch).okB = true := (Bat.ok_iff _).2 ⟨ha, hb, Int.le_refl 0, by simp only; omega, hk⟩
    unfold bEnc; rw [if_pos this]
  have h2 : cutE sp ch = 0 := by unfold cutE; rw [if_pos hk, if_neg (by omega)]
  have h3 : cutR sp ch = cutL sp ch := by unfold cutR; rw [if_pos h2]
  refine ⟨?_, h3⟩
  unfold tkE
  rw [if_neg (by omega)]
  simp only
  split
  · rfl
  split
  · rfl
  rw [if_neg (by omega), adE, if_neg (by assumption), h3]
  exact cutL_chks hp1 hp2 hk
theorem fit_of {x y : Int} {ch : List Chg} (hx : 0 ≤ x ∧ x ≤ 9223372036854775807) (hy : 0 ≤ y ∧ y ≤ 9223372036854775807) (hf : ∀ c ∈ ch, c.fit) (hn : ch.length ≤ 1000) : Bat.fit ⟨x, y, 0, ch⟩ := by
  refine ⟨fun z hz => ?_, hf, by simp only; omega⟩
  simp only [List.mem_cons, List.not_mem_nil, or_false] at hz
  rcases hz with rfl | rfl | rfl <;> omega

theorem shelfAgain_spec (a b : List Chg) (hfa : ∀ c ∈ a, c.fit) (hfb : ∀ c ∈ b, c.fit) (hna : a.length * 40 ≤ 140737488351232) (hnb : b.length * 40 ≤ 140737488351232) (t : Nat) (ht : t < 256) :
    FnL Try.prog 7 [.p (.sl (cP a)), .p (.sl (cP b)), .p (.int .u8 (Int.ofNat t))] [] fun r own => r = .p (.bool true) ∧ own = [] := by
  refine FnL.flat (R := fun r own => r = .p (.bool true)) ?_ (by rintro _ _ rfl; exact ⟨_, _, rfl, .refl _, rfl, rfl⟩)
  obtain ⟨ca, hca⟩ : ∃ ca, ca = cP a := ⟨_, rfl⟩
  obtain ⟨cb, hcb⟩ : ∃ cb, cb = cP b := ⟨_, rfl⟩
  obtain ⟨na, hna'⟩ : ∃ na, na = a.length := ⟨_, rfl⟩
  obtain ⟨nb, hnb'⟩ : ∃ nb, nb = b.length := ⟨_, rfl⟩
  have hal : ca.length = na := by rw [hca, cP_length, hna']
  have hbl : cb.length = nb := by rw [hcb, cP_length, hnb']
  rw [← hca, ← hcb]
  obtain ⟨K, hK⟩ : ∃ K, K = t % 4 := ⟨_, rfl⟩
  have hK4 : K < 4 := by omega
  have hAa := rall_spec a (by omega) ca hca
  have hAb := rall_spec b (by omega) cb hcb
  have hnew := tapeNew_spec 1000 (by decide) (by decide)
  have hopn := shOpen0_spec [] [255, 255] (by decide) (by decide) (by decide) 1000 (by decide)
  refine fn_of_vc eOk fOk fo7 Try.func7 rfl rfl rfl fun B hB => ?_
  intro add sub mul quo rem band bor bxor bclr shl shr ieq ilt ile seq slt beq bnot orb bcond iwrap iof ssz hA cat sq sl imin imax smin smax len slen u8 hL op hop call hcall code hcode ret hret
  have hla : len ca = Int.ofNat na := by rw [hL.len, hal]; rfl
  have hlb : len cb = Int.ofNat nb := by rw [hL.len, hbl]; rfl
  cbv
  refine hcall _ _ _ _ _ (CallEv.same hnew rfl ?_)
  rintro _ _ (⟨h, rfl, rfl⟩ | ⟨h, rfl, rfl⟩)
  · omega
  cbv
  refine hcall _ _ _ _ _ (CallEv.lend [0, 1] hopn rfl (.cons (.own 0 0 0 rfl) (.cons (.p _) .nil)) (tpL rfl rfl rfl rfl) ?_)
  rintro _ _ ⟨n, su, ro, af, d, xs, m, dn, rs, hb, rfl, rfl⟩
  cbv
  refine hcall _ _ _ _ _ (CallEv.pure awake18_spec .nil ?_)
  rintro _ _ ⟨rfl, rfl⟩
  cbv
  repeat (first | (refine vcIf.yes ?_ ?_; (focus (simp [hA.not, hA.eq, hA.lt, hA.le, hA.cond, hA.beq, hA.orb, hL.len, hL.slen, hL.sq]; done)); cbv) | (refine vcIf.no ?_ ?_; (focus (simp [hA.not, hA.eq, hA.lt, hA.le, hA.cond, hA.beq, hA.orb, hL.len, hL.slen, hL.sq]; done)); cbv) | fail)
  refine hcall _ _ _ _ _ (CallEv.same hAa rfl ?_)
  rintro _ _ ⟨e1, he1, rfl, rfl⟩
  cbv
  by_cases h1 : e1 = 0
  rotate_left
  · repeat (first | (refine vcIf.yes ?_ ?_; (focus (simp [hA.not, hA.eq, hA.lt, hA.le, hA.cond, hA.beq, hA.orb, hL.len, hL.slen, hL.sq, h1]; done)); cbv) | (refine vcIf.no ?_ ?_; (focus (simp [hA.not, hA.eq, hA.lt, hA.le, hA.cond, hA.beq, hA.orb, hL.len, hL.slen, hL.sq, h1]; done)); cbv) | fail)
    refine hcall _ _ _ _ _ (CallEv.pure awake18_spec .nil ?_)
    rintro _ _ ⟨rfl, rfl⟩
    cbv
    repeat (first | (refine vcIf.yes ?_ ?_; (focus (simp [hA.not, hA.eq, hA.lt, hA.le, hA.cond, hA.beq, hA.orb, hL.len, hL.slen, hL.sq]; done)); cbv) | (refine vcIf.no ?_ ?_; (focus (simp [hA.not, hA.eq, hA.lt, hA.le, hA.cond, hA.beq, hA.orb, hL.len, hL.slen, hL.sq]; done)); cbv) | fail)
    exact hret _ (RetEv.ret eOk rfl (by simp [hA.not, hA.eq, hA.lt, hA.le, hA.cond, hA.beq, hA.orb, hL.len, hL.slen, hL.sq, oneOf]))
  repeat (first | (refine vcIf.yes ?_ ?_; (focus (simp [hA.not, hA.eq, hA.lt, hA.le, hA.cond, hA.beq, hA.orb, hL.len, hL.slen, hL.sq, h1]; done)); cbv) | (refine vcIf.no ?_ ?_; (focus (simp [hA.not, hA.eq, hA.lt, hA.le, hA.cond, hA.beq, hA.orb, hL.len, hL.slen, hL.sq, h1]; done)); cbv) | fail)
  refine hcall _ _ _ _ _ (CallEv.same hAb rfl ?_)
  rintro _ _ ⟨e2, he2, rfl, rfl⟩
  cbv
  by_cases h2 : e2 = 0
  rotate_left
  · repeat (first | (refine vcIf.yes ?_ ?_; (focus (simp [hA.not, hA.eq, hA.lt, hA.le, hA.cond, hA.beq, hA.orb, hL.len, hL.slen, hL.sq, h2]; done)); cbv) | (refine vcIf.no ?_ ?_; (focus (simp [hA.not, hA.eq, hA.lt, hA.le, hA.cond, hA.beq, hA.orb, hL.len, hL.slen, hL.sq, h2]; done)); cbv) | fail)
    refine hcall _ _ _ _ _ (CallEv.pure awake18_spec .nil ?_)
    rintro _ _ ⟨rfl, rfl⟩
    cbv
    repeat (first | (refine vcIf.yes ?_ ?_; (focus (simp [hA.not, hA.eq, hA.lt, hA.le, hA.cond, hA.beq, hA.orb, hL.len, hL.slen, hL.sq]; done)); cbv) | (refine vcIf.no ?_ ?_; (focus (simp [hA.not, hA.eq, hA.lt, hA.le, hA.cond, hA.beq, hA.orb, hL.len, hL.slen, hL.sq]; done)); cbv) | fail)
    exact hret _ (RetEv.ret eOk rfl (by simp [hA.not, hA.eq, hA.lt, hA.le, hA.cond, hA.beq, hA.orb, hL.len, hL.slen, hL.sq, oneOf]))
  repeat (first | (refine vcIf.yes ?_ ?_; (focus (simp [hA.not, hA.eq, hA.lt, hA.le, hA.cond, hA.beq, hA.orb, hL.len, hL.slen, hL.sq, h2]; done)); cbv) | (refine vcIf.no ?_ ?_; (focus (simp [hA.not, hA.eq, hA.lt, hA.le, hA.cond, hA.beq, hA.orb, hL.len, hL.slen, hL.sq, h2]; done)); cbv) | fail)
  by_cases h3 : 1000 < na
  · refine vcIf.yes (by first | (simp [hA.not, hA.eq, hA.lt, hA.le, hA.cond, hA.beq, hA.orb, hL.len, hL.slen, hL.sq, hla, h3]; done) | (simp only [hla, h3]; simp [hA.not, hA.eq, hA.lt, hA.le, hA.cond, hA.beq, hA.orb, hL.len, hL.slen, hL.sq, hla, h3]; done) | (simp [hA.not, hA.eq, hA.lt, hA.le, hA.cond, hA.beq, hA.orb, hL.len, hL.slen, hL.sq, hla, h3]; omega) | (simp only [hla, h3]; simp [hA.not, hA.eq, hA.lt, hA.le, hA.cond, hA.beq, hA.orb, hL.len, hL.slen, hL.sq, hla, h3]; omega)) ?_
    cbv
    repeat (first | (refine vcIf.yes ?_ ?_; (focus (simp [hA.not, hA.eq, hA.lt, hA.le, hA.cond, hA.beq, hA.orb, hL.len, hL.slen, hL.sq]; done)); cbv) | (refine vcIf.no ?_ ?_; (focus (simp [hA.not, hA.eq, hA.lt, hA.le, hA.cond, hA.beq, hA.orb, hL.len, hL.slen, hL.sq]; done)); cbv) | fail)
    refine hcall _ _ _ _ _ (CallEv.pure awake18_spec .nil ?_)
    rintro _ _ ⟨rfl, rfl⟩
    cbv
    repeat (first | (refine vcIf.yes ?_ ?_; (focus (simp [hA.not, hA.eq, hA.lt, hA.le, hA.cond, hA.beq, hA.orb, hL.len, hL.slen, hL.sq]; done)); cbv) | (refine vcIf.no ?_ ?_; (focus (simp [hA.not, hA.eq, hA.lt, hA.le, hA.cond, hA.beq, hA.orb, hL.len, hL.slen, hL.sq]; done)); cbv) | fail)
    exact hret _ (RetEv.ret eOk rfl (by simp [hA.not, hA.eq, hA.lt, hA.le, hA.cond, hA.beq, hA.orb, hL.len, hL.slen, hL.sq, oneOf]))
  refine vcIf.no (by first | (simp [hA.not, hA.eq, hA.lt, hA.le, hA.cond, hA.beq, hA.orb, hL.len, hL.slen, hL.sq, hla, h3]; done) | (simp only [hla, h3]; simp [hA.not, hA.eq, hA.lt, hA.le, hA.cond, hA.beq, hA.orb, hL.len, hL.slen, hL.sq, hla, h3]; done) | (simp [hA.not, hA.eq, hA.lt, hA.le, hA.cond, hA.beq, hA.orb, hL.len, hL.slen, hL.sq, hla, h3]; omega) | (simp only [hla, h3]; simp [hA.not, hA.eq, hA.lt, hA.le, hA.cond, hA.beq, hA.orb, hL.len, hL.slen, hL.sq, hla, h3]; omega)) ?_
  cbv
  repeat (first | (refine vcIf.yes ?_ ?_; (focus (simp [hA.not, hA.eq, hA.lt, hA.le, hA.cond, hA.beq, hA.orb, hL.len, hL.slen, hL.sq]; done)); cbv) | (refine vcIf.no ?_ ?_; (focus (simp [hA.not, hA.eq, hA.lt, hA.le, hA.cond, hA.beq, hA.orb, hL.len, hL.slen, hL.sq]; done)); cbv) | fail)
  by_cases h4 : 1000 < nb
  · refine vcIf.yes (by first | (simp [hA.not, hA.eq, hA.lt, hA.le, hA.cond, hA.beq, hA.orb, hL.len, hL.slen, hL.sq, hlb, h4]; done) | (simp only [hlb, h4]; simp [hA.not, hA.eq, hA.lt, hA.le, hA.cond, hA.beq, hA.orb, hL.len, hL.slen, hL.sq, hlb, h4]; done) | (simp [hA.not, hA.eq, hA.lt, hA.le, hA.cond, hA.beq, hA.orb, hL.len, hL.slen, hL.sq, hlb, h4]; omega) | (simp only [hlb, h4]; simp [hA.not, hA.eq, hA.lt, hA.le, hA.cond, hA.beq, hA.orb, hL.len, hL.slen, hL.sq, hlb, h4]; omega)) ?_
    cbv
    repeat (first | (refine vcIf.yes ?_ ?_; (focus (simp [hA.not, hA.eq, hA.lt, hA.le, hA.cond, hA.beq, hA.orb, hL.len, hL.slen, hL.sq]; done)); cbv) | (refine vcIf.no ?_ ?_; (focus (simp [hA.not, hA.eq, hA.lt, hA.le, hA.cond, hA.beq, hA.orb, hL.len, hL.slen, hL.sq]; done)); cbv) | fail)
    refine hcall _ _ _ _ _ (CallEv.pure awake18_spec .nil ?_)
    rintro _ _ ⟨rfl, rfl⟩
    cbv
    repeat (first | (refine vcIf.yes ?_ ?_; (focus (simp [hA.not, hA.eq, hA.lt, hA.le, hA.cond, hA.beq, hA.orb, hL.len, hL.slen, hL.sq]; done)); cbv) | (refine vcIf.no ?_ ?_; (focus (simp [hA.not, hA.eq, hA.lt, hA.le, hA.cond, hA.beq, hA.orb, hL.len, hL.slen, hL.sq]; done)); cbv) | fail)
    exact hret _ (RetEv.ret eOk rfl (by simp [hA.not, hA.eq, hA.lt, hA.le, hA.cond, hA.beq, hA.orb, hL.len, hL.slen, hL.sq, oneOf]))
  have hka : chks a = 0 := by omega
  have hkb : chks b = 0 := by omega
  obtain ⟨sp, hsp⟩ : ∃ sp : Spn, sp = ⟨[], [255, 255]⟩ := ⟨_, rfl⟩
  have hp1 : sp.lo.length ≤ 17 := by rw [hsp]; decide
  have hp2 : sp.hi.length ≤ 17 := by rw [hsp]; decide
  obtain ⟨t1, u1⟩ := tk_ok (l := 0) (x := 0) (y := 10) (ch := a) hp1 hp2 (by decide) (by decide) (by omega) hka
  obtain ⟨t2, u2⟩ := tk_ok (l := 0) (x := 10) (y := 20) (ch := b) hp1 hp2 (by decide) (by decide) (by omega) hkb
  obtain ⟨t3, _⟩ := tk_ok (l := 10) (x := 10) (y := 20) (ch := b) hp1 hp2 (by decide) (by decide) (by omega) hkb
  obtain ⟨t4, _⟩ := tk_ok (l := 20) (x := 0) (y := 10) (ch := a) hp1 hp2 (by decide) (by decide) (by omega) hka
  obtain ⟨t5, _⟩ := tk_ok (l := 20) (x := 10) (y := 20) (ch := b) hp1 hp2 (by decide) (by decide) (by omega) hkb
  replace t1 : tkE sp 0 ⟨0, 10, 0, a⟩ = 0 := t1
  replace t2 : tkE sp 0 ⟨10, 20, 0, b⟩ = 9 := t2
  replace t3 : tkE sp 10 ⟨10, 20, 0, b⟩ = 0 := t3
  replace t4 : tkE sp 20 ⟨0, 10, 0, a⟩ = 0 := t4
  replace t5 : tkE sp 20 ⟨10, 20, 0, b⟩ = 0 := t5
  have ha1 : (cutL sp a).length ≤ 1000 := Nat.le_trans (cutL_len sp a) (by omega)
  have hb1 : (cutL sp b).length ≤ 1000 := Nat.le_trans (cutL_len sp b) (by omega)
  have fa : Bat.fit ⟨0, 10, 0, a⟩ := fit_of (by decide) (by decide) hfa (by omega)
  have fb : Bat.fit ⟨10, 20, 0, b⟩ := fit_of (by decide) (by decide) hfb (by omega)
  have T1 := shTake_spec (n := n) (su := su) (ro := ro) (af := af) (d := d) (xs := xs) (m := m) (dn := dn) (rs := rs) 0 0 0 [] 0 [] rfl (by decide) [] [255, 255] (by decide) (by decide) ⟨10, 20, 0, b⟩ fb (by simp only; omega) (by rw [← hsp, u2]; omega) cb hcb
  have T2 := shTake_spec (n := n) (su := su) (ro := ro) (af := af) (d := d) (xs := xs) (m := m) (dn := dn) (rs := rs) 0 0 0 [] 0 [] rfl (by decide) [] [255, 255] (by decide) (by decide) ⟨0, 10, 0, a⟩ fa (by simp only; omega) (by rw [← hsp, u1]; omega) ca hca
  rw [← hsp, t2] at T1
  rw [← hsp, t1, u1] at T2
  simp only at T1 T2
  refine vcIf.no (by first | (simp [hA.not, hA.eq, hA.lt, hA.le, hA.cond, hA.beq, hA.orb, hL.len, hL.slen, hL.sq, hlb, h4]; done) | (simp only [hlb, h4]; simp [hA.not, hA.eq, hA.lt, hA.le, hA.cond, hA.beq, hA.orb, hL.len, hL.slen, hL.sq, hlb, h4]; done) | (simp [hA.not, hA.eq, hA.lt, hA.le, hA.cond, hA.beq, hA.orb, hL.len, hL.slen, hL.sq, hlb, h4]; omega) | (simp only [hlb, h4]; simp [hA.not, hA.eq, hA.lt, hA.le, hA.cond, hA.beq, hA.orb, hL.len, hL.slen, hL.sq, hlb, h4]; omega)) ?_
  cbv
  refine hcall _ _ _ _ _ (CallEv.lend [0, 1, 2, 3, 4, 5, 6] T1 rfl (.cons (.own 6 6 0 rfl) (.cons (.p _) .nil)) (shL rfl rfl rfl rfl rfl rfl rfl rfl rfl rfl rfl rfl rfl) ?_)
  rintro _ _ ⟨e, he, rfl, ⟨_, rfl⟩ | ⟨h0, _⟩⟩
  rotate_left
  · omega
  obtain rfl : e = 9 := he
  cbv
  repeat (first | (refine vcIf.yes ?_ ?_; (focus (simp [hA.not, hA.eq, hA.lt, hA.le, hA.cond, hA.beq, hA.orb, hL.len, hL.slen, hL.sq]; done)); cbv) | (refine vcIf.no ?_ ?_; (focus (simp [hA.not, hA.eq, hA.lt, hA.le, hA.cond, hA.beq, hA.orb, hL.len, hL.slen, hL.sq]; done)); cbv) | fail)
  refine hcall _ _ _ _ _ (CallEv.lend [0, 1, 2, 3, 4, 5, 6] T2 rfl (.cons (.own 6 6 0 rfl) (.cons (.p _) .nil)) (shL rfl rfl rfl rfl rfl rfl rfl rfl rfl rfl rfl rfl rfl) ?_)
  rintro _ _ ⟨e, he, rfl, ⟨hx, _⟩ | ⟨_, _, ws1, k1, hk1, hws1, rfl⟩⟩
  · rcases hx with h | h
    · exact absurd he h
    · exact absurd h (by decide)
  obtain rfl : e = 0 := he
  obtain rfl : 1 = k1 := hk1.symm
  replace hws1 : ws1 = layP [⟨10, cutL sp a⟩] := hws1
  have T3 := shTake_spec (n := n) (su := su) (ro := ro) (af := af) (d := d) (xs := xs) (m := m) (dn := dn) (rs := rs) 0 0 10 [] 1 ws1 (by rw [hws1]; rfl) (by decide) [] [255, 255] (by decide) (by decide) ⟨10, 20, 0, b⟩ fb (by simp only; omega) (by rw [← hsp, u2]; omega) cb hcb
  rw [← hsp, t3, u2] at T3
  simp only at T3
  cbv
  repeat (first | (refine vcIf.yes ?_ ?_; (focus (simp [hA.not, hA.eq, hA.lt, hA.le, hA.cond, hA.beq, hA.orb, hL.len, hL.slen, hL.sq]; done)); cbv) | (refine vcIf.no ?_ ?_; (focus (simp [hA.not, hA.eq, hA.lt, hA.le, hA.cond, hA.beq, hA.orb, hL.len, hL.slen, hL.sq]; done)); cbv) | fail)
  refine hcall _ _ _ _ _ (CallEv.lend [0, 1, 2, 3, 4, 5, 6] T3 rfl (.cons (.own 6 6 0 rfl) (.cons (.p _) .nil)) (shL rfl rfl rfl rfl rfl rfl rfl rfl rfl rfl rfl rfl rfl) ?_)
  rintro _ _ ⟨e, he, rfl, ⟨hx, _⟩ | ⟨_, _, ws2, k2, hk2, hws2, rfl⟩⟩
  · rcases hx with h | h
    · exact absurd he h
    · exact absurd h (by decide)
  obtain rfl : e = 0 := he
  obtain rfl : 2 = k2 := hk2.symm
  replace hws2 : ws2 = layP [⟨10, cutL sp a⟩, ⟨20, cutL sp b⟩] := by rw [hws2, hws1]; rfl
  have T4 := shTake_spec (n := n) (su := su) (ro := ro) (af := af) (d := d) (xs := xs) (m := m) (dn := dn) (rs := rs) 0 0 20 [] 2 ws2 (by rw [hws2]; rfl) (by decide) [] [255, 255] (by decide) (by decide) ⟨0, 10, 0, a⟩ fa (by simp only; omega) (by rw [← hsp, u1]; omega) ca hca
  have T5 := shTake_spec (n := n) (su := su) (ro := ro) (af := af) (d := d) (xs := xs) (m := m) (dn := dn) (rs := rs) 0 0 20 [] 2 ws2 (by rw [hws2]; rfl) (by decide) [] [255, 255] (by decide) (by decide) ⟨10, 20, 0, b⟩ fb (by simp only; omega) (by rw [← hsp, u2]; omega) cb hcb
  rw [← hsp, t4, u1] at T4
  rw [← hsp, t5, u2] at T5
  simp only at T4 T5
  have hM : ∀ l ∈ ([⟨10, cutL sp a⟩, ⟨20, cutL sp b⟩] : List Lay), l.ch.length ≤ 1000 := fun l hl => by
    simp only [List.mem_cons, List.not_mem_nil, or_false] at hl
    rcases hl with rfl | rfl <;> assumption
  have hC : ∀ l ∈ ([⟨10, cutL sp a⟩, ⟨20, cutL sp b⟩] : List Lay), chks l.ch = 0 := fun l hl => by
    simp only [List.mem_cons, List.not_mem_nil, or_false] at hl
    rcases hl with rfl | rfl
    · exact cutL_chks hp1 hp2 hka
    · exact cutL_chks hp1 hp2 hkb
  have hli := shList_spec (n := n) (su := su) (ro := ro) (af := af) (d := d) (xs := xs) (m := m) (dn := dn) (rs := rs) 0 0 20 [] srt_nil [⟨10, cutL sp a⟩, ⟨20, cutL sp b⟩] 1000 hM hC (by simp) (by simp) [] rfl 2 ws2 hws2 rfl [] [255, 255] [] [255, 255] 20 10000
  rw [show liE 0 20 20 10000 = 0 by decide] at hli
  obtain ⟨X, hX⟩ : ∃ X, X = liP 0 20 [] [⟨10, cutL sp a⟩, ⟨20, cutL sp b⟩] 20 (mt ⟨[], [255, 255]⟩ ⟨[], [255, 255]⟩) 10000 := ⟨_, rfl⟩
  rw [← hX] at hli
  have hXn : X.length < 281474976710656 := by
    have h1 : X.length ≤ 10000 := by
      rw [hX, liP, if_pos (by decide), lst, List.length_take]
      exact Nat.min_le_left _ _
    omega
  have hpr := rPairs_spec X X hXn hXn true ⟨fun _ => rfl, fun _ => rfl⟩
  cbv
  repeat (first | (refine vcIf.yes ?_ ?_; (focus (simp [hA.not, hA.eq, hA.lt, hA.le, hA.cond, hA.beq, hA.orb, hL.len, hL.slen, hL.sq]; done)); cbv) | (refine vcIf.no ?_ ?_; (focus (simp [hA.not, hA.eq, hA.lt, hA.le, hA.cond, hA.beq, hA.orb, hL.len, hL.slen, hL.sq]; done)); cbv) | fail)
  refine hcall _ _ _ _ _ (CallEv.frzR (CallEv.lend [0, 1, 2, 3, 4, 5, 6] hli rfl (.cons (.own 6 6 0 rfl) (.cons (.p _) (.cons (.p _) (.cons (.p _) .nil)))) (shL rfl rfl rfl rfl rfl rfl rfl rfl rfl rfl rfl rfl rfl) ?_))
  rintro _ _ ⟨e, us, z, he, hus, hz, rfl, rfl⟩
  refine ⟨9, _, _, _, rfl, (by rw [hB]; exact Nat.zero_le _), fun g hg => ?_⟩
  have hgz : g 0 z = prP X := by rw [hg, List.drop_zero, hz, List.take_length, hus]
  obtain rfl : e = 0 := he
  cbv
  refine hcode _ _ _ (CodeEv.loop eOk fOk (ι := Nat) (fun i => [(2, .p (.int .u8 (Int.ofNat t))), (9, .own 6 0), (11, .own 7 0), (12, .own 8 0), (13, .p (.sl (g 0 z))), (14, .p (.int .i64 0)), (15, .p (.int .i64 (Int.ofNat i)))])
    (fun _ => shO n su ro af d xs m dn rs 0 0 20 [] 2 ws2 [] [255, 255] ++ [.st 67 [.p (.int .i64 0), .p (.int .i64 10), .p (.int .i64 0), .p (.sl ca)], .st 67 [.p (.int .i64 10), .p (.int .i64 20), .p (.int .i64 0), .p (.sl cb)], .dead]) (fun i => i ≤ K) (fun i => K - i) 0 ?_ ?_)
  · exact ⟨(by repeat (first | exact trivial | refine And.intro rfl ?_)), rfl, Nat.zero_le _⟩
  rintro i hi rd hrd
  intro add1 sub1 mul1 quo1 rem1 band1 bor1 bxor1 bclr1 shl1 shr1 ieq1 ilt1 ile1 seq1 slt1 beq1 bnot1 orb1 bcond1 iwrap1 iof1 ssz1 hA1 cat1 sq1 sl1 imin1 imax1 smin1 smax1 len1 slen1 u81 hL1 op1 hop1 call1 hcall1 code1 hcode1
  have hrm : iwrap1 .i64 (rem1 (Int.ofNat t) (Int.ofNat 4)) = Int.ofNat K := by
    rw [hA1.wrap, hA1.rem, tmod_nat, ← hK]; exact i64_nat rfl (by omega)
  have hadd1 : i < K → add1 .i64 (Int.ofNat i) 1 = Int.ofNat (i + 1) := fun _ => by rw [hA1.add, IntWalk.i64_in _ (by simp only [Int.ofNat_eq_natCast]; omega)]; rfl
  cbv
  by_cases hiK : i < K
  · refine vcIf.yes (by first | (simp [hA1.not, hA1.eq, hA1.lt, hA1.le, hA1.cond, hA1.beq, hA1.orb, hL1.len, hL1.slen, hL1.sq, hrm, hiK]; done) | (simp only [hrm, hiK]; simp [hA1.not, hA1.eq, hA1.lt, hA1.le, hA1.cond, hA1.beq, hA1.orb, hL1.len, hL1.slen, hL1.sq, hrm, hiK]; done) | (simp [hA1.not, hA1.eq, hA1.lt, hA1.le, hA1.cond, hA1.beq, hA1.orb, hL1.len, hL1.slen, hL1.sq, hrm, hiK]; omega) | (simp only [hrm, hiK]; simp [hA1.not, hA1.eq, hA1.lt, hA1.le, hA1.cond, hA1.beq, hA1.orb, hL1.len, hL1.slen, hL1.sq, hrm, hiK]; omega)) ?_
    cbv
    refine hcall1 _ _ _ _ _ (CallEv.lend [0, 1, 2, 3, 4, 5, 6] T4 rfl (.cons (.own 6 6 0 rfl) (.cons (.p _) .nil)) (shL rfl rfl rfl rfl rfl rfl rfl rfl rfl rfl rfl rfl rfl) ?_)
    rintro _ _ ⟨e, he, rfl, ⟨_, rfl⟩ | ⟨_, hx, _⟩⟩
    rotate_left
    · exact absurd (by decide) hx
    obtain rfl : e = 0 := he
    cbv
    repeat (first | (refine vcIf.yes ?_ ?_; (focus (simp [hA1.not, hA1.eq, hA1.lt, hA1.le, hA1.cond, hA1.beq, hA1.orb, hL1.len, hL1.slen, hL1.sq]; done)); cbv) | (refine vcIf.no ?_ ?_; (focus (simp [hA1.not, hA1.eq, hA1.lt, hA1.le, hA1.cond, hA1.beq, hA1.orb, hL1.len, hL1.slen, hL1.sq]; done)); cbv) | fail)
    refine hcall1 _ _ _ _ _ (CallEv.lend [0, 1, 2, 3, 4, 5, 6] T5 rfl (.cons (.own 6 6 0 rfl) (.cons (.p _) .nil)) (shL rfl rfl rfl rfl rfl rfl rfl rfl rfl rfl rfl rfl rfl) ?_)
    rintro _ _ ⟨e, he, rfl, ⟨_, rfl⟩ | ⟨_, hx, _⟩⟩
    rotate_left
    · exact absurd (by decide) hx
    obtain rfl : e = 0 := he
    cbv
    repeat (first | (refine vcIf.yes ?_ ?_; (focus (simp [hA1.not, hA1.eq, hA1.lt, hA1.le, hA1.cond, hA1.beq, hA1.orb, hL1.len, hL1.slen, hL1.sq]; done)); cbv) | (refine vcIf.no ?_ ?_; (focus (simp [hA1.not, hA1.eq, hA1.lt, hA1.le, hA1.cond, hA1.beq, hA1.orb, hL1.len, hL1.slen, hL1.sq]; done)); cbv) | fail)
    refine hrd _ ⟨i + 1, _, ?_, hiK, rfl, ⟨rfl, rfl, rfl, rfl, rfl, rfl, ?_, trivial⟩, rfl, rfl, rfl, ?_⟩
    · simp only; omega
    · show some (V.p (.int .i64 _)) = _
      rw [hadd1 hiK]
    · rw [hB]; exact Nat.zero_le _
  · have hen := shEnds_spec (n := n) (su := su) (ro := ro) (af := af) (d := d) (xs := xs) (m := m) (dn := dn) (rs := rs) 0 0 20 [] 2 ws2 [] [255, 255]
    refine vcIf.no (by first | (simp [hA1.not, hA1.eq, hA1.lt, hA1.le, hA1.cond, hA1.beq, hA1.orb, hL1.len, hL1.slen, hL1.sq, hrm, hiK]; done) | (simp only [hrm, hiK]; simp [hA1.not, hA1.eq, hA1.lt, hA1.le, hA1.cond, hA1.beq, hA1.orb, hL1.len, hL1.slen, hL1.sq, hrm, hiK]; done) | (simp [hA1.not, hA1.eq, hA1.lt, hA1.le, hA1.cond, hA1.beq, hA1.orb, hL1.len, hL1.slen, hL1.sq, hrm, hiK]; omega) | (simp only [hrm, hiK]; simp [hA1.not, hA1.eq, hA1.lt, hA1.le, hA1.cond, hA1.beq, hA1.orb, hL1.len, hL1.slen, hL1.sq, hrm, hiK]; omega)) ?_
    cbv
    refine hcall _ _ _ _ _ (CallEv.frzR (CallEv.lend [0, 1, 2, 3, 4, 5, 6] hli rfl (.cons (.own 6 6 0 rfl) (.cons (.p _) (.cons (.p _) (.cons (.p _) .nil)))) (shL rfl rfl rfl rfl rfl rfl rfl rfl rfl rfl rfl rfl rfl) ?_))
    rintro _ _ ⟨e, us2, z2, he, hus2, hz2, rfl, rfl⟩
    refine ⟨10, _, _, _, rfl, (by rw [hB]; exact Nat.zero_le _), fun g2 hg2 => ?_⟩
    have hgz2 : g2 0 z2 = prP X := by rw [hg2, List.drop_zero, hz2, List.take_length, hus2]
    obtain rfl : e = 0 := he
    have hpr2 := hpr (g 0 z) (g2 0 z2) hgz hgz2
    cbv
    refine hcall _ _ _ _ _ (CallEv.lend [0, 1, 2, 3, 4, 5, 6] hen rfl (.cons (.own 6 6 0 rfl) .nil) (shL rfl rfl rfl rfl rfl rfl rfl rfl rfl rfl rfl rfl rfl) ?_)
    rintro _ _ ⟨rfl, rfl⟩
    cbv
    repeat (first | (refine vcIf.yes ?_ ?_; (focus (simp [hA.not, hA.eq, hA.lt, hA.le, hA.cond, hA.beq, hA.orb, hL.len, hL.slen, hL.sq]; done)); cbv) | (refine vcIf.no ?_ ?_; (focus (simp [hA.not, hA.eq, hA.lt, hA.le, hA.cond, hA.beq, hA.orb, hL.len, hL.slen, hL.sq]; done)); cbv) | fail)
    refine hcall _ _ _ _ _ (CallEv.same hpr2 rfl ?_)
    rintro _ _ ⟨rfl, rfl⟩
    cbv
    exact hret _ (RetEv.ret eOk rfl (by simp [hA.not, hA.eq, hA.lt, hA.le, hA.cond, hA.beq, hA.orb, hL.len, hL.slen, hL.sq, oneOf]))
end Go.Proofs.Ytnigonhkfpnodaa
end
section
namespace Go.Proofs.Ytnigonhkfpnodaa
open Go Go.Lx

theorem has_Chgs {K : Nat} (hK : K < 140737488355328) {z : PV} (h : Sh.Has K (.sl 40 (.st [.int .i64, .str, .str])) z) : ∃ l : List Chg, z = .sl (cP l) ∧ l.length * 40 ≤ K ∧ ∀ c ∈ l, c.fit := has_sl h fun z hz => has_Chg hK hz
end Go.Proofs.Ytnigonhkfpnodaa
end
