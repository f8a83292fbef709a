/- Where a key is among pairs that are in order. Conditions: on sizes. -/
import Derived.Test.YtdeolllpbflemaaLAq0
set_option maxRecDepth 100000
set_option maxHeartbeats 8000000
set_option linter.unusedSimpArgs false
set_option linter.unusedVariables false
namespace Go.Proofs.Ytdeolllpbflemaa
open Go Go.Lx
open Go.Sx (vcIf)

/-- Pairs below a key are ahead of place i, the others behind. -/
def Pos (ps : List Pr) (k : List UInt8) (i : Nat) : Prop := i ≤ ps.length ∧ (∀ q p, q < i → ps[q]? = some p → bl p.key k = true) ∧ ∀ q p, i ≤ q → ps[q]? = some p → bl p.key k = false
theorem srt_lt {ps : List Pr} (h : Srt ps) {i j : Nat} {a b : Pr} (ha : ps[i]? = some a) (hb : ps[j]? = some b) (hij : i < j) : bl a.key b.key = true := by
  obtain ⟨h1, e1⟩ := List.getElem?_eq_some_iff.1 ha
  obtain ⟨h2, e2⟩ := List.getElem?_eq_some_iff.1 hb
  have := (List.pairwise_iff_getElem.1 h) i j h1 h2 hij
  rw [e1, e2] at this; exact this

/-- What cmp.Compare answers. -/
def cmpI (a b : List UInt8) : Int := if bl a b = true then -1 else if bl b a = true then 1 else 0
theorem cmpI_neg (a b : List UInt8) : decide (cmpI a b < 0) = bl a b := by
  unfold cmpI
  by_cases h : bl a b = true
  · rw [if_pos h, h]; rfl
  · rw [if_neg h, Bool.eq_false_iff.2 h]
    by_cases h2 : bl b a = true
    · rw [if_pos h2]; rfl
    · rw [if_neg h2]; rfl
theorem cmpI_zero (a b : List UInt8) : decide (cmpI a b = 0) = decide (a = b) := by
  unfold cmpI
  rcases bl_tri a b with h | h | h
  · rw [if_pos h, show decide (a = b) = false from decide_eq_false (bl_ne h)]; rfl
  · subst h; simp [bl_irrefl]
  · rw [if_neg (by rw [bl_asymm h]; decide), if_pos h, show decide (a = b) = false from decide_eq_false fun c => bl_ne h c.symm]; rfl
theorem oCNan_spec (a : List UInt8) : FnL Try.prog 66 [.p (.str a)] [] fun v own => v = .p (.bool false) ∧ own = [] := by
  refine FnL.flat (R := fun v own => v = .p (.bool false)) ?_ (by rintro _ _ rfl; exact ⟨_, _, rfl, .refl _, rfl, rfl⟩)
  refine fn_of_vc eOk fOk fo66 Try.func66 rfl rfl rfl fun B hB => ?_
  intro add sub mul quo rem band bor bxor bclr shl shr ieq ilt ile seq slt beq bnot orb bcond iwrap iof ssz hA cat sq sl imin imax smin smax len slen u8 hL op hop call hcall code hcode ret hret
  cbv
  refine hret _ (RetEv.ret eOk rfl ?_)
  show V.p (.bool (bnot (sq a a))) = _
  rw [hA.not, hL.sq]; simp
theorem cmpS_spec (a b : List UInt8) : FnL Try.prog 63 [.p (.str a), .p (.str b)] [] fun v own => ∃ k, k = cmpI a b ∧ v = .p (.int .i64 k) ∧ own = [] := by
  refine FnL.flat (R := fun v own => ∃ k, k = cmpI a b ∧ v = .p (.int .i64 k)) ?_ (by rintro _ _ ⟨k, h, rfl⟩; exact ⟨_, _, rfl, .refl _, k, h, rfl, rfl⟩)
  have h1 := oCNan_spec a
  have h2 := oCNan_spec b
  have hg := gt2 a b
  refine fn_of_vc eOk fOk fo63 Try.func63 rfl rfl rfl fun B hB => ?_
  intro add sub mul quo rem band bor bxor bclr shl shr ieq ilt ile seq slt beq bnot orb bcond iwrap iof ssz hA cat sq sl imin imax smin smax len slen u8 hL op hop call hcall code hcode ret hret
  cbv
  refine hcall _ _ _ _ _ (CallEv.same h1 rfl ?_)
  rintro _ _ ⟨rfl, rfl⟩
  cbv
  refine hcall _ _ _ _ _ (CallEv.same h2 rfl ?_)
  rintro _ _ ⟨rfl, rfl⟩
  cbv
  by_cases h : bl a b = true
  · refine vcIf.yes (by rw [hL.sl]; exact h) ?_
    cbv
    exact hret _ (RetEv.ret eOk rfl ⟨-1, by rw [cmpI, if_pos h], rfl⟩)
  · refine vcIf.no (by rw [hL.sl]; exact Bool.eq_false_iff.2 h) ?_
    cbv
    by_cases h3 : bl b a = true
    · refine vcIf.yes (by first | (rw [hL.sl]; exact h3) | (simp only [hA.not, hA.orb, hA.beq, hL.sl, hL.sq]; rw [bl_gt]; exact h3)) ?_
      cbv
      exact hret _ (RetEv.ret eOk rfl ⟨1, by rw [cmpI, if_neg h, if_pos h3], rfl⟩)
    · refine vcIf.no (by first | (rw [hL.sl]; exact Bool.eq_false_iff.2 h3) | (simp only [hA.not, hA.orb, hA.beq, hL.sl, hL.sq]; rw [bl_gt]; exact Bool.eq_false_iff.2 h3)) ?_
      cbv
      exact hret _ (RetEv.ret eOk rfl ⟨0, by rw [cmpI, if_neg h, if_neg h3], rfl⟩)
theorem cmpPr_spec (a b vl : List UInt8) : FnL Try.prog 62 [.p (.agg [.str a, .str vl]), .p (.str b)] [] fun v own => ∃ k, k = cmpI a b ∧ v = .p (.int .i64 k) ∧ own = [] := by
  refine FnL.flat (R := fun v own => ∃ k, k = cmpI a b ∧ v = .p (.int .i64 k)) ?_ (by rintro _ _ ⟨k, h, rfl⟩; exact ⟨_, _, rfl, .refl _, k, h, rfl, rfl⟩)
  have h1 := cmpS_spec a b
  refine fn_of_vc eOk fOk fo62 Try.func62 rfl rfl rfl fun B hB => ?_
  intro add sub mul quo rem band bor bxor bclr shl shr ieq ilt ile seq slt beq bnot orb bcond iwrap iof ssz hA cat sq sl imin imax smin smax len slen u8 hL op hop call hcall code hcode ret hret
  cbv
  refine hcall _ _ _ _ _ (CallEv.same h1 rfl ?_)
  rintro _ _ ⟨k, hk, rfl, rfl⟩
  cbv
  exact hret _ (RetEv.ret eOk rfl ⟨k, hk, rfl⟩)

theorem bsf_spec (ps : List Pr) (hs : Srt ps) (hn : ps.length < 281474976710656) (key : List UInt8) (zs : List PV) (hzs : zs = prP ps) :
    FnL Try.prog 61 [.p (.sl zs), .p (.str key), .p (.fn 62)] [] fun v own => ∃ (i : Nat) (t : Bool), Pos ps key i ∧ (t = true ↔ ∃ p, ps[i]? = some p ∧ p.key = key) ∧ v = .p (.tup [.int .i64 (Int.ofNat i), .bool t]) ∧ own = [] := by
  refine FnL.flat (R := fun v own => ∃ (i : Nat) (t : Bool), Pos ps key i ∧ (t = true ↔ ∃ p, ps[i]? = some p ∧ p.key = key) ∧ v = .p (.tup [.int .i64 (Int.ofNat i), .bool t])) ?_ (by rintro _ _ ⟨i, t, h, h', rfl⟩; exact ⟨_, _, rfl, .refl _, i, t, h, h', rfl, rfl⟩)
  obtain ⟨N, hN⟩ : ∃ n, n = ps.length := ⟨_, rfl⟩
  have hzl : zs.length = N := by rw [hzs, prP_length, hN]
  rw [← hN] at hn
  refine fn_of_vc eOk fOk fo61 Try.func61 rfl rfl rfl fun B hB => ?_
  intro add sub mul quo rem band bor bxor bclr shl shr ieq ilt ile seq slt beq bnot orb bcond iwrap iof ssz hA cat sq sl imin imax smin smax len slen u8 hL op hop call hcall code hcode ret hret
  have hlen : len zs = Int.ofNat N := by rw [hL.len, hzl]; rfl
  cbv
  rw [hlen]
  refine hcode _ _ _ (CodeEv.loop eOk fOk (ι := Nat × Nat) (fun s => [(0, .p (.sl zs)), (1, .p (.str key)), (2, .p (.fn 62)), (8, .p (.int .i64 (Int.ofNat N))), (9, .p (.int .i64 (Int.ofNat s.1))), (10, .p (.int .i64 (Int.ofNat s.2)))])
    (fun s => []) (fun s => s.1 ≤ s.2 ∧ s.2 ≤ N ∧ (∀ q p, q < s.1 → ps[q]? = some p → bl p.key key = true) ∧ (∀ q p, s.2 ≤ q → ps[q]? = some p → bl p.key key = false)) (fun s => s.2 - s.1) (0, N) ?_ ?_)
  · exact ⟨(by repeat (first | exact trivial | refine And.intro rfl ?_)), rfl, Nat.zero_le _, Nat.le_refl _, fun q b h => absurd h (Nat.not_lt_zero q), fun q b h hb => by have := (List.getElem?_eq_some_iff.1 hb).1; simp only at h; omega⟩
  rintro ⟨i, j⟩ ⟨k1, k2, k3, k4⟩ rd hrd
  simp only at k1 k2 k3 k4
  by_cases hi : i < j
  · refine Exists.elim (show ∃ h, h = (i + j) / 2 from ⟨_, rfl⟩) fun h hh => ?_
    refine Exists.elim (get_of_lt (show h < ps.length by omega)) fun b hb => ?_
    have hzh : zs[h]? = some (.agg [.str b.key, .str b.val]) := by rw [hzs]; exact prP_get hb
    have hle := cmpPr_spec b.key key b.val
    have hng := cmpI_neg b.key key
    have hlt1 := fun (q : Nat) (c : Pr) (hc : ps[q]? = some c) (e : q < h) => srt_lt hs hc hb e
    have hlt2 := fun (q : Nat) (c : Pr) (hc : ps[q]? = some c) (e : h < q) => srt_lt hs hb hc e
    have hself := fun (c : Pr) (hc : ps[h]? = some c) => Option.some.inj (hc.symm.trans hb)
    obtain ⟨bk, bv⟩ := b
    simp only at hzh hle hng hlt1 hlt2
    intro add1 sub1 mul1 quo1 rem1 band1 bor1 bxor1 bclr1 shl1 shr1 ieq1 ilt1 ile1 seq1 slt1 beq1 bnot1 orb1 bcond1 iwrap1 iof1 ssz1 hA1 cat1 sq1 sl1 imin1 imax1 smin1 smax1 len1 slen1 u81 hL1 op1 hop1 call1 hcall1 code1 hcode1
    have f1 : add1 .i64 (Int.ofNat i) (Int.ofNat j) = Int.ofNat (i + j) := by rw [hA1.add, IntWalk.i64_in _ (by simp only [Int.ofNat_eq_natCast]; omega)]; rfl
    have f2 : iwrap1 .u64 (Int.ofNat (i + j)) = Int.ofNat (i + j) := by rw [hA1.wrap, IntKind.wrap_u64]; simp only [Int.ofNat_eq_natCast]; omega
    have f3 : shr1 .u64 (Int.ofNat (i + j)) 1 = Int.ofNat h := by
      rw [hA1.shr, show (min 1 IntKind.u64.bits) = 1 from rfl, show (2 : Int) ^ 1 = 2 from rfl, Int.fdiv_eq_ediv_of_nonneg _ (by decide), hh]; rfl
    have f4 : iwrap1 .i64 (Int.ofNat h) = Int.ofNat h := by rw [hA1.wrap, IntWalk.i64_in _ (by simp only [Int.ofNat_eq_natCast]; omega)]
    have f5 : iwrap1 .i64 (shr1 .u64 (iwrap1 .u64 (add1 .i64 (Int.ofNat i) (Int.ofNat j))) 1) = Int.ofNat h := by rw [f1, f2, f3, f4]
    have f6 : add1 .i64 (Int.ofNat h) 1 = Int.ofNat (h + 1) := by rw [hA1.add, IntWalk.i64_in _ (by simp only [Int.ofNat_eq_natCast]; omega)]; rfl
    clear f1 f2 f3 f4
    cbv
    refine vcIf.yes (by first | (simp [hA1.not, hA1.eq, hA1.lt, hA1.le, hA1.cond, hA1.beq, hA1.orb, hL1.len, hL1.slen, hL1.sq, hi]; done) | (simp only [hi]; simp [hA1.not, hA1.eq, hA1.lt, hA1.le, hA1.cond, hA1.beq, hA1.orb, hL1.len, hL1.slen, hL1.sq, hi]; done) | (simp [hA1.not, hA1.eq, hA1.lt, hA1.le, hA1.cond, hA1.beq, hA1.orb, hL1.len, hL1.slen, hL1.sq, hi]; omega) | (simp only [hi]; simp [hA1.not, hA1.eq, hA1.lt, hA1.le, hA1.cond, hA1.beq, hA1.orb, hL1.len, hL1.slen, hL1.sq, hi]; omega)) ?_
    cbv
    refine ⟨h, _, f5, hzh, rfl, ?_⟩
    cbv
    refine hcall1 _ _ _ _ _ (CallEv.same hle rfl ?_)
    rintro _ _ ⟨kk, hkk, rfl, rfl⟩
    rw [← hkk] at hng
    cbv
    by_cases htt : bl bk key = true
    · refine vcIf.yes (by rw [hA1.lt, hng]; exact htt) ?_
      cbv
      refine hrd _ ⟨(h + 1, j), [], ?_, ⟨?_, k2, ?_, k4⟩, rfl, ⟨rfl, rfl, rfl, rfl, ?_, rfl, trivial⟩, rfl, rfl, rfl, ?_⟩
      · simp only; omega
      · simp only; omega
      · intro q c hq hc
        rcases Nat.lt_succ_iff_lt_or_eq.1 hq with e | e
        · exact bl_trans (hlt1 q c hc e) htt
        · subst e; rw [hself c hc]; exact htt
      · show some (V.p (.int .i64 _)) = _
        rw [f5, f6]
      · rw [hB]; exact Nat.le_refl _
    · have htb := Bool.eq_false_iff.2 htt
      refine vcIf.no (by rw [hA1.lt, hng]; exact htb) ?_
      cbv
      refine hrd _ ⟨(i, h), [], ?_, ⟨?_, ?_, k3, ?_⟩, rfl, ⟨rfl, rfl, rfl, rfl, rfl, ?_, trivial⟩, rfl, rfl, rfl, ?_⟩
      · simp only; omega
      · simp only; omega
      · simp only; omega
      · intro q c hq hc
        simp only at hq
        rcases Nat.lt_or_eq_of_le hq with e | e
        · exact Bool.eq_false_iff.2 fun d => htt (bl_trans (hlt2 q c hc e) d)
        · subst e; rw [hself c hc]; exact htb
      · show some (V.p (.int .i64 _)) = _
        rw [f5]
      · rw [hB]; exact Nat.le_refl _
  · have hij : j = i := by omega
    rw [hij] at k4
    have hpos : Pos ps key i := ⟨by omega, k3, k4⟩
    by_cases hiN : i < N
    · refine Exists.elim (get_of_lt (show i < ps.length by omega)) fun b hb => ?_
      have hzi : zs[i]? = some (.agg [.str b.key, .str b.val]) := by rw [hzs]; exact prP_get hb
      have hle := cmpPr_spec b.key key b.val
      have hng := cmpI_zero b.key key
      have hres : ∀ t : Bool, t = decide (b.key = key) → (t = true ↔ ∃ p, ps[i]? = some p ∧ p.key = key) := fun t ht => by
        rw [ht, decide_eq_true_iff, hb]
        exact ⟨fun h => ⟨b, rfl, h⟩, fun ⟨p, hp, h⟩ => by cases hp; exact h⟩
      obtain ⟨bk, bv⟩ := b
      simp only at hzi hle hng hres
      clear hb
      intro add1 sub1 mul1 quo1 rem1 band1 bor1 bxor1 bclr1 shl1 shr1 ieq1 ilt1 ile1 seq1 slt1 beq1 bnot1 orb1 bcond1 iwrap1 iof1 ssz1 hA1 cat1 sq1 sl1 imin1 imax1 smin1 smax1 len1 slen1 u81 hL1 op1 hop1 call1 hcall1 code1 hcode1
      cbv
      refine vcIf.no (by first | (simp [hA1.not, hA1.eq, hA1.lt, hA1.le, hA1.cond, hA1.beq, hA1.orb, hL1.len, hL1.slen, hL1.sq, hi]; done) | (simp only [hi]; simp [hA1.not, hA1.eq, hA1.lt, hA1.le, hA1.cond, hA1.beq, hA1.orb, hL1.len, hL1.slen, hL1.sq, hi]; done) | (simp [hA1.not, hA1.eq, hA1.lt, hA1.le, hA1.cond, hA1.beq, hA1.orb, hL1.len, hL1.slen, hL1.sq, hi]; omega) | (simp only [hi]; simp [hA1.not, hA1.eq, hA1.lt, hA1.le, hA1.cond, hA1.beq, hA1.orb, hL1.len, hL1.slen, hL1.sq, hi]; omega)) ?_
      cbv
      refine vcIf.yes (by first | (simp [hA.not, hA.eq, hA.lt, hA.le, hA.cond, hA.beq, hA.orb, hL.len, hL.slen, hL.sq, hiN]; done) | (simp only [hiN]; simp [hA.not, hA.eq, hA.lt, hA.le, hA.cond, hA.beq, hA.orb, hL.len, hL.slen, hL.sq, hiN]; done) | (simp [hA.not, hA.eq, hA.lt, hA.le, hA.cond, hA.beq, hA.orb, hL.len, hL.slen, hL.sq, hiN]; omega) | (simp only [hiN]; simp [hA.not, hA.eq, hA.lt, hA.le, hA.cond, hA.beq, hA.orb, hL.len, hL.slen, hL.sq, hiN]; omega)) ?_
      cbv
      refine ⟨i, _, rfl, hzi, rfl, ?_⟩
      cbv
      refine hcall _ _ _ _ _ (CallEv.same hle rfl ?_)
      rintro _ _ ⟨kk, hkk, rfl, rfl⟩
      rw [← hkk] at hng
      cbv
      refine hret _ (RetEv.ret eOk rfl ⟨i, ieq kk 0, hpos, hres _ (by rw [hA.eq]; exact hng), ?_⟩)
      simp [oneOf, hA.cond, cond]; rfl
    · have hres : (false = true ↔ ∃ p, ps[i]? = some p ∧ p.key = key) := ⟨fun h => (by cases h), fun ⟨p, hp, _⟩ => by have := lt_of_some hp; omega⟩
      intro add1 sub1 mul1 quo1 rem1 band1 bor1 bxor1 bclr1 shl1 shr1 ieq1 ilt1 ile1 seq1 slt1 beq1 bnot1 orb1 bcond1 iwrap1 iof1 ssz1 hA1 cat1 sq1 sl1 imin1 imax1 smin1 smax1 len1 slen1 u81 hL1 op1 hop1 call1 hcall1 code1 hcode1
      cbv
      refine vcIf.no (by first | (simp [hA1.not, hA1.eq, hA1.lt, hA1.le, hA1.cond, hA1.beq, hA1.orb, hL1.len, hL1.slen, hL1.sq, hi]; done) | (simp only [hi]; simp [hA1.not, hA1.eq, hA1.lt, hA1.le, hA1.cond, hA1.beq, hA1.orb, hL1.len, hL1.slen, hL1.sq, hi]; done) | (simp [hA1.not, hA1.eq, hA1.lt, hA1.le, hA1.cond, hA1.beq, hA1.orb, hL1.len, hL1.slen, hL1.sq, hi]; omega) | (simp only [hi]; simp [hA1.not, hA1.eq, hA1.lt, hA1.le, hA1.cond, hA1.beq, hA1.orb, hL1.len, hL1.slen, hL1.sq, hi]; omega)) ?_
      cbv
      refine vcIf.no (by first | (simp [hA.not, hA.eq, hA.lt, hA.le, hA.cond, hA.beq, hA.orb, hL.len, hL.slen, hL.sq, hiN]; done) | (simp only [hiN]; simp [hA.not, hA.eq, hA.lt, hA.le, hA.cond, hA.beq, hA.orb, hL.len, hL.slen, hL.sq, hiN]; done) | (simp [hA.not, hA.eq, hA.lt, hA.le, hA.cond, hA.beq, hA.orb, hL.len, hL.slen, hL.sq, hiN]; omega) | (simp only [hiN]; simp [hA.not, hA.eq, hA.lt, hA.le, hA.cond, hA.beq, hA.orb, hL.len, hL.slen, hL.sq, hiN]; omega)) ?_
      cbv
      refine hret _ (RetEv.ret eOk rfl ⟨i, false, hpos, hres, ?_⟩)
      simp [oneOf, hA.cond, cond]; rfl

theorem find_spec (ps : List Pr) (hs : Srt ps) (hn : ps.length < 281474976710656) (key : List UInt8) (zs : List PV) (hzs : zs = prP ps) :
    FnL Try.prog 58 [.p (.sl zs), .p (.str key)] [] fun v own => ∃ (i : Nat) (t : Bool), Pos ps key i ∧ (t = true ↔ ∃ p, ps[i]? = some p ∧ p.key = key) ∧ v = .p (.tup [.int .i64 (Int.ofNat i), .bool t]) ∧ own = [] := by
  refine FnL.flat (R := fun v own => ∃ (i : Nat) (t : Bool), Pos ps key i ∧ (t = true ↔ ∃ p, ps[i]? = some p ∧ p.key = key) ∧ v = .p (.tup [.int .i64 (Int.ofNat i), .bool t])) ?_ (by rintro _ _ ⟨i, t, h, h', rfl⟩; exact ⟨_, _, rfl, .refl _, i, t, h, h', rfl, rfl⟩)
  have h1 := bsf_spec ps hs hn key zs hzs
  refine fn_of_vc eOk fOk fo58 Try.func58 rfl rfl rfl fun B hB => ?_
  intro add sub mul quo rem band bor bxor bclr shl shr ieq ilt ile seq slt beq bnot orb bcond iwrap iof ssz hA cat sq sl imin imax smin smax len slen u8 hL op hop call hcall code hcode ret hret
  cbv
  refine hcall _ _ _ _ _ (CallEv.same h1 rfl ?_)
  rintro _ _ ⟨i, t, a1, a2, rfl, rfl⟩
  cbv
  exact hret _ (RetEv.ret eOk rfl ⟨i, t, a1, a2, rfl⟩)
end Go.Proofs.Ytdeolllpbflemaa
