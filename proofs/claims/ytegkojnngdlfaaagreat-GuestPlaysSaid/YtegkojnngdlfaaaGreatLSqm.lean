/- LSh1, LSh2, LSh3, LHx, LFv1, LFv2, LSq1, LSq2, LSq3 together. Conditions: on sizes. -/
import Derived.Test.YtegkojnngdlfaaaGreatLEnv
import Derived.Test.YtegkojnngdlfaaaGreatLCh1
set_option maxRecDepth 100000
set_option maxHeartbeats 8000000
set_option linter.unusedSimpArgs false
set_option linter.unusedVariables false
namespace Go.Proofs.YtegkojnngdlfaaaGreat
section
open Go Go.Lx
open Go.Sx (vcIf)
abbrev BL := List (List UInt8)
def bsP (bs : BL) : List PV := bs.map .str
theorem sP_length (bs : BL) : (bsP bs).length = bs.length := List.length_map _
theorem sP_get {bs : BL} {i : Nat} {b : List UInt8} (h : bs[i]? = some b) : (bsP bs)[i]? = some (.str b) := by unfold bsP; rw [List.getElem?_map, h]; rfl
def gB (bs : BL) (i : Nat) : Bool :=
  match bs[i]? with
  | none => true
  | some b => decide (1 ≤ b.length ∧ b.length ≤ 16 ∧ (i = 0 ∨ bl (bs.getD (i - 1) []) b = true))
theorem gB_some {bs : BL} {i : Nat} {b : List UInt8} (h : bs[i]? = some b) : gB bs i = true ↔ (1 ≤ b.length ∧ b.length ≤ 16 ∧ (i = 0 ∨ bl (bs.getD (i - 1) []) b = true)) := by
  unfold gB; rw [h]; exact decide_eq_true_iff
def sndB (bs : BL) : Bool := decide (bs.length < 8 ∧ ∀ i, i < bs.length → gB bs i = true)
theorem snd_bad {bs : BL} {i : Nat} {b : List UInt8} (h : bs[i]? = some b) (hn : ¬ (1 ≤ b.length ∧ b.length ≤ 16 ∧ (i = 0 ∨ bl (bs.getD (i - 1) []) b = true))) : sndB bs = false := by
  unfold sndB
  refine decide_eq_false fun c => hn ((gB_some h).1 (c.2 i (List.getElem?_eq_some_iff.1 h).1))
theorem sound_spec (bs : BL) (hn : bs.length < 281474976710656) (hb : ∀ b ∈ bs, b.length < 281474976710656) (zs : List PV) (hzs : zs = bsP bs) :
    FnL Tryz.prog 44 [.p (.sl zs)] [] fun v own => v = .p (.bool (sndB bs)) ∧ own = [] := by
  obtain ⟨R, hR⟩ : ∃ R, R = sndB bs := ⟨_, rfl⟩
  rw [← hR]
  refine FnL.flat (R := fun v own => v = .p (.bool R)) ?_ (by rintro _ _ rfl; exact ⟨_, _, rfl, .refl _, rfl, rfl⟩)
  obtain ⟨N, hN⟩ : ∃ n, n = bs.length := ⟨_, rfl⟩
  have hzl : zs.length = N := by rw [hzs, sP_length, hN]
  refine fn_of_vc eOk fOk fo44 Tryz.func44 rfl rfl rfl fun B hB => ?_
  intro add sub _ _ _ _ _ _ _ _ _ _ ilt _ _ _ _ _ orb _ _ _ _ hA _ sq sl _ _ _ _ len slen _ hL _ _ _ _ _ hcode ret hret
  have hlen : len zs = Int.ofNat N := by rw [hL.len, hzl]; rfl
  cbv
  rw [hlen]
  refine hcode _ _ _ (CodeEv.loop eOk fOk (ι := Nat) (fun s => [(0, .p (.sl zs)), (5, .p (.sl zs)), (6, .p (.int .i64 (Int.ofNat N))), (7, .p (.int .i64 (Int.ofNat s)))])
    (fun s => []) (fun s => s ≤ N ∧ ∀ q, q < s → gB bs q = true) (fun s => N - s) 0 ?_ ?_)
  · exact ⟨(by repeat (first | exact trivial | refine And.intro rfl ?_)), rfl, Nat.zero_le _, fun q h => absurd h (Nat.not_lt_zero q)⟩
  rintro i ⟨k1, k2⟩ rd hrd
  by_cases hi : i < N
  · refine Exists.elim (get_of_lt (show i < bs.length by omega)) fun b hbi => ?_
    have hzi : zs[i]? = some (.str b) := by rw [hzs]; exact sP_get hbi
    have hbl := hb b (List.mem_of_getElem? hbi)
    have bad := fun h => hR.trans (snd_bad hbi h)
    have good := (gB_some hbi).2
    refine Exists.elim (show ∃ n, n = b.length from ⟨_, rfl⟩) fun n hnn => ?_
    rw [← hnn] at bad good
    intro add1 sub1 _ _ _ _ _ _ _ _ _ _ _ _ _ _ _ _ orb1 _ _ _ _ hA1 _ sq1 sl1 _ _ _ _ _ slen1 _ hL1 _ _ _ _ _ _
    have e1 : slen1 b = Int.ofNat n := by rw [hL1.slen, hnn]; rfl
    have e2 : sq1 b [] = decide (n = 0) := by
      rw [hL1.sq, hnn]; cases b <;> simp
    have hadd1 : add1 .i64 (Int.ofNat i) 1 = Int.ofNat (i + 1) := by rw [hA1.add, IntWalk.i64_in _ (by simp only [Int.ofNat_eq_natCast]; omega)]; rfl
    cbv
    refine vcIf.yes (by first | (simp [smW hA1 hL1, hi]; done) | (simp only [hi]; simp [smW hA1 hL1, hi]; done) | (simp [smW hA1 hL1, hi]; omega) | (simp only [hi]; simp [smW hA1 hL1, hi]; omega)) ?_
    cbv
    refine ⟨i, _, rfl, hzi, rfl, ?_⟩
    cbv
    by_cases h0 : n = 0
    · have hf := bad (by omega)
      refine vcIf.yes (by rw [e2]; exact decide_eq_true h0) ?_
      cbv
      exact hret _ (RetEv.ret eOk rfl (by rw [hf]; rfl))
    refine vcIf.no (by rw [e2]; exact decide_eq_false h0) ?_
    cbv
    by_cases h16 : 16 < n
    · have hf := bad (by omega)
      refine vcIf.yes (by first | (simp [smW hA1 hL1, e1, h16]; done) | (simp only [e1, h16]; simp [smW hA1 hL1, e1, h16]; done) | (simp [smW hA1 hL1, e1, h16]; omega) | (simp only [e1, h16]; simp [smW hA1 hL1, e1, h16]; omega)) ?_
      cbv
      exact hret _ (RetEv.ret eOk rfl (by rw [hf]; rfl))
    refine vcIf.no (by first | (simp [smW hA1 hL1, e1, h16]; done) | (simp only [e1, h16]; simp [smW hA1 hL1, e1, h16]; done) | (simp [smW hA1 hL1, e1, h16]; omega) | (simp only [e1, h16]; simp [smW hA1 hL1, e1, h16]; omega)) ?_
    cbv
    by_cases hi0 : 0 < i
    · refine Exists.elim (get_of_lt (show i - 1 < bs.length by omega)) fun a hai => ?_
      have hza : zs[i - 1]? = some (.str a) := by rw [hzs]; exact sP_get hai
      have hga : bs.getD (i - 1) [] = a := by rw [List.getD_eq_getElem?_getD, hai]; rfl
      refine Exists.elim (show ∃ j, j = i - 1 from ⟨_, rfl⟩) fun j hj => ?_
      rw [hga] at bad good
      rw [← hj] at hza
      have hsub : sub1 .i64 (Int.ofNat i) 1 = Int.ofNat j := by rw [hA1.sub, IntWalk.i64_in _ (by simp only [Int.ofNat_eq_natCast]; omega), hj]; simp only [Int.ofNat_eq_natCast]; omega
      have hle : orb1 (sl1 b a) (sq1 b a) = !(bl a b) := by rw [hA1.orb, hL1.sl, hL1.sq, ← bl_gt b a]; simp
      refine vcIf.yes (by first | (simp [smW hA1 hL1, hi0]; done) | (simp only [hi0]; simp [smW hA1 hL1, hi0]; done) | (simp [smW hA1 hL1, hi0]; omega) | (simp only [hi0]; simp [smW hA1 hL1, hi0]; omega)) ?_
      cbv
      refine ⟨j, _, hsub, hza, rfl, ?_⟩
      cbv
      by_cases hab : bl a b = true
      · have hgood := good ⟨by omega, by omega, .inr hab⟩
        refine vcIf.no (by rw [hle, show Op.bytesLess a b = true from hab]; simp [hA1.cond, cond]) ?_
        cbv
        refine hrd _ ⟨i + 1, [], ?_, ⟨hi, ?_⟩, rfl, ⟨rfl, rfl, rfl, ?_, trivial⟩, rfl, rfl, rfl, ?_⟩
        · show N - (i + 1) < N - i
          omega
        · intro q hq
          rcases Nat.lt_succ_iff_lt_or_eq.1 hq with c | c
          · exact k2 q c
          · rw [c]; exact hgood
        · show some (V.p (.int .i64 _)) = _
          rw [hadd1]
        · rw [hB]; exact Nat.le_refl _
      · have hf := bad (fun c => by rcases c.2.2 with c | c; omega; exact hab c)
        refine vcIf.yes (by rw [hle, show Op.bytesLess a b = false from Bool.eq_false_iff.2 hab]; simp [hA1.cond, cond]) ?_
        cbv
        exact hret _ (RetEv.ret eOk rfl (by rw [hf]; rfl))
    · have hgood := good ⟨by omega, by omega, .inl (by omega)⟩
      refine vcIf.no (by first | (simp [smW hA1 hL1, hi0]; done) | (simp only [hi0]; simp [smW hA1 hL1, hi0]; done) | (simp [smW hA1 hL1, hi0]; omega) | (simp only [hi0]; simp [smW hA1 hL1, hi0]; omega)) ?_
      cbv
      refine vcIf.no (by first | (simp [smW hA1 hL1]; done) | (simp [smW hA1 hL1]; omega)) ?_
      cbv
      refine hrd _ ⟨i + 1, [], ?_, ⟨hi, ?_⟩, rfl, ⟨rfl, rfl, rfl, ?_, trivial⟩, rfl, rfl, rfl, ?_⟩
      · show N - (i + 1) < N - i
        omega
      · intro q hq
        rcases Nat.lt_succ_iff_lt_or_eq.1 hq with c | c
        · exact k2 q c
        · rw [c]; exact hgood
      · show some (V.p (.int .i64 _)) = _
        rw [hadd1]
      · rw [hB]; exact Nat.le_refl _
  · have hin : i = N := by omega
    have hR2 : R = decide (N < 8) := by
      rw [hR, sndB, ← hN]
      by_cases h : N < 8
      · rw [decide_eq_true h]; exact decide_eq_true ⟨h, fun q hq => k2 q (by omega)⟩
      · rw [decide_eq_false h]; exact decide_eq_false fun c => h c.1
    intro add1 sub1 _ _ _ _ _ _ _ _ _ _ _ _ _ _ _ _ orb1 _ _ _ _ hA1 _ sq1 sl1 _ _ _ _ _ slen1 _ hL1 _ _ _ _ _ _
    cbv
    refine vcIf.no (by first | (simp [smW hA1 hL1, hi]; done) | (simp only [hi]; simp [smW hA1 hL1, hi]; done) | (simp [smW hA1 hL1, hi]; omega) | (simp only [hi]; simp [smW hA1 hL1, hi]; omega)) ?_
    cbv
    refine hret _ (RetEv.ret eOk rfl ?_)
    show V.p (.bool (ilt (len zs) 8)) = _
    rw [hA.lt, hlen, hR2, show decide (Int.ofNat N < 8) = decide (N < 8) from decide_eq_decide.2 (by simp only [Int.ofNat_eq_natCast]; omega)]
end
section
open Go Go.Lx
open Go.Sx (vcIf)
end
section
open Go Go.Lx
open Go.Sx (vcIf)
end
section
open Go Go.Lx
open Go.Sx (vcIf)
theorem rhas_spec (lo hi key : List UInt8) : FnL Tryz.prog 71 [.p (.agg [.str lo, .str hi]), .p (.str key)] [] fun v own => v = .p (.bool (!(bl key lo) && bl key hi)) ∧ own = [] := by
  obtain ⟨R, hR⟩ : ∃ R, R = (!(bl key lo) && bl key hi) := ⟨_, rfl⟩
  rw [← hR]
  refine FnL.flat (R := fun v own => v = .p (.bool R)) ?_ (by rintro _ _ rfl; exact ⟨_, _, rfl, .refl _, rfl, rfl⟩)
  refine fn_of_vc eOk fOk fo71 Tryz.func71 rfl rfl rfl fun B hB => ?_
  intro _ _ _ _ _ _ _ _ _ _ _ _ _ _ _ _ _ _ _ bcond _ _ _ hA _ _ sl _ _ _ _ _ _ _ hL _ _ _ _ _ _ ret hret
  cbv
  by_cases h : Op.bytesLess key lo = true
  · have hf : R = false := by rw [hR, h]; rfl
    refine vcIf.no (by rw [hA.not, hL.sl, h]; rfl) ?_
    cbv
    refine hret _ (RetEv.ret eOk rfl ?_)
    rw [hf]
    rfl
  · have h := Bool.eq_false_iff.2 h
    have hf : R = Op.bytesLess key hi := by rw [hR, h]; rfl
    refine vcIf.yes (by rw [hA.not, hL.sl, h]; rfl) ?_
    cbv
    refine hret _ (RetEv.ret eOk rfl ?_)
    rw [hf]
    show V.p (.bool (bcond true (sl key hi) false)) = _
    rw [hA.cond, hL.sl]; rfl
end
section
open Go Go.Lx
open Go.Sx (vcIf)
structure Spn where
  lo : List UInt8
  hi : List UInt8
def Spn.v (c : Spn) : PV := .agg [.str c.lo, .str c.hi]
def pP (l : List Spn) : List PV := l.map Spn.v
theorem pP_length (l : List Spn) : (pP l).length = l.length := List.length_map _
theorem pP_get {l : List Spn} {i : Nat} {c : Spn} (h : l[i]? = some c) : (pP l)[i]? = some (.agg [.str c.lo, .str c.hi]) := by unfold pP; rw [List.getElem?_map, h]; rfl
theorem Spn.wf (c : Spn) : c.v.wf 2 := ⟨rfl, fun u hu => by simp [Spn.v, PV.cells] at hu; rcases hu with rfl | rfl <;> rfl⟩
def Spn.bad (c : Spn) : Bool := decide (17 < c.lo.length ∨ 17 < c.hi.length ∨ Op.bytesLess c.hi c.lo = true)
structure Tx where
  r : Int
  sp : List Spn
  ch : List Chg
def Tx.v (s : Tx) : PV := .agg [.int .i64 s.r, .sl (pP s.sp), .sl (cP s.ch)]
def Tx.okB (s : Tx) : Bool := decide (0 ≤ s.r ∧ s.sp.length ≤ 24 ∧ s.ch.length ≤ 24 ∧ chks s.ch = 0 ∧ s.sp.any Spn.bad = false)
theorem Tx.ok_iff (s : Tx) : s.okB = true ↔ (0 ≤ s.r ∧ s.sp.length ≤ 24 ∧ s.ch.length ≤ 24 ∧ chks s.ch = 0 ∧ s.sp.any Spn.bad = false) := by unfold Tx.okB; rw [decide_eq_true_eq]
def Tx.fit (s : Tx) : Prop := (-9223372036854775808 ≤ s.r ∧ s.r ≤ 9223372036854775807) ∧ (∀ c ∈ s.ch, c.fit) ∧ s.sp.length < 9223372036854775807 ∧ s.ch.length < 9223372036854775807
theorem frTxn1_spec (c : Spn) : FnL Tryz.prog 83 [.p (.agg [.str c.lo, .str c.hi])] [] fun v own => ∃ b, b = c.bad ∧ v = .p (.bool b) ∧ own = [] := by
  refine FnL.flat (R := fun v own => ∃ b, b = c.bad ∧ v = .p (.bool b)) ?_ (by rintro _ _ ⟨b, h, rfl⟩; exact ⟨_, _, rfl, .refl _, b, h, rfl, rfl⟩)
  obtain ⟨lo, hi⟩ := c
  obtain ⟨R, hR⟩ : ∃ R, R = Spn.bad ⟨lo, hi⟩ := ⟨_, rfl⟩
  rw [← hR]
  have hR2 : R = true ↔ (17 < lo.length ∨ 17 < hi.length ∨ Op.bytesLess hi lo = true) := by rw [hR]; unfold Spn.bad; rw [decide_eq_true_eq]
  obtain ⟨kn, hkn⟩ : ∃ n, n = lo.length := ⟨_, rfl⟩
  obtain ⟨vn, hvn⟩ : ∃ n, n = hi.length := ⟨_, rfl⟩
  rw [← hkn, ← hvn] at hR2
  have hmax : ∀ {imax : Int → Int → Int}, (∀ a b, imax a b = if b > a then b else a) → (17 < imax (Int.ofNat kn) (Int.ofNat vn) ↔ (17 < kn ∨ 17 < vn)) := fun h => by
    rw [h]; simp only [Int.ofNat_eq_natCast]; split <;> omega
  refine fn_of_vc eOk fOk fo83 Tryz.func83 rfl rfl rfl fun B hB => ?_
  intro _ _ _ _ _ _ _ _ _ _ _ _ _ _ _ _ _ bnot orb bcond _ _ _ hA _ sq sl _ imax _ _ _ slen _ hL _ _ _ _ _ _ ret hret
  have hk : slen lo = Int.ofNat kn := by rw [hL.slen, hkn]; rfl
  have hv : slen hi = Int.ofNat vn := by rw [hL.slen, hvn]; rfl
  have hm := hmax hL.imax
  cbv
  rw [hk, hv]
  obtain ⟨mx, hmx⟩ : ∃ m, m = imax (Int.ofNat kn) (Int.ofNat vn) := ⟨_, rfl⟩
  rw [← hmx] at hm ⊢
  by_cases h1 : 17 < mx
  · refine vcIf.yes (by rw [hA.lt]; exact decide_eq_true h1) ?_
    cbv
    repeat (first | (refine vcIf.yes ?_ ?_; (focus (simp [smW hA hL]; done)); cbv) | (refine vcIf.no ?_ ?_; (focus (simp [smW hA hL]; done)); cbv))
    exact hret _ (RetEv.ret eOk rfl ⟨true, (hR2.2 (by have := hm.1 h1; omega)).symm, rfl⟩)
  refine vcIf.no (by rw [hA.lt]; exact decide_eq_false h1) ?_
  cbv
  have hb : Op.bytesLess hi lo = R := by
    rw [Bool.eq_iff_iff, hR2]
    have := fun c => h1 (hm.2 c)
    exact ⟨fun h => .inr (.inr h), fun h => by rcases h with h | h | h; exact absurd (.inl h) this; exact absurd (.inr h) this; exact h⟩
  refine hret _ (RetEv.ret eOk rfl ⟨_, hb, ?_⟩)
  show V.p (.bool (bcond false true (bnot (orb (sl lo hi) (sq lo hi))))) = _
  rw [hA.cond, hA.not, hA.orb, hL.sl, hL.sq]
  exact congrArg (fun x => V.p (.bool x)) (bl_gt lo hi)
theorem idxSpns_spec (l : List Spn) (hl : l.length < 9223372036854775807) (zs : List PV) (hzs : zs = pP l) (f : FuncId) (p : Spn → Bool) (hf : ∀ z : Spn, FnL Tryz.prog f [.p (.agg [.str z.lo, .str z.hi])] [] fun v own => ∃ b, b = p z ∧ v = .p (.bool b) ∧ own = []) :
    FnL Tryz.prog 84 [.p (.sl zs), .p (.fn f)] [] fun v own => ∃ k : Int, (0 ≤ k ↔ l.any p = true) ∧ v = .p (.int .i64 k) ∧ own = [] := by
  have hzl : zs.length = l.length := by rw [hzs, pP_length]
  obtain ⟨N, hN⟩ : ∃ N, N = l.length := ⟨_, rfl⟩
  rw [← hN] at hzl hl
  refine fn_of_vc eOk fOk fo84 Tryz.func84 rfl rfl rfl fun B hB => ?_
  intro add _ _ _ _ _ _ _ _ _ _ _ _ _ _ _ _ _ _ _ _ _ _ _ _ _ sl _ _ _ _ len _ _ hL _ _ _ _ _ hcode ret hret
  have hlen : len zs = Int.ofNat N := by rw [hL.len, hzl]; rfl
  cbv
  rw [hlen]
  refine hcode _ _ _ (CodeEv.loop eOk fOk (ι := Nat) (fun s => [(0, .p (.sl zs)), (1, .p (.fn f)), (7, .p (.int .i64 (Int.ofNat N))), (8, .p (.int .i64 (Int.ofNat s)))])
    (fun s => []) (fun s => s ≤ N ∧ (l.take s).any p = false) (fun s => N - s) 0 ?_ ?_)
  · exact ⟨⟨rfl, rfl, rfl, rfl, trivial⟩, rfl, Nat.zero_le _, rfl⟩
  rintro i ⟨h1, h2⟩ rd hrd
  intro add1 _ _ _ _ _ _ _ _ _ _ _ _ _ _ _ _ _ _ _ _ _ _ hA1 _ _ _ _ _ _ _ _ _ _ hL1 _ _ _ hcall1 _ _
  have hadd1 : i < N → add1 .i64 (Int.ofNat i) 1 = Int.ofNat (i + 1) := fun _ => by rw [hA1.add, IntWalk.i64_in _ (by simp only [Int.ofNat_eq_natCast]; omega)]; rfl
  cbv
  by_cases hi : i < N
  · obtain ⟨z, hz⟩ := get_of_lt (show i < l.length by omega)
    have hzz : zs[i]? = some (.agg [.str z.lo, .str z.hi]) := by rw [hzs]; exact pP_get hz
    have htk : l.take (i + 1) = l.take i ++ [z] := by rw [List.take_add_one, hz]; rfl
    have hfz := hf z
    obtain ⟨P, hP⟩ : ∃ P, P = p z := ⟨_, rfl⟩
    rw [← hP] at hfz
    obtain ⟨zlo, hzlo⟩ : ∃ x, x = z.lo := ⟨_, rfl⟩
    obtain ⟨zhi, hzhi⟩ : ∃ x, x = z.hi := ⟨_, rfl⟩
    rw [← hzlo, ← hzhi] at hfz hzz
    refine vcIf.yes (by first | (simp [smW hA1 hL1, hi]; done) | (simp only [hi]; simp [smW hA1 hL1, hi]; done) | (simp [smW hA1 hL1, hi]; omega) | (simp only [hi]; simp [smW hA1 hL1, hi]; omega)) ?_
    cbv
    refine ⟨i, _, rfl, hzz, rfl, ?_⟩
    cbv
    refine hcall1 _ _ _ _ _ (CallEv.same hfz rfl ?_)
    rintro _ _ ⟨b, hb, rfl, rfl⟩
    rw [hP] at hb
    cbv
    cases b with
    | true =>
      cbv
      refine hret _ (RetEv.ret eOk rfl ⟨_, ⟨fun _ => List.any_eq_true.2 ⟨z, List.mem_of_getElem? hz, hb.symm⟩, fun _ => ?_⟩, rfl, rfl⟩)
      exact Int.natCast_nonneg i
    | false =>
      cbv
      refine hrd _ ⟨i + 1, [], ?_, ⟨hi, ?_⟩, rfl, ⟨rfl, rfl, rfl, ?_, trivial⟩, rfl, rfl, rfl, ?_⟩
      · show N - (i + 1) < N - i
        omega
      · rw [htk, List.any_append, h2]; simp [← hb]
      · show some (V.p (.int .i64 _)) = _
        rw [hadd1 hi]
      · rw [hB]; exact Nat.zero_le _
  · refine vcIf.no (by first | (simp [smW hA1 hL1, hi]; done) | (simp only [hi]; simp [smW hA1 hL1, hi]; done) | (simp [smW hA1 hL1, hi]; omega) | (simp only [hi]; simp [smW hA1 hL1, hi]; omega)) ?_
    cbv
    rw [List.take_of_length_le (by omega)] at h2
    exact hret _ (RetEv.ret eOk rfl ⟨-1, ⟨fun c => absurd c (by decide), fun c => by rw [h2] at c; cases c⟩, rfl, rfl⟩)
theorem hasSpns_spec (l : List Spn) (hl : l.length < 9223372036854775807) (zs : List PV) (hzs : zs = pP l) (f : FuncId) (p : Spn → Bool) (hf : ∀ z : Spn, FnL Tryz.prog f [.p (.agg [.str z.lo, .str z.hi])] [] fun v own => ∃ b, b = p z ∧ v = .p (.bool b) ∧ own = []) :
    FnL Tryz.prog 54 [.p (.sl zs), .p (.fn f)] [] fun v own => ∃ b, b = l.any p ∧ v = .p (.bool b) ∧ own = [] := by
  have hi := idxSpns_spec l hl zs hzs f p hf
  refine fn_of_vc eOk fOk fo54 Tryz.func54 rfl rfl rfl fun B hB => ?_
  intro _ _ _ _ _ _ _ _ _ _ _ _ _ ile _ _ _ _ _ _ _ _ _ hA _ _ sl _ _ _ _ _ _ _ _ _ _ _ hcall _ _ ret hret
  cbv
  refine hcall _ _ _ _ _ (CallEv.same hi rfl ?_)
  rintro _ _ ⟨k, hk, rfl, rfl⟩
  cbv
  refine hret _ (RetEv.ret eOk rfl ⟨_, rfl, ?_, rfl⟩)
  show V.p (.bool (ile 0 k)) = _
  rw [hA.le]
  congr 2
  rw [Bool.eq_iff_iff, decide_eq_true_eq]; exact hk
theorem frTxn_spec' (s : Tx) (hs1 : s.sp.length < 9223372036854775807) (hs2 : s.ch.length < 9223372036854775807) (xs zs : List PV) (hxs : xs = pP s.sp) (hzs : zs = cP s.ch) :
    FnL Tryz.prog 50 [.p (.agg [.int .i64 s.r, .sl xs, .sl zs])] [] fun v own => ∃ b, b = s.okB ∧ v = .p (.bool b) ∧ own = [] := by
  refine FnL.flat (R := fun v own => ∃ b, b = s.okB ∧ v = .p (.bool b)) ?_ (by rintro _ _ ⟨b, h, rfl⟩; exact ⟨_, _, rfl, .refl _, b, h, rfl, rfl⟩)
  have hR2 := s.ok_iff
  obtain ⟨R, hR⟩ : ∃ R, R = s.okB := ⟨_, rfl⟩
  rw [← hR] at hR2 ⊢
  clear hR
  obtain ⟨r, sp, ch⟩ := s
  simp only at hs1 hs2 hxs hzs hR2 ⊢
  have hxl : xs.length = sp.length := by rw [hxs, pP_length]
  have hzl : zs.length = ch.length := by rw [hzs, cP_length]
  have hc := all_spec ch hs2 zs hzs
  have hp := hasSpns_spec sp hs1 xs hxs _ _ frTxn1_spec
  obtain ⟨N, hN⟩ : ∃ N, N = ch.length := ⟨_, rfl⟩
  obtain ⟨M, hM⟩ : ∃ M, M = sp.length := ⟨_, rfl⟩
  rw [← hN] at hzl hR2
  rw [← hM] at hxl hR2
  refine fn_of_vc eOk fOk fo50 Tryz.func50 rfl rfl rfl fun B hB => ?_
  intro _ _ _ _ _ _ _ _ _ _ _ _ _ _ _ _ _ bnot _ bcond _ _ _ hA _ _ sl _ _ _ _ len _ _ hL _ _ _ hcall _ _ ret hret
  have hlx : len xs = Int.ofNat M := by rw [hL.len, hxl]; rfl
  have hlz : len zs = Int.ofNat N := by rw [hL.len, hzl]; rfl
  cbv
  by_cases h1 : 0 ≤ r
  rotate_left
  · have : R = false := by rw [Bool.eq_false_iff]; exact fun c => h1 (hR2.1 c).1
    refine vcIf.no (by first | (simp [smW hA hL, h1]; done) | (simp only [h1]; simp [smW hA hL, h1]; done) | (simp [smW hA hL, h1]; omega) | (simp only [h1]; simp [smW hA hL, h1]; omega)) ?_
    cbv
    repeat (first | (refine vcIf.yes ?_ ?_; (focus (simp [smW hA hL]; done)); cbv) | (refine vcIf.no ?_ ?_; (focus (simp [smW hA hL]; done)); cbv))
    exact hret _ (RetEv.ret eOk rfl ⟨false, this.symm, rfl⟩)
  refine vcIf.yes (by first | (simp [smW hA hL, h1]; done) | (simp only [h1]; simp [smW hA hL, h1]; done) | (simp [smW hA hL, h1]; omega) | (simp only [h1]; simp [smW hA hL, h1]; omega)) ?_
  cbv
  by_cases h2 : M ≤ 24
  rotate_left
  · have : R = false := by rw [Bool.eq_false_iff]; exact fun c => h2 (hR2.1 c).2.1
    refine vcIf.no (by first | (simp [smW hA hL, hlx, h2]; done) | (simp only [hlx, h2]; simp [smW hA hL, hlx, h2]; done) | (simp [smW hA hL, hlx, h2]; omega) | (simp only [hlx, h2]; simp [smW hA hL, hlx, h2]; omega)) ?_
    cbv
    repeat (first | (refine vcIf.yes ?_ ?_; (focus (simp [smW hA hL]; done)); cbv) | (refine vcIf.no ?_ ?_; (focus (simp [smW hA hL]; done)); cbv))
    exact hret _ (RetEv.ret eOk rfl ⟨false, this.symm, rfl⟩)
  refine vcIf.yes (by first | (simp [smW hA hL, hlx, h2]; done) | (simp only [hlx, h2]; simp [smW hA hL, hlx, h2]; done) | (simp [smW hA hL, hlx, h2]; omega) | (simp only [hlx, h2]; simp [smW hA hL, hlx, h2]; omega)) ?_
  cbv
  by_cases h3 : N ≤ 24
  rotate_left
  · have : R = false := by rw [Bool.eq_false_iff]; exact fun c => h3 (hR2.1 c).2.2.1
    refine vcIf.no (by first | (simp [smW hA hL, hlz, h3]; done) | (simp only [hlz, h3]; simp [smW hA hL, hlz, h3]; done) | (simp [smW hA hL, hlz, h3]; omega) | (simp only [hlz, h3]; simp [smW hA hL, hlz, h3]; omega)) ?_
    cbv
    repeat (first | (refine vcIf.yes ?_ ?_; (focus (simp [smW hA hL]; done)); cbv) | (refine vcIf.no ?_ ?_; (focus (simp [smW hA hL]; done)); cbv))
    exact hret _ (RetEv.ret eOk rfl ⟨false, this.symm, rfl⟩)
  refine vcIf.yes (by first | (simp [smW hA hL, hlz, h3]; done) | (simp only [hlz, h3]; simp [smW hA hL, hlz, h3]; done) | (simp [smW hA hL, hlz, h3]; omega) | (simp only [hlz, h3]; simp [smW hA hL, hlz, h3]; omega)) ?_
  cbv
  refine hcall _ _ _ _ _ (CallEv.same hc rfl ?_)
  rintro _ _ ⟨e, he, rfl, rfl⟩
  cbv
  by_cases h4 : e = 0
  rotate_left
  · have : R = false := by rw [Bool.eq_false_iff]; exact fun c => h4 (he.trans (hR2.1 c).2.2.2.1)
    refine vcIf.no (by first | (simp [smW hA hL, h4]; done) | (simp only [h4]; simp [smW hA hL, h4]; done) | (simp [smW hA hL, h4]; omega) | (simp only [h4]; simp [smW hA hL, h4]; omega)) ?_
    cbv
    repeat (first | (refine vcIf.yes ?_ ?_; (focus (simp [smW hA hL]; done)); cbv) | (refine vcIf.no ?_ ?_; (focus (simp [smW hA hL]; done)); cbv))
    exact hret _ (RetEv.ret eOk rfl ⟨false, this.symm, rfl⟩)
  refine vcIf.yes (by first | (simp [smW hA hL, h4]; done) | (simp only [h4]; simp [smW hA hL, h4]; done) | (simp [smW hA hL, h4]; omega) | (simp only [h4]; simp [smW hA hL, h4]; omega)) ?_
  cbv
  refine hcall _ _ _ _ _ (CallEv.same hp rfl ?_)
  rintro _ _ ⟨b, hb, rfl, rfl⟩
  have hbR : (!b) = R := by
    rw [Bool.eq_iff_iff, hR2, hb, Bool.not_eq_true']
    exact ⟨fun h => ⟨h1, h2, h3, he.symm.trans h4, h⟩, fun h => h.2.2.2.2⟩
  cbv
  refine hret _ (RetEv.ret eOk rfl ⟨_, hbR, ?_⟩)
  show V.p (.bool (bcond true (bnot b) false)) = _
  rw [hA.cond, hA.not]; rfl
theorem frTxn_spec (s : Tx) (hs : s.fit) (xs zs : List PV) (hxs : xs = pP s.sp) (hzs : zs = cP s.ch) :
    FnL Tryz.prog 50 [.p (.agg [.int .i64 s.r, .sl xs, .sl zs])] [] fun v own => ∃ b, b = s.okB ∧ v = .p (.bool b) ∧ own = [] := frTxn_spec' s hs.2.2.1 hs.2.2.2 xs zs hxs hzs
end
section
open Go Go.Lx
open Go.Sx (vcIf)
theorem rTxn_spec' (s : Tx) (hs1 : s.sp.length < 9223372036854775807) (hs2 : s.ch.length < 9223372036854775807) (xs zs : List PV) (hxs : xs = pP s.sp) (hzs : zs = cP s.ch) :
    FnL Tryz.prog 75 [.p (.agg [.int .i64 s.r, .sl xs, .sl zs])] [] fun v own => ∃ b, b = s.okB ∧ v = .p (.bool b) ∧ own = [] := by
  refine FnL.flat (R := fun v own => ∃ b, b = s.okB ∧ v = .p (.bool b)) ?_ (by rintro _ _ ⟨b, h, rfl⟩; exact ⟨_, _, rfl, .refl _, b, h, rfl, rfl⟩)
  have hR2 := s.ok_iff
  obtain ⟨R, hR⟩ : ∃ R, R = s.okB := ⟨_, rfl⟩
  rw [← hR] at hR2 ⊢
  clear hR
  obtain ⟨r, sp, ch⟩ := s
  simp only at hs1 hs2 hxs hzs hR2 ⊢
  have hxl : xs.length = sp.length := by rw [hxs, pP_length]
  have hzl : zs.length = ch.length := by rw [hzs, cP_length]
  have hc := rall_spec ch hs2 zs hzs
  obtain ⟨N, hN⟩ : ∃ N, N = ch.length := ⟨_, rfl⟩
  obtain ⟨M, hM⟩ : ∃ M, M = sp.length := ⟨_, rfl⟩
  rw [← hN] at hzl hR2
  rw [← hM] at hxl hR2 hs1
  refine fn_of_vc eOk fOk fo75 Tryz.func75 rfl rfl rfl fun B hB => ?_
  intro add _ _ _ _ _ _ _ _ _ _ _ _ _ _ _ _ _ orb _ _ _ _ hA _ sq sl _ _ _ _ len slen _ hL _ _ _ hcall _ hcode ret hret
  have hlx : len xs = Int.ofNat M := by rw [hL.len, hxl]; rfl
  have hlz : len zs = Int.ofNat N := by rw [hL.len, hzl]; rfl
  cbv
  by_cases h1 : 0 ≤ r
  rotate_left
  · have : R = false := by rw [Bool.eq_false_iff]; exact fun c => h1 (hR2.1 c).1
    refine vcIf.yes (by first | (simp [smW hA hL, h1]; done) | (simp only [h1]; simp [smW hA hL, h1]; done) | (simp [smW hA hL, h1]; omega) | (simp only [h1]; simp [smW hA hL, h1]; omega)) ?_
    cbv
    repeat (first | (refine vcIf.yes ?_ ?_; (focus (simp [smW hA hL]; done)); cbv) | (refine vcIf.no ?_ ?_; (focus (simp [smW hA hL]; done)); cbv))
    exact hret _ (RetEv.ret eOk rfl ⟨false, this.symm, rfl⟩)
  refine vcIf.no (by first | (simp [smW hA hL, h1]; done) | (simp only [h1]; simp [smW hA hL, h1]; done) | (simp [smW hA hL, h1]; omega) | (simp only [h1]; simp [smW hA hL, h1]; omega)) ?_
  cbv
  by_cases h2 : M ≤ 24
  rotate_left
  · have : R = false := by rw [Bool.eq_false_iff]; exact fun c => h2 (hR2.1 c).2.1
    refine vcIf.yes (by first | (simp [smW hA hL, hlx, h2]; done) | (simp only [hlx, h2]; simp [smW hA hL, hlx, h2]; done) | (simp [smW hA hL, hlx, h2]; omega) | (simp only [hlx, h2]; simp [smW hA hL, hlx, h2]; omega)) ?_
    cbv
    repeat (first | (refine vcIf.yes ?_ ?_; (focus (simp [smW hA hL]; done)); cbv) | (refine vcIf.no ?_ ?_; (focus (simp [smW hA hL]; done)); cbv))
    exact hret _ (RetEv.ret eOk rfl ⟨false, this.symm, rfl⟩)
  refine vcIf.no (by first | (simp [smW hA hL, hlx, h2]; done) | (simp only [hlx, h2]; simp [smW hA hL, hlx, h2]; done) | (simp [smW hA hL, hlx, h2]; omega) | (simp only [hlx, h2]; simp [smW hA hL, hlx, h2]; omega)) ?_
  cbv
  by_cases h3 : N ≤ 24
  rotate_left
  · have : R = false := by rw [Bool.eq_false_iff]; exact fun c => h3 (hR2.1 c).2.2.1
    refine vcIf.yes (by first | (simp [smW hA hL, hlz, h3]; done) | (simp only [hlz, h3]; simp [smW hA hL, hlz, h3]; done) | (simp [smW hA hL, hlz, h3]; omega) | (simp only [hlz, h3]; simp [smW hA hL, hlz, h3]; omega)) ?_
    cbv
    repeat (first | (refine vcIf.yes ?_ ?_; (focus (simp [smW hA hL]; done)); cbv) | (refine vcIf.no ?_ ?_; (focus (simp [smW hA hL]; done)); cbv))
    exact hret _ (RetEv.ret eOk rfl ⟨false, this.symm, rfl⟩)
  refine vcIf.no (by first | (simp [smW hA hL, hlz, h3]; done) | (simp only [hlz, h3]; simp [smW hA hL, hlz, h3]; done) | (simp [smW hA hL, hlz, h3]; omega) | (simp only [hlz, h3]; simp [smW hA hL, hlz, h3]; omega)) ?_
  cbv
  refine hcall _ _ _ _ _ (CallEv.same hc rfl ?_)
  rintro _ _ ⟨e, he, rfl, rfl⟩
  cbv
  by_cases h4 : e = 0
  rotate_left
  · have : R = false := by rw [Bool.eq_false_iff]; exact fun c => h4 (he.trans (hR2.1 c).2.2.2.1)
    refine vcIf.yes (by first | (simp [smW hA hL, h4]; done) | (simp only [h4]; simp [smW hA hL, h4]; done) | (simp [smW hA hL, h4]; omega) | (simp only [h4]; simp [smW hA hL, h4]; omega)) ?_
    cbv
    repeat (first | (refine vcIf.yes ?_ ?_; (focus (simp [smW hA hL]; done)); cbv) | (refine vcIf.no ?_ ?_; (focus (simp [smW hA hL]; done)); cbv))
    exact hret _ (RetEv.ret eOk rfl ⟨false, this.symm, rfl⟩)
  refine vcIf.no (by first | (simp [smW hA hL, h4]; done) | (simp only [h4]; simp [smW hA hL, h4]; done) | (simp [smW hA hL, h4]; omega) | (simp only [h4]; simp [smW hA hL, h4]; omega)) ?_
  cbv
  refine hcode _ _ _ (CodeEv.loop eOk fOk (ι := Nat) (fun s => [(1, .own 0 0), (3, .p (.int .i64 (Int.ofNat s)))])
    (fun s => [.st 74 [.p (.int .i64 r), .p (.sl xs), .p (.sl zs)]]) (fun s => s ≤ M ∧ (sp.take s).any Spn.bad = false) (fun s => M - s) 0 ?_ ?_)
  · exact ⟨(by repeat (first | exact trivial | refine And.intro rfl ?_)), rfl, Nat.zero_le _, rfl⟩
  rintro i ⟨k1, k2⟩ rd hrd
  intro add1 _ _ _ _ _ _ _ _ _ _ _ _ _ _ _ _ _ _ _ _ _ _ hA1 _ _ _ _ _ _ _ len1 _ _ hL1 _ _ _ _ _ hcode1
  have hlx1 : len1 xs = Int.ofNat M := by rw [hL1.len, hxl]; rfl
  have hadd1 : i < M → add1 .i64 (Int.ofNat i) 1 = Int.ofNat (i + 1) := fun _ => by rw [hA1.add, IntWalk.i64_in _ (by simp only [Int.ofNat_eq_natCast]; omega)]; rfl
  cbv
  by_cases hi : i < M
  · obtain ⟨c, hc⟩ := get_of_lt (show i < sp.length by omega)
    have hzz : xs[i]? = some (.agg [.str c.lo, .str c.hi]) := by rw [hxs]; exact pP_get hc
    have htk : sp.take (i + 1) = sp.take i ++ [c] := by rw [List.take_add_one, hc]; rfl
    have hcb : c.bad = true → false = R := fun h => by
      cases R with
      | false => rfl
      | true => have := List.any_eq_false.1 (hR2.1 rfl).2.2.2.2 c (List.mem_of_getElem? hc); exact absurd h this
    have hcg : c.bad = false → (sp.take (i + 1)).any Spn.bad = false := fun h => by rw [htk, List.any_append, k2]; simp [h]
    have hbad : c.bad = true ↔ (17 < c.lo.length ∨ 17 < c.hi.length ∨ Op.bytesLess c.hi c.lo = true) := by unfold Spn.bad; rw [decide_eq_true_eq]
    obtain ⟨C, hC⟩ : ∃ C, C = c.bad := ⟨_, rfl⟩
    rw [← hC] at hcb hcg hbad
    clear hC htk hc
    obtain ⟨lo, hi'⟩ := c
    simp only at hzz hbad
    obtain ⟨kn, hkn⟩ : ∃ n, n = lo.length := ⟨_, rfl⟩
    obtain ⟨vn, hvn⟩ : ∃ n, n = hi'.length := ⟨_, rfl⟩
    rw [← hkn, ← hvn] at hbad
    refine vcIf.yes (by first | (simp [smW hA1 hL1, hi, hlx1]; done) | (simp only [hi, hlx1]; simp [smW hA1 hL1, hi, hlx1]; done) | (simp [smW hA1 hL1, hi, hlx1]; omega) | (simp only [hi, hlx1]; simp [smW hA1 hL1, hi, hlx1]; omega)) ?_
    cbv
    refine hcode1 _ _ _ (CodeEv.drawT eOk fOk (by kernel_rfl) noX (.rd 0 (.rd 1 (.so 2 (.so 3 (.so 4 (.so 5 (.so 6 (.so 7 (.so 8 (.rd 9 (.rd 10 (.so 11 (.so 12 (.so 13 (.so 14 (.so 15 (.so 16 (.so 17 (.so 18 (.rd 19 (.rd 20 (.rd 21 (.rd 22 (.rd 23 (.rd 24 (.rd 25 (.rd 26 (.so 27 (.so 28 (.so 29 (.so 30 (.so 31 (.so 32 (.done)))))))))))))))))))))))))))))))))) (by kernel_rfl) (by kernel_rfl) ?_)
    intro _ _ _ _ _ _ _ _ _ _ _ _ _ _ _ _ _ bnot2 orb2 bcond2 _ _ _ hA2 _ sq2 sl2 _ _ _ _ _ slen2 _ hL2 _ _ _ _ _ _ _ hq2
    have hk2 : slen2 lo = Int.ofNat kn := by rw [hL2.slen, hkn]; rfl
    have hv2 : slen2 hi' = Int.ofNat vn := by rw [hL2.slen, hvn]; rfl
    cbv
    refine ⟨i, _, rfl, hzz, rfl, ?_⟩
    cbv
    by_cases c1 : 17 < kn
    · refine vcIf.yes (by first | (simp [smW hA2 hL2, hk2, c1]; done) | (simp only [hk2, c1]; simp [smW hA2 hL2, hk2, c1]; done) | (simp [smW hA2 hL2, hk2, c1]; omega) | (simp only [hk2, c1]; simp [smW hA2 hL2, hk2, c1]; omega)) ?_
      cbv
      repeat (first | (refine vcIf.yes ?_ ?_; (focus (simp [smW hA2 hL2]; done)); cbv) | (refine vcIf.no ?_ ?_; (focus (simp [smW hA2 hL2]; done)); cbv))
      refine hq2 _ ?_
      cbv
      repeat (first | (refine vcIf.yes ?_ ?_; (focus (simp [smW hA1 hL1]; done)); cbv) | (refine vcIf.no ?_ ?_; (focus (simp [smW hA1 hL1]; done)); cbv))
      exact hret _ (RetEv.ret eOk rfl ⟨false, hcb (hbad.2 (.inl c1)), rfl⟩)
    refine vcIf.no (by first | (simp [smW hA2 hL2, hk2, c1]; done) | (simp only [hk2, c1]; simp [smW hA2 hL2, hk2, c1]; done) | (simp [smW hA2 hL2, hk2, c1]; omega) | (simp only [hk2, c1]; simp [smW hA2 hL2, hk2, c1]; omega)) ?_
    cbv
    refine ⟨i, _, rfl, hzz, rfl, ?_⟩
    cbv
    by_cases c2 : 17 < vn
    · refine vcIf.yes (by first | (simp [smW hA2 hL2, hv2, c2]; done) | (simp only [hv2, c2]; simp [smW hA2 hL2, hv2, c2]; done) | (simp [smW hA2 hL2, hv2, c2]; omega) | (simp only [hv2, c2]; simp [smW hA2 hL2, hv2, c2]; omega)) ?_
      cbv
      repeat (first | (refine vcIf.yes ?_ ?_; (focus (simp [smW hA2 hL2]; done)); cbv) | (refine vcIf.no ?_ ?_; (focus (simp [smW hA2 hL2]; done)); cbv))
      refine hq2 _ ?_
      cbv
      repeat (first | (refine vcIf.yes ?_ ?_; (focus (simp [smW hA1 hL1]; done)); cbv) | (refine vcIf.no ?_ ?_; (focus (simp [smW hA1 hL1]; done)); cbv))
      exact hret _ (RetEv.ret eOk rfl ⟨false, hcb (hbad.2 (.inr (.inl c2))), rfl⟩)
    refine vcIf.no (by first | (simp [smW hA2 hL2, hv2, c2]; done) | (simp only [hv2, c2]; simp [smW hA2 hL2, hv2, c2]; done) | (simp [smW hA2 hL2, hv2, c2]; omega) | (simp only [hv2, c2]; simp [smW hA2 hL2, hv2, c2]; omega)) ?_
    cbv
    refine ⟨i, _, rfl, hzz, rfl, ?_⟩
    cbv
    refine ⟨i, _, rfl, hzz, rfl, ?_⟩
    cbv
    refine hq2 _ ?_
    cbv
    have hev : bcond2 false true (bnot2 (orb2 (sl2 lo hi') (sq2 lo hi'))) = Op.bytesLess hi' lo := by
      rw [hA2.cond, hA2.not, hA2.orb, hL2.sl, hL2.sq]
      exact bl_gt lo hi'
    by_cases c3 : Op.bytesLess hi' lo = true
    · refine vcIf.yes (hev.trans c3) ?_
      cbv
      exact hret _ (RetEv.ret eOk rfl ⟨false, hcb (hbad.2 (.inr (.inr c3))), rfl⟩)
    refine vcIf.no (hev.trans (by simpa using c3)) ?_
    cbv
    refine hrd _ ⟨i + 1, [], ?_, ⟨hi, ?_⟩, rfl, ⟨rfl, ?_, trivial⟩, rfl, rfl, rfl, ?_⟩
    · show M - (i + 1) < M - i
      omega
    · refine hcg (Bool.eq_false_iff.2 fun h => ?_)
      rcases hbad.1 h with h | h | h
      · exact c1 h
      · exact c2 h
      · exact c3 h
    · show some (V.p (.int .i64 _)) = _
      rw [hadd1 hi]
    · rw [hB]; exact Nat.zero_le _
  · refine vcIf.no (by first | (simp [smW hA1 hL1, hi, hlx1]; done) | (simp only [hi, hlx1]; simp [smW hA1 hL1, hi, hlx1]; done) | (simp [smW hA1 hL1, hi, hlx1]; omega) | (simp only [hi, hlx1]; simp [smW hA1 hL1, hi, hlx1]; omega)) ?_
    cbv
    rw [List.take_of_length_le (by omega)] at k2
    exact hret _ (RetEv.ret eOk rfl ⟨true, (hR2.2 ⟨h1, h2, h3, he.symm.trans h4, k2⟩).symm, rfl⟩)
theorem rTxn_spec (s : Tx) (hs : s.fit) (xs zs : List PV) (hxs : xs = pP s.sp) (hzs : zs = cP s.ch) :
    FnL Tryz.prog 75 [.p (.agg [.int .i64 s.r, .sl xs, .sl zs])] [] fun v own => ∃ b, b = s.okB ∧ v = .p (.bool b) ∧ own = [] := rTxn_spec' s hs.2.2.1 hs.2.2.2 xs zs hxs hzs
end
section
open Go Go.Lx
open Go.Sx (vcIf)
def smx (a b : List UInt8) : List UInt8 := if Op.bytesLess a b then b else a
def smn (a b : List UInt8) : List UInt8 := if Op.bytesLess b a then b else a
theorem smn_eq (a b : List UInt8) : (if Op.bytesLess a b || decide (a = b) then a else b) = smn a b := by
  have := bl_gt a b
  unfold smn
  rw [← show (!(Op.bytesLess a b || decide (a = b))) = Op.bytesLess b a from this]
  by_cases h : (Op.bytesLess a b || decide (a = b)) = true <;> simp [h]
theorem gt2 (a c : List UInt8) : (!(Op.bytesLess c a || decide (c = a))) = Op.bytesLess a c := bl_gt c a
def mt (s t : Spn) : Spn := if Op.bytesLess (smx s.lo t.lo) (smn s.hi t.hi) then ⟨smx s.lo t.lo, smn s.hi t.hi⟩ else ⟨[], []⟩
def spn (c : Chg) : Spn := if c.kind = 3 then ⟨c.key, c.val⟩ else ⟨c.key, c.key ++ [0]⟩
def hs (s : Spn) (k : List UInt8) : Bool := !(bl k s.lo) && bl k s.hi
theorem empty_spec (lo hi : List UInt8) : FnL Tryz.prog 22 [.p (.agg [.str lo, .str hi])] [] fun v own => ∃ b, b = !(Op.bytesLess lo hi) ∧ v = .p (.bool b) ∧ own = [] := by
  refine FnL.flat (R := fun v own => ∃ b, b = !(Op.bytesLess lo hi) ∧ v = .p (.bool b)) ?_ (by rintro _ _ ⟨b, h, rfl⟩; exact ⟨_, _, rfl, .refl _, b, h, rfl, rfl⟩)
  refine fn_of_vc eOk fOk fo22 Tryz.func22 rfl rfl rfl fun B hB => ?_
  intro _ _ _ _ _ _ _ _ _ _ _ _ _ _ _ _ _ bnot _ _ _ _ _ hA _ _ sl _ _ _ _ _ _ _ hL _ _ _ _ _ _ ret hret
  cbv
  refine hret _ (RetEv.ret eOk rfl ⟨_, ?_, rfl⟩)
  show bnot (sl lo hi) = _
  rw [hA.not, hL.sl]
theorem has_spec (lo hi key : List UInt8) : FnL Tryz.prog 79 [.p (.agg [.str lo, .str hi]), .p (.str key)] [] fun v own => ∃ b, b = hs ⟨lo, hi⟩ key ∧ v = .p (.bool b) ∧ own = [] := by
  obtain ⟨R, hR⟩ : ∃ R, R = hs ⟨lo, hi⟩ key := ⟨_, rfl⟩
  rw [← hR]
  unfold hs at hR
  simp only at hR
  refine FnL.flat (R := fun v own => ∃ b, b = R ∧ v = .p (.bool b)) ?_ (by rintro _ _ ⟨b, h, rfl⟩; exact ⟨_, _, rfl, .refl _, b, h, rfl, rfl⟩)
  refine fn_of_vc eOk fOk fo79 Tryz.func79 rfl rfl rfl fun B hB => ?_
  intro _ _ _ _ _ _ _ _ _ _ _ _ _ _ _ _ _ _ _ bcond _ _ _ hA _ _ sl _ _ _ _ _ _ _ hL _ _ _ _ _ _ ret hret
  cbv
  by_cases h : Op.bytesLess key lo = true
  · have hf : R = false := by rw [hR, h]; rfl
    refine vcIf.no (by rw [hA.not, hL.sl, h]; rfl) ?_
    cbv
    exact hret _ (RetEv.ret eOk rfl ⟨false, hf.symm, rfl⟩)
  · have h := Bool.eq_false_iff.2 h
    have hf : R = Op.bytesLess key hi := by rw [hR, h]; rfl
    refine vcIf.yes (by rw [hA.not, hL.sl, h]; rfl) ?_
    cbv
    refine hret _ (RetEv.ret eOk rfl ⟨_, ?_, rfl⟩)
    show bcond true (sl key hi) false = _
    rw [hA.cond, hL.sl, hf]; rfl
theorem next_spec (key : List UInt8) (hk : key.length < 9223372036854775807) : FnL Tryz.prog 70 [.p (.str key)] [] fun v own => ∃ k, k = key ++ [0] ∧ v = .p (.str k) ∧ own = [] := by
  refine FnL.flat (R := fun v own => ∃ k, k = key ++ [0] ∧ v = .p (.str k)) ?_ (by rintro _ _ ⟨b, h, rfl⟩; exact ⟨_, _, rfl, .refl _, b, h, rfl, rfl⟩)
  obtain ⟨n, hn⟩ : ∃ n, n = key.length := ⟨_, rfl⟩
  have hn1 : n + 1 ≤ 9223372036854775807 := by omega
  refine fn_of_vc eOk fOk fo70 Tryz.func70 rfl rfl rfl fun B hB => ?_
  intro _ _ _ _ _ _ _ _ _ _ _ _ _ _ _ _ _ _ _ _ _ _ _ _ cat _ _ _ _ _ _ _ _ _ hL _ _ _ _ _ _ ret hret
  cbv
  refine ⟨(), by rw [← hn]; exact hn1, ?_⟩
  cbv
  refine hret _ (RetEv.ret eOk rfl ⟨_, ?_, rfl⟩)
  exact hL.cat _ _
theorem meet_spec (a b c d : List UInt8) : FnL Tryz.prog 23 [.p (.agg [.str a, .str b]), .p (.agg [.str c, .str d])] [] fun v own => ∃ m, m = mt ⟨a, b⟩ ⟨c, d⟩ ∧ v = .p (.agg [.str m.lo, .str m.hi]) ∧ own = [] := by
  obtain ⟨⟨lo, hi⟩, hm⟩ : ∃ m, m = mt ⟨a, b⟩ ⟨c, d⟩ := ⟨_, rfl⟩
  rw [← hm]
  unfold mt at hm
  simp only at hm
  have h1 : Op.bytesLess (smx a c) (smn b d) = true → lo = smx a c ∧ hi = smn b d := fun h => by rw [if_pos h] at hm; exact Spn.mk.inj hm
  have h2 : ¬ Op.bytesLess (smx a c) (smn b d) = true → lo = [] ∧ hi = [] := fun h => by rw [if_neg h] at hm; exact Spn.mk.inj hm
  clear hm
  refine FnL.flat (R := fun v own => v = .p (.agg [.str lo, .str hi])) ?_ (by rintro _ _ rfl; exact ⟨_, _, rfl, .refl _, ⟨lo, hi⟩, rfl, rfl, rfl⟩)
  refine fn_of_vc eOk fOk fo23 Tryz.func23 rfl rfl rfl fun B hB => ?_
  intro _ _ _ _ _ _ _ _ _ _ _ _ _ _ _ _ _ _ _ _ _ _ _ _ _ _ _ _ _ smin smax _ _ _ hL _ _ _ hcall _ _ ret hret
  have e1 : smax a c = smx a c := hL.smax a c
  have e2 : smin b d = smn b d := (hL.smin b d).trans (smn_eq b d)
  cbv
  refine hcall _ _ _ _ _ (CallEv.same (empty_spec (smax a c) (smin b d)) rfl ?_)
  rintro _ _ ⟨t, ht, rfl, rfl⟩
  rw [e1, e2] at ht
  cbv
  by_cases htt : t = true
  · obtain ⟨g1, g2⟩ := h2 (by rw [htt] at ht; intro c; rw [c] at ht; cases ht)
    refine vcIf.yes htt ?_
    cbv
    exact hret _ (RetEv.ret eOk rfl (by rw [g1, g2]; rfl))
  · have htt := Bool.eq_false_iff.2 htt
    obtain ⟨g1, g2⟩ := h1 (by rw [htt] at ht; simpa using ht.symm)
    refine vcIf.no htt ?_
    cbv
    exact hret _ (RetEv.ret eOk rfl (by rw [g1, g2, ← e1, ← e2]; rfl))
theorem rmeet_spec (a b c d : List UInt8) : FnL Tryz.prog 64 [.p (.agg [.str a, .str b]), .p (.agg [.str c, .str d])] [] fun v own => ∃ m, m = mt ⟨a, b⟩ ⟨c, d⟩ ∧ v = .p (.agg [.str m.lo, .str m.hi]) ∧ own = [] := by
  obtain ⟨⟨lo, hi⟩, hm⟩ : ∃ m, m = mt ⟨a, b⟩ ⟨c, d⟩ := ⟨_, rfl⟩
  rw [← hm]
  unfold mt at hm
  simp only at hm
  refine FnL.flat (R := fun v own => v = .p (.agg [.str lo, .str hi])) ?_ (by rintro _ _ rfl; exact ⟨_, _, rfl, .refl _, ⟨lo, hi⟩, rfl, rfl, rfl⟩)
  refine fn_of_vc eOk fOk fo64 Tryz.func64 rfl rfl rfl fun B hB => ?_
  by_cases h1 : Op.bytesLess a c = true
  · have q1 : smx a c = c := if_pos h1
    rw [q1] at hm
    by_cases h2 : Op.bytesLess d b = true
    · have q2 : smn b d = d := if_pos h2
      rw [q2] at hm
      intro _ _ _ _ _ _ _ _ _ _ _ _ _ _ _ _ _ _ orb _ _ _ _ hA _ sq sl _ _ _ _ _ _ _ hL _ _ _ _ _ _ ret hret
      cbv
      refine vcIf.yes (by rw [hA.not, hA.orb, hL.sl, hL.sq, gt2]; exact h1) ?_
      cbv
      refine vcIf.yes (by rw [hL.sl]; exact h2) ?_
      cbv
      by_cases h3 : Op.bytesLess c d = true
      · rw [if_pos h3] at hm
        obtain ⟨g1, g2⟩ := Spn.mk.inj hm
        refine vcIf.no (by rw [hA.not, hL.sl, h3]; rfl) ?_
        cbv
        exact hret _ (RetEv.ret eOk rfl (by rw [g1, g2]; rfl))
      · rw [if_neg h3] at hm
        obtain ⟨g1, g2⟩ := Spn.mk.inj hm
        have h3 := Bool.eq_false_iff.2 h3
        refine vcIf.yes (by rw [hA.not, hL.sl, h3]; rfl) ?_
        cbv
        exact hret _ (RetEv.ret eOk rfl (by rw [g1, g2]; rfl))
    · have q2 : smn b d = b := if_neg h2
      rw [q2] at hm
      have h2 := Bool.eq_false_iff.2 h2
      intro _ _ _ _ _ _ _ _ _ _ _ _ _ _ _ _ _ _ orb _ _ _ _ hA _ sq sl _ _ _ _ _ _ _ hL _ _ _ _ _ _ ret hret
      cbv
      refine vcIf.yes (by rw [hA.not, hA.orb, hL.sl, hL.sq, gt2]; exact h1) ?_
      cbv
      refine vcIf.no (by rw [hL.sl]; exact h2) ?_
      cbv
      by_cases h3 : Op.bytesLess c b = true
      · rw [if_pos h3] at hm
        obtain ⟨g1, g2⟩ := Spn.mk.inj hm
        refine vcIf.no (by rw [hA.not, hL.sl, h3]; rfl) ?_
        cbv
        exact hret _ (RetEv.ret eOk rfl (by rw [g1, g2]; rfl))
      · rw [if_neg h3] at hm
        obtain ⟨g1, g2⟩ := Spn.mk.inj hm
        have h3 := Bool.eq_false_iff.2 h3
        refine vcIf.yes (by rw [hA.not, hL.sl, h3]; rfl) ?_
        cbv
        exact hret _ (RetEv.ret eOk rfl (by rw [g1, g2]; rfl))
  · have q1 : smx a c = a := if_neg h1
    rw [q1] at hm
    have h1 := Bool.eq_false_iff.2 h1
    by_cases h2 : Op.bytesLess d b = true
    · have q2 : smn b d = d := if_pos h2
      rw [q2] at hm
      intro _ _ _ _ _ _ _ _ _ _ _ _ _ _ _ _ _ _ orb _ _ _ _ hA _ sq sl _ _ _ _ _ _ _ hL _ _ _ _ _ _ ret hret
      cbv
      refine vcIf.no (by rw [hA.not, hA.orb, hL.sl, hL.sq, gt2]; exact h1) ?_
      cbv
      refine vcIf.yes (by rw [hL.sl]; exact h2) ?_
      cbv
      by_cases h3 : Op.bytesLess a d = true
      · rw [if_pos h3] at hm
        obtain ⟨g1, g2⟩ := Spn.mk.inj hm
        refine vcIf.no (by rw [hA.not, hL.sl, h3]; rfl) ?_
        cbv
        exact hret _ (RetEv.ret eOk rfl (by rw [g1, g2]; rfl))
      · rw [if_neg h3] at hm
        obtain ⟨g1, g2⟩ := Spn.mk.inj hm
        have h3 := Bool.eq_false_iff.2 h3
        refine vcIf.yes (by rw [hA.not, hL.sl, h3]; rfl) ?_
        cbv
        exact hret _ (RetEv.ret eOk rfl (by rw [g1, g2]; rfl))
    · have q2 : smn b d = b := if_neg h2
      rw [q2] at hm
      have h2 := Bool.eq_false_iff.2 h2
      intro _ _ _ _ _ _ _ _ _ _ _ _ _ _ _ _ _ _ orb _ _ _ _ hA _ sq sl _ _ _ _ _ _ _ hL _ _ _ _ _ _ ret hret
      cbv
      refine vcIf.no (by rw [hA.not, hA.orb, hL.sl, hL.sq, gt2]; exact h1) ?_
      cbv
      refine vcIf.no (by rw [hL.sl]; exact h2) ?_
      cbv
      by_cases h3 : Op.bytesLess a b = true
      · rw [if_pos h3] at hm
        obtain ⟨g1, g2⟩ := Spn.mk.inj hm
        refine vcIf.no (by rw [hA.not, hL.sl, h3]; rfl) ?_
        cbv
        exact hret _ (RetEv.ret eOk rfl (by rw [g1, g2]; rfl))
      · rw [if_neg h3] at hm
        obtain ⟨g1, g2⟩ := Spn.mk.inj hm
        have h3 := Bool.eq_false_iff.2 h3
        refine vcIf.yes (by rw [hA.not, hL.sl, h3]; rfl) ?_
        cbv
        exact hret _ (RetEv.ret eOk rfl (by rw [g1, g2]; rfl))
end
section
open Go Go.Lx
open Go.Sx (vcIf)
theorem chSpan_spec (k : Int) (ky vl : List UInt8) (hk : ky.length < 140737488355328) : FnL Tryz.prog 78 [.p (.agg [.int .i64 k, .str ky, .str vl])] [] fun v own => ∃ m, m = spn ⟨k, ky, vl⟩ ∧ v = .p (.agg [.str m.lo, .str m.hi]) ∧ own = [] := by
  obtain ⟨⟨lo, hi⟩, hm⟩ : ∃ m, m = spn ⟨k, ky, vl⟩ := ⟨_, rfl⟩
  rw [← hm]
  unfold spn at hm
  simp only at hm
  refine FnL.flat (R := fun v own => v = .p (.agg [.str lo, .str hi])) ?_ (by rintro _ _ rfl; exact ⟨_, _, rfl, .refl _, ⟨lo, hi⟩, rfl, rfl, rfl⟩)
  have hnx := next_spec ky (by omega)
  refine fn_of_vc eOk fOk fo78 Tryz.func78 rfl rfl rfl fun B hB => ?_
  by_cases h3 : k = 3
  · rw [if_pos h3] at hm
    obtain ⟨g1, g2⟩ := Spn.mk.inj hm
    intro _ _ _ _ _ _ _ _ _ _ _ _ _ _ _ _ _ _ _ _ _ _ _ hA _ _ _ _ _ _ _ _ _ _ hL _ _ _ _ _ hcode ret hret
    cbv
    refine vcIf.yes (by first | (simp [smW hA hL, h3]; done) | (simp only [h3]; simp [smW hA hL, h3]; done) | (simp [smW hA hL, h3]; omega) | (simp only [h3]; simp [smW hA hL, h3]; omega)) ?_
    cbv
    exact hret _ (RetEv.ret eOk rfl (by rw [g1, g2]; rfl))
  · rw [if_neg h3] at hm
    obtain ⟨g1, g2⟩ := Spn.mk.inj hm
    intro _ _ _ _ _ _ _ _ _ _ _ _ _ _ _ _ _ _ _ _ _ _ _ hA _ _ _ _ _ _ _ _ _ _ hL _ _ _ _ _ hcode ret hret
    cbv
    refine vcIf.no (by first | (simp [smW hA hL, h3]; done) | (simp only [h3]; simp [smW hA hL, h3]; done) | (simp [smW hA hL, h3]; omega) | (simp only [h3]; simp [smW hA hL, h3]; omega)) ?_
    cbv
    refine hcode _ _ _ (CodeEv.drawA eOk fOk (by kernel_rfl) (Xof 1 [1]) (by kernel_rfl) (by kernel_rfl) (by kernel_rfl) ?_)
    intro _ _ _ _ _ _ _ _ _ _ _ _ _ _ _ _ _ _ _ _ _ _ _ _ _ _ _ _ _ _ _ _ _ _ _ _ _ _ hcall1 _ _ _ hq1
    cbv
    refine hcall1 _ _ _ _ _ (CallEv.same hnx rfl ?_)
    rintro _ _ ⟨nk, hnk, rfl, rfl⟩
    cbv
    refine hq1 _ ?_
    cbv
    exact hret _ (RetEv.ret eOk rfl (by rw [g1, g2, hnk]; rfl))
theorem rSpan_spec (k : Int) (ky vl : List UInt8) (hk : ky.length < 140737488355328) : FnL Tryz.prog 91 [.p (.agg [.int .i64 k, .str ky, .str vl])] [] fun v own => ∃ m, m = spn ⟨k, ky, vl⟩ ∧ v = .p (.agg [.str m.lo, .str m.hi]) ∧ own = [] := by
  obtain ⟨⟨lo, hi⟩, hm⟩ : ∃ m, m = spn ⟨k, ky, vl⟩ := ⟨_, rfl⟩
  rw [← hm]
  unfold spn at hm
  simp only at hm
  obtain ⟨n, hn⟩ : ∃ n, n = ky.length := ⟨_, rfl⟩
  have hn1 : n + 1 ≤ 9223372036854775807 := by omega
  refine FnL.flat (R := fun v own => v = .p (.agg [.str lo, .str hi])) ?_ (by rintro _ _ rfl; exact ⟨_, _, rfl, .refl _, ⟨lo, hi⟩, rfl, rfl, rfl⟩)
  refine fn_of_vc eOk fOk fo91 Tryz.func91 rfl rfl rfl fun B hB => ?_
  by_cases h3 : k = 3
  · rw [if_pos h3] at hm
    obtain ⟨g1, g2⟩ := Spn.mk.inj hm
    intro _ _ _ _ _ _ _ _ _ _ _ _ _ _ _ _ _ _ _ _ _ _ _ hA cat _ _ _ _ _ _ _ _ _ hL _ _ _ _ _ _ ret hret
    cbv
    refine vcIf.yes (by first | (simp [smW hA hL, h3]; done) | (simp only [h3]; simp [smW hA hL, h3]; done) | (simp [smW hA hL, h3]; omega) | (simp only [h3]; simp [smW hA hL, h3]; omega)) ?_
    cbv
    exact hret _ (RetEv.ret eOk rfl (by rw [g1, g2]; rfl))
  · rw [if_neg h3] at hm
    obtain ⟨g1, g2⟩ := Spn.mk.inj hm
    intro _ _ _ _ _ _ _ _ _ _ _ _ _ _ _ _ _ _ _ _ _ _ _ hA cat _ _ _ _ _ _ _ _ _ hL _ _ _ _ _ _ ret hret
    have hcat : cat ky [0] = ky ++ [0] := hL.cat _ _
    cbv
    refine vcIf.no (by first | (simp [smW hA hL, h3]; done) | (simp only [h3]; simp [smW hA hL, h3]; done) | (simp [smW hA hL, h3]; omega) | (simp only [h3]; simp [smW hA hL, h3]; omega)) ?_
    cbv
    refine ⟨(), by rw [← hn]; exact hn1, ?_⟩
    cbv
    exact hret _ (RetEv.ret eOk rfl (by rw [g1, g2, ← hcat]; rfl))
def cut1 (s : Spn) (c : Chg) : List Chg :=
  if c.kind = 3 then (if Op.bytesLess (mt s (spn c)).lo (mt s (spn c)).hi then [⟨3, (mt s (spn c)).lo, (mt s (spn c)).hi⟩] else []) else if hs s c.key then [c] else []
def cutL (s : Spn) (l : List Chg) : List Chg := l.flatMap (cut1 s)
theorem cutL_next (s : Spn) {l : List Chg} {i : Nat} {c : Chg} (h : l[i]? = some c) : cutL s (l.take (i + 1)) = cutL s (l.take i) ++ cut1 s c := by
  rw [List.take_add_one, h, cutL, List.flatMap_append]; simp [cutL]
theorem cut1_len (s : Spn) (c : Chg) : (cut1 s c).length ≤ 1 := by
  unfold cut1; split
  · split <;> simp
  · split <;> simp
theorem cutL_len (s : Spn) : ∀ l, (cutL s l).length ≤ l.length
  | [] => Nat.le_refl _
  | c :: l => by
    have := cutL_len s l
    have h1 := cut1_len s c
    simp only [cutL, List.flatMap_cons, List.length_append, List.length_cons] at this ⊢
    omega
end
section
open Go Go.Lx
open Go.Sx (vcIf)
end
end Go.Proofs.YtegkojnngdlfaaaGreat
