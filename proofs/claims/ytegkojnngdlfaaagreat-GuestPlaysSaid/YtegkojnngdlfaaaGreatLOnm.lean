/- LOn1, LOn2, LOn4, LOn3, LOn5 together. Conditions: on sizes. -/
import Derived.Test.YtegkojnngdlfaaaGreatLApm
import Derived.Test.YtegkojnngdlfaaaGreatLYm
set_option maxRecDepth 100000
set_option maxHeartbeats 16000000
set_option linter.unusedSimpArgs false
set_option linter.unusedVariables false
section
namespace Go.Proofs.YtegkojnngdlfaaaGreat
open Go Go.Lx
open Go.Sx (vcIf)
def Pos (ps : List Pr) (k : List UInt8) (i : Nat) : Prop := i ≤ ps.length ∧ (∀ q p, q < i → ps[q]? = some p → bl p.key k = true) ∧ ∀ q p, i ≤ q → ps[q]? = some p → bl p.key k = false
theorem srt_lt {ps : List Pr} (h : Srt ps) {i j : Nat} {a b : Pr} (ha : ps[i]? = some a) (hb : ps[j]? = some b) (hij : i < j) : bl a.key b.key = true := by
  obtain ⟨h1, e1⟩ := List.getElem?_eq_some_iff.1 ha
  obtain ⟨h2, e2⟩ := List.getElem?_eq_some_iff.1 hb
  have := (List.pairwise_iff_getElem.1 h) i j h1 h2 hij
  rw [e1, e2] at this; exact this
def cmpI (a b : List UInt8) : Int := if bl a b = true then -1 else if bl b a = true then 1 else 0
theorem cmpI_neg (a b : List UInt8) : decide (cmpI a b < 0) = bl a b := by
  unfold cmpI
  by_cases h : bl a b = true
  · rw [if_pos h, h]; rfl
  · rw [if_neg h, Bool.eq_false_iff.2 h]
    by_cases h2 : bl b a = true
    · rw [if_pos h2]; rfl
    · rw [if_neg h2]; rfl
theorem cmpI_zero (a b : List UInt8) : decide (cmpI a b = 0) = decide (a = b) := by
  unfold cmpI
  rcases bl_tri a b with h | h | h
  · rw [if_pos h, show decide (a = b) = false from decide_eq_false (bl_ne h)]; rfl
  · subst h; simp [bl_irrefl]
  · rw [if_neg (by rw [bl_asymm h]; decide), if_pos h, show decide (a = b) = false from decide_eq_false fun c => bl_ne h c.symm]; rfl
theorem oCNan_spec (a : List UInt8) : FnL Tryz.prog 116 [.p (.str a)] [] fun v own => v = .p (.bool false) ∧ own = [] := by
  refine FnL.flat (R := fun v own => v = .p (.bool false)) ?_ (by rintro _ _ rfl; exact ⟨_, _, rfl, .refl _, rfl, rfl⟩)
  refine fn_of_vc eOk fOk fo116 Tryz.func116 rfl rfl rfl fun B hB => ?_
  intro _ _ _ _ _ _ _ _ _ _ _ _ _ _ _ _ _ bnot _ _ _ _ _ hA _ sq _ _ _ _ _ _ _ _ hL _ _ _ _ _ _ ret hret
  cbv
  refine hret _ (RetEv.ret eOk rfl ?_)
  show V.p (.bool (bnot (sq a a))) = _
  rw [hA.not, hL.sq]; simp
theorem cmpS_spec (a b : List UInt8) : FnL Tryz.prog 111 [.p (.str a), .p (.str b)] [] fun v own => ∃ k, k = cmpI a b ∧ v = .p (.int .i64 k) ∧ own = [] := by
  refine FnL.flat (R := fun v own => ∃ k, k = cmpI a b ∧ v = .p (.int .i64 k)) ?_ (by rintro _ _ ⟨k, h, rfl⟩; exact ⟨_, _, rfl, .refl _, k, h, rfl, rfl⟩)
  have h1 := oCNan_spec a
  have h2 := oCNan_spec b
  have hg := gt2 a b
  refine fn_of_vc eOk fOk fo111 Tryz.func111 rfl rfl rfl fun B hB => ?_
  intro _ _ _ _ _ _ _ _ _ _ _ _ _ _ _ _ beq _ orb _ _ _ _ hA _ sq sl _ _ _ _ _ _ _ hL _ _ _ hcall _ _ ret hret
  cbv
  refine hcall _ _ _ _ _ (CallEv.same h1 rfl ?_)
  rintro _ _ ⟨rfl, rfl⟩
  cbv
  refine hcall _ _ _ _ _ (CallEv.same h2 rfl ?_)
  rintro _ _ ⟨rfl, rfl⟩
  cbv
  by_cases h : bl a b = true
  · refine vcIf.yes (by rw [hL.sl]; exact h) ?_
    cbv
    exact hret _ (RetEv.ret eOk rfl ⟨-1, by rw [cmpI, if_pos h], rfl⟩)
  · refine vcIf.no (by rw [hL.sl]; exact Bool.eq_false_iff.2 h) ?_
    cbv
    by_cases h3 : bl b a = true
    · refine vcIf.yes (by first | (rw [hL.sl]; exact h3) | (simp only [hA.not, hA.orb, hA.beq, hL.sl, hL.sq]; rw [bl_gt]; exact h3)) ?_
      cbv
      exact hret _ (RetEv.ret eOk rfl ⟨1, by rw [cmpI, if_neg h, if_pos h3], rfl⟩)
    · refine vcIf.no (by first | (rw [hL.sl]; exact Bool.eq_false_iff.2 h3) | (simp only [hA.not, hA.orb, hA.beq, hL.sl, hL.sq]; rw [bl_gt]; exact Bool.eq_false_iff.2 h3)) ?_
      cbv
      exact hret _ (RetEv.ret eOk rfl ⟨0, by rw [cmpI, if_neg h, if_neg h3], rfl⟩)
theorem cmpPr_spec (a b vl : List UInt8) : FnL Tryz.prog 110 [.p (.agg [.str a, .str vl]), .p (.str b)] [] fun v own => ∃ k, k = cmpI a b ∧ v = .p (.int .i64 k) ∧ own = [] := by
  refine FnL.flat (R := fun v own => ∃ k, k = cmpI a b ∧ v = .p (.int .i64 k)) ?_ (by rintro _ _ ⟨k, h, rfl⟩; exact ⟨_, _, rfl, .refl _, k, h, rfl, rfl⟩)
  have h1 := cmpS_spec a b
  refine fn_of_vc eOk fOk fo110 Tryz.func110 rfl rfl rfl fun B hB => ?_
  intro _ _ _ _ _ _ _ _ _ _ _ _ _ _ _ _ _ _ _ _ _ _ _ _ _ _ _ _ _ _ _ _ _ _ _ _ _ _ hcall _ _ ret hret
  cbv
  refine hcall _ _ _ _ _ (CallEv.same h1 rfl ?_)
  rintro _ _ ⟨k, hk, rfl, rfl⟩
  cbv
  exact hret _ (RetEv.ret eOk rfl ⟨k, hk, rfl⟩)
theorem bsf_spec (ps : List Pr) (hs : Srt ps) (hn : ps.length < 281474976710656) (key : List UInt8) (zs : List PV) (hzs : zs = prP ps) :
    FnL Tryz.prog 109 [.p (.sl zs), .p (.str key), .p (.fn 110)] [] fun v own => ∃ (i : Nat) (t : Bool), Pos ps key i ∧ (t = true ↔ ∃ p, ps[i]? = some p ∧ p.key = key) ∧ v = .p (.tup [.int .i64 (Int.ofNat i), .bool t]) ∧ own = [] := by
  refine FnL.flat (R := fun v own => ∃ (i : Nat) (t : Bool), Pos ps key i ∧ (t = true ↔ ∃ p, ps[i]? = some p ∧ p.key = key) ∧ v = .p (.tup [.int .i64 (Int.ofNat i), .bool t])) ?_ (by rintro _ _ ⟨i, t, h, h', rfl⟩; exact ⟨_, _, rfl, .refl _, i, t, h, h', rfl, rfl⟩)
  obtain ⟨N, hN⟩ : ∃ n, n = ps.length := ⟨_, rfl⟩
  have hzl : zs.length = N := by rw [hzs, prP_length, hN]
  rw [← hN] at hn
  refine fn_of_vc eOk fOk fo109 Tryz.func109 rfl rfl rfl fun B hB => ?_
  intro add _ _ _ _ _ _ _ _ _ shr ieq _ _ _ _ _ _ _ _ _ _ _ hA _ _ sl _ _ _ _ len _ _ hL _ _ _ hcall _ hcode ret hret
  have hlen : len zs = Int.ofNat N := by rw [hL.len, hzl]; rfl
  cbv
  rw [hlen]
  refine hcode _ _ _ (CodeEv.loop eOk fOk (ι := Nat × Nat) (fun s => [(0, .p (.sl zs)), (1, .p (.str key)), (2, .p (.fn 110)), (8, .p (.int .i64 (Int.ofNat N))), (9, .p (.int .i64 (Int.ofNat s.1))), (10, .p (.int .i64 (Int.ofNat s.2)))])
    (fun s => []) (fun s => s.1 ≤ s.2 ∧ s.2 ≤ N ∧ (∀ q p, q < s.1 → ps[q]? = some p → bl p.key key = true) ∧ (∀ q p, s.2 ≤ q → ps[q]? = some p → bl p.key key = false)) (fun s => s.2 - s.1) (0, N) ?_ ?_)
  · exact ⟨(by repeat (first | exact trivial | refine And.intro rfl ?_)), rfl, Nat.zero_le _, Nat.le_refl _, fun q b h => absurd h (Nat.not_lt_zero q), fun q b h hb => by have := (List.getElem?_eq_some_iff.1 hb).1; simp only at h; omega⟩
  rintro ⟨i, j⟩ ⟨k1, k2, k3, k4⟩ rd hrd
  simp only at k1 k2 k3 k4
  by_cases hi : i < j
  · refine Exists.elim (show ∃ h, h = (i + j) / 2 from ⟨_, rfl⟩) fun h hh => ?_
    refine Exists.elim (get_of_lt (show h < ps.length by omega)) fun b hb => ?_
    have hzh : zs[h]? = some (.agg [.str b.key, .str b.val]) := by rw [hzs]; exact prP_get hb
    have hle := cmpPr_spec b.key key b.val
    have hng := cmpI_neg b.key key
    have hlt1 := fun (q : Nat) (c : Pr) (hc : ps[q]? = some c) (e : q < h) => srt_lt hs hc hb e
    have hlt2 := fun (q : Nat) (c : Pr) (hc : ps[q]? = some c) (e : h < q) => srt_lt hs hb hc e
    have hself := fun (c : Pr) (hc : ps[h]? = some c) => Option.some.inj (hc.symm.trans hb)
    obtain ⟨bk, bv⟩ := b
    simp only at hzh hle hng hlt1 hlt2
    intro add1 _ _ _ _ _ _ _ _ _ shr1 _ _ _ _ _ _ _ _ _ iwrap1 _ _ hA1 _ _ _ _ _ _ _ _ _ _ hL1 _ _ _ hcall1 _ _
    have f1 : add1 .i64 (Int.ofNat i) (Int.ofNat j) = Int.ofNat (i + j) := by rw [hA1.add, IntWalk.i64_in _ (by simp only [Int.ofNat_eq_natCast]; omega)]; rfl
    have f2 : iwrap1 .u64 (Int.ofNat (i + j)) = Int.ofNat (i + j) := by rw [hA1.wrap, IntKind.wrap_u64]; simp only [Int.ofNat_eq_natCast]; omega
    have f3 : shr1 .u64 (Int.ofNat (i + j)) 1 = Int.ofNat h := by
      rw [hA1.shr, show (min 1 IntKind.u64.bits) = 1 from rfl, show (2 : Int) ^ 1 = 2 from rfl, Int.fdiv_eq_ediv_of_nonneg _ (by decide), hh]; rfl
    have f4 : iwrap1 .i64 (Int.ofNat h) = Int.ofNat h := by rw [hA1.wrap, IntWalk.i64_in _ (by simp only [Int.ofNat_eq_natCast]; omega)]
    have f5 : iwrap1 .i64 (shr1 .u64 (iwrap1 .u64 (add1 .i64 (Int.ofNat i) (Int.ofNat j))) 1) = Int.ofNat h := by rw [f1, f2, f3, f4]
    have f6 : add1 .i64 (Int.ofNat h) 1 = Int.ofNat (h + 1) := by rw [hA1.add, IntWalk.i64_in _ (by simp only [Int.ofNat_eq_natCast]; omega)]; rfl
    clear f1 f2 f3 f4
    cbv
    refine vcIf.yes (by first | (simp [smW hA1 hL1, hi]; done) | (simp only [hi]; simp [smW hA1 hL1, hi]; done) | (simp [smW hA1 hL1, hi]; omega) | (simp only [hi]; simp [smW hA1 hL1, hi]; omega)) ?_
    cbv
    refine ⟨h, _, f5, hzh, rfl, ?_⟩
    cbv
    refine hcall1 _ _ _ _ _ (CallEv.same hle rfl ?_)
    rintro _ _ ⟨kk, hkk, rfl, rfl⟩
    rw [← hkk] at hng
    cbv
    by_cases htt : bl bk key = true
    · refine vcIf.yes (by rw [hA1.lt, hng]; exact htt) ?_
      cbv
      refine hrd _ ⟨(h + 1, j), [], ?_, ⟨?_, k2, ?_, k4⟩, rfl, ⟨rfl, rfl, rfl, rfl, ?_, rfl, trivial⟩, rfl, rfl, rfl, ?_⟩
      · simp only; omega
      · simp only; omega
      · intro q c hq hc
        rcases Nat.lt_succ_iff_lt_or_eq.1 hq with e | e
        · exact bl_trans (hlt1 q c hc e) htt
        · subst e; rw [hself c hc]; exact htt
      · show some (V.p (.int .i64 _)) = _
        rw [f5, f6]
      · rw [hB]; exact Nat.le_refl _
    · have htb := Bool.eq_false_iff.2 htt
      refine vcIf.no (by rw [hA1.lt, hng]; exact htb) ?_
      cbv
      refine hrd _ ⟨(i, h), [], ?_, ⟨?_, ?_, k3, ?_⟩, rfl, ⟨rfl, rfl, rfl, rfl, rfl, ?_, trivial⟩, rfl, rfl, rfl, ?_⟩
      · simp only; omega
      · simp only; omega
      · simp only; omega
      · intro q c hq hc
        simp only at hq
        rcases Nat.lt_or_eq_of_le hq with e | e
        · exact Bool.eq_false_iff.2 fun d => htt (bl_trans (hlt2 q c hc e) d)
        · subst e; rw [hself c hc]; exact htb
      · show some (V.p (.int .i64 _)) = _
        rw [f5]
      · rw [hB]; exact Nat.le_refl _
  · have hij : j = i := by omega
    rw [hij] at k4
    have hpos : Pos ps key i := ⟨by omega, k3, k4⟩
    by_cases hiN : i < N
    · refine Exists.elim (get_of_lt (show i < ps.length by omega)) fun b hb => ?_
      have hzi : zs[i]? = some (.agg [.str b.key, .str b.val]) := by rw [hzs]; exact prP_get hb
      have hle := cmpPr_spec b.key key b.val
      have hng := cmpI_zero b.key key
      have hres : ∀ t : Bool, t = decide (b.key = key) → (t = true ↔ ∃ p, ps[i]? = some p ∧ p.key = key) := fun t ht => by
        rw [ht, decide_eq_true_iff, hb]
        exact ⟨fun h => ⟨b, rfl, h⟩, fun ⟨p, hp, h⟩ => by cases hp; exact h⟩
      obtain ⟨bk, bv⟩ := b
      simp only at hzi hle hng hres
      clear hb
      intro add1 _ _ _ _ _ _ _ _ _ shr1 _ _ _ _ _ _ _ _ _ iwrap1 _ _ hA1 _ _ _ _ _ _ _ _ _ _ hL1 _ _ _ hcall1 _ _
      cbv
      refine vcIf.no (by first | (simp [smW hA1 hL1, hi]; done) | (simp only [hi]; simp [smW hA1 hL1, hi]; done) | (simp [smW hA1 hL1, hi]; omega) | (simp only [hi]; simp [smW hA1 hL1, hi]; omega)) ?_
      cbv
      refine vcIf.yes (by first | (simp [smW hA hL, hiN]; done) | (simp only [hiN]; simp [smW hA hL, hiN]; done) | (simp [smW hA hL, hiN]; omega) | (simp only [hiN]; simp [smW hA hL, hiN]; omega)) ?_
      cbv
      refine ⟨i, _, rfl, hzi, rfl, ?_⟩
      cbv
      refine hcall _ _ _ _ _ (CallEv.same hle rfl ?_)
      rintro _ _ ⟨kk, hkk, rfl, rfl⟩
      rw [← hkk] at hng
      cbv
      refine hret _ (RetEv.ret eOk rfl ⟨i, ieq kk 0, hpos, hres _ (by rw [hA.eq]; exact hng), ?_⟩)
      simp [oneOf, hA.cond, cond]; rfl
    · have hres : (false = true ↔ ∃ p, ps[i]? = some p ∧ p.key = key) := ⟨fun h => (by cases h), fun ⟨p, hp, _⟩ => by have := lt_of_some hp; omega⟩
      intro add1 _ _ _ _ _ _ _ _ _ shr1 _ _ _ _ _ _ _ _ _ iwrap1 _ _ hA1 _ _ _ _ _ _ _ _ _ _ hL1 _ _ _ hcall1 _ _
      cbv
      refine vcIf.no (by first | (simp [smW hA1 hL1, hi]; done) | (simp only [hi]; simp [smW hA1 hL1, hi]; done) | (simp [smW hA1 hL1, hi]; omega) | (simp only [hi]; simp [smW hA1 hL1, hi]; omega)) ?_
      cbv
      refine vcIf.no (by first | (simp [smW hA hL, hiN]; done) | (simp only [hiN]; simp [smW hA hL, hiN]; done) | (simp [smW hA hL, hiN]; omega) | (simp only [hiN]; simp [smW hA hL, hiN]; omega)) ?_
      cbv
      refine hret _ (RetEv.ret eOk rfl ⟨i, false, hpos, hres, ?_⟩)
      simp [oneOf, hA.cond, cond]; rfl
theorem find_spec (ps : List Pr) (hs : Srt ps) (hn : ps.length < 281474976710656) (key : List UInt8) (zs : List PV) (hzs : zs = prP ps) :
    FnL Tryz.prog 99 [.p (.sl zs), .p (.str key)] [] fun v own => ∃ (i : Nat) (t : Bool), Pos ps key i ∧ (t = true ↔ ∃ p, ps[i]? = some p ∧ p.key = key) ∧ v = .p (.tup [.int .i64 (Int.ofNat i), .bool t]) ∧ own = [] := by
  refine FnL.flat (R := fun v own => ∃ (i : Nat) (t : Bool), Pos ps key i ∧ (t = true ↔ ∃ p, ps[i]? = some p ∧ p.key = key) ∧ v = .p (.tup [.int .i64 (Int.ofNat i), .bool t])) ?_ (by rintro _ _ ⟨i, t, h, h', rfl⟩; exact ⟨_, _, rfl, .refl _, i, t, h, h', rfl, rfl⟩)
  have h1 := bsf_spec ps hs hn key zs hzs
  refine fn_of_vc eOk fOk fo99 Tryz.func99 rfl rfl rfl fun B hB => ?_
  intro _ _ _ _ _ _ _ _ _ _ _ _ _ _ _ _ _ _ _ _ _ _ _ _ _ _ sl _ _ _ _ _ _ _ _ _ _ _ hcall _ _ ret hret
  cbv
  refine hcall _ _ _ _ _ (CallEv.same h1 rfl ?_)
  rintro _ _ ⟨i, t, a1, a2, rfl, rfl⟩
  cbv
  exact hret _ (RetEv.ret eOk rfl ⟨i, t, a1, a2, rfl⟩)
end Go.Proofs.YtegkojnngdlfaaaGreat
end
section
namespace Go.Proofs.YtegkojnngdlfaaaGreat
open Go Go.Lx
open Go.Sx (vcIf)
theorem del_list (xs ys ws zs : List PV) (K n i j n1 : Nat) (hK : xs.length = K) (hn : n ≤ K) (hij : i ≤ j) (hjn : j ≤ n) (hw : Wf 2 xs) (z0 : PV) (hz0 : z0.wf 2)
    (hy : ys = (xs.drop j).take (n - j)) (h1 : n1 = i + ys.length) (hws : ws = xs.take i ++ (ys ++ xs.drop (i + ys.length))) (m : Nat) (hm : m = n - n1) (hzs : zs = ws.take n1 ++ (List.replicate m z0 ++ ws.drop (n1 + m))) :
    n1 = n - (j - i) ∧ n1 ≤ n ∧ ws.length = K ∧ zs.length = K ∧ Wf 2 zs ∧ zs.take n1 = xs.take i ++ (xs.drop j).take (n - j) := by
  have hyl : ys.length = n - j := by rw [hy]; simp; omega
  have hwl : ws.length = K := by rw [hws]; simp; omega
  have hww : Wf 2 ws := by rw [hws, hy]; exact hw.take.append (hw.drop.take.append hw.drop)
  have hn1 : n1 = n - (j - i) := by omega
  refine ⟨hn1, by omega, hwl, by rw [hzs]; simp; omega, ?_, ?_⟩
  · rw [hzs]
    exact hww.take.append (Wf.append (fun x hx => by rw [List.eq_of_mem_replicate hx]; exact hz0) hww.drop)
  · rw [hzs, List.take_append_of_le_length (by simp; omega), List.take_take, Nat.min_self, hws, ← List.append_assoc, List.take_append_of_le_length (by simp; omega), List.take_of_length_le (by simp; omega), hy]
theorem delP_spec (xs : List PV) (K n i j : Nat) (hK : xs.length = K) (hn : n ≤ K) (hij : i ≤ j) (hjn : j ≤ n) (hw : Wf 2 xs) (hs : n < 281474976710656) :
    FnL Tryz.prog 100 [.vw 0 2 0 n (some K), .p (.int .i64 (Int.ofNat i)), .p (.int .i64 (Int.ofNat j))] [.arr 84 2 xs]
      fun v own => ∃ n' xs', v = .vw 0 2 0 n' (some K) ∧ own = [.arr 84 2 xs'] ∧ n' = n - (j - i) ∧ xs'.length = K ∧ Wf 2 xs' ∧ xs'.take n' = xs.take i ++ (xs.drop j).take (n - j) := by
  have hsame : i = j → xs.take n = xs.take i ++ (xs.drop j).take (n - j) := fun h => by
    subst h
    rw [← List.take_add]
    congr 1; omega
  refine fn_of_vc eOk fOk fo100 Tryz.func100 rfl rfl rfl fun B hB => ?_
  intro _ _ _ _ _ _ _ _ _ _ _ _ _ _ _ _ _ _ _ _ _ _ _ hA _ _ _ _ _ _ _ _ _ _ _ _ hop _ _ _ hcode ret hret
  cbv
  refine ⟨i, j, n, rfl, rfl, hA.ofNat n, hij, hjn, by omega, (fun c h => by cases h; omega), fun o1 n1 c1 ho1 hn1 hc1 => ?_⟩
  cbv
  by_cases he : i = j
  · have hsame := hsame he
    refine vcIf.yes (by rw [hA.eq]; exact decide_eq_true (by rw [he])) ?_
    cbv
    exact hret _ (RetEv.ret eOk rfl ⟨n, xs, rfl, rfl, by omega, hK, hw, hsame⟩)
  · refine vcIf.no (by rw [hA.eq]; exact decide_eq_false (fun c => he (Int.ofNat.inj c))) ?_
    cbv
    refine hcode _ _ _ (CodeEv.drawT eOk fOk (by kernel_rfl) (Xof 1 [0]) (.rd 0 (.rd 1 (.rd 2 (.rd 3 (.rd 4 (.rd 5 (.acts (.cons 6 (.so 7 .done) .nil)))))))) (by kernel_rfl) (by kernel_rfl) ?_)
    intro _ _ _ _ _ _ _ _ _ _ _ _ _ _ _ _ _ _ _ _ _ _ _ _ _ _ _ _ _ _ _ _ _ _ _ _ hop2 _ _ _ _ _ hq2
    cbv
    refine ⟨0, i, rfl, rfl, Nat.zero_le _, by omega, (fun c h => by cases h; omega), fun o2 n2 ho2 hn2 => ?_⟩
    obtain rfl : 0 = o2 := by omega
    obtain rfl : i = n2 := by omega
    cbv
    refine ⟨j, n, rfl, rfl, hjn, by omega, (fun c h => by cases h; omega), fun o3 n3 ho3 hn3 => ?_⟩
    obtain rfl : j = o3 := by omega
    cbv
    refine Exists.elim (show ∃ ys, ys = (xs.drop j).take n3 from ⟨_, rfl⟩) fun ys hys => ?_
    refine hop2 _ _ _ _ (OpEv.appendIn eOk (ys := ys) rfl rfl rfl rfl rfl rfl rfl rfl rfl rfl (by rw [hys]; rfl) (by rw [hys]; exact hw.drop.take) ?_ ?_ fun m1 ws hm1 hws => ?_)
    · rw [hys]; simp; omega
    · omega
    have hyl : ys.length = n - j := by rw [hys]; simp; omega
    have hwl : ws.length = K := by rw [hws]; simp; omega
    cbv
    refine hq2 _ ?_
    cbv
    refine ⟨m1, n, hA.ofNat m1, hA.ofNat n, by omega, by omega, (fun c h => by cases h; omega), fun o4 n4 ho4 hn4 => ?_⟩
    obtain rfl : m1 = o4 := by omega
    cbv
    refine hop _ _ _ _ (OpEv.clear eOk rfl rfl rfl rfl rfl rfl rfl (Pr.wf ⟨[], []⟩) rfl rfl rfl fun zs hzs => ?_)
    have key := del_list xs ys ws zs K n i j m1 hK hn hij hjn hw _ (Pr.wf ⟨[], []⟩) (by rw [hys, hn3]) hm1 (by rw [hws]; simp) n4 hn4 hzs
    obtain ⟨g1, g2, g3, g4, g5, g6⟩ := key
    cbv
    exact hret _ (RetEv.ret eOk rfl ⟨m1, zs, rfl, rfl, g1, g4, g5, g6⟩)
end Go.Proofs.YtegkojnngdlfaaaGreat
end
section
namespace Go.Proofs.YtegkojnngdlfaaaGreat
open Go Go.Lx
theorem filter_mid {α : Type} (f : α → Bool) (ps : List α) (i j : Nat) (hij : i ≤ j) (h1 : ∀ q p, q < i → ps[q]? = some p → f p = true) (h2 : ∀ q p, i ≤ q → q < j → ps[q]? = some p → f p = false)
    (h3 : ∀ q p, j ≤ q → ps[q]? = some p → f p = true) : ps.filter f = ps.take i ++ ps.drop j := by
  have e : ps = ps.take i ++ ((ps.drop i).take (j - i) ++ ps.drop j) := by
    have e2 : ps.drop j = (ps.drop i).drop (j - i) := by rw [List.drop_drop]; congr 1; omega
    rw [e2, List.take_append_drop, List.take_append_drop]
  have g1 : (ps.take i).filter f = ps.take i := List.filter_eq_self.2 fun a ha => by
    obtain ⟨q, hq, hqa⟩ := List.mem_iff_getElem?.1 ha |>.imp fun q h => (⟨(List.getElem?_eq_some_iff.1 h).1, h⟩ : q < (ps.take i).length ∧ _)
    rw [List.getElem?_take] at hqa
    split at hqa
    · exact h1 q a (by assumption) hqa
    · cases hqa
  have g2 : ((ps.drop i).take (j - i)).filter f = [] := List.filter_eq_nil_iff.2 fun a ha => by
    obtain ⟨q, hqa⟩ := List.mem_iff_getElem?.1 ha
    rw [List.getElem?_take] at hqa
    split at hqa
    · rw [List.getElem?_drop] at hqa
      rw [h2 (i + q) a (by omega) (by omega) hqa]; decide
    · cases hqa
  have g3 : (ps.drop j).filter f = ps.drop j := List.filter_eq_self.2 fun a ha => by
    obtain ⟨q, hqa⟩ := List.mem_iff_getElem?.1 ha
    rw [List.getElem?_drop] at hqa
    exact h3 (j + q) a (by omega) hqa
  conv => lhs; rw [e]
  rw [List.filter_append, List.filter_append, g1, g2, g3]; rfl
theorem ins_pos (c : Chg) (hc : c.kind = 1) : ∀ (ps : List Pr) (i : Nat), Pos ps c.key i → ins c ps = ps.take i ++ ⟨c.key, c.val⟩ :: (ps.drop i).filter (nh c)
  | [], i, ⟨h, _, _⟩ => by simp [ins]
  | p :: r, 0, ⟨_, _, h⟩ => by
    have hlt := h 0 p (Nat.le_refl _) rfl
    have : ¬ Op.bytesLess p.key c.key = true := fun d => by rw [show bl p.key c.key = true from d] at hlt; cases hlt
    rw [ins, if_neg this]; rfl
  | p :: r, i + 1, ⟨h0, h1, h2⟩ => by
    have hlt : Op.bytesLess p.key c.key = true := h1 0 p (by omega) rfl
    have h3 : c.kind ≠ 3 := by rw [hc]; decide
    have hnh : ¬ hs (spn c) p.key = true := fun d => (bl_ne hlt) ((hs_spn h3 p.key).1 d)
    rw [ins, if_pos hlt, if_neg hnh, ins_pos c hc r i ⟨by simpa using h0, fun q a hq ha => h1 (q + 1) a (by omega) (by simpa using ha), fun q a hq ha => h2 (q + 1) a (by omega) (by simpa using ha)⟩]
    rfl
theorem nh_iff {c : Chg} (h : c.kind ≠ 3) (p : Pr) : nh c p = decide (p.key ≠ c.key) := by
  unfold nh
  by_cases e : p.key = c.key
  · rw [(hs_spn h p.key).2 e]; simp [e]
  · rw [Bool.eq_false_iff.2 fun d => e ((hs_spn h p.key).1 d)]; simp [e]
theorem pos_ne {ps : List Pr} (hs : Srt ps) {k : List UInt8} {i : Nat} (hp : Pos ps k i) (hnot : ¬ ∃ p, ps[i]? = some p ∧ p.key = k) {q : Nat} {p : Pr} (h : ps[q]? = some p) : p.key ≠ k := by
  intro e
  by_cases hq : q < i
  · have := hp.2.1 q p hq h
    rw [e, bl_irrefl] at this; cases this
  · by_cases hqi : q = i
    · subst hqi; exact hnot ⟨p, h, e⟩
    · obtain ⟨a, ha⟩ := get_of_lt (show i < ps.length by have := (List.getElem?_eq_some_iff.1 h).1; omega)
      have h1 := srt_lt hs ha h (by omega)
      rw [e, hp.2.2 i a (Nat.le_refl _) ha] at h1; cases h1
theorem pos_ne_there {ps : List Pr} (hs : Srt ps) {k : List UInt8} {i : Nat} {b : Pr} (hb : ps[i]? = some b) (hk : b.key = k) {q : Nat} {p : Pr} (h : ps[q]? = some p) (hq : q ≠ i) : p.key ≠ k := by
  intro e
  rcases Nat.lt_or_gt_of_ne hq with c | c
  · have := srt_lt hs h hb c
    rw [e, hk, bl_irrefl] at this; cases this
  · have := srt_lt hs hb h c
    rw [e, hk, bl_irrefl] at this; cases this
theorem one_put_there {ps : List Pr} (hs : Srt ps) (c : Chg) (hc : c.kind = 1) {i : Nat} (hp : Pos ps c.key i) {b : Pr} (hb : ps[i]? = some b) (hk : b.key = c.key) : one ps c = ps.set i ⟨c.key, c.val⟩ := by
  have h3 : c.kind ≠ 3 := by rw [hc]; decide
  have hil := (List.getElem?_eq_some_iff.1 hb).1
  rw [one_eq, if_pos hc, ins_pos c hc ps i hp]
  rw [filter_mid (nh c) (ps.drop i) 0 1 (by omega) (fun q p h => absurd h (Nat.not_lt_zero q)) ?_ ?_]
  · rw [List.take_zero, List.nil_append, List.drop_drop, List.set_eq_take_append_cons_drop, if_pos hil]
  · intro q p h1 h2 h
    have : q = 0 := by omega
    subst this
    rw [List.getElem?_drop] at h
    rw [nh_iff h3]
    rw [show i + 0 = i from rfl, hb] at h; cases h
    simp [hk]
  · intro q p h1 h
    rw [List.getElem?_drop] at h
    rw [nh_iff h3]
    exact decide_eq_true (pos_ne_there hs hb hk h (by omega))
theorem one_put_new {ps : List Pr} (hs : Srt ps) (c : Chg) (hc : c.kind = 1) {i : Nat} (hp : Pos ps c.key i) (hnot : ¬ ∃ p, ps[i]? = some p ∧ p.key = c.key) : one ps c = ps.take i ++ ⟨c.key, c.val⟩ :: ps.drop i := by
  have h3 : c.kind ≠ 3 := by rw [hc]; decide
  rw [one_eq, if_pos hc, ins_pos c hc ps i hp]
  congr 2
  refine List.filter_eq_self.2 fun a ha => ?_
  obtain ⟨q, hqa⟩ := List.mem_iff_getElem?.1 ha
  rw [List.getElem?_drop] at hqa
  rw [nh_iff h3]
  exact decide_eq_true (pos_ne hs hp hnot hqa)
theorem one_clear_there {ps : List Pr} (hs : Srt ps) (c : Chg) (hc : c.kind = 2) {i : Nat} {b : Pr} (hb : ps[i]? = some b) (hk : b.key = c.key) : one ps c = ps.take i ++ ps.drop (i + 1) := by
  have h3 : c.kind ≠ 3 := by rw [hc]; decide
  rw [one_eq, if_neg (by rw [hc]; decide)]
  refine filter_mid _ _ _ _ (by omega) (fun q p hq h => ?_) (fun q p h1 h2 h => ?_) fun q p hq h => ?_
  · rw [nh_iff h3]; exact decide_eq_true (pos_ne_there hs hb hk h (by omega))
  · have : q = i := by omega
    subst this
    rw [hb] at h; cases h
    rw [nh_iff h3]; simp [hk]
  · rw [nh_iff h3]; exact decide_eq_true (pos_ne_there hs hb hk h (by omega))
theorem one_clear_not {ps : List Pr} (hs : Srt ps) (c : Chg) (hc : c.kind = 2) {i : Nat} (hp : Pos ps c.key i) (hnot : ¬ ∃ p, ps[i]? = some p ∧ p.key = c.key) : one ps c = ps := by
  have h3 : c.kind ≠ 3 := by rw [hc]; decide
  rw [one_eq, if_neg (by rw [hc]; decide)]
  refine List.filter_eq_self.2 fun a ha => ?_
  obtain ⟨q, hqa⟩ := List.mem_iff_getElem?.1 ha
  rw [nh_iff h3]
  exact decide_eq_true (pos_ne hs hp hnot hqa)
theorem one_wipe {ps : List Pr} (c : Chg) (hc : c.kind = 3) {i k : Nat} (hp : Pos ps c.key i) (hk : Pos ps c.val k) : one ps c = ps.take i ++ ps.drop (max i k) := by
  have hh : ∀ p : Pr, nh c p = !(!(bl p.key c.key) && bl p.key c.val) := fun p => by
    unfold nh; rw [show spn c = ⟨c.key, c.val⟩ by unfold spn; rw [if_pos hc]]; rfl
  rw [one_eq, if_neg (by rw [hc]; decide)]
  refine filter_mid _ _ _ _ (by omega) (fun q p hq h => ?_) (fun q p h1 h2 h => ?_) fun q p hq h => ?_
  · rw [hh, hp.2.1 q p hq h]; simp
  · rw [hh, hp.2.2 q p h1 h, hk.2.1 q p (by omega) h]; simp
  · rw [hh, hk.2.2 q p (by omega) h]; simp
theorem one_len_le (ps : List Pr) (hs : Srt ps) (c : Chg) : (one ps c).length ≤ ps.length + 1 := by
  rw [one_eq]
  split
  · have : ∀ l : List Pr, (ins c l).length ≤ l.length + 1 := by
      intro l
      induction l with
      | nil => simp [ins]
      | cons p r ih =>
        rw [ins]
        split
        · split <;> simp <;> omega
        · have := List.length_filter_le (nh c) (p :: r)
          simp only [List.length_cons] at this ⊢; omega
    exact this ps
  · have := List.length_filter_le (nh c) ps
    omega
end Go.Proofs.YtegkojnngdlfaaaGreat
end
section
namespace Go.Lx
open Go
open Go.Sx (NP Keeps Hp Keep0 TI TEnv TOk Kd)
theorem CallEv.overlapsS {B : Base} {P : Program} {TE : TEnv} (hE : TOk P TE) {f : FuncId} {fn : Func} {t e r : TypeId} {ti te : TI} {sz : Nat}
    (hf : P.funcs[f]? = some fn) (hname : (fn.name == "runtime.NumGoroutine") = false) (hb : fn.body.isNone = true) (hn : Extern.findNext fn = none) (he : Extern.find fn = some (Extern.SlicesOverlaps.overlaps #[t, t] #[r]))
    (hti : TE.get t = some ti) (hkd : ti.kd = .slice e) (hte : TE.get e = some te) (hsz : te.size = sz) {X : Nat → Bool} {st : St} {k : V → St → Prop} {i j o1 n1 o2 n2 : Nat} {c1 c2 : Option Nat} {T1 T2 : TypeId} {xs ys : List PV}
    (hi : st.own[i]? = some (.arr T1 sz xs)) (hj : st.own[j]? = some (.arr T2 sz ys)) (hij : i ≠ j) (h1 : 0 < n1) (h2 : 0 < n2)
    (hk : k (.p (.bool false)) st) : CallEv B P f [.vw i sz o1 n1 c1, .vw j sz o2 n2 c2] X st k := by
  subst hsz
  exact CallEv.overlaps hE hf hname hb hn he hti hkd hte hi hj hij h1 h2 hk
end Go.Lx
namespace Go.Proofs.YtegkojnngdlfaaaGreat
open Go Go.Lx
open Go.Sx (vcIf)
theorem ins_end (xs zs : List PV) (K n : Nat) (y : PV) (hK : xs.length = K) (hn : n + 1 ≤ K) (hw : Wf 2 xs) (hy : y.wf 2) (hzs : zs = xs.take n ++ ([y] ++ xs.drop (n + 1))) :
    zs.length = K ∧ Wf 2 zs ∧ zs.take (n + 1) = xs.take n ++ y :: (xs.drop n).take (n - n) := by
  refine ⟨by rw [hzs]; simp; omega, by rw [hzs]; exact hw.take.append (Wf.append (Wf.one hy) hw.drop), ?_⟩
  rw [hzs, ← List.append_assoc, List.take_append_of_le_length (by simp; omega), List.take_of_length_le (by simp; omega)]; simp
theorem ins_new (xs zs : List PV) (K n K' : Nat) (y z0 : PV) (hK : xs.length = K) (hn : n ≤ K) (hK' : n + 1 ≤ K') (hw : Wf 2 xs) (hy : y.wf 2) (hz : z0.wf 2) (hzs : zs = (xs.drop 0).take n ++ ([y] ++ List.replicate (K' - (n + 1)) z0)) :
    zs.length = K' ∧ Wf 2 zs ∧ zs.take (n + 1) = xs.take n ++ y :: (xs.drop n).take (n - n) := by
  rw [List.drop_zero] at hzs
  refine ⟨by rw [hzs]; simp; omega, by rw [hzs]; exact hw.take.append (Wf.append (Wf.one hy) fun x hx => by rw [List.eq_of_mem_replicate hx]; exact hz), ?_⟩
  rw [hzs, ← List.append_assoc, List.take_append_of_le_length (by simp; omega), List.take_of_length_le (by simp; omega)]; simp
theorem ins_mid (xs zs us ws : List PV) (K n i K' m1 m2 : Nat) (y z0 : PV) (hK : xs.length = K) (hn : n ≤ K) (hi : i ≤ n) (hK' : n + 1 ≤ K') (hw : Wf 2 xs) (hy : y.wf 2) (hz : z0.wf 2)
    (hzs : zs = (xs.drop 0).take i ++ List.replicate (K' - i) z0) (hm1 : m1 = 1) (hus : us = zs.take i ++ ([y].take m1 ++ zs.drop (i + m1))) (hm2 : m2 = n - i) (hws : ws = us.take (i + 1) ++ (((xs.drop i).take (n - i)).take m2 ++ us.drop (i + 1 + m2))) :
    ws.length = K' ∧ Wf 2 ws ∧ ws.take (n + 1) = xs.take i ++ y :: (xs.drop i).take (n - i) := by
  subst hm1
  rw [List.drop_zero] at hzs
  have hzl : zs.length = K' := by rw [hzs]; simp; omega
  have hzw : Wf 2 zs := by rw [hzs]; exact hw.take.append fun x hx => by rw [List.eq_of_mem_replicate hx]; exact hz
  have hul : us.length = K' := by rw [hus]; simp; omega
  have huw : Wf 2 us := by rw [hus]; exact hzw.take.append (Wf.append (Wf.one hy).take hzw.drop)
  have hut : us.take (i + 1) = xs.take i ++ [y] := by
    rw [hus, ← List.append_assoc, List.take_append_of_le_length (by simp; omega), List.take_of_length_le (by simp; omega), hzs, List.take_append_of_le_length (by simp; omega), List.take_take, Nat.min_self]; rfl
  have hdl : ((xs.drop i).take (n - i)).take m2 = (xs.drop i).take (n - i) := List.take_of_length_le (by simp; omega)
  rw [hdl, hut] at hws
  refine ⟨by rw [hws]; simp; omega, by rw [hws]; exact Wf.append (hw.take.append (Wf.one hy)) (Wf.append hw.drop.take huw.drop), ?_⟩
  rw [hws, ← List.append_assoc, List.take_append_of_le_length (by simp; omega), List.take_of_length_le (by simp; omega)]; simp
theorem ins_room (xs us ws : List PV) (K n i m1 m2 : Nat) (y : PV) (hK : xs.length = K) (hn : n + 1 ≤ K) (hi : i ≤ n) (hw : Wf 2 xs) (hy : y.wf 2)
    (hm1 : m1 = n - i) (hus : us = xs.take (i + 1) ++ (((xs.drop i).take (n + 1 - i)).take m1 ++ xs.drop (i + 1 + m1))) (hm2 : m2 = 1) (hws : ws = us.take i ++ ([y].take m2 ++ us.drop (i + m2))) :
    ws.length = K ∧ Wf 2 ws ∧ ws.take (n + 1) = xs.take i ++ y :: (xs.drop i).take (n - i) := by
  subst hm2
  have hul : us.length = K := by rw [hus]; simp; omega
  have huw : Wf 2 us := by rw [hus]; exact hw.take.append (Wf.append hw.drop.take.take hw.drop)
  have hdl : ((xs.drop i).take (n + 1 - i)).take m1 = (xs.drop i).take (n - i) := by rw [List.take_take]; congr 1; omega
  rw [hdl] at hus
  have hut : us.take i = xs.take i := by rw [hus, List.take_append_of_le_length (by simp; omega), List.take_take, Nat.min_eq_left (by omega)]
  have hud : us.drop (i + 1) = (xs.drop i).take (n - i) ++ xs.drop (i + 1 + m1) := by
    rw [hus, List.drop_append_of_le_length (by simp; omega), List.drop_of_length_le (by simp; omega)]; rfl
  refine ⟨by rw [hws]; simp; omega, by rw [hws]; exact huw.take.append (Wf.append (Wf.one hy).take huw.drop), ?_⟩
  rw [hws, hut, hud]
  have e : xs.take i ++ ([y].take 1 ++ ((xs.drop i).take (n - i) ++ xs.drop (i + 1 + m1))) = (xs.take i ++ y :: (xs.drop i).take (n - i)) ++ xs.drop (i + 1 + m1) := by simp
  rw [e, List.take_append_of_le_length (by simp; omega), List.take_of_length_le (by simp; omega)]
theorem insP_spec (xs : List PV) (K n i : Nat) (hK : xs.length = K) (hn : n ≤ K) (hin : i ≤ n) (hw : Wf 2 xs) (hs : (n + 1) * 32 ≤ 140737488355328) (p : Pr) (vs : List PV) (hvs : vs = [p.v]) :
    FnL Tryz.prog 101 [.vw 0 2 0 n (some K), .p (.int .i64 (Int.ofNat i)), .vw 1 2 0 1 none] [.arr 84 2 xs, .arr 84 2 vs]
      fun v own => ∃ K' xs', v = .vw 0 2 0 (n + 1) (some K') ∧ own = [.arr 84 2 xs', .arr 84 2 vs] ∧ xs'.length = K' ∧ n + 1 ≤ K' ∧ Wf 2 xs' ∧ xs'.take (n + 1) = xs.take i ++ p.v :: (xs.drop i).take (n - i) := by
  have hvl : vs.length = 1 := by rw [hvs]; rfl
  have hvw : Wf 2 vs := by rw [hvs]; exact Wf.one p.wf
  obtain ⟨N, hN⟩ : ∃ N, N = n + 1 := ⟨_, rfl⟩
  rw [← hN] at hs ⊢
  obtain ⟨I, hI⟩ : ∃ I, I = i + 1 := ⟨_, rfl⟩
  refine fn_of_vc eOk fOk fo101 Tryz.func101 rfl rfl rfl fun B hB => ?_
  intro add sub _ _ _ _ _ _ _ _ _ _ _ _ _ _ _ _ _ _ _ iof _ hA _ _ _ _ _ _ _ _ _ _ _ _ hop _ hcall _ hcode ret hret
  have hadd : add .i64 (iof n) (iof 1) = Int.ofNat N := by rw [hA.ofNat, hA.ofNat, hA.add, IntWalk.i64_in _ (by omega)]; show (n : Int) + 1 = (N : Int); omega
  have hadi : add .i64 (Int.ofNat i) (iof 1) = Int.ofNat I := by rw [hA.ofNat, hA.add, IntWalk.i64_in _ (by simp only [Int.ofNat_eq_natCast]; omega)]; show (i : Int) + 1 = (I : Int); omega
  cbv
  refine ⟨i, n, rfl, rfl, hin, by omega, (fun c h => by cases h; omega), fun o1 n1 ho1 hn1 => ?_⟩
  cbv
  refine vcIf.no (by rw [hA.ofNat, hA.eq]; rfl) ?_
  cbv
  by_cases he : i = n
  · refine vcIf.yes (by rw [hA.eq, hA.ofNat]; exact decide_eq_true (by rw [he]; rfl)) ?_
    cbv
    by_cases hroom : n + 1 ≤ K
    · refine hop _ _ _ _ (OpEv.appendIn eOk (ys := vs) rfl rfl rfl rfl rfl rfl rfl rfl rfl rfl (by rw [hvs]; rfl) hvw (by omega) (by omega) fun m1 ws hm1 hws => ?_)
      have key := ins_end xs ws K n p.v hK hroom hw p.wf (by rw [hws, hvl, hvs, Nat.zero_add])
      obtain ⟨g1, g2, g3⟩ := key
      cbv
      refine hret _ (RetEv.ret eOk rfl ⟨K, ws, ?_, rfl, g1, by omega, g2, ?_⟩)
      · rw [hN, ← hvl, ← hm1]; rfl
      · rw [hN, he]; exact g3
    · refine hop _ _ _ _ (OpEv.appendFull eOk (ys := vs) rfl rfl rfl rfl rfl rfl rfl rfl rfl (by rw [hvs]; rfl) rfl rfl rfl (Pr.wf ⟨[], []⟩) (by decide) hvw (by omega) (by unfold maxLen; omega) ?_ fun K' m1 ws hm1 hK1 hK2 hws => ?_)
      · show (n + vs.length) * 32 ≤ _
        omega
      have key := ins_new xs ws K n K' p.v _ hK hn (by omega) hw p.wf (Pr.wf ⟨[], []⟩) (by rw [hws, hvs, hm1, hvl]; rfl)
      obtain ⟨g1, g2, g3⟩ := key
      obtain rfl : m1 = N := by omega
      cbv
      refine hret _ (RetEv.convW (ConvW.pack [2, 1] hB rfl) (RetEv.ret eOk rfl ⟨K', ws, rfl, rfl, g1, hK1, g2, ?_⟩))
      rw [hN, he]; exact g3
  · refine vcIf.no (by rw [hA.eq, hA.ofNat]; exact decide_eq_false (fun c => he (Int.ofNat.inj c))) ?_
    cbv
    refine hop _ _ _ _ (OpEv.capOf eOk rfl rfl rfl rfl fun c hc => ?_)
    obtain rfl : c = K := by omega
    cbv
    by_cases hroom : c < N
    · have hsub : sub .i64 (Int.ofNat N) (Int.ofNat i) = ((N - i : Nat) : Int) := by rw [hA.sub, IntWalk.i64_in _ (by simp only [Int.ofNat_eq_natCast]; omega)]; simp only [Int.ofNat_eq_natCast]; omega
      refine vcIf.yes (by rw [hadd, hA.lt]; exact decide_eq_true (by simp only [Int.ofNat_eq_natCast]; omega)) ?_
      cbv
      refine ⟨0, i, rfl, rfl, Nat.zero_le _, by omega, (fun c h => by cases h; omega), fun o2 n2 ho2 hn2 => ?_⟩
      obtain rfl : 0 = o2 := by omega
      obtain rfl : i = n2 := by omega
      cbv
      refine hop _ _ _ _ (OpEv.appendZ eOk (m := N - i) (kk := .i64) rfl rfl rfl rfl rfl rfl rfl rfl ?_ rfl rfl rfl (Pr.wf ⟨[], []⟩) (by decide) (by omega) (by omega) (by unfold maxLen; omega) ?_ fun K' m1 zs hm1 hK1 hK2 hzs => ?_)
      · show some (V.p (PV.int .i64 (sub .i64 (add .i64 (iof n) (iof 1)) (Int.ofNat i)))) = _
        rw [hadd, hsub]
      · show (i + (N - i)) * 32 ≤ _
        omega
      have hzl : zs.length = K' := by rw [hzs]; simp; omega
      cbv
      have hmN : m1 = N := by omega
      refine ⟨i, m1, rfl, rfl, by omega, by omega, (fun c h => by cases h; omega), fun o3 n3 ho3 hn3 => ?_⟩
      obtain rfl : i = o3 := by omega
      cbv
      refine hop _ _ _ _ (OpEv.copy eOk (ys := vs) rfl rfl rfl rfl rfl rfl rfl rfl rfl (by rw [hvs]; rfl) hvw fun c1 us hc1 hus => ?_)
      have hc1' : c1 = 1 := by rw [hc1, hvl]; show min 1 n3 = 1; omega
      have hul : us.length = K' := by rw [hus, hc1']; simp; omega
      cbv
      refine hcode _ _ _ (CodeEv.drawT eOk fOk (by kernel_rfl) (Xof 3 [2]) (.rd 0 (.rd 1 (.rd 2 (.rd 3 (.rd 4 (.rd 5 (.so 6 (.so 7 (.acts (.cons 8 (.done) (.nil))))))))))) (by kernel_rfl) (by kernel_rfl) ?_)
      intro add2 _ _ _ _ _ _ _ _ _ _ _ _ _ _ _ _ _ _ _ _ _ _ hA2 _ _ _ _ _ _ _ _ _ _ _ _ hop2 _ _ _ _ _ hq2
      have hadi2 : add2 .i64 (Int.ofNat i) (iof 1) = Int.ofNat I := by rw [hA.ofNat, hA2.add, IntWalk.i64_in _ (by simp only [Int.ofNat_eq_natCast]; omega)]; show (i : Int) + 1 = (I : Int); omega
      cbv
      refine ⟨I, m1, hadi2, rfl, by omega, by omega, (fun c h => by cases h; omega), fun o4 n4 ho4 hn4 => ?_⟩
      obtain rfl : I = o4 := by omega
      cbv
      refine ⟨i, n, rfl, rfl, hin, by omega, (fun c h => by cases h; omega), fun o5 n5 ho5 hn5 => ?_⟩
      obtain rfl : i = o5 := by omega
      cbv
      refine hop2 _ _ _ _ (OpEv.copy eOk (ys := (xs.drop i).take n5) rfl rfl rfl rfl rfl rfl rfl rfl rfl rfl hw.drop.take fun c2 ws hc2 hws => ?_)
      have key := ins_mid xs zs us ws c n i K' c1 c2 p.v _ hK hn hin (by omega) hw p.wf (Pr.wf ⟨[], []⟩) (by rw [hzs]; rfl) hc1' (by rw [hus, hvs]) (by rw [hc2]; show min ((xs.drop i).take n5).length n4 = _; rw [List.length_take, List.length_drop]; omega) (by rw [hws, hn5, ← hI])
      obtain ⟨g1, g2, g3⟩ := key
      cbv
      refine hq2 _ ?_
      cbv
      exact hret _ (RetEv.convW (ConvW.pack [2, 1] hB rfl) (RetEv.ret eOk rfl ⟨K', ws, by rw [← hmN]; rfl, rfl, g1, by omega, g2, by rw [hN]; exact g3⟩))
    · refine vcIf.no (by rw [hadd, hA.lt]; exact decide_eq_false (by simp only [Int.ofNat_eq_natCast]; omega)) ?_
      cbv
      refine ⟨0, N, rfl, hadd, Nat.zero_le _, by omega, (fun c h => by cases h; omega), fun o2 n2 ho2 hn2 => ?_⟩
      obtain rfl : 0 = o2 := by omega
      obtain rfl : N = n2 := by omega
      cbv
      refine ⟨I, N, hadi, rfl, by omega, by omega, (fun c h => by cases h; omega), fun o3 n3 ho3 hn3 => ?_⟩
      obtain rfl : I = o3 := by omega
      cbv
      refine hcall _ _ _ _ _ (CallEv.overlapsS (i := 1) (j := 0) (sz := 2) eOk rfl rfl rfl rfl rfl rfl rfl rfl rfl rfl rfl (by decide) Nat.one_pos ?_ ?_)
      · omega
      cbv
      refine vcIf.yes (by rw [hA.not]; rfl) ?_
      cbv
      refine hcode _ _ _ (CodeEv.drawT eOk fOk (by kernel_rfl) (Xof 2 [0]) (.rd 0 (.rd 1 (.rd 2 (.rd 3 (.rd 4 (.rd 5 (.so 6 (.so 7 (.acts (.cons 8 (.done) (.nil))))))))))) (by kernel_rfl) (by kernel_rfl) ?_)
      intro add2 _ _ _ _ _ _ _ _ _ _ _ _ _ _ _ _ _ _ _ _ _ _ hA2 _ _ _ _ _ _ _ _ _ _ _ _ hop2 _ _ _ _ _ hq2
      have hadi2 : add2 .i64 (Int.ofNat i) (iof 1) = Int.ofNat I := by rw [hA.ofNat, hA2.add, IntWalk.i64_in _ (by simp only [Int.ofNat_eq_natCast]; omega)]; show (i : Int) + 1 = (I : Int); omega
      cbv
      refine ⟨I, N, hadi2, rfl, by omega, by omega, (fun c h => by cases h; omega), fun o4 n4 ho4 hn4 => ?_⟩
      obtain rfl : I = o4 := by omega
      cbv
      refine ⟨i, N, rfl, rfl, by omega, by omega, (fun c h => by cases h; omega), fun o5 n5 ho5 hn5 => ?_⟩
      obtain rfl : i = o5 := by omega
      cbv
      refine hop2 _ _ _ _ (OpEv.copy eOk (ys := (xs.drop i).take n5) rfl rfl rfl rfl rfl rfl rfl rfl rfl rfl hw.drop.take fun c1 us hc1 hus => ?_)
      have hc1' : c1 = n - i := by rw [hc1]; show min ((xs.drop i).take n5).length n4 = _; rw [List.length_take, List.length_drop]; omega
      have hul : us.length = c := by rw [hus]; simp; omega
      cbv
      refine hq2 _ ?_
      cbv
      refine ⟨i, N, rfl, rfl, by omega, by omega, (fun c h => by cases h; omega), fun o6 n6 ho6 hn6 => ?_⟩
      obtain rfl : i = o6 := by omega
      cbv
      refine hop _ _ _ _ (OpEv.copy eOk (ys := vs) rfl rfl rfl rfl rfl rfl rfl rfl rfl (by rw [hvs]; rfl) hvw fun c2 ws hc2 hws => ?_)
      have hc2' : c2 = 1 := by rw [hc2, hvl]; show min 1 n6 = 1; omega
      have key := ins_room xs us ws c n i c1 c2 p.v hK (by omega) hin hw p.wf hc1' (by rw [hus, hn5, hI, hN]) hc2' (by rw [hws, hvs])
      obtain ⟨g1, g2, g3⟩ := key
      cbv
      exact hret _ (RetEv.ret eOk rfl ⟨c, ws, rfl, rfl, g1, by omega, g2, by rw [hN]; exact g3⟩)
end Go.Proofs.YtegkojnngdlfaaaGreat
end
section
namespace Go.Proofs.YtegkojnngdlfaaaGreat
open Go Go.Lx
open Go.Sx (vcIf)
def RowP (xs : List PV) (K n : Nat) (ps : List Pr) : Prop := xs.length = K ∧ n = ps.length ∧ n ≤ K ∧ Wf 2 xs ∧ xs.take n = prP ps
theorem RowP.tk {xs : List PV} {K n : Nat} {ps : List Pr} (h : RowP xs K n ps) (i : Nat) (hi : i ≤ n) : xs.take i = prP (ps.take i) := by
  have := h.2.2.2.2
  rw [show prP (ps.take i) = (prP ps).take i from (by unfold prP; rw [List.map_take]), ← this, List.take_take, Nat.min_eq_left hi]
theorem RowP.dk {xs : List PV} {K n : Nat} {ps : List Pr} (h : RowP xs K n ps) (i : Nat) : (xs.drop i).take (n - i) = prP (ps.drop i) := by
  have := h.2.2.2.2
  rw [show prP (ps.drop i) = (prP ps).drop i from (by unfold prP; rw [List.map_drop]), ← this, List.drop_take]
theorem RowP.del {xs xs' : List PV} {K n i j n' : Nat} {ps qs : List Pr} (h : RowP xs K n ps) (hij : i ≤ j) (hj : j ≤ n) (hq : qs = ps.take i ++ ps.drop j) (hn' : n' = n - (j - i)) (hl : xs'.length = K) (hw : Wf 2 xs') (ht : xs'.take n' = xs.take i ++ (xs.drop j).take (n - j)) : RowP xs' K n' qs := by
  have h2 := h.2.1
  have h3 := h.2.2.1
  refine ⟨hl, by rw [hq]; simp; omega, by omega, hw, ?_⟩
  rw [ht, h.tk i (by omega), h.dk j, hq]; unfold prP; rw [List.map_append]
theorem RowP.ins {xs xs' : List PV} {K n i K' : Nat} {ps qs : List Pr} {p : Pr} (h : RowP xs K n ps) (hi : i ≤ n) (hq : qs = ps.take i ++ p :: ps.drop i) (hl : xs'.length = K') (hn : n + 1 ≤ K') (hw : Wf 2 xs') (ht : xs'.take (n + 1) = xs.take i ++ p.v :: (xs.drop i).take (n - i)) : RowP xs' K' (n + 1) qs := by
  have h2 := h.2.1
  refine ⟨hl, by rw [hq]; simp; omega, hn, hw, ?_⟩
  rw [ht, h.tk i hi, h.dk i, hq]; unfold prP; rw [List.map_append, List.map_cons]
theorem RowP.upd {xs xs' : List PV} {K n i : Nat} {ps qs : List Pr} {p : Pr} (h : RowP xs K n ps) (hi : i < n) (hq : qs = ps.set i p) (hx : xs' = xs.set i p.v) : RowP xs' K n qs := by
  obtain ⟨h1, h2, h3, h4, h5⟩ := h
  refine ⟨by rw [hx, List.length_set, h1], by rw [hq, List.length_set, h2], h3, ?_, ?_⟩
  · rw [hx]; intro x hxm
    rcases List.mem_or_eq_of_mem_set hxm with c | c
    · exact h4 x c
    · rw [c]; exact p.wf
  · rw [hx, hq, List.take_set, h5]; unfold prP; rw [List.map_set]
theorem oneP_spec (ps : List Pr) (hs : Srt ps) (c : Chg) (hkd : c.kind = 1 ∨ c.kind = 2 ∨ c.kind = 3) (xs : List PV) (K n : Nat) (hx : RowP xs K n ps) (hsz : (n + 1) * 32 ≤ 140737488355328) :
    FnL Tryz.prog 81 [.vw 0 2 0 n (some K), .p (.agg [.int .i64 c.kind, .str c.key, .str c.val])] [.arr 84 2 xs]
      fun v own => ∃ K' n' xs', v = .vw 0 2 0 n' (some K') ∧ own = [.arr 84 2 xs'] ∧ RowP xs' K' n' (one ps c) := by
  have hnl : n = ps.length := hx.2.1
  have hf1 := find_spec ps hs (by omega) c.key (prP ps) rfl
  have hf2 := find_spec ps hs (by omega) c.val (prP ps) rfl
  have hx1 := hx.2.2.2.2
  have hxK := hx.1
  have hnK := hx.2.2.1
  have hxw := hx.2.2.2.1
  have p2 := fun (h : c.kind = 2) (i : Nat) (b : Pr) => one_clear_there hs c h (i := i) (b := b)
  have p2n := fun (h : c.kind = 2) (i : Nat) => one_clear_not hs c h (i := i)
  have p3 := fun (h : c.kind = 3) (i k : Nat) => one_wipe (ps := ps) c h (i := i) (k := k)
  have p1 := fun (h : c.kind = 1) (i : Nat) (hp : Pos ps c.key i) (b : Pr) => one_put_there hs c h hp (b := b)
  have p1n := fun (h : c.kind = 1) (i : Nat) => one_put_new hs c h (i := i)
  obtain ⟨R, hR⟩ : ∃ R, R = one ps c := ⟨_, rfl⟩
  rw [← hR] at p2 p2n p3 p1 p1n ⊢
  obtain ⟨kd, ky, vl⟩ := c
  simp only at hkd hf1 hf2 p2 p2n p3 p1 p1n
  obtain ⟨zs, hzs⟩ : ∃ zs, zs = prP ps := ⟨_, rfl⟩
  rw [← hzs] at hf1 hf2
  have hzx : zs = (xs.drop 0).take n := by rw [hzs, List.drop_zero, hx1]
  refine fn_of_vc eOk fOk fo81 Tryz.func81 rfl rfl rfl fun B hB => ?_
  intro add _ _ _ _ _ _ _ _ _ _ _ _ _ _ _ _ _ _ _ _ _ _ hA _ _ _ _ imax _ _ _ _ _ hL _ _ _ hcall _ _ ret hret
  cbv
  refine hcall _ _ _ _ _ (CallEv.shown [] [0] hf1 rfl (.cons (.bvw 0 2 0 n (some K) _ 2 xs zs (by decide) rfl hzx) (.cons (.p _) .nil)) trivial ?_)
  rintro _ _ ⟨i, t, hpos, ht, rfl, rfl⟩
  refine ⟨.p _ (.tup _ (by intro c hc; simp at hc; rcases hc with rfl | rfl; exact .int _ _; exact .bool _)), (by intro r hr; cases hr), ?_⟩
  have hil : i ≤ n := by have := hpos.1; omega
  have p2 := fun h b => p2 h i b
  have p2n := fun h => p2n h i hpos
  have p1 := fun h b => p1 h i hpos b
  have p1n := fun h => p1n h i hpos
  have hii : t = true → i < n := fun h => by obtain ⟨p, h1, _⟩ := ht.1 h; have := (List.getElem?_eq_some_iff.1 h1).1; omega
  cbv
  by_cases h3 : kd = 3
  · have p3 := p3 h3
    refine vcIf.yes (by first | (simp [smW hA hL, h3]; done) | (simp only [h3]; simp [smW hA hL, h3]; done) | (simp [smW hA hL, h3]; omega) | (simp only [h3]; simp [smW hA hL, h3]; omega)) ?_
    cbv
    refine hcall _ _ _ _ _ (CallEv.shown [] [0] hf2 rfl (.cons (.bvw 0 2 0 n (some K) _ 2 xs zs (by decide) rfl hzx) (.cons (.p _) .nil)) trivial ?_)
    rintro _ _ ⟨k, t', hpos', ht', rfl, rfl⟩
    refine ⟨.p _ (.tup _ (by intro c hc; simp at hc; rcases hc with rfl | rfl; exact .int _ _; exact .bool _)), (by intro r hr; cases hr), ?_⟩
    have hkl : k ≤ n := by have := hpos'.1; omega
    have p3 := p3 i k hpos hpos'
    obtain ⟨m, hm⟩ : ∃ m, m = max i k := ⟨_, rfl⟩
    rw [← hm] at p3
    have hmx : imax (Int.ofNat i) (Int.ofNat k) = Int.ofNat m := by rw [hL.imax, hm]; simp only [Int.ofNat_eq_natCast]; split <;> omega
    have hdel := delP_spec xs K n i m hxK hnK (by omega) (by omega) hxw (by omega)
    cbv
    rw [hmx]
    refine hcall _ _ _ _ _ (CallEv.lend [0] hdel rfl (.cons (.vw 0 0 2 0 n (some K) rfl) (.cons (.p _) (.cons (.p _) .nil))) ⟨⟨_, rfl, .arr _ _ _⟩, trivial⟩ ?_)
    rintro _ _ ⟨n', xs', rfl, rfl, g1, g2, g3, g4⟩
    have key := hx.del (by omega) (by omega) p3 g1 g2 g3 g4
    cbv
    exact hret _ (RetEv.convW (ConvW.pack [0] hB rfl) (RetEv.ret eOk rfl ⟨K, n', xs', rfl, rfl, key⟩))
  by_cases h2 : kd = 2
  · have p2 := p2 h2
    have p2n := p2n h2
    refine vcIf.no (by first | (simp [smW hA hL, h3]; done) | (simp only [h3]; simp [smW hA hL, h3]; done) | (simp [smW hA hL, h3]; omega) | (simp only [h3]; simp [smW hA hL, h3]; omega)) ?_
    cbv
    refine vcIf.yes (by first | (simp [smW hA hL, h2]; done) | (simp only [h2]; simp [smW hA hL, h2]; done) | (simp [smW hA hL, h2]; omega) | (simp only [h2]; simp [smW hA hL, h2]; omega)) ?_
    cbv
    by_cases htt : t = true
    · refine Exists.elim (ht.1 htt) fun b hb => ?_
      have p2 := p2 b hb.1 hb.2
      have hin := hii htt
      refine Exists.elim (show ∃ j, j = i + 1 from ⟨_, rfl⟩) fun j hj => ?_
      have hdel := delP_spec xs K n i j hxK hnK (by omega) (by omega) hxw (by omega)
      have hadd : add .i64 (Int.ofNat i) 1 = Int.ofNat j := by rw [hA.add, IntWalk.i64_in _ (by simp only [Int.ofNat_eq_natCast]; omega), hj]; rfl
      rw [← hj] at p2
      refine vcIf.yes htt ?_
      cbv
      rw [hadd]
      refine hcall _ _ _ _ _ (CallEv.lend [0] hdel rfl (.cons (.vw 0 0 2 0 n (some K) rfl) (.cons (.p _) (.cons (.p _) .nil))) ⟨⟨_, rfl, .arr _ _ _⟩, trivial⟩ ?_)
      rintro _ _ ⟨n', xs', rfl, rfl, g1, g2, g3, g4⟩
      have key := hx.del (by omega) (by omega) p2 g1 g2 g3 g4
      cbv
      exact hret _ (RetEv.convW (ConvW.pack [0] hB rfl) (RetEv.ret eOk rfl ⟨K, n', xs', rfl, rfl, key⟩))
    · have p2n := p2n fun c => htt (ht.2 c)
      refine vcIf.no (Bool.eq_false_iff.2 htt) ?_
      cbv
      exact hret _ (RetEv.convW (ConvW.pack [0] hB rfl) (RetEv.ret eOk rfl ⟨K, n, xs, rfl, rfl, by rw [p2n]; exact hx⟩))
  have h1 : kd = 1 := by omega
  have p1 := p1 h1
  have p1n := p1n h1
  refine vcIf.no (by first | (simp [smW hA hL, h3]; done) | (simp only [h3]; simp [smW hA hL, h3]; done) | (simp [smW hA hL, h3]; omega) | (simp only [h3]; simp [smW hA hL, h3]; omega)) ?_
  cbv
  refine vcIf.no (by first | (simp [smW hA hL, h2]; done) | (simp only [h2]; simp [smW hA hL, h2]; done) | (simp [smW hA hL, h2]; omega) | (simp only [h2]; simp [smW hA hL, h2]; omega)) ?_
  cbv
  by_cases htt : t = true
  · refine Exists.elim (ht.1 htt) fun b hb => ?_
    have p1 := p1 b hb.1 hb.2
    have hin := hii htt
    have hxi : xs[i]? = some (.agg [.str b.key, .str b.val]) := by
      have h1 : (xs.take n)[i]? = some b.v := by rw [hx1]; unfold prP; rw [List.getElem?_map, hb.1]; rfl
      rwa [List.getElem?_take_of_lt hin] at h1
    have hbk := hb.2
    obtain ⟨bk, bv⟩ := b
    simp only at hxi hbk
    refine vcIf.yes htt ?_
    cbv
    refine ⟨i, rfl, hin, fun d hd => ?_⟩
    have hd : d = i := by omega
    have gc : xs[d]? = some (.agg [.str bk, .str bv]) := by rw [hd]; exact hxi
    cbv
    refine ⟨_, gc, PV.wf1 rfl, Nat.le_of_ble_eq_true rfl, fun ws hws => ?_⟩
    have key := hx.upd hin p1 (show ws = xs.set i (Pr.v ⟨ky, vl⟩) by rw [hws, hd, hbk]; rfl)
    cbv
    exact hret _ (RetEv.convW (ConvW.pack [0] hB rfl) (RetEv.ret eOk rfl ⟨K, n, ws, rfl, rfl, key⟩))
  · have p1n := p1n fun c => htt (ht.2 c)
    refine vcIf.no (Bool.eq_false_iff.2 htt) ?_
    cbv
    refine ⟨true, ?_⟩
    cbv
    refine hcall _ _ _ _ _ (CallEv.lend [0, 2] (insP_spec xs K n i hxK hnK hil hxw hsz ⟨ky, vl⟩ [.agg [.str ky, .str vl]] rfl) rfl (.cons (.vw 0 0 2 0 n (some K) rfl) (.cons (.p _) (.cons (.vw 1 2 2 0 1 none rfl) .nil))) ⟨⟨_, rfl, .arr _ _ _⟩, ⟨_, rfl, .arr _ _ _⟩, trivial⟩ ?_)
    rintro _ _ ⟨K', xs', rfl, rfl, g1, g2, g3, g4⟩
    have key := hx.ins hil p1n g1 g2 g3 g4
    refine Exists.elim (show ∃ m, m = n + 1 from ⟨_, rfl⟩) fun m hm => ?_
    rw [← hm] at key ⊢
    cbv
    exact hret _ (RetEv.convW (ConvW.pack [0] hB rfl) (RetEv.ret eOk rfl ⟨K', m, xs', rfl, rfl, key⟩))
end Go.Proofs.YtegkojnngdlfaaaGreat
end
