/- The walk of the law TapeLasts. Conditions: on sizes. -/
import Derived.Test.YtgblimlnkefllaaLTape8
set_option maxRecDepth 100000
set_option maxHeartbeats 8000000
set_option linter.unusedSimpArgs false
set_option linter.unusedVariables false
namespace Go.Proofs.Ytgblimlnkefllaa
open Go Go.Lx
open Go.Sx (vcIf)

/-- A tape that never goes down. -/
def LT (i : Nat) (t : Tp) : Prop := t.down = false ∧ t.after = -1 ∧ t.room = 1048576 ∧ t.all.length ≤ 1000 * i ∧ t.sure ≤ t.all.length
theorem LT.wr {i : Nat} {t : Tp} (h : LT i t) (s : Nat) (hs : s ≤ 1048576) : wr t s = (0, t) := by
  obtain ⟨h1, h2, h3, h4, h5⟩ := h
  unfold Go.Proofs.Ytgblimlnkefllaa.wr
  rw [h1, h2, if_neg (by decide), if_neg (by omega), if_neg (by decide), if_neg (by decide)]
theorem LT.add {i : Nat} {t : Tp} (h : LT i t) (hi : i < 50) (b : List UInt8) (hb : b.length ≤ 1000) : tpAdd t b = (0, { t with all := t.all ++ b }) ∧ LT (i + 1) { t with all := t.all ++ b } := by
  have h4 := h.2.2.2.1
  have hw := h.wr (t.all.length + b.length) (by omega)
  unfold tpAdd
  rw [hw, if_pos rfl]
  refine ⟨rfl, h.1, h.2.1, h.2.2.1, ?_, ?_⟩
  · simp only [List.length_append]; omega
  · have := h.2.2.2.2; simp only [List.length_append]; omega
theorem LT.sync {i : Nat} {t : Tp} (h : LT i t) : tpSync t = (0, { t with sure := t.all.length }) ∧ LT i { t with sure := t.all.length } := by
  have hw := h.wr 0 (by decide)
  unfold tpSync
  rw [hw, if_pos rfl]
  exact ⟨rfl, h.1, h.2.1, h.2.2.1, h.2.2.2.1, Nat.le_refl _⟩
theorem crash_facts (t : Tp) (k : Int) (x : UInt8) (h : t.sure ≤ t.all.length) : (tpCrash t k x).down = false ∧ (tpCrash t k x).sure = (tpCrash t k x).all.length ∧ t.sure ≤ (tpCrash t k x).all.length ∧ (tpCrash t k x).all.length ≤ t.all.length ∧
    ∀ (i : Nat) (a b : UInt8), (tpCrash t k x).all[i]? = some a → t.all[i]? = some b → a ≠ b → t.sure ≤ i ∧ i + 1 = (tpCrash t k x).all.length := by
  obtain ⟨h1, h2⟩ := lasts_le t k h
  have same : ∀ (i : Nat) (a b : UInt8), i < lasts t k → (t.all.take (lasts t k))[i]? = some a → t.all[i]? = some b → a = b := fun i a b hi ha hb => by
    rw [List.getElem?_take, if_pos hi, hb] at ha; cases ha; rfl
  unfold tpCrash
  split
  · rename_i hc
    refine ⟨rfl, by simp; omega, by simp; omega, by simp; omega, fun i a b ha hb hab => ?_⟩
    simp only at ha
    have hl : (t.all.take (lasts t k)).length = lasts t k := by simp; omega
    by_cases hi : i < lasts t k
    · rw [List.getElem?_append_left (by omega)] at ha
      exact absurd (same i a b hi ha hb) hab
    · have hi2 : i < (t.all.take (lasts t k) ++ [t.all.getD (lasts t k) 0 ^^^ x]).length := (List.getElem?_eq_some_iff.1 ha).1
      simp only [List.length_append, hl, List.length_singleton] at hi2 ⊢
      omega
  · refine ⟨rfl, by simp; omega, by simp; omega, by simp; omega, fun i a b ha hb hab => ?_⟩
    simp only at ha
    have hi2 : i < (t.all.take (lasts t k)).length := (List.getElem?_eq_some_iff.1 ha).1
    simp only [List.length_take] at hi2
    exact absurd (same i a b (by omega) ha hb) hab

structure LI where
  i : Nat
  t : Tp
  n : Nat
  su : Int
  ro : Int
  af : Int
  d : Bool
  xs : List PV
  sv : List UInt8
  ss : Int
def bbP (l : List UInt8) : PV := .sl (bP l)

theorem LT.mono {i j : Nat} {t : Tp} (h : LT i t) (hij : i ≤ j) : LT j t := ⟨h.1, h.2.1, h.2.2.1, by have := h.2.2.2.1; omega, h.2.2.2.2⟩
theorem tapeLasts (l : List (List UInt8)) (hll : l.length < 9223372036854775807) (hl : ∀ b ∈ l, b.length < 4611686018427387904) (sy : Nat) (hsy : sy ≤ 255) (k : Int) (hk1 : -9223372036854775808 ≤ k) (hk2 : k ≤ 9223372036854775807) (x : Nat) (hx : x ≤ 255) :
    FnL Try.prog 3 [.p (.sl (l.map bbP)), .p (.int .u8 (sy : Int)), .p (.int .i64 k), .p (.int .u8 (x : Int))] [] fun z own => z = .p (.bool true) := by
  obtain ⟨zs, hzs⟩ : ∃ zs, zs = l.map bbP := ⟨_, rfl⟩
  have hzl : zs.length = l.length := by rw [hzs, List.length_map]
  obtain ⟨N, hN⟩ : ∃ N, N = l.length := ⟨_, rfl⟩
  have hzN : zs.length = N := by rw [hzl, hN]
  obtain ⟨si, hsi⟩ : ∃ si : Int, si = (sy : Int) := ⟨_, rfl⟩
  obtain ⟨xi, hxi⟩ : ∃ xi : Int, xi = (x : Int) := ⟨_, rfl⟩
  have hxu : xi = ((UInt8.ofNat x).toNat : Int) := by rw [hxi, ofNat_toNat (by omega)]
  have hnew := tapeNew_spec 1048576 (by decide) (by decide)
  have hcrA : ∀ {t : Tp} {n : Nat} {su ro af : Int} {d : Bool} {xs : List PV}, IsTp t n su ro af d xs → FnL Try.prog 14 [.own 0 0, .p (.int .i64 k), .p (.int .u8 xi)] [tpS n su ro af d, tpA xs] fun v own => ∃ (n' : Nat) (su' ro' af' : Int) (d' : Bool) (xs' : List PV), IsTp (tpCrash t k (UInt8.ofNat x)) n' su' ro' af' d' xs' ∧ own = [tpS n' su' ro' af' d', tpA xs'] := fun h1 => by
    rw [hxu]; exact crash_spec h1 k hk1 hk2 (UInt8.ofNat x)
  rw [← hzs, ← hsi, ← hxi]
  refine fn_of_vc eOk fOk fo3 Try.func3 rfl rfl rfl fun B hB => ?_
  intro add sub mul quo rem band bor bxor bclr shl shr ieq ilt ile seq slt beq bnot orb bcond iwrap iof ssz hA cat sq sl imin imax smin smax len slen u8 hL op hop call hcall code hcode ret hret
  cbv
  refine hcall _ _ _ _ _ (CallEv.same hnew rfl ?_)
  rintro _ _ (⟨h, rfl, rfl⟩ | ⟨h, rfl, rfl⟩)
  · omega
  have hin : IsTp ⟨[], 0, 1048576, -1, false⟩ 0 0 1048576 (-1) false [] := ⟨rfl, rfl, rfl, rfl, rfl, rfl, Nat.le_refl _, Nat.zero_le _, Nat.le_refl _, by decide, by decide⟩
  cbv
  refine hcall _ _ _ _ _ (CallEv.same awake6_spec rfl ?_)
  rintro _ _ ⟨rfl, rfl⟩
  cbv
  repeat (first | (refine vcIf.yes ?_ ?_; (focus (simp [hA.not, hA.eq, hA.lt, hA.le, hA.cond, hA.beq, hA.orb, hL.len, hL.slen, hL.sq]; done)); cbv) | (refine vcIf.no ?_ ?_; (focus (simp [hA.not, hA.eq, hA.lt, hA.le, hA.cond, hA.beq, hA.orb, hL.len, hL.slen, hL.sq]; done)); cbv) | fail)
  refine hcode _ _ _ (CodeEv.loopX eOk fOk (ι := LI) (κ := LI) (fun s => [(0, .p (.sl zs)), (1, .p (.int .u8 si)), (2, .p (.int .i64 k)), (3, .p (.int .u8 xi)), (9, .own 0 0), (11, .p (.str s.sv)), (12, .p (.int .i64 s.ss)), (13, .p (.int .i64 (Int.ofNat s.i)))])
    (fun s => [tpS s.n s.su s.ro s.af s.d, tpA s.xs]) (fun s => IsTp s.t s.n s.su s.ro s.af s.d s.xs ∧ LT s.i s.t ∧ s.i ≤ 50 ∧ s.sv = s.t.all ∧ s.ss = Int.ofNat s.t.sure) (fun s => 50 - s.i)
    ⟨0, ⟨[], 0, 1048576, -1, false⟩, 0, 0, 1048576, -1, false, [], [], 0⟩ 0
    (fun s => [(2, .p (.int .i64 k)), (3, .p (.int .u8 xi)), (9, .own 0 0), (11, .p (.str s.sv)), (12, .p (.int .i64 s.ss))])
    (fun s => [tpS s.n s.su s.ro s.af s.d, tpA s.xs]) (fun s => IsTp s.t s.n s.su s.ro s.af s.d s.xs ∧ LT 50 s.t ∧ s.sv = s.t.all ∧ s.ss = Int.ofNat s.t.sure) ?_ ?_ ?_)
  · exact ⟨⟨rfl, rfl, rfl, rfl, rfl, rfl, rfl, rfl, trivial⟩, rfl, hin, ⟨rfl, rfl, rfl, Nat.zero_le _, Nat.le_refl _⟩, Nat.zero_le _, rfl, rfl⟩
  · rintro ⟨i, t, n, su, ro, af, d, xs, sv, ss⟩ ⟨h1, h2, h3, h4, h5⟩ rd hrd out hout
    simp only at h1 h2 h3 h4 h5
    intro add1 sub1 mul1 quo1 rem1 band1 bor1 bxor1 bclr1 shl1 shr1 ieq1 ilt1 ile1 seq1 slt1 beq1 bnot1 orb1 bcond1 iwrap1 iof1 ssz1 hA1 cat1 sq1 sl1 imin1 imax1 smin1 smax1 len1 slen1 u81 hL1 op1 hop1 call1 hcall1 code1 hcode1
    have hlen : len1 zs = Int.ofNat N := by rw [hL1.len, hzl, hN]; rfl
    have hadd1 : add1 .i64 (Int.ofNat i) 1 = Int.ofNat (i + 1) := by rw [hA1.add, IntWalk.i64_in _ (by simp only [Int.ofNat_eq_natCast]; omega)]; rfl
    cbv
    by_cases hi : i < N
    rotate_left
    · refine vcIf.no (by simp [hA1.not, hA1.eq, hA1.lt, hA1.le, hA1.cond, hA1.beq, hA1.orb, hL1.len, hL1.slen, hL1.sq, hzN, hi]) ?_
      cbv
      repeat (first | (refine vcIf.yes ?_ ?_; (focus (simp [hA1.not, hA1.eq, hA1.lt, hA1.le, hA1.cond, hA1.beq, hA1.orb, hL1.len, hL1.slen, hL1.sq]; done)); cbv) | (refine vcIf.no ?_ ?_; (focus (simp [hA1.not, hA1.eq, hA1.lt, hA1.le, hA1.cond, hA1.beq, hA1.orb, hL1.len, hL1.slen, hL1.sq]; done)); cbv) | fail)
      refine hout _ ⟨⟨i, t, n, su, ro, af, d, xs, sv, ss⟩, [], ⟨h1, h2.mono h3, h4, h5⟩, rfl, (by repeat (first | exact trivial | refine And.intro rfl ?_)), rfl, rfl, rfl, ?_⟩
      rw [hB]; exact Nat.zero_le _
    · refine vcIf.yes (by simp [hA1.not, hA1.eq, hA1.lt, hA1.le, hA1.cond, hA1.beq, hA1.orb, hL1.len, hL1.slen, hL1.sq, hzN, hi]) ?_
      cbv
      by_cases hi5 : i < 50
      rotate_left
      · refine vcIf.no (by rw [hA1.cond, hA1.lt]; exact dlt' hi5) ?_
        cbv
        refine hout _ ⟨⟨i, t, n, su, ro, af, d, xs, sv, ss⟩, [], ⟨h1, h2.mono h3, h4, h5⟩, rfl, (by repeat (first | exact trivial | refine And.intro rfl ?_)), rfl, rfl, rfl, ?_⟩
        rw [hB]; exact Nat.zero_le _
      obtain ⟨b, hb⟩ := get_of_lt (show i < l.length by omega)
      have hbl := hl b (List.mem_of_getElem? hb)
      obtain ⟨ys, hys⟩ : ∃ ys, ys = bP b := ⟨_, rfl⟩
      obtain ⟨m, hm⟩ : ∃ m, m = b.length := ⟨_, rfl⟩
      have hyl : ys.length = m := by rw [hys, bP_length, hm]
      have hlen2 : len1 ys = Int.ofNat m := by rw [hL1.len, hyl]; rfl
      have hzy : zs[i]? = some (.sl ys) := by rw [hzs, hys, List.getElem?_map, hb]; rfl
      have hadd := add_spec h1 b hbl
      rw [← hys] at hadd
      refine vcIf.yes (by rw [hA1.cond, hA1.lt]; exact dlt hi5) ?_
      cbv
      refine ⟨i, _, rfl, hzy, rfl, ?_⟩
      cbv
      by_cases hm1 : 1000 < m
      · refine vcIf.yes (by rw [hA1.lt, hlen2]; exact dlt hm1) ?_
        cbv
        repeat (first | (refine vcIf.yes ?_ ?_; (focus (simp [hA1.not, hA1.eq, hA1.lt, hA1.le, hA1.cond, hA1.beq, hA1.orb, hL1.len, hL1.slen, hL1.sq]; done)); cbv) | (refine vcIf.no ?_ ?_; (focus (simp [hA1.not, hA1.eq, hA1.lt, hA1.le, hA1.cond, hA1.beq, hA1.orb, hL1.len, hL1.slen, hL1.sq]; done)); cbv) | fail)
        refine hout _ ⟨⟨i, t, n, su, ro, af, d, xs, sv, ss⟩, [], ⟨h1, h2.mono h3, h4, h5⟩, rfl, (by repeat (first | exact trivial | refine And.intro rfl ?_)), rfl, rfl, rfl, ?_⟩
        rw [hB]; exact Nat.zero_le _
      refine vcIf.no (by rw [hA1.lt, hlen2]; exact dlt' hm1) ?_
      obtain ⟨ha1, ha2⟩ := h2.add hi5 b (by omega)
      rw [ha1] at hadd
      cbv
      refine ⟨i, _, rfl, hzy, rfl, ?_⟩
      cbv
      refine hcall1 _ _ _ _ _ (CallEv.lend [0, 1] hadd rfl (.cons (.own 0 0 0 rfl) (.cons (.p _) .nil)) (tpL rfl rfl rfl rfl) ?_)
      rintro _ _ ⟨e, n', su', ro', af', d', xs', he, ht', rfl, rfl⟩
      replace he : e = 0 := he
      subst he
      simp only at ht'
      generalize htd : ({ t with all := t.all ++ b } : Tp) = t2 at *
      have hta : t2.all = t.all ++ b := by rw [← htd]
      have hts : t2.sure = t.sure := by rw [← htd]
      clear htd hadd ha1
      have hsv : cat1 sv b = t2.all := by rw [hL1.cat, hta, h4]
      have hsl : slen1 (cat1 sv b) = Int.ofNat t2.all.length := by rw [hL1.slen, hsv]; rfl
      have hsy := sync_spec ht'
      obtain ⟨hs1, hs2⟩ := ha2.sync
      rw [hs1] at hsy
      have hsz : sv.length + b.length ≤ 9223372036854775807 := by
        have := ha2.2.2.2.1
        rw [hta, List.length_append, ← h4] at this; omega
      cbv
      repeat (first | (refine vcIf.yes ?_ ?_; (focus (simp [hA1.not, hA1.eq, hA1.lt, hA1.le, hA1.cond, hA1.beq, hA1.orb, hL1.len, hL1.slen, hL1.sq]; done)); cbv) | (refine vcIf.no ?_ ?_; (focus (simp [hA1.not, hA1.eq, hA1.lt, hA1.le, hA1.cond, hA1.beq, hA1.orb, hL1.len, hL1.slen, hL1.sq]; done)); cbv) | fail)
      refine ⟨i, _, rfl, hzy, rfl, ?_⟩
      cbv
      refine ⟨b, hys, ?_⟩
      cbv
      refine ⟨(), hsz, ?_⟩
      cbv
      refine vcIf.split (fun _ => ?_) (fun _ => ?_)
      · cbv
        refine hcall1 _ _ _ _ _ (CallEv.lend [0, 1] hsy rfl (.cons (.own 0 0 0 rfl) .nil) (tpL rfl rfl rfl rfl) ?_)
        rintro _ _ ⟨e, n3, su3, ro3, af3, d3, xs3, he, ht3, rfl, rfl⟩
        replace he : e = 0 := he
        subst he
        cbv
        repeat (first | (refine vcIf.yes ?_ ?_; (focus (simp [hA1.not, hA1.eq, hA1.lt, hA1.le, hA1.cond, hA1.beq, hA1.orb, hL1.len, hL1.slen, hL1.sq]; done)); cbv) | (refine vcIf.no ?_ ?_; (focus (simp [hA1.not, hA1.eq, hA1.lt, hA1.le, hA1.cond, hA1.beq, hA1.orb, hL1.len, hL1.slen, hL1.sq]; done)); cbv) | fail)
        refine hrd _ ⟨⟨i + 1, _, n3, su3, ro3, af3, d3, xs3, _, _⟩, [], ?_, ⟨ht3, hs2, hi5, hsv, hsl⟩, rfl, ⟨rfl, rfl, rfl, rfl, rfl, rfl, rfl, ?_, trivial⟩, rfl, rfl, rfl, ?_⟩
        · simp only; omega
        · show some (V.p (.int .i64 (add1 .i64 (Int.ofNat i) 1))) = _
          rw [hadd1]
        · rw [hB]; exact Nat.zero_le _
      · cbv
        refine hrd _ ⟨⟨i + 1, _, n', su', ro', af', d', xs', _, _⟩, [], ?_, ⟨ht', ha2, hi5, hsv, h5.trans (by rw [hts])⟩, rfl, ⟨rfl, rfl, rfl, rfl, rfl, rfl, rfl, ?_, trivial⟩, rfl, rfl, rfl, ?_⟩
        · simp only; omega
        · show some (V.p (.int .i64 (add1 .i64 (Int.ofNat i) 1))) = _
          rw [hadd1]
        · rw [hB]; exact Nat.zero_le _
  · rintro ⟨i, t, n, su, ro, af, d, xs, sv, ss⟩ ⟨h1, h2, h4, h5⟩
    simp only at h1 h2 h4 h5
    have hcr := hcrA h1
    obtain ⟨f1, f2, f3, f4, f5⟩ := crash_facts t k (UInt8.ofNat x) h2.2.2.2.2
    have hsvl : sv.length ≤ 50000 := by rw [h4]; exact h2.2.2.2.1
    rw [← h4] at f4 f5
    obtain ⟨ts, hts⟩ : ∃ ts, ts = t.sure := ⟨_, rfl⟩
    rw [← hts] at f3 f5 h5
    clear h2 h4
    cbv
    refine hcall _ _ _ _ _ (CallEv.lend [0, 1] hcr rfl (.cons (.own 0 0 0 rfl) (.cons (.p _) (.cons (.p _) .nil))) (tpL rfl rfl rfl rfl) ?_)
    rintro _ _ ⟨n', su', ro', af', d', xs', ht', rfl⟩
    generalize tpCrash t k (UInt8.ofNat x) = t2 at *
    have hby := bytes_plain ht'
    have hlo := loose_spec ht'
    rw [f1] at hby
    rw [f2, Nat.sub_self] at hlo
    obtain ⟨b, hb⟩ : ∃ b, b = t2.all := ⟨_, rfl⟩
    rw [← hb] at f3 f4 f5
    cbv
    refine hcall _ _ _ _ _ (CallEv.lend [0, 1] hby rfl (.cons (.own 0 0 0 rfl) .nil) (tpL rfl rfl rfl rfl) ?_)
    rintro _ _ ⟨e, ys, he, hys, rfl, rfl⟩
    replace he : e = 0 := he
    replace hys : ys = bP t2.all := hys
    rw [← hb] at hys
    subst he
    have hyl : ys.length = b.length := by rw [hys, bP_length]
    cbv
    repeat (first | (refine vcIf.yes ?_ ?_; (focus (simp [hA.not, hA.eq, hA.lt, hA.le, hA.cond, hA.beq, hA.orb, hL.len, hL.slen, hL.sq]; done)); cbv) | (refine vcIf.no ?_ ?_; (focus (simp [hA.not, hA.eq, hA.lt, hA.le, hA.cond, hA.beq, hA.orb, hL.len, hL.slen, hL.sq]; done)); cbv) | fail)
    refine hcall _ _ _ _ _ (CallEv.lend [0, 1] hlo rfl (.cons (.own 0 0 0 rfl) .nil) (tpL rfl rfl rfl rfl) ?_)
    rintro _ _ ⟨z, hz, rfl, rfl⟩
    replace hz : z = 0 := hz
    subst hz
    obtain ⟨M, hM⟩ : ∃ M, M = b.length := ⟨_, rfl⟩
    rw [← hM] at f3 f4 f5 hyl
    cbv
    repeat (first | (refine vcIf.yes ?_ ?_; (focus (simp [hA.not, hA.eq, hA.lt, hA.le, hA.cond, hA.beq, hA.orb, hL.len, hL.slen, hL.sq, h5, hyl, Nat.not_lt.2 f3, Nat.not_lt.2 f4]; done)); cbv) | (refine vcIf.no ?_ ?_; (focus (simp [hA.not, hA.eq, hA.lt, hA.le, hA.cond, hA.beq, hA.orb, hL.len, hL.slen, hL.sq, h5, hyl, Nat.not_lt.2 f3, Nat.not_lt.2 f4]; done)); cbv) | fail)
    refine hcode _ _ _ (CodeEv.loop eOk fOk (ι := Nat × Nat) (fun s => [(11, .p (.str sv)), (12, .p (.int .i64 ss)), (14, .p (.sl ys)), (16, .p (.int .i64 (Int.ofNat s.2))), (17, .p (.int .i64 (Int.ofNat s.1)))])
      (fun s => [tpS n' su' ro' af' d', tpA xs']) (fun s => s.1 ≤ M ∧ s.2 ≤ 1 ∧ (s.1 < M → s.2 = 0)) (fun s => M - s.1) (0, 0) ?_ ?_)
    · exact ⟨⟨rfl, rfl, rfl, rfl, rfl, trivial⟩, rfl, Nat.zero_le _, Nat.zero_le _, fun _ => rfl⟩
    rintro ⟨i, u⟩ ⟨g1, g2, g3⟩ rd hrd
    simp only at g1 g2 g3
    intro add1 sub1 mul1 quo1 rem1 band1 bor1 bxor1 bclr1 shl1 shr1 ieq1 ilt1 ile1 seq1 slt1 beq1 bnot1 orb1 bcond1 iwrap1 iof1 ssz1 hA1 cat1 sq1 sl1 imin1 imax1 smin1 smax1 len1 slen1 u81 hL1 op1 hop1 call1 hcall1 code1 hcode1
    have hMs : M ≤ 50000 := by omega
    have hadd1 : add1 .i64 (Int.ofNat i) 1 = Int.ofNat (i + 1) := by rw [hA1.add, IntWalk.i64_in _ (by simp only [Int.ofNat_eq_natCast]; omega)]; rfl
    have hsub1 : sub1 .i64 (len1 ys) 1 = (M : Int) - 1 := by rw [hA1.sub, hL1.len, hyl, IntWalk.i64_in _ (by omega)]
    have hadd0 : add1 .i64 (Int.ofNat 0) 1 = Int.ofNat 1 := by rw [hA1.add, IntWalk.i64_in _ (by decide)]; rfl
    cbv
    by_cases hi : i < M
    · refine vcIf.yes (by simp [hA1.not, hA1.eq, hA1.lt, hA1.le, hA1.cond, hA1.beq, hA1.orb, hL1.len, hL1.slen, hL1.sq, hyl, hi]) ?_
      obtain ⟨xa, hxa⟩ := get_of_lt (show i < b.length by omega)
      obtain ⟨ya, hya⟩ := get_of_lt (show i < sv.length by omega)
      obtain ⟨xv, hxv⟩ : ∃ xv : Int, xv = (xa.toNat : Int) := ⟨_, rfl⟩
      have hyx : ys[i]? = some (.int .u8 xv) := by rw [hys, hxv]; exact bP_get hxa
      have hxy : xv = (ya.toNat : Int) ↔ xa = ya := by rw [hxv]; exact ⟨fun h => UInt8.toNat_inj.1 (by omega), fun h => by rw [h]⟩
      have hu := g3 hi
      subst hu
      cbv
      refine hcode1 _ _ _ (CodeEv.drawA eOk fOk (by kernel_rfl) noX (by kernel_rfl) (by kernel_rfl) (by kernel_rfl) ?_)
      intro add2 sub2 mul2 quo2 rem2 band2 bor2 bxor2 bclr2 shl2 shr2 ieq2 ilt2 ile2 seq2 slt2 beq2 bnot2 orb2 bcond2 iwrap2 iof2 ssz2 hA2 cat2 sq2 sl2 imin2 imax2 smin2 smax2 len2 slen2 u82 hL2 op2 hop2 call2 hcall2 code2 hcode2 q2 hq2
      have hxy2 : xv = u82 ya ↔ xa = ya := by rw [hL2.u8]; exact hxy
      cbv
      refine ⟨i, _, rfl, hyx, rfl, ?_⟩
      cbv
      refine ⟨i, ya, rfl, hya, ?_⟩
      cbv
      refine hq2 _ ?_
      by_cases he : xv = u82 ya
      · refine vcIf.no (by rw [hA2.not, hA2.eq]; simpa using he) ?_
        cbv
        refine hrd _ ⟨(i + 1, 0), [], ?_, ⟨hi, by simp, fun _ => rfl⟩, rfl, ⟨rfl, rfl, rfl, rfl, ?_, trivial⟩, rfl, rfl, rfl, ?_⟩
        · simp only; omega
        · show some (V.p (.int .i64 (add1 .i64 (Int.ofNat i) 1))) = _
          rw [hadd1]
        · rw [hB]; exact Nat.zero_le _
      · obtain ⟨k1, k2⟩ := f5 i xa ya hxa hya (fun c => he (hxy2.2 c))
        refine vcIf.yes (by rw [hA2.not, hA2.eq]; simpa using he) ?_
        cbv
        refine vcIf.no (by rw [hA1.lt, h5]; exact dlt' (Nat.not_lt.2 k1)) ?_
        cbv
        refine vcIf.no (by rw [hA1.cond, hA1.not, hA1.eq, hsub1, ← k2]; simp) ?_
        cbv
        refine hrd _ ⟨(i + 1, 1), [], ?_, ⟨hi, by simp, fun c => by simp only at c; omega⟩, rfl, ⟨rfl, rfl, rfl, ?_, ?_, trivial⟩, rfl, rfl, rfl, ?_⟩
        · simp only; omega
        · show some (V.p (.int .i64 (add1 .i64 (Int.ofNat 0) 1))) = _
          rw [hadd0]
        · show some (V.p (.int .i64 (add1 .i64 (Int.ofNat i) 1))) = _
          rw [hadd1]
        · rw [hB]; exact Nat.zero_le _
    · refine vcIf.no (by simp [hA1.not, hA1.eq, hA1.lt, hA1.le, hA1.cond, hA1.beq, hA1.orb, hL1.len, hL1.slen, hL1.sq, hyl, hi]) ?_
      cbv
      refine hret _ (RetEv.ret eOk rfl ?_)
      show V.p (.bool (ile (Int.ofNat u) 1)) = _
      rw [hA.le]
      congr 2
      exact decide_eq_true (by simp only [Int.ofNat_eq_natCast]; omega)
end Go.Proofs.Ytgblimlnkefllaa
