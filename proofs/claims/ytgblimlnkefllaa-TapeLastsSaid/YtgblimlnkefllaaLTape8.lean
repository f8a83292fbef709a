/- The walk of the law TapePlays. Conditions: on sizes. -/
import Derived.Test.YtgblimlnkefllaaLTape6
set_option maxRecDepth 100000
set_option maxHeartbeats 8000000
set_option linter.unusedSimpArgs false
set_option linter.unusedVariables false
namespace Go.Proofs.Ytgblimlnkefllaa
open Go Go.Lx
open Go.Sx (vcIf)

theorem bytes_plain {t : Tp} {n : Nat} {su ro af : Int} {d : Bool} {xs : List PV} (ht : IsTp t n su ro af d xs) :
    FnL Try.prog 15 [.own 0 0] [tpS n su ro af d, tpA xs] fun v own => ∃ (e : Int) (ys : List PV) , e = (if t.down then 11 else 0) ∧ ys = bP (if t.down then [] else t.all) ∧ v = .p (.tup [.sl ys, .int .i64 e]) ∧ own = [tpS n su ro af d, tpA xs] := by
  refine (bytes_spec ht).less ?_
  rintro _ _ ⟨e, ys, h1, h2, ⟨rfl, rfl⟩ | ⟨h3, rfl, rfl⟩⟩
  · exact ⟨_, [tpS n su ro af d, tpA xs], [.dead], rfl, .refl _, rfl, rfl, Nat.le_refl _, e, ys, h1, h2, rfl, rfl⟩
  · exact ⟨.p (.tup [.sl [], .int .i64 e]), _, [], (List.append_nil _).symm, .p (PW.tup ⟨PW.nils, PW.refl _, trivial⟩), rfl, rfl, Nat.le_refl _, e, ys, h1, h2, by rw [h3], rfl⟩

structure AV where
  what : Int
  n : Int
  text : List UInt8
  turn : UInt8
def AV.v (a : AV) : PV := .agg [.int .i64 a.what, .int .i64 a.n, .sl (bP a.text), .int .u8 (a.turn.toNat : Int)]
def AV.ok (a : AV) : Prop := (-9223372036854775808 ≤ a.n ∧ a.n ≤ 9223372036854775807) ∧ a.text.length < 4611686018427387904
theorem has_AV {K : Nat} (hK : K < 4611686018427387904) {z : PV} (h : Sh.Has K (.st [.int .i64, .int .i64, .sl 1 (.int .u8), .int .u8]) z) : ∃ a : AV, z = a.v ∧ a.ok := by
  obtain ⟨cs, rfl, h0⟩ := has_st h
  obtain ⟨y0, c0, k0, e0, h1⟩ := has_cons h0
  obtain ⟨y1, c1, k1, e1, h2⟩ := has_cons h1
  obtain ⟨y2, c2, k2, e2, h3⟩ := has_cons h2
  obtain ⟨y3, c3, k3, e3, h4⟩ := has_cons h3
  obtain rfl := has_nil h4
  subst e3 e2 e1 e0
  obtain ⟨w, rfl, _, _⟩ := has_int k0
  obtain ⟨n, rfl, n1, n2⟩ := has_int k1
  obtain ⟨l, rfl, hl⟩ := has_bytes k2
  obtain ⟨x, rfl, hx⟩ := has_u8 k3
  refine ⟨⟨w, n, l, UInt8.ofNat x⟩, ?_, ⟨n1, n2⟩, by simp only; omega⟩
  show PV.agg _ = PV.agg [.int .i64 w, .int .i64 n, .sl (bP l), .int .u8 ((UInt8.ofNat x).toNat : Int)]
  rw [ofNat_toNat (by omega)]; rfl
theorem rfail {t : Tp} {sr ls : List UInt8} {ro lf : Int} {d : Bool} (ht : IsRt t sr ls ro lf d) (k : Int) (hk : -9223372036854775808 ≤ k ∧ k ≤ 9223372036854775807) : IsRt (tpFail t k) sr ls ro k d := by
  obtain ⟨h1, h2, h3, h4, h5, h8, h9, h10, h11⟩ := ht
  exact ⟨h1, h2, h3, rfl, h5, h8, h9, hk.1, hk.2⟩
structure PI where
  i : Nat
  t : Tp
  n : Nat
  su : Int
  ro : Int
  af : Int
  d : Bool
  xs : List PV
  sr : List UInt8
  ls : List UInt8
  rr : Int
  lf : Int
  dd : Bool
abbrev PI.fr (zs : List PV) (s : PI) : List (Nat × V) := [(1, .p (.sl zs)), (5, .own 0 0), (7, .own 2 0), (8, .p (.int .i64 (Int.ofNat s.i)))]
abbrev PI.own (s : PI) : List Res := [tpS s.n s.su s.ro s.af s.d, tpA s.xs, rtS s.sr s.ls s.rr s.lf s.dd]

structure PJ where
  s : PI
  f : Int
  e : Int
  ys : List PV
theorem tapePlays (room : Int) (hr1 : -9223372036854775808 ≤ room) (hr2 : room ≤ 9223372036854775807) (l : List AV) (hl : ∀ a ∈ l, a.ok) (hll : l.length < 9223372036854775807) :
    FnL Try.prog 4 [.p (.int .i64 room), .p (.sl (l.map AV.v))] [] fun z own => z = .p (.bool true) := by
  obtain ⟨zs, hzs⟩ : ∃ zs, zs = l.map AV.v := ⟨_, rfl⟩
  have hzl : zs.length = l.length := by rw [hzs, List.length_map]
  obtain ⟨N, hN⟩ : ∃ N, N = l.length := ⟨_, rfl⟩
  have hnew := tapeNew_spec room hr1 hr2
  rw [← hzs]
  refine fn_of_vc eOk fOk fo4 Try.func4 rfl rfl rfl fun B hB => ?_
  intro add sub mul quo rem band bor bxor bclr shl shr ieq ilt ile seq slt beq bnot orb bcond iwrap iof ssz hA cat sq sl imin imax smin smax len slen u8 hL op hop call hcall code hcode ret hret
  cbv
  refine hcall _ _ _ _ _ (CallEv.same hnew rfl ?_)
  rintro _ _ (⟨h, rfl, rfl⟩ | ⟨h, rfl, rfl⟩)
  · cbv
    by_cases h0 : room < 0
    · refine vcIf.yes (by simp [hA.not, hA.eq, hA.lt, hA.le, hA.cond, hA.beq, hA.orb, hL.len, hL.slen, hL.sq, h0]) ?_
      cbv
      repeat (first | (refine vcIf.yes ?_ ?_; (focus (simp [hA.not, hA.eq, hA.lt, hA.le, hA.cond, hA.beq, hA.orb, hL.len, hL.slen, hL.sq]; done)); cbv) | (refine vcIf.no ?_ ?_; (focus (simp [hA.not, hA.eq, hA.lt, hA.le, hA.cond, hA.beq, hA.orb, hL.len, hL.slen, hL.sq]; done)); cbv) | fail)
      refine hcall _ _ _ _ _ (CallEv.same awake6_spec rfl ?_)
      rintro _ _ ⟨rfl, rfl⟩
      cbv
      repeat (first | (refine vcIf.yes ?_ ?_; (focus (simp [hA.not, hA.eq, hA.lt, hA.le, hA.cond, hA.beq, hA.orb, hL.len, hL.slen, hL.sq]; done)); cbv) | (refine vcIf.no ?_ ?_; (focus (simp [hA.not, hA.eq, hA.lt, hA.le, hA.cond, hA.beq, hA.orb, hL.len, hL.slen, hL.sq]; done)); cbv) | fail)
      exact hret _ (RetEv.ret eOk rfl (by simp [hA.not, hA.eq, hA.lt, hA.le, hA.cond, hA.beq, hA.orb, hL.len, hL.slen, hL.sq, oneOf]))
    · have h1 : 1048576 < room := h.resolve_left h0
      refine vcIf.no (by simp [hA.not, hA.eq, hA.lt, hA.le, hA.cond, hA.beq, hA.orb, hL.len, hL.slen, hL.sq, h0]) ?_
      cbv
      repeat (first | (refine vcIf.yes ?_ ?_; (focus (simp [hA.not, hA.eq, hA.lt, hA.le, hA.cond, hA.beq, hA.orb, hL.len, hL.slen, hL.sq, h1]; done)); cbv) | (refine vcIf.no ?_ ?_; (focus (simp [hA.not, hA.eq, hA.lt, hA.le, hA.cond, hA.beq, hA.orb, hL.len, hL.slen, hL.sq, h1]; done)); cbv) | fail)
      refine hcall _ _ _ _ _ (CallEv.same awake6_spec rfl ?_)
      rintro _ _ ⟨rfl, rfl⟩
      cbv
      repeat (first | (refine vcIf.yes ?_ ?_; (focus (simp [hA.not, hA.eq, hA.lt, hA.le, hA.cond, hA.beq, hA.orb, hL.len, hL.slen, hL.sq]; done)); cbv) | (refine vcIf.no ?_ ?_; (focus (simp [hA.not, hA.eq, hA.lt, hA.le, hA.cond, hA.beq, hA.orb, hL.len, hL.slen, hL.sq]; done)); cbv) | fail)
      exact hret _ (RetEv.ret eOk rfl (by simp [hA.not, hA.eq, hA.lt, hA.le, hA.cond, hA.beq, hA.orb, hL.len, hL.slen, hL.sq, oneOf]))
  have h0 : ¬ room < 0 := fun c => h (.inl c)
  have h1 : ¬ 1048576 < room := fun c => h (.inr c)
  have hin : IsTp ⟨[], 0, room.toNat, -1, false⟩ 0 0 room (-1) false [] := ⟨rfl, rfl, (Int.toNat_of_nonneg (by omega)).symm, rfl, rfl, rfl, Nat.le_refl _, Nat.zero_le _, by simp only; omega, by simp only; omega, by simp only; omega⟩
  have hir : IsRt ⟨[], 0, room.toNat, -1, false⟩ [] [] room (-1) false := ⟨rfl, rfl, (Int.toNat_of_nonneg (by omega)).symm, rfl, rfl, Nat.zero_le _, by simp only; omega, by decide, by decide⟩
  cbv
  repeat (first | (refine vcIf.yes ?_ ?_; (focus (simp [hA.not, hA.eq, hA.lt, hA.le, hA.cond, hA.beq, hA.orb, hL.len, hL.slen, hL.sq, h0, h1]; done)); cbv) | (refine vcIf.no ?_ ?_; (focus (simp [hA.not, hA.eq, hA.lt, hA.le, hA.cond, hA.beq, hA.orb, hL.len, hL.slen, hL.sq, h0, h1]; done)); cbv) | fail)
  refine hcall _ _ _ _ _ (CallEv.same awake6_spec rfl ?_)
  rintro _ _ ⟨rfl, rfl⟩
  cbv
  repeat (first | (refine vcIf.yes ?_ ?_; (focus (simp [hA.not, hA.eq, hA.lt, hA.le, hA.cond, hA.beq, hA.orb, hL.len, hL.slen, hL.sq]; done)); cbv) | (refine vcIf.no ?_ ?_; (focus (simp [hA.not, hA.eq, hA.lt, hA.le, hA.cond, hA.beq, hA.orb, hL.len, hL.slen, hL.sq]; done)); cbv) | fail)
  refine hcode _ _ _ (CodeEv.loop eOk fOk (ι := PI) (PI.fr zs) PI.own (fun s => IsTp s.t s.n s.su s.ro s.af s.d s.xs ∧ IsRt s.t s.sr s.ls s.rr s.lf s.dd ∧ s.i ≤ 100) (fun s => 100 - s.i)
    ⟨0, ⟨[], 0, room.toNat, -1, false⟩, 0, 0, room, -1, false, [], [], [], room, -1, false⟩ ?_ ?_)
  · exact ⟨⟨rfl, rfl, rfl, rfl, trivial⟩, rfl, hin, hir, Nat.zero_le _⟩
  rintro ⟨i, t, n, su, ro, af, d, xs, sr, ls, rr, lf, dd⟩ ⟨h1, h2, h3⟩ rd hrd
  simp only at h1 h2 h3
  intro add1 sub1 mul1 quo1 rem1 band1 bor1 bxor1 bclr1 shl1 shr1 ieq1 ilt1 ile1 seq1 slt1 beq1 bnot1 orb1 bcond1 iwrap1 iof1 ssz1 hA1 cat1 sq1 sl1 imin1 imax1 smin1 smax1 len1 slen1 u81 hL1 op1 hop1 call1 hcall1 code1 hcode1
  have hlen : len1 zs = Int.ofNat N := by rw [hL1.len, hzl, hN]; rfl
  have hadd1 : ∀ i : Nat, i < 1000 → add1 .i64 (Int.ofNat i) 1 = Int.ofNat (i + 1) := fun i hi => by rw [hA1.add, IntWalk.i64_in _ (by simp only [Int.ofNat_eq_natCast]; omega)]; rfl
  cbv
  by_cases h100 : i < N ∧ i < 100
  · obtain ⟨hi, hi1⟩ := h100
    obtain ⟨a, ha⟩ := get_of_lt (show i < l.length by omega)
    obtain ⟨⟨hn1, hn2⟩, htx⟩ := hl a (List.mem_of_getElem? ha)
    obtain ⟨tx, htx2⟩ : ∃ tx, tx = bP a.text := ⟨_, rfl⟩
    obtain ⟨tv, htv⟩ : ∃ tv : Int, tv = (a.turn.toNat : Int) := ⟨_, rfl⟩
    have hay : zs[i]? = some (.agg [.int .i64 a.what, .int .i64 a.n, .sl tx, .int .u8 tv]) := by rw [hzs, htx2, htv, List.getElem?_map, ha]; rfl
    have hadd := add_spec h1 a.text htx
    have hradd := radd_spec h2 a.text htx
    have hsync := sync_spec h1
    have hrsync := rsync_spec h2
    have hrep := replace_spec h1 a.text (by omega)
    have hrrep := rreplace_spec h2 a.text (by omega)
    have hfail := fail_spec h1 a.n hn2
    have hrf := rfail h2 a.n ⟨hn1, hn2⟩
    have hcr := crash_spec h1 a.n hn1 hn2 a.turn
    have hrcr := rcrash_spec h2 a.n hn1 hn2 a.turn
    rw [← htx2] at hadd hradd hrep hrrep
    rw [← htv] at hcr hrcr
    have htail : ∀ (t' : Tp) (n' : Nat) (su' ro' af' : Int) (d' : Bool) (xs' : List PV) (sr' ls' : List UInt8) (rr' lf' : Int) (dd' : Bool), IsTp t' n' su' ro' af' d' xs' → IsRt t' sr' ls' rr' lf' dd' → IsTp t' n' su' ro' af' d' xs' ∧ IsRt t' sr' ls' rr' lf' dd' ∧ i + 1 ≤ 100 := fun _ _ _ _ _ _ _ _ _ _ _ _ g1 g2 => ⟨g1, g2, hi1⟩
    clear htv htx2 ha
    generalize a.what = wh at *
    generalize a.n = an at *
    refine vcIf.yes (by rw [hA1.lt, hlen]; exact dlt hi) ?_
    cbv
    refine vcIf.yes (by rw [hA1.cond, hA1.lt]; exact dlt hi1) ?_
    cbv
    refine ⟨i, _, rfl, hay, rfl, ?_⟩
    cbv
    apply meet (ι := PJ) 160 (fun j => (10, .p (.int .i64 j.f)) :: (11, .p (.int .i64 j.f)) :: (12, .p (.sl j.ys)) :: (13, .p (.int .i64 j.e)) :: PI.fr zs j.s) (fun j => PI.own j.s)
      (fun j => (IsTp j.s.t j.s.n j.s.su j.s.ro j.s.af j.s.d j.s.xs ∧ IsRt j.s.t j.s.sr j.s.ls j.s.rr j.s.lf j.s.dd ∧ j.s.i + 1 ≤ 100) ∧ j.e = (if j.s.t.down then 11 else 0) ∧ j.ys = bP (if j.s.t.down then [] else j.s.t.all) ∧ j.s.i = i) eOk fOk
    · intro hcut
      by_cases w0 : wh = 0
      · repeat (first | (refine vcIf.yes ?_ ?_; (focus (simp [hA1.not, hA1.eq, hA1.lt, hA1.le, hA1.cond, hA1.beq, hA1.orb, hL1.len, hL1.slen, hL1.sq, w0]; done)); cbv) | (refine vcIf.no ?_ ?_; (focus (simp [hA1.not, hA1.eq, hA1.lt, hA1.le, hA1.cond, hA1.beq, hA1.orb, hL1.len, hL1.slen, hL1.sq, w0]; done)); cbv) | fail)
        refine hcall1 _ _ _ _ _ (CallEv.lend [0, 1] hadd rfl (.cons (.own 0 0 0 rfl) (.cons (.p _) .nil)) (tpL rfl rfl rfl rfl) ?_)
        rintro _ _ ⟨e, n', su', ro', af', d', xs', he, ht', rfl, rfl⟩
        cbv
        refine hcall1 _ _ _ _ _ (CallEv.lend [2] hradd rfl (.cons (.own 0 2 0 rfl) (.cons (.p _) .nil)) (rtL rfl) ?_)
        rintro _ _ ⟨e2, sr', ls', rr', lf', dd', he2, hr', rfl, rfl⟩
        obtain rfl := he2.trans he.symm
        have hI := htail _ _ _ _ _ _ _ _ _ _ _ _ ht' hr'
        have hby := bytes_plain ht'
        cbv
        refine hcall1 _ _ _ _ _ (CallEv.lend [0, 1] hby rfl (.cons (.own 0 0 0 rfl) .nil) (tpL rfl rfl rfl rfl) ?_)
        rintro _ _ ⟨e, ys, he, hys, rfl, rfl⟩
        cbv
        exact hcode1 _ _ _ (CodeEv.join (hcut ⟨⟨i, _, n', su', ro', af', d', xs', sr', ls', rr', lf', dd'⟩, e2, e, ys⟩ ⟨hI, he, hys, rfl⟩) [_] rfl (by repeat (first | exact trivial | refine And.intro rfl ?_)) rfl rfl rfl (by rw [hB]; exact Nat.zero_le _))
      by_cases w1 : wh = 1
      · repeat (first | (refine vcIf.yes ?_ ?_; (focus (simp [hA1.not, hA1.eq, hA1.lt, hA1.le, hA1.cond, hA1.beq, hA1.orb, hL1.len, hL1.slen, hL1.sq, w0, w1]; done)); cbv) | (refine vcIf.no ?_ ?_; (focus (simp [hA1.not, hA1.eq, hA1.lt, hA1.le, hA1.cond, hA1.beq, hA1.orb, hL1.len, hL1.slen, hL1.sq, w0, w1]; done)); cbv) | fail)
        refine hcall1 _ _ _ _ _ (CallEv.lend [0, 1] hadd rfl (.cons (.own 0 0 0 rfl) (.cons (.p _) .nil)) (tpL rfl rfl rfl rfl) ?_)
        rintro _ _ ⟨e, n', su', ro', af', d', xs', he, ht', rfl, rfl⟩
        cbv
        refine hcall1 _ _ _ _ _ (CallEv.lend [2] hradd rfl (.cons (.own 0 2 0 rfl) (.cons (.p _) .nil)) (rtL rfl) ?_)
        rintro _ _ ⟨e2, sr', ls', rr', lf', dd', he2, hr', rfl, rfl⟩
        obtain rfl := he2.trans he.symm
        have hI := htail _ _ _ _ _ _ _ _ _ _ _ _ ht' hr'
        have hby := bytes_plain ht'
        cbv
        refine hcall1 _ _ _ _ _ (CallEv.lend [0, 1] hby rfl (.cons (.own 0 0 0 rfl) .nil) (tpL rfl rfl rfl rfl) ?_)
        rintro _ _ ⟨e, ys, he, hys, rfl, rfl⟩
        cbv
        exact hcode1 _ _ _ (CodeEv.join (hcut ⟨⟨i, _, n', su', ro', af', d', xs', sr', ls', rr', lf', dd'⟩, e2, e, ys⟩ ⟨hI, he, hys, rfl⟩) [_] rfl (by repeat (first | exact trivial | refine And.intro rfl ?_)) rfl rfl rfl (by rw [hB]; exact Nat.zero_le _))
      by_cases w2 : wh = 2
      · repeat (first | (refine vcIf.yes ?_ ?_; (focus (simp [hA1.not, hA1.eq, hA1.lt, hA1.le, hA1.cond, hA1.beq, hA1.orb, hL1.len, hL1.slen, hL1.sq, w0, w1, w2]; done)); cbv) | (refine vcIf.no ?_ ?_; (focus (simp [hA1.not, hA1.eq, hA1.lt, hA1.le, hA1.cond, hA1.beq, hA1.orb, hL1.len, hL1.slen, hL1.sq, w0, w1, w2]; done)); cbv) | fail)
        refine hcall1 _ _ _ _ _ (CallEv.lend [0, 1] hsync rfl (.cons (.own 0 0 0 rfl) .nil) (tpL rfl rfl rfl rfl) ?_)
        rintro _ _ ⟨e, n', su', ro', af', d', xs', he, ht', rfl, rfl⟩
        cbv
        refine hcall1 _ _ _ _ _ (CallEv.lend [2] hrsync rfl (.cons (.own 0 2 0 rfl) .nil) (rtL rfl) ?_)
        rintro _ _ ⟨e2, sr', ls', rr', lf', dd', he2, hr', rfl, rfl⟩
        obtain rfl := he2.trans he.symm
        have hI := htail _ _ _ _ _ _ _ _ _ _ _ _ ht' hr'
        have hby := bytes_plain ht'
        cbv
        refine hcall1 _ _ _ _ _ (CallEv.lend [0, 1] hby rfl (.cons (.own 0 0 0 rfl) .nil) (tpL rfl rfl rfl rfl) ?_)
        rintro _ _ ⟨e, ys, he, hys, rfl, rfl⟩
        cbv
        exact hcode1 _ _ _ (CodeEv.join (hcut ⟨⟨i, _, n', su', ro', af', d', xs', sr', ls', rr', lf', dd'⟩, e2, e, ys⟩ ⟨hI, he, hys, rfl⟩) [_] rfl (by repeat (first | exact trivial | refine And.intro rfl ?_)) rfl rfl rfl (by rw [hB]; exact Nat.zero_le _))
      by_cases w3 : wh = 3
      · repeat (first | (refine vcIf.yes ?_ ?_; (focus (simp [hA1.not, hA1.eq, hA1.lt, hA1.le, hA1.cond, hA1.beq, hA1.orb, hL1.len, hL1.slen, hL1.sq, w0, w1, w2, w3]; done)); cbv) | (refine vcIf.no ?_ ?_; (focus (simp [hA1.not, hA1.eq, hA1.lt, hA1.le, hA1.cond, hA1.beq, hA1.orb, hL1.len, hL1.slen, hL1.sq, w0, w1, w2, w3]; done)); cbv) | fail)
        refine hcall1 _ _ _ _ _ (CallEv.lend [0, 1] hrep rfl (.cons (.own 0 0 0 rfl) (.cons (.p _) .nil)) (tpL rfl rfl rfl rfl) ?_)
        rintro _ _ ⟨e, n', su', ro', af', d', xs', he, ht', rfl, rfl⟩
        cbv
        refine hcall1 _ _ _ _ _ (CallEv.lend [2] hrrep rfl (.cons (.own 0 2 0 rfl) (.cons (.p _) .nil)) (rtL rfl) ?_)
        rintro _ _ ⟨e2, sr', ls', rr', lf', dd', he2, hr', rfl, rfl⟩
        obtain rfl := he2.trans he.symm
        have hI := htail _ _ _ _ _ _ _ _ _ _ _ _ ht' hr'
        have hby := bytes_plain ht'
        cbv
        refine hcall1 _ _ _ _ _ (CallEv.lend [0, 1] hby rfl (.cons (.own 0 0 0 rfl) .nil) (tpL rfl rfl rfl rfl) ?_)
        rintro _ _ ⟨e, ys, he, hys, rfl, rfl⟩
        cbv
        exact hcode1 _ _ _ (CodeEv.join (hcut ⟨⟨i, _, n', su', ro', af', d', xs', sr', ls', rr', lf', dd'⟩, e2, e, ys⟩ ⟨hI, he, hys, rfl⟩) [_] rfl (by repeat (first | exact trivial | refine And.intro rfl ?_)) rfl rfl rfl (by rw [hB]; exact Nat.zero_le _))
      by_cases w4 : wh = 4
      · repeat (first | (refine vcIf.yes ?_ ?_; (focus (simp [hA1.not, hA1.eq, hA1.lt, hA1.le, hA1.cond, hA1.beq, hA1.orb, hL1.len, hL1.slen, hL1.sq, w0, w1, w2, w3, w4]; done)); cbv) | (refine vcIf.no ?_ ?_; (focus (simp [hA1.not, hA1.eq, hA1.lt, hA1.le, hA1.cond, hA1.beq, hA1.orb, hL1.len, hL1.slen, hL1.sq, w0, w1, w2, w3, w4]; done)); cbv) | fail)
        refine hcall1 _ _ _ _ _ (CallEv.lend [0, 1] hfail rfl (.cons (.own 0 0 0 rfl) (.cons (.p _) .nil)) (tpL rfl rfl rfl rfl) ?_)
        rintro _ _ ⟨af', ht', rfl⟩
        have hr' := hrf
        have hI := htail _ _ _ _ _ _ _ _ _ _ _ _ ht' hr'
        have hby := bytes_plain ht'
        cbv
        refine hcall1 _ _ _ _ _ (CallEv.lend [0, 1] hby rfl (.cons (.own 0 0 0 rfl) .nil) (tpL rfl rfl rfl rfl) ?_)
        rintro _ _ ⟨e, ys, he, hys, rfl, rfl⟩
        cbv
        exact hcode1 _ _ _ (CodeEv.join (hcut ⟨⟨i, _, n, su, ro, af', d, xs, sr, ls, rr, an, dd⟩, 0, e, ys⟩ ⟨hI, he, hys, rfl⟩) [_] rfl (by repeat (first | exact trivial | refine And.intro rfl ?_)) rfl rfl rfl (by rw [hB]; exact Nat.zero_le _))
      repeat (first | (refine vcIf.yes ?_ ?_; (focus (simp [hA1.not, hA1.eq, hA1.lt, hA1.le, hA1.cond, hA1.beq, hA1.orb, hL1.len, hL1.slen, hL1.sq, w0, w1, w2, w3, w4]; done)); cbv) | (refine vcIf.no ?_ ?_; (focus (simp [hA1.not, hA1.eq, hA1.lt, hA1.le, hA1.cond, hA1.beq, hA1.orb, hL1.len, hL1.slen, hL1.sq, w0, w1, w2, w3, w4]; done)); cbv) | fail)
      refine hcall1 _ _ _ _ _ (CallEv.lend [0, 1] hcr rfl (.cons (.own 0 0 0 rfl) (.cons (.p _) (.cons (.p _) .nil))) (tpL rfl rfl rfl rfl) ?_)
      rintro _ _ ⟨n', su', ro', af', d', xs', ht', rfl⟩
      cbv
      refine hcall1 _ _ _ _ _ (CallEv.lend [2] hrcr rfl (.cons (.own 0 2 0 rfl) (.cons (.p _) (.cons (.p _) .nil))) (rtL rfl) ?_)
      rintro _ _ ⟨sr', ls', rr', lf', dd', hr', rfl⟩
      have hI := htail _ _ _ _ _ _ _ _ _ _ _ _ ht' hr'
      have hby := bytes_plain ht'
      cbv
      refine hcall1 _ _ _ _ _ (CallEv.lend [0, 1] hby rfl (.cons (.own 0 0 0 rfl) .nil) (tpL rfl rfl rfl rfl) ?_)
      rintro _ _ ⟨e, ys, he, hys, rfl, rfl⟩
      cbv
      exact hcode1 _ _ _ (CodeEv.join (hcut ⟨⟨i, _, n', su', ro', af', d', xs', sr', ls', rr', lf', dd'⟩, 0, e, ys⟩ ⟨hI, he, hys, rfl⟩) [_] rfl (by repeat (first | exact trivial | refine And.intro rfl ?_)) rfl rfl rfl (by rw [hB]; exact Nat.zero_le _))
    · rintro ⟨⟨ii, t, n, su, ro, af, d, xs, sr, ls, rr, lf, dd⟩, f, e, ys⟩ ⟨⟨h1, h2, h3⟩, h4, h5, h6⟩
      simp only at h1 h2 h3 h4 h5 h6
      have hlo := loose_spec h1
      have hdd : dd = t.down := h2.2.2.2.2.1
      have hall : t.all = sr ++ ls := h2.1
      have hsz : sr.length + ls.length ≤ 9223372036854775807 := by have g := h1.2.2.2.2.2.2.2.1; have g2 := h1.2.2.2.2.2.2.2.2.1; rw [hall, List.length_append] at g; omega
      have hsure : t.sure = sr.length := h2.2.1
      have hloo : ((t.all.length - t.sure : Nat) : Int) = Int.ofNat ls.length := by rw [hall, hsure, List.length_append]; simp
      rw [← hdd] at h4 h5
      obtain ⟨W, hW⟩ : ∃ W, W = sr ++ ls := ⟨_, rfl⟩
      intro add2 sub2 mul2 quo2 rem2 band2 bor2 bxor2 bclr2 shl2 shr2 ieq2 ilt2 ile2 seq2 slt2 beq2 bnot2 orb2 bcond2 iwrap2 iof2 ssz2 hA2 cat2 sq2 sl2 imin2 imax2 smin2 smax2 len2 slen2 u82 hL2 op2 hop2 call2 hcall2 code2 hcode2
      cbv
      refine hcode2 _ _ _ (CodeEv.drawA eOk fOk (by kernel_rfl) noX (by kernel_rfl) (by kernel_rfl) (by kernel_rfl) ?_)
      intro add3 sub3 mul3 quo3 rem3 band3 bor3 bxor3 bclr3 shl3 shr3 ieq3 ilt3 ile3 seq3 slt3 beq3 bnot3 orb3 bcond3 iwrap3 iof3 ssz3 hA3 cat3 sq3 sl3 imin3 imax3 smin3 smax3 len3 slen3 u83 hL3 op3 hop3 call3 hcall3 code3 hcode3 q3 hq3
      rw [hall, ← hW] at h5
      rw [← hL3.cat] at hW
      cbv
      refine ⟨(), hsz, ?_⟩
      cbv
      rw [← hW]
      refine hq3 _ ?_
      cases dd with
      | true =>
        replace h4 : e = 11 := h4
        replace h5 : ys = bP [] := h5
        obtain rfl := h4
        cbv
        refine hcode1 _ _ _ (CodeEv.draw eOk fOk (by kernel_rfl) (Xof 3 [0, 1]) [(0, .rd), (1, .sole), (2, .sole), (3, .sole), (4, .rd), (5, .rd), (6, .sole), (7, .sole), (8, .sole), (9, .sole), (10, .sole), (11, .sole), (12, .sole), (13, .rd), (14, .rd), (15, .sole), (16, .sole), (17, .sole), (18, .sole), (19, .rd), (21, .rd), (22, .rd), (23, .rd), (24, .rd), (25, .rd), (20, .act), (26, .sole), (27, .sole)] (by kernel_rfl) (by kernel_rfl) (by kernel_rfl) ?_)
        intro add4 sub4 mul4 quo4 rem4 band4 bor4 bxor4 bclr4 shl4 shr4 ieq4 ilt4 ile4 seq4 slt4 beq4 bnot4 orb4 bcond4 iwrap4 iof4 ssz4 hA4 cat4 sq4 sl4 imin4 imax4 smin4 smax4 len4 slen4 u84 hL4 op4 hop4 call4 hcall4 code4 hcode4 q4 hq4
        cbv
        repeat (first | (refine vcIf.yes ?_ ?_; (focus (simp [hA4.not, hA4.eq, hA4.lt, hA4.le, hA4.cond, hA4.beq, hA4.orb, hL4.len, hL4.slen, hL4.sq]; done)); cbv) | (refine vcIf.no ?_ ?_; (focus (simp [hA4.not, hA4.eq, hA4.lt, hA4.le, hA4.cond, hA4.beq, hA4.orb, hL4.len, hL4.slen, hL4.sq]; done)); cbv) | fail)
        refine ⟨_, h5, ?_⟩
        cbv
        repeat (first | (refine vcIf.yes ?_ ?_; (focus (simp [hA4.not, hA4.eq, hA4.lt, hA4.le, hA4.cond, hA4.beq, hA4.orb, hL4.len, hL4.slen, hL4.sq]; done)); cbv) | (refine vcIf.no ?_ ?_; (focus (simp [hA4.not, hA4.eq, hA4.lt, hA4.le, hA4.cond, hA4.beq, hA4.orb, hL4.len, hL4.slen, hL4.sq]; done)); cbv) | fail)
        refine hcall4 _ _ _ _ _ (CallEv.lend [0, 1] hlo rfl (.cons (.own 0 0 0 rfl) .nil) (tpL rfl rfl rfl rfl) ?_)
        rintro _ _ ⟨z, hz, rfl, rfl⟩
        rw [hloo] at hz
        cbv
        refine hq4 _ ?_
        refine vcIf.no (by simp [hA4.not, hA4.eq, hA4.lt, hA4.le, hA4.cond, hA4.beq, hA4.orb, hL4.len, hL4.slen, hL4.sq, hz]) ?_
        cbv
        refine hrd _ ⟨⟨ii + 1, t, n, su, ro, af, d, xs, sr, ls, rr, lf, _⟩, [], ?_, ⟨h1, h2, h3⟩, rfl, ⟨rfl, rfl, rfl, ?_, trivial⟩, rfl, rfl, rfl, ?_⟩
        · show 100 - (ii + 1) < 100 - i
          omega
        · show some (V.p (.int .i64 (add1 .i64 (Int.ofNat ii) 1))) = _
          rw [hadd1 ii (by omega)]
        · rw [hB]; exact Nat.zero_le _
      | false =>
        replace h4 : e = 0 := h4
        replace h5 : ys = bP W := h5
        obtain rfl := h4
        cbv
        refine hcode1 _ _ _ (CodeEv.draw eOk fOk (by kernel_rfl) (Xof 3 [0, 1]) [(0, .rd), (1, .sole), (2, .sole), (3, .sole), (4, .rd), (5, .rd), (6, .sole), (7, .sole), (8, .sole), (9, .sole), (10, .sole), (11, .sole), (12, .sole), (13, .rd), (14, .rd), (15, .sole), (16, .sole), (17, .sole), (18, .sole), (19, .rd), (21, .rd), (22, .rd), (23, .rd), (24, .rd), (25, .rd), (20, .act), (26, .sole), (27, .sole)] (by kernel_rfl) (by kernel_rfl) (by kernel_rfl) ?_)
        intro add4 sub4 mul4 quo4 rem4 band4 bor4 bxor4 bclr4 shl4 shr4 ieq4 ilt4 ile4 seq4 slt4 beq4 bnot4 orb4 bcond4 iwrap4 iof4 ssz4 hA4 cat4 sq4 sl4 imin4 imax4 smin4 smax4 len4 slen4 u84 hL4 op4 hop4 call4 hcall4 code4 hcode4 q4 hq4
        cbv
        repeat (first | (refine vcIf.yes ?_ ?_; (focus (simp [hA4.not, hA4.eq, hA4.lt, hA4.le, hA4.cond, hA4.beq, hA4.orb, hL4.len, hL4.slen, hL4.sq]; done)); cbv) | (refine vcIf.no ?_ ?_; (focus (simp [hA4.not, hA4.eq, hA4.lt, hA4.le, hA4.cond, hA4.beq, hA4.orb, hL4.len, hL4.slen, hL4.sq]; done)); cbv) | fail)
        refine ⟨_, h5, ?_⟩
        cbv
        repeat (first | (refine vcIf.yes ?_ ?_; (focus (simp [hA4.not, hA4.eq, hA4.lt, hA4.le, hA4.cond, hA4.beq, hA4.orb, hL4.len, hL4.slen, hL4.sq]; done)); cbv) | (refine vcIf.no ?_ ?_; (focus (simp [hA4.not, hA4.eq, hA4.lt, hA4.le, hA4.cond, hA4.beq, hA4.orb, hL4.len, hL4.slen, hL4.sq]; done)); cbv) | fail)
        refine hcall4 _ _ _ _ _ (CallEv.lend [0, 1] hlo rfl (.cons (.own 0 0 0 rfl) .nil) (tpL rfl rfl rfl rfl) ?_)
        rintro _ _ ⟨z, hz, rfl, rfl⟩
        rw [hloo] at hz
        cbv
        refine hq4 _ ?_
        refine vcIf.no (by simp [hA4.not, hA4.eq, hA4.lt, hA4.le, hA4.cond, hA4.beq, hA4.orb, hL4.len, hL4.slen, hL4.sq, hz]) ?_
        cbv
        refine hrd _ ⟨⟨ii + 1, t, n, su, ro, af, d, xs, sr, ls, rr, lf, _⟩, [], ?_, ⟨h1, h2, h3⟩, rfl, ⟨rfl, rfl, rfl, ?_, trivial⟩, rfl, rfl, rfl, ?_⟩
        · show 100 - (ii + 1) < 100 - i
          omega
        · show some (V.p (.int .i64 (add1 .i64 (Int.ofNat ii) 1))) = _
          rw [hadd1 ii (by omega)]
        · rw [hB]; exact Nat.zero_le _
  · by_cases hi : i < N
    · refine vcIf.yes (by rw [hA1.lt, hlen]; exact dlt hi) ?_
      cbv
      refine vcIf.no (by rw [hA1.cond, hA1.lt]; exact dlt' (fun c => h100 ⟨hi, c⟩)) ?_
      cbv
      exact hret _ (RetEv.ret eOk rfl rfl)
    · refine vcIf.no (by rw [hA1.lt, hlen]; exact dlt' hi) ?_
      cbv
      repeat (first | (refine vcIf.yes ?_ ?_; (focus (simp [hA1.not, hA1.eq, hA1.lt, hA1.le, hA1.cond, hA1.beq, hA1.orb, hL1.len, hL1.slen, hL1.sq]; done)); cbv) | (refine vcIf.no ?_ ?_; (focus (simp [hA1.not, hA1.eq, hA1.lt, hA1.le, hA1.cond, hA1.beq, hA1.orb, hL1.len, hL1.slen, hL1.sq]; done)); cbv) | fail)
      exact hret _ (RetEv.ret eOk rfl rfl)
end Go.Proofs.Ytgblimlnkefllaa
