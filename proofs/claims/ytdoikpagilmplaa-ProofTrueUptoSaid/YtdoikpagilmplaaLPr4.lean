/- Did a deed read what there was? Both. Conditions: on sizes, and that the pairs are in order. -/
import Derived.Test.YtdoikpagilmplaaLPr3
set_option maxRecDepth 100000
set_option maxHeartbeats 16000000
set_option linter.unusedSimpArgs false
set_option linter.unusedVariables false
namespace Go.Proofs.Ytdoikpagilmplaa
open Go Go.Lx
open Go.Sx (vcIf)

structure Sn where
  lo : List UInt8
  hi : List UInt8
  aft : Int
  ps : List Pr
def Sn.v (s : Sn) : PV := .agg [.str s.lo, .str s.hi, .int .i64 s.aft, .sl (prP s.ps)]
def snP (l : List Sn) : List PV := l.map Sn.v
theorem snP_length (l : List Sn) : (snP l).length = l.length := List.length_map _
theorem snP_get {l : List Sn} {i : Nat} {s : Sn} (h : l[i]? = some s) : (snP l)[i]? = some (.agg [.str s.lo, .str s.hi, .int .i64 s.aft, .sl (prP s.ps)]) := by unfold snP; rw [List.getElem?_map, h]; rfl
def Sn.fit (s : Sn) : Prop := s.ps.length < 281474976710656 ∧ -9223372036854775808 ≤ s.aft ∧ s.aft ≤ 9223372036854775807
structure Dd where
  g : Int
  b : Int
  e : Int
  r : Int
  o : Int
  w : Int
  seen : List Sn
  ch : List Chg
def Dd.v (d : Dd) : PV := .agg [.int .i64 d.g, .int .i64 d.b, .int .i64 d.e, .int .i64 d.r, .int .i64 d.o, .int .i64 d.w, .sl (snP d.seen), .sl (cP d.ch)]
def ddP (l : List Dd) : List PV := l.map Dd.v
theorem ddP_length (l : List Dd) : (ddP l).length = l.length := List.length_map _
theorem ddP_get {l : List Dd} {i : Nat} {d : Dd} (h : l[i]? = some d) : (ddP l)[i]? = some (.agg [.int .i64 d.g, .int .i64 d.b, .int .i64 d.e, .int .i64 d.r, .int .i64 d.o, .int .i64 d.w, .sl (snP d.seen), .sl (cP d.ch)]) := by unfold ddP; rw [List.getElem?_map, h]; rfl
def Dd.fit (d : Dd) : Prop := d.seen.length < 281474976710656 ∧ (∀ s ∈ d.seen, s.fit) ∧ d.ch.length < 281474976710656 ∧ ∀ c ∈ d.ch, c.fit

/-- What one saw is what there was. -/
def rgt (ps : List Pr) (s : Sn) (cs : List Chg) : Prop := 0 ≤ s.aft ∧ s.aft ≤ (cs.length : Int) ∧ chks (cs.take s.aft.toNat) = 0 ∧ (ones ps (cs.take s.aft.toNat)).filter (fun p => hs ⟨s.lo, s.hi⟩ p.key) = s.ps
def rgts (ps : List Pr) (d : Dd) : Prop := ∀ (k : Nat) (s : Sn), d.seen[k]? = some s → rgt ps s d.ch

theorem ones_bnd {ps : List Pr} (h : Srt ps) {cs : List Chg} {K : Nat} (hK : (ps.length + cs.length + 1) * 32 ≤ K) (j n : Nat) (hn : n = (ones ps (cs.take j)).length) : (n + 1) * 32 ≤ K := by
  have h1 := ones_len h (cs.take j)
  have h2 : (cs.take j).length ≤ cs.length := by rw [List.length_take]; exact Nat.min_le_right _ _
  rw [← hn] at h1
  exact Nat.le_trans (Nat.mul_le_mul_right _ (by omega)) hK
theorem right_spec (ps : List Pr) (hps : Srt ps) (d : Dd) (hd : d.fit) (hsz : (ps.length + d.ch.length + 1) * 32 ≤ 140737488355328) (zs : List PV) (hzs : zs = prP ps) :
    FnL Try.prog 29 [.p (.sl zs), .p (.agg [.int .i64 d.g, .int .i64 d.b, .int .i64 d.e, .int .i64 d.r, .int .i64 d.o, .int .i64 d.w, .sl (snP d.seen), .sl (cP d.ch)])] []
      fun v own => ∃ R : Bool, (R = true ↔ rgts ps d) ∧ v = .p (.bool R) ∧ own = [] := by
  have hbnd := ones_bnd hps hsz
  refine FnL.flat (R := fun v own => ∃ R : Bool, (R = true ↔ rgts ps d) ∧ v = .p (.bool R)) ?_ (by rintro _ _ ⟨b, h, rfl⟩; exact ⟨_, _, rfl, .refl _, b, h, rfl, rfl⟩)
  have hbad : ∀ (k : Nat) (s : Sn), d.seen[k]? = some s → ¬ rgt ps s d.ch → (false = true ↔ rgts ps d) := fun k s h1 h2 => ⟨fun c => (by cases c), fun c => absurd (c k s h1) h2⟩
  have hgood : (∀ (k : Nat) (s : Sn), k < d.seen.length → d.seen[k]? = some s → rgt ps s d.ch) → (true = true ↔ rgts ps d) := fun h => ⟨fun _ k s hk => h k s (List.getElem?_eq_some_iff.1 hk).1 hk, fun _ => rfl⟩
  have hcl := clonePr_spec ps (by omega) zs hzs
  have hdl := fun (b0 b1 b2 b3 : PV) (qs : List Pr) (xs : List PV) (K n : Nat) (hx : RowP xs K n qs) (hn : n < 140737488355328) (hbo : ∀ q ∈ [b0, b1, b2, b3], q.one = true) => delfPr_spec qs xs K n hx hn 52 b0 b1 b2 b3 hbo
  obtain ⟨hd1, hd2, hd3, hd4⟩ := hd
  obtain ⟨N, hN⟩ : ∃ N, N = d.seen.length := ⟨_, rfl⟩
  obtain ⟨C, hC⟩ : ∃ C, C = d.ch.length := ⟨_, rfl⟩
  obtain ⟨ss, hss⟩ : ∃ ss, ss = snP d.seen := ⟨_, rfl⟩
  obtain ⟨cs, hcs⟩ : ∃ cs, cs = cP d.ch := ⟨_, rfl⟩
  have hsl : ss.length = N := by rw [hss, snP_length, hN]
  have hcl2 : cs.length = C := by rw [hcs, cP_length, hC]
  rw [← hss, ← hcs]
  rw [← hN] at hd1 hgood
  rw [← hC] at hd3 hsz
  obtain ⟨dg, db, de, dr, do_, dw, dseen, dch⟩ := d
  simp only at hd2 hd4 hN hC hss hcs hbad hgood hbnd
  refine fn_of_vc eOk fOk fo29 Try.func29 rfl rfl rfl fun B hB => ?_
  intro add sub mul quo rem band bor bxor bclr shl shr ieq ilt ile seq slt beq bnot orb bcond iwrap iof ssz hA cat sq sl imin imax smin smax len slen u8 hL op hop call hcall code hcode ret hret
  have hlen : len ss = Int.ofNat N := by rw [hL.len, hsl]; rfl
  cbv
  rw [hlen]
  refine hcode _ _ _ (CodeEv.loop eOk fOk (ι := Nat) (fun s => [(0, .p (.sl zs)), (3, .own 0 0), (11, .p (.sl ss)), (12, .p (.int .i64 (Int.ofNat N))), (13, .p (.int .i64 (Int.ofNat s)))])
    (fun s => [.st 46 [.p (.int .i64 dg), .p (.int .i64 db), .p (.int .i64 de), .p (.int .i64 dr), .p (.int .i64 do_), .p (.int .i64 dw), .p (.sl ss), .p (.sl cs)]])
    (fun s => s ≤ N ∧ ∀ (k : Nat) (t : Sn), k < s → dseen[k]? = some t → rgt ps t dch) (fun s => N - s) 0 ?_ ?_)
  · exact ⟨(by repeat (first | exact trivial | refine And.intro rfl ?_)), rfl, Nat.zero_le _, fun k t h => absurd h (Nat.not_lt_zero k)⟩
  rintro i ⟨k1, k2⟩ rd hrd
  by_cases hi : i < N
  · refine Exists.elim (get_of_lt (show i < dseen.length by omega)) fun s hsi => ?_
    have hsf := hd2 s (List.mem_of_getElem? hsi)
    have hbad := hbad i s hsi
    have hnext : rgt ps s dch → ∀ (k : Nat) (t : Sn), k < i + 1 → dseen[k]? = some t → rgt ps t dch := fun h k t hk ht => by
      rcases Nat.lt_succ_iff_lt_or_eq.1 hk with c | c
      · exact k2 k t c ht
      · subst c; rw [hsi] at ht; cases ht; exact h
    have hzi : ss[i]? = some (.agg [.str s.lo, .str s.hi, .int .i64 s.aft, .sl (prP s.ps)]) := by rw [hss]; exact snP_get hsi
    obtain ⟨lo, hi_, aft, sps⟩ := s
    simp only at hzi
    have hfalse : ¬ rgt ps ⟨lo, hi_, aft, sps⟩ dch → ∀ v, v = V.p (.bool false) → ∃ R : Bool, (R = true ↔ rgts ps ⟨dg, db, de, dr, do_, dw, dseen, dch⟩) ∧ v = .p (.bool R) := fun h v hv => ⟨false, hbad h, hv⟩
    have hneg : aft < 0 → ¬ rgt ps ⟨lo, hi_, aft, sps⟩ dch := fun h c => by have := c.1; simp only at this; omega
    have hbig : (C : Int) < aft → ¬ rgt ps ⟨lo, hi_, aft, sps⟩ dch := fun h c => by have := c.2.1; simp only at this; omega
    refine Exists.elim (show ∃ qs, qs = prP sps from ⟨_, rfl⟩) fun qs hqs => ?_
    rw [← hqs] at hzi
    by_cases h0 : aft < 0
    · have hfalse := hfalse (hneg h0)
      intro add1 sub1 mul1 quo1 rem1 band1 bor1 bxor1 bclr1 shl1 shr1 ieq1 ilt1 ile1 seq1 slt1 beq1 bnot1 orb1 bcond1 iwrap1 iof1 ssz1 hA1 cat1 sq1 sl1 imin1 imax1 smin1 smax1 len1 slen1 u81 hL1 op1 hop1 call1 hcall1 code1 hcode1
      cbv
      refine vcIf.yes (by first | (simp [hA1.not, hA1.eq, hA1.lt, hA1.le, hA1.cond, hA1.beq, hA1.orb, hL1.len, hL1.slen, hL1.sq, hi]; done) | (simp only [hi]; simp [hA1.not, hA1.eq, hA1.lt, hA1.le, hA1.cond, hA1.beq, hA1.orb, hL1.len, hL1.slen, hL1.sq, hi]; done) | (simp [hA1.not, hA1.eq, hA1.lt, hA1.le, hA1.cond, hA1.beq, hA1.orb, hL1.len, hL1.slen, hL1.sq, hi]; omega) | (simp only [hi]; simp [hA1.not, hA1.eq, hA1.lt, hA1.le, hA1.cond, hA1.beq, hA1.orb, hL1.len, hL1.slen, hL1.sq, hi]; omega)) ?_
      cbv
      refine ⟨i, _, rfl, hzi, rfl, ?_⟩
      cbv
      refine vcIf.yes (by first | (simp [hA1.not, hA1.eq, hA1.lt, hA1.le, hA1.cond, hA1.beq, hA1.orb, hL1.len, hL1.slen, hL1.sq, h0]; done) | (simp only [h0]; simp [hA1.not, hA1.eq, hA1.lt, hA1.le, hA1.cond, hA1.beq, hA1.orb, hL1.len, hL1.slen, hL1.sq, h0]; done) | (simp [hA1.not, hA1.eq, hA1.lt, hA1.le, hA1.cond, hA1.beq, hA1.orb, hL1.len, hL1.slen, hL1.sq, h0]; omega) | (simp only [h0]; simp [hA1.not, hA1.eq, hA1.lt, hA1.le, hA1.cond, hA1.beq, hA1.orb, hL1.len, hL1.slen, hL1.sq, h0]; omega)) ?_
      cbv
      exact hret _ (RetEv.ret eOk rfl (hfalse _ rfl))
    refine Exists.elim (show ∃ A : Nat, aft = Int.ofNat A from ⟨aft.toNat, by simp only [Int.ofNat_eq_natCast]; omega⟩) fun A hA0 => ?_
    subst hA0
    by_cases hAC : C < A
    · have hfalse := hfalse (hbig (by simp only [Int.ofNat_eq_natCast]; omega))
      intro add1 sub1 mul1 quo1 rem1 band1 bor1 bxor1 bclr1 shl1 shr1 ieq1 ilt1 ile1 seq1 slt1 beq1 bnot1 orb1 bcond1 iwrap1 iof1 ssz1 hA1 cat1 sq1 sl1 imin1 imax1 smin1 smax1 len1 slen1 u81 hL1 op1 hop1 call1 hcall1 code1 hcode1
      have hlc : len1 cs = Int.ofNat C := by rw [hL1.len, hcl2]; rfl
      cbv
      refine vcIf.yes (by first | (simp [hA1.not, hA1.eq, hA1.lt, hA1.le, hA1.cond, hA1.beq, hA1.orb, hL1.len, hL1.slen, hL1.sq, hi]; done) | (simp only [hi]; simp [hA1.not, hA1.eq, hA1.lt, hA1.le, hA1.cond, hA1.beq, hA1.orb, hL1.len, hL1.slen, hL1.sq, hi]; done) | (simp [hA1.not, hA1.eq, hA1.lt, hA1.le, hA1.cond, hA1.beq, hA1.orb, hL1.len, hL1.slen, hL1.sq, hi]; omega) | (simp only [hi]; simp [hA1.not, hA1.eq, hA1.lt, hA1.le, hA1.cond, hA1.beq, hA1.orb, hL1.len, hL1.slen, hL1.sq, hi]; omega)) ?_
      cbv
      refine ⟨i, _, rfl, hzi, rfl, ?_⟩
      cbv
      refine vcIf.no (by first | (simp [hA1.not, hA1.eq, hA1.lt, hA1.le, hA1.cond, hA1.beq, hA1.orb, hL1.len, hL1.slen, hL1.sq, h0]; done) | (simp only [h0]; simp [hA1.not, hA1.eq, hA1.lt, hA1.le, hA1.cond, hA1.beq, hA1.orb, hL1.len, hL1.slen, hL1.sq, h0]; done) | (simp [hA1.not, hA1.eq, hA1.lt, hA1.le, hA1.cond, hA1.beq, hA1.orb, hL1.len, hL1.slen, hL1.sq, h0]; omega) | (simp only [h0]; simp [hA1.not, hA1.eq, hA1.lt, hA1.le, hA1.cond, hA1.beq, hA1.orb, hL1.len, hL1.slen, hL1.sq, h0]; omega)) ?_
      cbv
      refine vcIf.yes (by first | (simp [hA1.not, hA1.eq, hA1.lt, hA1.le, hA1.cond, hA1.beq, hA1.orb, hL1.len, hL1.slen, hL1.sq, hlc, hAC]; done) | (simp only [hlc, hAC]; simp [hA1.not, hA1.eq, hA1.lt, hA1.le, hA1.cond, hA1.beq, hA1.orb, hL1.len, hL1.slen, hL1.sq, hlc, hAC]; done) | (simp [hA1.not, hA1.eq, hA1.lt, hA1.le, hA1.cond, hA1.beq, hA1.orb, hL1.len, hL1.slen, hL1.sq, hlc, hAC]; omega) | (simp only [hlc, hAC]; simp [hA1.not, hA1.eq, hA1.lt, hA1.le, hA1.cond, hA1.beq, hA1.orb, hL1.len, hL1.slen, hL1.sq, hlc, hAC]; omega)) ?_
      cbv
      exact hret _ (RetEv.ret eOk rfl (hfalse _ rfl))
    have hrg : rgt ps ⟨lo, hi_, Int.ofNat A, sps⟩ dch ↔ (chks (dch.take A) = 0 ∧ (ones ps (dch.take A)).filter (fun p => hs ⟨lo, hi_⟩ p.key) = sps) := by
      unfold rgt
      simp only [Int.ofNat_eq_natCast, Int.toNat_natCast]
      constructor
      · exact fun h => h.2.2
      · exact fun h => ⟨by omega, by omega, h⟩
    have hta : (cs.take A) = cP (dch.take A) := by rw [hcs]; unfold cP; rw [List.map_take]
    have htl : (dch.take A).length = A := by rw [List.length_take]; omega
    have hall := all_spec (dch.take A) (by omega) (cP (dch.take A)) rfl
    refine Exists.elim (show ∃ us, us = cs.take A from ⟨_, rfl⟩) fun us hus => ?_
    rw [← hta, ← hus] at hall
    have hul : us.length = A := by rw [hus, List.length_take]; omega
    have hcw : ∀ y : PV, y ∈ cs → y.cells.length = 3 := fun y hy => by rw [hcs] at hy; exact (cP_wf dch y hy).1
    have hAl : A ≤ cs.length := by omega
    refine Exists.elim (show ∃ fl, fl = fun p : Pr => hs ⟨lo, hi_⟩ p.key from ⟨_, rfl⟩) fun fl hfl => ?_
    rw [← hfl] at hrg
    intro add1 sub1 mul1 quo1 rem1 band1 bor1 bxor1 bclr1 shl1 shr1 ieq1 ilt1 ile1 seq1 slt1 beq1 bnot1 orb1 bcond1 iwrap1 iof1 ssz1 hA1 cat1 sq1 sl1 imin1 imax1 smin1 smax1 len1 slen1 u81 hL1 op1 hop1 call1 hcall1 code1 hcode1
    have hlc : len1 cs = Int.ofNat C := by rw [hL1.len, hcl2]; rfl
    have hadd1 : add1 .i64 (Int.ofNat i) 1 = Int.ofNat (i + 1) := by rw [hA1.add, IntWalk.i64_in _ (by simp only [Int.ofNat_eq_natCast]; omega)]; rfl
    cbv
    refine vcIf.yes (by first | (simp [hA1.not, hA1.eq, hA1.lt, hA1.le, hA1.cond, hA1.beq, hA1.orb, hL1.len, hL1.slen, hL1.sq, hi]; done) | (simp only [hi]; simp [hA1.not, hA1.eq, hA1.lt, hA1.le, hA1.cond, hA1.beq, hA1.orb, hL1.len, hL1.slen, hL1.sq, hi]; done) | (simp [hA1.not, hA1.eq, hA1.lt, hA1.le, hA1.cond, hA1.beq, hA1.orb, hL1.len, hL1.slen, hL1.sq, hi]; omega) | (simp only [hi]; simp [hA1.not, hA1.eq, hA1.lt, hA1.le, hA1.cond, hA1.beq, hA1.orb, hL1.len, hL1.slen, hL1.sq, hi]; omega)) ?_
    cbv
    refine ⟨i, _, rfl, hzi, rfl, ?_⟩
    cbv
    refine vcIf.no (by first | (simp [hA1.not, hA1.eq, hA1.lt, hA1.le, hA1.cond, hA1.beq, hA1.orb, hL1.len, hL1.slen, hL1.sq, h0]; done) | (simp only [h0]; simp [hA1.not, hA1.eq, hA1.lt, hA1.le, hA1.cond, hA1.beq, hA1.orb, hL1.len, hL1.slen, hL1.sq, h0]; done) | (simp [hA1.not, hA1.eq, hA1.lt, hA1.le, hA1.cond, hA1.beq, hA1.orb, hL1.len, hL1.slen, hL1.sq, h0]; omega) | (simp only [h0]; simp [hA1.not, hA1.eq, hA1.lt, hA1.le, hA1.cond, hA1.beq, hA1.orb, hL1.len, hL1.slen, hL1.sq, h0]; omega)) ?_
    cbv
    refine vcIf.no (by first | (simp [hA1.not, hA1.eq, hA1.lt, hA1.le, hA1.cond, hA1.beq, hA1.orb, hL1.len, hL1.slen, hL1.sq, hlc, hAC]; done) | (simp only [hlc, hAC]; simp [hA1.not, hA1.eq, hA1.lt, hA1.le, hA1.cond, hA1.beq, hA1.orb, hL1.len, hL1.slen, hL1.sq, hlc, hAC]; done) | (simp [hA1.not, hA1.eq, hA1.lt, hA1.le, hA1.cond, hA1.beq, hA1.orb, hL1.len, hL1.slen, hL1.sq, hlc, hAC]; omega) | (simp only [hlc, hAC]; simp [hA1.not, hA1.eq, hA1.lt, hA1.le, hA1.cond, hA1.beq, hA1.orb, hL1.len, hL1.slen, hL1.sq, hlc, hAC]; omega)) ?_
    cbv
    refine ⟨0, A, cs.length, rfl, rfl, rfl, Nat.zero_le _, hAl, Nat.le_refl _, hcw, fun u hu => ?_⟩
    have hu : u = us := by rw [hu, hus]; rfl
    cbv
    refine hcall1 _ _ _ _ _ (CallEv.same (by rw [hu]; exact hall) rfl ?_)
    rintro _ _ ⟨e, he, rfl, rfl⟩
    cbv
    by_cases hee : e = 0
    · have hch0 : chks (dch.take A) = 0 := by rw [← he]; exact hee
      have hck := chks_kind hch0
      refine vcIf.no (by first | (simp [hA1.not, hA1.eq, hA1.lt, hA1.le, hA1.cond, hA1.beq, hA1.orb, hL1.len, hL1.slen, hL1.sq, hee]; done) | (simp only [hee]; simp [hA1.not, hA1.eq, hA1.lt, hA1.le, hA1.cond, hA1.beq, hA1.orb, hL1.len, hL1.slen, hL1.sq, hee]; done) | (simp [hA1.not, hA1.eq, hA1.lt, hA1.le, hA1.cond, hA1.beq, hA1.orb, hL1.len, hL1.slen, hL1.sq, hee]; omega) | (simp only [hee]; simp [hA1.not, hA1.eq, hA1.lt, hA1.le, hA1.cond, hA1.beq, hA1.orb, hL1.len, hL1.slen, hL1.sq, hee]; omega)) ?_
      cbv
      refine hcall1 _ _ _ _ _ (CallEv.same hcl rfl ?_)
      rintro _ _ ⟨K0, n0, xs0, rfl, rfl, hx0⟩
      cbv
      refine ⟨0, A, cs.length, rfl, rfl, rfl, Nat.zero_le _, hAl, Nat.le_refl _, hcw, fun u2 hu2 => ?_⟩
      have hu2 : u2 = us := by rw [hu2, hus]; rfl
      have hlu : len1 u2 = Int.ofNat A := by rw [hL1.len, hu2, hul]; rfl
      cbv
      rw [hlu]
      refine hcode1 _ _ _ (CodeEv.loop eOk fOk (ι := Nat × Nat × Nat × List PV) (fun s => [(0, .p (.sl zs)), (3, .own 0 0), (11, .p (.sl ss)), (12, .p (.int .i64 (Int.ofNat N))), (13, .p (.int .i64 (Int.ofNat i))), (6, .own 1 0), (7, .vw 2 2 0 s.2.1 (some s.2.2.1)), (43, .p (.sl u2)), (44, .p (.int .i64 (Int.ofNat A))), (45, .p (.int .i64 (Int.ofNat s.1)))])
        (fun s => [.st 46 [.p (.int .i64 dg), .p (.int .i64 db), .p (.int .i64 de), .p (.int .i64 dr), .p (.int .i64 do_), .p (.int .i64 dw), .p (.sl ss), .p (.sl cs)], .st 43 [.p (.str lo), .p (.str hi_), .p (.int .i64 (Int.ofNat A)), .p (.sl qs)], .arr 41 2 s.2.2.2])
        (fun s => s.1 ≤ A ∧ RowP s.2.2.2 s.2.2.1 s.2.1 (ones ps (dch.take s.1))) (fun s => A - s.1) (0, n0, K0, xs0) ?_ ?_)
      · exact ⟨(by repeat (first | exact trivial | refine And.intro rfl ?_)), rfl, Nat.zero_le _, hx0⟩
      rintro ⟨j, n, K, xs⟩ ⟨m1, m2⟩ rd2 hrd2
      simp only at m1 m2
      by_cases hj : j < A
      · refine Exists.elim (get_of_lt (show j < dch.length by omega)) fun c hc => ?_
        have hcm : c ∈ dch.take A := List.mem_iff_getElem?.2 ⟨j, by rw [List.getElem?_take_of_lt hj]; exact hc⟩
        have hzj : u2[j]? = some (.agg [.int .i64 c.kind, .str c.key, .str c.val]) := by rw [hu2, hus, List.getElem?_take_of_lt hj, hcs]; exact cP_get hc
        have hkc := hck c hcm
        have hon := ones_next ps hc
        have h1 := oneP_spec (ones ps (dch.take j)) (ones_srt hps _) c hkc xs K n m2 (hbnd j n m2.2.1)
        obtain ⟨ck, cy, cv⟩ := c
        simp only at hzj h1
        rw [← hon] at h1
        intro add2 sub2 mul2 quo2 rem2 band2 bor2 bxor2 bclr2 shl2 shr2 ieq2 ilt2 ile2 seq2 slt2 beq2 bnot2 orb2 bcond2 iwrap2 iof2 ssz2 hA2 cat2 sq2 sl2 imin2 imax2 smin2 smax2 len2 slen2 u82 hL2 op2 hop2 call2 hcall2 code2 hcode2
        have hadd2 : add2 .i64 (Int.ofNat j) 1 = Int.ofNat (j + 1) := by rw [hA2.add, IntWalk.i64_in _ (by simp only [Int.ofNat_eq_natCast]; omega)]; rfl
        cbv
        refine vcIf.yes (by first | (simp [hA2.not, hA2.eq, hA2.lt, hA2.le, hA2.cond, hA2.beq, hA2.orb, hL2.len, hL2.slen, hL2.sq, hj]; done) | (simp only [hj]; simp [hA2.not, hA2.eq, hA2.lt, hA2.le, hA2.cond, hA2.beq, hA2.orb, hL2.len, hL2.slen, hL2.sq, hj]; done) | (simp [hA2.not, hA2.eq, hA2.lt, hA2.le, hA2.cond, hA2.beq, hA2.orb, hL2.len, hL2.slen, hL2.sq, hj]; omega) | (simp only [hj]; simp [hA2.not, hA2.eq, hA2.lt, hA2.le, hA2.cond, hA2.beq, hA2.orb, hL2.len, hL2.slen, hL2.sq, hj]; omega)) ?_
        cbv
        refine ⟨j, _, rfl, hzj, rfl, ?_⟩
        cbv
        refine hcall2 _ _ _ _ _ (CallEv.lend [2] h1 rfl (.cons (.vw 0 2 2 0 n (some K) rfl) (.cons (.p _) .nil)) ⟨⟨_, rfl, .arr _ _ _⟩, trivial⟩ ?_)
        rintro _ _ ⟨K2, n2, xs2, rfl, rfl, g⟩
        cbv
        refine hrd2 _ ⟨(j + 1, n2, K2, xs2), _, ?_, ⟨hj, g⟩, rfl, ⟨rfl, rfl, rfl, rfl, rfl, rfl, rfl, rfl, rfl, ?_, trivial⟩, rfl, rfl, rfl, ?_⟩
        · show A - (j + 1) < A - j
          omega
        · show some (V.p (.int .i64 _)) = _
          rw [hadd2]
        · rw [hB]; exact Nat.zero_le _
      · have hjA : j = A := by omega
        rw [hjA] at m2
        have hn47 : n < 140737488355328 := by have := hbnd A n m2.2.1; omega
        have hdel := hdl (.str lo) (.str hi_) (.int .i64 (Int.ofNat A)) (.sl qs) _ xs K n m2 hn47 (by intro q hq; simp at hq; rcases hq with rfl | rfl | rfl | rfl <;> rfl) (fun p => !(hs ⟨lo, hi_⟩ p.key)) (fun a => rdel1_spec lo hi_ a.key a.val _ _)
        have hTf : TrL [.st 46 [.p (.int .i64 dg), .p (.int .i64 db), .p (.int .i64 de), .p (.int .i64 dr), .p (.int .i64 do_), .p (.int .i64 dw), .p (.sl ss), .p (.sl cs)], .st 43 [.p (.str lo), .p (.str hi_), .p (.int .i64 (Int.ofNat A)), .p (.sl qs)], .arr 41 2 xs] [2, 1] [] [.own 1 0] [.own 1 0] := .cons (.own 1 1 0 rfl) .nil
        have hfl2 : (fun a : Pr => !(fun p : Pr => !(hs ⟨lo, hi_⟩ p.key)) a) = fl := by rw [hfl]; funext a; simp
        rw [hfl2] at hdel
        refine Exists.elim (show ∃ Rb : Bool, Rb = true ↔ (ones ps (dch.take A)).filter fl = sps from by by_cases h : (ones ps (dch.take A)).filter fl = sps; exact ⟨true, fun _ => h, fun _ => rfl⟩; exact ⟨false, fun c => (by cases c), fun c => absurd c h⟩) fun Rb hRb => ?_
        have heqp := fun (n' K' : Nat) (xs' : List PV) (hx' : RowP xs' K' n' ((ones ps (dch.take A)).filter fl)) => eqPr_spec ((ones ps (dch.take A)).filter fl) sps (by have := hx'.2.1; have := List.length_filter_le fl (ones ps (dch.take A)); have := m2.2.1; omega) hsf.1 Rb hRb ((xs'.drop 0).take n') qs (by rw [List.drop_zero]; exact hx'.2.2.2.2) hqs
        intro add2 sub2 mul2 quo2 rem2 band2 bor2 bxor2 bclr2 shl2 shr2 ieq2 ilt2 ile2 seq2 slt2 beq2 bnot2 orb2 bcond2 iwrap2 iof2 ssz2 hA2 cat2 sq2 sl2 imin2 imax2 smin2 smax2 len2 slen2 u82 hL2 op2 hop2 call2 hcall2 code2 hcode2
        cbv
        refine vcIf.no (by first | (simp [hA2.not, hA2.eq, hA2.lt, hA2.le, hA2.cond, hA2.beq, hA2.orb, hL2.len, hL2.slen, hL2.sq, hj]; done) | (simp only [hj]; simp [hA2.not, hA2.eq, hA2.lt, hA2.le, hA2.cond, hA2.beq, hA2.orb, hL2.len, hL2.slen, hL2.sq, hj]; done) | (simp [hA2.not, hA2.eq, hA2.lt, hA2.le, hA2.cond, hA2.beq, hA2.orb, hL2.len, hL2.slen, hL2.sq, hj]; omega) | (simp only [hj]; simp [hA2.not, hA2.eq, hA2.lt, hA2.le, hA2.cond, hA2.beq, hA2.orb, hL2.len, hL2.slen, hL2.sq, hj]; omega)) ?_
        cbv
        refine hcall1 _ _ _ _ _ (CallEv.lend [2, 1] hdel rfl (.cons (.vw 0 2 2 0 n (some K) rfl) (.cons (.fn _ _ _ hTf.1 hTf.2) .nil)) ⟨⟨_, rfl, .arr _ _ _⟩, ⟨_, rfl, .st _ _ _ (.cons (.p _) (.cons (.p _) (.cons (.p _) (.cons (.p _) .nil))))⟩, trivial⟩ ?_)
        rintro _ _ ⟨n', xs', rfl, rfl, hx'⟩
        have heq := heqp n' K xs' hx'
        cbv
        refine hcall1 _ _ _ _ _ (CallEv.shown [] [2] heq rfl (.cons (.bvw 2 2 0 n' (some K) _ 2 xs' _ (by decide) rfl rfl) (.cons (.p _) .nil)) trivial ?_)
        rintro _ _ ⟨rfl, rfl⟩
        refine ⟨.p _ (.bool _), (by intro r hr; cases hr), ?_⟩
        cbv
        by_cases hRt : Rb = true
        · have hr := hrg.2 ⟨hch0, hRb.1 hRt⟩
          refine vcIf.no (by first | (simp [hA1.not, hA1.eq, hA1.lt, hA1.le, hA1.cond, hA1.beq, hA1.orb, hL1.len, hL1.slen, hL1.sq, hRt]; done) | (simp only [hRt]; simp [hA1.not, hA1.eq, hA1.lt, hA1.le, hA1.cond, hA1.beq, hA1.orb, hL1.len, hL1.slen, hL1.sq, hRt]; done) | (simp [hA1.not, hA1.eq, hA1.lt, hA1.le, hA1.cond, hA1.beq, hA1.orb, hL1.len, hL1.slen, hL1.sq, hRt]; omega) | (simp only [hRt]; simp [hA1.not, hA1.eq, hA1.lt, hA1.le, hA1.cond, hA1.beq, hA1.orb, hL1.len, hL1.slen, hL1.sq, hRt]; omega)) ?_
          cbv
          refine hrd _ ⟨i + 1, _, ?_, ⟨hi, hnext hr⟩, rfl, ⟨rfl, rfl, rfl, rfl, ?_, trivial⟩, rfl, rfl, rfl, ?_⟩
          · show N - (i + 1) < N - i
            omega
          · show some (V.p (.int .i64 _)) = _
            rw [hadd1]
          · rw [hB]; exact Nat.zero_le _
        · have hfalse := hfalse fun c => hRt (hRb.2 (hrg.1 c).2)
          refine vcIf.yes (by first | (simp [hA1.not, hA1.eq, hA1.lt, hA1.le, hA1.cond, hA1.beq, hA1.orb, hL1.len, hL1.slen, hL1.sq, hRt]; done) | (simp only [hRt]; simp [hA1.not, hA1.eq, hA1.lt, hA1.le, hA1.cond, hA1.beq, hA1.orb, hL1.len, hL1.slen, hL1.sq, hRt]; done) | (simp [hA1.not, hA1.eq, hA1.lt, hA1.le, hA1.cond, hA1.beq, hA1.orb, hL1.len, hL1.slen, hL1.sq, hRt]; omega) | (simp only [hRt]; simp [hA1.not, hA1.eq, hA1.lt, hA1.le, hA1.cond, hA1.beq, hA1.orb, hL1.len, hL1.slen, hL1.sq, hRt]; omega)) ?_
          cbv
          exact hret _ (RetEv.ret eOk rfl (hfalse _ rfl))
    · have hfalse := hfalse fun c => hee (by rw [he]; exact (hrg.1 c).1)
      refine vcIf.yes (by first | (simp [hA1.not, hA1.eq, hA1.lt, hA1.le, hA1.cond, hA1.beq, hA1.orb, hL1.len, hL1.slen, hL1.sq, hee]; done) | (simp only [hee]; simp [hA1.not, hA1.eq, hA1.lt, hA1.le, hA1.cond, hA1.beq, hA1.orb, hL1.len, hL1.slen, hL1.sq, hee]; done) | (simp [hA1.not, hA1.eq, hA1.lt, hA1.le, hA1.cond, hA1.beq, hA1.orb, hL1.len, hL1.slen, hL1.sq, hee]; omega) | (simp only [hee]; simp [hA1.not, hA1.eq, hA1.lt, hA1.le, hA1.cond, hA1.beq, hA1.orb, hL1.len, hL1.slen, hL1.sq, hee]; omega)) ?_
      cbv
      exact hret _ (RetEv.ret eOk rfl (hfalse _ rfl))
  · have hgd : (true = true ↔ rgts ps ⟨dg, db, de, dr, do_, dw, dseen, dch⟩) := ⟨fun _ => (hgood fun k s hk hs => k2 k s (by omega) hs).1 trivial, fun _ => rfl⟩
    intro add1 sub1 mul1 quo1 rem1 band1 bor1 bxor1 bclr1 shl1 shr1 ieq1 ilt1 ile1 seq1 slt1 beq1 bnot1 orb1 bcond1 iwrap1 iof1 ssz1 hA1 cat1 sq1 sl1 imin1 imax1 smin1 smax1 len1 slen1 u81 hL1 op1 hop1 call1 hcall1 code1 hcode1
    cbv
    refine vcIf.no (by first | (simp [hA1.not, hA1.eq, hA1.lt, hA1.le, hA1.cond, hA1.beq, hA1.orb, hL1.len, hL1.slen, hL1.sq, hi]; done) | (simp only [hi]; simp [hA1.not, hA1.eq, hA1.lt, hA1.le, hA1.cond, hA1.beq, hA1.orb, hL1.len, hL1.slen, hL1.sq, hi]; done) | (simp [hA1.not, hA1.eq, hA1.lt, hA1.le, hA1.cond, hA1.beq, hA1.orb, hL1.len, hL1.slen, hL1.sq, hi]; omega) | (simp only [hi]; simp [hA1.not, hA1.eq, hA1.lt, hA1.le, hA1.cond, hA1.beq, hA1.orb, hL1.len, hL1.slen, hL1.sq, hi]; omega)) ?_
    cbv
    exact hret _ (RetEv.ret eOk rfl ⟨_, hgd, rfl⟩)

end Go.Proofs.Ytdoikpagilmplaa
