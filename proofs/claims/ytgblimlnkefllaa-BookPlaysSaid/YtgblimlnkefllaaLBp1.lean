/- The walk of the law BookPlays. Conditions: on sizes. -/
import Derived.Test.YtgblimlnkefllaaLBq2
import Derived.Test.YtgblimlnkefllaaLY12
set_option maxRecDepth 100000
set_option maxHeartbeats 16000000
set_option linter.unusedSimpArgs false
set_option linter.unusedVariables false
namespace Go.Proofs.Ytgblimlnkefllaa
open Go Go.Lx
open Go.Sx (vcIf)

structure BA where
  what : Int
  n : Int
  list : List (List UInt8)
  turn : UInt8
def BA.v (a : BA) : PV := .agg [.int .i64 a.what, .int .i64 a.n, .sl (rcP a.list), .int .u8 (a.turn.toNat : Int)]
def BA.ok (a : BA) : Prop := (-9223372036854775808 ≤ a.n ∧ a.n ≤ 9223372036854775807) ∧ (∀ r ∈ a.list, r.length + 4 ≤ 140737488355328) ∧ a.list.length < 4611686018427387904

structure BI where
  i : Nat
  p : Pl
  n : Nat
  su : Int
  ro : Int
  af : Int
  d : Bool
  xs : List PV
  m : Nat
  dn : Bool
  rs : List PV
  nz : List PV
  cz : List PV
  dd : Bool
structure BI.Ok (s : BI) (N M : Nat) : Prop where
  i : s.i ≤ N
  i60 : s.i ≤ 60
  is : IsBk s.p.b s.n s.su s.ro s.af s.d s.xs s.m s.dn s.rs
  ok : s.p.Ok M
  nz : s.nz = rcP s.p.now
  cz : s.cz = rcP s.p.cut
  dd : s.dd = s.p.dead
abbrev BI.fr (zs : List PV) (s : BI) : List (Nat × V) := [(0, .p (.sl zs)), (3, .own 0 0), (5, .own 2 0), (7, .p (.sl s.nz)), (8, .p (.sl s.cz)), (9, .p (.bool s.dd)), (10, .p (.int .i64 (Int.ofNat s.i)))]
abbrev BI.own (s : BI) : List Res := bkO s.n s.su s.ro s.af s.d s.xs s.m s.dn s.rs
abbrev actS (w n : Int) (lz : List PV) (t : Int) : Res := .st 58 [.p (.int .i64 w), .p (.int .i64 n), .p (.sl lz), .p (.int .u8 t)]

/-- Behind a call of Add or Reset. -/
structure BJ where
  s : BI
  e : Int
  next : List (List UInt8)
  nx : List PV
abbrev BJ.fr (zs : List PV) (j : BJ) : List (Nat × V) := (13, .p (.sl j.nx)) :: (12, .p (.int .i64 j.e)) :: (11, .own 4 0) :: BI.fr zs j.s
abbrev BJ.own (w an : Int) (lz : List PV) (tv : Int) (j : BJ) : List Res := BI.own j.s ++ [actS w an lz tv]
structure BJ.Ok (j : BJ) (w : Int) (l : List (List UInt8)) (p : Pl) (i : Nat) (nz cz : List PV) (dd : Bool) : Prop where
  i : j.s.i = i
  nz : j.s.nz = nz
  cz : j.s.cz = cz
  dd : j.s.dd = dd
  nx : j.nx = rcP j.next
  is : IsBk j.s.p.b j.s.n j.s.su j.s.ro j.s.af j.s.d j.s.xs j.s.m j.s.dn j.s.rs
  call : (w = 2 ∧ j.e = ((bkReset p.b l).1 : Int) ∧ j.s.p.b = (bkReset p.b l).2 ∧ j.next = l) ∨ (w ≠ 2 ∧ j.e = ((bkAdd p.b l).1 : Int) ∧ j.s.p.b = (bkAdd p.b l).2 ∧ j.next = p.now ++ l)

/-- What comes of a call. -/
theorem outc {p : Pl} {M : Nat} (h : p.Ok M) {l next : List (List UInt8)} (hn : l.length ≤ 20) {w e : Int} {b : Bk}
    (hc : (w = 2 ∧ e = ((bkReset p.b l).1 : Int) ∧ b = (bkReset p.b l).2 ∧ next = l) ∨ (w ≠ 2 ∧ e = ((bkAdd p.b l).1 : Int) ∧ b = (bkAdd p.b l).2 ∧ next = p.now ++ l)) :
    (p.dead = true ∧ e = 11 ∧ b = p.b) ∨ (p.dead = false ∧ ¬ fitL l ∧ e = 6 ∧ b = p.b) ∨ (p.dead = false ∧ fitL l ∧ e = 11 ∧ (Pl.mk b p.now next true).Ok (M + 20)) ∨ (p.dead = false ∧ fitL l ∧ e = 0 ∧ (Pl.mk b next next false).Ok (M + 20)) ∨
      (p.dead = false ∧ fitL l ∧ e = 10 ∧ b = p.b ∧ 262144 < (rbytes next).length ∧ fitL next ∧ next.length ≤ M + 20) := by
  cases hd : p.dead with
  | true =>
    left
    rcases hc with ⟨_, h1, h2, h3⟩ | ⟨_, h1, h2, h3⟩
    · rw [h.reset_dead hd] at h1 h2; exact ⟨rfl, h1, h2⟩
    · rw [h.add_dead hd] at h1 h2; exact ⟨rfl, h1, h2⟩
  | false =>
    right
    by_cases hf : fitL l
    · right
      rcases hc with ⟨_, h1, h2, h3⟩ | ⟨_, h1, h2, h3⟩
      · rw [h3, h2]
        rcases h.reset hd hf hn with ⟨g1, g2⟩ | ⟨g1, g2⟩ | ⟨g1, g2, g3⟩
        · left; exact ⟨rfl, hf, by rw [h1, g1]; rfl, g2⟩
        · right; left; exact ⟨rfl, hf, by rw [h1, g1]; rfl, g2⟩
        · right; right; exact ⟨rfl, hf, by rw [h1, g1]; rfl, g2, g3, hf, by omega⟩
      · rw [h3, h2]
        rcases h.add hd hf hn with ⟨g1, g2⟩ | ⟨g1, g2⟩ | ⟨g1, g2, g3⟩
        · left; exact ⟨rfl, hf, by rw [h1, g1]; rfl, g2⟩
        · right; left; exact ⟨rfl, hf, by rw [h1, g1]; rfl, g2⟩
        · right; right; exact ⟨rfl, hf, by rw [h1, g1]; rfl, g2, g3, fitL.append h.fit hf, by have := h.m1; rw [List.length_append]; omega⟩
    · left
      rcases hc with ⟨_, h1, h2, h3⟩ | ⟨_, h1, h2, h3⟩
      · rw [h.reset_big hd hf] at h1 h2; exact ⟨rfl, hf, h1, h2⟩
      · rw [h.add_big hd hf] at h1 h2; exact ⟨rfl, hf, h1, h2⟩

theorem bookPlays_spec (A : List BA) (hAc : ∀ a ∈ A, a.ok) (hAl : A.length < 4611686018427387904) : FnL Try.prog 9 [.p (.sl (A.map BA.v))] [] fun z own => z = .p (.bool true) := by
  obtain ⟨zs, hzs⟩ : ∃ zs, zs = A.map BA.v := ⟨_, rfl⟩
  obtain ⟨N, hN⟩ : ∃ N, N = A.length := ⟨_, rfl⟩
  have hzl : zs.length = N := by rw [hzs, List.length_map, hN]
  rw [← hzs]
  have hnew := tapeNew_spec 262144 (by decide) (by decide)
  have hop0 := bkOpen_spec (isTp0 262144 (by decide))
  rw [bkOpen0] at hop0
  refine fn_of_vc eOk fOk fo9 Try.func9 rfl rfl rfl fun B hB => ?_
  intro add sub mul quo rem band bor bxor bclr shl shr ieq ilt ile seq slt beq bnot orb bcond iwrap iof ssz hA cat sq sl imin imax smin smax len slen u8 hL op hop call hcall code hcode ret hret
  cbv
  refine hcall _ _ _ _ _ (CallEv.same hnew rfl ?_)
  rintro _ _ (⟨h, rfl, rfl⟩ | ⟨h, rfl, rfl⟩)
  · omega
  cbv
  refine hcall _ _ _ _ _ (CallEv.lend [0, 1] hop0 rfl (.cons (.own 0 0 0 rfl) .nil) (tpL rfl rfl rfl rfl) ?_)
  rintro _ _ (⟨n, su, ro, af, d, xs, m, dn, rs, h0, hb, rfl, rfl⟩ | ⟨e, n, su, ro, af, d, xs, h0, _⟩)
  rotate_left
  · exact absurd rfl h0
  replace hb : IsBk ⟨⟨[], 0, 262144, -1, false⟩, [], false⟩ n su ro af d xs m dn rs := hb
  cbv
  refine hcall _ _ _ _ _ (CallEv.same awake7_spec rfl ?_)
  rintro _ _ ⟨rfl, rfl⟩
  cbv
  repeat (first | (refine vcIf.yes ?_ ?_; (focus (simp [hA.not, hA.eq, hA.lt, hA.le, hA.cond, hA.beq, hA.orb, hL.len, hL.slen, hL.sq]; done)); cbv) | (refine vcIf.no ?_ ?_; (focus (simp [hA.not, hA.eq, hA.lt, hA.le, hA.cond, hA.beq, hA.orb, hL.len, hL.slen, hL.sq]; done)); cbv) | fail)
  refine ⟨false, ?_⟩
  cbv
  refine ⟨false, ?_⟩
  cbv
  refine hcode _ _ _ (CodeEv.loopP (ι := BI) (BI.fr zs) BI.own (fun s => s.Ok N (20 * s.i)) (fun s => N - s.i) (fun _ => False) (fun id st => id = 0 ∧ st.n = 191)
    ⟨0, ⟨⟨⟨[], 0, 262144, -1, false⟩, [], false⟩, [], [], false⟩, n, su, ro, af, d, xs, m, dn, rs, [], [], false⟩ ?_ ?_ ?_ ?_)
  · refine ⟨(by repeat (first | exact trivial | refine And.intro rfl ?_)), rfl, Nat.zero_le _, Nat.zero_le _, hb, ⟨rfl, (fun r hr => by cases hr), Nat.le_refl _, Nat.le_refl _, Nat.le_refl _, by simp [rbytes, encts], rfl, fun _ => ⟨rfl, by simp [rbytes, encts], rfl, rfl⟩, (fun c => by cases c)⟩, rfl, rfl, rfl⟩
  · rintro ⟨i, p, n, su, ro, af, d, xs, m, dn, rs, nz, cz, dd⟩ ⟨k1, k2, k3, k4, k5, k6, k7⟩
    simp only at k1 k2 k3 k4 k5 k6 k7
    -- the head of the loop
    refine PcEv.seq (κ := Unit) (fun _ => BI.fr zs ⟨i, p, n, su, ro, af, d, xs, m, dn, rs, nz, cz, dd⟩) (fun _ => BI.own ⟨i, p, n, su, ro, af, d, xs, m, dn, rs, nz, cz, dd⟩) (fun _ => i < N ∧ i < 60) (VcPiece.ok eOk fOk ?_) ?_
    · intro add1 sub1 mul1 quo1 rem1 band1 bor1 bxor1 bclr1 shl1 shr1 ieq1 ilt1 ile1 seq1 slt1 beq1 bnot1 orb1 bcond1 iwrap1 iof1 ssz1 hA1 cat1 sq1 sl1 imin1 imax1 smin1 smax1 len1 slen1 u81 hL1 op1 hop1 call1 hcall1 code1 hcode1 nx1 hnx1 ret1 hret1 ex1 hex1
      have hlen : len1 zs = Int.ofNat N := by rw [hL1.len, hzl]; rfl
      cbv
      by_cases hi : i < N
      · refine vcIf.yes (by first | (simp [hA1.not, hA1.eq, hA1.lt, hA1.le, hA1.cond, hA1.beq, hA1.orb, hL1.len, hL1.slen, hL1.sq, hlen, hi]; done) | (simp only [hlen, hi]; simp [hA1.not, hA1.eq, hA1.lt, hA1.le, hA1.cond, hA1.beq, hA1.orb, hL1.len, hL1.slen, hL1.sq, hlen, hi]; done) | (simp [hA1.not, hA1.eq, hA1.lt, hA1.le, hA1.cond, hA1.beq, hA1.orb, hL1.len, hL1.slen, hL1.sq, hlen, hi]; omega) | (simp only [hlen, hi]; simp [hA1.not, hA1.eq, hA1.lt, hA1.le, hA1.cond, hA1.beq, hA1.orb, hL1.len, hL1.slen, hL1.sq, hlen, hi]; omega)) ?_
        cbv
        by_cases hi60 : i < 60
        · refine vcIf.yes (by first | (simp [hA1.not, hA1.eq, hA1.lt, hA1.le, hA1.cond, hA1.beq, hA1.orb, hL1.len, hL1.slen, hL1.sq, hi60]; done) | (simp only [hi60]; simp [hA1.not, hA1.eq, hA1.lt, hA1.le, hA1.cond, hA1.beq, hA1.orb, hL1.len, hL1.slen, hL1.sq, hi60]; done) | (simp [hA1.not, hA1.eq, hA1.lt, hA1.le, hA1.cond, hA1.beq, hA1.orb, hL1.len, hL1.slen, hL1.sq, hi60]; omega) | (simp only [hi60]; simp [hA1.not, hA1.eq, hA1.lt, hA1.le, hA1.cond, hA1.beq, hA1.orb, hL1.len, hL1.slen, hL1.sq, hi60]; omega)) ?_
          cbv
          refine hnx1 _ (OutX.w ⟨(), [], ⟨hi, hi60⟩, rfl, (by repeat (first | exact trivial | refine And.intro rfl ?_)), rfl, rfl, rfl, ?_⟩)
          rw [hB]; exact Nat.zero_le _
        · refine vcIf.no (by first | (simp [hA1.not, hA1.eq, hA1.lt, hA1.le, hA1.cond, hA1.beq, hA1.orb, hL1.len, hL1.slen, hL1.sq, hi60]; done) | (simp only [hi60]; simp [hA1.not, hA1.eq, hA1.lt, hA1.le, hA1.cond, hA1.beq, hA1.orb, hL1.len, hL1.slen, hL1.sq, hi60]; done) | (simp [hA1.not, hA1.eq, hA1.lt, hA1.le, hA1.cond, hA1.beq, hA1.orb, hL1.len, hL1.slen, hL1.sq, hi60]; omega) | (simp only [hi60]; simp [hA1.not, hA1.eq, hA1.lt, hA1.le, hA1.cond, hA1.beq, hA1.orb, hL1.len, hL1.slen, hL1.sq, hi60]; omega)) ?_
          cbv
          exact hex1 _ _ ⟨rfl, rfl⟩
      · refine vcIf.no (by first | (simp [hA1.not, hA1.eq, hA1.lt, hA1.le, hA1.cond, hA1.beq, hA1.orb, hL1.len, hL1.slen, hL1.sq, hlen, hi]; done) | (simp only [hlen, hi]; simp [hA1.not, hA1.eq, hA1.lt, hA1.le, hA1.cond, hA1.beq, hA1.orb, hL1.len, hL1.slen, hL1.sq, hlen, hi]; done) | (simp [hA1.not, hA1.eq, hA1.lt, hA1.le, hA1.cond, hA1.beq, hA1.orb, hL1.len, hL1.slen, hL1.sq, hlen, hi]; omega) | (simp only [hlen, hi]; simp [hA1.not, hA1.eq, hA1.lt, hA1.le, hA1.cond, hA1.beq, hA1.orb, hL1.len, hL1.slen, hL1.sq, hlen, hi]; omega)) ?_
        cbv
        repeat (first | (refine vcIf.yes ?_ ?_; (focus (simp [hA1.not, hA1.eq, hA1.lt, hA1.le, hA1.cond, hA1.beq, hA1.orb, hL1.len, hL1.slen, hL1.sq]; done)); cbv) | (refine vcIf.no ?_ ?_; (focus (simp [hA1.not, hA1.eq, hA1.lt, hA1.le, hA1.cond, hA1.beq, hA1.orb, hL1.len, hL1.slen, hL1.sq]; done)); cbv) | fail)
        exact hex1 _ _ ⟨rfl, rfl⟩
    rintro ⟨⟩ ⟨hi, hi60⟩
    obtain ⟨a, ha⟩ := get_of_lt (show i < A.length by omega)
    have hao := hAc a (List.mem_of_getElem? ha)
    have hzi : zs[i]? = some a.v := by rw [hzs, List.getElem?_map, ha]; rfl
    obtain ⟨w, an, l0, tn⟩ := a
    obtain ⟨⟨hn1, hn2⟩, hl4, hll⟩ := hao
    simp only at hn1 hn2 hl4 hll
    obtain ⟨lz0, hlz0⟩ : ∃ lz, lz = rcP l0 := ⟨_, rfl⟩
    obtain ⟨tv, htv⟩ : ∃ tv : Int, tv = (tn.toNat : Int) := ⟨_, rfl⟩
    replace hzi : zs[i]? = some (.agg [.int .i64 w, .int .i64 an, .sl lz0, .int .u8 tv]) := by rw [hzi, htv, hlz0]; rfl
    obtain ⟨l, hl⟩ : ∃ l, l = l0.take 20 := ⟨_, rfl⟩
    obtain ⟨lz, hlz⟩ : ∃ lz, lz = rcP l := ⟨_, rfl⟩
    have hl20 : l.length ≤ 20 := by rw [hl, List.length_take]; omega
    have hl4' : ∀ r ∈ l, r.length + 4 ≤ 140737488355328 := fun r hr => hl4 r (List.mem_of_mem_take (hl ▸ hr))
    have hlzl : lz.length = l.length := by rw [hlz, rcP_length]
    refine PcEv.seq (κ := BI) (fun s => BI.fr zs s) BI.own (fun s => s.i = i ∧ s.Ok N (20 * i + 20)) ?_ ?_
    · refine PcEv.block ?_
      -- the act, in a box of its own
      refine PcEv.seq (κ := Unit) (fun _ => (11, .own 4 0) :: BI.fr zs ⟨i, p, n, su, ro, af, d, xs, m, dn, rs, nz, cz, dd⟩) (fun _ => BI.own ⟨i, p, n, su, ro, af, d, xs, m, dn, rs, nz, cz, dd⟩ ++ [actS w an lz0 tv]) (fun _ => True) (VcPiece.ok eOk fOk ?_) ?_
      · intro add1 sub1 mul1 quo1 rem1 band1 bor1 bxor1 bclr1 shl1 shr1 ieq1 ilt1 ile1 seq1 slt1 beq1 bnot1 orb1 bcond1 iwrap1 iof1 ssz1 hA1 cat1 sq1 sl1 imin1 imax1 smin1 smax1 len1 slen1 u81 hL1 op1 hop1 call1 hcall1 code1 hcode1 nx1 hnx1 ret1 hret1 ex1 hex1
        cbv
        refine ⟨i, _, rfl, hzi, rfl, ?_⟩
        cbv
        refine hnx1 _ (OutX.w ⟨(), [], trivial, rfl, (by repeat (first | exact trivial | refine And.intro rfl ?_)), rfl, rfl, rfl, ?_⟩)
        rw [hB]; exact Nat.zero_le _
      rintro ⟨⟩ _
      refine PcEv.seq (κ := Unit) (fun _ => (11, .own 4 0) :: BI.fr zs ⟨i, p, n, su, ro, af, d, xs, m, dn, rs, nz, cz, dd⟩) (fun _ => BI.own ⟨i, p, n, su, ro, af, d, xs, m, dn, rs, nz, cz, dd⟩ ++ [actS w an lz tv]) (fun _ => True) (VcPiece.ok eOk fOk ?_) ?_
      · obtain ⟨L0, hL0⟩ : ∃ L0, L0 = l0.length := ⟨_, rfl⟩
        have hzl0 : lz0.length = L0 := by rw [hlz0, rcP_length, hL0]
        have hw0 : ∀ y ∈ lz0, y.cells.length = 1 := fun y hy => by rw [hlz0] at hy; exact (rcP_wf _ y hy).1
        have htk : lz0.take 20 = lz := by rw [hlz, hl, hlz0, rcP_take]
        intro add1 sub1 mul1 quo1 rem1 band1 bor1 bxor1 bclr1 shl1 shr1 ieq1 ilt1 ile1 seq1 slt1 beq1 bnot1 orb1 bcond1 iwrap1 iof1 ssz1 hA1 cat1 sq1 sl1 imin1 imax1 smin1 smax1 len1 slen1 u81 hL1 op1 hop1 call1 hcall1 code1 hcode1 nx1 hnx1 ret1 hret1 ex1 hex1
        have hlen : len1 lz0 = Int.ofNat L0 := by rw [hL1.len, hzl0]; rfl
        cbv
        by_cases hbig : 20 < L0
        · refine vcIf.yes (by first | (simp [hA1.not, hA1.eq, hA1.lt, hA1.le, hA1.cond, hA1.beq, hA1.orb, hL1.len, hL1.slen, hL1.sq, hlen, hbig]; done) | (simp only [hlen, hbig]; simp [hA1.not, hA1.eq, hA1.lt, hA1.le, hA1.cond, hA1.beq, hA1.orb, hL1.len, hL1.slen, hL1.sq, hlen, hbig]; done) | (simp [hA1.not, hA1.eq, hA1.lt, hA1.le, hA1.cond, hA1.beq, hA1.orb, hL1.len, hL1.slen, hL1.sq, hlen, hbig]; omega) | (simp only [hlen, hbig]; simp [hA1.not, hA1.eq, hA1.lt, hA1.le, hA1.cond, hA1.beq, hA1.orb, hL1.len, hL1.slen, hL1.sq, hlen, hbig]; omega)) ?_
          cbv
          refine ⟨0, 20, L0, rfl, rfl, hzl0.symm, Nat.zero_le _, Nat.le_of_lt hbig, Nat.le_of_eq hzl0.symm, hw0, ?_⟩
          intro us hus
          obtain rfl : us = lz := by rw [hus, ← htk]; simp
          cbv
          refine hnx1 _ (OutX.w ⟨(), [], trivial, rfl, (by repeat (first | exact trivial | refine And.intro rfl ?_)), rfl, rfl, rfl, ?_⟩)
          rw [hB]; exact Nat.zero_le _
        · refine vcIf.no (by first | (simp [hA1.not, hA1.eq, hA1.lt, hA1.le, hA1.cond, hA1.beq, hA1.orb, hL1.len, hL1.slen, hL1.sq, hlen, hbig]; done) | (simp only [hlen, hbig]; simp [hA1.not, hA1.eq, hA1.lt, hA1.le, hA1.cond, hA1.beq, hA1.orb, hL1.len, hL1.slen, hL1.sq, hlen, hbig]; done) | (simp [hA1.not, hA1.eq, hA1.lt, hA1.le, hA1.cond, hA1.beq, hA1.orb, hL1.len, hL1.slen, hL1.sq, hlen, hbig]; omega) | (simp only [hlen, hbig]; simp [hA1.not, hA1.eq, hA1.lt, hA1.le, hA1.cond, hA1.beq, hA1.orb, hL1.len, hL1.slen, hL1.sq, hlen, hbig]; omega)) ?_
          obtain rfl : lz0 = lz := by rw [← htk, List.take_of_length_le (by omega)]
          cbv
          refine hnx1 _ (OutX.w ⟨(), [], trivial, rfl, (by repeat (first | exact trivial | refine And.intro rfl ?_)), rfl, rfl, rfl, ?_⟩)
          rw [hB]; exact Nat.zero_le _
      rintro ⟨⟩ _
      refine PcEv.seq (κ := Unit) (fun _ => (63, .p (.int .i64 w)) :: (11, .own 4 0) :: BI.fr zs ⟨i, p, n, su, ro, af, d, xs, m, dn, rs, nz, cz, dd⟩) (fun _ => BI.own ⟨i, p, n, su, ro, af, d, xs, m, dn, rs, nz, cz, dd⟩ ++ [actS w an lz tv]) (fun _ => True) (VcPiece.ok eOk fOk ?_) ?_
      · intro add1 sub1 mul1 quo1 rem1 band1 bor1 bxor1 bclr1 shl1 shr1 ieq1 ilt1 ile1 seq1 slt1 beq1 bnot1 orb1 bcond1 iwrap1 iof1 ssz1 hA1 cat1 sq1 sl1 imin1 imax1 smin1 smax1 len1 slen1 u81 hL1 op1 hop1 call1 hcall1 code1 hcode1 nx1 hnx1 ret1 hret1 ex1 hex1
        cbv
        refine hnx1 _ (OutX.w ⟨(), [], trivial, rfl, (by repeat (first | exact trivial | refine And.intro rfl ?_)), rfl, rfl, rfl, ?_⟩)
        rw [hB]; exact Nat.zero_le _
      rintro ⟨⟩ _
      refine PcEv.block ?_
      refine PcEv.seq (κ := Unit) (fun _ => (122, .p (.bool (decide (w = 0 ∨ w = 1 ∨ w = 2)))) :: (63, .p (.int .i64 w)) :: (11, .own 4 0) :: BI.fr zs ⟨i, p, n, su, ro, af, d, xs, m, dn, rs, nz, cz, dd⟩) (fun _ => BI.own ⟨i, p, n, su, ro, af, d, xs, m, dn, rs, nz, cz, dd⟩ ++ [actS w an lz tv]) (fun _ => True) (VcPiece.ok eOk fOk ?_) ?_
      · obtain ⟨c, hc⟩ : ∃ c, c = decide (w = 0 ∨ w = 1 ∨ w = 2) := ⟨_, rfl⟩
        rw [← hc]
        intro add1 sub1 mul1 quo1 rem1 band1 bor1 bxor1 bclr1 shl1 shr1 ieq1 ilt1 ile1 seq1 slt1 beq1 bnot1 orb1 bcond1 iwrap1 iof1 ssz1 hA1 cat1 sq1 sl1 imin1 imax1 smin1 smax1 len1 slen1 u81 hL1 op1 hop1 call1 hcall1 code1 hcode1 nx1 hnx1 ret1 hret1 ex1 hex1
        have e0 : ieq1 w 0 = decide (w = 0) := hA1.eq w 0
        have e1 : ieq1 w 1 = decide (w = 1) := hA1.eq w 1
        have e2 : ieq1 w 2 = decide (w = 2) := hA1.eq w 2
        cbv
        by_cases h0 : w = 0
        · have key : ieq1 w 0 = c := by rw [e0, hc]; simp [h0]
          refine vcIf.yes (by first | (simp [hA1.not, hA1.eq, hA1.lt, hA1.le, hA1.cond, hA1.beq, hA1.orb, hL1.len, hL1.slen, hL1.sq, e0, h0]; done) | (simp only [e0, h0]; simp [hA1.not, hA1.eq, hA1.lt, hA1.le, hA1.cond, hA1.beq, hA1.orb, hL1.len, hL1.slen, hL1.sq, e0, h0]; done) | (simp [hA1.not, hA1.eq, hA1.lt, hA1.le, hA1.cond, hA1.beq, hA1.orb, hL1.len, hL1.slen, hL1.sq, e0, h0]; omega) | (simp only [e0, h0]; simp [hA1.not, hA1.eq, hA1.lt, hA1.le, hA1.cond, hA1.beq, hA1.orb, hL1.len, hL1.slen, hL1.sq, e0, h0]; omega)) ?_
          cbv
          rw [key]
          refine hnx1 _ (OutX.w ⟨(), [], trivial, rfl, (by repeat (first | exact trivial | refine And.intro rfl ?_)), rfl, rfl, rfl, ?_⟩)
          rw [hB]; exact Nat.zero_le _
        · refine vcIf.no (by first | (simp [hA1.not, hA1.eq, hA1.lt, hA1.le, hA1.cond, hA1.beq, hA1.orb, hL1.len, hL1.slen, hL1.sq, e0, h0]; done) | (simp only [e0, h0]; simp [hA1.not, hA1.eq, hA1.lt, hA1.le, hA1.cond, hA1.beq, hA1.orb, hL1.len, hL1.slen, hL1.sq, e0, h0]; done) | (simp [hA1.not, hA1.eq, hA1.lt, hA1.le, hA1.cond, hA1.beq, hA1.orb, hL1.len, hL1.slen, hL1.sq, e0, h0]; omega) | (simp only [e0, h0]; simp [hA1.not, hA1.eq, hA1.lt, hA1.le, hA1.cond, hA1.beq, hA1.orb, hL1.len, hL1.slen, hL1.sq, e0, h0]; omega)) ?_
          cbv
          by_cases h1 : w = 1
          · have key : ieq1 w 1 = c := by rw [e1, hc]; simp [h1]
            refine vcIf.yes (by first | (simp [hA1.not, hA1.eq, hA1.lt, hA1.le, hA1.cond, hA1.beq, hA1.orb, hL1.len, hL1.slen, hL1.sq, e1, h1]; done) | (simp only [e1, h1]; simp [hA1.not, hA1.eq, hA1.lt, hA1.le, hA1.cond, hA1.beq, hA1.orb, hL1.len, hL1.slen, hL1.sq, e1, h1]; done) | (simp [hA1.not, hA1.eq, hA1.lt, hA1.le, hA1.cond, hA1.beq, hA1.orb, hL1.len, hL1.slen, hL1.sq, e1, h1]; omega) | (simp only [e1, h1]; simp [hA1.not, hA1.eq, hA1.lt, hA1.le, hA1.cond, hA1.beq, hA1.orb, hL1.len, hL1.slen, hL1.sq, e1, h1]; omega)) ?_
            cbv
            rw [key]
            refine hnx1 _ (OutX.w ⟨(), [], trivial, rfl, (by repeat (first | exact trivial | refine And.intro rfl ?_)), rfl, rfl, rfl, ?_⟩)
            rw [hB]; exact Nat.zero_le _
          · have key : ieq1 w 2 = c := by rw [e2, hc]; simp [h0, h1]
            refine vcIf.no (by first | (simp [hA1.not, hA1.eq, hA1.lt, hA1.le, hA1.cond, hA1.beq, hA1.orb, hL1.len, hL1.slen, hL1.sq, e1, h1]; done) | (simp only [e1, h1]; simp [hA1.not, hA1.eq, hA1.lt, hA1.le, hA1.cond, hA1.beq, hA1.orb, hL1.len, hL1.slen, hL1.sq, e1, h1]; done) | (simp [hA1.not, hA1.eq, hA1.lt, hA1.le, hA1.cond, hA1.beq, hA1.orb, hL1.len, hL1.slen, hL1.sq, e1, h1]; omega) | (simp only [e1, h1]; simp [hA1.not, hA1.eq, hA1.lt, hA1.le, hA1.cond, hA1.beq, hA1.orb, hL1.len, hL1.slen, hL1.sq, e1, h1]; omega)) ?_
            cbv
            rw [key]
            refine hnx1 _ (OutX.w ⟨(), [], trivial, rfl, (by repeat (first | exact trivial | refine And.intro rfl ?_)), rfl, rfl, rfl, ?_⟩)
            rw [hB]; exact Nat.zero_le _
      rintro ⟨⟩ _
      refine PcEv.cond rfl ?_ ?_
      · intro hw
        replace hw : w = 0 ∨ w = 1 ∨ w = 2 := of_decide_eq_true hw
        -- Add or Reset
        refine PcEv.seq (κ := Unit) (fun _ => (12, .p (.int .i64 0)) :: (11, .own 4 0) :: BI.fr zs ⟨i, p, n, su, ro, af, d, xs, m, dn, rs, nz, cz, dd⟩) (fun _ => BI.own ⟨i, p, n, su, ro, af, d, xs, m, dn, rs, nz, cz, dd⟩ ++ [actS w an lz tv]) (fun _ => True) (VcPiece.ok eOk fOk ?_) ?_
        · intro add1 sub1 mul1 quo1 rem1 band1 bor1 bxor1 bclr1 shl1 shr1 ieq1 ilt1 ile1 seq1 slt1 beq1 bnot1 orb1 bcond1 iwrap1 iof1 ssz1 hA1 cat1 sq1 sl1 imin1 imax1 smin1 smax1 len1 slen1 u81 hL1 op1 hop1 call1 hcall1 code1 hcode1 nx1 hnx1 ret1 hret1 ex1 hex1
          cbv
          refine hnx1 _ (OutX.w ⟨(), [], trivial, rfl, (by repeat (first | exact trivial | refine And.intro rfl ?_)), rfl, rfl, rfl, ?_⟩)
          rw [hB]; exact Nat.zero_le _
        rintro ⟨⟩ _
        obtain ⟨ll, hlln⟩ : ∃ ll, ll = l.length := ⟨_, rfl⟩
        have hlzll : lz.length = ll := by omega
        refine PcEv.seq (κ := Unit) (fun _ => (13, .vw 5 1 0 ll none) :: (12, .p (.int .i64 0)) :: (11, .own 4 0) :: BI.fr zs ⟨i, p, n, su, ro, af, d, xs, m, dn, rs, nz, cz, dd⟩) (fun _ => BI.own ⟨i, p, n, su, ro, af, d, xs, m, dn, rs, nz, cz, dd⟩ ++ [actS w an lz tv, bkA lz]) (fun _ => True) (VcPiece.ok eOk fOk ?_) ?_
        · intro add1 sub1 mul1 quo1 rem1 band1 bor1 bxor1 bclr1 shl1 shr1 ieq1 ilt1 ile1 seq1 slt1 beq1 bnot1 orb1 bcond1 iwrap1 iof1 ssz1 hA1 cat1 sq1 sl1 imin1 imax1 smin1 smax1 len1 slen1 u81 hL1 op1 hop1 call1 hcall1 code1 hcode1 nx1 hnx1 ret1 hret1 ex1 hex1
          cbv
          refine ⟨true, ?_⟩
          cbv
          refine .inl ⟨(), rfl, rfl, by rw [hlz]; exact rcP_wf _, ?_, ?_, ?_⟩
          · show 0 + lz.length ≤ maxLen
            unfold maxLen; omega
          · show (0 + lz.length) * 24 ≤ _
            omega
          intro us n' hu hn'
          obtain rfl : lz = us := by rw [hu]; rfl
          replace hn' : n' = 0 + lz.length := hn'
          obtain rfl : n' = ll := by omega
          cbv
          refine hnx1 _ (OutX.w ⟨(), [], trivial, rfl, (by repeat (first | exact trivial | refine And.intro rfl ?_)), rfl, rfl, rfl, ?_⟩)
          rw [hB]; exact Nat.zero_le _
        rintro ⟨⟩ _
        have hmM : m ≤ 20 * i := by rw [k3.2.1]; exact k4.m3
        have hnowM : p.now.length ≤ 20 * i := k4.m1
        have hnzl : nz.length = p.now.length := by rw [k5, rcP_length]
        refine PcEv.seq (κ := BJ) (BJ.fr zs) (BJ.own w an lz tv) (fun s => s.Ok w l p i nz cz dd) (VcPiece.ok eOk fOk ?_) ?_
        · have hreset := bkReset_spec k3 l hl4' (by omega) lz hlz
          have hadd := bkAdd_spec k3 l hl4' (by omega) lz hlz
          obtain ⟨RR, hRR⟩ : ∃ R, R = bkReset p.b l := ⟨_, rfl⟩
          obtain ⟨RA, hRA⟩ : ∃ R, R = bkAdd p.b l := ⟨_, rfl⟩
          rw [← hRR] at hreset
          rw [← hRA] at hadd
          intro add1 sub1 mul1 quo1 rem1 band1 bor1 bxor1 bclr1 shl1 shr1 ieq1 ilt1 ile1 seq1 slt1 beq1 bnot1 orb1 bcond1 iwrap1 iof1 ssz1 hA1 cat1 sq1 sl1 imin1 imax1 smin1 smax1 len1 slen1 u81 hL1 op1 hop1 call1 hcall1 code1 hcode1 nx1 hnx1 ret1 hret1 ex1 hex1
          have e2 : ieq1 w 2 = decide (w = 2) := hA1.eq w 2
          cbv
          by_cases h2 : w = 2
          · refine vcIf.yes (by first | (simp [hA1.not, hA1.eq, hA1.lt, hA1.le, hA1.cond, hA1.beq, hA1.orb, hL1.len, hL1.slen, hL1.sq, e2, h2]; done) | (simp only [e2, h2]; simp [hA1.not, hA1.eq, hA1.lt, hA1.le, hA1.cond, hA1.beq, hA1.orb, hL1.len, hL1.slen, hL1.sq, e2, h2]; done) | (simp [hA1.not, hA1.eq, hA1.lt, hA1.le, hA1.cond, hA1.beq, hA1.orb, hL1.len, hL1.slen, hL1.sq, e2, h2]; omega) | (simp only [e2, h2]; simp [hA1.not, hA1.eq, hA1.lt, hA1.le, hA1.cond, hA1.beq, hA1.orb, hL1.len, hL1.slen, hL1.sq, e2, h2]; omega)) ?_
            cbv
            refine hcall1 _ _ _ _ _ (CallEv.freezeG 5 rfl (by rw [hB]; exact Nat.zero_le _) fun g hg => CallEv.lend [0, 1, 2, 3] hreset rfl (.cons (.own 2 2 0 rfl) (.cons (.p _) .nil)) (bkL rfl rfl rfl rfl rfl rfl rfl) ?_)
            rintro _ _ ⟨e, n1, su1, ro1, af1, d1, xs1, m1, dn1, rs1, he, hb1, rfl, rfl⟩
            cbv
            refine hnx1 _ (OutX.w ⟨⟨⟨i, ⟨RR.2, p.now, p.cut, p.dead⟩, n1, su1, ro1, af1, d1, xs1, m1, dn1, rs1, nz, cz, dd⟩, e, l, g 0 ll⟩, [.dead], ⟨rfl, rfl, rfl, rfl, ?_, hb1, .inl ⟨h2, by rw [← hRR]; exact he, by rw [← hRR], rfl⟩⟩, rfl, (by repeat (first | exact trivial | refine And.intro rfl ?_)), rfl, rfl, rfl, ?_⟩)
            · simp only; rw [hg, frz_full hlzll, hlz]
            · rw [hB]; exact Nat.zero_le _
          · refine vcIf.no (by first | (simp [hA1.not, hA1.eq, hA1.lt, hA1.le, hA1.cond, hA1.beq, hA1.orb, hL1.len, hL1.slen, hL1.sq, e2, h2]; done) | (simp only [e2, h2]; simp [hA1.not, hA1.eq, hA1.lt, hA1.le, hA1.cond, hA1.beq, hA1.orb, hL1.len, hL1.slen, hL1.sq, e2, h2]; done) | (simp [hA1.not, hA1.eq, hA1.lt, hA1.le, hA1.cond, hA1.beq, hA1.orb, hL1.len, hL1.slen, hL1.sq, e2, h2]; omega) | (simp only [e2, h2]; simp [hA1.not, hA1.eq, hA1.lt, hA1.le, hA1.cond, hA1.beq, hA1.orb, hL1.len, hL1.slen, hL1.sq, e2, h2]; omega)) ?_
            cbv
            refine hcall1 _ _ _ _ _ (CallEv.lend [0, 1, 2, 3] hadd rfl (.cons (.own 2 2 0 rfl) (.cons (.p _) .nil)) (bkL rfl rfl rfl rfl rfl rfl rfl) ?_)
            rintro _ _ ⟨e, n1, su1, ro1, af1, d1, xs1, m1, dn1, rs1, he, hb1, rfl, rfl⟩
            cbv
            refine hcode1 _ _ _ (CodeEv.drawT eOk fOk (by kernel_rfl) (Xof 5 []) (.rd 1 (.rd 3 (.rd 4 (.acts (.cons 0 (.acts (.cons 2 (.acts (.cons 5 (.so 6 (.done)) (.nil))) (.nil))) (.nil)))))) (by kernel_rfl) (by kernel_rfl) ?_)
            intro add2 sub2 mul2 quo2 rem2 band2 bor2 bxor2 bclr2 shl2 shr2 ieq2 ilt2 ile2 seq2 slt2 beq2 bnot2 orb2 bcond2 iwrap2 iof2 ssz2 hA2 cat2 sq2 sl2 imin2 imax2 smin2 smax2 len2 slen2 u82 hL2 op2 hop2 call2 hcall2 code2 hcode2 q2 hq2
            cbv
            refine ⟨true, ?_⟩
            cbv
            refine .inl ⟨(), rfl, rfl, by rw [k5]; exact rcP_wf _, ?_, ?_, ?_⟩
            · show 0 + nz.length ≤ maxLen
              rw [hnzl]; unfold maxLen; omega
            · show (0 + nz.length) * 24 ≤ _
              rw [hnzl]; omega
            intro us n2 hu hn2
            obtain rfl : nz = us := by rw [hu]; rfl
            replace hn2 : n2 = 0 + nz.length := hn2
            rw [Nat.zero_add] at hn2
            cbv
            refine .inl ⟨(), rfl, hn2, by rw [hlz]; exact rcP_wf _, ?_, ?_, ?_⟩
            · show n2 + lz.length ≤ maxLen
              rw [hn2, hnzl]; unfold maxLen; omega
            · show (n2 + lz.length) * 24 ≤ _
              rw [hn2, hnzl]; omega
            intro vs n3 hv hn3
            replace hv : vs = nz ++ lz := hv
            replace hn3 : n3 = n2 + lz.length := hn3
            have hv3 : n3 = vs.length := by rw [hv, List.length_append, hn3, hn2]
            cbv
            refine hq2 _ ?_
            cbv
            refine hnx1 _ (OutX.wC (Conv.freezeAt 13 6 rfl (by rw [hB]; exact Nat.zero_le _) rfl hv3).weak ⟨⟨⟨i, ⟨RA.2, p.now, p.cut, p.dead⟩, n1, su1, ro1, af1, d1, xs1, m1, dn1, rs1, nz, cz, dd⟩, e, p.now ++ l, vs⟩, [bkA lz, .dead], ⟨rfl, rfl, rfl, rfl, ?_, hb1, .inr ⟨h2, by rw [← hRA]; exact he, by rw [← hRA], rfl⟩⟩, rfl, (by repeat (first | exact trivial | refine And.intro rfl ?_)), rfl, rfl, rfl, ?_⟩)
            · simp only; rw [hv, k5, hlz, rcP_append]
            · rw [hB]; exact Nat.zero_le _
        -- what came of it
        rintro ⟨⟨i', p', n, su, ro, af, d, xs, m, dn, rs, nz', cz', dd'⟩, e, next, nx⟩ ⟨q1, q2, q3, q4, q5, q6, q7⟩
        simp only at q1 q2 q3 q4 q5 q6 q7
        subst q1 q2 q3 q4
        have hout := outc k4 hl20 q7
        refine PcEv.seq (κ := BI) (BI.fr zs) BI.own (fun s => s.i = i' ∧ s.Ok N (20 * i' + 20)) (VcPiece.ok eOk fOk ?_) ?_
        · have hfits := rbFits_spec l (by omega) lz hlz
          have hlay : fitL next → next.length ≤ 20 * i' + 20 → FnL Try.prog 31 [.p (.sl nx)] [] _ := fun h1 h2 => rbLay_spec next (fun r hr => by have := h1 r hr; omega) (by omega) nx q5
          intro add1 sub1 mul1 quo1 rem1 band1 bor1 bxor1 bclr1 shl1 shr1 ieq1 ilt1 ile1 seq1 slt1 beq1 bnot1 orb1 bcond1 iwrap1 iof1 ssz1 hA1 cat1 sq1 sl1 imin1 imax1 smin1 smax1 len1 slen1 u81 hL1 op1 hop1 call1 hcall1 code1 hcode1 nx1 hnx1 ret1 hret1 ex1 hex1
          cbv
          rcases hout with ⟨o1, o2, o3⟩ | ⟨o1, o2, o3, o4⟩ | ⟨o1, o2, o3, o4⟩ | ⟨o1, o2, o3, o4⟩ | ⟨o1, o2, o3, o4, o5, o6, o7⟩
          · refine vcIf.yes (by first | (simp [hA1.not, hA1.eq, hA1.lt, hA1.le, hA1.cond, hA1.beq, hA1.orb, hL1.len, hL1.slen, hL1.sq, k7, o1]; done) | (simp only [k7, o1]; simp [hA1.not, hA1.eq, hA1.lt, hA1.le, hA1.cond, hA1.beq, hA1.orb, hL1.len, hL1.slen, hL1.sq, k7, o1]; done) | (simp [hA1.not, hA1.eq, hA1.lt, hA1.le, hA1.cond, hA1.beq, hA1.orb, hL1.len, hL1.slen, hL1.sq, k7, o1]; omega) | (simp only [k7, o1]; simp [hA1.not, hA1.eq, hA1.lt, hA1.le, hA1.cond, hA1.beq, hA1.orb, hL1.len, hL1.slen, hL1.sq, k7, o1]; omega)) ?_
            cbv
            refine vcIf.no (by first | (simp [hA1.not, hA1.eq, hA1.lt, hA1.le, hA1.cond, hA1.beq, hA1.orb, hL1.len, hL1.slen, hL1.sq, o2]; done) | (simp only [o2]; simp [hA1.not, hA1.eq, hA1.lt, hA1.le, hA1.cond, hA1.beq, hA1.orb, hL1.len, hL1.slen, hL1.sq, o2]; done) | (simp [hA1.not, hA1.eq, hA1.lt, hA1.le, hA1.cond, hA1.beq, hA1.orb, hL1.len, hL1.slen, hL1.sq, o2]; omega) | (simp only [o2]; simp [hA1.not, hA1.eq, hA1.lt, hA1.le, hA1.cond, hA1.beq, hA1.orb, hL1.len, hL1.slen, hL1.sq, o2]; omega)) ?_
            cbv
            refine hnx1 _ (OutX.w ⟨⟨i', p, n, su, ro, af, d, xs, m, dn, rs, nz', cz', dd'⟩, _, ⟨rfl, k1, k2, by rw [← o3]; exact q6, k4.mono (by omega), k5, k6, k7⟩, rfl, (by repeat (first | exact trivial | refine And.intro rfl ?_)), rfl, rfl, rfl, ?_⟩)
            rw [hB]; exact Nat.zero_le _
          · refine vcIf.no (by first | (simp [hA1.not, hA1.eq, hA1.lt, hA1.le, hA1.cond, hA1.beq, hA1.orb, hL1.len, hL1.slen, hL1.sq, k7, o1]; done) | (simp only [k7, o1]; simp [hA1.not, hA1.eq, hA1.lt, hA1.le, hA1.cond, hA1.beq, hA1.orb, hL1.len, hL1.slen, hL1.sq, k7, o1]; done) | (simp [hA1.not, hA1.eq, hA1.lt, hA1.le, hA1.cond, hA1.beq, hA1.orb, hL1.len, hL1.slen, hL1.sq, k7, o1]; omega) | (simp only [k7, o1]; simp [hA1.not, hA1.eq, hA1.lt, hA1.le, hA1.cond, hA1.beq, hA1.orb, hL1.len, hL1.slen, hL1.sq, k7, o1]; omega)) ?_
            cbv
            refine hcall1 _ _ _ _ _ (CallEv.same hfits rfl ?_)
            rintro _ _ ⟨c, hc, rfl, rfl⟩
            obtain rfl : c = false := by rw [hc]; exact decide_eq_false o2
            cbv
            refine vcIf.yes (by first | (simp [hA1.not, hA1.eq, hA1.lt, hA1.le, hA1.cond, hA1.beq, hA1.orb, hL1.len, hL1.slen, hL1.sq]; done) | (simp [hA1.not, hA1.eq, hA1.lt, hA1.le, hA1.cond, hA1.beq, hA1.orb, hL1.len, hL1.slen, hL1.sq]; omega)) ?_
            cbv
            refine vcIf.no (by first | (simp [hA1.not, hA1.eq, hA1.lt, hA1.le, hA1.cond, hA1.beq, hA1.orb, hL1.len, hL1.slen, hL1.sq, o3]; done) | (simp only [o3]; simp [hA1.not, hA1.eq, hA1.lt, hA1.le, hA1.cond, hA1.beq, hA1.orb, hL1.len, hL1.slen, hL1.sq, o3]; done) | (simp [hA1.not, hA1.eq, hA1.lt, hA1.le, hA1.cond, hA1.beq, hA1.orb, hL1.len, hL1.slen, hL1.sq, o3]; omega) | (simp only [o3]; simp [hA1.not, hA1.eq, hA1.lt, hA1.le, hA1.cond, hA1.beq, hA1.orb, hL1.len, hL1.slen, hL1.sq, o3]; omega)) ?_
            cbv
            refine hnx1 _ (OutX.w ⟨⟨i', p, n, su, ro, af, d, xs, m, dn, rs, nz', cz', dd'⟩, _, ⟨rfl, k1, k2, by rw [← o4]; exact q6, k4.mono (by omega), k5, k6, k7⟩, rfl, (by repeat (first | exact trivial | refine And.intro rfl ?_)), rfl, rfl, rfl, ?_⟩)
            rw [hB]; exact Nat.zero_le _
          · refine vcIf.no (by first | (simp [hA1.not, hA1.eq, hA1.lt, hA1.le, hA1.cond, hA1.beq, hA1.orb, hL1.len, hL1.slen, hL1.sq, k7, o1]; done) | (simp only [k7, o1]; simp [hA1.not, hA1.eq, hA1.lt, hA1.le, hA1.cond, hA1.beq, hA1.orb, hL1.len, hL1.slen, hL1.sq, k7, o1]; done) | (simp [hA1.not, hA1.eq, hA1.lt, hA1.le, hA1.cond, hA1.beq, hA1.orb, hL1.len, hL1.slen, hL1.sq, k7, o1]; omega) | (simp only [k7, o1]; simp [hA1.not, hA1.eq, hA1.lt, hA1.le, hA1.cond, hA1.beq, hA1.orb, hL1.len, hL1.slen, hL1.sq, k7, o1]; omega)) ?_
            cbv
            refine hcall1 _ _ _ _ _ (CallEv.same hfits rfl ?_)
            rintro _ _ ⟨c, hc, rfl, rfl⟩
            obtain rfl : c = true := by rw [hc]; exact decide_eq_true o2
            cbv
            refine vcIf.no (by first | (simp [hA1.not, hA1.eq, hA1.lt, hA1.le, hA1.cond, hA1.beq, hA1.orb, hL1.len, hL1.slen, hL1.sq]; done) | (simp [hA1.not, hA1.eq, hA1.lt, hA1.le, hA1.cond, hA1.beq, hA1.orb, hL1.len, hL1.slen, hL1.sq]; omega)) ?_
            cbv
            refine vcIf.yes (by first | (simp [hA1.not, hA1.eq, hA1.lt, hA1.le, hA1.cond, hA1.beq, hA1.orb, hL1.len, hL1.slen, hL1.sq, o3]; done) | (simp only [o3]; simp [hA1.not, hA1.eq, hA1.lt, hA1.le, hA1.cond, hA1.beq, hA1.orb, hL1.len, hL1.slen, hL1.sq, o3]; done) | (simp [hA1.not, hA1.eq, hA1.lt, hA1.le, hA1.cond, hA1.beq, hA1.orb, hL1.len, hL1.slen, hL1.sq, o3]; omega) | (simp only [o3]; simp [hA1.not, hA1.eq, hA1.lt, hA1.le, hA1.cond, hA1.beq, hA1.orb, hL1.len, hL1.slen, hL1.sq, o3]; omega)) ?_
            cbv
            refine hnx1 _ (OutX.w ⟨⟨i', ⟨p'.b, p.now, next, true⟩, n, su, ro, af, d, xs, m, dn, rs, nz', nx, true⟩, _, ⟨rfl, k1, k2, q6, o4, k5, q5, rfl⟩, rfl, (by repeat (first | exact trivial | refine And.intro rfl ?_)), rfl, rfl, rfl, ?_⟩)
            rw [hB]; exact Nat.zero_le _
          · refine vcIf.no (by first | (simp [hA1.not, hA1.eq, hA1.lt, hA1.le, hA1.cond, hA1.beq, hA1.orb, hL1.len, hL1.slen, hL1.sq, k7, o1]; done) | (simp only [k7, o1]; simp [hA1.not, hA1.eq, hA1.lt, hA1.le, hA1.cond, hA1.beq, hA1.orb, hL1.len, hL1.slen, hL1.sq, k7, o1]; done) | (simp [hA1.not, hA1.eq, hA1.lt, hA1.le, hA1.cond, hA1.beq, hA1.orb, hL1.len, hL1.slen, hL1.sq, k7, o1]; omega) | (simp only [k7, o1]; simp [hA1.not, hA1.eq, hA1.lt, hA1.le, hA1.cond, hA1.beq, hA1.orb, hL1.len, hL1.slen, hL1.sq, k7, o1]; omega)) ?_
            cbv
            refine hcall1 _ _ _ _ _ (CallEv.same hfits rfl ?_)
            rintro _ _ ⟨c, hc, rfl, rfl⟩
            obtain rfl : c = true := by rw [hc]; exact decide_eq_true o2
            cbv
            refine vcIf.no (by first | (simp [hA1.not, hA1.eq, hA1.lt, hA1.le, hA1.cond, hA1.beq, hA1.orb, hL1.len, hL1.slen, hL1.sq]; done) | (simp [hA1.not, hA1.eq, hA1.lt, hA1.le, hA1.cond, hA1.beq, hA1.orb, hL1.len, hL1.slen, hL1.sq]; omega)) ?_
            cbv
            refine vcIf.no (by first | (simp [hA1.not, hA1.eq, hA1.lt, hA1.le, hA1.cond, hA1.beq, hA1.orb, hL1.len, hL1.slen, hL1.sq, o3]; done) | (simp only [o3]; simp [hA1.not, hA1.eq, hA1.lt, hA1.le, hA1.cond, hA1.beq, hA1.orb, hL1.len, hL1.slen, hL1.sq, o3]; done) | (simp [hA1.not, hA1.eq, hA1.lt, hA1.le, hA1.cond, hA1.beq, hA1.orb, hL1.len, hL1.slen, hL1.sq, o3]; omega) | (simp only [o3]; simp [hA1.not, hA1.eq, hA1.lt, hA1.le, hA1.cond, hA1.beq, hA1.orb, hL1.len, hL1.slen, hL1.sq, o3]; omega)) ?_
            cbv
            refine vcIf.yes (by first | (simp [hA1.not, hA1.eq, hA1.lt, hA1.le, hA1.cond, hA1.beq, hA1.orb, hL1.len, hL1.slen, hL1.sq, o3]; done) | (simp only [o3]; simp [hA1.not, hA1.eq, hA1.lt, hA1.le, hA1.cond, hA1.beq, hA1.orb, hL1.len, hL1.slen, hL1.sq, o3]; done) | (simp [hA1.not, hA1.eq, hA1.lt, hA1.le, hA1.cond, hA1.beq, hA1.orb, hL1.len, hL1.slen, hL1.sq, o3]; omega) | (simp only [o3]; simp [hA1.not, hA1.eq, hA1.lt, hA1.le, hA1.cond, hA1.beq, hA1.orb, hL1.len, hL1.slen, hL1.sq, o3]; omega)) ?_
            cbv
            refine hnx1 _ (OutX.w ⟨⟨i', ⟨p'.b, next, next, false⟩, n, su, ro, af, d, xs, m, dn, rs, nx, nx, dd'⟩, _, ⟨rfl, k1, k2, q6, o4, q5, q5, k7.trans o1⟩, rfl, (by repeat (first | exact trivial | refine And.intro rfl ?_)), rfl, rfl, rfl, ?_⟩)
            rw [hB]; exact Nat.zero_le _
          · refine vcIf.no (by first | (simp [hA1.not, hA1.eq, hA1.lt, hA1.le, hA1.cond, hA1.beq, hA1.orb, hL1.len, hL1.slen, hL1.sq, k7, o1]; done) | (simp only [k7, o1]; simp [hA1.not, hA1.eq, hA1.lt, hA1.le, hA1.cond, hA1.beq, hA1.orb, hL1.len, hL1.slen, hL1.sq, k7, o1]; done) | (simp [hA1.not, hA1.eq, hA1.lt, hA1.le, hA1.cond, hA1.beq, hA1.orb, hL1.len, hL1.slen, hL1.sq, k7, o1]; omega) | (simp only [k7, o1]; simp [hA1.not, hA1.eq, hA1.lt, hA1.le, hA1.cond, hA1.beq, hA1.orb, hL1.len, hL1.slen, hL1.sq, k7, o1]; omega)) ?_
            cbv
            refine hcall1 _ _ _ _ _ (CallEv.same hfits rfl ?_)
            rintro _ _ ⟨c, hc, rfl, rfl⟩
            obtain rfl : c = true := by rw [hc]; exact decide_eq_true o2
            cbv
            refine vcIf.no (by first | (simp [hA1.not, hA1.eq, hA1.lt, hA1.le, hA1.cond, hA1.beq, hA1.orb, hL1.len, hL1.slen, hL1.sq]; done) | (simp [hA1.not, hA1.eq, hA1.lt, hA1.le, hA1.cond, hA1.beq, hA1.orb, hL1.len, hL1.slen, hL1.sq]; omega)) ?_
            cbv
            refine vcIf.no (by first | (simp [hA1.not, hA1.eq, hA1.lt, hA1.le, hA1.cond, hA1.beq, hA1.orb, hL1.len, hL1.slen, hL1.sq, o3]; done) | (simp only [o3]; simp [hA1.not, hA1.eq, hA1.lt, hA1.le, hA1.cond, hA1.beq, hA1.orb, hL1.len, hL1.slen, hL1.sq, o3]; done) | (simp [hA1.not, hA1.eq, hA1.lt, hA1.le, hA1.cond, hA1.beq, hA1.orb, hL1.len, hL1.slen, hL1.sq, o3]; omega) | (simp only [o3]; simp [hA1.not, hA1.eq, hA1.lt, hA1.le, hA1.cond, hA1.beq, hA1.orb, hL1.len, hL1.slen, hL1.sq, o3]; omega)) ?_
            cbv
            refine vcIf.no (by first | (simp [hA1.not, hA1.eq, hA1.lt, hA1.le, hA1.cond, hA1.beq, hA1.orb, hL1.len, hL1.slen, hL1.sq, o3]; done) | (simp only [o3]; simp [hA1.not, hA1.eq, hA1.lt, hA1.le, hA1.cond, hA1.beq, hA1.orb, hL1.len, hL1.slen, hL1.sq, o3]; done) | (simp [hA1.not, hA1.eq, hA1.lt, hA1.le, hA1.cond, hA1.beq, hA1.orb, hL1.len, hL1.slen, hL1.sq, o3]; omega) | (simp only [o3]; simp [hA1.not, hA1.eq, hA1.lt, hA1.le, hA1.cond, hA1.beq, hA1.orb, hL1.len, hL1.slen, hL1.sq, o3]; omega)) ?_
            cbv
            refine vcIf.no (by first | (simp [hA1.not, hA1.eq, hA1.lt, hA1.le, hA1.cond, hA1.beq, hA1.orb, hL1.len, hL1.slen, hL1.sq, o3]; done) | (simp only [o3]; simp [hA1.not, hA1.eq, hA1.lt, hA1.le, hA1.cond, hA1.beq, hA1.orb, hL1.len, hL1.slen, hL1.sq, o3]; done) | (simp [hA1.not, hA1.eq, hA1.lt, hA1.le, hA1.cond, hA1.beq, hA1.orb, hL1.len, hL1.slen, hL1.sq, o3]; omega) | (simp only [o3]; simp [hA1.not, hA1.eq, hA1.lt, hA1.le, hA1.cond, hA1.beq, hA1.orb, hL1.len, hL1.slen, hL1.sq, o3]; omega)) ?_
            cbv
            refine hcall1 _ _ _ _ _ (CallEv.same (hlay o6 o7) rfl ?_)
            rintro _ _ ⟨ys, hys, rfl, rfl⟩
            have hyl : len1 ys = Int.ofNat (rbytes next).length := by rw [hL1.len, hys, bP_length]; rfl
            obtain ⟨big, hbig⟩ : ∃ big, big = (rbytes next).length := ⟨_, rfl⟩
            rw [← hbig] at hyl o5
            cbv
            refine vcIf.no (by first | (simp [hA1.not, hA1.eq, hA1.lt, hA1.le, hA1.cond, hA1.beq, hA1.orb, hL1.len, hL1.slen, hL1.sq, hyl, o5]; done) | (simp only [hyl, o5]; simp [hA1.not, hA1.eq, hA1.lt, hA1.le, hA1.cond, hA1.beq, hA1.orb, hL1.len, hL1.slen, hL1.sq, hyl, o5]; done) | (simp [hA1.not, hA1.eq, hA1.lt, hA1.le, hA1.cond, hA1.beq, hA1.orb, hL1.len, hL1.slen, hL1.sq, hyl, o5]; omega) | (simp only [hyl, o5]; simp [hA1.not, hA1.eq, hA1.lt, hA1.le, hA1.cond, hA1.beq, hA1.orb, hL1.len, hL1.slen, hL1.sq, hyl, o5]; omega)) ?_
            cbv
            refine hnx1 _ (OutX.w ⟨⟨i', p, n, su, ro, af, d, xs, m, dn, rs, nz', cz', dd'⟩, _, ⟨rfl, k1, k2, by rw [← o4]; exact q6, k4.mono (by omega), k5, k6, k7⟩, rfl, (by repeat (first | exact trivial | refine And.intro rfl ?_)), rfl, rfl, rfl, ?_⟩)
            rw [hB]; exact Nat.zero_le _
        rintro ⟨i, p2, n, su, ro, af, d, xs, m, dn, rs, nz, cz, dd⟩ ⟨r1, r2⟩
        have hr := r2
        obtain ⟨s1, s2, s3, s4, s5, s6, s7⟩ := r2
        simp only at r1 s1 s2 s3 s4 s5 s6 s7
        subst r1
        refine VcPiece.ok eOk fOk ?_
        cases hdd : p2.dead with
        | true =>
          rw [hdd] at s7
          intro add1 sub1 mul1 quo1 rem1 band1 bor1 bxor1 bclr1 shl1 shr1 ieq1 ilt1 ile1 seq1 slt1 beq1 bnot1 orb1 bcond1 iwrap1 iof1 ssz1 hA1 cat1 sq1 sl1 imin1 imax1 smin1 smax1 len1 slen1 u81 hL1 op1 hop1 call1 hcall1 code1 hcode1 nx1 hnx1 ret1 hret1 ex1 hex1
          cbv
          refine vcIf.no (by first | (simp [hA1.not, hA1.eq, hA1.lt, hA1.le, hA1.cond, hA1.beq, hA1.orb, hL1.len, hL1.slen, hL1.sq, s7]; done) | (simp only [s7]; simp [hA1.not, hA1.eq, hA1.lt, hA1.le, hA1.cond, hA1.beq, hA1.orb, hL1.len, hL1.slen, hL1.sq, s7]; done) | (simp [hA1.not, hA1.eq, hA1.lt, hA1.le, hA1.cond, hA1.beq, hA1.orb, hL1.len, hL1.slen, hL1.sq, s7]; omega) | (simp only [s7]; simp [hA1.not, hA1.eq, hA1.lt, hA1.le, hA1.cond, hA1.beq, hA1.orb, hL1.len, hL1.slen, hL1.sq, s7]; omega)) ?_
          cbv
          refine hnx1 _ (OutX.w ⟨⟨i, p2, n, su, ro, af, d, xs, m, dn, rs, nz, cz, dd⟩, _, ⟨rfl, hr⟩, rfl, (by repeat (first | exact trivial | refine And.intro rfl ?_)), rfl, rfl, rfl, ?_⟩)
          rw [hB]; exact Nat.zero_le _
        | false =>
          obtain ⟨j1, j2, j3, j4⟩ := s4.live hdd
          rw [hdd] at s7
          have hrec := bkRecords_spec s3 (fun r hr => by rw [j3] at hr; have := s4.fit r hr; omega) (by have := s4.m3; rw [s3.2.1]; omega)
          have hsm := rbSame_spec p2.b.rs p2.now (by have := s4.m3; omega) rs nz s3.2.2.2 s5
          intro add1 sub1 mul1 quo1 rem1 band1 bor1 bxor1 bclr1 shl1 shr1 ieq1 ilt1 ile1 seq1 slt1 beq1 bnot1 orb1 bcond1 iwrap1 iof1 ssz1 hA1 cat1 sq1 sl1 imin1 imax1 smin1 smax1 len1 slen1 u81 hL1 op1 hop1 call1 hcall1 code1 hcode1 nx1 hnx1 ret1 hret1 ex1 hex1
          cbv
          refine vcIf.yes (by first | (simp [hA1.not, hA1.eq, hA1.lt, hA1.le, hA1.cond, hA1.beq, hA1.orb, hL1.len, hL1.slen, hL1.sq, s7]; done) | (simp only [s7]; simp [hA1.not, hA1.eq, hA1.lt, hA1.le, hA1.cond, hA1.beq, hA1.orb, hL1.len, hL1.slen, hL1.sq, s7]; done) | (simp [hA1.not, hA1.eq, hA1.lt, hA1.le, hA1.cond, hA1.beq, hA1.orb, hL1.len, hL1.slen, hL1.sq, s7]; omega) | (simp only [s7]; simp [hA1.not, hA1.eq, hA1.lt, hA1.le, hA1.cond, hA1.beq, hA1.orb, hL1.len, hL1.slen, hL1.sq, s7]; omega)) ?_
          cbv
          refine hcall1 _ _ _ _ _ (CallEv.lend [0, 1, 2, 3] hrec rfl (.cons (.own 2 2 0 rfl) .nil) (bkL rfl rfl rfl rfl rfl rfl rfl) ?_)
          rintro _ _ ⟨rfl, rfl⟩
          cbv
          refine hcall1 _ _ _ _ _ (CallEv.same hsm rfl ?_)
          rintro _ _ ⟨c, hc, rfl, rfl⟩
          obtain rfl : c = true := by rw [hc]; exact decide_eq_true j3
          cbv
          refine vcIf.no (by first | (simp [hA1.not, hA1.eq, hA1.lt, hA1.le, hA1.cond, hA1.beq, hA1.orb, hL1.len, hL1.slen, hL1.sq, s7]; done) | (simp only [s7]; simp [hA1.not, hA1.eq, hA1.lt, hA1.le, hA1.cond, hA1.beq, hA1.orb, hL1.len, hL1.slen, hL1.sq, s7]; done) | (simp [hA1.not, hA1.eq, hA1.lt, hA1.le, hA1.cond, hA1.beq, hA1.orb, hL1.len, hL1.slen, hL1.sq, s7]; omega) | (simp only [s7]; simp [hA1.not, hA1.eq, hA1.lt, hA1.le, hA1.cond, hA1.beq, hA1.orb, hL1.len, hL1.slen, hL1.sq, s7]; omega)) ?_
          cbv
          refine hnx1 _ (OutX.w ⟨⟨i, p2, n, su, ro, af, d, xs, m, dn, rs, nz, cz, dd⟩, _, ⟨rfl, hr⟩, rfl, (by repeat (first | exact trivial | refine And.intro rfl ?_)), rfl, rfl, rfl, ?_⟩)
          rw [hB]; exact Nat.zero_le _
      · intro hw
        replace hw : ¬ (w = 0 ∨ w = 1 ∨ w = 2) := of_decide_eq_false hw
        have hfail := fail_spec k3.1 an hn2
        have hcrash := crash_spec k3.1 an hn1 hn2 tn
        rw [← htv] at hcrash
        have hsz := k3.1
        obtain ⟨b', hb1, hb2, hb3⟩ := k4.crash an tn (by have := k3.1; unfold IsTp at this; omega) (by have := k3.1; unfold IsTp at this; omega)
        obtain ⟨t', ht'⟩ : ∃ t', t' = tpCrash p.b.t an tn := ⟨_, rfl⟩
        rw [← ht'] at hcrash hb1
        refine VcPiece.ok eOk fOk ?_
        intro add1 sub1 mul1 quo1 rem1 band1 bor1 bxor1 bclr1 shl1 shr1 ieq1 ilt1 ile1 seq1 slt1 beq1 bnot1 orb1 bcond1 iwrap1 iof1 ssz1 hA1 cat1 sq1 sl1 imin1 imax1 smin1 smax1 len1 slen1 u81 hL1 op1 hop1 call1 hcall1 code1 hcode1 nx1 hnx1 ret1 hret1 ex1 hex1
        have e3 : ieq1 w 3 = decide (w = 3) := hA1.eq w 3
        cbv
        by_cases h3 : w = 3
        · refine vcIf.yes (by first | (simp [hA1.not, hA1.eq, hA1.lt, hA1.le, hA1.cond, hA1.beq, hA1.orb, hL1.len, hL1.slen, hL1.sq, e3, h3]; done) | (simp only [e3, h3]; simp [hA1.not, hA1.eq, hA1.lt, hA1.le, hA1.cond, hA1.beq, hA1.orb, hL1.len, hL1.slen, hL1.sq, e3, h3]; done) | (simp [hA1.not, hA1.eq, hA1.lt, hA1.le, hA1.cond, hA1.beq, hA1.orb, hL1.len, hL1.slen, hL1.sq, e3, h3]; omega) | (simp only [e3, h3]; simp [hA1.not, hA1.eq, hA1.lt, hA1.le, hA1.cond, hA1.beq, hA1.orb, hL1.len, hL1.slen, hL1.sq, e3, h3]; omega)) ?_
          cbv
          refine hcall1 _ _ _ _ _ (CallEv.lend [0, 1] hfail rfl (.cons (.own 0 0 0 rfl) (.cons (.p _) .nil)) (tpL rfl rfl rfl rfl) ?_)
          rintro _ _ ⟨af1, ht1, rfl⟩
          cbv
          refine hnx1 _ (OutX.w ⟨⟨i, ⟨⟨tpFail p.b.t an, p.b.rs, p.b.dn⟩, p.now, p.cut, p.dead⟩, n, su, ro, af1, d, xs, m, dn, rs, nz, cz, dd⟩, _, ⟨rfl, k1, k2, ⟨ht1, k3.2⟩, (k4.fail an).mono (by omega), k5, k6, k7⟩, rfl, (by repeat (first | exact trivial | refine And.intro rfl ?_)), rfl, rfl, rfl, ?_⟩)
          rw [hB]; exact Nat.zero_le _
        · refine vcIf.no (by first | (simp [hA1.not, hA1.eq, hA1.lt, hA1.le, hA1.cond, hA1.beq, hA1.orb, hL1.len, hL1.slen, hL1.sq, e3, h3]; done) | (simp only [e3, h3]; simp [hA1.not, hA1.eq, hA1.lt, hA1.le, hA1.cond, hA1.beq, hA1.orb, hL1.len, hL1.slen, hL1.sq, e3, h3]; done) | (simp [hA1.not, hA1.eq, hA1.lt, hA1.le, hA1.cond, hA1.beq, hA1.orb, hL1.len, hL1.slen, hL1.sq, e3, h3]; omega) | (simp only [e3, h3]; simp [hA1.not, hA1.eq, hA1.lt, hA1.le, hA1.cond, hA1.beq, hA1.orb, hL1.len, hL1.slen, hL1.sq, e3, h3]; omega)) ?_
          cbv
          refine hcall1 _ _ _ _ _ (CallEv.lend [0, 1] hcrash rfl (.cons (.own 0 0 0 rfl) (.cons (.p _) (.cons (.p _) .nil))) (tpL rfl rfl rfl rfl) ?_)
          rintro _ _ ⟨n1, su1, ro1, af1, d1, xs1, ht1, rfl⟩
          have hopn := bkOpen_spec ht1
          rw [hb1] at hopn
          cbv
          refine hcall1 _ _ _ _ _ (CallEv.lend [0, 1] hopn rfl (.cons (.own 0 0 0 rfl) .nil) (tpL rfl rfl rfl rfl) ?_)
          rintro _ _ (⟨n2, su2, ro2, af2, d2, xs2, m2, dn2, rs2, h0, hb, rfl, rfl⟩ | ⟨e, n, su, ro, af, d, xs, h0, _⟩)
          rotate_left
          · exact absurd rfl h0
          replace hb : IsBk b' n2 su2 ro2 af2 d2 xs2 m2 dn2 rs2 := hb
          have hrec := bkRecords_spec hb (fun r hr => by have := hb2.fit r hr; omega) (by have := hb2.m1; rw [hb.2.1]; simp only at this; omega)
          have hsm := rbSame_spec b'.rs p.now (by have := hb2.m1; simp only at this; omega) rs2 nz hb.2.2.2 k5
          have hrl : rs2.length = b'.rs.length := by rw [hb.2.2.2, rcP_length]
          have hnl : nz.length = p.now.length := by rw [k5, rcP_length]
          have hcl : cz.length = p.cut.length := by rw [k6, rcP_length]
          obtain ⟨kr, hkr⟩ : ∃ k, k = b'.rs.length := ⟨_, rfl⟩
          obtain ⟨kn, hkn⟩ : ∃ k, k = p.now.length := ⟨_, rfl⟩
          obtain ⟨kc, hkc⟩ : ∃ k, k = p.cut.length := ⟨_, rfl⟩
          have hkcz : kc = cz.length := by omega
          have e1 : len1 rs2 = Int.ofNat kr := by rw [hL1.len, hrl, hkr]; rfl
          have e2 : len1 nz = Int.ofNat kn := by rw [hL1.len, hnl, hkn]; rfl
          have e3 : len1 cz = Int.ofNat kc := by rw [hL1.len, hcl, hkc]; rfl
          cbv
          repeat (first | (refine vcIf.yes ?_ ?_; (focus (simp [hA1.not, hA1.eq, hA1.lt, hA1.le, hA1.cond, hA1.beq, hA1.orb, hL1.len, hL1.slen, hL1.sq]; done)); cbv) | (refine vcIf.no ?_ ?_; (focus (simp [hA1.not, hA1.eq, hA1.lt, hA1.le, hA1.cond, hA1.beq, hA1.orb, hL1.len, hL1.slen, hL1.sq]; done)); cbv) | fail)
          refine hcall1 _ _ _ _ _ (CallEv.lend [0, 1, 5, 6] hrec rfl (.cons (.own 2 5 0 rfl) .nil) (bkL rfl rfl rfl rfl rfl rfl rfl) ?_)
          rintro _ _ ⟨rfl, rfl⟩
          cbv
          refine hcall1 _ _ _ _ _ (CallEv.same hsm rfl ?_)
          rintro _ _ ⟨c, hc, rfl, rfl⟩
          cbv
          by_cases hsame : b'.rs = p.now
          · obtain rfl : c = true := by rw [hc]; exact decide_eq_true hsame
            cbv
            repeat (first | (refine vcIf.yes ?_ ?_; (focus (simp [hA1.not, hA1.eq, hA1.lt, hA1.le, hA1.cond, hA1.beq, hA1.orb, hL1.len, hL1.slen, hL1.sq]; done)); cbv) | (refine vcIf.no ?_ ?_; (focus (simp [hA1.not, hA1.eq, hA1.lt, hA1.le, hA1.cond, hA1.beq, hA1.orb, hL1.len, hL1.slen, hL1.sq]; done)); cbv) | fail)
            refine hnx1 _ (OutX.wC (ConvW.pack [0, 1, 5, 6] hB rfl) ⟨⟨i, ⟨b', b'.rs, b'.rs, false⟩, n2, su2, ro2, af2, d2, xs2, m2, dn2, rs2, rs2, rs2, false⟩, [], ⟨rfl, k1, k2, hb, hb2.mono (by omega), hb.2.2.2, hb.2.2.2, rfl⟩, rfl, (by repeat (first | exact trivial | refine And.intro rfl ?_)), rfl, rfl, rfl, ?_⟩)
            rw [hB]; exact Nat.zero_le _
          · obtain rfl : c = false := by rw [hc]; exact decide_eq_false hsame
            rcases hb3 with c | ⟨c1, c2, c3, c4⟩
            · exact absurd c hsame
            obtain ⟨cu, hcu⟩ : ∃ cu, cu = cz.take kr := ⟨_, rfl⟩
            have hsm2 := rbSame_spec b'.rs (p.cut.take b'.rs.length) (by have := hb2.m1; simp only at this; omega) rs2 cu hb.2.2.2 (by rw [hcu, k6, rcP_take, hkr])
            cbv
            have hkc2 : kr ≤ kc := by omega
            have hkn2 : kn ≤ kr := by omega
            obtain rfl : dd = true := k7.trans c1
            cbv
            repeat (first | (refine vcIf.yes ?_ ?_; (focus (simp [hA1.not, hA1.eq, hA1.lt, hA1.le, hA1.cond, hA1.beq, hA1.orb, hL1.len, hL1.slen, hL1.sq]; done)); cbv) | (refine vcIf.no ?_ ?_; (focus (simp [hA1.not, hA1.eq, hA1.lt, hA1.le, hA1.cond, hA1.beq, hA1.orb, hL1.len, hL1.slen, hL1.sq]; done)); cbv) | fail)
            rw [e1, e3]
            refine vcIf.yes (by first | (simp [hA1.not, hA1.eq, hA1.lt, hA1.le, hA1.cond, hA1.beq, hA1.orb, hL1.len, hL1.slen, hL1.sq, hkc2]; done) | (simp only [hkc2]; simp [hA1.not, hA1.eq, hA1.lt, hA1.le, hA1.cond, hA1.beq, hA1.orb, hL1.len, hL1.slen, hL1.sq, hkc2]; done) | (simp [hA1.not, hA1.eq, hA1.lt, hA1.le, hA1.cond, hA1.beq, hA1.orb, hL1.len, hL1.slen, hL1.sq, hkc2]; omega) | (simp only [hkc2]; simp [hA1.not, hA1.eq, hA1.lt, hA1.le, hA1.cond, hA1.beq, hA1.orb, hL1.len, hL1.slen, hL1.sq, hkc2]; omega)) ?_
            cbv
            refine ⟨0, kr, kc, rfl, e1, hkcz, Nat.zero_le _, hkc2, Nat.le_of_eq hkcz, fun y hy => ?_, ?_⟩
            · rw [k6] at hy; exact (rcP_wf _ y hy).1
            intro us hus
            obtain rfl : us = cu := by rw [hus, hcu]; simp
            cbv
            refine hcall1 _ _ _ _ _ (CallEv.same hsm2 rfl ?_)
            rintro _ _ ⟨c, hc, rfl, rfl⟩
            obtain rfl : c = true := by rw [hc]; exact decide_eq_true c3
            cbv
            refine vcIf.yes (by first | (simp [hA1.not, hA1.eq, hA1.lt, hA1.le, hA1.cond, hA1.beq, hA1.orb, hL1.len, hL1.slen, hL1.sq]; done) | (simp [hA1.not, hA1.eq, hA1.lt, hA1.le, hA1.cond, hA1.beq, hA1.orb, hL1.len, hL1.slen, hL1.sq]; omega)) ?_
            cbv
            rw [e1, e2]
            refine vcIf.yes (by first | (simp [hA1.not, hA1.eq, hA1.lt, hA1.le, hA1.cond, hA1.beq, hA1.orb, hL1.len, hL1.slen, hL1.sq, hkn2]; done) | (simp only [hkn2]; simp [hA1.not, hA1.eq, hA1.lt, hA1.le, hA1.cond, hA1.beq, hA1.orb, hL1.len, hL1.slen, hL1.sq, hkn2]; done) | (simp [hA1.not, hA1.eq, hA1.lt, hA1.le, hA1.cond, hA1.beq, hA1.orb, hL1.len, hL1.slen, hL1.sq, hkn2]; omega) | (simp only [hkn2]; simp [hA1.not, hA1.eq, hA1.lt, hA1.le, hA1.cond, hA1.beq, hA1.orb, hL1.len, hL1.slen, hL1.sq, hkn2]; omega)) ?_
            cbv
            repeat (first | (refine vcIf.yes ?_ ?_; (focus (simp [hA1.not, hA1.eq, hA1.lt, hA1.le, hA1.cond, hA1.beq, hA1.orb, hL1.len, hL1.slen, hL1.sq]; done)); cbv) | (refine vcIf.no ?_ ?_; (focus (simp [hA1.not, hA1.eq, hA1.lt, hA1.le, hA1.cond, hA1.beq, hA1.orb, hL1.len, hL1.slen, hL1.sq]; done)); cbv) | fail)
            refine hnx1 _ (OutX.wC (ConvW.pack [0, 1, 5, 6] hB rfl) ⟨⟨i, ⟨b', b'.rs, b'.rs, false⟩, n2, su2, ro2, af2, d2, xs2, m2, dn2, rs2, rs2, rs2, false⟩, [], ⟨rfl, k1, k2, hb, hb2.mono (by omega), hb.2.2.2, hb.2.2.2, rfl⟩, rfl, (by repeat (first | exact trivial | refine And.intro rfl ?_)), rfl, rfl, rfl, ?_⟩)
            rw [hB]; exact Nat.zero_le _
    · rintro ⟨i', p, n, su, ro, af, d, xs, m, dn, rs, nz, cz, dd⟩ ⟨rfl, k1, k2, k3, k4, k5, k6, k7⟩
      simp only at k1 k2 k3 k4 k5 k6 k7 hi hi60
      refine VcPiece.ok eOk fOk ?_
      intro add1 sub1 mul1 quo1 rem1 band1 bor1 bxor1 bclr1 shl1 shr1 ieq1 ilt1 ile1 seq1 slt1 beq1 bnot1 orb1 bcond1 iwrap1 iof1 ssz1 hA1 cat1 sq1 sl1 imin1 imax1 smin1 smax1 len1 slen1 u81 hL1 op1 hop1 call1 hcall1 code1 hcode1 nx1 hnx1 ret1 hret1 ex1 hex1
      have hadd1 : add1 .i64 (Int.ofNat i') 1 = Int.ofNat (i' + 1) := by rw [hA1.add, IntWalk.i64_in _ (by simp only [Int.ofNat_eq_natCast]; omega)]; rfl
      cbv
      rw [hadd1]
      refine hnx1 _ (OutX.w ⟨⟨i' + 1, p, n, su, ro, af, d, xs, m, dn, rs, nz, cz, dd⟩, [], ⟨?_, ?_, ?_, k3, ?_, k5, k6, k7⟩, rfl, (by repeat (first | exact trivial | refine And.intro rfl ?_)), rfl, rfl, rfl, ?_⟩)
      · simp only; omega
      · simp only; omega
      · simp only; omega
      · simp only; exact k4.mono (by omega)
      · rw [hB]; exact Nat.zero_le _
  · exact fun st h => h.elim
  · rintro id st' ⟨rfl, hn⟩
    obtain ⟨n', f', o'⟩ := st'
    obtain rfl : n' = 191 := hn
    cbv
    exact hret _ (RetEv.ret eOk rfl rfl)

theorem has_BA {K : Nat} (hK : K + 4 ≤ 140737488355328) {z : PV} (h : Sh.Has K (.st [.int .i64, .int .i64, .sl 24 (.sl 1 (.int .u8)), .int .u8]) z) : ∃ a : BA, z = a.v ∧ a.ok := by
  obtain ⟨cs, rfl, h0⟩ := has_st h
  obtain ⟨y0, c0, k0, e0, h1⟩ := has_cons h0
  obtain ⟨y1, c1, k1, e1, h2⟩ := has_cons h1
  obtain ⟨y2, c2, k2, e2, h3⟩ := has_cons h2
  obtain ⟨y3, c3, k3, e3, h4⟩ := has_cons h3
  obtain rfl := has_nil h4
  subst e3 e2 e1 e0
  obtain ⟨w, rfl, _, _⟩ := has_int k0
  obtain ⟨n, rfl, n1, n2⟩ := has_int k1
  obtain ⟨l, rfl, hl, hl2⟩ := has_sl (f := fun r => PV.sl (bP r)) (ok := fun b => b.length + 4 ≤ 140737488355328) k2 (fun z hz => by obtain ⟨l, h1, h2⟩ := has_bytes hz; exact ⟨l, h1, by omega⟩)
  obtain ⟨x, rfl, hx⟩ := has_u8 k3
  refine ⟨⟨w, n, l, UInt8.ofNat x⟩, ?_, ⟨n1, n2⟩, hl2, by simp only; omega⟩
  show PV.agg _ = PV.agg [.int .i64 w, .int .i64 n, .sl (rcP l), .int .u8 ((UInt8.ofNat x).toNat : Int)]
  rw [ofNat_toNat (by omega)]; rfl
end Go.Proofs.Ytgblimlnkefllaa
