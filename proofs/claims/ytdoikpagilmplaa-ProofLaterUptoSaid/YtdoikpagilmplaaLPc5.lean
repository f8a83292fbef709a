/- The first committed deed that read something that was changed meanwhile. Conditions: on sizes. -/
import Derived.Test.YtdoikpagilmplaaLPc4
import Derived.Test.YtdoikpagilmplaaLPs2
set_option maxRecDepth 100000
set_option maxHeartbeats 16000000
set_option linter.unusedSimpArgs false
set_option linter.unusedVariables false
namespace Go.Proofs.Ytdoikpagilmplaa
open Go Go.Lx
open Go.Sx (vcIf)

/-- What a deed saw is touched by a batch. -/
def cSn (d : Dd) (b : Bt) (n : Nat) : Prop := ∃ s, d.seen[n]? = some s ∧ touch s.lo s.hi b.ch
def cBt (l : List Bt) (d : Dd) (k : Nat) : Prop := ∃ b, l[k]? = some b ∧ d.r < b.ver ∧ b.ver < d.w ∧ ∃ n, cSn d b n
def cbad (l : List Bt) (ds : List Dd) (i : Nat) : Prop := ∃ d, ds[i]? = some d ∧ (d.o = 1 ∧ 0 < d.ch.length) ∧ ∃ k, cBt l d k
theorem cbad_iff {l : List Bt} {ds : List Dd} {i : Nat} {d : Dd} (h : ds[i]? = some d) : cbad l ds i ↔ ((d.o = 1 ∧ 0 < d.ch.length) ∧ ∃ k, cBt l d k) := by
  unfold cbad
  rw [h]
  exact ⟨fun ⟨d', h1, h2⟩ => by cases h1; exact h2, fun h => ⟨d, rfl, h⟩⟩
theorem cBt_iff {l : List Bt} {d : Dd} {k : Nat} {b : Bt} (h : l[k]? = some b) : cBt l d k ↔ (d.r < b.ver ∧ b.ver < d.w ∧ ∃ n, cSn d b n) := by
  unfold cBt
  rw [h]
  exact ⟨fun ⟨d', h1, h2⟩ => by cases h1; exact h2, fun h => ⟨b, rfl, h⟩⟩
theorem snP_at {l : List Sn} {i : Nat} {z : PV} (h : (snP l)[i]? = some z) : ∃ d : Sn, l[i]? = some d ∧ z = .agg [.str d.lo, .str d.hi, .int .i64 d.aft, .sl (prP d.ps)] := by
  unfold snP at h; rw [List.getElem?_map] at h
  cases hp : l[i]? with
  | none => rw [hp] at h; cases h
  | some a => rw [hp] at h; cases h; exact ⟨a, rfl, rfl⟩
theorem touB_ex (b : Bt) : ∃ p : Sn → Bool, ∀ s : Sn, p s = true ↔ touch s.lo s.hi b.ch := Classical.skolem.1 fun s : Sn => bool_of (touch s.lo s.hi b.ch)

theorem clear22_spec (l : List Bt) (hl : l.length < 281474976710656) (hf : ∀ b ∈ l, b.fit) (hcl : ∀ b ∈ l, b.ch.length < 281474976710656) (ds : List Dd) (hdl : ds.length < 281474976710656) (hdf : ∀ d ∈ ds, d.fit) (zs ys : List PV) (hzs : zs = btP l) (hys : ys = ddP ds) :
    FnL Try.prog 22 [.p (.sl zs), .p (.sl ys)] [] fun v own => ∃ n e : Int, ((lsnd l ∧ e = 0 ∧ isFst (cbad l ds) ds.length n) ∨ (¬ lsnd l ∧ e = 2 ∧ n = 0)) ∧ v = .p (.tup [.int .i64 n, .int .i64 e]) ∧ own = [] := by
  refine FnL.flat (R := fun v own => ∃ n e : Int, ((lsnd l ∧ e = 0 ∧ isFst (cbad l ds) ds.length n) ∨ (¬ lsnd l ∧ e = 2 ∧ n = 0)) ∧ v = .p (.tup [.int .i64 n, .int .i64 e])) ?_ (by rintro _ _ ⟨n, e, h, rfl⟩; exact ⟨_, _, rfl, .refl _, n, e, h, rfl, rfl⟩)
  have hck := check22_spec l hl hf zs hzs
  have hix : ∀ d ∈ ds, ∀ b ∈ l, ∀ R : Bool, (R = true ↔ ∃ n, cSn d b n) → FnL Try.prog 39 [.p (.sl (snP d.seen)), .fn 40 [.imm 4 (.agg [.int .i64 b.prev, .int .i64 b.ver, .int .i64 b.known, .sl (cP b.ch)]) 0]] [] fun v own => v = .p (.bool R) ∧ own = [] := fun d hd b hb R hR => by
    obtain ⟨p, hp⟩ := touB_ex b
    exact snSHas (snP d.seen) d.seen.length (snP_length _) (by have := (hdf d hd).1; omega) (fun i z h => by obtain ⟨c, _, rfl⟩ := snP_at h; exact ⟨rfl, rfl⟩) 40 (.int .i64 b.prev) (.int .i64 b.ver) (.int .i64 b.known) (.sl (cP b.ch)) (fun i => match d.seen[i]? with | some s => p s | none => false) (fun i z h => by
      obtain ⟨s, hs, rfl⟩ := snP_at h
      rw [hs]; exact clear1_spec s.lo s.hi s.aft _ _ _ _ b.ch (hf b hb).1 (hcl b hb) _ rfl (p s) (hp s)) R (by
        rw [hR]
        constructor
        · rintro ⟨j, s, h1, h2⟩
          exact ⟨j, (List.getElem?_eq_some_iff.1 h1).1, by rw [h1]; exact (hp s).2 h2⟩
        · rintro ⟨j, h1, h2⟩
          obtain ⟨s, hs⟩ := get_of_lt h1
          rw [hs] at h2
          exact ⟨j, s, hs, (hp s).1 h2⟩)
  obtain ⟨L, hL0⟩ : ∃ L, L = l.length := ⟨_, rfl⟩
  have hzl : zs.length = L := by rw [hzs, btP_length, hL0]
  obtain ⟨N, hN⟩ : ∃ N, N = ds.length := ⟨_, rfl⟩
  have hyl : ys.length = N := by rw [hys, ddP_length, hN]
  rw [← hN] at hdl ⊢
  rw [← hL0] at hl
  refine fn_of_vc eOk fOk fo22 Try.func22 rfl rfl rfl fun B hB => ?_
  intro add sub mul quo rem band bor bxor bclr shl shr ieq ilt ile seq slt beq bnot orb bcond iwrap iof ssz hA cat sq sl imin imax smin smax len slen u8 hL op hop call hcall code hcode ret hret
  have hlen : len ys = Int.ofNat N := by rw [hL.len, hyl]; rfl
  cbv
  refine hcall _ _ _ _ _ (CallEv.same hck rfl ?_)
  rintro _ _ ⟨e, he, rfl, rfl⟩
  cbv
  by_cases h0 : e = 0
  · have hs : lsnd l := by rcases he with c | c; exact c.2; omega
    refine vcIf.no (by first | (simp [hA.not, hA.eq, hA.lt, hA.le, hA.cond, hA.beq, hA.orb, hL.len, hL.slen, hL.sq, h0]; done) | (simp only [h0]; simp [hA.not, hA.eq, hA.lt, hA.le, hA.cond, hA.beq, hA.orb, hL.len, hL.slen, hL.sq, h0]; done) | (simp [hA.not, hA.eq, hA.lt, hA.le, hA.cond, hA.beq, hA.orb, hL.len, hL.slen, hL.sq, h0]; omega) | (simp only [h0]; simp [hA.not, hA.eq, hA.lt, hA.le, hA.cond, hA.beq, hA.orb, hL.len, hL.slen, hL.sq, h0]; omega)) ?_
    cbv
    rw [hlen]
    refine hcode _ _ _ (CodeEv.loop eOk fOk (ι := Nat) (fun s => [(0, .p (.sl zs)), (16, .p (.sl ys)), (17, .p (.int .i64 (Int.ofNat N))), (18, .p (.int .i64 (Int.ofNat s)))])
      (fun s => []) (fun s => s ≤ N ∧ ∀ j, j < s → ¬ cbad l ds j) (fun s => N - s) 0 ?_ ?_)
    · exact ⟨(by repeat (first | exact trivial | refine And.intro rfl ?_)), rfl, Nat.zero_le _, fun j h => absurd h (Nat.not_lt_zero j)⟩
    rintro i ⟨k1, k2⟩ rd hrd
    by_cases hi : i < N
    · refine Exists.elim (get_of_lt (show i < ds.length by omega)) fun d hd => ?_
      have hdm := List.mem_of_getElem? hd
      have hrb := cbad_iff (l := l) hd
      have hzi : ys[i]? = some (.agg [.int .i64 d.g, .int .i64 d.b, .int .i64 d.e, .int .i64 d.r, .int .i64 d.o, .int .i64 d.w, .sl (snP d.seen), .sl (cP d.ch)]) := by rw [hys]; exact ddP_get hd
      refine Exists.elim (bool_of (d.o = 1 ∧ 0 < d.ch.length)) fun Dn hDn => ?_
      have hdn := pdone_spec d.g d.b d.e d.r d.o d.w (snP d.seen) (cP d.ch) d.ch.length (cP_length _) Dn hDn
      have hskip : Dn ≠ true → ¬ cbad l ds i := fun h c => h (hDn.2 (hrb.1 c).1)
      refine Exists.elim (show ∃ CB : Nat → Prop, CB = cBt l d from ⟨_, rfl⟩) fun CB hCB => ?_
      have hend : (∀ k, k < L → ¬ CB k) → ¬ cbad l ds i := fun h c => by
        obtain ⟨_, k, hk⟩ := hrb.1 c
        have hk' := hk
        obtain ⟨b, hb, _⟩ := hk'
        exact h k (by rw [hL0]; exact (List.getElem?_eq_some_iff.1 hb).1) (by rw [hCB]; exact hk)
      have hyes : Dn = true → ∀ k, CB k → cbad l ds i := fun h k hk => hrb.2 ⟨hDn.1 h, k, by rw [hCB] at hk; exact hk⟩
      have hkx : ∀ k, k < L → ∃ b : Bt, b ∈ l ∧ zs[k]? = some (.agg [.int .i64 b.prev, .int .i64 b.ver, .int .i64 b.known, .sl (cP b.ch)]) ∧ (CB k ↔ (d.r < b.ver ∧ b.ver < d.w ∧ ∃ n, cSn d b n)) := fun k hk => by
        obtain ⟨b, hb⟩ := get_of_lt (show k < l.length by omega)
        exact ⟨b, List.mem_of_getElem? hb, by rw [hzs]; exact btP_get hb, by rw [hCB]; exact cBt_iff hb⟩
      have hix := hix d hdm
      clear hrb hDn hdm hd hCB
      refine Exists.elim (show ∃ ss, ss = snP d.seen from ⟨_, rfl⟩) fun ss hss => ?_
      refine Exists.elim (show ∃ cs, cs = cP d.ch from ⟨_, rfl⟩) fun cs hcs => ?_
      rw [← hss, ← hcs] at hzi hdn
      simp only [← hss] at hix
      clear hss hcs
      refine Exists.elim (show ∃ SN : Bt → Prop, SN = fun b => ∃ n, cSn d b n from ⟨_, rfl⟩) fun SN hSN => ?_
      have hkx : ∀ k, k < L → ∃ b : Bt, b ∈ l ∧ zs[k]? = some (.agg [.int .i64 b.prev, .int .i64 b.ver, .int .i64 b.known, .sl (cP b.ch)]) ∧ (CB k ↔ (d.r < b.ver ∧ b.ver < d.w ∧ SN b)) := by rw [hSN]; exact hkx
      have hixS := fun (b : Bt) (hb : b ∈ l) (R : Bool) (hR : R = true ↔ SN b) => hix b hb R (by rw [hSN] at hR; exact hR)
      clear hSN
      obtain ⟨dg, db, de, dr, do_, dw, dseen, dch⟩ := d
      simp only at hzi hdn hkx
      intro add1 sub1 mul1 quo1 rem1 band1 bor1 bxor1 bclr1 shl1 shr1 ieq1 ilt1 ile1 seq1 slt1 beq1 bnot1 orb1 bcond1 iwrap1 iof1 ssz1 hA1 cat1 sq1 sl1 imin1 imax1 smin1 smax1 len1 slen1 u81 hL1 op1 hop1 call1 hcall1 code1 hcode1
      have hadd1 : add1 .i64 (Int.ofNat i) 1 = Int.ofNat (i + 1) := by rw [hA1.add, IntWalk.i64_in _ (by simp only [Int.ofNat_eq_natCast]; omega)]; rfl
      have e1 : len1 zs = Int.ofNat L := by rw [hL1.len, hzl]; rfl
      cbv
      refine vcIf.yes (by first | (simp [hA1.not, hA1.eq, hA1.lt, hA1.le, hA1.cond, hA1.beq, hA1.orb, hL1.len, hL1.slen, hL1.sq, hi]; done) | (simp only [hi]; simp [hA1.not, hA1.eq, hA1.lt, hA1.le, hA1.cond, hA1.beq, hA1.orb, hL1.len, hL1.slen, hL1.sq, hi]; done) | (simp [hA1.not, hA1.eq, hA1.lt, hA1.le, hA1.cond, hA1.beq, hA1.orb, hL1.len, hL1.slen, hL1.sq, hi]; omega) | (simp only [hi]; simp [hA1.not, hA1.eq, hA1.lt, hA1.le, hA1.cond, hA1.beq, hA1.orb, hL1.len, hL1.slen, hL1.sq, hi]; omega)) ?_
      cbv
      refine ⟨i, _, rfl, hzi, rfl, ?_⟩
      cbv
      refine hcall1 _ _ _ _ _ (CallEv.same hdn rfl ?_)
      rintro _ _ ⟨rfl, rfl⟩
      cbv
      by_cases hD : Dn = true
      · have hyes := hyes hD
        refine vcIf.no (by rw [hA1.not, hD]; rfl) ?_
        cbv
        rw [e1]
        refine hcode1 _ _ _ (CodeEv.loop eOk fOk (ι := Nat) (fun s => [(0, .p (.sl zs)), (16, .p (.sl ys)), (17, .p (.int .i64 (Int.ofNat N))), (18, .p (.int .i64 (Int.ofNat i))), (7, .p (.int .i64 (Int.ofNat i))), (8, .own 0 0), (26, .p (.sl zs)), (27, .p (.int .i64 (Int.ofNat L))), (0, .p (.sl zs)), (28, .p (.int .i64 (Int.ofNat s)))])
          (fun s => [.st 46 [.p (.int .i64 dg), .p (.int .i64 db), .p (.int .i64 de), .p (.int .i64 dr), .p (.int .i64 do_), .p (.int .i64 dw), .p (.sl ss), .p (.sl cs)]]) (fun s => s ≤ L ∧ ∀ j, j < s → ¬ CB j) (fun s => L - s) 0 ?_ ?_)
        · exact ⟨(by repeat (first | exact trivial | refine And.intro rfl ?_)), rfl, Nat.zero_le _, fun j h => absurd h (Nat.not_lt_zero j)⟩
        rintro k ⟨m1, m2⟩ rd2 hrd2
        by_cases hk : k < L
        · refine Exists.elim (hkx k hk) fun b hb => ?_
          refine Exists.elim (bool_of (SN b)) fun R hR => ?_
          have hix := hixS b hb.1 R hR
          have hzk := hb.2.1
          have hcb := hb.2.2
          rw [← hR] at hcb
          clear hb hR
          obtain ⟨bp, bv, bk, bc⟩ := b
          simp only at hzk hcb hix
          refine Exists.elim (show ∃ bs, bs = cP bc from ⟨_, rfl⟩) fun bs hbs => ?_
          rw [← hbs] at hzk hix
          clear hbs
          have hn : ¬ (dr < bv ∧ bv < dw ∧ R = true) → ∀ j, j < k + 1 → ¬ CB j := fun h => not_next m2 fun c => h (hcb.1 c)
          have hy : (dr < bv ∧ bv < dw ∧ R = true) → cbad l ds i := fun h => hyes k (hcb.2 h)
          clear hcb
          intro add2 sub2 mul2 quo2 rem2 band2 bor2 bxor2 bclr2 shl2 shr2 ieq2 ilt2 ile2 seq2 slt2 beq2 bnot2 orb2 bcond2 iwrap2 iof2 ssz2 hA2 cat2 sq2 sl2 imin2 imax2 smin2 smax2 len2 slen2 u82 hL2 op2 hop2 call2 hcall2 code2 hcode2
          have hadd2 : add2 .i64 (Int.ofNat k) 1 = Int.ofNat (k + 1) := by rw [hA2.add, IntWalk.i64_in _ (by simp only [Int.ofNat_eq_natCast]; omega)]; rfl
          cbv
          refine vcIf.yes (by first | (simp [hA2.not, hA2.eq, hA2.lt, hA2.le, hA2.cond, hA2.beq, hA2.orb, hL2.len, hL2.slen, hL2.sq, hk]; done) | (simp only [hk]; simp [hA2.not, hA2.eq, hA2.lt, hA2.le, hA2.cond, hA2.beq, hA2.orb, hL2.len, hL2.slen, hL2.sq, hk]; done) | (simp [hA2.not, hA2.eq, hA2.lt, hA2.le, hA2.cond, hA2.beq, hA2.orb, hL2.len, hL2.slen, hL2.sq, hk]; omega) | (simp only [hk]; simp [hA2.not, hA2.eq, hA2.lt, hA2.le, hA2.cond, hA2.beq, hA2.orb, hL2.len, hL2.slen, hL2.sq, hk]; omega)) ?_
          cbv
          refine ⟨k, _, rfl, hzk, rfl, ?_⟩
          cbv
          by_cases h1 : bv ≤ dr
          · have hnx := hn fun c => by have := c.1; omega
            refine vcIf.yes (by first | (simp [hA2.not, hA2.eq, hA2.lt, hA2.le, hA2.cond, hA2.beq, hA2.orb, hL2.len, hL2.slen, hL2.sq, h1]; done) | (simp only [h1]; simp [hA2.not, hA2.eq, hA2.lt, hA2.le, hA2.cond, hA2.beq, hA2.orb, hL2.len, hL2.slen, hL2.sq, h1]; done) | (simp [hA2.not, hA2.eq, hA2.lt, hA2.le, hA2.cond, hA2.beq, hA2.orb, hL2.len, hL2.slen, hL2.sq, h1]; omega) | (simp only [h1]; simp [hA2.not, hA2.eq, hA2.lt, hA2.le, hA2.cond, hA2.beq, hA2.orb, hL2.len, hL2.slen, hL2.sq, h1]; omega)) ?_
            cbv
            refine hrd2 _ ⟨k + 1, _, ?_, ⟨hk, hnx⟩, rfl, ⟨rfl, rfl, rfl, rfl, rfl, rfl, rfl, rfl, rfl, ?_, trivial⟩, rfl, rfl, rfl, ?_⟩
            · show L - (k + 1) < L - k
              omega
            · show some (V.p (.int .i64 _)) = _
              rw [hadd2]
            · rw [hB]; exact Nat.zero_le _
          refine vcIf.no (by first | (simp [hA2.not, hA2.eq, hA2.lt, hA2.le, hA2.cond, hA2.beq, hA2.orb, hL2.len, hL2.slen, hL2.sq, h1]; done) | (simp only [h1]; simp [hA2.not, hA2.eq, hA2.lt, hA2.le, hA2.cond, hA2.beq, hA2.orb, hL2.len, hL2.slen, hL2.sq, h1]; done) | (simp [hA2.not, hA2.eq, hA2.lt, hA2.le, hA2.cond, hA2.beq, hA2.orb, hL2.len, hL2.slen, hL2.sq, h1]; omega) | (simp only [h1]; simp [hA2.not, hA2.eq, hA2.lt, hA2.le, hA2.cond, hA2.beq, hA2.orb, hL2.len, hL2.slen, hL2.sq, h1]; omega)) ?_
          cbv
          by_cases h2 : dw ≤ bv
          · have hnx := hn fun c => by have := c.2.1; omega
            refine vcIf.yes (by first | (simp [hA2.not, hA2.eq, hA2.lt, hA2.le, hA2.cond, hA2.beq, hA2.orb, hL2.len, hL2.slen, hL2.sq, cond, h2]; done) | (simp only [cond, h2]; simp [hA2.not, hA2.eq, hA2.lt, hA2.le, hA2.cond, hA2.beq, hA2.orb, hL2.len, hL2.slen, hL2.sq, cond, h2]; done) | (simp [hA2.not, hA2.eq, hA2.lt, hA2.le, hA2.cond, hA2.beq, hA2.orb, hL2.len, hL2.slen, hL2.sq, cond, h2]; omega) | (simp only [cond, h2]; simp [hA2.not, hA2.eq, hA2.lt, hA2.le, hA2.cond, hA2.beq, hA2.orb, hL2.len, hL2.slen, hL2.sq, cond, h2]; omega)) ?_
            cbv
            refine hrd2 _ ⟨k + 1, _, ?_, ⟨hk, hnx⟩, rfl, ⟨rfl, rfl, rfl, rfl, rfl, rfl, rfl, rfl, rfl, ?_, trivial⟩, rfl, rfl, rfl, ?_⟩
            · show L - (k + 1) < L - k
              omega
            · show some (V.p (.int .i64 _)) = _
              rw [hadd2]
            · rw [hB]; exact Nat.zero_le _
          refine vcIf.no (by first | (simp [hA2.not, hA2.eq, hA2.lt, hA2.le, hA2.cond, hA2.beq, hA2.orb, hL2.len, hL2.slen, hL2.sq, cond, h2]; done) | (simp only [cond, h2]; simp [hA2.not, hA2.eq, hA2.lt, hA2.le, hA2.cond, hA2.beq, hA2.orb, hL2.len, hL2.slen, hL2.sq, cond, h2]; done) | (simp [hA2.not, hA2.eq, hA2.lt, hA2.le, hA2.cond, hA2.beq, hA2.orb, hL2.len, hL2.slen, hL2.sq, cond, h2]; omega) | (simp only [cond, h2]; simp [hA2.not, hA2.eq, hA2.lt, hA2.le, hA2.cond, hA2.beq, hA2.orb, hL2.len, hL2.slen, hL2.sq, cond, h2]; omega)) ?_
          cbv
          have hT : TrL [.st 46 [.p (.int .i64 dg), .p (.int .i64 db), .p (.int .i64 de), .p (.int .i64 dr), .p (.int .i64 do_), .p (.int .i64 dw), .p (.sl ss), .p (.sl cs)], .st 53 [.p (.int .i64 bp), .p (.int .i64 bv), .p (.int .i64 bk), .p (.sl bs)]] [] [1] [.own 1 0] [.imm 4 (.agg [.int .i64 bp, .int .i64 bv, .int .i64 bk, .sl bs]) 0] :=
            .cons (Tr.box (qs := [.int .i64 bp, .int .i64 bv, .int .i64 bk, .sl bs]) (by decide) rfl (by intro u hu; simp at hu; rcases hu with rfl | rfl | rfl | rfl <;> rfl)) .nil
          refine hcall2 _ _ _ _ _ (CallEv.shown [] [1] hix rfl (.cons (.p _) (.cons (.fn _ _ _ hT.1 hT.2) .nil)) trivial ?_)
          rintro _ _ ⟨rfl, rfl⟩
          refine ⟨.p _ (.bool _), (by intro r hr; cases hr), ?_⟩
          clear hT
          cbv
          by_cases hRt : R = true
          · have hfst := isFst.at hi (hy ⟨by omega, by omega, hRt⟩) k2
            refine vcIf.yes hRt ?_
            cbv
            exact hret _ (RetEv.ret eOk rfl ⟨_, 0, .inl ⟨hs, rfl, hfst⟩, rfl⟩)
          · have hnx := hn fun c => hRt c.2.2
            refine vcIf.no (Bool.eq_false_iff.2 hRt) ?_
            cbv
            refine hrd2 _ ⟨k + 1, _, ?_, ⟨hk, hnx⟩, rfl, ⟨rfl, rfl, rfl, rfl, rfl, rfl, rfl, rfl, rfl, ?_, trivial⟩, rfl, rfl, rfl, ?_⟩
            · show L - (k + 1) < L - k
              omega
            · show some (V.p (.int .i64 _)) = _
              rw [hadd2]
            · rw [hB]; exact Nat.zero_le _
        · have hnx := not_next k2 (hend fun j hj => m2 j (by omega))
          intro add2 sub2 mul2 quo2 rem2 band2 bor2 bxor2 bclr2 shl2 shr2 ieq2 ilt2 ile2 seq2 slt2 beq2 bnot2 orb2 bcond2 iwrap2 iof2 ssz2 hA2 cat2 sq2 sl2 imin2 imax2 smin2 smax2 len2 slen2 u82 hL2 op2 hop2 call2 hcall2 code2 hcode2
          cbv
          refine vcIf.no (by first | (simp [hA2.not, hA2.eq, hA2.lt, hA2.le, hA2.cond, hA2.beq, hA2.orb, hL2.len, hL2.slen, hL2.sq, hk]; done) | (simp only [hk]; simp [hA2.not, hA2.eq, hA2.lt, hA2.le, hA2.cond, hA2.beq, hA2.orb, hL2.len, hL2.slen, hL2.sq, hk]; done) | (simp [hA2.not, hA2.eq, hA2.lt, hA2.le, hA2.cond, hA2.beq, hA2.orb, hL2.len, hL2.slen, hL2.sq, hk]; omega) | (simp only [hk]; simp [hA2.not, hA2.eq, hA2.lt, hA2.le, hA2.cond, hA2.beq, hA2.orb, hL2.len, hL2.slen, hL2.sq, hk]; omega)) ?_
          cbv
          refine hrd _ ⟨i + 1, _, ?_, ⟨hi, hnx⟩, rfl, ⟨rfl, rfl, rfl, ?_, trivial⟩, rfl, rfl, rfl, ?_⟩
          · show N - (i + 1) < N - i
            omega
          · show some (V.p (.int .i64 _)) = _
            rw [hadd1]
          · rw [hB]; exact Nat.zero_le _
      · have hnx := not_next k2 (hskip hD)
        refine vcIf.yes (by rw [hA1.not, Bool.eq_false_iff.2 hD]; rfl) ?_
        cbv
        refine hrd _ ⟨i + 1, _, ?_, ⟨hi, hnx⟩, rfl, ⟨rfl, rfl, rfl, ?_, trivial⟩, rfl, rfl, rfl, ?_⟩
        · show N - (i + 1) < N - i
          omega
        · show some (V.p (.int .i64 _)) = _
          rw [hadd1]
        · rw [hB]; exact Nat.zero_le _
    · have hfst : isFst (cbad l ds) N (-1) := isFst.none fun j hj => k2 j (by omega)
      intro add1 sub1 mul1 quo1 rem1 band1 bor1 bxor1 bclr1 shl1 shr1 ieq1 ilt1 ile1 seq1 slt1 beq1 bnot1 orb1 bcond1 iwrap1 iof1 ssz1 hA1 cat1 sq1 sl1 imin1 imax1 smin1 smax1 len1 slen1 u81 hL1 op1 hop1 call1 hcall1 code1 hcode1
      cbv
      refine vcIf.no (by first | (simp [hA1.not, hA1.eq, hA1.lt, hA1.le, hA1.cond, hA1.beq, hA1.orb, hL1.len, hL1.slen, hL1.sq, hi]; done) | (simp only [hi]; simp [hA1.not, hA1.eq, hA1.lt, hA1.le, hA1.cond, hA1.beq, hA1.orb, hL1.len, hL1.slen, hL1.sq, hi]; done) | (simp [hA1.not, hA1.eq, hA1.lt, hA1.le, hA1.cond, hA1.beq, hA1.orb, hL1.len, hL1.slen, hL1.sq, hi]; omega) | (simp only [hi]; simp [hA1.not, hA1.eq, hA1.lt, hA1.le, hA1.cond, hA1.beq, hA1.orb, hL1.len, hL1.slen, hL1.sq, hi]; omega)) ?_
      cbv
      exact hret _ (RetEv.ret eOk rfl ⟨-1, 0, .inl ⟨hs, rfl, hfst⟩, rfl⟩)
  · have hs : ¬ lsnd l := by rcases he with c | c; exact absurd c.1 h0; exact c.2
    have h2 : e = 2 := by rcases he with c | c; exact absurd c.1 h0; exact c.1
    refine vcIf.yes (by first | (simp [hA.not, hA.eq, hA.lt, hA.le, hA.cond, hA.beq, hA.orb, hL.len, hL.slen, hL.sq, h0]; done) | (simp only [h0]; simp [hA.not, hA.eq, hA.lt, hA.le, hA.cond, hA.beq, hA.orb, hL.len, hL.slen, hL.sq, h0]; done) | (simp [hA.not, hA.eq, hA.lt, hA.le, hA.cond, hA.beq, hA.orb, hL.len, hL.slen, hL.sq, h0]; omega) | (simp only [h0]; simp [hA.not, hA.eq, hA.lt, hA.le, hA.cond, hA.beq, hA.orb, hL.len, hL.slen, hL.sq, h0]; omega)) ?_
    cbv
    exact hret _ (RetEv.ret eOk rfl ⟨0, e, .inr ⟨hs, h2, rfl⟩, rfl⟩)
end Go.Proofs.Ytdoikpagilmplaa
