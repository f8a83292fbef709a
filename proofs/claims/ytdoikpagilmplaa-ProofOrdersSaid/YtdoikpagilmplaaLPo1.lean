/- The first deed that does not know of an elder one. Conditions: on sizes. -/
import Derived.Test.YtdoikpagilmplaaLPc3
set_option maxRecDepth 100000
set_option maxHeartbeats 16000000
set_option linter.unusedSimpArgs false
set_option linter.unusedVariables false
namespace Go.Proofs.Ytdoikpagilmplaa
open Go Go.Lx
open Go.Sx (vcIf)

/-- A deed that had ended ahead of another, which does not know of it. -/
def eld (d x : Dd) : Prop := x.o = 1 ∧ 0 ≤ x.e ∧ x.e < d.b ∧ d.r < x.w
def ord (d : Dd) : Prop := ¬ (d.seen.length = 0 ∧ d.o ≠ 1)
def obad (ds : List Dd) (i : Nat) : Prop := ∃ d, ds[i]? = some d ∧ ord d ∧ ∃ (k : Nat) (x : Dd), ds[k]? = some x ∧ eld d x
def eldB (d x : Dd) : Bool := decide (x.o = 1 ∧ 0 ≤ x.e ∧ x.e < d.b ∧ d.r < x.w)
theorem eldB_iff (d x : Dd) : eldB d x = true ↔ eld d x := decide_eq_true_iff
theorem obad_iff {ds : List Dd} {i : Nat} {d : Dd} (h : ds[i]? = some d) : obad ds i ↔ (ord d ∧ ∃ (k : Nat) (x : Dd), ds[k]? = some x ∧ eld d x) := by
  unfold obad
  rw [h]
  exact ⟨fun ⟨d', h1, h2⟩ => by cases h1; exact h2, fun h => ⟨d, rfl, h⟩⟩
theorem ddP_at {l : List Dd} {i : Nat} {z : PV} (h : (ddP l)[i]? = some z) : ∃ d : Dd, l[i]? = some d ∧ z = .agg [.int .i64 d.g, .int .i64 d.b, .int .i64 d.e, .int .i64 d.r, .int .i64 d.o, .int .i64 d.w, .sl (snP d.seen), .sl (cP d.ch)] := by
  unfold ddP at h; rw [List.getElem?_map] at h
  cases hp : l[i]? with
  | none => rw [hp] at h; cases h
  | some a => rw [hp] at h; cases h; exact ⟨a, rfl, rfl⟩

theorem orders1_spec (xg xb xe xr xo xw : Int) (xs xc : List PV) (g b e r o w ss cs : PV) (db dr : Int) (hb : b = .int .i64 db) (hr : r = .int .i64 dr) (R : Bool) (hR : R = true ↔ (xo = 1 ∧ 0 ≤ xe ∧ xe < db ∧ dr < xw)) :
    FnL Try.prog 32 [.p (.agg [.int .i64 xg, .int .i64 xb, .int .i64 xe, .int .i64 xr, .int .i64 xo, .int .i64 xw, .sl xs, .sl xc]), .imm 8 (.agg [g, b, e, r, o, w, ss, cs]) 0] [] fun v own => ∃ x, x = R ∧ v = .p (.bool x) ∧ own = [] := by
  subst hb hr
  refine FnL.flat (R := fun v own => ∃ x, x = R ∧ v = .p (.bool x)) ?_ (by rintro _ _ ⟨x, h, rfl⟩; exact ⟨_, _, rfl, .refl _, x, h, rfl, rfl⟩)
  have hno : ¬ (xo = 1 ∧ 0 ≤ xe ∧ xe < db ∧ dr < xw) → false = R := fun h => (Bool.eq_false_iff.2 fun c => h (hR.1 c)).symm
  refine fn_of_vc eOk fOk fo32 Try.func32 rfl rfl rfl fun B hB => ?_
  intro add sub mul quo rem band bor bxor bclr shl shr ieq ilt ile seq slt beq bnot orb bcond iwrap iof ssz hA cat sq sl imin imax smin smax len slen u8 hL op hop call hcall code hcode ret hret
  cbv
  by_cases h1 : xo = 1
  · refine vcIf.yes (by first | (simp [hA.not, hA.eq, hA.lt, hA.le, hA.cond, hA.beq, hA.orb, hL.len, hL.slen, hL.sq, h1]; done) | (simp only [h1]; simp [hA.not, hA.eq, hA.lt, hA.le, hA.cond, hA.beq, hA.orb, hL.len, hL.slen, hL.sq, h1]; done) | (simp [hA.not, hA.eq, hA.lt, hA.le, hA.cond, hA.beq, hA.orb, hL.len, hL.slen, hL.sq, h1]; omega) | (simp only [h1]; simp [hA.not, hA.eq, hA.lt, hA.le, hA.cond, hA.beq, hA.orb, hL.len, hL.slen, hL.sq, h1]; omega)) ?_
    cbv
    by_cases h2 : 0 ≤ xe
    · refine vcIf.yes (by simp [hA.cond, cond, hA.le, h2]) ?_
      cbv
      by_cases h3 : xe < db
      · refine vcIf.yes (by simp [hA.cond, cond, hA.lt, h3]) ?_
        cbv
        refine hret _ (RetEv.ret eOk rfl ⟨_, ?_, rfl⟩)
        rw [Bool.eq_iff_iff, hR]
        simp [hA.cond, cond, hA.lt, h1, h2, h3]
      · have hf := hno fun c => h3 c.2.2.1
        refine vcIf.no (by simp [hA.cond, cond, hA.lt]; omega) ?_
        cbv
        exact hret _ (RetEv.ret eOk rfl ⟨_, hf, rfl⟩)
    · have hf := hno fun c => h2 c.2.1
      refine vcIf.no (by simp [hA.cond, cond, hA.le]; omega) ?_
      cbv
      exact hret _ (RetEv.ret eOk rfl ⟨_, hf, rfl⟩)
  · have hf := hno fun c => h1 c.1
    refine vcIf.no (by first | (simp [hA.not, hA.eq, hA.lt, hA.le, hA.cond, hA.beq, hA.orb, hL.len, hL.slen, hL.sq, h1]; done) | (simp only [h1]; simp [hA.not, hA.eq, hA.lt, hA.le, hA.cond, hA.beq, hA.orb, hL.len, hL.slen, hL.sq, h1]; done) | (simp [hA.not, hA.eq, hA.lt, hA.le, hA.cond, hA.beq, hA.orb, hL.len, hL.slen, hL.sq, h1]; omega) | (simp only [h1]; simp [hA.not, hA.eq, hA.lt, hA.le, hA.cond, hA.beq, hA.orb, hL.len, hL.slen, hL.sq, h1]; omega)) ?_
    cbv
    exact hret _ (RetEv.ret eOk rfl ⟨_, hf, rfl⟩)

theorem orders_spec (ds : List Dd) (hdl : ds.length < 281474976710656) (ys : List PV) (hys : ys = ddP ds) :
    FnL Try.prog 18 [.p (.sl ys)] [] fun v own => ∃ n : Int, isFst (obad ds) ds.length n ∧ v = .p (.int .i64 n) ∧ own = [] := by
  refine FnL.flat (R := fun v own => ∃ n : Int, isFst (obad ds) ds.length n ∧ v = .p (.int .i64 n)) ?_ (by rintro _ _ ⟨n, h, rfl⟩; exact ⟨_, _, rfl, .refl _, n, h, rfl, rfl⟩)
  have hix := fun (d : Dd) (R : Bool) (hR : R = true ↔ ∃ (k : Nat) (x : Dd), ds[k]? = some x ∧ eld d x) => by
    have hp := eldB_iff d
    exact ddSHas ys ds.length (by rw [hys, ddP_length]) (by omega) (fun i z h => by rw [hys] at h; obtain ⟨c, _, rfl⟩ := ddP_at h; exact ⟨rfl, rfl⟩) 32 (.int .i64 d.g) (.int .i64 d.b) (.int .i64 d.e) (.int .i64 d.r) (.int .i64 d.o) (.int .i64 d.w) (.sl (snP d.seen)) (.sl (cP d.ch)) (fun i => match ds[i]? with | some x => eldB d x | none => false) (fun i z h => by
      rw [hys] at h; obtain ⟨x, hx, rfl⟩ := ddP_at h
      rw [hx]; exact orders1_spec _ _ _ _ _ _ _ _ _ _ _ _ _ _ _ _ d.b d.r rfl rfl (eldB d x) (hp x)) R (by
        rw [hR]
        constructor
        · rintro ⟨j, c, h1, h2⟩
          exact ⟨j, (List.getElem?_eq_some_iff.1 h1).1, by rw [h1]; exact (hp c).2 h2⟩
        · rintro ⟨j, h1, h2⟩
          obtain ⟨c, hc⟩ := get_of_lt h1
          rw [hc] at h2
          exact ⟨j, c, hc, (hp c).1 h2⟩)
  obtain ⟨N, hN⟩ : ∃ N, N = ds.length := ⟨_, rfl⟩
  have hyl : ys.length = N := by rw [hys, ddP_length, hN]
  rw [← hN] at hdl ⊢
  refine fn_of_vc eOk fOk fo18 Try.func18 rfl rfl rfl fun B hB => ?_
  intro add sub mul quo rem band bor bxor bclr shl shr ieq ilt ile seq slt beq bnot orb bcond iwrap iof ssz hA cat sq sl imin imax smin smax len slen u8 hL op hop call hcall code hcode ret hret
  have hlen : len ys = Int.ofNat N := by rw [hL.len, hyl]; rfl
  cbv
  rw [hlen]
  refine hcode _ _ _ (CodeEv.loop eOk fOk (ι := Nat) (fun s => [(0, .p (.sl ys)), (5, .p (.sl ys)), (6, .p (.int .i64 (Int.ofNat N))), (7, .p (.int .i64 (Int.ofNat s)))])
    (fun s => []) (fun s => s ≤ N ∧ ∀ j, j < s → ¬ obad ds j) (fun s => N - s) 0 ?_ ?_)
  · exact ⟨(by repeat (first | exact trivial | refine And.intro rfl ?_)), rfl, Nat.zero_le _, fun j h => absurd h (Nat.not_lt_zero j)⟩
  rintro i ⟨k1, k2⟩ rd hrd
  by_cases hi : i < N
  · refine Exists.elim (get_of_lt (show i < ds.length by omega)) fun d hd => ?_
    have hrb := obad_iff hd
    have hzi : ys[i]? = some (.agg [.int .i64 d.g, .int .i64 d.b, .int .i64 d.e, .int .i64 d.r, .int .i64 d.o, .int .i64 d.w, .sl (snP d.seen), .sl (cP d.ch)]) := by rw [hys]; exact ddP_get hd
    refine Exists.elim (bool_of (∃ (k : Nat) (x : Dd), ds[k]? = some x ∧ eld d x)) fun R hR => ?_
    have hix := hix d R hR
    have hno : ¬ ord d → ¬ obad ds i := fun h c => h (hrb.1 c).1
    have hno2 : R ≠ true → ¬ obad ds i := fun h c => h (hR.2 (hrb.1 c).2)
    have hyes : ord d → R = true → obad ds i := fun h h2 => hrb.2 ⟨h, hR.1 h2⟩
    refine Exists.elim (show ∃ S, S = d.seen.length from ⟨_, rfl⟩) fun S hS => ?_
    refine Exists.elim (show ∃ ss, ss = snP d.seen from ⟨_, rfl⟩) fun ss hss => ?_
    refine Exists.elim (show ∃ cs, cs = cP d.ch from ⟨_, rfl⟩) fun cs hcs => ?_
    have hsl : ss.length = S := by rw [hss, snP_length, hS]
    have hord : ord d ↔ ¬ (S = 0 ∧ d.o ≠ 1) := by rw [hS]; exact Iff.rfl
    rw [← hss, ← hcs] at hzi hix
    rw [hord] at hno hyes
    clear hrb hR hd hss hcs hS hord
    obtain ⟨dg, db, de, dr, do_, dw, dseen, dch⟩ := d
    simp only at hzi hix hno hyes
    by_cases hS0 : S = 0 ∧ do_ ≠ 1
    · have hnx := not_next k2 (hno fun c => c hS0)
      have hS1 := hS0.1
      have hS2 := hS0.2
      intro add1 sub1 mul1 quo1 rem1 band1 bor1 bxor1 bclr1 shl1 shr1 ieq1 ilt1 ile1 seq1 slt1 beq1 bnot1 orb1 bcond1 iwrap1 iof1 ssz1 hA1 cat1 sq1 sl1 imin1 imax1 smin1 smax1 len1 slen1 u81 hL1 op1 hop1 call1 hcall1 code1 hcode1
      have hls : len1 ss = Int.ofNat S := by rw [hL1.len, hsl]; rfl
      have hadd1 : add1 .i64 (Int.ofNat i) 1 = Int.ofNat (i + 1) := by rw [hA1.add, IntWalk.i64_in _ (by simp only [Int.ofNat_eq_natCast]; omega)]; rfl
      cbv
      refine vcIf.yes (by first | (simp [hA1.not, hA1.eq, hA1.lt, hA1.le, hA1.cond, hA1.beq, hA1.orb, hL1.len, hL1.slen, hL1.sq, hi]; done) | (simp only [hi]; simp [hA1.not, hA1.eq, hA1.lt, hA1.le, hA1.cond, hA1.beq, hA1.orb, hL1.len, hL1.slen, hL1.sq, hi]; done) | (simp [hA1.not, hA1.eq, hA1.lt, hA1.le, hA1.cond, hA1.beq, hA1.orb, hL1.len, hL1.slen, hL1.sq, hi]; omega) | (simp only [hi]; simp [hA1.not, hA1.eq, hA1.lt, hA1.le, hA1.cond, hA1.beq, hA1.orb, hL1.len, hL1.slen, hL1.sq, hi]; omega)) ?_
      cbv
      refine ⟨i, _, rfl, hzi, rfl, ?_⟩
      cbv
      refine vcIf.yes (by first | (simp [hA1.not, hA1.eq, hA1.lt, hA1.le, hA1.cond, hA1.beq, hA1.orb, hL1.len, hL1.slen, hL1.sq, hls, hS1]; done) | (simp only [hls, hS1]; simp [hA1.not, hA1.eq, hA1.lt, hA1.le, hA1.cond, hA1.beq, hA1.orb, hL1.len, hL1.slen, hL1.sq, hls, hS1]; done) | (simp [hA1.not, hA1.eq, hA1.lt, hA1.le, hA1.cond, hA1.beq, hA1.orb, hL1.len, hL1.slen, hL1.sq, hls, hS1]; omega) | (simp only [hls, hS1]; simp [hA1.not, hA1.eq, hA1.lt, hA1.le, hA1.cond, hA1.beq, hA1.orb, hL1.len, hL1.slen, hL1.sq, hls, hS1]; omega)) ?_
      cbv
      refine vcIf.yes (by first | (simp [hA1.not, hA1.eq, hA1.lt, hA1.le, hA1.cond, hA1.beq, hA1.orb, hL1.len, hL1.slen, hL1.sq, cond, hS2]; done) | (simp only [cond, hS2]; simp [hA1.not, hA1.eq, hA1.lt, hA1.le, hA1.cond, hA1.beq, hA1.orb, hL1.len, hL1.slen, hL1.sq, cond, hS2]; done) | (simp [hA1.not, hA1.eq, hA1.lt, hA1.le, hA1.cond, hA1.beq, hA1.orb, hL1.len, hL1.slen, hL1.sq, cond, hS2]; omega) | (simp only [cond, hS2]; simp [hA1.not, hA1.eq, hA1.lt, hA1.le, hA1.cond, hA1.beq, hA1.orb, hL1.len, hL1.slen, hL1.sq, cond, hS2]; omega)) ?_
      cbv
      refine hrd _ ⟨i + 1, _, ?_, ⟨hi, hnx⟩, rfl, ⟨rfl, rfl, rfl, ?_, trivial⟩, rfl, rfl, rfl, ?_⟩
      · show N - (i + 1) < N - i
        omega
      · show some (V.p (.int .i64 _)) = _
        rw [hadd1]
      · rw [hB]; exact Nat.zero_le _
    · intro add1 sub1 mul1 quo1 rem1 band1 bor1 bxor1 bclr1 shl1 shr1 ieq1 ilt1 ile1 seq1 slt1 beq1 bnot1 orb1 bcond1 iwrap1 iof1 ssz1 hA1 cat1 sq1 sl1 imin1 imax1 smin1 smax1 len1 slen1 u81 hL1 op1 hop1 call1 hcall1 code1 hcode1
      have hls : len1 ss = Int.ofNat S := by rw [hL1.len, hsl]; rfl
      have hadd1 : add1 .i64 (Int.ofNat i) 1 = Int.ofNat (i + 1) := by rw [hA1.add, IntWalk.i64_in _ (by simp only [Int.ofNat_eq_natCast]; omega)]; rfl
      cbv
      refine vcIf.yes (by first | (simp [hA1.not, hA1.eq, hA1.lt, hA1.le, hA1.cond, hA1.beq, hA1.orb, hL1.len, hL1.slen, hL1.sq, hi]; done) | (simp only [hi]; simp [hA1.not, hA1.eq, hA1.lt, hA1.le, hA1.cond, hA1.beq, hA1.orb, hL1.len, hL1.slen, hL1.sq, hi]; done) | (simp [hA1.not, hA1.eq, hA1.lt, hA1.le, hA1.cond, hA1.beq, hA1.orb, hL1.len, hL1.slen, hL1.sq, hi]; omega) | (simp only [hi]; simp [hA1.not, hA1.eq, hA1.lt, hA1.le, hA1.cond, hA1.beq, hA1.orb, hL1.len, hL1.slen, hL1.sq, hi]; omega)) ?_
      cbv
      refine ⟨i, _, rfl, hzi, rfl, ?_⟩
      cbv
      by_cases hS1 : S = 0
      · have hS2 : do_ = 1 := Classical.byContradiction fun c => hS0 ⟨hS1, c⟩
        refine vcIf.yes (by first | (simp [hA1.not, hA1.eq, hA1.lt, hA1.le, hA1.cond, hA1.beq, hA1.orb, hL1.len, hL1.slen, hL1.sq, hls, hS1]; done) | (simp only [hls, hS1]; simp [hA1.not, hA1.eq, hA1.lt, hA1.le, hA1.cond, hA1.beq, hA1.orb, hL1.len, hL1.slen, hL1.sq, hls, hS1]; done) | (simp [hA1.not, hA1.eq, hA1.lt, hA1.le, hA1.cond, hA1.beq, hA1.orb, hL1.len, hL1.slen, hL1.sq, hls, hS1]; omega) | (simp only [hls, hS1]; simp [hA1.not, hA1.eq, hA1.lt, hA1.le, hA1.cond, hA1.beq, hA1.orb, hL1.len, hL1.slen, hL1.sq, hls, hS1]; omega)) ?_
        cbv
        refine vcIf.no (by first | (simp [hA1.not, hA1.eq, hA1.lt, hA1.le, hA1.cond, hA1.beq, hA1.orb, hL1.len, hL1.slen, hL1.sq, cond, hS2]; done) | (simp only [cond, hS2]; simp [hA1.not, hA1.eq, hA1.lt, hA1.le, hA1.cond, hA1.beq, hA1.orb, hL1.len, hL1.slen, hL1.sq, cond, hS2]; done) | (simp [hA1.not, hA1.eq, hA1.lt, hA1.le, hA1.cond, hA1.beq, hA1.orb, hL1.len, hL1.slen, hL1.sq, cond, hS2]; omega) | (simp only [cond, hS2]; simp [hA1.not, hA1.eq, hA1.lt, hA1.le, hA1.cond, hA1.beq, hA1.orb, hL1.len, hL1.slen, hL1.sq, cond, hS2]; omega)) ?_
        cbv
        have hT : TrL [.st 46 [.p (.int .i64 dg), .p (.int .i64 db), .p (.int .i64 de), .p (.int .i64 dr), .p (.int .i64 do_), .p (.int .i64 dw), .p (.sl ss), .p (.sl cs)]] [] [0] [.own 0 0] [.imm 8 (.agg [.int .i64 dg, .int .i64 db, .int .i64 de, .int .i64 dr, .int .i64 do_, .int .i64 dw, .sl ss, .sl cs]) 0] :=
          .cons (Tr.box (qs := [.int .i64 dg, .int .i64 db, .int .i64 de, .int .i64 dr, .int .i64 do_, .int .i64 dw, .sl ss, .sl cs]) (by decide) rfl (by intro u hu; simp at hu; rcases hu with rfl | rfl | rfl | rfl | rfl | rfl | rfl | rfl <;> rfl)) .nil
        refine hcall1 _ _ _ _ _ (CallEv.shown [] [0] hix rfl (.cons (.p _) (.cons (.fn _ _ _ hT.1 hT.2) .nil)) trivial ?_)
        rintro _ _ ⟨rfl, rfl⟩
        refine ⟨.p _ (.bool _), (by intro r hr; cases hr), ?_⟩
        clear hT
        cbv
        by_cases hRt : R = true
        · have hfst := isFst.at hi (hyes hS0 hRt) k2
          refine vcIf.yes hRt ?_
          cbv
          exact hret _ (RetEv.ret eOk rfl ⟨_, hfst, rfl⟩)
        · have hnx := not_next k2 (hno2 hRt)
          refine vcIf.no (Bool.eq_false_iff.2 hRt) ?_
          cbv
          refine hrd _ ⟨i + 1, _, ?_, ⟨hi, hnx⟩, rfl, ⟨rfl, rfl, rfl, ?_, trivial⟩, rfl, rfl, rfl, ?_⟩
          · show N - (i + 1) < N - i
            omega
          · show some (V.p (.int .i64 _)) = _
            rw [hadd1]
          · rw [hB]; exact Nat.zero_le _
      · refine vcIf.no (by first | (simp [hA1.not, hA1.eq, hA1.lt, hA1.le, hA1.cond, hA1.beq, hA1.orb, hL1.len, hL1.slen, hL1.sq, hls, hS1]; done) | (simp only [hls, hS1]; simp [hA1.not, hA1.eq, hA1.lt, hA1.le, hA1.cond, hA1.beq, hA1.orb, hL1.len, hL1.slen, hL1.sq, hls, hS1]; done) | (simp [hA1.not, hA1.eq, hA1.lt, hA1.le, hA1.cond, hA1.beq, hA1.orb, hL1.len, hL1.slen, hL1.sq, hls, hS1]; omega) | (simp only [hls, hS1]; simp [hA1.not, hA1.eq, hA1.lt, hA1.le, hA1.cond, hA1.beq, hA1.orb, hL1.len, hL1.slen, hL1.sq, hls, hS1]; omega)) ?_
        cbv
        have hT : TrL [.st 46 [.p (.int .i64 dg), .p (.int .i64 db), .p (.int .i64 de), .p (.int .i64 dr), .p (.int .i64 do_), .p (.int .i64 dw), .p (.sl ss), .p (.sl cs)]] [] [0] [.own 0 0] [.imm 8 (.agg [.int .i64 dg, .int .i64 db, .int .i64 de, .int .i64 dr, .int .i64 do_, .int .i64 dw, .sl ss, .sl cs]) 0] :=
          .cons (Tr.box (qs := [.int .i64 dg, .int .i64 db, .int .i64 de, .int .i64 dr, .int .i64 do_, .int .i64 dw, .sl ss, .sl cs]) (by decide) rfl (by intro u hu; simp at hu; rcases hu with rfl | rfl | rfl | rfl | rfl | rfl | rfl | rfl <;> rfl)) .nil
        refine hcall1 _ _ _ _ _ (CallEv.shown [] [0] hix rfl (.cons (.p _) (.cons (.fn _ _ _ hT.1 hT.2) .nil)) trivial ?_)
        rintro _ _ ⟨rfl, rfl⟩
        refine ⟨.p _ (.bool _), (by intro r hr; cases hr), ?_⟩
        clear hT
        cbv
        by_cases hRt : R = true
        · have hfst := isFst.at hi (hyes hS0 hRt) k2
          refine vcIf.yes hRt ?_
          cbv
          exact hret _ (RetEv.ret eOk rfl ⟨_, hfst, rfl⟩)
        · have hnx := not_next k2 (hno2 hRt)
          refine vcIf.no (Bool.eq_false_iff.2 hRt) ?_
          cbv
          refine hrd _ ⟨i + 1, _, ?_, ⟨hi, hnx⟩, rfl, ⟨rfl, rfl, rfl, ?_, trivial⟩, rfl, rfl, rfl, ?_⟩
          · show N - (i + 1) < N - i
            omega
          · show some (V.p (.int .i64 _)) = _
            rw [hadd1]
          · rw [hB]; exact Nat.zero_le _
  · have hfst : isFst (obad ds) N (-1) := isFst.none fun j hj => k2 j (by omega)
    intro add1 sub1 mul1 quo1 rem1 band1 bor1 bxor1 bclr1 shl1 shr1 ieq1 ilt1 ile1 seq1 slt1 beq1 bnot1 orb1 bcond1 iwrap1 iof1 ssz1 hA1 cat1 sq1 sl1 imin1 imax1 smin1 smax1 len1 slen1 u81 hL1 op1 hop1 call1 hcall1 code1 hcode1
    cbv
    refine vcIf.no (by first | (simp [hA1.not, hA1.eq, hA1.lt, hA1.le, hA1.cond, hA1.beq, hA1.orb, hL1.len, hL1.slen, hL1.sq, hi]; done) | (simp only [hi]; simp [hA1.not, hA1.eq, hA1.lt, hA1.le, hA1.cond, hA1.beq, hA1.orb, hL1.len, hL1.slen, hL1.sq, hi]; done) | (simp [hA1.not, hA1.eq, hA1.lt, hA1.le, hA1.cond, hA1.beq, hA1.orb, hL1.len, hL1.slen, hL1.sq, hi]; omega) | (simp only [hi]; simp [hA1.not, hA1.eq, hA1.lt, hA1.le, hA1.cond, hA1.beq, hA1.orb, hL1.len, hL1.slen, hL1.sq, hi]; omega)) ?_
    cbv
    exact hret _ (RetEv.ret eOk rfl ⟨-1, hfst, rfl⟩)
end Go.Proofs.Ytdoikpagilmplaa
