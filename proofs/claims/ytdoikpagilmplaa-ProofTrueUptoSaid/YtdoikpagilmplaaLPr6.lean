/- The first deed that read something else. Both. Conditions: on sizes. -/
import Derived.Test.YtdoikpagilmplaaLPr5
set_option maxRecDepth 100000
set_option maxHeartbeats 16000000
set_option linter.unusedSimpArgs false
set_option linter.unusedVariables false
namespace Go.Proofs.Ytdoikpagilmplaa
open Go Go.Lx
open Go.Sx (vcIf)

/-- The first of N at which P is, or -1. -/
def isFst (P : Nat → Prop) (N : Nat) (R : Int) : Prop := (R = -1 ∧ ∀ j, j < N → ¬ P j) ∨ ∃ i : Nat, i < N ∧ R = Int.ofNat i ∧ P i ∧ ∀ j, j < i → ¬ P j
theorem isFst.uniq {P : Nat → Prop} {N : Nat} {R R' : Int} (h : isFst P N R) (h' : isFst P N R') : R = R' := by
  rcases h with ⟨a, b⟩ | ⟨i, a, b, c, d⟩
  · rcases h' with ⟨a', b'⟩ | ⟨i', a', b', c', d'⟩
    · rw [a, a']
    · exact absurd c' (b i' a')
  · rcases h' with ⟨a', b'⟩ | ⟨i', a', b', c', d'⟩
    · exact absurd c (b' i a)
    · have : i = i' := by
        rcases Nat.lt_trichotomy i i' with e | e | e
        · exact absurd c (d' i e)
        · exact e
        · exact absurd c' (d i' e)
      rw [b, b', this]
theorem isFst.at {P : Nat → Prop} {N i : Nat} (hi : i < N) (h : P i) (h2 : ∀ j, j < i → ¬ P j) : isFst P N (Int.ofNat i) := .inr ⟨i, hi, rfl, h, h2⟩
theorem isFst.none {P : Nat → Prop} {N : Nat} (h2 : ∀ j, j < N → ¬ P j) : isFst P N (-1) := .inl ⟨rfl, h2⟩
theorem not_next {P : Nat → Prop} {i : Nat} (h : ∀ j, j < i → ¬ P j) (hi : ¬ P i) : ∀ j, j < i + 1 → ¬ P j := fun j hj => by
  rcases Nat.lt_succ_iff_lt_or_eq.1 hj with c | c
  · exact h j c
  · rw [c]; exact hi
/-- The deed at i read something else. -/
def rbad (l : List Bt) (ds : List Dd) (i : Nat) : Prop := ∃ d, ds[i]? = some d ∧ ¬ rgts (atP l d.r) d
theorem rbad_iff {l : List Bt} {ds : List Dd} {i : Nat} {d : Dd} (h : ds[i]? = some d) : rbad l ds i ↔ ¬ rgts (atP l d.r) d := by
  unfold rbad
  rw [h]
  exact ⟨fun ⟨d', h1, h2⟩ => by cases h1; exact h2, fun h => ⟨d, rfl, h⟩⟩
theorem rgts_nil (ps : List Pr) (d : Dd) (h : d.seen.length = 0) : rgts ps d := fun k s hk => by
  have := (List.getElem?_eq_some_iff.1 hk).1; omega
theorem bnd2 {a c l M D : Nat} (h1 : a ≤ l * M) (h2 : c ≤ D) (h3 : (l * M + D + 1) * 32 ≤ 140737488355328) : (a + c + 1) * 32 ≤ 140737488355328 := Nat.le_trans (Nat.mul_le_mul_right _ (Nat.succ_le_succ (Nat.add_le_add h1 h2))) h3

theorem bnd3 {x D : Nat} (h3 : (x + D + 1) * 32 ≤ 140737488355328) : (x + 1) * 32 ≤ 140737488355328 := Nat.le_trans (Nat.mul_le_mul_right _ (Nat.succ_le_succ (Nat.le_add_right _ _))) h3
theorem reads_spec (l : List Bt) (M D : Nat) (hM : ∀ b ∈ l, b.ch.length ≤ M) (hl : l.length < 281474976710656) (hf : ∀ b ∈ l, b.fit) (ds : List Dd) (hD : ∀ d ∈ ds, d.ch.length ≤ D) (hsz : (l.length * M + D + 1) * 32 ≤ 140737488355328) (hdl : ds.length < 281474976710656) (hdf : ∀ d ∈ ds, d.fit) (zs ys : List PV) (hzs : zs = btP l) (hys : ys = ddP ds) :
    FnL Try.prog 16 [.p (.sl zs), .p (.sl ys)] [] fun v own => ∃ n e : Int, ((lsnd l ∧ e = 0 ∧ isFst (rbad l ds) ds.length n) ∨ (¬ lsnd l ∧ e = 2 ∧ n = 0)) ∧ v = .p (.tup [.int .i64 n, .int .i64 e]) ∧ own = [] := by
  refine FnL.flat (R := fun v own => ∃ n e : Int, ((lsnd l ∧ e = 0 ∧ isFst (rbad l ds) ds.length n) ∨ (¬ lsnd l ∧ e = 2 ∧ n = 0)) ∧ v = .p (.tup [.int .i64 n, .int .i64 e])) ?_ (by rintro _ _ ⟨n, e, h, rfl⟩; exact ⟨_, _, rfl, .refl _, n, e, h, rfl, rfl⟩)
  have hck := check22_spec l hl hf zs hzs
  have hat := fun v => at_spec l v M hM (bnd3 hsz) hl hf zs hzs
  have hrt := fun (d : Dd) (hd : d ∈ ds) (ws : List PV) (hws : ws = prP (atP l d.r)) => right_spec (atP l d.r) (atP_srt l d.r) d (hdf d hd) (bnd2 (atP_len hM d.r) (hD d hd) hsz) ws hws
  obtain ⟨N, hN⟩ : ∃ N, N = ds.length := ⟨_, rfl⟩
  have hyl : ys.length = N := by rw [hys, ddP_length, hN]
  rw [← hN] at hdl ⊢
  clear hsz hD hM
  refine fn_of_vc eOk fOk fo16 Try.func16 rfl rfl rfl fun B hB => ?_
  intro add sub mul quo rem band bor bxor bclr shl shr ieq ilt ile seq slt beq bnot orb bcond iwrap iof ssz hA cat sq sl imin imax smin smax len slen u8 hL op hop call hcall code hcode ret hret
  have hlen : len ys = Int.ofNat N := by rw [hL.len, hyl]; rfl
  cbv
  refine hcall _ _ _ _ _ (CallEv.same hck rfl ?_)
  rintro _ _ ⟨e, he, rfl, rfl⟩
  cbv
  by_cases h0 : e = 0
  · have hs : lsnd l := by rcases he with c | c; exact c.2; omega
    refine vcIf.no (by first | (simp [hA.not, hA.eq, hA.lt, hA.le, hA.cond, hA.beq, hA.orb, hL.len, hL.slen, hL.sq, h0]; done) | (simp only [h0]; simp [hA.not, hA.eq, hA.lt, hA.le, hA.cond, hA.beq, hA.orb, hL.len, hL.slen, hL.sq, h0]; done) | (simp [hA.not, hA.eq, hA.lt, hA.le, hA.cond, hA.beq, hA.orb, hL.len, hL.slen, hL.sq, h0]; omega) | (simp only [h0]; simp [hA.not, hA.eq, hA.lt, hA.le, hA.cond, hA.beq, hA.orb, hL.len, hL.slen, hL.sq, h0]; omega)) ?_
    cbv
    rw [hlen]
    refine hcode _ _ _ (CodeEv.loop eOk fOk (ι := Nat) (fun s => [(0, .p (.sl zs)), (16, .p (.sl ys)), (17, .p (.int .i64 (Int.ofNat N))), (18, .p (.int .i64 (Int.ofNat s)))])
      (fun s => []) (fun s => s ≤ N ∧ ∀ j, j < s → ¬ rbad l ds j) (fun s => N - s) 0 ?_ ?_)
    · exact ⟨(by repeat (first | exact trivial | refine And.intro rfl ?_)), rfl, Nat.zero_le _, fun j h => absurd h (Nat.not_lt_zero j)⟩
    rintro i ⟨k1, k2⟩ rd hrd
    by_cases hi : i < N
    · refine Exists.elim (get_of_lt (show i < ds.length by omega)) fun d hd => ?_
      have hdm := List.mem_of_getElem? hd
      have hrb := rbad_iff (l := l) hd
      have hnil := rgts_nil (atP l d.r) d
      have hat := hat d.r
      have hrt := hrt d hdm
      have hzi : ys[i]? = some (.agg [.int .i64 d.g, .int .i64 d.b, .int .i64 d.e, .int .i64 d.r, .int .i64 d.o, .int .i64 d.w, .sl (snP d.seen), .sl (cP d.ch)]) := by rw [hys]; exact ddP_get hd
      refine Exists.elim (show ∃ S, S = d.seen.length from ⟨_, rfl⟩) fun S hS => ?_
      refine Exists.elim (show ∃ ss, ss = snP d.seen from ⟨_, rfl⟩) fun ss hss => ?_
      refine Exists.elim (show ∃ cs, cs = cP d.ch from ⟨_, rfl⟩) fun cs hcs => ?_
      have hsl : ss.length = S := by rw [hss, snP_length, hS]
      rw [← hss, ← hcs] at hzi hrt
      rw [← hS] at hnil
      refine Exists.elim (show ∃ Q : Prop, Q = rgts (atP l d.r) d from ⟨_, rfl⟩) fun Q hQ => ?_
      rw [← hQ] at hrb hnil hrt
      refine Exists.elim (show ∃ ps, ps = prP (atP l d.r) from ⟨_, rfl⟩) fun ps hps => ?_
      rw [← hps] at hat hrt
      have hrt := hrt ps rfl
      clear hQ hss hcs hS hd hdm hps
      obtain ⟨dg, db, de, dr, do_, dw, dseen, dch⟩ := d
      simp only at hzi hat hrt
      by_cases hS0 : S = 0
      · have hnx := not_next k2 fun c => hrb.1 c (hnil hS0)
        intro add1 sub1 mul1 quo1 rem1 band1 bor1 bxor1 bclr1 shl1 shr1 ieq1 ilt1 ile1 seq1 slt1 beq1 bnot1 orb1 bcond1 iwrap1 iof1 ssz1 hA1 cat1 sq1 sl1 imin1 imax1 smin1 smax1 len1 slen1 u81 hL1 op1 hop1 call1 hcall1 code1 hcode1
        have hls : len1 ss = Int.ofNat S := by rw [hL1.len, hsl]; rfl
        have hadd1 : add1 .i64 (Int.ofNat i) 1 = Int.ofNat (i + 1) := by rw [hA1.add, IntWalk.i64_in _ (by simp only [Int.ofNat_eq_natCast]; omega)]; rfl
        cbv
        refine vcIf.yes (by first | (simp [hA1.not, hA1.eq, hA1.lt, hA1.le, hA1.cond, hA1.beq, hA1.orb, hL1.len, hL1.slen, hL1.sq, hi]; done) | (simp only [hi]; simp [hA1.not, hA1.eq, hA1.lt, hA1.le, hA1.cond, hA1.beq, hA1.orb, hL1.len, hL1.slen, hL1.sq, hi]; done) | (simp [hA1.not, hA1.eq, hA1.lt, hA1.le, hA1.cond, hA1.beq, hA1.orb, hL1.len, hL1.slen, hL1.sq, hi]; omega) | (simp only [hi]; simp [hA1.not, hA1.eq, hA1.lt, hA1.le, hA1.cond, hA1.beq, hA1.orb, hL1.len, hL1.slen, hL1.sq, hi]; omega)) ?_
        cbv
        refine ⟨i, _, rfl, hzi, rfl, ?_⟩
        cbv
        refine vcIf.yes (by first | (simp [hA1.not, hA1.eq, hA1.lt, hA1.le, hA1.cond, hA1.beq, hA1.orb, hL1.len, hL1.slen, hL1.sq, hls, hS0]; done) | (simp only [hls, hS0]; simp [hA1.not, hA1.eq, hA1.lt, hA1.le, hA1.cond, hA1.beq, hA1.orb, hL1.len, hL1.slen, hL1.sq, hls, hS0]; done) | (simp [hA1.not, hA1.eq, hA1.lt, hA1.le, hA1.cond, hA1.beq, hA1.orb, hL1.len, hL1.slen, hL1.sq, hls, hS0]; omega) | (simp only [hls, hS0]; simp [hA1.not, hA1.eq, hA1.lt, hA1.le, hA1.cond, hA1.beq, hA1.orb, hL1.len, hL1.slen, hL1.sq, hls, hS0]; omega)) ?_
        cbv
        refine hrd _ ⟨i + 1, _, ?_, ⟨hi, hnx⟩, rfl, ⟨rfl, rfl, rfl, ?_, trivial⟩, rfl, rfl, rfl, ?_⟩
        · show N - (i + 1) < N - i
          omega
        · show some (V.p (.int .i64 _)) = _
          rw [hadd1]
        · rw [hB]; exact Nat.zero_le _
      · intro add1 sub1 mul1 quo1 rem1 band1 bor1 bxor1 bclr1 shl1 shr1 ieq1 ilt1 ile1 seq1 slt1 beq1 bnot1 orb1 bcond1 iwrap1 iof1 ssz1 hA1 cat1 sq1 sl1 imin1 imax1 smin1 smax1 len1 slen1 u81 hL1 op1 hop1 call1 hcall1 code1 hcode1
        have hls : len1 ss = Int.ofNat S := by rw [hL1.len, hsl]; rfl
        have hadd1 : add1 .i64 (Int.ofNat i) 1 = Int.ofNat (i + 1) := by rw [hA1.add, IntWalk.i64_in _ (by simp only [Int.ofNat_eq_natCast]; omega)]; rfl
        cbv
        refine vcIf.yes (by first | (simp [hA1.not, hA1.eq, hA1.lt, hA1.le, hA1.cond, hA1.beq, hA1.orb, hL1.len, hL1.slen, hL1.sq, hi]; done) | (simp only [hi]; simp [hA1.not, hA1.eq, hA1.lt, hA1.le, hA1.cond, hA1.beq, hA1.orb, hL1.len, hL1.slen, hL1.sq, hi]; done) | (simp [hA1.not, hA1.eq, hA1.lt, hA1.le, hA1.cond, hA1.beq, hA1.orb, hL1.len, hL1.slen, hL1.sq, hi]; omega) | (simp only [hi]; simp [hA1.not, hA1.eq, hA1.lt, hA1.le, hA1.cond, hA1.beq, hA1.orb, hL1.len, hL1.slen, hL1.sq, hi]; omega)) ?_
        cbv
        refine ⟨i, _, rfl, hzi, rfl, ?_⟩
        cbv
        refine vcIf.no (by first | (simp [hA1.not, hA1.eq, hA1.lt, hA1.le, hA1.cond, hA1.beq, hA1.orb, hL1.len, hL1.slen, hL1.sq, hls, hS0]; done) | (simp only [hls, hS0]; simp [hA1.not, hA1.eq, hA1.lt, hA1.le, hA1.cond, hA1.beq, hA1.orb, hL1.len, hL1.slen, hL1.sq, hls, hS0]; done) | (simp [hA1.not, hA1.eq, hA1.lt, hA1.le, hA1.cond, hA1.beq, hA1.orb, hL1.len, hL1.slen, hL1.sq, hls, hS0]; omega) | (simp only [hls, hS0]; simp [hA1.not, hA1.eq, hA1.lt, hA1.le, hA1.cond, hA1.beq, hA1.orb, hL1.len, hL1.slen, hL1.sq, hls, hS0]; omega)) ?_
        cbv
        refine hcall1 _ _ _ _ _ (CallEv.same hat rfl ?_)
        refine fun v own' hv => ?_
        obtain ⟨hv, rfl⟩ := hv
        obtain rfl : v = .p (.tup [.sl ps, .int .i64 0]) := by
          rcases hv with c | c
          · exact c.2
          · exact absurd hs c.1
        cbv
        refine hcall1 _ _ _ _ _ (CallEv.same hrt rfl ?_)
        rintro _ _ ⟨R, hR, rfl, rfl⟩
        cbv
        by_cases hRt : R = true
        · have hnx := not_next k2 fun c => hrb.1 c (hR.1 hRt)
          refine vcIf.no (by first | (simp [hA1.not, hA1.eq, hA1.lt, hA1.le, hA1.cond, hA1.beq, hA1.orb, hL1.len, hL1.slen, hL1.sq, hRt]; done) | (simp only [hRt]; simp [hA1.not, hA1.eq, hA1.lt, hA1.le, hA1.cond, hA1.beq, hA1.orb, hL1.len, hL1.slen, hL1.sq, hRt]; done) | (simp [hA1.not, hA1.eq, hA1.lt, hA1.le, hA1.cond, hA1.beq, hA1.orb, hL1.len, hL1.slen, hL1.sq, hRt]; omega) | (simp only [hRt]; simp [hA1.not, hA1.eq, hA1.lt, hA1.le, hA1.cond, hA1.beq, hA1.orb, hL1.len, hL1.slen, hL1.sq, hRt]; omega)) ?_
          cbv
          refine hrd _ ⟨i + 1, _, ?_, ⟨hi, hnx⟩, rfl, ⟨rfl, rfl, rfl, ?_, trivial⟩, rfl, rfl, rfl, ?_⟩
          · show N - (i + 1) < N - i
            omega
          · show some (V.p (.int .i64 _)) = _
            rw [hadd1]
          · rw [hB]; exact Nat.zero_le _
        · have hfst := isFst.at hi (hrb.2 fun c => hRt (hR.2 c)) k2
          refine vcIf.yes (by first | (simp [hA1.not, hA1.eq, hA1.lt, hA1.le, hA1.cond, hA1.beq, hA1.orb, hL1.len, hL1.slen, hL1.sq, hRt]; done) | (simp only [hRt]; simp [hA1.not, hA1.eq, hA1.lt, hA1.le, hA1.cond, hA1.beq, hA1.orb, hL1.len, hL1.slen, hL1.sq, hRt]; done) | (simp [hA1.not, hA1.eq, hA1.lt, hA1.le, hA1.cond, hA1.beq, hA1.orb, hL1.len, hL1.slen, hL1.sq, hRt]; omega) | (simp only [hRt]; simp [hA1.not, hA1.eq, hA1.lt, hA1.le, hA1.cond, hA1.beq, hA1.orb, hL1.len, hL1.slen, hL1.sq, hRt]; omega)) ?_
          cbv
          exact hret _ (RetEv.ret eOk rfl ⟨_, 0, .inl ⟨hs, rfl, hfst⟩, rfl⟩)
    · have hfst : isFst (rbad l ds) N (-1) := isFst.none fun j hj => k2 j (by omega)
      intro add1 sub1 mul1 quo1 rem1 band1 bor1 bxor1 bclr1 shl1 shr1 ieq1 ilt1 ile1 seq1 slt1 beq1 bnot1 orb1 bcond1 iwrap1 iof1 ssz1 hA1 cat1 sq1 sl1 imin1 imax1 smin1 smax1 len1 slen1 u81 hL1 op1 hop1 call1 hcall1 code1 hcode1
      cbv
      refine vcIf.no (by first | (simp [hA1.not, hA1.eq, hA1.lt, hA1.le, hA1.cond, hA1.beq, hA1.orb, hL1.len, hL1.slen, hL1.sq, hi]; done) | (simp only [hi]; simp [hA1.not, hA1.eq, hA1.lt, hA1.le, hA1.cond, hA1.beq, hA1.orb, hL1.len, hL1.slen, hL1.sq, hi]; done) | (simp [hA1.not, hA1.eq, hA1.lt, hA1.le, hA1.cond, hA1.beq, hA1.orb, hL1.len, hL1.slen, hL1.sq, hi]; omega) | (simp only [hi]; simp [hA1.not, hA1.eq, hA1.lt, hA1.le, hA1.cond, hA1.beq, hA1.orb, hL1.len, hL1.slen, hL1.sq, hi]; omega)) ?_
      cbv
      exact hret _ (RetEv.ret eOk rfl ⟨-1, 0, .inl ⟨hs, rfl, hfst⟩, rfl⟩)
  · have hs : ¬ lsnd l := by rcases he with c | c; exact absurd c.1 h0; exact c.2
    have h2 : e = 2 := by rcases he with c | c; exact absurd c.1 h0; exact c.1
    refine vcIf.yes (by first | (simp [hA.not, hA.eq, hA.lt, hA.le, hA.cond, hA.beq, hA.orb, hL.len, hL.slen, hL.sq, h0]; done) | (simp only [h0]; simp [hA.not, hA.eq, hA.lt, hA.le, hA.cond, hA.beq, hA.orb, hL.len, hL.slen, hL.sq, h0]; done) | (simp [hA.not, hA.eq, hA.lt, hA.le, hA.cond, hA.beq, hA.orb, hL.len, hL.slen, hL.sq, h0]; omega) | (simp only [h0]; simp [hA.not, hA.eq, hA.lt, hA.le, hA.cond, hA.beq, hA.orb, hL.len, hL.slen, hL.sq, h0]; omega)) ?_
    cbv
    exact hret _ (RetEv.ret eOk rfl ⟨0, e, .inr ⟨hs, h2, rfl⟩, rfl⟩)
end Go.Proofs.Ytdoikpagilmplaa
