/- The first committed deed whose changes do not stand where they should. Conditions: on sizes. -/
import Derived.Test.YtdoikpagilmplaaLPi2
set_option maxRecDepth 100000
set_option maxHeartbeats 16000000
set_option linter.unusedSimpArgs false
set_option linter.unusedVariables false
namespace Go.Proofs.Ytdoikpagilmplaa
open Go Go.Lx
open Go.Sx (vcIf)

theorem pdone_spec (g b e r o w : Int) (ss cs : List PV) (C : Nat) (hC : cs.length = C) (R : Bool) (hR : R = true ↔ (o = 1 ∧ 0 < C)) :
    FnL Try.prog 33 [.p (.agg [.int .i64 g, .int .i64 b, .int .i64 e, .int .i64 r, .int .i64 o, .int .i64 w, .sl ss, .sl cs])] [] fun v own => v = .p (.bool R) ∧ own = [] := by
  refine FnL.flat (R := fun v own => v = .p (.bool R)) ?_ (by rintro _ _ rfl; exact ⟨_, _, rfl, .refl _, rfl, rfl⟩)
  refine fn_of_vc eOk fOk fo33 Try.func33 rfl rfl rfl fun B hB => ?_
  intro add sub mul quo rem band bor bxor bclr shl shr ieq ilt ile seq slt beq bnot orb bcond iwrap iof ssz hA cat sq sl imin imax smin smax len slen u8 hL op hop call hcall code hcode ret hret
  have hlc : len cs = Int.ofNat C := by rw [hL.len, hC]; rfl
  cbv
  by_cases h1 : o = 1
  · refine vcIf.yes (by first | (simp [hA.not, hA.eq, hA.lt, hA.le, hA.cond, hA.beq, hA.orb, hL.len, hL.slen, hL.sq, h1]; done) | (simp only [h1]; simp [hA.not, hA.eq, hA.lt, hA.le, hA.cond, hA.beq, hA.orb, hL.len, hL.slen, hL.sq, h1]; done) | (simp [hA.not, hA.eq, hA.lt, hA.le, hA.cond, hA.beq, hA.orb, hL.len, hL.slen, hL.sq, h1]; omega) | (simp only [h1]; simp [hA.not, hA.eq, hA.lt, hA.le, hA.cond, hA.beq, hA.orb, hL.len, hL.slen, hL.sq, h1]; omega)) ?_
    cbv
    refine hret _ (RetEv.ret eOk rfl ?_)
    rw [hlc]
    show V.p (.bool _) = _
    congr 2
    rw [Bool.eq_iff_iff, hR]
    simp [hA.cond, cond, hA.eq, hA.lt, h1]
  · refine vcIf.no (by first | (simp [hA.not, hA.eq, hA.lt, hA.le, hA.cond, hA.beq, hA.orb, hL.len, hL.slen, hL.sq, h1]; done) | (simp only [h1]; simp [hA.not, hA.eq, hA.lt, hA.le, hA.cond, hA.beq, hA.orb, hL.len, hL.slen, hL.sq, h1]; done) | (simp [hA.not, hA.eq, hA.lt, hA.le, hA.cond, hA.beq, hA.orb, hL.len, hL.slen, hL.sq, h1]; omega) | (simp only [h1]; simp [hA.not, hA.eq, hA.lt, hA.le, hA.cond, hA.beq, hA.orb, hL.len, hL.slen, hL.sq, h1]; omega)) ?_
    cbv
    refine hret _ (RetEv.ret eOk rfl ?_)
    show V.p (.bool _) = _
    congr 2
    rw [Bool.eq_iff_iff, hR]
    simp [hA.cond, cond, hA.eq, hA.lt, h1]
theorem rdone_spec (g b e r o w : Int) (ss cs : List PV) (C : Nat) (hC : cs.length = C) (R : Bool) (hR : R = true ↔ (o = 1 ∧ 0 < C)) :
    FnL Try.prog 37 [.p (.agg [.int .i64 g, .int .i64 b, .int .i64 e, .int .i64 r, .int .i64 o, .int .i64 w, .sl ss, .sl cs])] [] fun v own => v = .p (.bool R) ∧ own = [] := by
  refine FnL.flat (R := fun v own => v = .p (.bool R)) ?_ (by rintro _ _ rfl; exact ⟨_, _, rfl, .refl _, rfl, rfl⟩)
  refine fn_of_vc eOk fOk fo37 Try.func37 rfl rfl rfl fun B hB => ?_
  intro add sub mul quo rem band bor bxor bclr shl shr ieq ilt ile seq slt beq bnot orb bcond iwrap iof ssz hA cat sq sl imin imax smin smax len slen u8 hL op hop call hcall code hcode ret hret
  have hlc : len cs = Int.ofNat C := by rw [hL.len, hC]; rfl
  cbv
  by_cases h1 : o = 1
  · refine vcIf.yes (by first | (simp [hA.not, hA.eq, hA.lt, hA.le, hA.cond, hA.beq, hA.orb, hL.len, hL.slen, hL.sq, h1]; done) | (simp only [h1]; simp [hA.not, hA.eq, hA.lt, hA.le, hA.cond, hA.beq, hA.orb, hL.len, hL.slen, hL.sq, h1]; done) | (simp [hA.not, hA.eq, hA.lt, hA.le, hA.cond, hA.beq, hA.orb, hL.len, hL.slen, hL.sq, h1]; omega) | (simp only [h1]; simp [hA.not, hA.eq, hA.lt, hA.le, hA.cond, hA.beq, hA.orb, hL.len, hL.slen, hL.sq, h1]; omega)) ?_
    cbv
    refine hret _ (RetEv.ret eOk rfl ?_)
    rw [hlc]
    show V.p (.bool _) = _
    congr 2
    rw [Bool.eq_iff_iff, hR]
    simp [hA.cond, cond, hA.eq, hA.lt, h1]
  · refine vcIf.no (by first | (simp [hA.not, hA.eq, hA.lt, hA.le, hA.cond, hA.beq, hA.orb, hL.len, hL.slen, hL.sq, h1]; done) | (simp only [h1]; simp [hA.not, hA.eq, hA.lt, hA.le, hA.cond, hA.beq, hA.orb, hL.len, hL.slen, hL.sq, h1]; done) | (simp [hA.not, hA.eq, hA.lt, hA.le, hA.cond, hA.beq, hA.orb, hL.len, hL.slen, hL.sq, h1]; omega) | (simp only [h1]; simp [hA.not, hA.eq, hA.lt, hA.le, hA.cond, hA.beq, hA.orb, hL.len, hL.slen, hL.sq, h1]; omega)) ?_
    cbv
    refine hret _ (RetEv.ret eOk rfl ?_)
    show V.p (.bool _) = _
    congr 2
    rw [Bool.eq_iff_iff, hR]
    simp [hA.cond, cond, hA.eq, hA.lt, h1]
theorem stands1_spec (bp bv bk : Int) (bcs : List PV) (g b e r o w ss cs : PV) (n : Int) (hw : w = .int .i64 n) :
    FnL Try.prog 35 [.p (.agg [.int .i64 bp, .int .i64 bv, .int .i64 bk, .sl bcs]), .imm 8 (.agg [g, b, e, r, o, w, ss, cs]) 0] [] fun v own => ∃ x, x = decide (bv = n) ∧ v = .p (.bool x) ∧ own = [] := by
  subst hw
  refine FnL.flat (R := fun v own => ∃ x, x = decide (bv = n) ∧ v = .p (.bool x)) ?_ (by rintro _ _ ⟨x, h, rfl⟩; exact ⟨_, _, rfl, .refl _, x, h, rfl, rfl⟩)
  refine fn_of_vc eOk fOk fo35 Try.func35 rfl rfl rfl fun B hB => ?_
  intro add sub mul quo rem band bor bxor bclr shl shr ieq ilt ile seq slt beq bnot orb bcond iwrap iof ssz hA cat sq sl imin imax smin smax len slen u8 hL op hop call hcall code hcode ret hret
  cbv
  exact hret _ (RetEv.ret eOk rfl ⟨_, hA.eq _ _, rfl⟩)

/-- The deed at i is committed, and its changes do not stand where they should. -/
def sbad (l : List Bt) (ds : List Dd) (i : Nat) : Prop := ∃ d, ds[i]? = some d ∧ (d.o = 1 ∧ 0 < d.ch.length) ∧ ¬ ∃ (k : Nat) (b : Bt), l[k]? = some b ∧ b.ver = d.w ∧ subCh b.ch d.ch
theorem sbad_iff {l : List Bt} {ds : List Dd} {i : Nat} {d : Dd} (h : ds[i]? = some d) : sbad l ds i ↔ ((d.o = 1 ∧ 0 < d.ch.length) ∧ ¬ ∃ (k : Nat) (b : Bt), l[k]? = some b ∧ b.ver = d.w ∧ subCh b.ch d.ch) := by
  unfold sbad
  rw [h]
  exact ⟨fun ⟨d', h1, h2⟩ => by cases h1; exact h2, fun h => ⟨d, rfl, h⟩⟩
theorem ver_uniq {l : List Bt} (h : lsnd l) {i j : Nat} {a b : Bt} (ha : l[i]? = some a) (hb : l[j]? = some b) (hv : a.ver = b.ver) : i = j := by
  rcases Nat.lt_trichotomy i j with c | c | c
  · obtain ⟨d, rfl⟩ : ∃ d, j = i + d + 1 := ⟨j - i - 1, by omega⟩
    have := ver_up h ha d b hb; omega
  · exact c
  · obtain ⟨d, rfl⟩ : ∃ d, i = j + d + 1 := ⟨i - j - 1, by omega⟩
    have := ver_up h hb d a ha; omega

theorem stands_spec (l : List Bt) (hl : l.length < 281474976710656) (hf : ∀ b ∈ l, b.fit) (hcl : ∀ b ∈ l, b.ch.length < 281474976710656) (ds : List Dd) (hdl : ds.length < 281474976710656) (hdf : ∀ d ∈ ds, d.fit) (zs ys : List PV) (hzs : zs = btP l) (hys : ys = ddP ds) :
    FnL Try.prog 20 [.p (.sl zs), .p (.sl ys)] [] fun v own => ∃ n e : Int, ((lsnd l ∧ e = 0 ∧ isFst (sbad l ds) ds.length n) ∨ (¬ lsnd l ∧ e = 2 ∧ n = 0)) ∧ v = .p (.tup [.int .i64 n, .int .i64 e]) ∧ own = [] := by
  refine FnL.flat (R := fun v own => ∃ n e : Int, ((lsnd l ∧ e = 0 ∧ isFst (sbad l ds) ds.length n) ∨ (¬ lsnd l ∧ e = 2 ∧ n = 0)) ∧ v = .p (.tup [.int .i64 n, .int .i64 e])) ?_ (by rintro _ _ ⟨n, e, h, rfl⟩; exact ⟨_, _, rfl, .refl _, n, e, h, rfl, rfl⟩)
  have hck := check22_spec l hl hf zs hzs
  have hzl : zs.length = l.length := by rw [hzs, btP_length]
  have hget : ∀ (i : Nat) (z : PV), zs[i]? = some z → ∃ a : Bt, l[i]? = some a ∧ z = .agg [.int .i64 a.prev, .int .i64 a.ver, .int .i64 a.known, .sl (cP a.ch)] := fun i z h => by
    rw [hzs] at h; unfold btP at h; rw [List.getElem?_map] at h
    cases hp : l[i]? with
    | none => rw [hp] at h; cases h
    | some a => rw [hp] at h; cases h; exact ⟨a, rfl, rfl⟩
  have hidx := fun (b0a b0b b0c b0d b0e b0f b0g b0h : PV) (n : Int) (hn : b0f = .int .i64 n) => btsIdx zs l.length hzl (by omega) (fun i z h => by obtain ⟨a, _, rfl⟩ := hget i z h; exact ⟨rfl, rfl⟩) 35 b0a b0b b0c b0d b0e b0f b0g b0h (fun i => match l[i]? with | some a => decide (a.ver = n) | none => false) (fun i z h => by
    obtain ⟨a, ha, rfl⟩ := hget i z h
    rw [ha]; exact stands1_spec _ _ _ _ _ _ _ _ _ _ _ _ n hn)
  obtain ⟨N, hN⟩ : ∃ N, N = ds.length := ⟨_, rfl⟩
  have hyl : ys.length = N := by rw [hys, ddP_length, hN]
  rw [← hN] at hdl ⊢
  refine fn_of_vc eOk fOk fo20 Try.func20 rfl rfl rfl fun B hB => ?_
  intro add sub mul quo rem band bor bxor bclr shl shr ieq ilt ile seq slt beq bnot orb bcond iwrap iof ssz hA cat sq sl imin imax smin smax len slen u8 hL op hop call hcall code hcode ret hret
  have hlen : len ys = Int.ofNat N := by rw [hL.len, hyl]; rfl
  cbv
  refine hcall _ _ _ _ _ (CallEv.same hck rfl ?_)
  rintro _ _ ⟨e, he, rfl, rfl⟩
  cbv
  by_cases h0 : e = 0
  · have hs : lsnd l := by rcases he with c | c; exact c.2; omega
    refine vcIf.no (by first | (simp [hA.not, hA.eq, hA.lt, hA.le, hA.cond, hA.beq, hA.orb, hL.len, hL.slen, hL.sq, h0]; done) | (simp only [h0]; simp [hA.not, hA.eq, hA.lt, hA.le, hA.cond, hA.beq, hA.orb, hL.len, hL.slen, hL.sq, h0]; done) | (simp [hA.not, hA.eq, hA.lt, hA.le, hA.cond, hA.beq, hA.orb, hL.len, hL.slen, hL.sq, h0]; omega) | (simp only [h0]; simp [hA.not, hA.eq, hA.lt, hA.le, hA.cond, hA.beq, hA.orb, hL.len, hL.slen, hL.sq, h0]; omega)) ?_
    cbv
    rw [hlen]
    refine hcode _ _ _ (CodeEv.loop eOk fOk (ι := Nat) (fun s => [(0, .p (.sl zs)), (15, .p (.sl ys)), (16, .p (.int .i64 (Int.ofNat N))), (17, .p (.int .i64 (Int.ofNat s)))])
      (fun s => []) (fun s => s ≤ N ∧ ∀ j, j < s → ¬ sbad l ds j) (fun s => N - s) 0 ?_ ?_)
    · exact ⟨(by repeat (first | exact trivial | refine And.intro rfl ?_)), rfl, Nat.zero_le _, fun j h => absurd h (Nat.not_lt_zero j)⟩
    rintro i ⟨k1, k2⟩ rd hrd
    by_cases hi : i < N
    · refine Exists.elim (get_of_lt (show i < ds.length by omega)) fun d hd => ?_
      have hdm := List.mem_of_getElem? hd
      have hdfd := hdf d hdm
      have hrb := sbad_iff (l := l) hd
      have hzi : ys[i]? = some (.agg [.int .i64 d.g, .int .i64 d.b, .int .i64 d.e, .int .i64 d.r, .int .i64 d.o, .int .i64 d.w, .sl (snP d.seen), .sl (cP d.ch)]) := by rw [hys]; exact ddP_get hd
      refine Exists.elim (bool_of (d.o = 1 ∧ 0 < d.ch.length)) fun Dn hDn => ?_
      have hdn := pdone_spec d.g d.b d.e d.r d.o d.w (snP d.seen) (cP d.ch) d.ch.length (cP_length _) Dn hDn
      have hix := hidx (.int .i64 d.g) (.int .i64 d.b) (.int .i64 d.e) (.int .i64 d.r) (.int .i64 d.o) (.int .i64 d.w) (.sl (snP d.seen)) (.sl (cP d.ch)) d.w rfl
      have hhas := fun (b : Bt) (hb : b ∈ l) => hasCh_spec b.ch d.ch (hcl b hb) hdfd.2.2.1 (cP b.ch) (cP d.ch) rfl rfl
      have hskip : Dn ≠ true → ¬ sbad l ds i := fun h c => h (hDn.2 (hrb.1 c).1)
      have hnone : Dn = true → (∀ j, j < l.length → (match l[j]? with | some a => decide (a.ver = d.w) | none => false) = false) → sbad l ds i := fun h h2 => hrb.2 ⟨hDn.1 h, fun ⟨k, b, hk1, hk2, _⟩ => by
        have := h2 k (List.getElem?_eq_some_iff.1 hk1).1
        rw [hk1] at this; simp only at this; rw [decide_eq_true hk2] at this; cases this⟩
      have hthere : ∀ (k : Nat) (b : Bt), l[k]? = some b → b.ver = d.w → subCh b.ch d.ch → ¬ sbad l ds i := fun k b h1 h2 h3 c => (hrb.1 c).2 ⟨k, b, h1, h2, h3⟩
      have hnot : ∀ (k : Nat) (b : Bt), Dn = true → l[k]? = some b → b.ver = d.w → ¬ subCh b.ch d.ch → sbad l ds i := fun k b h h1 h2 h3 => hrb.2 ⟨hDn.1 h, fun ⟨k', b', h1', h2', h3'⟩ => by
        have : k' = k := ver_uniq hs h1' h1 (by rw [h2', h2])
        subst this; rw [h1] at h1'; cases h1'; exact h3 h3'⟩
      clear hrb hDn hdfd hdm hd
      refine Exists.elim (show ∃ ss, ss = snP d.seen from ⟨_, rfl⟩) fun ss hss => ?_
      refine Exists.elim (show ∃ cs, cs = cP d.ch from ⟨_, rfl⟩) fun cs hcs => ?_
      rw [← hss, ← hcs] at hzi hdn hix
      simp only [← hcs] at hhas
      clear hss
      obtain ⟨dg, db, de, dr, do_, dw, dseen, dch⟩ := d
      simp only at hzi hdn hix hhas hnone hthere hnot
      intro add1 sub1 mul1 quo1 rem1 band1 bor1 bxor1 bclr1 shl1 shr1 ieq1 ilt1 ile1 seq1 slt1 beq1 bnot1 orb1 bcond1 iwrap1 iof1 ssz1 hA1 cat1 sq1 sl1 imin1 imax1 smin1 smax1 len1 slen1 u81 hL1 op1 hop1 call1 hcall1 code1 hcode1
      have hadd1 : add1 .i64 (Int.ofNat i) 1 = Int.ofNat (i + 1) := by rw [hA1.add, IntWalk.i64_in _ (by simp only [Int.ofNat_eq_natCast]; omega)]; rfl
      cbv
      refine vcIf.yes (by first | (simp [hA1.not, hA1.eq, hA1.lt, hA1.le, hA1.cond, hA1.beq, hA1.orb, hL1.len, hL1.slen, hL1.sq, hi]; done) | (simp only [hi]; simp [hA1.not, hA1.eq, hA1.lt, hA1.le, hA1.cond, hA1.beq, hA1.orb, hL1.len, hL1.slen, hL1.sq, hi]; done) | (simp [hA1.not, hA1.eq, hA1.lt, hA1.le, hA1.cond, hA1.beq, hA1.orb, hL1.len, hL1.slen, hL1.sq, hi]; omega) | (simp only [hi]; simp [hA1.not, hA1.eq, hA1.lt, hA1.le, hA1.cond, hA1.beq, hA1.orb, hL1.len, hL1.slen, hL1.sq, hi]; omega)) ?_
      cbv
      refine ⟨i, _, rfl, hzi, rfl, ?_⟩
      cbv
      refine hcall1 _ _ _ _ _ (CallEv.same hdn rfl ?_)
      rintro _ _ ⟨rfl, rfl⟩
      cbv
      by_cases hD : Dn = true
      · have hnone := hnone hD
        have hnot := fun k b => hnot k b hD
        refine vcIf.no (by rw [hA1.not, hD]; rfl) ?_
        cbv
        have hT : TrL [.st 46 [.p (.int .i64 dg), .p (.int .i64 db), .p (.int .i64 de), .p (.int .i64 dr), .p (.int .i64 do_), .p (.int .i64 dw), .p (.sl ss), .p (.sl cs)]] [] [0] [.own 0 0] [.imm 8 (.agg [.int .i64 dg, .int .i64 db, .int .i64 de, .int .i64 dr, .int .i64 do_, .int .i64 dw, .sl ss, .sl cs]) 0] :=
          .cons (Tr.box (qs := [.int .i64 dg, .int .i64 db, .int .i64 de, .int .i64 dr, .int .i64 do_, .int .i64 dw, .sl ss, .sl cs]) (by decide) rfl (by intro u hu; simp at hu; rcases hu with rfl | rfl | rfl | rfl | rfl | rfl | rfl | rfl <;> rfl)) .nil
        refine hcall1 _ _ _ _ _ (CallEv.shown [] [0] hix rfl (.cons (.p _) (.cons (.fn _ _ _ hT.1 hT.2) .nil)) trivial ?_)
        rintro _ _ ⟨k, hk, rfl, rfl⟩
        refine ⟨.p _ (.int _ _), (by intro r hr; cases hr), ?_⟩
        clear hT
        cbv
        refine hcode1 _ _ _ (CodeEv.drawT eOk fOk (by kernel_rfl) noX (.so 0 (.so 1 (.so 2 (.rd 3 (.rd 4 (.rd 5 (.rd 6 (.rd 7 (.so 8 (.so 9 (.acts (.cons 10 (.so 11 (.so 12 (.done))) (.nil))))))))))))) (by kernel_rfl) (by kernel_rfl) ?_)
        intro add2 sub2 mul2 quo2 rem2 band2 bor2 bxor2 bclr2 shl2 shr2 ieq2 ilt2 ile2 seq2 slt2 beq2 bnot2 orb2 bcond2 iwrap2 iof2 ssz2 hA2 cat2 sq2 sl2 imin2 imax2 smin2 smax2 len2 slen2 u82 hL2 op2 hop2 call2 hcall2 code2 hcode2 q2 hq2
        cbv
        rcases hk with ⟨hk1, hk2⟩ | ⟨q, hk2, hk1, hk3, hk4⟩
        · have hfst := isFst.at hi (hnone hk2) k2
          have hk0 : k < 0 := by omega
          refine vcIf.yes (by first | (simp [hA2.not, hA2.eq, hA2.lt, hA2.le, hA2.cond, hA2.beq, hA2.orb, hL2.len, hL2.slen, hL2.sq, hk0]; done) | (simp only [hk0]; simp [hA2.not, hA2.eq, hA2.lt, hA2.le, hA2.cond, hA2.beq, hA2.orb, hL2.len, hL2.slen, hL2.sq, hk0]; done) | (simp [hA2.not, hA2.eq, hA2.lt, hA2.le, hA2.cond, hA2.beq, hA2.orb, hL2.len, hL2.slen, hL2.sq, hk0]; omega) | (simp only [hk0]; simp [hA2.not, hA2.eq, hA2.lt, hA2.le, hA2.cond, hA2.beq, hA2.orb, hL2.len, hL2.slen, hL2.sq, hk0]; omega)) ?_
          cbv
          refine hq2 _ ?_
          cbv
          exact hret _ (RetEv.ret eOk rfl ⟨_, 0, .inl ⟨hs, rfl, hfst⟩, rfl⟩)
        · have hk0 : ¬ k < 0 := by rw [hk1]; simp only [Int.ofNat_eq_natCast]; omega
          refine Exists.elim (get_of_lt hk2) fun b hb => ?_
          have hbm := List.mem_of_getElem? hb
          have hbv : b.ver = dw := by rw [hb] at hk3; exact of_decide_eq_true hk3
          have hzq : zs[q]? = some (.agg [.int .i64 b.prev, .int .i64 b.ver, .int .i64 b.known, .sl (cP b.ch)]) := by rw [hzs]; exact btP_get hb
          have hhas := hhas b hbm
          have hnot := hnot q b hb hbv
          have hthere := hthere q b hb hbv
          refine Exists.elim (show ∃ Q : Prop, Q = subCh b.ch dch from ⟨_, rfl⟩) fun Q hQ => ?_
          rw [← hQ] at hhas hnot hthere
          clear hk3 hk4 hb hbm hbv hnone hQ
          obtain ⟨bp, bv, bk, bc⟩ := b
          simp only at hzq hhas
          refine Exists.elim (show ∃ bs, bs = cP bc from ⟨_, rfl⟩) fun bs hbs => ?_
          rw [← hbs] at hzq hhas
          clear hbs
          refine vcIf.no (by first | (simp [hA2.not, hA2.eq, hA2.lt, hA2.le, hA2.cond, hA2.beq, hA2.orb, hL2.len, hL2.slen, hL2.sq, hk0]; done) | (simp only [hk0]; simp [hA2.not, hA2.eq, hA2.lt, hA2.le, hA2.cond, hA2.beq, hA2.orb, hL2.len, hL2.slen, hL2.sq, hk0]; done) | (simp [hA2.not, hA2.eq, hA2.lt, hA2.le, hA2.cond, hA2.beq, hA2.orb, hL2.len, hL2.slen, hL2.sq, hk0]; omega) | (simp only [hk0]; simp [hA2.not, hA2.eq, hA2.lt, hA2.le, hA2.cond, hA2.beq, hA2.orb, hL2.len, hL2.slen, hL2.sq, hk0]; omega)) ?_
          cbv
          refine ⟨q, _, hk1, hzq, rfl, ?_⟩
          cbv
          refine hcall2 _ _ _ _ _ (CallEv.same hhas rfl ?_)
          rintro _ _ ⟨R, hR, rfl, rfl⟩
          cbv
          refine hq2 _ ?_
          cbv
          by_cases hRt : R = true
          · have hnx := not_next k2 (hthere (hR.1 hRt))
            refine vcIf.no (by first | (simp [hA2.not, hA2.eq, hA2.lt, hA2.le, hA2.cond, hA2.beq, hA2.orb, hL2.len, hL2.slen, hL2.sq, cond, hRt]; done) | (simp only [cond, hRt]; simp [hA2.not, hA2.eq, hA2.lt, hA2.le, hA2.cond, hA2.beq, hA2.orb, hL2.len, hL2.slen, hL2.sq, cond, hRt]; done) | (simp [hA2.not, hA2.eq, hA2.lt, hA2.le, hA2.cond, hA2.beq, hA2.orb, hL2.len, hL2.slen, hL2.sq, cond, hRt]; omega) | (simp only [cond, hRt]; simp [hA2.not, hA2.eq, hA2.lt, hA2.le, hA2.cond, hA2.beq, hA2.orb, hL2.len, hL2.slen, hL2.sq, cond, hRt]; omega)) ?_
            cbv
            refine hrd _ ⟨i + 1, _, ?_, ⟨hi, hnx⟩, rfl, ⟨rfl, rfl, rfl, ?_, trivial⟩, rfl, rfl, rfl, ?_⟩
            · show N - (i + 1) < N - i
              omega
            · show some (V.p (.int .i64 _)) = _
              rw [hadd1]
            · rw [hB]; exact Nat.zero_le _
          · have hfst := isFst.at hi (hnot fun c => hRt (hR.2 c)) k2
            refine vcIf.yes (by first | (simp [hA2.not, hA2.eq, hA2.lt, hA2.le, hA2.cond, hA2.beq, hA2.orb, hL2.len, hL2.slen, hL2.sq, cond, hRt]; done) | (simp only [cond, hRt]; simp [hA2.not, hA2.eq, hA2.lt, hA2.le, hA2.cond, hA2.beq, hA2.orb, hL2.len, hL2.slen, hL2.sq, cond, hRt]; done) | (simp [hA2.not, hA2.eq, hA2.lt, hA2.le, hA2.cond, hA2.beq, hA2.orb, hL2.len, hL2.slen, hL2.sq, cond, hRt]; omega) | (simp only [cond, hRt]; simp [hA2.not, hA2.eq, hA2.lt, hA2.le, hA2.cond, hA2.beq, hA2.orb, hL2.len, hL2.slen, hL2.sq, cond, hRt]; omega)) ?_
            cbv
            exact hret _ (RetEv.ret eOk rfl ⟨_, 0, .inl ⟨hs, rfl, hfst⟩, rfl⟩)
      · have hnx := not_next k2 (hskip hD)
        refine vcIf.yes (by rw [hA1.not, Bool.eq_false_iff.2 hD]; rfl) ?_
        cbv
        refine hrd _ ⟨i + 1, _, ?_, ⟨hi, hnx⟩, rfl, ⟨rfl, rfl, rfl, ?_, trivial⟩, rfl, rfl, rfl, ?_⟩
        · show N - (i + 1) < N - i
          omega
        · show some (V.p (.int .i64 _)) = _
          rw [hadd1]
        · rw [hB]; exact Nat.zero_le _
    · have hfst : isFst (sbad l ds) N (-1) := isFst.none fun j hj => k2 j (by omega)
      intro add1 sub1 mul1 quo1 rem1 band1 bor1 bxor1 bclr1 shl1 shr1 ieq1 ilt1 ile1 seq1 slt1 beq1 bnot1 orb1 bcond1 iwrap1 iof1 ssz1 hA1 cat1 sq1 sl1 imin1 imax1 smin1 smax1 len1 slen1 u81 hL1 op1 hop1 call1 hcall1 code1 hcode1
      cbv
      refine vcIf.no (by first | (simp [hA1.not, hA1.eq, hA1.lt, hA1.le, hA1.cond, hA1.beq, hA1.orb, hL1.len, hL1.slen, hL1.sq, hi]; done) | (simp only [hi]; simp [hA1.not, hA1.eq, hA1.lt, hA1.le, hA1.cond, hA1.beq, hA1.orb, hL1.len, hL1.slen, hL1.sq, hi]; done) | (simp [hA1.not, hA1.eq, hA1.lt, hA1.le, hA1.cond, hA1.beq, hA1.orb, hL1.len, hL1.slen, hL1.sq, hi]; omega) | (simp only [hi]; simp [hA1.not, hA1.eq, hA1.lt, hA1.le, hA1.cond, hA1.beq, hA1.orb, hL1.len, hL1.slen, hL1.sq, hi]; omega)) ?_
      cbv
      exact hret _ (RetEv.ret eOk rfl ⟨-1, 0, .inl ⟨hs, rfl, hfst⟩, rfl⟩)
  · have hs : ¬ lsnd l := by rcases he with c | c; exact absurd c.1 h0; exact c.2
    have h2 : e = 2 := by rcases he with c | c; exact absurd c.1 h0; exact c.1
    refine vcIf.yes (by first | (simp [hA.not, hA.eq, hA.lt, hA.le, hA.cond, hA.beq, hA.orb, hL.len, hL.slen, hL.sq, h0]; done) | (simp only [h0]; simp [hA.not, hA.eq, hA.lt, hA.le, hA.cond, hA.beq, hA.orb, hL.len, hL.slen, hL.sq, h0]; done) | (simp [hA.not, hA.eq, hA.lt, hA.le, hA.cond, hA.beq, hA.orb, hL.len, hL.slen, hL.sq, h0]; omega) | (simp only [h0]; simp [hA.not, hA.eq, hA.lt, hA.le, hA.cond, hA.beq, hA.orb, hL.len, hL.slen, hL.sq, h0]; omega)) ?_
    cbv
    exact hret _ (RetEv.ret eOk rfl ⟨0, e, .inr ⟨hs, h2, rfl⟩, rfl⟩)
end Go.Proofs.Ytdoikpagilmplaa
