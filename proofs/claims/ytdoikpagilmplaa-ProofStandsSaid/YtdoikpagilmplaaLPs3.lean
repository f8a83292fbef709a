/- The document's Stands. Conditions: on sizes. -/
import Derived.Test.YtdoikpagilmplaaLPs2
set_option maxRecDepth 100000
set_option maxHeartbeats 16000000
set_option linter.unusedSimpArgs false
set_option linter.unusedVariables false
namespace Go.Proofs.Ytdoikpagilmplaa
open Go Go.Lx
open Go.Sx (vcIf)

/-- A batch where a deed's changes stand. -/
def bst (l : List Bt) (d : Dd) (k : Nat) : Prop := ∃ b, l[k]? = some b ∧ b.ver = d.w ∧ subCh b.ch d.ch
theorem lt_succ_or {P : Nat → Prop} {k : Nat} : (∃ j, j < k + 1 ∧ P j) ↔ ((∃ j, j < k ∧ P j) ∨ P k) := by
  constructor
  · rintro ⟨j, h1, h2⟩
    rcases Nat.lt_succ_iff_lt_or_eq.1 h1 with c | c
    · exact .inl ⟨j, c, h2⟩
    · subst c; exact .inr h2
  · rintro (⟨j, h1, h2⟩ | h)
    · exact ⟨j, Nat.lt_succ_of_lt h1, h2⟩
    · exact ⟨k, Nat.lt_succ_self k, h⟩
theorem rstands_spec (l : List Bt) (hl : l.length < 281474976710656) (hcl : ∀ b ∈ l, b.ch.length < 281474976710656) (ds : List Dd) (hdl : ds.length < 281474976710656) (hdf : ∀ d ∈ ds, d.fit) (zs ys : List PV) (hzs : zs = btP l) (hys : ys = ddP ds) :
    FnL Try.prog 21 [.p (.sl zs), .p (.sl ys)] [] fun v own => ∃ n : Int, isFst (sbad l ds) ds.length n ∧ v = .p (.int .i64 n) ∧ own = [] := by
  refine FnL.flat (R := fun v own => ∃ n : Int, isFst (sbad l ds) ds.length n ∧ v = .p (.int .i64 n)) ?_ (by rintro _ _ ⟨n, h, rfl⟩; exact ⟨_, _, rfl, .refl _, n, h, rfl, rfl⟩)
  obtain ⟨L, hL0⟩ : ∃ L, L = l.length := ⟨_, rfl⟩
  have hzl : zs.length = L := by rw [hzs, btP_length, hL0]
  obtain ⟨N, hN⟩ : ∃ N, N = ds.length := ⟨_, rfl⟩
  have hyl : ys.length = N := by rw [hys, ddP_length, hN]
  rw [← hN] at hdl ⊢
  rw [← hL0] at hl
  refine fn_of_vc eOk fOk fo21 Try.func21 rfl rfl rfl fun B hB => ?_
  intro add sub mul quo rem band bor bxor bclr shl shr ieq ilt ile seq slt beq bnot orb bcond iwrap iof ssz hA cat sq sl imin imax smin smax len slen u8 hL op hop call hcall code hcode ret hret
  cbv
  refine hcode _ _ _ (CodeEv.loop eOk fOk (ι := Nat) (fun s => [(0, .p (.sl zs)), (1, .p (.sl ys)), (5, .p (.int .i64 (Int.ofNat s)))])
    (fun s => []) (fun s => s ≤ N ∧ ∀ j, j < s → ¬ sbad l ds j) (fun s => N - s) 0 ?_ ?_)
  · exact ⟨(by repeat (first | exact trivial | refine And.intro rfl ?_)), rfl, Nat.zero_le _, fun j h => absurd h (Nat.not_lt_zero j)⟩
  rintro i ⟨k1, k2⟩ rd hrd
  by_cases hi : i < N
  · refine Exists.elim (get_of_lt (show i < ds.length by omega)) fun d hd => ?_
    have hdm := List.mem_of_getElem? hd
    have hdfd := (hdf d hdm).2.2.1
    have hrb := sbad_iff (l := l) hd
    have hzi : ys[i]? = some (.agg [.int .i64 d.g, .int .i64 d.b, .int .i64 d.e, .int .i64 d.r, .int .i64 d.o, .int .i64 d.w, .sl (snP d.seen), .sl (cP d.ch)]) := by rw [hys]; exact ddP_get hd
    refine Exists.elim (bool_of (d.o = 1 ∧ 0 < d.ch.length)) fun Dn hDn => ?_
    have hdn := rdone_spec d.g d.b d.e d.r d.o d.w (snP d.seen) (cP d.ch) d.ch.length (cP_length _) Dn hDn
    have hskip : Dn ≠ true → ¬ sbad l ds i := fun h c => h (hDn.2 (hrb.1 c).1)
    have hend : Dn = true → ((∃ k, k < L ∧ bst l d k) ↔ ¬ sbad l ds i) := fun h => by
      rw [hrb]
      constructor
      · rintro ⟨k, _, b, h1, h2, h3⟩ c
        exact c.2 ⟨k, b, h1, h2, h3⟩
      · intro c
        rcases Classical.em (∃ (k : Nat) (b : Bt), l[k]? = some b ∧ b.ver = d.w ∧ subCh b.ch d.ch) with e | e
        · obtain ⟨k, b, h1, h2, h3⟩ := e
          exact ⟨k, by rw [hL0]; exact (List.getElem?_eq_some_iff.1 h1).1, b, h1, h2, h3⟩
        · exact absurd ⟨hDn.1 h, e⟩ c
    have hbst : ∀ (k : Nat) (b : Bt), l[k]? = some b → (bst l d k ↔ (b.ver = d.w ∧ subCh b.ch d.ch)) := fun k b h => ⟨fun ⟨b', h1, h2⟩ => by rw [h] at h1; cases h1; exact h2, fun h2 => ⟨b, h, h2⟩⟩
    refine Exists.elim (show ∃ BS : Nat → Prop, BS = bst l d from ⟨_, rfl⟩) fun BS hBS => ?_
    rw [← hBS] at hend hbst
    clear hrb hDn hdm hd hBS
    refine Exists.elim (show ∃ ss, ss = snP d.seen from ⟨_, rfl⟩) fun ss hss => ?_
    refine Exists.elim (show ∃ cs, cs = cP d.ch from ⟨_, rfl⟩) fun cs hcs => ?_
    refine Exists.elim (show ∃ M, M = d.ch.length from ⟨_, rfl⟩) fun M hM => ?_
    have hcsl : cs.length = M := by rw [hcs, cP_length, hM]
    rw [← hss, ← hcs] at hzi hdn
    rw [← hM] at hdfd
    clear hss
    obtain ⟨dg, db, de, dr, do_, dw, dseen, dch⟩ := d
    simp only at hzi hdn hbst hcs hM
    intro add1 sub1 mul1 quo1 rem1 band1 bor1 bxor1 bclr1 shl1 shr1 ieq1 ilt1 ile1 seq1 slt1 beq1 bnot1 orb1 bcond1 iwrap1 iof1 ssz1 hA1 cat1 sq1 sl1 imin1 imax1 smin1 smax1 len1 slen1 u81 hL1 op1 hop1 call1 hcall1 code1 hcode1
    have e0 : len1 ys = Int.ofNat N := by rw [hL1.len, hyl]; rfl
    have hadd1 : add1 .i64 (Int.ofNat i) 1 = Int.ofNat (i + 1) := by rw [hA1.add, IntWalk.i64_in _ (by simp only [Int.ofNat_eq_natCast]; omega)]; rfl
    cbv
    refine vcIf.yes (by first | (simp [hA1.not, hA1.eq, hA1.lt, hA1.le, hA1.cond, hA1.beq, hA1.orb, hL1.len, hL1.slen, hL1.sq, e0, hi]; done) | (simp only [e0, hi]; simp [hA1.not, hA1.eq, hA1.lt, hA1.le, hA1.cond, hA1.beq, hA1.orb, hL1.len, hL1.slen, hL1.sq, e0, hi]; done) | (simp [hA1.not, hA1.eq, hA1.lt, hA1.le, hA1.cond, hA1.beq, hA1.orb, hL1.len, hL1.slen, hL1.sq, e0, hi]; omega) | (simp only [e0, hi]; simp [hA1.not, hA1.eq, hA1.lt, hA1.le, hA1.cond, hA1.beq, hA1.orb, hL1.len, hL1.slen, hL1.sq, e0, hi]; omega)) ?_
    cbv
    refine ⟨i, _, rfl, hzi, rfl, ?_⟩
    cbv
    refine hcall1 _ _ _ _ _ (CallEv.same hdn rfl ?_)
    rintro _ _ ⟨rfl, rfl⟩
    cbv
    by_cases hD : Dn = true
    · have hend := hend hD
      refine vcIf.no (by rw [hA1.not, hD]; rfl) ?_
      cbv
      refine hcode1 _ _ _ (CodeEv.loop eOk fOk (ι := Nat × Bool) (fun s => [(0, .p (.sl zs)), (1, .p (.sl ys)), (5, .p (.int .i64 (Int.ofNat i))), (6, .p (.bool s.2)), (7, .p (.int .i64 (Int.ofNat s.1)))])
        (fun s => []) (fun s => s.1 ≤ L ∧ (s.2 = true ↔ ∃ j, j < s.1 ∧ BS j)) (fun s => L - s.1) (0, false) ?_ ?_)
      · exact ⟨(by repeat (first | exact trivial | refine And.intro rfl ?_)), rfl, Nat.zero_le _, fun c => (by cases c), fun ⟨j, h, _⟩ => absurd h (Nat.not_lt_zero j)⟩
      rintro ⟨k, R⟩ ⟨m1, m2⟩ rd2 hrd2
      simp only at m1 m2
      by_cases hk : k < L
      · refine Exists.elim (get_of_lt (show k < l.length by omega)) fun b hb => ?_
        have hbl := hcl b (List.mem_of_getElem? hb)
        have hbk := hbst k b hb
        have hzk : zs[k]? = some (.agg [.int .i64 b.prev, .int .i64 b.ver, .int .i64 b.known, .sl (cP b.ch)]) := by rw [hzs]; exact btP_get hb
        refine Exists.elim (show ∃ av, av = cP b.ch from ⟨_, rfl⟩) fun av has => ?_
        refine Exists.elim (show ∃ A, A = b.ch.length from ⟨_, rfl⟩) fun A hAA => ?_
        have hasl : av.length = A := by rw [has, cP_length, hAA]
        rw [← has] at hzk
        rw [← hAA] at hbl
        have hstn : ∀ j, j + M ≤ A → ∀ Rb : Bool, (Rb = true ↔ stand b.ch dch j) → ∀ u, u = (av.drop j).take M → FnL Try.prog 38 [.p (.sl u), .p (.sl cs)] [] fun v own => v = .p (.bool Rb) ∧ own = [] := fun j hj Rb hRb u hu => by
          refine rSame_spec ((b.ch.drop j).take M) dch (by rw [List.length_take]; omega) (by omega) Rb ?_ u cs (by rw [hu, has]; unfold cP; rw [List.map_take, List.map_drop]) hcs
          rw [hRb]; unfold stand; rw [← hM, ← hAA]
          exact ⟨fun h => h.2, fun h => ⟨hj, h⟩⟩
        have hsub : ∀ j, A < j + M → (subCh b.ch dch ↔ ∃ q, q < j ∧ stand b.ch dch q) := fun j hj => by
          constructor
          · rintro ⟨q, hq⟩
            have := hq.1
            exact ⟨q, by omega, hq⟩
          · rintro ⟨q, _, hq⟩; exact ⟨q, hq⟩
        have hcw : ∀ y : PV, y ∈ av → y.cells.length = 3 := fun y hy => by rw [has] at hy; exact (cP_wf b.ch y hy).1
        clear hb has hAA
        refine Exists.elim (show ∃ ST : Nat → Prop, ST = stand b.ch dch from ⟨_, rfl⟩) fun ST hST => ?_
        rw [← hST] at hstn hsub
        refine Exists.elim (show ∃ SU : Prop, SU = subCh b.ch dch from ⟨_, rfl⟩) fun SU hSU => ?_
        rw [← hSU] at hsub hbk
        clear hST hSU
        obtain ⟨bp, bv, bk, bc⟩ := b
        simp only at hzk hbk
        have hnx2 : ∀ R' : Bool, (R' = true ↔ ((∃ j, j < k ∧ BS j) ∨ BS k)) → (R' = true ↔ ∃ j, j < k + 1 ∧ BS j) := fun R' h => h.trans lt_succ_or.symm
        intro add2 sub2 mul2 quo2 rem2 band2 bor2 bxor2 bclr2 shl2 shr2 ieq2 ilt2 ile2 seq2 slt2 beq2 bnot2 orb2 bcond2 iwrap2 iof2 ssz2 hA2 cat2 sq2 sl2 imin2 imax2 smin2 smax2 len2 slen2 u82 hL2 op2 hop2 call2 hcall2 code2 hcode2
        have e2 : len2 zs = Int.ofNat L := by rw [hL2.len, hzl]; rfl
        have hadd2 : add2 .i64 (Int.ofNat k) 1 = Int.ofNat (k + 1) := by rw [hA2.add, IntWalk.i64_in _ (by simp only [Int.ofNat_eq_natCast]; omega)]; rfl
        cbv
        refine vcIf.yes (by first | (simp [hA2.not, hA2.eq, hA2.lt, hA2.le, hA2.cond, hA2.beq, hA2.orb, hL2.len, hL2.slen, hL2.sq, e2, hk]; done) | (simp only [e2, hk]; simp [hA2.not, hA2.eq, hA2.lt, hA2.le, hA2.cond, hA2.beq, hA2.orb, hL2.len, hL2.slen, hL2.sq, e2, hk]; done) | (simp [hA2.not, hA2.eq, hA2.lt, hA2.le, hA2.cond, hA2.beq, hA2.orb, hL2.len, hL2.slen, hL2.sq, e2, hk]; omega) | (simp only [e2, hk]; simp [hA2.not, hA2.eq, hA2.lt, hA2.le, hA2.cond, hA2.beq, hA2.orb, hL2.len, hL2.slen, hL2.sq, e2, hk]; omega)) ?_
        cbv
        refine hcode2 _ _ _ (CodeEv.drawT eOk fOk (by kernel_rfl) noX (.rd 0 (.rd 1 (.rd 2 (.rd 3 (.rd 4 (.rd 5 (.rd 6 (.rd 7 (.rd 8 (.rd 9 (.so 10 (.so 11 (.done))))))))))))) (by kernel_rfl) (by kernel_rfl) ?_)
        intro add3 sub3 mul3 quo3 rem3 band3 bor3 bxor3 bclr3 shl3 shr3 ieq3 ilt3 ile3 seq3 slt3 beq3 bnot3 orb3 bcond3 iwrap3 iof3 ssz3 hA3 cat3 sq3 sl3 imin3 imax3 smin3 smax3 len3 slen3 u83 hL3 op3 hop3 call3 hcall3 code3 hcode3 q3 hq3
        cbv
        refine ⟨k, _, rfl, hzk, rfl, ?_⟩
        cbv
        refine ⟨i, _, rfl, hzi, rfl, ?_⟩
        cbv
        refine hq3 _ ?_
        cbv
        refine hcode2 _ _ _ (CodeEv.loop eOk fOk (ι := Nat × Bool) (fun s => [(0, .p (.sl zs)), (1, .p (.sl ys)), (5, .p (.int .i64 (Int.ofNat i))), (6, .p (.bool s.2)), (7, .p (.int .i64 (Int.ofNat k))), (8, .p (.sl av)), (9, .p (.sl cs)), (10, .p (.int .i64 (Int.ofNat s.1)))])
          (fun s => []) (fun s => s.1 ≤ A + 1 ∧ (s.2 = true ↔ ((∃ j, j < k ∧ BS j) ∨ (bv = dw ∧ ∃ j, j < s.1 ∧ ST j)))) (fun s => A + 1 - s.1) (0, R) ?_ ?_)
        · exact ⟨(by repeat (first | exact trivial | refine And.intro rfl ?_)), rfl, Nat.zero_le _, by rw [m2]; exact ⟨fun h => .inl h, fun h => h.elim id fun c => by obtain ⟨_, j, h, _⟩ := c; exact absurd h (Nat.not_lt_zero j)⟩⟩
        rintro ⟨j, Rj⟩ ⟨n1, n2⟩ rd4 hrd4
        simp only at n1 n2
        by_cases hv : bv = dw
        · by_cases hj : j + M ≤ A
          · refine Exists.elim (bool_of (ST j)) fun Rs hRs => ?_
            have hsame := hstn j hj Rs hRs
            refine Exists.elim (show ∃ e, e = j + M from ⟨_, rfl⟩) fun e he => ?_
            have hel : e ≤ av.length := by omega
            have hsame := hsame ((av.drop j).take (e - j)) (by rw [he, Nat.add_sub_cancel_left])
            have hnx4 : ∀ R' : Bool, (R' = true ↔ (Rj = true ∨ Rs = true)) → (R' = true ↔ ((∃ j, j < k ∧ BS j) ∨ (bv = dw ∧ ∃ q, q < j + 1 ∧ ST q))) := fun R' h => by
              rw [h, n2, hRs, lt_succ_or]
              constructor
              · rintro ((h | ⟨h1, h2⟩) | h)
                · exact .inl h
                · exact .inr ⟨h1, .inl h2⟩
                · exact .inr ⟨hv, .inr h⟩
              · rintro (h | ⟨h1, h2 | h2⟩)
                · exact .inl (.inl h)
                · exact .inl (.inr ⟨h1, h2⟩)
                · exact .inr h2
            intro add4 sub4 mul4 quo4 rem4 band4 bor4 bxor4 bclr4 shl4 shr4 ieq4 ilt4 ile4 seq4 slt4 beq4 bnot4 orb4 bcond4 iwrap4 iof4 ssz4 hA4 cat4 sq4 sl4 imin4 imax4 smin4 smax4 len4 slen4 u84 hL4 op4 hop4 call4 hcall4 code4 hcode4
            have hadd4 : add4 .i64 (Int.ofNat j) 1 = Int.ofNat (j + 1) := by rw [hA4.add, IntWalk.i64_in _ (by simp only [Int.ofNat_eq_natCast]; omega)]; rfl
            have e5 : len4 cs = Int.ofNat M := by rw [hL4.len, hcsl]; rfl
            have hje : add4 .i64 (Int.ofNat j) (len4 cs) = Int.ofNat e := by rw [e5, hA4.add, IntWalk.i64_in _ (by simp only [Int.ofNat_eq_natCast]; omega), he]; rfl
            cbv
            refine hcode4 _ _ _ (CodeEv.drawT eOk fOk (by kernel_rfl) noX (.rd 0 (.rd 1 (.rd 2 (.rd 3 (.rd 4 (.rd 5 (.so 6 (.so 7 (.so 8 (.so 9 (.so 10 (.so 11 (.rd 12 (.rd 13 (.rd 14 (.so 15 (.so 16 (.so 17 (.so 18 (.so 19 (.done))))))))))))))))))))) (by kernel_rfl) (by kernel_rfl) ?_)
            intro add5 sub5 mul5 quo5 rem5 band5 bor5 bxor5 bclr5 shl5 shr5 ieq5 ilt5 ile5 seq5 slt5 beq5 bnot5 orb5 bcond5 iwrap5 iof5 ssz5 hA5 cat5 sq5 sl5 imin5 imax5 smin5 smax5 len5 slen5 u85 hL5 op5 hop5 call5 hcall5 code5 hcode5 q5 hq5
            have e6 : sub5 .i64 (len5 av) (len5 cs) = (A : Int) - M := by rw [hL5.len, hL5.len, hasl, hcsl, hA5.sub, IntWalk.i64_in _ (by omega)]
            cbv
            refine ⟨k, _, rfl, hzk, rfl, ?_⟩
            cbv
            refine ⟨i, _, rfl, hzi, rfl, ?_⟩
            cbv
            refine vcIf.yes (by first | (simp [hA5.not, hA5.eq, hA5.lt, hA5.le, hA5.cond, hA5.beq, hA5.orb, hL5.len, hL5.slen, hL5.sq, hv]; done) | (simp only [hv]; simp [hA5.not, hA5.eq, hA5.lt, hA5.le, hA5.cond, hA5.beq, hA5.orb, hL5.len, hL5.slen, hL5.sq, hv]; done) | (simp [hA5.not, hA5.eq, hA5.lt, hA5.le, hA5.cond, hA5.beq, hA5.orb, hL5.len, hL5.slen, hL5.sq, hv]; omega) | (simp only [hv]; simp [hA5.not, hA5.eq, hA5.lt, hA5.le, hA5.cond, hA5.beq, hA5.orb, hL5.len, hL5.slen, hL5.sq, hv]; omega)) ?_
            cbv
            refine hq5 _ ?_
            cbv
            refine vcIf.yes (by rw [e6, hA5.le, decide_eq_true (show (Int.ofNat j : Int) ≤ (A : Int) - M by simp only [Int.ofNat_eq_natCast]; omega)]; simp [hA5.cond, cond]) ?_
            cbv
            by_cases hRj : Rj = true
            · have hnx := hnx4 true ⟨fun _ => .inl hRj, fun _ => rfl⟩
              refine vcIf.yes hRj ?_
              cbv
              refine hrd4 _ ⟨(j + 1, true), _, ?_, ⟨by omega, hnx⟩, rfl, ⟨rfl, rfl, rfl, rfl, rfl, rfl, rfl, ?_, trivial⟩, rfl, rfl, rfl, ?_⟩
              · show A + 1 - (j + 1) < A + 1 - j
                omega
              · show some (V.p (.int .i64 _)) = _
                rw [hadd4]
              · rw [hB]; exact Nat.zero_le _
            · have hnx := hnx4 Rs ⟨fun h => .inr h, fun h => h.elim (fun c => absurd c hRj) id⟩
              refine vcIf.no (Bool.eq_false_iff.2 hRj) ?_
              cbv
              refine ⟨j, e, av.length, rfl, hje, rfl, by omega, hel, Nat.le_refl _, hcw, fun u hu => ?_⟩
              cbv
              refine hcall4 _ _ _ _ _ (CallEv.same (by rw [hu]; exact hsame) rfl ?_)
              rintro _ _ ⟨rfl, rfl⟩
              cbv
              refine hrd4 _ ⟨(j + 1, Rs), _, ?_, ⟨by omega, hnx⟩, rfl, ⟨rfl, rfl, rfl, ?_, rfl, rfl, rfl, ?_, trivial⟩, rfl, rfl, rfl, ?_⟩
              · show A + 1 - (j + 1) < A + 1 - j
                omega
              · show some (V.p (.bool (bcond4 false true Rs))) = _
                rw [hA4.cond]; rfl
              · show some (V.p (.int .i64 _)) = _
                rw [hadd4]
              · rw [hB]; exact Nat.zero_le _
          · have hg := hnx2 Rj (by
              rw [n2, hbk, hsub j (by omega)])
            intro add4 sub4 mul4 quo4 rem4 band4 bor4 bxor4 bclr4 shl4 shr4 ieq4 ilt4 ile4 seq4 slt4 beq4 bnot4 orb4 bcond4 iwrap4 iof4 ssz4 hA4 cat4 sq4 sl4 imin4 imax4 smin4 smax4 len4 slen4 u84 hL4 op4 hop4 call4 hcall4 code4 hcode4
            have hadd4 : True := trivial
            cbv
            refine hcode4 _ _ _ (CodeEv.drawT eOk fOk (by kernel_rfl) noX (.rd 0 (.rd 1 (.rd 2 (.rd 3 (.rd 4 (.rd 5 (.so 6 (.so 7 (.so 8 (.so 9 (.so 10 (.so 11 (.rd 12 (.rd 13 (.rd 14 (.so 15 (.so 16 (.so 17 (.so 18 (.so 19 (.done))))))))))))))))))))) (by kernel_rfl) (by kernel_rfl) ?_)
            intro add5 sub5 mul5 quo5 rem5 band5 bor5 bxor5 bclr5 shl5 shr5 ieq5 ilt5 ile5 seq5 slt5 beq5 bnot5 orb5 bcond5 iwrap5 iof5 ssz5 hA5 cat5 sq5 sl5 imin5 imax5 smin5 smax5 len5 slen5 u85 hL5 op5 hop5 call5 hcall5 code5 hcode5 q5 hq5
            have e6 : sub5 .i64 (len5 av) (len5 cs) = (A : Int) - M := by rw [hL5.len, hL5.len, hasl, hcsl, hA5.sub, IntWalk.i64_in _ (by omega)]
            cbv
            refine ⟨k, _, rfl, hzk, rfl, ?_⟩
            cbv
            refine ⟨i, _, rfl, hzi, rfl, ?_⟩
            cbv
            refine vcIf.yes (by first | (simp [hA5.not, hA5.eq, hA5.lt, hA5.le, hA5.cond, hA5.beq, hA5.orb, hL5.len, hL5.slen, hL5.sq, hv]; done) | (simp only [hv]; simp [hA5.not, hA5.eq, hA5.lt, hA5.le, hA5.cond, hA5.beq, hA5.orb, hL5.len, hL5.slen, hL5.sq, hv]; done) | (simp [hA5.not, hA5.eq, hA5.lt, hA5.le, hA5.cond, hA5.beq, hA5.orb, hL5.len, hL5.slen, hL5.sq, hv]; omega) | (simp only [hv]; simp [hA5.not, hA5.eq, hA5.lt, hA5.le, hA5.cond, hA5.beq, hA5.orb, hL5.len, hL5.slen, hL5.sq, hv]; omega)) ?_
            cbv
            refine hq5 _ ?_
            cbv
            refine vcIf.no (by rw [e6, hA5.le, decide_eq_false (show ¬ (Int.ofNat j : Int) ≤ (A : Int) - M by simp only [Int.ofNat_eq_natCast]; omega)]; simp [hA5.cond, cond]) ?_
            cbv
            refine hrd2 _ ⟨(k + 1, Rj), _, ?_, ⟨hk, hg⟩, rfl, ⟨rfl, rfl, rfl, rfl, ?_, trivial⟩, rfl, rfl, rfl, ?_⟩
            · show L - (k + 1) < L - k
              omega
            · show some (V.p (.int .i64 _)) = _
              rw [hadd2]
            · rw [hB]; exact Nat.zero_le _
        · have hg := hnx2 Rj (by
            rw [n2, hbk]
            constructor
            · rintro (h | h)
              · exact .inl h
              · exact absurd h.1 hv
            · rintro (h | h)
              · exact .inl h
              · exact absurd h.1 hv)
          intro add4 sub4 mul4 quo4 rem4 band4 bor4 bxor4 bclr4 shl4 shr4 ieq4 ilt4 ile4 seq4 slt4 beq4 bnot4 orb4 bcond4 iwrap4 iof4 ssz4 hA4 cat4 sq4 sl4 imin4 imax4 smin4 smax4 len4 slen4 u84 hL4 op4 hop4 call4 hcall4 code4 hcode4
          cbv
          refine hcode4 _ _ _ (CodeEv.drawT eOk fOk (by kernel_rfl) noX (.rd 0 (.rd 1 (.rd 2 (.rd 3 (.rd 4 (.rd 5 (.so 6 (.so 7 (.so 8 (.so 9 (.so 10 (.so 11 (.rd 12 (.rd 13 (.rd 14 (.so 15 (.so 16 (.so 17 (.so 18 (.so 19 (.done))))))))))))))))))))) (by kernel_rfl) (by kernel_rfl) ?_)
          intro add5 sub5 mul5 quo5 rem5 band5 bor5 bxor5 bclr5 shl5 shr5 ieq5 ilt5 ile5 seq5 slt5 beq5 bnot5 orb5 bcond5 iwrap5 iof5 ssz5 hA5 cat5 sq5 sl5 imin5 imax5 smin5 smax5 len5 slen5 u85 hL5 op5 hop5 call5 hcall5 code5 hcode5 q5 hq5
          cbv
          refine ⟨k, _, rfl, hzk, rfl, ?_⟩
          cbv
          refine ⟨i, _, rfl, hzi, rfl, ?_⟩
          cbv
          refine vcIf.no (by first | (simp [hA5.not, hA5.eq, hA5.lt, hA5.le, hA5.cond, hA5.beq, hA5.orb, hL5.len, hL5.slen, hL5.sq, hv]; done) | (simp only [hv]; simp [hA5.not, hA5.eq, hA5.lt, hA5.le, hA5.cond, hA5.beq, hA5.orb, hL5.len, hL5.slen, hL5.sq, hv]; done) | (simp [hA5.not, hA5.eq, hA5.lt, hA5.le, hA5.cond, hA5.beq, hA5.orb, hL5.len, hL5.slen, hL5.sq, hv]; omega) | (simp only [hv]; simp [hA5.not, hA5.eq, hA5.lt, hA5.le, hA5.cond, hA5.beq, hA5.orb, hL5.len, hL5.slen, hL5.sq, hv]; omega)) ?_
          cbv
          refine hq5 _ ?_
          cbv
          refine hrd2 _ ⟨(k + 1, Rj), _, ?_, ⟨hk, hg⟩, rfl, ⟨rfl, rfl, rfl, rfl, ?_, trivial⟩, rfl, rfl, rfl, ?_⟩
          · show L - (k + 1) < L - k
            omega
          · show some (V.p (.int .i64 _)) = _
            rw [hadd2]
          · rw [hB]; exact Nat.zero_le _
      · have hg : R = true ↔ ¬ sbad l ds i := by rw [m2, show k = L by omega]; exact hend
        intro add2 sub2 mul2 quo2 rem2 band2 bor2 bxor2 bclr2 shl2 shr2 ieq2 ilt2 ile2 seq2 slt2 beq2 bnot2 orb2 bcond2 iwrap2 iof2 ssz2 hA2 cat2 sq2 sl2 imin2 imax2 smin2 smax2 len2 slen2 u82 hL2 op2 hop2 call2 hcall2 code2 hcode2
        have e2 : len2 zs = Int.ofNat L := by rw [hL2.len, hzl]; rfl
        cbv
        refine vcIf.no (by first | (simp [hA2.not, hA2.eq, hA2.lt, hA2.le, hA2.cond, hA2.beq, hA2.orb, hL2.len, hL2.slen, hL2.sq, e2, hk]; done) | (simp only [e2, hk]; simp [hA2.not, hA2.eq, hA2.lt, hA2.le, hA2.cond, hA2.beq, hA2.orb, hL2.len, hL2.slen, hL2.sq, e2, hk]; done) | (simp [hA2.not, hA2.eq, hA2.lt, hA2.le, hA2.cond, hA2.beq, hA2.orb, hL2.len, hL2.slen, hL2.sq, e2, hk]; omega) | (simp only [e2, hk]; simp [hA2.not, hA2.eq, hA2.lt, hA2.le, hA2.cond, hA2.beq, hA2.orb, hL2.len, hL2.slen, hL2.sq, e2, hk]; omega)) ?_
        cbv
        by_cases hRt : R = true
        · have hnx := not_next k2 (hg.1 hRt)
          refine vcIf.no (by rw [hA1.not, hRt]; rfl) ?_
          cbv
          refine hrd _ ⟨i + 1, _, ?_, ⟨hi, hnx⟩, rfl, ⟨rfl, rfl, ?_, trivial⟩, rfl, rfl, rfl, ?_⟩
          · show N - (i + 1) < N - i
            omega
          · show some (V.p (.int .i64 _)) = _
            rw [hadd1]
          · rw [hB]; exact Nat.zero_le _
        · have hfst := isFst.at hi (Classical.byContradiction fun c => hRt (hg.2 c)) k2
          refine vcIf.yes (by rw [hA1.not, Bool.eq_false_iff.2 hRt]; rfl) ?_
          cbv
          exact hret _ (RetEv.ret eOk rfl ⟨_, hfst, rfl⟩)
    · have hnx := not_next k2 (hskip hD)
      refine vcIf.yes (by rw [hA1.not, Bool.eq_false_iff.2 hD]; rfl) ?_
      cbv
      refine hrd _ ⟨i + 1, _, ?_, ⟨hi, hnx⟩, rfl, ⟨rfl, rfl, ?_, trivial⟩, rfl, rfl, rfl, ?_⟩
      · show N - (i + 1) < N - i
        omega
      · show some (V.p (.int .i64 _)) = _
        rw [hadd1]
      · rw [hB]; exact Nat.zero_le _
  · have hfst : isFst (sbad l ds) N (-1) := isFst.none fun j hj => k2 j (by omega)
    intro add1 sub1 mul1 quo1 rem1 band1 bor1 bxor1 bclr1 shl1 shr1 ieq1 ilt1 ile1 seq1 slt1 beq1 bnot1 orb1 bcond1 iwrap1 iof1 ssz1 hA1 cat1 sq1 sl1 imin1 imax1 smin1 smax1 len1 slen1 u81 hL1 op1 hop1 call1 hcall1 code1 hcode1
    have e0 : len1 ys = Int.ofNat N := by rw [hL1.len, hyl]; rfl
    cbv
    refine vcIf.no (by first | (simp [hA1.not, hA1.eq, hA1.lt, hA1.le, hA1.cond, hA1.beq, hA1.orb, hL1.len, hL1.slen, hL1.sq, e0, hi]; done) | (simp only [e0, hi]; simp [hA1.not, hA1.eq, hA1.lt, hA1.le, hA1.cond, hA1.beq, hA1.orb, hL1.len, hL1.slen, hL1.sq, e0, hi]; done) | (simp [hA1.not, hA1.eq, hA1.lt, hA1.le, hA1.cond, hA1.beq, hA1.orb, hL1.len, hL1.slen, hL1.sq, e0, hi]; omega) | (simp only [e0, hi]; simp [hA1.not, hA1.eq, hA1.lt, hA1.le, hA1.cond, hA1.beq, hA1.orb, hL1.len, hL1.slen, hL1.sq, e0, hi]; omega)) ?_
    cbv
    exact hret _ (RetEv.ret eOk rfl ⟨-1, hfst, rfl⟩)
end Go.Proofs.Ytdoikpagilmplaa
