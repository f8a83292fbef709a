/- The pairs of a ledger at a version. Conditions: on sizes. -/
import Derived.Test.YtdoikpagilmplaaLPr1
import Derived.Test.YtdoikpagilmplaaLOn5
set_option maxRecDepth 100000
set_option maxHeartbeats 16000000
set_option linter.unusedSimpArgs false
set_option linter.unusedVariables false
namespace Go.Proofs.Ytdoikpagilmplaa
open Go Go.Lx
open Go.Sx (vcIf)

/-- What changes make of pairs, one behind the other. -/
def ones (ps : List Pr) (cs : List Chg) : List Pr := cs.foldl one ps
theorem ones_next (ps : List Pr) {cs : List Chg} {k : Nat} {c : Chg} (h : cs[k]? = some c) : ones ps (cs.take (k + 1)) = one (ones ps (cs.take k)) c := by
  unfold ones; rw [List.take_add_one, h, List.foldl_append]; rfl
theorem ones_srt {ps : List Pr} (h : Srt ps) : ∀ cs, Srt (ones ps cs)
  | [] => h
  | c :: r => ones_srt (one_ok c ps h).1 r
theorem ones_len {ps : List Pr} (h : Srt ps) : ∀ cs, (ones ps cs).length ≤ ps.length + cs.length
  | [] => Nat.le_refl _
  | c :: r => by
    have h1 := ones_len (one_ok c ps h).1 r
    have h2 := one_len_le ps h c
    have e : ones ps (c :: r) = ones (one ps c) r := rfl
    rw [e, List.length_cons]; omega
/-- What a batch makes of pairs, up to a version. -/
def bat (v : Int) (ps : List Pr) (b : Bt) : List Pr := if b.ver ≤ v then ones ps b.ch else ps
def atP (l : List Bt) (v : Int) : List Pr := l.foldl (bat v) []
theorem atP_next {l : List Bt} {v : Int} {i : Nat} {b : Bt} (h : l[i]? = some b) : atP (l.take (i + 1)) v = bat v (atP (l.take i) v) b := by
  unfold atP; rw [List.take_add_one, h, List.foldl_append]; rfl
theorem srt_nil : Srt [] := List.Pairwise.nil
theorem bat_srt {v : Int} {ps : List Pr} (h : Srt ps) (b : Bt) : Srt (bat v ps b) := by
  unfold bat; split
  · exact ones_srt h _
  · exact h
theorem bat_len {v : Int} {ps : List Pr} (h : Srt ps) (b : Bt) : (bat v ps b).length ≤ ps.length + b.ch.length := by
  unfold bat; split
  · exact ones_len h _
  · omega
theorem foldl_bat_srt {v : Int} : ∀ (l : List Bt) {ps : List Pr}, Srt ps → Srt (l.foldl (bat v) ps)
  | [], _, h => h
  | b :: r, _, h => foldl_bat_srt r (bat_srt h b)
theorem atP_srt (l : List Bt) (v : Int) : Srt (atP l v) := foldl_bat_srt l srt_nil
theorem foldl_bat_len {v : Int} {M : Nat} : ∀ (l : List Bt) {ps : List Pr}, Srt ps → (∀ b ∈ l, b.ch.length ≤ M) → (l.foldl (bat v) ps).length ≤ ps.length + l.length * M
  | [], _, _, _ => by simp
  | b :: r, ps, h, hM => by
    have h1 := foldl_bat_len (v := v) r (bat_srt h b (v := v)) (fun c hc => hM c (by simp [hc]))
    have h2 := bat_len (v := v) h b
    have h3 := hM b (by simp)
    simp only [List.foldl_cons, List.length_cons, Nat.add_mul]
    omega
theorem atP_len {l : List Bt} {M : Nat} (hM : ∀ b ∈ l, b.ch.length ≤ M) (v : Int) : (atP l v).length ≤ l.length * M := by
  have := foldl_bat_len (v := v) l srt_nil hM
  simpa [atP] using this
theorem atP_take_len {l : List Bt} {M : Nat} (hM : ∀ b ∈ l, b.ch.length ≤ M) (v : Int) {i : Nat} (hi : i ≤ l.length) : (atP (l.take i) v).length ≤ i * M := by
  have := atP_len (l := l.take i) (M := M) (fun b hb => hM b (List.mem_of_mem_take hb)) v
  rwa [List.length_take, Nat.min_eq_left hi] at this
theorem chks_kind : ∀ {cs : List Chg}, chks cs = 0 → ∀ c ∈ cs, c.kind = 1 ∨ c.kind = 2 ∨ c.kind = 3
  | c :: r, h, d, hd => by
    unfold chks at h
    split at h
    · rename_i h1; exact absurd h h1
    · rename_i h1
      rcases List.mem_cons.1 hd with e | e
      · subst e
        have h1 : chk d = 0 := by omega
        unfold chk at h1
        split at h1
        · exact .inr (.inr (by assumption))
        · split at h1
          · exact .inr (.inl (by assumption))
          · split at h1
            · exact .inl (by assumption)
            · cases h1
      · exact chks_kind h d e
theorem lsnd_chks {l : List Bt} (h : lsnd l) {i : Nat} {b : Bt} (hb : l[i]? = some b) : chks b.ch = 0 := (h i (List.getElem?_eq_some_iff.1 hb).1 b hb).2.1
theorem RowP.nil : RowP [] 0 0 [] := ⟨rfl, rfl, Nat.le_refl _, (fun x hx => by cases hx), rfl⟩

theorem at_spec (l : List Bt) (v : Int) (M : Nat) (hM : ∀ b ∈ l, b.ch.length ≤ M) (hsz : (l.length * M + 1) * 32 ≤ 140737488355328) (hl : l.length < 281474976710656) (hf : ∀ b ∈ l, b.fit) (zs : List PV) (hzs : zs = btP l) :
    FnL Try.prog 11 [.p (.sl zs), .p (.int .i64 v)] [] fun r own => ((lsnd l ∧ r = .p (.tup [.sl (prP (atP l v)), .int .i64 0])) ∨ (¬ lsnd l ∧ r = .p (.tup [.nils, .int .i64 2]))) ∧ own = [] := by
  have hzl : zs.length = l.length := by rw [hzs, btP_length]
  obtain ⟨N, hN⟩ : ∃ N, N = l.length := ⟨_, rfl⟩
  obtain ⟨R, hR⟩ : ∃ R, R = prP (atP l v) := ⟨_, rfl⟩
  have hck := check22_spec l hl hf zs hzs
  rw [← hN] at hzl hl hsz
  rw [← hR]
  refine FnL.flat (R := fun r own => (lsnd l ∧ r = .p (.tup [.sl R, .int .i64 0])) ∨ (¬ lsnd l ∧ r = .p (.tup [.nils, .int .i64 2]))) ?_ (by rintro _ _ (⟨h, rfl⟩ | ⟨h, rfl⟩); exact ⟨_, _, rfl, .refl _, .inl ⟨h, rfl⟩, rfl⟩; exact ⟨_, _, rfl, .refl _, .inr ⟨h, rfl⟩, rfl⟩)
  refine fn_of_vc eOk fOk fo11 Try.func11 rfl rfl rfl fun B hB => ?_
  intro add sub mul quo rem band bor bxor bclr shl shr ieq ilt ile seq slt beq bnot orb bcond iwrap iof ssz hA cat sq sl imin imax smin smax len slen u8 hL op hop call hcall code hcode ret hret
  have hlen : len zs = Int.ofNat N := by rw [hL.len, hzl]; rfl
  cbv
  refine hcall _ _ _ _ _ (CallEv.same hck rfl ?_)
  rintro _ _ ⟨e, he, rfl, rfl⟩
  cbv
  by_cases h0 : e = 0
  · have hs : lsnd l := by rcases he with c | c; exact c.2; omega
    refine vcIf.no (by first | (simp [hA.not, hA.eq, hA.lt, hA.le, hA.cond, hA.beq, hA.orb, hL.len, hL.slen, hL.sq, h0]; done) | (simp only [h0]; simp [hA.not, hA.eq, hA.lt, hA.le, hA.cond, hA.beq, hA.orb, hL.len, hL.slen, hL.sq, h0]; done) | (simp [hA.not, hA.eq, hA.lt, hA.le, hA.cond, hA.beq, hA.orb, hL.len, hL.slen, hL.sq, h0]; omega) | (simp only [h0]; simp [hA.not, hA.eq, hA.lt, hA.le, hA.cond, hA.beq, hA.orb, hL.len, hL.slen, hL.sq, h0]; omega)) ?_
    cbv
    rw [hlen]
    refine hcode _ _ _ (CodeEv.conv (Conv.hollowK 7 41 2 (by decide) (.inl rfl)) ?_)
    refine CodeEv.loop eOk fOk (ι := Nat × Nat × Nat × List PV) (fun s => [(0, .p (.sl zs)), (1, .p (.int .i64 v)), (7, .vw 0 2 0 s.2.1 (some s.2.2.1)), (17, .p (.sl zs)), (18, .p (.int .i64 (Int.ofNat N))), (19, .p (.int .i64 (Int.ofNat s.1)))])
      (fun s => [.arr 41 2 s.2.2.2]) (fun s => s.1 ≤ N ∧ RowP s.2.2.2 s.2.2.1 s.2.1 (atP (l.take s.1) v)) (fun s => N - s.1) (0, 0, 0, []) ?_ ?_
    · exact ⟨(by repeat (first | exact trivial | refine And.intro rfl ?_)), rfl, Nat.zero_le _, RowP.nil⟩
    rintro ⟨i, n, K, xs⟩ ⟨k1, k2⟩ rd hrd
    simp only at k1 k2
    by_cases hi : i < N
    · refine Exists.elim (get_of_lt (show i < l.length by omega)) fun b hb => ?_
      have hbm := List.mem_of_getElem? hb
      have hbf := hf b hbm
      have hbM := hM b hbm
      have hck := chks_kind (lsnd_chks hs hb)
      have hnx := atP_next (v := v) hb
      have hzi : zs[i]? = some (.agg [.int .i64 b.prev, .int .i64 b.ver, .int .i64 b.known, .sl (cP b.ch)]) := by rw [hzs]; exact btP_get hb
      have hpl := atP_take_len hM v (show i ≤ l.length by omega)
      have hps := atP_srt (l.take i) v
      have hmul : i * M + M ≤ N * M := by rw [← Nat.succ_mul]; exact Nat.mul_le_mul_right _ hi
      refine Exists.elim (show ∃ ps, ps = atP (l.take i) v from ⟨_, rfl⟩) fun ps hps' => ?_
      rw [← hps'] at hnx hpl hps k2
      obtain ⟨bp, bv, bk, bc⟩ := b
      simp only at hzi hck hbM
      have hbat : bat v ps ⟨bp, bv, bk, bc⟩ = if bv ≤ v then ones ps bc else ps := rfl
      rw [hbat] at hnx
      clear hbat
      refine Exists.elim (show ∃ cs, cs = cP bc from ⟨_, rfl⟩) fun cs hcs => ?_
      rw [← hcs] at hzi
      refine Exists.elim (show ∃ C, C = bc.length from ⟨_, rfl⟩) fun C hC => ?_
      have hcl : cs.length = C := by rw [hcs, cP_length, hC]
      intro add1 sub1 mul1 quo1 rem1 band1 bor1 bxor1 bclr1 shl1 shr1 ieq1 ilt1 ile1 seq1 slt1 beq1 bnot1 orb1 bcond1 iwrap1 iof1 ssz1 hA1 cat1 sq1 sl1 imin1 imax1 smin1 smax1 len1 slen1 u81 hL1 op1 hop1 call1 hcall1 code1 hcode1
      have hadd1 : add1 .i64 (Int.ofNat i) 1 = Int.ofNat (i + 1) := by rw [hA1.add, IntWalk.i64_in _ (by simp only [Int.ofNat_eq_natCast]; omega)]; rfl
      have hlc : len1 cs = Int.ofNat C := by rw [hL1.len, hcl]; rfl
      cbv
      refine vcIf.yes (by first | (simp [hA1.not, hA1.eq, hA1.lt, hA1.le, hA1.cond, hA1.beq, hA1.orb, hL1.len, hL1.slen, hL1.sq, hi]; done) | (simp only [hi]; simp [hA1.not, hA1.eq, hA1.lt, hA1.le, hA1.cond, hA1.beq, hA1.orb, hL1.len, hL1.slen, hL1.sq, hi]; done) | (simp [hA1.not, hA1.eq, hA1.lt, hA1.le, hA1.cond, hA1.beq, hA1.orb, hL1.len, hL1.slen, hL1.sq, hi]; omega) | (simp only [hi]; simp [hA1.not, hA1.eq, hA1.lt, hA1.le, hA1.cond, hA1.beq, hA1.orb, hL1.len, hL1.slen, hL1.sq, hi]; omega)) ?_
      cbv
      refine ⟨i, _, rfl, hzi, rfl, ?_⟩
      cbv
      rw [hlc]
      refine hcode1 _ _ _ (CodeEv.loop eOk fOk (ι := Nat × Nat × Nat × List PV) (fun s => [(0, .p (.sl zs)), (1, .p (.int .i64 v)), (7, .vw 0 2 0 s.2.1 (some s.2.2.1)), (17, .p (.sl zs)), (18, .p (.int .i64 (Int.ofNat N))), (19, .p (.int .i64 (Int.ofNat i))), (9, .own 1 0), (24, .p (.sl cs)), (25, .p (.int .i64 (Int.ofNat C))), (26, .p (.int .i64 (Int.ofNat s.1)))])
        (fun s => [.arr 41 2 s.2.2.2, .st 53 [.p (.int .i64 bp), .p (.int .i64 bv), .p (.int .i64 bk), .p (.sl cs)]]) (fun s => s.1 ≤ C ∧ RowP s.2.2.2 s.2.2.1 s.2.1 (if bv ≤ v then ones ps (bc.take s.1) else ps)) (fun s => C - s.1) (0, n, K, xs) ?_ ?_)
      · exact ⟨(by repeat (first | exact trivial | refine And.intro rfl ?_)), rfl, Nat.zero_le _, by simp only [List.take_zero]; rw [show ones ps [] = ps from rfl]; split <;> exact k2⟩
      rintro ⟨j, n', K', xs'⟩ ⟨m1, m2⟩ rd2 hrd2
      simp only at m1 m2
      by_cases hj : j < C
      · refine Exists.elim (get_of_lt (show j < bc.length by omega)) fun c hc => ?_
        have hzj : cs[j]? = some (.agg [.int .i64 c.kind, .str c.key, .str c.val]) := by rw [hcs]; exact cP_get hc
        have hkc := hck c (List.mem_of_getElem? hc)
        have hon := ones_next ps hc
        have hol : (ones ps (bc.take j)).length ≤ i * M + M := by
          have h1 := ones_len hps (bc.take j)
          have h2 : (bc.take j).length ≤ bc.length := by rw [List.length_take]; exact Nat.min_le_right _ _
          omega
        have h1 := fun (hx : RowP xs' K' n' (ones ps (bc.take j))) => oneP_spec (ones ps (bc.take j)) (ones_srt hps _) c hkc xs' K' n' hx (by have := hx.2.1; omega)
        obtain ⟨ck, cy, cv⟩ := c
        simp only at hzj h1
        rw [← hon] at h1
        by_cases hv : bv ≤ v
        · rw [if_pos hv] at m2
          have h1 := h1 m2
          intro add2 sub2 mul2 quo2 rem2 band2 bor2 bxor2 bclr2 shl2 shr2 ieq2 ilt2 ile2 seq2 slt2 beq2 bnot2 orb2 bcond2 iwrap2 iof2 ssz2 hA2 cat2 sq2 sl2 imin2 imax2 smin2 smax2 len2 slen2 u82 hL2 op2 hop2 call2 hcall2 code2 hcode2
          have hadd2 : add2 .i64 (Int.ofNat j) 1 = Int.ofNat (j + 1) := by rw [hA2.add, IntWalk.i64_in _ (by simp only [Int.ofNat_eq_natCast]; omega)]; rfl
          cbv
          refine vcIf.yes (by first | (simp [hA2.not, hA2.eq, hA2.lt, hA2.le, hA2.cond, hA2.beq, hA2.orb, hL2.len, hL2.slen, hL2.sq, hj]; done) | (simp only [hj]; simp [hA2.not, hA2.eq, hA2.lt, hA2.le, hA2.cond, hA2.beq, hA2.orb, hL2.len, hL2.slen, hL2.sq, hj]; done) | (simp [hA2.not, hA2.eq, hA2.lt, hA2.le, hA2.cond, hA2.beq, hA2.orb, hL2.len, hL2.slen, hL2.sq, hj]; omega) | (simp only [hj]; simp [hA2.not, hA2.eq, hA2.lt, hA2.le, hA2.cond, hA2.beq, hA2.orb, hL2.len, hL2.slen, hL2.sq, hj]; omega)) ?_
          cbv
          refine ⟨j, _, rfl, hzj, rfl, ?_⟩
          cbv
          refine vcIf.yes (by first | (simp [hA2.not, hA2.eq, hA2.lt, hA2.le, hA2.cond, hA2.beq, hA2.orb, hL2.len, hL2.slen, hL2.sq, hv]; done) | (simp only [hv]; simp [hA2.not, hA2.eq, hA2.lt, hA2.le, hA2.cond, hA2.beq, hA2.orb, hL2.len, hL2.slen, hL2.sq, hv]; done) | (simp [hA2.not, hA2.eq, hA2.lt, hA2.le, hA2.cond, hA2.beq, hA2.orb, hL2.len, hL2.slen, hL2.sq, hv]; omega) | (simp only [hv]; simp [hA2.not, hA2.eq, hA2.lt, hA2.le, hA2.cond, hA2.beq, hA2.orb, hL2.len, hL2.slen, hL2.sq, hv]; omega)) ?_
          cbv
          refine hcall2 _ _ _ _ _ (CallEv.lend [0] h1 rfl (.cons (.vw 0 0 2 0 n' (some K') rfl) (.cons (.p _) .nil)) ⟨⟨_, rfl, .arr _ _ _⟩, trivial⟩ ?_)
          rintro _ _ ⟨K2, n2, xs2, rfl, rfl, g⟩
          cbv
          refine hrd2 _ ⟨(j + 1, n2, K2, xs2), _, ?_, ⟨hj, ?_⟩, rfl, ⟨rfl, rfl, rfl, rfl, rfl, rfl, rfl, rfl, rfl, ?_, trivial⟩, rfl, rfl, rfl, ?_⟩
          · show C - (j + 1) < C - j
            omega
          · simp only; rw [if_pos hv]; exact g
          · show some (V.p (.int .i64 _)) = _
            rw [hadd2]
          · rw [hB]; exact Nat.zero_le _
        · rw [if_neg hv] at m2
          intro add2 sub2 mul2 quo2 rem2 band2 bor2 bxor2 bclr2 shl2 shr2 ieq2 ilt2 ile2 seq2 slt2 beq2 bnot2 orb2 bcond2 iwrap2 iof2 ssz2 hA2 cat2 sq2 sl2 imin2 imax2 smin2 smax2 len2 slen2 u82 hL2 op2 hop2 call2 hcall2 code2 hcode2
          have hadd2 : add2 .i64 (Int.ofNat j) 1 = Int.ofNat (j + 1) := by rw [hA2.add, IntWalk.i64_in _ (by simp only [Int.ofNat_eq_natCast]; omega)]; rfl
          cbv
          refine vcIf.yes (by first | (simp [hA2.not, hA2.eq, hA2.lt, hA2.le, hA2.cond, hA2.beq, hA2.orb, hL2.len, hL2.slen, hL2.sq, hj]; done) | (simp only [hj]; simp [hA2.not, hA2.eq, hA2.lt, hA2.le, hA2.cond, hA2.beq, hA2.orb, hL2.len, hL2.slen, hL2.sq, hj]; done) | (simp [hA2.not, hA2.eq, hA2.lt, hA2.le, hA2.cond, hA2.beq, hA2.orb, hL2.len, hL2.slen, hL2.sq, hj]; omega) | (simp only [hj]; simp [hA2.not, hA2.eq, hA2.lt, hA2.le, hA2.cond, hA2.beq, hA2.orb, hL2.len, hL2.slen, hL2.sq, hj]; omega)) ?_
          cbv
          refine ⟨j, _, rfl, hzj, rfl, ?_⟩
          cbv
          refine vcIf.no (by first | (simp [hA2.not, hA2.eq, hA2.lt, hA2.le, hA2.cond, hA2.beq, hA2.orb, hL2.len, hL2.slen, hL2.sq, hv]; done) | (simp only [hv]; simp [hA2.not, hA2.eq, hA2.lt, hA2.le, hA2.cond, hA2.beq, hA2.orb, hL2.len, hL2.slen, hL2.sq, hv]; done) | (simp [hA2.not, hA2.eq, hA2.lt, hA2.le, hA2.cond, hA2.beq, hA2.orb, hL2.len, hL2.slen, hL2.sq, hv]; omega) | (simp only [hv]; simp [hA2.not, hA2.eq, hA2.lt, hA2.le, hA2.cond, hA2.beq, hA2.orb, hL2.len, hL2.slen, hL2.sq, hv]; omega)) ?_
          cbv
          refine hrd2 _ ⟨(j + 1, n', K', xs'), _, ?_, ⟨hj, ?_⟩, rfl, ⟨rfl, rfl, rfl, rfl, rfl, rfl, rfl, rfl, rfl, ?_, trivial⟩, rfl, rfl, rfl, ?_⟩
          · show C - (j + 1) < C - j
            omega
          · simp only; rw [if_neg hv]; exact m2
          · show some (V.p (.int .i64 _)) = _
            rw [hadd2]
          · rw [hB]; exact Nat.zero_le _
      · have hgood : RowP xs' K' n' (atP (l.take (i + 1)) v) := by rw [hnx]; rw [List.take_of_length_le (by omega)] at m2; exact m2
        intro add2 sub2 mul2 quo2 rem2 band2 bor2 bxor2 bclr2 shl2 shr2 ieq2 ilt2 ile2 seq2 slt2 beq2 bnot2 orb2 bcond2 iwrap2 iof2 ssz2 hA2 cat2 sq2 sl2 imin2 imax2 smin2 smax2 len2 slen2 u82 hL2 op2 hop2 call2 hcall2 code2 hcode2
        cbv
        refine vcIf.no (by first | (simp [hA2.not, hA2.eq, hA2.lt, hA2.le, hA2.cond, hA2.beq, hA2.orb, hL2.len, hL2.slen, hL2.sq, hj]; done) | (simp only [hj]; simp [hA2.not, hA2.eq, hA2.lt, hA2.le, hA2.cond, hA2.beq, hA2.orb, hL2.len, hL2.slen, hL2.sq, hj]; done) | (simp [hA2.not, hA2.eq, hA2.lt, hA2.le, hA2.cond, hA2.beq, hA2.orb, hL2.len, hL2.slen, hL2.sq, hj]; omega) | (simp only [hj]; simp [hA2.not, hA2.eq, hA2.lt, hA2.le, hA2.cond, hA2.beq, hA2.orb, hL2.len, hL2.slen, hL2.sq, hj]; omega)) ?_
        cbv
        refine hrd _ ⟨(i + 1, n', K', xs'), _, ?_, ⟨hi, hgood⟩, rfl, ⟨rfl, rfl, rfl, rfl, rfl, ?_, trivial⟩, rfl, rfl, rfl, ?_⟩
        · show N - (i + 1) < N - i
          omega
        · show some (V.p (.int .i64 _)) = _
          rw [hadd1]
        · rw [hB]; exact Nat.zero_le _
    · have hgood : (xs.drop 0).take n = R := by rw [hR, List.drop_zero, k2.2.2.2.2, List.take_of_length_le (by omega)]
      intro add1 sub1 mul1 quo1 rem1 band1 bor1 bxor1 bclr1 shl1 shr1 ieq1 ilt1 ile1 seq1 slt1 beq1 bnot1 orb1 bcond1 iwrap1 iof1 ssz1 hA1 cat1 sq1 sl1 imin1 imax1 smin1 smax1 len1 slen1 u81 hL1 op1 hop1 call1 hcall1 code1 hcode1
      cbv
      refine vcIf.no (by first | (simp [hA1.not, hA1.eq, hA1.lt, hA1.le, hA1.cond, hA1.beq, hA1.orb, hL1.len, hL1.slen, hL1.sq, hi]; done) | (simp only [hi]; simp [hA1.not, hA1.eq, hA1.lt, hA1.le, hA1.cond, hA1.beq, hA1.orb, hL1.len, hL1.slen, hL1.sq, hi]; done) | (simp [hA1.not, hA1.eq, hA1.lt, hA1.le, hA1.cond, hA1.beq, hA1.orb, hL1.len, hL1.slen, hL1.sq, hi]; omega) | (simp only [hi]; simp [hA1.not, hA1.eq, hA1.lt, hA1.le, hA1.cond, hA1.beq, hA1.orb, hL1.len, hL1.slen, hL1.sq, hi]; omega)) ?_
      cbv
      refine hret _ (RetEv.retF eOk rfl 0 rfl (by rw [hB]; exact Nat.zero_le _) (.inl ⟨hs, ?_⟩))
      show V.p (.tup [.sl ((xs.drop 0).take n), _]) = _
      rw [hgood]
  · have hs : ¬ lsnd l := by rcases he with c | c; exact absurd c.1 h0; exact c.2
    have h2 : e = 2 := by rcases he with c | c; exact absurd c.1 h0; exact c.1
    refine vcIf.yes (by first | (simp [hA.not, hA.eq, hA.lt, hA.le, hA.cond, hA.beq, hA.orb, hL.len, hL.slen, hL.sq, h0]; done) | (simp only [h0]; simp [hA.not, hA.eq, hA.lt, hA.le, hA.cond, hA.beq, hA.orb, hL.len, hL.slen, hL.sq, h0]; done) | (simp [hA.not, hA.eq, hA.lt, hA.le, hA.cond, hA.beq, hA.orb, hL.len, hL.slen, hL.sq, h0]; omega) | (simp only [h0]; simp [hA.not, hA.eq, hA.lt, hA.le, hA.cond, hA.beq, hA.orb, hL.len, hL.slen, hL.sq, h0]; omega)) ?_
    cbv
    exact hret _ (RetEv.ret eOk rfl (.inr ⟨hs, by rw [h2]; rfl⟩))

theorem ver_up {l : List Bt} (h : lsnd l) {i : Nat} {a : Bt} (ha : l[i]? = some a) : ∀ (d : Nat) (b : Bt), l[i + d + 1]? = some b → a.ver < b.ver
  | 0, b, hb => (h (i + 1) (List.getElem?_eq_some_iff.1 hb).1 b hb).2.2 a (by omega) ha
  | d + 1, b, hb => by
    have hl := (List.getElem?_eq_some_iff.1 hb).1
    obtain ⟨c, hc⟩ := get_of_lt (show i + d + 1 < l.length by omega)
    have h1 := ver_up h ha d c hc
    have h2 := (h (i + (d + 1) + 1) hl b hb).2.2 c (by omega) hc
    omega
theorem foldl_bat_id {v : Int} : ∀ (l : List Bt) (ps : List Pr), (∀ b ∈ l, ¬ b.ver ≤ v) → l.foldl (bat v) ps = ps
  | [], _, _ => rfl
  | b :: r, ps, h => by
    rw [List.foldl_cons, show bat v ps b = ps from if_neg (h b (by simp))]
    exact foldl_bat_id r ps fun c hc => h c (by simp [hc])
theorem atP_stop {l : List Bt} (h : lsnd l) {v : Int} {i : Nat} {b : Bt} (hb : l[i]? = some b) (hv : ¬ b.ver ≤ v) : atP l v = atP (l.take i) v := by
  unfold atP
  conv => lhs; rw [← List.take_append_drop i l]
  rw [List.foldl_append]
  refine foldl_bat_id _ _ fun c hc => ?_
  obtain ⟨q, hq⟩ := List.mem_iff_getElem?.1 hc
  rw [List.getElem?_drop] at hq
  rcases Nat.eq_zero_or_pos q with e | e
  · subst e
    rw [Nat.add_zero, hb] at hq; cases hq; exact hv
  · obtain ⟨d, rfl⟩ : ∃ d, q = d + 1 := ⟨q - 1, by omega⟩
    have := ver_up h hb d c hq
    omega

theorem rAt_spec (l : List Bt) (hs : lsnd l) (v : Int) (M : Nat) (hM : ∀ b ∈ l, b.ch.length ≤ M) (hsz : (l.length * M + 1) * 32 ≤ 140737488355328) (hl : l.length < 281474976710656) (hf : ∀ b ∈ l, b.fit) (zs : List PV) (hzs : zs = btP l) :
    FnL Try.prog 15 [.p (.sl zs), .p (.int .i64 v)] [] fun r own => r = .p (.sl (prP (atP l v))) ∧ own = [] := by
  have hzl : zs.length = l.length := by rw [hzs, btP_length]
  obtain ⟨N, hN⟩ : ∃ N, N = l.length := ⟨_, rfl⟩
  obtain ⟨R, hR⟩ : ∃ R, R = prP (atP l v) := ⟨_, rfl⟩
  rw [← hN] at hzl hl hsz
  rw [← hR]
  refine FnL.flat (R := fun r own => r = .p (.sl R)) ?_ (by rintro _ _ rfl; exact ⟨_, _, rfl, .refl _, rfl, rfl⟩)
  refine fn_of_vc eOk fOk fo15 Try.func15 rfl rfl rfl fun B hB => ?_
  intro add sub mul quo rem band bor bxor bclr shl shr ieq ilt ile seq slt beq bnot orb bcond iwrap iof ssz hA cat sq sl imin imax smin smax len slen u8 hL op hop call hcall code hcode ret hret
  cbv
  refine ⟨false, ?_⟩
  cbv
  refine hcode _ _ _ (CodeEv.loop eOk fOk (ι := Nat × List PV) (fun s => [(0, .p (.sl zs)), (1, .p (.int .i64 v)), (5, .p (.sl s.2)), (6, .p (.int .i64 (Int.ofNat s.1)))])
    (fun s => []) (fun s => s.1 ≤ N ∧ s.2 = prP (atP (l.take s.1) v)) (fun s => N - s.1) (0, []) ?_ ?_)
  · exact ⟨(by repeat (first | exact trivial | refine And.intro rfl ?_)), rfl, Nat.zero_le _, rfl⟩
  rintro ⟨i, us⟩ ⟨k1, k2⟩ rd hrd
  simp only at k1 k2
  by_cases hi : i < N
  · refine Exists.elim (get_of_lt (show i < l.length by omega)) fun b hb => ?_
    have hbm := List.mem_of_getElem? hb
    have hbf := hf b hbm
    have hbM := hM b hbm
    have hck := chks_kind (lsnd_chks hs hb)
    have hnx := atP_next (v := v) hb
    have hst := atP_stop hs hb (v := v)
    have hzi : zs[i]? = some (.agg [.int .i64 b.prev, .int .i64 b.ver, .int .i64 b.known, .sl (cP b.ch)]) := by rw [hzs]; exact btP_get hb
    have hpl := atP_take_len hM v (show i ≤ l.length by omega)
    have hps := atP_srt (l.take i) v
    have hmul : i * M + M ≤ N * M := by rw [← Nat.succ_mul]; exact Nat.mul_le_mul_right _ hi
    refine Exists.elim (show ∃ ps, ps = atP (l.take i) v from ⟨_, rfl⟩) fun ps hps' => ?_
    rw [← hps'] at hnx hpl hps k2 hst
    obtain ⟨bp, bv, bk, bc⟩ := b
    simp only at hzi hck hbM hst
    have hbat : bat v ps ⟨bp, bv, bk, bc⟩ = if bv ≤ v then ones ps bc else ps := rfl
    rw [hbat] at hnx
    clear hbat
    refine Exists.elim (show ∃ cs, cs = cP bc from ⟨_, rfl⟩) fun cs hcs => ?_
    rw [← hcs] at hzi
    refine Exists.elim (show ∃ C, C = bc.length from ⟨_, rfl⟩) fun C hC => ?_
    have hcl : cs.length = C := by rw [hcs, cP_length, hC]
    by_cases hv : bv ≤ v
    · rw [if_pos hv] at hnx
      intro add1 sub1 mul1 quo1 rem1 band1 bor1 bxor1 bclr1 shl1 shr1 ieq1 ilt1 ile1 seq1 slt1 beq1 bnot1 orb1 bcond1 iwrap1 iof1 ssz1 hA1 cat1 sq1 sl1 imin1 imax1 smin1 smax1 len1 slen1 u81 hL1 op1 hop1 call1 hcall1 code1 hcode1
      have e0 : len1 zs = Int.ofNat N := by rw [hL1.len, hzl]; rfl
      have hadd1 : add1 .i64 (Int.ofNat i) 1 = Int.ofNat (i + 1) := by rw [hA1.add, IntWalk.i64_in _ (by simp only [Int.ofNat_eq_natCast]; omega)]; rfl
      cbv
      refine vcIf.yes (by first | (simp [hA1.not, hA1.eq, hA1.lt, hA1.le, hA1.cond, hA1.beq, hA1.orb, hL1.len, hL1.slen, hL1.sq, e0, hi]; done) | (simp only [e0, hi]; simp [hA1.not, hA1.eq, hA1.lt, hA1.le, hA1.cond, hA1.beq, hA1.orb, hL1.len, hL1.slen, hL1.sq, e0, hi]; done) | (simp [hA1.not, hA1.eq, hA1.lt, hA1.le, hA1.cond, hA1.beq, hA1.orb, hL1.len, hL1.slen, hL1.sq, e0, hi]; omega) | (simp only [e0, hi]; simp [hA1.not, hA1.eq, hA1.lt, hA1.le, hA1.cond, hA1.beq, hA1.orb, hL1.len, hL1.slen, hL1.sq, e0, hi]; omega)) ?_
      cbv
      refine ⟨i, _, rfl, hzi, rfl, ?_⟩
      cbv
      refine vcIf.yes (by first | (simp [hA1.not, hA1.eq, hA1.lt, hA1.le, hA1.cond, hA1.beq, hA1.orb, hL1.len, hL1.slen, hL1.sq, cond, hv]; done) | (simp only [cond, hv]; simp [hA1.not, hA1.eq, hA1.lt, hA1.le, hA1.cond, hA1.beq, hA1.orb, hL1.len, hL1.slen, hL1.sq, cond, hv]; done) | (simp [hA1.not, hA1.eq, hA1.lt, hA1.le, hA1.cond, hA1.beq, hA1.orb, hL1.len, hL1.slen, hL1.sq, cond, hv]; omega) | (simp only [cond, hv]; simp [hA1.not, hA1.eq, hA1.lt, hA1.le, hA1.cond, hA1.beq, hA1.orb, hL1.len, hL1.slen, hL1.sq, cond, hv]; omega)) ?_
      cbv
      refine hcode1 _ _ _ (CodeEv.loop eOk fOk (ι := Nat × List PV) (fun s => [(0, .p (.sl zs)), (1, .p (.int .i64 v)), (5, .p (.sl s.2)), (6, .p (.int .i64 (Int.ofNat i))), (7, .p (.int .i64 (Int.ofNat s.1)))])
        (fun s => []) (fun s => s.1 ≤ C ∧ s.2 = prP (ones ps (bc.take s.1))) (fun s => C - s.1) (0, us) ?_ ?_)
      · exact ⟨(by repeat (first | exact trivial | refine And.intro rfl ?_)), rfl, Nat.zero_le _, k2⟩
      rintro ⟨j, ws⟩ ⟨m1, m2⟩ rd2 hrd2
      simp only at m1 m2
      by_cases hj : j < C
      · refine Exists.elim (get_of_lt (show j < bc.length by omega)) fun c hc => ?_
        have hzj : cs[j]? = some (.agg [.int .i64 c.kind, .str c.key, .str c.val]) := by rw [hcs]; exact cP_get hc
        have hcf := hbf.1 c (List.mem_of_getElem? hc)
        have hon := ones_next ps hc
        have hol : (ones ps (bc.take j)).length ≤ i * M + M := by
          have h1 := ones_len hps (bc.take j)
          have h2 : (bc.take j).length ≤ bc.length := by rw [List.length_take]; exact Nat.min_le_right _ _
          omega
        have h1 := rOne_spec (ones ps (bc.take j)) (by omega) c hcf ws m2
        obtain ⟨ck, cy, cv⟩ := c
        simp only at hzj h1
        rw [← hon] at h1
        refine Exists.elim (show ∃ us2, us2 = prP (ones ps (bc.take (j + 1))) from ⟨_, rfl⟩) fun us2 hus2 => ?_
        rw [← hus2] at h1
        intro add2 sub2 mul2 quo2 rem2 band2 bor2 bxor2 bclr2 shl2 shr2 ieq2 ilt2 ile2 seq2 slt2 beq2 bnot2 orb2 bcond2 iwrap2 iof2 ssz2 hA2 cat2 sq2 sl2 imin2 imax2 smin2 smax2 len2 slen2 u82 hL2 op2 hop2 call2 hcall2 code2 hcode2
        have e2 : len2 cs = Int.ofNat C := by rw [hL2.len, hcl]; rfl
        have hadd2 : add2 .i64 (Int.ofNat j) 1 = Int.ofNat (j + 1) := by rw [hA2.add, IntWalk.i64_in _ (by simp only [Int.ofNat_eq_natCast]; omega)]; rfl
        cbv
        refine ⟨i, _, rfl, hzi, rfl, ?_⟩
        cbv
        refine vcIf.yes (by first | (simp [hA2.not, hA2.eq, hA2.lt, hA2.le, hA2.cond, hA2.beq, hA2.orb, hL2.len, hL2.slen, hL2.sq, e2, hj]; done) | (simp only [e2, hj]; simp [hA2.not, hA2.eq, hA2.lt, hA2.le, hA2.cond, hA2.beq, hA2.orb, hL2.len, hL2.slen, hL2.sq, e2, hj]; done) | (simp [hA2.not, hA2.eq, hA2.lt, hA2.le, hA2.cond, hA2.beq, hA2.orb, hL2.len, hL2.slen, hL2.sq, e2, hj]; omega) | (simp only [e2, hj]; simp [hA2.not, hA2.eq, hA2.lt, hA2.le, hA2.cond, hA2.beq, hA2.orb, hL2.len, hL2.slen, hL2.sq, e2, hj]; omega)) ?_
        cbv
        refine ⟨i, _, rfl, hzi, rfl, ?_⟩
        cbv
        refine ⟨j, _, rfl, hzj, rfl, ?_⟩
        cbv
        refine hcall2 _ _ _ _ _ (CallEv.same h1 rfl ?_)
        rintro _ _ ⟨rfl, rfl⟩
        cbv
        refine hrd2 _ ⟨(j + 1, us2), _, ?_, ⟨hj, hus2⟩, rfl, ⟨rfl, rfl, rfl, rfl, ?_, trivial⟩, rfl, rfl, rfl, ?_⟩
        · show C - (j + 1) < C - j
          omega
        · show some (V.p (.int .i64 _)) = _
          rw [hadd2]
        · rw [hB]; exact Nat.zero_le _
      · have hgood : ws = prP (atP (l.take (i + 1)) v) := by rw [hnx]; rw [List.take_of_length_le (by omega)] at m2; exact m2
        intro add2 sub2 mul2 quo2 rem2 band2 bor2 bxor2 bclr2 shl2 shr2 ieq2 ilt2 ile2 seq2 slt2 beq2 bnot2 orb2 bcond2 iwrap2 iof2 ssz2 hA2 cat2 sq2 sl2 imin2 imax2 smin2 smax2 len2 slen2 u82 hL2 op2 hop2 call2 hcall2 code2 hcode2
        have e2 : len2 cs = Int.ofNat C := by rw [hL2.len, hcl]; rfl
        cbv
        refine ⟨i, _, rfl, hzi, rfl, ?_⟩
        cbv
        refine vcIf.no (by first | (simp [hA2.not, hA2.eq, hA2.lt, hA2.le, hA2.cond, hA2.beq, hA2.orb, hL2.len, hL2.slen, hL2.sq, e2, hj]; done) | (simp only [e2, hj]; simp [hA2.not, hA2.eq, hA2.lt, hA2.le, hA2.cond, hA2.beq, hA2.orb, hL2.len, hL2.slen, hL2.sq, e2, hj]; done) | (simp [hA2.not, hA2.eq, hA2.lt, hA2.le, hA2.cond, hA2.beq, hA2.orb, hL2.len, hL2.slen, hL2.sq, e2, hj]; omega) | (simp only [e2, hj]; simp [hA2.not, hA2.eq, hA2.lt, hA2.le, hA2.cond, hA2.beq, hA2.orb, hL2.len, hL2.slen, hL2.sq, e2, hj]; omega)) ?_
        cbv
        refine hrd _ ⟨(i + 1, ws), _, ?_, ⟨hi, hgood⟩, rfl, ⟨rfl, rfl, rfl, ?_, trivial⟩, rfl, rfl, rfl, ?_⟩
        · show N - (i + 1) < N - i
          omega
        · show some (V.p (.int .i64 _)) = _
          rw [hadd1]
        · rw [hB]; exact Nat.zero_le _
    · have hgood : us = R := by rw [k2, hR, hst hv]
      intro add1 sub1 mul1 quo1 rem1 band1 bor1 bxor1 bclr1 shl1 shr1 ieq1 ilt1 ile1 seq1 slt1 beq1 bnot1 orb1 bcond1 iwrap1 iof1 ssz1 hA1 cat1 sq1 sl1 imin1 imax1 smin1 smax1 len1 slen1 u81 hL1 op1 hop1 call1 hcall1 code1 hcode1
      have e0 : len1 zs = Int.ofNat N := by rw [hL1.len, hzl]; rfl
      cbv
      refine vcIf.yes (by first | (simp [hA1.not, hA1.eq, hA1.lt, hA1.le, hA1.cond, hA1.beq, hA1.orb, hL1.len, hL1.slen, hL1.sq, e0, hi]; done) | (simp only [e0, hi]; simp [hA1.not, hA1.eq, hA1.lt, hA1.le, hA1.cond, hA1.beq, hA1.orb, hL1.len, hL1.slen, hL1.sq, e0, hi]; done) | (simp [hA1.not, hA1.eq, hA1.lt, hA1.le, hA1.cond, hA1.beq, hA1.orb, hL1.len, hL1.slen, hL1.sq, e0, hi]; omega) | (simp only [e0, hi]; simp [hA1.not, hA1.eq, hA1.lt, hA1.le, hA1.cond, hA1.beq, hA1.orb, hL1.len, hL1.slen, hL1.sq, e0, hi]; omega)) ?_
      cbv
      refine ⟨i, _, rfl, hzi, rfl, ?_⟩
      cbv
      refine vcIf.no (by first | (simp [hA1.not, hA1.eq, hA1.lt, hA1.le, hA1.cond, hA1.beq, hA1.orb, hL1.len, hL1.slen, hL1.sq, cond, hv]; done) | (simp only [cond, hv]; simp [hA1.not, hA1.eq, hA1.lt, hA1.le, hA1.cond, hA1.beq, hA1.orb, hL1.len, hL1.slen, hL1.sq, cond, hv]; done) | (simp [hA1.not, hA1.eq, hA1.lt, hA1.le, hA1.cond, hA1.beq, hA1.orb, hL1.len, hL1.slen, hL1.sq, cond, hv]; omega) | (simp only [cond, hv]; simp [hA1.not, hA1.eq, hA1.lt, hA1.le, hA1.cond, hA1.beq, hA1.orb, hL1.len, hL1.slen, hL1.sq, cond, hv]; omega)) ?_
      cbv
      exact hret _ (RetEv.ret eOk rfl (by rw [hgood]; rfl))
  · have hgood : us = R := by rw [k2, hR, List.take_of_length_le (by omega)]
    intro add1 sub1 mul1 quo1 rem1 band1 bor1 bxor1 bclr1 shl1 shr1 ieq1 ilt1 ile1 seq1 slt1 beq1 bnot1 orb1 bcond1 iwrap1 iof1 ssz1 hA1 cat1 sq1 sl1 imin1 imax1 smin1 smax1 len1 slen1 u81 hL1 op1 hop1 call1 hcall1 code1 hcode1
    have e0 : len1 zs = Int.ofNat N := by rw [hL1.len, hzl]; rfl
    cbv
    refine vcIf.no (by first | (simp [hA1.not, hA1.eq, hA1.lt, hA1.le, hA1.cond, hA1.beq, hA1.orb, hL1.len, hL1.slen, hL1.sq, e0, hi]; done) | (simp only [e0, hi]; simp [hA1.not, hA1.eq, hA1.lt, hA1.le, hA1.cond, hA1.beq, hA1.orb, hL1.len, hL1.slen, hL1.sq, e0, hi]; done) | (simp [hA1.not, hA1.eq, hA1.lt, hA1.le, hA1.cond, hA1.beq, hA1.orb, hL1.len, hL1.slen, hL1.sq, e0, hi]; omega) | (simp only [e0, hi]; simp [hA1.not, hA1.eq, hA1.lt, hA1.le, hA1.cond, hA1.beq, hA1.orb, hL1.len, hL1.slen, hL1.sq, e0, hi]; omega)) ?_
    cbv
    exact hret _ (RetEv.ret eOk rfl (by rw [hgood]; rfl))
end Go.Proofs.Ytdoikpagilmplaa
