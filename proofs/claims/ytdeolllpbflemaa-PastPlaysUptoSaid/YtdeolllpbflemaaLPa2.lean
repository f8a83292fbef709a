/- How many layers are not above a version; all pairs at a version. Conditions: on sizes, and that the changes are such. -/
import Derived.Test.YtdeolllpbflemaaLPi4
import Derived.Test.YtdeolllpbflemaaLPd3
set_option maxRecDepth 100000
set_option maxHeartbeats 16000000
set_option linter.unusedSimpArgs false
set_option linter.unusedVariables false
namespace Go.Proofs.Ytdeolllpbflemaa
open Go Go.Lx
open Go.Sx (vcIf)

theorem upto_spec (a f l v : Int) (zs : List PV) (ls : List Lay) (hn : ls.length < 281474976710656) (ys : List PV) (hys : ys = layP ls) :
    FnL Try.prog 39 [psI a f l zs ys, .p (.int .i64 v)] [] fun r own => ∃ e : Nat, e = upto ls v ∧ r = .p (.int .i64 (Int.ofNat e)) ∧ own = [] := by
  obtain ⟨N, hN⟩ : ∃ N, N = ls.length := ⟨_, rfl⟩
  have hyl : ys.length = N := by rw [hys, layP_length, hN]
  have hshape := layP_shape hys
  have hidx := layIdx ys N hyl (by omega) hshape 54 (.int .i64 v) (fun i => match ls[i]? with | some b => decide (v < b.ver) | none => false) (fun i z hz => by
    rw [hys] at hz; unfold layP at hz; rw [List.getElem?_map] at hz
    cases hb : ls[i]? with
    | none => rw [hb] at hz; cases hz
    | some b => rw [hb] at hz; cases hz; exact upto1_spec b.ver v (cP b.ch))
  have hT : TrL [.st 3 [.p (.int .i64 v)]] [] [0] [.own 0 0] [.imm 1 (.int .i64 v) 0] := .cons (.bown1 0 0 _ _ (by decide) rfl rfl) .nil
  refine FnL.flat (R := fun r own => ∃ e : Nat, e = upto ls v ∧ r = .p (.int .i64 (Int.ofNat e))) ?_ (by rintro _ _ ⟨b, h, rfl⟩; exact ⟨_, _, rfl, .refl _, b, h, rfl, rfl⟩)
  have hall : (∀ j, j < N → (match ls[j]? with | some b => decide (v < b.ver) | none => false) = false) → N = upto ls v := fun h => by
    refine (upto_eq v (by omega) (fun i b hi hb => ?_) (fun b hb => ?_)).symm
    · have := h i hi; rw [hb] at this; simp at this; omega
    · have := (List.getElem?_eq_some_iff.1 hb).1; omega
  have hone : ∀ i : Nat, i < N → (match ls[i]? with | some b => decide (v < b.ver) | none => false) = true → (∀ j, j < i → (match ls[j]? with | some b => decide (v < b.ver) | none => false) = false) → i = upto ls v := fun i hi h1 h2 => by
    refine (upto_eq v (by omega) (fun j b hj hb => ?_) (fun b hb => ?_)).symm
    · have := h2 j hj; rw [hb] at this; simp at this; omega
    · rw [hb] at h1; simpa using h1
  refine fn_of_vc eOk fOk fo39 Try.func39 rfl rfl rfl fun B hB => ?_
  intro add sub mul quo rem band bor bxor bclr shl shr ieq ilt ile seq slt beq bnot orb bcond iwrap iof ssz hA cat sq sl imin imax smin smax len slen u8 hL op hop call hcall code hcode ret hret
  have hlen : len ys = Int.ofNat N := by rw [hL.len, hyl]; rfl
  cbv
  refine hcall _ _ _ _ _ (CallEv.shown [] [0] hidx rfl (.cons (.p _) (.cons (.fn _ _ _ hT.1 hT.2) .nil)) trivial ?_)
  rintro _ _ ⟨k, hk, rfl, rfl⟩
  refine ⟨.p _ (.int _ _), (by intro r hr; cases hr), ?_⟩
  have hk2 : (k < 0 ∧ N = upto ls v) ∨ ∃ e : Nat, k = Int.ofNat e ∧ e = upto ls v := by
    rcases hk with ⟨h1, h2⟩ | ⟨i, h1, h2, h3, h4⟩
    · exact .inl ⟨by rw [h1]; decide, hall h2⟩
    · exact .inr ⟨i, h2, hone i h1 h3 h4⟩
  clear hk hall hone hidx
  cbv
  rcases hk2 with ⟨h1, h2⟩ | ⟨e, h1, h2⟩
  · refine vcIf.yes (by first | (simp [hA.not, hA.eq, hA.lt, hA.le, hA.cond, hA.beq, hA.orb, hL.len, hL.slen, hL.sq, h1]; done) | (simp only [h1]; simp [hA.not, hA.eq, hA.lt, hA.le, hA.cond, hA.beq, hA.orb, hL.len, hL.slen, hL.sq, h1]; done) | (simp [hA.not, hA.eq, hA.lt, hA.le, hA.cond, hA.beq, hA.orb, hL.len, hL.slen, hL.sq, h1]; omega) | (simp only [h1]; simp [hA.not, hA.eq, hA.lt, hA.le, hA.cond, hA.beq, hA.orb, hL.len, hL.slen, hL.sq, h1]; omega)) ?_
    cbv
    rw [hlen]
    exact hret _ (RetEv.ret eOk rfl ⟨N, h2, rfl⟩)
  · have h3 : ¬ k < 0 := by rw [h1]; simp only [Int.ofNat_eq_natCast]; omega
    refine vcIf.no (by first | (simp [hA.not, hA.eq, hA.lt, hA.le, hA.cond, hA.beq, hA.orb, hL.len, hL.slen, hL.sq, h3]; done) | (simp only [h3]; simp [hA.not, hA.eq, hA.lt, hA.le, hA.cond, hA.beq, hA.orb, hL.len, hL.slen, hL.sq, h3]; done) | (simp [hA.not, hA.eq, hA.lt, hA.le, hA.cond, hA.beq, hA.orb, hL.len, hL.slen, hL.sq, h3]; omega) | (simp only [h3]; simp [hA.not, hA.eq, hA.lt, hA.le, hA.cond, hA.beq, hA.orb, hL.len, hL.slen, hL.sq, h3]; omega)) ?_
    cbv
    exact hret _ (RetEv.ret eOk rfl ⟨e, h2, by rw [h1]; rfl⟩)

/-- What layers make of pairs. -/
def lays (ps : List Pr) (ls : List Lay) : List Pr := ls.foldl (fun ps l => ones ps l.ch) ps
def whole (ps : List Pr) (ls : List Lay) (v : Int) : List Pr := lays ps (ls.take (upto ls v))
theorem lays_next (ps : List Pr) {ls : List Lay} {k : Nat} {l : Lay} (h : ls[k]? = some l) : lays ps (ls.take (k + 1)) = ones (lays ps (ls.take k)) l.ch := by
  unfold lays; rw [List.take_add_one, h, List.foldl_append]; rfl
theorem lays_srt : ∀ (ls : List Lay) {ps : List Pr}, Srt ps → Srt (lays ps ls)
  | [], _, h => h
  | l :: r, _, h => lays_srt r (ones_srt h l.ch)
theorem lays_len {M : Nat} : ∀ (ls : List Lay) {ps : List Pr}, Srt ps → (∀ l ∈ ls, l.ch.length ≤ M) → (lays ps ls).length ≤ ps.length + ls.length * M
  | [], _, _, _ => by simp [lays]
  | l :: r, ps, h, hM => by
    have h1 := lays_len r (ones_srt h l.ch) (fun c hc => hM c (by simp [hc]))
    have h2 := ones_len h l.ch
    have h3 := hM l (by simp)
    have e : lays ps (l :: r) = lays (ones ps l.ch) r := rfl
    rw [e]
    simp only [List.length_cons, Nat.add_mul]
    omega
theorem lays_take_len {ls : List Lay} {M : Nat} {ps : List Pr} (hs : Srt ps) (hM : ∀ l ∈ ls, l.ch.length ≤ M) {i : Nat} (hi : i ≤ ls.length) : (lays ps (ls.take i)).length ≤ ps.length + i * M := by
  have := lays_len (M := M) (ls.take i) hs (fun b hb => hM b (List.mem_of_mem_take hb))
  rwa [List.length_take, Nat.min_eq_left hi] at this

theorem bnd_le {n a K : Nat} (h : n ≤ a) (hk : (a + 1) * 32 ≤ K) : (n + 1) * 32 ≤ K := Nat.le_trans (Nat.mul_le_mul_right _ (Nat.succ_le_succ h)) hk
theorem bnd_le0 {n a b K : Nat} (hk : (n + a + 1) * 32 ≤ K) : n * 32 ≤ K := Nat.le_trans (Nat.mul_le_mul_right _ (by omega)) hk

theorem whole_spec (a f l v : Int) (ps : List Pr) (hps : Srt ps) (ls : List Lay) (M : Nat) (hM : ∀ l ∈ ls, l.ch.length ≤ M) (hck : ∀ l ∈ ls, chks l.ch = 0) (hsz : (ps.length + ls.length * M + 1) * 32 ≤ 140737488355328) (hn : ls.length < 281474976710656)
    (zs : List PV) (hzs : zs = prP ps) (ys : List PV) (hys : ys = layP ls) :
    FnL Try.prog 34 [psI a f l zs ys, .p (.int .i64 v)] [] fun r own => ∃ K n xs, r = .vw 0 2 0 n (some K) ∧ own = [.arr 45 2 xs] ∧ RowP xs K n (whole ps ls v) := by
  have hcl := clonePr_spec ps (bnd_le0 (b := 0) hsz) zs hzs
  have hup := upto_spec a f l v zs ls hn ys hys
  obtain ⟨N, hN⟩ : ∃ N, N = upto ls v := ⟨_, rfl⟩
  have hNl : N ≤ ls.length := by rw [hN]; exact upto_le v ls
  have hNy : N ≤ ys.length := by rw [hys, layP_length]; exact hNl
  have hyc : ∀ y : PV, y ∈ ys → y.cells.length = 2 := fun y hy => by rw [hys] at hy; exact (layP_wf ls y hy).1
  obtain ⟨us, hus⟩ : ∃ us, us = ys.take N := ⟨_, rfl⟩
  have hul : us.length = N := by rw [hus, List.length_take]; omega
  have hwh : whole ps ls v = lays ps (ls.take N) := by rw [hN]; rfl
  rw [hwh]
  rw [← hN] at hup
  refine fn_of_vc eOk fOk fo34 Try.func34 rfl rfl rfl fun B hB => ?_
  intro add sub mul quo rem band bor bxor bclr shl shr ieq ilt ile seq slt beq bnot orb bcond iwrap iof ssz hA cat sq sl imin imax smin smax len slen u8 hL op hop call hcall code hcode ret hret
  cbv
  refine hcall _ _ _ _ _ (CallEv.same hcl rfl ?_)
  rintro _ _ ⟨K0, n0, xs0, rfl, rfl, hx0⟩
  have hlen : len us = Int.ofNat N := by rw [hL.len, hul]; rfl
  cbv
  refine hcode _ _ _ (CodeEv.drawA eOk fOk (by kernel_rfl) noX (by kernel_rfl) (by kernel_rfl) (by kernel_rfl) ?_)
  intro add2 sub2 mul2 quo2 rem2 band2 bor2 bxor2 bclr2 shl2 shr2 ieq2 ilt2 ile2 seq2 slt2 beq2 bnot2 orb2 bcond2 iwrap2 iof2 ssz2 hA2 cat2 sq2 sl2 imin2 imax2 smin2 smax2 len2 slen2 u82 hL2 op2 hop2 call2 hcall2 code2 hcode2 q2 hq2
  cbv
  refine hcall2 _ _ _ _ _ (CallEv.pure hup (.cons (.imm _ _ _) (.cons (.p _) .nil)) ?_)
  rintro _ _ ⟨e, he, rfl, rfl⟩
  cbv
  refine ⟨0, e, ys.length, rfl, rfl, rfl, Nat.zero_le _, (by omega), Nat.le_refl _, hyc, fun u hu => ?_⟩
  have hu : u = us := by rw [hu, hus, he]; rfl
  subst hu
  cbv
  rw [show len2 u = Int.ofNat N by rw [hL2.len, hul]; rfl]
  refine hq2 _ ?_
  cbv
  refine hcode _ _ _ (CodeEv.loop eOk fOk (ι := Nat × Nat × Nat × List PV) (fun s => [(5, .vw 0 2 0 s.2.1 (some s.2.2.1)), (22, .p (.sl u)), (23, .p (.int .i64 (Int.ofNat N))), (24, .p (.int .i64 (Int.ofNat s.1)))])
    (fun s => [.arr 45 2 s.2.2.2]) (fun s => s.1 ≤ N ∧ RowP s.2.2.2 s.2.2.1 s.2.1 (lays ps (ls.take s.1))) (fun s => N - s.1) (0, n0, K0, xs0) ?_ ?_)
  · exact ⟨(by repeat (first | exact trivial | refine And.intro rfl ?_)), rfl, Nat.zero_le _, hx0⟩
  rintro ⟨i, n, K, xs⟩ ⟨k1, k2⟩ rd hrd
  simp only at k1 k2
  by_cases hi : i < N
  · refine Exists.elim (get_of_lt (show i < ls.length by omega)) fun b hb => ?_
    have hbm := List.mem_of_getElem? hb
    have hbM := hM b hbm
    have hck := chks_kind (hck b hbm)
    have hnx := lays_next ps hb
    have hzi : u[i]? = some (.agg [.int .i64 b.ver, .sl (cP b.ch)]) := by rw [hus, List.getElem?_take_of_lt hi, hys]; exact layP_get hb
    have hpl := lays_take_len hps hM (show i ≤ ls.length by omega)
    have hsr := lays_srt (ls.take i) hps
    have hmul : i * M + M ≤ ls.length * M := by rw [← Nat.succ_mul]; exact Nat.mul_le_mul_right _ (by omega)
    refine Exists.elim (show ∃ qs, qs = lays ps (ls.take i) from ⟨_, rfl⟩) fun qs hqs => ?_
    rw [← hqs] at hnx hpl hsr k2
    obtain ⟨bv, bc⟩ := b
    simp only at hzi hck hbM hnx
    refine Exists.elim (show ∃ cs, cs = cP bc from ⟨_, rfl⟩) fun cs hcs => ?_
    rw [← hcs] at hzi
    refine Exists.elim (show ∃ C, C = bc.length from ⟨_, rfl⟩) fun C hC => ?_
    have hcl : cs.length = C := by rw [hcs, cP_length, hC]
    intro add1 sub1 mul1 quo1 rem1 band1 bor1 bxor1 bclr1 shl1 shr1 ieq1 ilt1 ile1 seq1 slt1 beq1 bnot1 orb1 bcond1 iwrap1 iof1 ssz1 hA1 cat1 sq1 sl1 imin1 imax1 smin1 smax1 len1 slen1 u81 hL1 op1 hop1 call1 hcall1 code1 hcode1
    have hadd1 : add1 .i64 (Int.ofNat i) 1 = Int.ofNat (i + 1) := by rw [hA1.add, IntWalk.i64_in _ (by simp only [Int.ofNat_eq_natCast]; omega)]; rfl
    have hlc : len1 cs = Int.ofNat C := by rw [hL1.len, hcl]; rfl
    cbv
    refine vcIf.yes (by first | (simp [hA1.not, hA1.eq, hA1.lt, hA1.le, hA1.cond, hA1.beq, hA1.orb, hL1.len, hL1.slen, hL1.sq, hi]; done) | (simp only [hi]; simp [hA1.not, hA1.eq, hA1.lt, hA1.le, hA1.cond, hA1.beq, hA1.orb, hL1.len, hL1.slen, hL1.sq, hi]; done) | (simp [hA1.not, hA1.eq, hA1.lt, hA1.le, hA1.cond, hA1.beq, hA1.orb, hL1.len, hL1.slen, hL1.sq, hi]; omega) | (simp only [hi]; simp [hA1.not, hA1.eq, hA1.lt, hA1.le, hA1.cond, hA1.beq, hA1.orb, hL1.len, hL1.slen, hL1.sq, hi]; omega)) ?_
    cbv
    refine ⟨i, _, rfl, hzi, rfl, ?_⟩
    cbv
    rw [hlc]
    refine hcode1 _ _ _ (CodeEv.loop eOk fOk (ι := Nat × Nat × Nat × List PV) (fun s => [(5, .vw 0 2 0 s.2.1 (some s.2.2.1)), (22, .p (.sl u)), (23, .p (.int .i64 (Int.ofNat N))), (24, .p (.int .i64 (Int.ofNat i))), (29, .p (.sl cs)), (30, .p (.int .i64 (Int.ofNat C))), (31, .p (.int .i64 (Int.ofNat s.1)))])
      (fun s => [.arr 45 2 s.2.2.2, .st 69 [.p (.int .i64 bv), .p (.sl cs)]]) (fun s => s.1 ≤ C ∧ RowP s.2.2.2 s.2.2.1 s.2.1 (ones qs (bc.take s.1))) (fun s => C - s.1) (0, n, K, xs) ?_ ?_)
    · exact ⟨(by repeat (first | exact trivial | refine And.intro rfl ?_)), rfl, Nat.zero_le _, by simp only [List.take_zero]; exact k2⟩
    rintro ⟨j, n', K', xs'⟩ ⟨m1, m2⟩ rd2 hrd2
    simp only at m1 m2
    by_cases hj : j < C
    · refine Exists.elim (get_of_lt (show j < bc.length by omega)) fun c hc => ?_
      have hzj : cs[j]? = some (.agg [.int .i64 c.kind, .str c.key, .str c.val]) := by rw [hcs]; exact cP_get hc
      have hkc := hck c (List.mem_of_getElem? hc)
      have hon := ones_next qs hc
      have hol : (ones qs (bc.take j)).length ≤ ps.length + i * M + M := by
        have h1 := ones_len hsr (bc.take j)
        have h2 : (bc.take j).length ≤ bc.length := by rw [List.length_take]; exact Nat.min_le_right _ _
        omega
      have h1 := oneP_spec (ones qs (bc.take j)) (ones_srt hsr _) c hkc xs' K' n' m2 (bnd_le (a := ps.length + ls.length * M) (by have := m2.2.1; clear hsz; omega) hsz)
      obtain ⟨ck, cy, cv⟩ := c
      simp only at hzj h1
      rw [← hon] at h1
      intro add2 sub2 mul2 quo2 rem2 band2 bor2 bxor2 bclr2 shl2 shr2 ieq2 ilt2 ile2 seq2 slt2 beq2 bnot2 orb2 bcond2 iwrap2 iof2 ssz2 hA2 cat2 sq2 sl2 imin2 imax2 smin2 smax2 len2 slen2 u82 hL2 op2 hop2 call2 hcall2 code2 hcode2
      have hadd2 : add2 .i64 (Int.ofNat j) 1 = Int.ofNat (j + 1) := by rw [hA2.add, IntWalk.i64_in _ (by simp only [Int.ofNat_eq_natCast]; omega)]; rfl
      cbv
      refine vcIf.yes (by first | (simp [hA2.not, hA2.eq, hA2.lt, hA2.le, hA2.cond, hA2.beq, hA2.orb, hL2.len, hL2.slen, hL2.sq, hj]; done) | (simp only [hj]; simp [hA2.not, hA2.eq, hA2.lt, hA2.le, hA2.cond, hA2.beq, hA2.orb, hL2.len, hL2.slen, hL2.sq, hj]; done) | (simp [hA2.not, hA2.eq, hA2.lt, hA2.le, hA2.cond, hA2.beq, hA2.orb, hL2.len, hL2.slen, hL2.sq, hj]; omega) | (simp only [hj]; simp [hA2.not, hA2.eq, hA2.lt, hA2.le, hA2.cond, hA2.beq, hA2.orb, hL2.len, hL2.slen, hL2.sq, hj]; omega)) ?_
      cbv
      refine ⟨j, _, rfl, hzj, rfl, ?_⟩
      cbv
      refine hcall2 _ _ _ _ _ (CallEv.lend [0] h1 rfl (.cons (.vw 0 0 2 0 n' (some K') rfl) (.cons (.p _) .nil)) ⟨⟨_, rfl, .arr _ _ _⟩, trivial⟩ ?_)
      rintro _ _ ⟨K2, n2, xs2, rfl, rfl, g⟩
      cbv
      refine hrd2 _ ⟨(j + 1, n2, K2, xs2), _, ?_, ⟨hj, g⟩, rfl, ⟨rfl, rfl, rfl, rfl, rfl, rfl, ?_, trivial⟩, rfl, rfl, rfl, ?_⟩
      · show C - (j + 1) < C - j
        omega
      · show some (V.p (.int .i64 _)) = _
        rw [hadd2]
      · rw [hB]; exact Nat.zero_le _
    · have hgood : RowP xs' K' n' (lays ps (ls.take (i + 1))) := by rw [hnx]; rw [List.take_of_length_le (by omega)] at m2; exact m2
      intro add2 sub2 mul2 quo2 rem2 band2 bor2 bxor2 bclr2 shl2 shr2 ieq2 ilt2 ile2 seq2 slt2 beq2 bnot2 orb2 bcond2 iwrap2 iof2 ssz2 hA2 cat2 sq2 sl2 imin2 imax2 smin2 smax2 len2 slen2 u82 hL2 op2 hop2 call2 hcall2 code2 hcode2
      cbv
      refine vcIf.no (by first | (simp [hA2.not, hA2.eq, hA2.lt, hA2.le, hA2.cond, hA2.beq, hA2.orb, hL2.len, hL2.slen, hL2.sq, hj]; done) | (simp only [hj]; simp [hA2.not, hA2.eq, hA2.lt, hA2.le, hA2.cond, hA2.beq, hA2.orb, hL2.len, hL2.slen, hL2.sq, hj]; done) | (simp [hA2.not, hA2.eq, hA2.lt, hA2.le, hA2.cond, hA2.beq, hA2.orb, hL2.len, hL2.slen, hL2.sq, hj]; omega) | (simp only [hj]; simp [hA2.not, hA2.eq, hA2.lt, hA2.le, hA2.cond, hA2.beq, hA2.orb, hL2.len, hL2.slen, hL2.sq, hj]; omega)) ?_
      cbv
      refine hrd _ ⟨(i + 1, n', K', xs'), _, ?_, ⟨hi, hgood⟩, rfl, ⟨rfl, rfl, rfl, ?_, trivial⟩, rfl, rfl, rfl, ?_⟩
      · show N - (i + 1) < N - i
        omega
      · show some (V.p (.int .i64 _)) = _
        rw [hadd1]
      · rw [hB]; exact Nat.zero_le _
  · have hgood : RowP xs K n (lays ps (ls.take N)) := by rw [show N = i by omega]; exact k2
    intro add1 sub1 mul1 quo1 rem1 band1 bor1 bxor1 bclr1 shl1 shr1 ieq1 ilt1 ile1 seq1 slt1 beq1 bnot1 orb1 bcond1 iwrap1 iof1 ssz1 hA1 cat1 sq1 sl1 imin1 imax1 smin1 smax1 len1 slen1 u81 hL1 op1 hop1 call1 hcall1 code1 hcode1
    cbv
    refine vcIf.no (by first | (simp [hA1.not, hA1.eq, hA1.lt, hA1.le, hA1.cond, hA1.beq, hA1.orb, hL1.len, hL1.slen, hL1.sq, hi]; done) | (simp only [hi]; simp [hA1.not, hA1.eq, hA1.lt, hA1.le, hA1.cond, hA1.beq, hA1.orb, hL1.len, hL1.slen, hL1.sq, hi]; done) | (simp [hA1.not, hA1.eq, hA1.lt, hA1.le, hA1.cond, hA1.beq, hA1.orb, hL1.len, hL1.slen, hL1.sq, hi]; omega) | (simp only [hi]; simp [hA1.not, hA1.eq, hA1.lt, hA1.le, hA1.cond, hA1.beq, hA1.orb, hL1.len, hL1.slen, hL1.sq, hi]; omega)) ?_
    cbv
    exact hret _ (RetEv.ret eOk rfl ⟨K, n, xs, rfl, rfl, hgood⟩)
end Go.Proofs.Ytdeolllpbflemaa
