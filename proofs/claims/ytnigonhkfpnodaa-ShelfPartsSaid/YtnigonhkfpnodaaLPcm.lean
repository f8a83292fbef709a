/- LPa6, LPa7, LPa8, LPa9 together. Conditions: on sizes. -/
import Derived.Test.YtnigonhkfpnodaaLPbm
import Derived.Test.YtnigonhkfpnodaaLY10
set_option maxRecDepth 100000
set_option maxHeartbeats 16000000
set_option linter.unusedSimpArgs false
set_option linter.unusedVariables false
section
namespace Go.Proofs.Ytnigonhkfpnodaa
open Go Go.Lx
open Go.Sx (vcIf)

theorem wholeO_spec (a f l v : Int) (ps : List Pr) (hps : Srt ps) (ls : List Lay) (M : Nat) (hM : ∀ l ∈ ls, l.ch.length ≤ M) (hck : ∀ l ∈ ls, chks l.ch = 0) (hsz : (ps.length + ls.length * M + 1) * 32 ≤ 140737488355328) (hn : ls.length < 281474976710656)
    (zs : List PV) (hzs : zs = prP ps) (xs0 : List PV) (hxs0 : xs0 = layP ls) (n0 : Nat) (hn0 : n0 = ls.length) :
    FnL Try.prog 91 [.own 0 0, .p (.int .i64 v)] [psS a f l zs n0, psA xs0] fun r own => ∃ K n xs, r = .vw 2 2 0 n (some K) ∧ own = [psS a f l zs n0, psA xs0, .arr 102 2 xs] ∧ RowP xs K n (whole ps ls v) := by
  have hcl := clonePr_spec ps (bnd_le0 (b := 0) hsz) zs hzs
  have hxl : xs0.length = n0 := by rw [hxs0, layP_length, hn0]
  obtain ⟨ys, hys⟩ : ∃ ys, ys = xs0 := ⟨_, rfl⟩
  have hy : ys = (xs0.drop 0).take n0 := by rw [hys, List.drop_zero, ← hxl, List.take_length]
  have hup := upto_spec a f l v zs ls hn ys (by rw [hys, hxs0])
  obtain ⟨N, hN⟩ : ∃ N, N = upto ls v := ⟨_, rfl⟩
  have hNl : N ≤ ls.length := by rw [hN]; exact upto_le v ls
  have hwh : whole ps ls v = lays ps (ls.take N) := by rw [hN]; rfl
  rw [hwh]
  rw [← hN] at hup
  refine fn_of_vc eOk fOk fo91 Try.func91 rfl rfl rfl fun B hB => ?_
  intro add sub mul quo rem band bor bxor bclr shl shr ieq ilt ile seq slt beq bnot orb bcond iwrap iof ssz hA cat sq sl imin imax smin smax len slen u8 hL op hop call hcall code hcode ret hret
  cbv
  refine hcall _ _ _ _ _ (CallEv.same hcl rfl ?_)
  rintro _ _ ⟨K0, m0, ws0, rfl, rfl, hx0⟩
  cbv
  refine hcode _ _ _ (CodeEv.drawA eOk fOk (by kernel_rfl) noX (by kernel_rfl) (by kernel_rfl) (by kernel_rfl) ?_)
  intro add2 sub2 mul2 quo2 rem2 band2 bor2 bxor2 bclr2 shl2 shr2 ieq2 ilt2 ile2 seq2 slt2 beq2 bnot2 orb2 bcond2 iwrap2 iof2 ssz2 hA2 cat2 sq2 sl2 imin2 imax2 smin2 smax2 len2 slen2 u82 hL2 op2 hop2 call2 hcall2 code2 hcode2 q2 hq2
  cbv
  refine hcall2 _ _ _ _ _ (CallEv.shown [] [0, 1] hup rfl (.cons (psT (by decide) (by decide) rfl rfl ys hy) (.cons (.p _) .nil)) trivial ?_)
  rintro _ _ ⟨e, he, rfl, rfl⟩
  refine ⟨.p _ (.int _ _), (by intro r hr; cases hr), ?_⟩
  cbv
  refine ⟨0, e, rfl, rfl, Nat.zero_le _, (by omega), (fun c h => by cases h), fun o1 m1 ho1 hm1 => ?_⟩
  obtain rfl : 0 = o1 := by omega
  obtain rfl : N = m1 := by omega
  cbv
  rw [show iof2 N = Int.ofNat N from hA2.ofNat N]
  refine hq2 _ ?_
  cbv
  refine hcode _ _ _ (CodeEv.loop eOk fOk (ι := Nat × Nat × Nat × List PV) (fun s => [(5, .vw 2 2 0 s.2.1 (some s.2.2.1)), (22, .vw 1 2 0 N none), (23, .p (.int .i64 (Int.ofNat N))), (24, .p (.int .i64 (Int.ofNat s.1)))])
    (fun s => [psS a f l zs n0, psA xs0, .arr 102 2 s.2.2.2]) (fun s => s.1 ≤ N ∧ RowP s.2.2.2 s.2.2.1 s.2.1 (lays ps (ls.take s.1))) (fun s => N - s.1) (0, m0, K0, ws0) ?_ ?_)
  · exact ⟨(by repeat (first | exact trivial | refine And.intro rfl ?_)), rfl, Nat.zero_le _, hx0⟩
  rintro ⟨i, n, K, xs⟩ ⟨k1, k2⟩ rd hrd
  simp only at k1 k2
  by_cases hi : i < N
  · refine Exists.elim (get_of_lt (show i < ls.length by omega)) fun b hb => ?_
    have hbm := List.mem_of_getElem? hb
    have hbM := hM b hbm
    have hck := chks_kind (hck b hbm)
    have hnx := lays_next ps hb
    have hzi : xs0[i]? = some (.agg [.int .i64 b.ver, .sl (cP b.ch)]) := by rw [hxs0]; exact layP_get hb
    have hpl := lays_take_len hps hM (show i ≤ ls.length by omega)
    have hsr := lays_srt (ls.take i) hps
    have hmul : i * M + M ≤ ls.length * M := by rw [← Nat.succ_mul]; exact Nat.mul_le_mul_right _ (by omega)
    refine Exists.elim (show ∃ qs, qs = lays ps (ls.take i) from ⟨_, rfl⟩) fun qs hqs => ?_
    rw [← hqs] at hnx hpl hsr k2
    obtain ⟨bv, bc⟩ := b
    simp only at hzi hck hbM hnx
    refine Exists.elim (show ∃ cs, cs = cP bc from ⟨_, rfl⟩) fun cs hcs => ?_
    rw [← hcs] at hzi
    refine Exists.elim (show ∃ C, C = bc.length from ⟨_, rfl⟩) fun C hC => ?_
    have hcl : cs.length = C := by rw [hcs, cP_length, hC]
    intro add1 sub1 mul1 quo1 rem1 band1 bor1 bxor1 bclr1 shl1 shr1 ieq1 ilt1 ile1 seq1 slt1 beq1 bnot1 orb1 bcond1 iwrap1 iof1 ssz1 hA1 cat1 sq1 sl1 imin1 imax1 smin1 smax1 len1 slen1 u81 hL1 op1 hop1 call1 hcall1 code1 hcode1
    have hadd1 : add1 .i64 (Int.ofNat i) 1 = Int.ofNat (i + 1) := by rw [hA1.add, IntWalk.i64_in _ (by simp only [Int.ofNat_eq_natCast]; omega)]; rfl
    have hlc : len1 cs = Int.ofNat C := by rw [hL1.len, hcl]; rfl
    cbv
    refine vcIf.yes (by first | (simp [hA1.not, hA1.eq, hA1.lt, hA1.le, hA1.cond, hA1.beq, hA1.orb, hL1.len, hL1.slen, hL1.sq, hi]; done) | (simp only [hi]; simp [hA1.not, hA1.eq, hA1.lt, hA1.le, hA1.cond, hA1.beq, hA1.orb, hL1.len, hL1.slen, hL1.sq, hi]; done) | (simp [hA1.not, hA1.eq, hA1.lt, hA1.le, hA1.cond, hA1.beq, hA1.orb, hL1.len, hL1.slen, hL1.sq, hi]; omega) | (simp only [hi]; simp [hA1.not, hA1.eq, hA1.lt, hA1.le, hA1.cond, hA1.beq, hA1.orb, hL1.len, hL1.slen, hL1.sq, hi]; omega)) ?_
    cbv
    refine ⟨i, rfl, hi, fun q hq => ?_⟩
    have hq : q = i := by omega
    have guq : xs0[q]? = some (.agg [.int .i64 bv, .sl cs]) := by rw [hq]; exact hzi
    cbv
    refine ⟨_, guq, ?_⟩
    cbv
    rw [hlc]
    refine hcode1 _ _ _ (CodeEv.loop eOk fOk (ι := Nat × Nat × Nat × List PV) (fun s => [(5, .vw 2 2 0 s.2.1 (some s.2.2.1)), (22, .vw 1 2 0 N none), (23, .p (.int .i64 (Int.ofNat N))), (24, .p (.int .i64 (Int.ofNat i))), (29, .p (.sl cs)), (30, .p (.int .i64 (Int.ofNat C))), (31, .p (.int .i64 (Int.ofNat s.1)))])
      (fun s => [psS a f l zs n0, psA xs0, .arr 102 2 s.2.2.2, .st 155 [.p (.int .i64 bv), .p (.sl cs)]]) (fun s => s.1 ≤ C ∧ RowP s.2.2.2 s.2.2.1 s.2.1 (ones qs (bc.take s.1))) (fun s => C - s.1) (0, n, K, xs) ?_ ?_)
    · exact ⟨(by repeat (first | exact trivial | refine And.intro rfl ?_)), rfl, Nat.zero_le _, by simp only [List.take_zero]; exact k2⟩
    rintro ⟨j, n', K', xs'⟩ ⟨m1, m2⟩ rd2 hrd2
    simp only at m1 m2
    by_cases hj : j < C
    · refine Exists.elim (get_of_lt (show j < bc.length by omega)) fun c hc => ?_
      have hzj : cs[j]? = some (.agg [.int .i64 c.kind, .str c.key, .str c.val]) := by rw [hcs]; exact cP_get hc
      have hkc := hck c (List.mem_of_getElem? hc)
      have hon := ones_next qs hc
      have hol : (ones qs (bc.take j)).length ≤ ps.length + i * M + M := by
        have h1 := ones_len hsr (bc.take j)
        have h2 : (bc.take j).length ≤ bc.length := by rw [List.length_take]; exact Nat.min_le_right _ _
        omega
      have h1 := oneP_spec (ones qs (bc.take j)) (ones_srt hsr _) c hkc xs' K' n' m2 (bnd_le (a := ps.length + ls.length * M) (by have := m2.2.1; clear hsz; omega) hsz)
      obtain ⟨ck, cy, cv⟩ := c
      simp only at hzj h1
      rw [← hon] at h1
      intro add2 sub2 mul2 quo2 rem2 band2 bor2 bxor2 bclr2 shl2 shr2 ieq2 ilt2 ile2 seq2 slt2 beq2 bnot2 orb2 bcond2 iwrap2 iof2 ssz2 hA2 cat2 sq2 sl2 imin2 imax2 smin2 smax2 len2 slen2 u82 hL2 op2 hop2 call2 hcall2 code2 hcode2
      have hadd2 : add2 .i64 (Int.ofNat j) 1 = Int.ofNat (j + 1) := by rw [hA2.add, IntWalk.i64_in _ (by simp only [Int.ofNat_eq_natCast]; omega)]; rfl
      cbv
      refine vcIf.yes (by first | (simp [hA2.not, hA2.eq, hA2.lt, hA2.le, hA2.cond, hA2.beq, hA2.orb, hL2.len, hL2.slen, hL2.sq, hj]; done) | (simp only [hj]; simp [hA2.not, hA2.eq, hA2.lt, hA2.le, hA2.cond, hA2.beq, hA2.orb, hL2.len, hL2.slen, hL2.sq, hj]; done) | (simp [hA2.not, hA2.eq, hA2.lt, hA2.le, hA2.cond, hA2.beq, hA2.orb, hL2.len, hL2.slen, hL2.sq, hj]; omega) | (simp only [hj]; simp [hA2.not, hA2.eq, hA2.lt, hA2.le, hA2.cond, hA2.beq, hA2.orb, hL2.len, hL2.slen, hL2.sq, hj]; omega)) ?_
      cbv
      refine ⟨j, _, rfl, hzj, rfl, ?_⟩
      cbv
      refine hcall2 _ _ _ _ _ (CallEv.lend [2] h1 rfl (.cons (.vw 0 2 2 0 n' (some K') rfl) (.cons (.p _) .nil)) ⟨⟨_, rfl, .arr _ _ _⟩, trivial⟩ ?_)
      rintro _ _ ⟨K2, n2, xs2, rfl, rfl, g⟩
      cbv
      refine hrd2 _ ⟨(j + 1, n2, K2, xs2), _, ?_, ⟨hj, g⟩, rfl, ⟨rfl, rfl, rfl, rfl, rfl, rfl, ?_, trivial⟩, rfl, rfl, rfl, ?_⟩
      · show C - (j + 1) < C - j
        omega
      · show some (V.p (.int .i64 _)) = _
        rw [hadd2]
      · rw [hB]; simp
    · have hgood : RowP xs' K' n' (lays ps (ls.take (i + 1))) := by rw [hnx]; rw [List.take_of_length_le (by omega)] at m2; exact m2
      intro add2 sub2 mul2 quo2 rem2 band2 bor2 bxor2 bclr2 shl2 shr2 ieq2 ilt2 ile2 seq2 slt2 beq2 bnot2 orb2 bcond2 iwrap2 iof2 ssz2 hA2 cat2 sq2 sl2 imin2 imax2 smin2 smax2 len2 slen2 u82 hL2 op2 hop2 call2 hcall2 code2 hcode2
      cbv
      refine vcIf.no (by first | (simp [hA2.not, hA2.eq, hA2.lt, hA2.le, hA2.cond, hA2.beq, hA2.orb, hL2.len, hL2.slen, hL2.sq, hj]; done) | (simp only [hj]; simp [hA2.not, hA2.eq, hA2.lt, hA2.le, hA2.cond, hA2.beq, hA2.orb, hL2.len, hL2.slen, hL2.sq, hj]; done) | (simp [hA2.not, hA2.eq, hA2.lt, hA2.le, hA2.cond, hA2.beq, hA2.orb, hL2.len, hL2.slen, hL2.sq, hj]; omega) | (simp only [hj]; simp [hA2.not, hA2.eq, hA2.lt, hA2.le, hA2.cond, hA2.beq, hA2.orb, hL2.len, hL2.slen, hL2.sq, hj]; omega)) ?_
      cbv
      refine hrd _ ⟨(i + 1, n', K', xs'), _, ?_, ⟨hi, hgood⟩, rfl, ⟨rfl, rfl, rfl, ?_, trivial⟩, rfl, rfl, rfl, ?_⟩
      · show N - (i + 1) < N - i
        omega
      · show some (V.p (.int .i64 _)) = _
        rw [hadd1]
      · rw [hB]; simp
  · have hgood : RowP xs K n (lays ps (ls.take N)) := by rw [show N = i by omega]; exact k2
    intro add1 sub1 mul1 quo1 rem1 band1 bor1 bxor1 bclr1 shl1 shr1 ieq1 ilt1 ile1 seq1 slt1 beq1 bnot1 orb1 bcond1 iwrap1 iof1 ssz1 hA1 cat1 sq1 sl1 imin1 imax1 smin1 smax1 len1 slen1 u81 hL1 op1 hop1 call1 hcall1 code1 hcode1
    cbv
    refine vcIf.no (by first | (simp [hA1.not, hA1.eq, hA1.lt, hA1.le, hA1.cond, hA1.beq, hA1.orb, hL1.len, hL1.slen, hL1.sq, hi]; done) | (simp only [hi]; simp [hA1.not, hA1.eq, hA1.lt, hA1.le, hA1.cond, hA1.beq, hA1.orb, hL1.len, hL1.slen, hL1.sq, hi]; done) | (simp [hA1.not, hA1.eq, hA1.lt, hA1.le, hA1.cond, hA1.beq, hA1.orb, hL1.len, hL1.slen, hL1.sq, hi]; omega) | (simp only [hi]; simp [hA1.not, hA1.eq, hA1.lt, hA1.le, hA1.cond, hA1.beq, hA1.orb, hL1.len, hL1.slen, hL1.sq, hi]; omega)) ?_
    cbv
    exact hret _ (RetEv.ret eOk rfl ⟨K, n, xs, rfl, rfl, hgood⟩)

theorem clipPr_spec (xs : List PV) (K n : Nat) (ps : List Pr) (hx : RowP xs K n ps) (m : Nat) (hm : m ≤ n) :
    FnL Try.prog 93 [.vw 0 2 0 m (some K)] [.arr 102 2 xs] fun v own => v = .vw 0 2 0 m (some m) ∧ own = [.arr 102 2 xs] := by
  have hxl := hx.1
  have hnK := hx.2.2.1
  refine fn_of_vc eOk fOk fo93 Try.func93 rfl rfl rfl fun B hB => ?_
  intro add sub mul quo rem band bor bxor bclr shl shr ieq ilt ile seq slt beq bnot orb bcond iwrap iof ssz hA cat sq sl imin imax smin smax len slen u8 hL op hop call hcall code hcode ret hret
  have hio : iof m = Int.ofNat m := hA.ofNat m
  cbv
  refine ⟨0, m, m, rfl, hio, hio, Nat.zero_le _, Nat.le_refl _, by omega, (fun c h => by cases h; omega), fun o1 m1 c1 ho hm' hc => ?_⟩
  obtain rfl : 0 = o1 := by omega
  obtain rfl : m = m1 := by omega
  obtain rfl : m = c1 := by omega
  cbv
  exact hret _ (RetEv.ret eOk rfl ⟨rfl, rfl⟩)

theorem list_spec (a f l v : Int) (lo hi : List UInt8) (most : Int) (ps : List Pr) (hps : Srt ps) (ls : List Lay) (M : Nat) (hM : ∀ l ∈ ls, l.ch.length ≤ M) (hck : ∀ l ∈ ls, chks l.ch = 0) (hsz : (ps.length + ls.length * M + 1) * 32 ≤ 140737488355328) (hn : ls.length < 281474976710656)
    (zs : List PV) (hzs : zs = prP ps) (ys : List PV) (hys : ys = layP ls) :
    FnL Try.prog 52 [psI a f l zs ys, .p (.agg [.str lo, .str hi]), .p (.int .i64 v), .p (.int .i64 most)] [] fun r own =>
      ((knw f l v ≠ 0 ∧ r = .p (.tup [.sl [], .int .i64 (Int.ofNat (knw f l v))])) ∨ (knw f l v = 0 ∧ most < 0 ∧ r = .p (.tup [.sl [], .int .i64 1])) ∨
       (knw f l v = 0 ∧ ¬ most < 0 ∧ ∃ us, us = prP (((whole ps ls v).filter fun p => hs ⟨lo, hi⟩ p.key).take most.toNat) ∧ r = .p (.tup [.sl us, .int .i64 0]))) ∧ own = [] := by
  obtain ⟨E, hE⟩ : ∃ E, E = knw f l v := ⟨_, rfl⟩
  have hkn := known_spec a f l v zs ys
  rw [← hE] at hkn ⊢
  have hwo := whole_spec a f l v ps hps ls M hM hck hsz hn zs hzs ys hys
  have hwl := lays_take_len hps hM (upto_le v ls)
  have hmul : upto ls v * M ≤ ls.length * M := Nat.mul_le_mul_right _ (upto_le v ls)
  obtain ⟨W, hW⟩ : ∃ W, W = whole ps ls v := ⟨_, rfl⟩
  rw [show lays ps (ls.take (upto ls v)) = W from hW.symm] at hwl
  rw [← hW] at hwo ⊢
  have hWb : W.length < 140737488355328 := by omega
  refine FnL.flat (R := fun r own => (E ≠ 0 ∧ r = .p (.tup [.nils, .int .i64 (Int.ofNat E)])) ∨ (E = 0 ∧ most < 0 ∧ r = .p (.tup [.nils, .int .i64 1])) ∨
       (E = 0 ∧ ¬ most < 0 ∧ ∃ us, us = prP ((W.filter fun p => hs ⟨lo, hi⟩ p.key).take most.toNat) ∧ r = .p (.tup [.sl us, .int .i64 0]))) ?_ (by
    rintro _ _ (⟨h1, rfl⟩ | ⟨h1, h2, rfl⟩ | ⟨h1, h2, us, h3, rfl⟩)
    · exact ⟨_, .tup [.sl [], .int .i64 (Int.ofNat E)], rfl, PW.tup ⟨PW.nils, .refl _, trivial⟩, .inl ⟨h1, rfl⟩, rfl⟩
    · exact ⟨_, .tup [.sl [], .int .i64 1], rfl, PW.tup ⟨PW.nils, .refl _, trivial⟩, .inr (.inl ⟨h1, h2, rfl⟩), rfl⟩
    · exact ⟨_, _, rfl, .refl _, .inr (.inr ⟨h1, h2, us, h3, rfl⟩), rfl⟩)
  refine fn_of_vc eOk fOk fo52 Try.func52 rfl rfl rfl fun B hB => ?_
  intro add sub mul quo rem band bor bxor bclr shl shr ieq ilt ile seq slt beq bnot orb bcond iwrap iof ssz hA cat sq sl imin imax smin smax len slen u8 hL op hop call hcall code hcode ret hret
  cbv
  refine hcall _ _ _ _ _ (CallEv.pure hkn (.cons (.imm _ _ _) (.cons (.p _) .nil)) ?_)
  rintro _ _ ⟨e, he, rfl, rfl⟩
  cbv
  by_cases h0 : e = 0
  rotate_left
  · refine vcIf.yes (by first | (simp [hA.not, hA.eq, hA.lt, hA.le, hA.cond, hA.beq, hA.orb, hL.len, hL.slen, hL.sq, h0]; done) | (simp only [h0]; simp [hA.not, hA.eq, hA.lt, hA.le, hA.cond, hA.beq, hA.orb, hL.len, hL.slen, hL.sq, h0]; done) | (simp [hA.not, hA.eq, hA.lt, hA.le, hA.cond, hA.beq, hA.orb, hL.len, hL.slen, hL.sq, h0]; omega) | (simp only [h0]; simp [hA.not, hA.eq, hA.lt, hA.le, hA.cond, hA.beq, hA.orb, hL.len, hL.slen, hL.sq, h0]; omega)) ?_
    cbv
    exact hret _ (RetEv.ret eOk rfl (.inl ⟨by omega, by rw [← he]; rfl⟩))
  refine vcIf.no (by first | (simp [hA.not, hA.eq, hA.lt, hA.le, hA.cond, hA.beq, hA.orb, hL.len, hL.slen, hL.sq, h0]; done) | (simp only [h0]; simp [hA.not, hA.eq, hA.lt, hA.le, hA.cond, hA.beq, hA.orb, hL.len, hL.slen, hL.sq, h0]; done) | (simp [hA.not, hA.eq, hA.lt, hA.le, hA.cond, hA.beq, hA.orb, hL.len, hL.slen, hL.sq, h0]; omega) | (simp only [h0]; simp [hA.not, hA.eq, hA.lt, hA.le, hA.cond, hA.beq, hA.orb, hL.len, hL.slen, hL.sq, h0]; omega)) ?_
  cbv
  by_cases h1 : most < 0
  · refine vcIf.yes (by first | (simp [hA.not, hA.eq, hA.lt, hA.le, hA.cond, hA.beq, hA.orb, hL.len, hL.slen, hL.sq, h1]; done) | (simp only [h1]; simp [hA.not, hA.eq, hA.lt, hA.le, hA.cond, hA.beq, hA.orb, hL.len, hL.slen, hL.sq, h1]; done) | (simp [hA.not, hA.eq, hA.lt, hA.le, hA.cond, hA.beq, hA.orb, hL.len, hL.slen, hL.sq, h1]; omega) | (simp only [h1]; simp [hA.not, hA.eq, hA.lt, hA.le, hA.cond, hA.beq, hA.orb, hL.len, hL.slen, hL.sq, h1]; omega)) ?_
    cbv
    exact hret _ (RetEv.ret eOk rfl (.inr (.inl ⟨by omega, h1, rfl⟩)))
  refine vcIf.no (by first | (simp [hA.not, hA.eq, hA.lt, hA.le, hA.cond, hA.beq, hA.orb, hL.len, hL.slen, hL.sq, h1]; done) | (simp only [h1]; simp [hA.not, hA.eq, hA.lt, hA.le, hA.cond, hA.beq, hA.orb, hL.len, hL.slen, hL.sq, h1]; done) | (simp [hA.not, hA.eq, hA.lt, hA.le, hA.cond, hA.beq, hA.orb, hL.len, hL.slen, hL.sq, h1]; omega) | (simp only [h1]; simp [hA.not, hA.eq, hA.lt, hA.le, hA.cond, hA.beq, hA.orb, hL.len, hL.slen, hL.sq, h1]; omega)) ?_
  cbv
  refine hcall _ _ _ _ _ (CallEv.pure hwo (.cons (.imm _ _ _) (.cons (.p _) .nil)) ?_)
  rintro _ _ ⟨K, n, xs, rfl, rfl, hx⟩
  have hnW : n = W.length := hx.2.1
  have hdl := delfSp_spec W xs K n hx (by omega) 92 (.str lo) (.str hi) (by intro q hq; simp only [List.mem_cons, List.not_mem_nil, or_false] at hq; rcases hq with rfl | rfl <;> rfl) (fun p => !(hs ⟨lo, hi⟩ p.key)) (fun p => ldel1_spec lo hi p.key p.val)
  cbv
  refine hcall _ _ _ _ _ (CallEv.lend [1, 0] hdl rfl (.cons (.vw 0 1 2 0 n (some K) rfl) (.cons (.fn _ _ _ rfl (TrL.cons (.own 1 0 0 rfl) .nil).2) .nil)) ⟨⟨_, rfl, .arr _ _ _⟩, ⟨_, rfl, .st _ _ _ (.cons (.p _) (.cons (.p _) .nil))⟩, trivial⟩ ?_)
  rintro _ _ ⟨m, ws, rfl, rfl, hw⟩
  obtain ⟨c, hc⟩ : ∃ c, c = min most.toNat m := ⟨_, rfl⟩
  have hcm : c ≤ m := by omega
  have hcp := clipPr_spec ws K m _ hw c hcm
  have hwm := hw.2.1
  have hwK := hw.2.2.1
  have hwl := hw.1
  have hgood : ((ws.drop 0).take c) = prP ((W.filter fun p => hs ⟨lo, hi⟩ p.key).take most.toNat) := by
    have h2 : (W.filter fun p => !(!(hs ⟨lo, hi⟩ p.key))) = W.filter fun p => hs ⟨lo, hi⟩ p.key := by simp
    rw [h2] at hw hwm
    have h3 := hw.2.2.2.2
    have h4 : (ws.drop 0).take c = (ws.take m).take c := by rw [List.drop_zero, List.take_take, Nat.min_eq_left hcm]
    rw [h4, h3, show prP (W.filter fun p => hs ⟨lo, hi⟩ p.key) = (W.filter fun p => hs ⟨lo, hi⟩ p.key).map Pr.v from rfl, ← List.map_take]
    show prP _ = _
    rw [show (W.filter fun p => hs ⟨lo, hi⟩ p.key).take c = (W.filter fun p => hs ⟨lo, hi⟩ p.key).take most.toNat from ?_]
    rcases Nat.le_total most.toNat m with h5 | h5
    · rw [show c = most.toNat by omega]
    · rw [show c = m by omega, List.take_of_length_le (by omega), List.take_of_length_le (by omega)]
  have hmin : imin most (iof m) = Int.ofNat c := by
    have h5 : iof m = Int.ofNat m := hA.ofNat m
    rw [h5, hL.imin]
    simp only [Int.ofNat_eq_natCast]
    split <;> omega
  cbv
  refine ⟨0, c, rfl, hmin, Nat.zero_le _, by omega, (fun q h => by cases h; omega), fun o1 m1 ho hm' => ?_⟩
  obtain rfl : 0 = o1 := by omega
  obtain rfl : c = m1 := by omega
  cbv
  refine hcall _ _ _ _ _ (CallEv.lend [1] hcp rfl (.cons (.vw 0 1 2 0 c (some K) rfl) .nil) ⟨⟨_, rfl, .arr _ _ _⟩, trivial⟩ ?_)
  rintro _ _ ⟨rfl, rfl⟩
  cbv
  refine hret _ (RetEv.retF eOk rfl 1 rfl (by rw [hB]; exact Nat.zero_le _) (.inr (.inr ⟨by omega, h1, (ws.drop 0).take c, hgood, rfl⟩)))
end Go.Proofs.Ytnigonhkfpnodaa
end
section
namespace Go.Proofs.Ytnigonhkfpnodaa
open Go Go.Lx
open Go.Sx (vcIf)

theorem get_nil (k : List UInt8) (v : Int) : FnL Try.prog 54 [.p .nilp, .p (.str k), .p (.int .i64 v)] [] fun r own => r = .p (.tup [.str [], .bool false, .int .i64 1]) ∧ own = [] := by
  refine FnL.flat (R := fun r own => r = .p (.tup [.str [], .bool false, .int .i64 1])) ?_ (by rintro _ _ rfl; exact ⟨_, _, rfl, .refl _, rfl, rfl⟩)
  refine fn_of_vc eOk fOk fo54 Try.func54 rfl rfl rfl fun B hB => ?_
  intro add sub mul quo rem band bor bxor bclr shl shr ieq ilt ile seq slt beq bnot orb bcond iwrap iof ssz hA cat sq sl imin imax smin smax len slen u8 hL op hop call hcall code hcode ret hret
  cbv
  refine hcall _ _ _ _ _ (CallEv.pure (known_nil v) (.cons (.p _) (.cons (.p _) .nil)) ?_)
  rintro _ _ ⟨rfl, rfl⟩
  cbv
  refine vcIf.yes (by first | (simp [hA.not, hA.eq, hA.lt, hA.le, hA.cond, hA.beq, hA.orb, hL.len, hL.slen, hL.sq]; done) | (simp [hA.not, hA.eq, hA.lt, hA.le, hA.cond, hA.beq, hA.orb, hL.len, hL.slen, hL.sq]; omega)) ?_
  cbv
  exact hret _ (RetEv.ret eOk rfl rfl)
theorem list_nil (lo hi : List UInt8) (v m : Int) : FnL Try.prog 52 [.p .nilp, .p (.agg [.str lo, .str hi]), .p (.int .i64 v), .p (.int .i64 m)] [] fun r own => r = .p (.tup [.nils, .int .i64 1]) ∧ own = [] := by
  refine FnL.flat (R := fun r own => r = .p (.tup [.nils, .int .i64 1])) ?_ (by rintro _ _ rfl; exact ⟨_, _, rfl, .refl _, rfl, rfl⟩)
  refine fn_of_vc eOk fOk fo52 Try.func52 rfl rfl rfl fun B hB => ?_
  intro add sub mul quo rem band bor bxor bclr shl shr ieq ilt ile seq slt beq bnot orb bcond iwrap iof ssz hA cat sq sl imin imax smin smax len slen u8 hL op hop call hcall code hcode ret hret
  cbv
  refine hcall _ _ _ _ _ (CallEv.pure (known_nil v) (.cons (.p _) (.cons (.p _) .nil)) ?_)
  rintro _ _ ⟨rfl, rfl⟩
  cbv
  refine vcIf.yes (by first | (simp [hA.not, hA.eq, hA.lt, hA.le, hA.cond, hA.beq, hA.orb, hL.len, hL.slen, hL.sq]; done) | (simp [hA.not, hA.eq, hA.lt, hA.le, hA.cond, hA.beq, hA.orb, hL.len, hL.slen, hL.sq]; omega)) ?_
  cbv
  exact hret _ (RetEv.ret eOk rfl rfl)
theorem forget_nil (v : Int) : FnL Try.prog 62 [.p .nilp, .p (.int .i64 v)] [] fun r own => r = .p (.int .i64 1) ∧ own = [] := by
  refine fn_of_vc eOk fOk fo62 Try.func62 rfl rfl rfl fun B hB => ?_
  intro add sub mul quo rem band bor bxor bclr shl shr ieq ilt ile seq slt beq bnot orb bcond iwrap iof ssz hA cat sq sl imin imax smin smax len slen u8 hL op hop call hcall code hcode ret hret
  cbv
  exact hret _ (RetEv.ret eOk rfl ⟨rfl, rfl⟩)
theorem back_nil (v : Int) : FnL Try.prog 56 [.p .nilp, .p (.int .i64 v)] [] fun r own => r = .p (.int .i64 1) ∧ own = [] := by
  refine fn_of_vc eOk fOk fo56 Try.func56 rfl rfl rfl fun B hB => ?_
  intro add sub mul quo rem band bor bxor bclr shl shr ieq ilt ile seq slt beq bnot orb bcond iwrap iof ssz hA cat sq sl imin imax smin smax len slen u8 hL op hop call hcall code hcode ret hret
  cbv
  refine hcall _ _ _ _ _ (CallEv.same (known_nil v) rfl ?_)
  rintro _ _ ⟨rfl, rfl⟩
  cbv
  refine vcIf.yes (by first | (simp [hA.not, hA.eq, hA.lt, hA.le, hA.cond, hA.beq, hA.orb, hL.len, hL.slen, hL.sq]; done) | (simp [hA.not, hA.eq, hA.lt, hA.le, hA.cond, hA.beq, hA.orb, hL.len, hL.slen, hL.sq]; omega)) ?_
  cbv
  exact hret _ (RetEv.ret eOk rfl ⟨rfl, rfl⟩)

theorem back_spec (a f l v : Int) (ls : List Lay) (hn : ls.length < 281474976710656) (zs xs : List PV) (hxs : xs = layP ls) (n : Nat) (hn0 : n = ls.length) :
    FnL Try.prog 56 [.own 0 0, .p (.int .i64 v)] [psS a f l zs n, psA xs] fun r own => ∃ e : Nat, e = knw f l v ∧ r = .p (.int .i64 (Int.ofNat e)) ∧
      ((e ≠ 0 ∧ own = [psS a f l zs n, psA xs]) ∨ (e = 0 ∧ ∃ ws m, m = upto ls v ∧ ws = layP (ls.take m) ∧ own = [psS a f v zs m, psA ws])) := by
  have hxl : xs.length = n := by rw [hxs, layP_length, hn0]
  obtain ⟨ys, hys⟩ : ∃ ys, ys = xs := ⟨_, rfl⟩
  have hy : ys = (xs.drop 0).take n := by rw [hys, List.drop_zero, ← hxl, List.take_length]
  obtain ⟨E, hE⟩ : ∃ E, E = knw f l v := ⟨_, rfl⟩
  have hkn := known_spec a f l v zs ys
  rw [← hE] at hkn ⊢
  have hup := upto_spec a f l v zs ls hn ys (by rw [hys, hxs])
  obtain ⟨N, hN⟩ : ∃ N, N = upto ls v := ⟨_, rfl⟩
  have hNl : N ≤ n := by rw [hN, hn0]; exact upto_le v ls
  rw [← hN] at hup ⊢
  have hxt : xs.take N = layP (ls.take N) := by rw [hxs, layP_take]
  refine fn_of_vc eOk fOk fo56 Try.func56 rfl rfl rfl fun B hB => ?_
  intro add sub mul quo rem band bor bxor bclr shl shr ieq ilt ile seq slt beq bnot orb bcond iwrap iof ssz hA cat sq sl imin imax smin smax len slen u8 hL op hop call hcall code hcode ret hret
  cbv
  refine hcall _ _ _ _ _ (CallEv.shown [] [0, 1] hkn rfl (.cons (psT (by decide) (by decide) rfl rfl ys hy) (.cons (.p _) .nil)) trivial ?_)
  rintro _ _ ⟨e, he, rfl, rfl⟩
  refine ⟨.p _ (.int _ _), (by intro r hr; cases hr), ?_⟩
  cbv
  by_cases h0 : e = 0
  rotate_left
  · refine vcIf.yes (by first | (simp [hA.not, hA.eq, hA.lt, hA.le, hA.cond, hA.beq, hA.orb, hL.len, hL.slen, hL.sq, h0]; done) | (simp only [h0]; simp [hA.not, hA.eq, hA.lt, hA.le, hA.cond, hA.beq, hA.orb, hL.len, hL.slen, hL.sq, h0]; done) | (simp [hA.not, hA.eq, hA.lt, hA.le, hA.cond, hA.beq, hA.orb, hL.len, hL.slen, hL.sq, h0]; omega) | (simp only [h0]; simp [hA.not, hA.eq, hA.lt, hA.le, hA.cond, hA.beq, hA.orb, hL.len, hL.slen, hL.sq, h0]; omega)) ?_
    cbv
    exact hret _ (RetEv.ret eOk rfl ⟨e, he, rfl, .inl ⟨h0, rfl⟩⟩)
  refine vcIf.no (by first | (simp [hA.not, hA.eq, hA.lt, hA.le, hA.cond, hA.beq, hA.orb, hL.len, hL.slen, hL.sq, h0]; done) | (simp only [h0]; simp [hA.not, hA.eq, hA.lt, hA.le, hA.cond, hA.beq, hA.orb, hL.len, hL.slen, hL.sq, h0]; done) | (simp [hA.not, hA.eq, hA.lt, hA.le, hA.cond, hA.beq, hA.orb, hL.len, hL.slen, hL.sq, h0]; omega) | (simp only [h0]; simp [hA.not, hA.eq, hA.lt, hA.le, hA.cond, hA.beq, hA.orb, hL.len, hL.slen, hL.sq, h0]; omega)) ?_
  cbv
  refine hcode _ _ _ (CodeEv.drawT eOk fOk (by kernel_rfl) (Xof 0 []) (.rd 0 (.rd 1 (.rd 2 (.rd 3 (.rd 5 (.rd 6 (.rd 8 (.rd 9 (.acts (.cons 4 (.acts (.cons 7 (.acts (.cons 10 (.so 11 (.so 12 (.so 13 (.acts (.cons 14 (.done) (.nil)))))) (.nil))) (.nil))) (.cons 7 (.acts (.cons 4 (.acts (.cons 10 (.so 11 (.so 12 (.so 13 (.acts (.cons 14 (.done) (.nil)))))) (.nil))) (.cons 10 (.so 4 (.so 11 (.so 12 (.so 13 (.acts (.cons 14 (.done) (.nil))))))) (.nil)))) (.nil)))))))))))) (by kernel_rfl) (by kernel_rfl) ?_)
  intro add2 sub2 mul2 quo2 rem2 band2 bor2 bxor2 bclr2 shl2 shr2 ieq2 ilt2 ile2 seq2 slt2 beq2 bnot2 orb2 bcond2 iwrap2 iof2 ssz2 hA2 cat2 sq2 sl2 imin2 imax2 smin2 smax2 len2 slen2 u82 hL2 op2 hop2 call2 hcall2 code2 hcode2 q2 hq2
  cbv
  refine ⟨?_, ?_⟩
  · refine hcall2 _ _ _ _ _ (CallEv.shown [] [0, 1] hup rfl (.cons (psT (by decide) (by decide) rfl rfl ys hy) (.cons (.p _) .nil)) trivial ?_)
    rintro _ _ ⟨e1, he1, rfl, rfl⟩
    refine ⟨.p _ (.int _ _), (by intro r hr; cases hr), ?_⟩
    replace he1 := (he1).symm
    subst he1
    cbv
    refine hcall2 _ _ _ _ _ (CallEv.shown [] [0, 1] hup rfl (.cons (psT (by decide) (by decide) rfl rfl ys hy) (.cons (.p _) .nil)) trivial ?_)
    rintro _ _ ⟨e2, he2, rfl, rfl⟩
    refine ⟨.p _ (.int _ _), (by intro r hr; cases hr), ?_⟩
    replace he2 := (he2).symm
    subst he2
    cbv
    refine ⟨0, N, N, rfl, rfl, rfl, Nat.zero_le _, Nat.le_refl _, by omega, (fun c h => by cases h), fun o1 m1 c1 ho hm hc => ?_⟩
    obtain rfl : 0 = o1 := by omega
    obtain rfl : N = m1 := by omega
    obtain rfl : N = c1 := by omega
    cbv
    refine hq2 _ ?_
    cbv
    exact hret _ (RetEv.convW (ConvW.trimC 0 2 1 rfl rfl rfl rfl (by decide)) (RetEv.ret eOk rfl ⟨0, by omega, rfl, .inr ⟨rfl, xs.take N, N, rfl, hxt, rfl⟩⟩))
  · refine hcall2 _ _ _ _ _ (CallEv.shown [] [0, 1] hup rfl (.cons (psT (by decide) (by decide) rfl rfl ys hy) (.cons (.p _) .nil)) trivial ?_)
    rintro _ _ ⟨e1, he1, rfl, rfl⟩
    refine ⟨.p _ (.int _ _), (by intro r hr; cases hr), ?_⟩
    replace he1 := (he1).symm
    subst he1
    cbv
    refine ⟨?_, ?_⟩
    · refine hcall2 _ _ _ _ _ (CallEv.shown [] [0, 1] hup rfl (.cons (psT (by decide) (by decide) rfl rfl ys hy) (.cons (.p _) .nil)) trivial ?_)
      rintro _ _ ⟨e2, he2, rfl, rfl⟩
      refine ⟨.p _ (.int _ _), (by intro r hr; cases hr), ?_⟩
      replace he2 := (he2).symm
      subst he2
      cbv
      refine ⟨0, N, N, rfl, rfl, rfl, Nat.zero_le _, Nat.le_refl _, by omega, (fun c h => by cases h), fun o1 m1 c1 ho hm hc => ?_⟩
      obtain rfl : 0 = o1 := by omega
      obtain rfl : N = m1 := by omega
      obtain rfl : N = c1 := by omega
      cbv
      refine hq2 _ ?_
      cbv
      exact hret _ (RetEv.convW (ConvW.trimC 0 2 1 rfl rfl rfl rfl (by decide)) (RetEv.ret eOk rfl ⟨0, by omega, rfl, .inr ⟨rfl, xs.take N, N, rfl, hxt, rfl⟩⟩))
    · refine hcall2 _ _ _ _ _ (CallEv.shown [] [0, 1] hup rfl (.cons (psT (by decide) (by decide) rfl rfl ys hy) (.cons (.p _) .nil)) trivial ?_)
      rintro _ _ ⟨e2, he2, rfl, rfl⟩
      refine ⟨.p _ (.int _ _), (by intro r hr; cases hr), ?_⟩
      replace he2 := (he2).symm
      subst he2
      cbv
      refine ⟨0, N, N, rfl, rfl, rfl, Nat.zero_le _, Nat.le_refl _, by omega, (fun c h => by cases h), fun o1 m1 c1 ho hm hc => ?_⟩
      obtain rfl : 0 = o1 := by omega
      obtain rfl : N = m1 := by omega
      obtain rfl : N = c1 := by omega
      cbv
      refine hq2 _ ?_
      cbv
      exact hret _ (RetEv.convW (ConvW.trimC 0 2 1 rfl rfl rfl rfl (by decide)) (RetEv.ret eOk rfl ⟨0, by omega, rfl, .inr ⟨rfl, xs.take N, N, rfl, hxt, rfl⟩⟩))

/-- What a call of Forget answers. -/
def fgE (l v : Int) : Nat := if l < v then 8 else 0
abbrev psS2 (a f l : Int) (zs : List PV) (n : Nat) : Res := .st 146 [.p (.int .i64 a), .p (.sl zs), .vw 2 2 0 n none, .p (.int .i64 f), .p (.int .i64 l)]
theorem forget_spec (a f l v : Int) (ps : List Pr) (hps : Srt ps) (ls : List Lay) (M : Nat) (hM : ∀ l ∈ ls, l.ch.length ≤ M) (hck : ∀ l ∈ ls, chks l.ch = 0) (hsz : (ps.length + ls.length * M + 1) * 32 ≤ 140737488355328) (hn : ls.length * 32 ≤ 140737488355328)
    (zs : List PV) (hzs : zs = prP ps) (xs : List PV) (hxs : xs = layP ls) (n : Nat) (hn0 : n = ls.length) :
    FnL Try.prog 62 [.own 0 0, .p (.int .i64 v)] [psS a f l zs n, psA xs] fun r own => ∃ e : Nat, e = fgE l v ∧ r = .p (.int .i64 (Int.ofNat e)) ∧
      (((e ≠ 0 ∨ v ≤ f) ∧ own = [psS a f l zs n, psA xs]) ∨ (e = 0 ∧ ¬ v ≤ f ∧ ∃ us ws m, us = prP (whole ps ls v) ∧ m = ls.length - upto ls v ∧ ws = layP (ls.drop (upto ls v)) ∧ own = [psS2 v v l us m, psA xs, psA ws])) := by
  have hxl : xs.length = n := by rw [hxs, layP_length, hn0]
  obtain ⟨ys, hys⟩ : ∃ ys, ys = xs := ⟨_, rfl⟩
  have hy : ys = (xs.drop 0).take n := by rw [hys, List.drop_zero, ← hxl, List.take_length]
  have hwo := wholeO_spec a f l v ps hps ls M hM hck hsz (by omega) zs hzs xs hxs n hn0
  have hup := upto_spec a f l v zs ls (by omega) ys (by rw [hys, hxs])
  obtain ⟨N, hN⟩ : ∃ N, N = upto ls v := ⟨_, rfl⟩
  have hNl : N ≤ n := by rw [hN, hn0]; exact upto_le v ls
  rw [← hN] at hup ⊢
  obtain ⟨W, hW⟩ : ∃ W, W = whole ps ls v := ⟨_, rfl⟩
  rw [← hW] at hwo ⊢
  obtain ⟨us, hus⟩ : ∃ us, us = xs.drop N := ⟨_, rfl⟩
  have hul : us.length = n - N := by rw [hus, List.length_drop, hxl]
  obtain ⟨q, hq⟩ : ∃ q, q = n - N := ⟨_, rfl⟩
  rw [← hq] at hul
  have hus2 : us = (xs.drop N).take q := by rw [← hus, ← hul, List.take_length]
  have husw : us = layP (ls.drop N) := by rw [hus, hxs, layP_drop]
  have hcl := cloneL_spec xs N q us hus2 hul (by rw [husw]; exact layP_wf _) (by omega)
  rw [← hn0]
  refine fn_of_vc eOk fOk fo62 Try.func62 rfl rfl rfl fun B hB => ?_
  intro add sub mul quo rem band bor bxor bclr shl shr ieq ilt ile seq slt beq bnot orb bcond iwrap iof ssz hA cat sq sl imin imax smin smax len slen u8 hL op hop call hcall code hcode ret hret
  cbv
  by_cases h0 : l < v
  · refine vcIf.yes (by first | (simp [hA.not, hA.eq, hA.lt, hA.le, hA.cond, hA.beq, hA.orb, hL.len, hL.slen, hL.sq, h0]; done) | (simp only [h0]; simp [hA.not, hA.eq, hA.lt, hA.le, hA.cond, hA.beq, hA.orb, hL.len, hL.slen, hL.sq, h0]; done) | (simp [hA.not, hA.eq, hA.lt, hA.le, hA.cond, hA.beq, hA.orb, hL.len, hL.slen, hL.sq, h0]; omega) | (simp only [h0]; simp [hA.not, hA.eq, hA.lt, hA.le, hA.cond, hA.beq, hA.orb, hL.len, hL.slen, hL.sq, h0]; omega)) ?_
    cbv
    exact hret _ (RetEv.ret eOk rfl ⟨8, by unfold fgE; rw [if_pos h0], rfl, .inl ⟨.inl (by decide), rfl⟩⟩)
  have hfg : fgE l v = 0 := by unfold fgE; rw [if_neg h0]
  refine vcIf.no (by first | (simp [hA.not, hA.eq, hA.lt, hA.le, hA.cond, hA.beq, hA.orb, hL.len, hL.slen, hL.sq, h0]; done) | (simp only [h0]; simp [hA.not, hA.eq, hA.lt, hA.le, hA.cond, hA.beq, hA.orb, hL.len, hL.slen, hL.sq, h0]; done) | (simp [hA.not, hA.eq, hA.lt, hA.le, hA.cond, hA.beq, hA.orb, hL.len, hL.slen, hL.sq, h0]; omega) | (simp only [h0]; simp [hA.not, hA.eq, hA.lt, hA.le, hA.cond, hA.beq, hA.orb, hL.len, hL.slen, hL.sq, h0]; omega)) ?_
  cbv
  by_cases h1 : v ≤ f
  · refine vcIf.yes (by first | (simp [hA.not, hA.eq, hA.lt, hA.le, hA.cond, hA.beq, hA.orb, hL.len, hL.slen, hL.sq, h1]; done) | (simp only [h1]; simp [hA.not, hA.eq, hA.lt, hA.le, hA.cond, hA.beq, hA.orb, hL.len, hL.slen, hL.sq, h1]; done) | (simp [hA.not, hA.eq, hA.lt, hA.le, hA.cond, hA.beq, hA.orb, hL.len, hL.slen, hL.sq, h1]; omega) | (simp only [h1]; simp [hA.not, hA.eq, hA.lt, hA.le, hA.cond, hA.beq, hA.orb, hL.len, hL.slen, hL.sq, h1]; omega)) ?_
    cbv
    exact hret _ (RetEv.ret eOk rfl ⟨0, hfg.symm, rfl, .inl ⟨.inr h1, rfl⟩⟩)
  refine vcIf.no (by first | (simp [hA.not, hA.eq, hA.lt, hA.le, hA.cond, hA.beq, hA.orb, hL.len, hL.slen, hL.sq, h1]; done) | (simp only [h1]; simp [hA.not, hA.eq, hA.lt, hA.le, hA.cond, hA.beq, hA.orb, hL.len, hL.slen, hL.sq, h1]; done) | (simp [hA.not, hA.eq, hA.lt, hA.le, hA.cond, hA.beq, hA.orb, hL.len, hL.slen, hL.sq, h1]; omega) | (simp only [h1]; simp [hA.not, hA.eq, hA.lt, hA.le, hA.cond, hA.beq, hA.orb, hL.len, hL.slen, hL.sq, h1]; omega)) ?_
  cbv
  refine hcall _ _ _ _ _ (CallEv.lend [0, 1] hwo rfl (.cons (.own 0 0 0 rfl) (.cons (.p _) .nil)) (psL rfl rfl rfl rfl) ?_)
  rintro _ _ ⟨K, m0, ws, rfl, rfl, hw⟩
  have hwg : (ws.drop 0).take m0 = prP W := by rw [List.drop_zero, hw.2.2.2.2]
  cbv
  refine hcall _ _ _ _ _ (CallEv.shown [] [0, 1] hup rfl (.cons (psT (by decide) (by decide) rfl rfl ys hy) (.cons (.p _) .nil)) trivial ?_)
  rintro _ _ ⟨e, he, rfl, rfl⟩
  refine ⟨.p _ (.int _ _), (by intro r hr; cases hr), ?_⟩
  replace he := he.symm
  subst he
  cbv
  refine ⟨N, n, rfl, rfl, hNl, by omega, (fun c h => by cases h), fun o1 m1 ho hm => ?_⟩
  obtain rfl : N = o1 := by omega
  obtain rfl : q = m1 := by omega
  cbv
  refine hcall _ _ _ _ _ (CallEv.lend [1] hcl rfl (.cons (.vw 0 1 2 N q none rfl) .nil) ⟨⟨_, rfl, .arr _ _ _⟩, trivial⟩ ?_)
  rintro _ _ ⟨rfl, rfl⟩
  cbv
  exact hret _ (RetEv.convW ((Conv.freeze 2 rfl (by rw [hB]; exact (show 2 ≤ 2 by decide))).weak.trans (ConvW.pack [0, 1, 3] hB rfl)) (RetEv.ret eOk rfl ⟨0, hfg.symm, rfl, .inr ⟨rfl, h1, (ws.drop 0).take m0, us, q, hwg, hq, husw, rfl⟩⟩))
end Go.Proofs.Ytnigonhkfpnodaa
end
section
namespace Go.Proofs.Ytnigonhkfpnodaa
open Go Go.Lx
open Go.Sx (vcIf)

theorem flat_get (s : List UInt8) (b : Bool) (e : Int) : V.Flat (.p (.tup [.str s, .bool b, .int .i64 e])) := .p _ (.tup _ fun c hc => by
  simp only [List.mem_cons, List.not_mem_nil, or_false] at hc
  rcases hc with rfl | rfl | rfl <;> constructor)
def awC : Chg := ⟨1, [97], [49]⟩
theorem aw_get5 : lk (whole [] [⟨5, [awC]⟩] 5) [97] = some [49] := by decide
theorem aw_get4 : lk (whole [] [⟨5, [awC]⟩] 4) [97] = none := by decide
end Go.Proofs.Ytnigonhkfpnodaa
end
section
namespace Go.Proofs.Ytnigonhkfpnodaa
open Go Go.Lx
open Go.Sx (vcIf)

theorem listO_spec (a f l v : Int) (lo hi : List UInt8) (most : Int) (ps : List Pr) (hps : Srt ps) (ls : List Lay) (M : Nat) (hM : ∀ l ∈ ls, l.ch.length ≤ M) (hck : ∀ l ∈ ls, chks l.ch = 0) (hsz : (ps.length + ls.length * M + 1) * 32 ≤ 140737488355328) (hn : ls.length < 281474976710656)
    (zs : List PV) (hzs : zs = prP ps) (ys : List PV) (hys : ys = layP ls) :
    FnL Try.prog 52 [psI a f l zs ys, .p (.agg [.str lo, .str hi]), .p (.int .i64 v), .p (.int .i64 most)] [] fun r own => ∃ (e : Nat) (us : List PV) (m : Nat), m = us.length ∧
      ((knw f l v ≠ 0 ∧ e = knw f l v ∧ us = []) ∨ (knw f l v = 0 ∧ most < 0 ∧ e = 1 ∧ us = []) ∨ (knw f l v = 0 ∧ ¬ most < 0 ∧ e = 0 ∧ us = prP (((whole ps ls v).filter fun p => hs ⟨lo, hi⟩ p.key).take most.toNat))) ∧
      r = .tup [.vw 0 2 0 m none, .p (.int .i64 (Int.ofNat e))] ∧ own = [.arr 102 2 us] := by
  obtain ⟨E, hE⟩ : ∃ E, E = knw f l v := ⟨_, rfl⟩
  have hkn := known_spec a f l v zs ys
  rw [← hE] at hkn ⊢
  have hwo := whole_spec a f l v ps hps ls M hM hck hsz hn zs hzs ys hys
  have hwl := lays_take_len hps hM (upto_le v ls)
  have hmul : upto ls v * M ≤ ls.length * M := Nat.mul_le_mul_right _ (upto_le v ls)
  obtain ⟨W, hW⟩ : ∃ W, W = whole ps ls v := ⟨_, rfl⟩
  rw [show lays ps (ls.take (upto ls v)) = W from hW.symm] at hwl
  rw [← hW] at hwo ⊢
  have hWb : W.length < 140737488355328 := by omega
  refine fn_of_vc eOk fOk fo52 Try.func52 rfl rfl rfl fun B hB => ?_
  intro add sub mul quo rem band bor bxor bclr shl shr ieq ilt ile seq slt beq bnot orb bcond iwrap iof ssz hA cat sq sl imin imax smin smax len slen u8 hL op hop call hcall code hcode ret hret
  cbv
  refine hcall _ _ _ _ _ (CallEv.pure hkn (.cons (.imm _ _ _) (.cons (.p _) .nil)) ?_)
  rintro _ _ ⟨e, he, rfl, rfl⟩
  cbv
  by_cases h0 : e = 0
  rotate_left
  · refine vcIf.yes (by first | (simp [hA.not, hA.eq, hA.lt, hA.le, hA.cond, hA.beq, hA.orb, hL.len, hL.slen, hL.sq, h0]; done) | (simp only [h0]; simp [hA.not, hA.eq, hA.lt, hA.le, hA.cond, hA.beq, hA.orb, hL.len, hL.slen, hL.sq, h0]; done) | (simp [hA.not, hA.eq, hA.lt, hA.le, hA.cond, hA.beq, hA.orb, hL.len, hL.slen, hL.sq, h0]; omega) | (simp only [h0]; simp [hA.not, hA.eq, hA.lt, hA.le, hA.cond, hA.beq, hA.orb, hL.len, hL.slen, hL.sq, h0]; omega)) ?_
    cbv
    exact hret _ (RetEv.convW ((Conv.hollow 8 102 2 (by decide) rfl).weak.trans (ConvW.pack [1] hB rfl)) (RetEv.ret eOk rfl ⟨e, [], 0, rfl, .inl ⟨by omega, he, rfl⟩, rfl, rfl⟩))
  refine vcIf.no (by first | (simp [hA.not, hA.eq, hA.lt, hA.le, hA.cond, hA.beq, hA.orb, hL.len, hL.slen, hL.sq, h0]; done) | (simp only [h0]; simp [hA.not, hA.eq, hA.lt, hA.le, hA.cond, hA.beq, hA.orb, hL.len, hL.slen, hL.sq, h0]; done) | (simp [hA.not, hA.eq, hA.lt, hA.le, hA.cond, hA.beq, hA.orb, hL.len, hL.slen, hL.sq, h0]; omega) | (simp only [h0]; simp [hA.not, hA.eq, hA.lt, hA.le, hA.cond, hA.beq, hA.orb, hL.len, hL.slen, hL.sq, h0]; omega)) ?_
  cbv
  by_cases h1 : most < 0
  · refine vcIf.yes (by first | (simp [hA.not, hA.eq, hA.lt, hA.le, hA.cond, hA.beq, hA.orb, hL.len, hL.slen, hL.sq, h1]; done) | (simp only [h1]; simp [hA.not, hA.eq, hA.lt, hA.le, hA.cond, hA.beq, hA.orb, hL.len, hL.slen, hL.sq, h1]; done) | (simp [hA.not, hA.eq, hA.lt, hA.le, hA.cond, hA.beq, hA.orb, hL.len, hL.slen, hL.sq, h1]; omega) | (simp only [h1]; simp [hA.not, hA.eq, hA.lt, hA.le, hA.cond, hA.beq, hA.orb, hL.len, hL.slen, hL.sq, h1]; omega)) ?_
    cbv
    exact hret _ (RetEv.convW ((Conv.hollow 8 102 2 (by decide) rfl).weak.trans (ConvW.pack [1] hB rfl)) (RetEv.ret eOk rfl ⟨1, [], 0, rfl, .inr (.inl ⟨by omega, h1, rfl, rfl⟩), rfl, rfl⟩))
  refine vcIf.no (by first | (simp [hA.not, hA.eq, hA.lt, hA.le, hA.cond, hA.beq, hA.orb, hL.len, hL.slen, hL.sq, h1]; done) | (simp only [h1]; simp [hA.not, hA.eq, hA.lt, hA.le, hA.cond, hA.beq, hA.orb, hL.len, hL.slen, hL.sq, h1]; done) | (simp [hA.not, hA.eq, hA.lt, hA.le, hA.cond, hA.beq, hA.orb, hL.len, hL.slen, hL.sq, h1]; omega) | (simp only [h1]; simp [hA.not, hA.eq, hA.lt, hA.le, hA.cond, hA.beq, hA.orb, hL.len, hL.slen, hL.sq, h1]; omega)) ?_
  cbv
  refine hcall _ _ _ _ _ (CallEv.pure hwo (.cons (.imm _ _ _) (.cons (.p _) .nil)) ?_)
  rintro _ _ ⟨K, n, xs, rfl, rfl, hx⟩
  have hnW : n = W.length := hx.2.1
  have hdl := delfSp_spec W xs K n hx (by omega) 92 (.str lo) (.str hi) (by intro q hq; simp only [List.mem_cons, List.not_mem_nil, or_false] at hq; rcases hq with rfl | rfl <;> rfl) (fun p => !(hs ⟨lo, hi⟩ p.key)) (fun p => ldel1_spec lo hi p.key p.val)
  cbv
  refine hcall _ _ _ _ _ (CallEv.lend [1, 0] hdl rfl (.cons (.vw 0 1 2 0 n (some K) rfl) (.cons (.fn _ _ _ rfl (TrL.cons (.own 1 0 0 rfl) .nil).2) .nil)) ⟨⟨_, rfl, .arr _ _ _⟩, ⟨_, rfl, .st _ _ _ (.cons (.p _) (.cons (.p _) .nil))⟩, trivial⟩ ?_)
  rintro _ _ ⟨m, ws, rfl, rfl, hw⟩
  obtain ⟨c, hc⟩ : ∃ c, c = min most.toNat m := ⟨_, rfl⟩
  have hcm : c ≤ m := by omega
  have hcp := clipPr_spec ws K m _ hw c hcm
  have hwm := hw.2.1
  have hwK := hw.2.2.1
  have hwl := hw.1
  have hgood : ((ws.drop 0).take c) = prP ((W.filter fun p => hs ⟨lo, hi⟩ p.key).take most.toNat) := by
    have h2 : (W.filter fun p => !(!(hs ⟨lo, hi⟩ p.key))) = W.filter fun p => hs ⟨lo, hi⟩ p.key := by simp
    rw [h2] at hw hwm
    have h3 := hw.2.2.2.2
    have h4 : (ws.drop 0).take c = (ws.take m).take c := by rw [List.drop_zero, List.take_take, Nat.min_eq_left hcm]
    rw [h4, h3, show prP (W.filter fun p => hs ⟨lo, hi⟩ p.key) = (W.filter fun p => hs ⟨lo, hi⟩ p.key).map Pr.v from rfl, ← List.map_take]
    show prP _ = _
    rw [show (W.filter fun p => hs ⟨lo, hi⟩ p.key).take c = (W.filter fun p => hs ⟨lo, hi⟩ p.key).take most.toNat from ?_]
    rcases Nat.le_total most.toNat m with h5 | h5
    · rw [show c = most.toNat by omega]
    · rw [show c = m by omega, List.take_of_length_le (by omega), List.take_of_length_le (by omega)]
  have hmin : imin most (iof m) = Int.ofNat c := by
    have h5 : iof m = Int.ofNat m := hA.ofNat m
    rw [h5, hL.imin]
    simp only [Int.ofNat_eq_natCast]
    split <;> omega
  cbv
  refine ⟨0, c, rfl, hmin, Nat.zero_le _, by omega, (fun q h => by cases h; omega), fun o1 m1 ho hm' => ?_⟩
  obtain rfl : 0 = o1 := by omega
  obtain rfl : c = m1 := by omega
  cbv
  refine hcall _ _ _ _ _ (CallEv.lend [1] hcp rfl (.cons (.vw 0 1 2 0 c (some K) rfl) .nil) ⟨⟨_, rfl, .arr _ _ _⟩, trivial⟩ ?_)
  rintro _ _ ⟨rfl, rfl⟩
  cbv
  refine hret _ (RetEv.convW ((ConvW.trimS 8 1 rfl rfl rfl (show 8 < 32 by decide)).trans (ConvW.pack [1] hB rfl)) (RetEv.ret eOk rfl ⟨0, ws.take c, c, ?_, .inr (.inr ⟨by omega, h1, rfl, by rw [← hgood, List.drop_zero]⟩), rfl, rfl⟩))
  rw [List.length_take]; omega
theorem chks_append : ∀ (a b : List Chg), chks a = 0 → chks (a ++ b) = chks b
  | [], _, _ => rfl
  | c :: r, b, h => by
    have h1 : chk c = 0 ∧ chks r = 0 := by
      unfold chks at h
      split at h
      · rename_i h1; exact absurd h h1
      · rename_i h1; exact ⟨by omega, h⟩
    have h2 := chks_append r b h1.2
    rw [List.cons_append]
    show (if chk c ≠ 0 then chk c else chks (r ++ b)) = _
    rw [if_neg (by omega)]
    exact h2
theorem cP_append (a b : List Chg) : cP (a ++ b) = cP a ++ cP b := List.map_append
theorem lsub {a f l v : Int} {zs : List PV} {xs : List PV} {n : Nat} (h : n = xs.length) : xs = (xs.drop 0).take n := by rw [List.drop_zero, h, List.take_length]
theorem prP_Flat (l : List Pr) : ∀ x ∈ prP l, PV.Flat x := fun x hx => by
  obtain ⟨p, _, rfl⟩ := List.mem_map.1 hx
  refine .agg _ fun c hc => ?_
  simp only [List.mem_cons, List.not_mem_nil, or_false] at hc
  rcases hc with rfl | rfl <;> exact .str _
theorem flat_list {us : List PV} {T : TypeId} (h : us = [] ∨ ∃ l, us = prP l) {m e : Nat} : V.Flat (.tup [.vw 0 2 0 m none, .p (.int .i64 (Int.ofNat e))]) ∧ ∀ r ∈ [Res.arr T 2 us], Res.Flat r := by
  refine ⟨.tup _ fun c hc => ?_, fun r hr => ?_⟩
  · simp only [List.mem_cons, List.not_mem_nil, or_false] at hc
    rcases hc with rfl | rfl
    · exact .vw _ _ _ _ _
    · exact .p _ (.int _ _)
  · simp only [List.mem_cons, List.not_mem_nil, or_false] at hr
    subst hr
    rcases h with rfl | ⟨l, rfl⟩
    · intro x hx; cases hx
    · exact prP_Flat l
theorem flat_l1 {m e : Nat} : V.Flat (.tup [.vw 0 2 0 m none, .p (.int .i64 (Int.ofNat e))]) := (flat_list (us := []) (T := 0) (.inl rfl)).1
theorem flat_l2 {us : List PV} {T : TypeId} {l : List Pr} (h : us = prP l) : ∀ r ∈ [Res.arr T 2 us], Res.Flat r := (flat_list (m := 0) (e := 0) (.inr ⟨l, h⟩)).2
/-- What a list shows. -/
def lst (ps : List Pr) (s : Spn) (most : Int) : List Pr := (ps.filter fun p => hs s p.key).take most.toNat

def liE (f l v most : Int) : Nat := if knw f l v ≠ 0 then knw f l v else if most < 0 then 1 else 0
def liP (f l : Int) (ps : List Pr) (ls : List Lay) (v : Int) (s : Spn) (most : Int) : List Pr := if knw f l v = 0 ∧ ¬ most < 0 then lst (whole ps ls v) s most else []
theorem listW_spec (a f l v : Int) (lo hi : List UInt8) (most : Int) (ps : List Pr) (hps : Srt ps) (ls : List Lay) (M : Nat) (hM : ∀ l ∈ ls, l.ch.length ≤ M) (hck : ∀ l ∈ ls, chks l.ch = 0) (hsz : (ps.length + ls.length * M + 1) * 32 ≤ 140737488355328) (hn : ls.length < 281474976710656)
    (zs : List PV) (hzs : zs = prP ps) (ys : List PV) (hys : ys = layP ls) :
    FnL Try.prog 52 [psI a f l zs ys, .p (.agg [.str lo, .str hi]), .p (.int .i64 v), .p (.int .i64 most)] [] fun r own => ∃ (e : Nat) (us : List PV) (m : Nat), e = liE f l v most ∧ us = prP (liP f l ps ls v ⟨lo, hi⟩ most) ∧ m = us.length ∧
      r = .tup [.vw 0 2 0 m none, .p (.int .i64 (Int.ofNat e))] ∧ own = [.arr 102 2 us] :=
  (listO_spec a f l v lo hi most ps hps ls M hM hck hsz hn zs hzs ys hys).mono fun r own ⟨e, us, m, h1, h2, h3, h4⟩ => by
    refine ⟨e, us, m, ?_, ?_, h1, h3, h4⟩
    · unfold liE
      rcases h2 with ⟨a1, a2, _⟩ | ⟨a1, a2, a3, _⟩ | ⟨a1, a2, a3, _⟩
      · rw [if_pos a1, a2]
      · rw [if_neg (by omega), if_pos a2, a3]
      · rw [if_neg (by omega), if_neg a2, a3]
    · unfold liP
      rcases h2 with ⟨a1, _, a2⟩ | ⟨a1, a2, _, a3⟩ | ⟨a1, a2, _, a3⟩
      · rw [if_neg (fun c => a1 c.1), a2]; rfl
      · rw [if_neg (fun c => c.2 a2), a3]; rfl
      · rw [if_pos ⟨a1, a2⟩, a3]; rfl
def gtE (f l v : Int) : Nat := knw f l v
def gtO (f l : Int) (ps : List Pr) (ls : List Lay) (v : Int) (k : List UInt8) : Option (List UInt8) := if knw f l v = 0 then lk (whole ps ls v) k else none
theorem getW_spec (a f l v : Int) (ps : List Pr) (hps : Srt ps) (hpn : ps.length < 281474976710656) (ls : List Lay) (hfit : ∀ b ∈ ls, b.ch.length < 281474976710656 ∧ ∀ c ∈ b.ch, c.fit) (hn : ls.length < 281474976710656) (key : List UInt8)
    (zs : List PV) (hzs : zs = prP ps) (ys : List PV) (hys : ys = layP ls) :
    FnL Try.prog 54 [psI a f l zs ys, .p (.str key), .p (.int .i64 v)] [] fun r own => ∃ (s : List UInt8) (b : Bool) (e : Nat), e = knw f l v ∧ s = (gtO f l ps ls v key).getD [] ∧ b = (gtO f l ps ls v key).isSome ∧
      r = .p (.tup [.str s, .bool b, .int .i64 (Int.ofNat e)]) ∧ own = [] :=
  (get_spec a f l v ps hps hpn ls hfit hn key zs hzs ys hys).mono fun r own ⟨s, b, e, h2, h3, h4⟩ => by
    unfold gtO
    rcases h2 with ⟨a1, a2, a3, a4⟩ | ⟨a1, a2, a3, a4⟩
    · rw [if_neg a1]; exact ⟨s, b, e, a4, a2, a3, h3, h4⟩
    · rw [if_pos a1]; exact ⟨s, b, e, by omega, a3, a4, h3, h4⟩
end Go.Proofs.Ytnigonhkfpnodaa
end
