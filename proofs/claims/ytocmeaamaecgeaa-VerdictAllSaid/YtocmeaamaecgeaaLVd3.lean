/- Whether a transaction may be: the document's. Conditions: on sizes. -/
import Derived.Test.YtocmeaamaecgeaaLVd2
set_option maxRecDepth 100000
set_option maxHeartbeats 4000000
set_option linter.unusedSimpArgs false
set_option linter.unusedVariables false
namespace Go.Proofs.Ytocmeaamaecgeaa
open Go Go.Lx
open Go.Sx (vcIf)

theorem wC_mem : ∀ {l : List Chg} {c : Chg}, c ∈ l → c.key.length + c.val.length + 8 ≤ wC l
  | d :: l, c, h => by
    rcases List.mem_cons.1 h with rfl | h
    · simp only [wC]; omega
    · have := wC_mem h; simp only [wC]; omega
theorem rvCheck_spec (t : Tx) (ht : t.fit) (xs zs : List PV) (hxs : xs = pP t.sp) (hzs : zs = cP t.ch) :
    FnL Try.prog 14 [.p (.agg [.int .i64 t.r, .sl xs, .sl zs])] [] fun v own => ∃ e : Nat, e = t.chk ∧ v = .p (.int .i64 (Int.ofNat e)) ∧ own = [] := by
  refine FnL.flat (R := fun v own => ∃ e : Nat, e = t.chk ∧ v = .p (.int .i64 (Int.ofNat e))) ?_ (by rintro _ _ ⟨b, h, rfl⟩; exact ⟨_, _, rfl, .refl _, b, h, rfl, rfl⟩)
  obtain ⟨r, sp, ch⟩ := t
  obtain ⟨_, hf, hs1, hs2⟩ := ht
  simp only at hf hs1 hs2 hxs hzs ⊢
  obtain ⟨R, hR⟩ : ∃ R, R = Tx.chk ⟨r, sp, ch⟩ := ⟨_, rfl⟩
  rw [← hR]
  unfold Tx.chk at hR
  simp only at hR
  have hxl : xs.length = sp.length := by rw [hxs, pP_length]
  have hzl : zs.length = ch.length := by rw [hzs, cP_length]
  have hal := rall_spec ch hs2 zs hzs
  have hmem := fun c h => wC_mem (l := ch) (c := c) h
  obtain ⟨N, hN⟩ : ∃ N, N = ch.length := ⟨_, rfl⟩
  obtain ⟨M, hM⟩ : ∃ M, M = sp.length := ⟨_, rfl⟩
  obtain ⟨W, hW⟩ : ∃ W, W = wC ch := ⟨_, rfl⟩
  rw [← hN] at hzl hR
  rw [← hM] at hxl hR
  rw [← hW] at hR hmem
  refine fn_of_vc eOk fOk fo14 Try.func14 rfl rfl rfl fun B hB => ?_
  intro add sub mul quo rem band bor bxor bclr shl shr ieq ilt ile seq slt beq bnot orb bcond iwrap iof ssz hA cat sq sl imin imax smin smax len slen u8 hL op hop call hcall code hcode ret hret
  have hlx : len xs = Int.ofNat M := by rw [hL.len, hxl]; rfl
  have hlz : len zs = Int.ofNat N := by rw [hL.len, hzl]; rfl
  cbv
  by_cases c1 : r < 0
  · rw [if_pos c1] at hR
    refine vcIf.yes (by first | (simp [hA.not, hA.eq, hA.lt, hA.le, hA.cond, hA.beq, hA.orb, hL.len, hL.slen, hL.sq, c1]; done) | (simp only [c1]; simp [hA.not, hA.eq, hA.lt, hA.le, hA.cond, hA.beq, hA.orb, hL.len, hL.slen, hL.sq, c1]; done) | (simp [hA.not, hA.eq, hA.lt, hA.le, hA.cond, hA.beq, hA.orb, hL.len, hL.slen, hL.sq, c1]; omega) | (simp only [c1]; simp [hA.not, hA.eq, hA.lt, hA.le, hA.cond, hA.beq, hA.orb, hL.len, hL.slen, hL.sq, c1]; omega)) ?_
    cbv
    exact hret _ (RetEv.ret eOk rfl ⟨1, hR.symm, rfl⟩)
  rw [if_neg c1] at hR
  refine vcIf.no (by first | (simp [hA.not, hA.eq, hA.lt, hA.le, hA.cond, hA.beq, hA.orb, hL.len, hL.slen, hL.sq, c1]; done) | (simp only [c1]; simp [hA.not, hA.eq, hA.lt, hA.le, hA.cond, hA.beq, hA.orb, hL.len, hL.slen, hL.sq, c1]; done) | (simp [hA.not, hA.eq, hA.lt, hA.le, hA.cond, hA.beq, hA.orb, hL.len, hL.slen, hL.sq, c1]; omega) | (simp only [c1]; simp [hA.not, hA.eq, hA.lt, hA.le, hA.cond, hA.beq, hA.orb, hL.len, hL.slen, hL.sq, c1]; omega)) ?_
  cbv
  by_cases c2 : 24 < M
  · rw [if_pos (.inl c2)] at hR
    refine vcIf.yes (by first | (simp [hA.not, hA.eq, hA.lt, hA.le, hA.cond, hA.beq, hA.orb, hL.len, hL.slen, hL.sq, hlx, c2]; done) | (simp only [hlx, c2]; simp [hA.not, hA.eq, hA.lt, hA.le, hA.cond, hA.beq, hA.orb, hL.len, hL.slen, hL.sq, hlx, c2]; done) | (simp [hA.not, hA.eq, hA.lt, hA.le, hA.cond, hA.beq, hA.orb, hL.len, hL.slen, hL.sq, hlx, c2]; omega) | (simp only [hlx, c2]; simp [hA.not, hA.eq, hA.lt, hA.le, hA.cond, hA.beq, hA.orb, hL.len, hL.slen, hL.sq, hlx, c2]; omega)) ?_
    cbv
    repeat (first | (refine vcIf.yes ?_ ?_; (focus (simp [hA.not, hA.eq, hA.lt, hA.le, hA.cond, hA.beq, hA.orb, hL.len, hL.slen, hL.sq]; done)); cbv) | (refine vcIf.no ?_ ?_; (focus (simp [hA.not, hA.eq, hA.lt, hA.le, hA.cond, hA.beq, hA.orb, hL.len, hL.slen, hL.sq]; done)); cbv) | fail)
    exact hret _ (RetEv.ret eOk rfl ⟨6, hR.symm, rfl⟩)
  refine vcIf.no (by first | (simp [hA.not, hA.eq, hA.lt, hA.le, hA.cond, hA.beq, hA.orb, hL.len, hL.slen, hL.sq, hlx, c2]; done) | (simp only [hlx, c2]; simp [hA.not, hA.eq, hA.lt, hA.le, hA.cond, hA.beq, hA.orb, hL.len, hL.slen, hL.sq, hlx, c2]; done) | (simp [hA.not, hA.eq, hA.lt, hA.le, hA.cond, hA.beq, hA.orb, hL.len, hL.slen, hL.sq, hlx, c2]; omega) | (simp only [hlx, c2]; simp [hA.not, hA.eq, hA.lt, hA.le, hA.cond, hA.beq, hA.orb, hL.len, hL.slen, hL.sq, hlx, c2]; omega)) ?_
  cbv
  by_cases c3 : 24 < N
  · rw [if_pos (.inr (.inl c3))] at hR
    refine vcIf.yes (by first | (simp [hA.not, hA.eq, hA.lt, hA.le, hA.cond, hA.beq, hA.orb, hL.len, hL.slen, hL.sq, hlz, c3]; done) | (simp only [hlz, c3]; simp [hA.not, hA.eq, hA.lt, hA.le, hA.cond, hA.beq, hA.orb, hL.len, hL.slen, hL.sq, hlz, c3]; done) | (simp [hA.not, hA.eq, hA.lt, hA.le, hA.cond, hA.beq, hA.orb, hL.len, hL.slen, hL.sq, hlz, c3]; omega) | (simp only [hlz, c3]; simp [hA.not, hA.eq, hA.lt, hA.le, hA.cond, hA.beq, hA.orb, hL.len, hL.slen, hL.sq, hlz, c3]; omega)) ?_
    cbv
    exact hret _ (RetEv.ret eOk rfl ⟨6, hR.symm, rfl⟩)
  refine vcIf.no (by first | (simp [hA.not, hA.eq, hA.lt, hA.le, hA.cond, hA.beq, hA.orb, hL.len, hL.slen, hL.sq, hlz, c3]; done) | (simp only [hlz, c3]; simp [hA.not, hA.eq, hA.lt, hA.le, hA.cond, hA.beq, hA.orb, hL.len, hL.slen, hL.sq, hlz, c3]; done) | (simp [hA.not, hA.eq, hA.lt, hA.le, hA.cond, hA.beq, hA.orb, hL.len, hL.slen, hL.sq, hlz, c3]; omega) | (simp only [hlz, c3]; simp [hA.not, hA.eq, hA.lt, hA.le, hA.cond, hA.beq, hA.orb, hL.len, hL.slen, hL.sq, hlz, c3]; omega)) ?_
  cbv
  refine hcode _ _ _ (CodeEv.loop eOk fOk (ι := Nat × Nat) (fun s => [(1, .own 0 0), (3, .p (.int .i64 (Int.ofNat s.2))), (4, .p (.int .i64 (Int.ofNat s.1)))])
    (fun s => [.st 34 [.p (.int .i64 r), .p (.sl xs), .p (.sl zs)]]) (fun s => s.1 ≤ N ∧ s.2 = wC (ch.take s.1) ∧ s.2 ≤ 1032 * s.1) (fun s => N - s.1) (0, 0) ?_ ?_)
  · exact ⟨(by repeat (first | exact trivial | refine And.intro rfl ?_)), rfl, Nat.zero_le _, rfl, Nat.le_refl _⟩
  rintro ⟨i, a⟩ ⟨k1, k2, k3⟩ rd hrd
  simp only at k1 k2 k3
  intro add1 sub1 mul1 quo1 rem1 band1 bor1 bxor1 bclr1 shl1 shr1 ieq1 ilt1 ile1 seq1 slt1 beq1 bnot1 orb1 bcond1 iwrap1 iof1 ssz1 hA1 cat1 sq1 sl1 imin1 imax1 smin1 smax1 len1 slen1 u81 hL1 op1 hop1 call1 hcall1 code1 hcode1
  have hlz1 : len1 zs = Int.ofNat N := by rw [hL1.len, hzl]; rfl
  have hadd1 : i < N → add1 .i64 (Int.ofNat i) 1 = Int.ofNat (i + 1) := fun _ => by rw [hA1.add, IntWalk.i64_in _ (by simp only [Int.ofNat_eq_natCast]; omega)]; rfl
  cbv
  by_cases hi : i < N
  · obtain ⟨c, hc⟩ := get_of_lt (show i < ch.length by omega)
    have hzz : zs[i]? = some (.agg [.int .i64 c.kind, .str c.key, .str c.val]) := by rw [hzs]; exact cP_get hc
    have htk : wC (ch.take (i + 1)) = a + (c.key.length + c.val.length + 8) := by rw [List.take_add_one, hc, wC_app, ← k2]; rfl
    have hcm := hmem c (List.mem_of_getElem? hc)
    obtain ⟨kn, hkn⟩ : ∃ n, n = c.key.length := ⟨_, rfl⟩
    obtain ⟨vn, hvn⟩ : ∃ n, n = c.val.length := ⟨_, rfl⟩
    rw [← hkn, ← hvn] at htk hcm
    have hk : slen1 c.key = Int.ofNat kn := by rw [hL1.slen, hkn]; rfl
    have hv : slen1 c.val = Int.ofNat vn := by rw [hL1.slen, hvn]; rfl
    obtain ⟨m, hm⟩ : ∃ m, m = kn + vn + 8 := ⟨_, rfl⟩
    have hkp : c.key.length = kn := hkn.symm
    have hvp : c.val.length = vn := hvn.symm
    clear hkn hvn hc
    obtain ⟨k, ky, vl⟩ := c
    simp only at hzz hk hv hkp hvp
    refine vcIf.yes (by first | (simp [hA1.not, hA1.eq, hA1.lt, hA1.le, hA1.cond, hA1.beq, hA1.orb, hL1.len, hL1.slen, hL1.sq, hi, hlz1]; done) | (simp only [hi, hlz1]; simp [hA1.not, hA1.eq, hA1.lt, hA1.le, hA1.cond, hA1.beq, hA1.orb, hL1.len, hL1.slen, hL1.sq, hi, hlz1]; done) | (simp [hA1.not, hA1.eq, hA1.lt, hA1.le, hA1.cond, hA1.beq, hA1.orb, hL1.len, hL1.slen, hL1.sq, hi, hlz1]; omega) | (simp only [hi, hlz1]; simp [hA1.not, hA1.eq, hA1.lt, hA1.le, hA1.cond, hA1.beq, hA1.orb, hL1.len, hL1.slen, hL1.sq, hi, hlz1]; omega)) ?_
    cbv
    refine ⟨i, _, rfl, hzz, rfl, ?_⟩
    cbv
    rw [hk]
    by_cases c4 : 512 < kn
    · rw [if_pos (.inr (.inr (.inr (by omega))))] at hR
      refine vcIf.yes (by first | (simp [hA1.not, hA1.eq, hA1.lt, hA1.le, hA1.cond, hA1.beq, hA1.orb, hL1.len, hL1.slen, hL1.sq, c4]; done) | (simp only [c4]; simp [hA1.not, hA1.eq, hA1.lt, hA1.le, hA1.cond, hA1.beq, hA1.orb, hL1.len, hL1.slen, hL1.sq, c4]; done) | (simp [hA1.not, hA1.eq, hA1.lt, hA1.le, hA1.cond, hA1.beq, hA1.orb, hL1.len, hL1.slen, hL1.sq, c4]; omega) | (simp only [c4]; simp [hA1.not, hA1.eq, hA1.lt, hA1.le, hA1.cond, hA1.beq, hA1.orb, hL1.len, hL1.slen, hL1.sq, c4]; omega)) ?_
      cbv
      repeat (first | (refine vcIf.yes ?_ ?_; (focus (simp [hA1.not, hA1.eq, hA1.lt, hA1.le, hA1.cond, hA1.beq, hA1.orb, hL1.len, hL1.slen, hL1.sq]; done)); cbv) | (refine vcIf.no ?_ ?_; (focus (simp [hA1.not, hA1.eq, hA1.lt, hA1.le, hA1.cond, hA1.beq, hA1.orb, hL1.len, hL1.slen, hL1.sq]; done)); cbv) | fail)
      exact hret _ (RetEv.ret eOk rfl ⟨6, hR.symm, rfl⟩)
    refine vcIf.no (by first | (simp [hA1.not, hA1.eq, hA1.lt, hA1.le, hA1.cond, hA1.beq, hA1.orb, hL1.len, hL1.slen, hL1.sq, c4]; done) | (simp only [c4]; simp [hA1.not, hA1.eq, hA1.lt, hA1.le, hA1.cond, hA1.beq, hA1.orb, hL1.len, hL1.slen, hL1.sq, c4]; done) | (simp [hA1.not, hA1.eq, hA1.lt, hA1.le, hA1.cond, hA1.beq, hA1.orb, hL1.len, hL1.slen, hL1.sq, c4]; omega) | (simp only [c4]; simp [hA1.not, hA1.eq, hA1.lt, hA1.le, hA1.cond, hA1.beq, hA1.orb, hL1.len, hL1.slen, hL1.sq, c4]; omega)) ?_
    cbv
    refine ⟨i, _, rfl, hzz, rfl, ?_⟩
    cbv
    rw [hv]
    by_cases c5 : 512 < vn
    · rw [if_pos (.inr (.inr (.inr (by omega))))] at hR
      refine vcIf.yes (by first | (simp [hA1.not, hA1.eq, hA1.lt, hA1.le, hA1.cond, hA1.beq, hA1.orb, hL1.len, hL1.slen, hL1.sq, c5]; done) | (simp only [c5]; simp [hA1.not, hA1.eq, hA1.lt, hA1.le, hA1.cond, hA1.beq, hA1.orb, hL1.len, hL1.slen, hL1.sq, c5]; done) | (simp [hA1.not, hA1.eq, hA1.lt, hA1.le, hA1.cond, hA1.beq, hA1.orb, hL1.len, hL1.slen, hL1.sq, c5]; omega) | (simp only [c5]; simp [hA1.not, hA1.eq, hA1.lt, hA1.le, hA1.cond, hA1.beq, hA1.orb, hL1.len, hL1.slen, hL1.sq, c5]; omega)) ?_
      cbv
      repeat (first | (refine vcIf.yes ?_ ?_; (focus (simp [hA1.not, hA1.eq, hA1.lt, hA1.le, hA1.cond, hA1.beq, hA1.orb, hL1.len, hL1.slen, hL1.sq]; done)); cbv) | (refine vcIf.no ?_ ?_; (focus (simp [hA1.not, hA1.eq, hA1.lt, hA1.le, hA1.cond, hA1.beq, hA1.orb, hL1.len, hL1.slen, hL1.sq]; done)); cbv) | fail)
      exact hret _ (RetEv.ret eOk rfl ⟨6, hR.symm, rfl⟩)
    refine vcIf.no (by first | (simp [hA1.not, hA1.eq, hA1.lt, hA1.le, hA1.cond, hA1.beq, hA1.orb, hL1.len, hL1.slen, hL1.sq, c5]; done) | (simp only [c5]; simp [hA1.not, hA1.eq, hA1.lt, hA1.le, hA1.cond, hA1.beq, hA1.orb, hL1.len, hL1.slen, hL1.sq, c5]; done) | (simp [hA1.not, hA1.eq, hA1.lt, hA1.le, hA1.cond, hA1.beq, hA1.orb, hL1.len, hL1.slen, hL1.sq, c5]; omega) | (simp only [c5]; simp [hA1.not, hA1.eq, hA1.lt, hA1.le, hA1.cond, hA1.beq, hA1.orb, hL1.len, hL1.slen, hL1.sq, c5]; omega)) ?_
    cbv
    refine hcode1 _ _ _ (CodeEv.drawT eOk fOk (by kernel_rfl) noX (.rd 0 (.rd 1 (.rd 2 (.rd 3 (.rd 4 (.rd 5 (.rd 6 (.rd 7 (.rd 8 (.rd 9 (.so 10 (.so 11 (.so 12 (.so 13 (.so 14 (.so 15 (.so 16 (.so 17 (.so 18 (.done)))))))))))))))))))) (by kernel_rfl) (by kernel_rfl) ?_)
    intro add2 sub2 mul2 quo2 rem2 band2 bor2 bxor2 bclr2 shl2 shr2 ieq2 ilt2 ile2 seq2 slt2 beq2 bnot2 orb2 bcond2 iwrap2 iof2 ssz2 hA2 cat2 sq2 sl2 imin2 imax2 smin2 smax2 len2 slen2 u82 hL2 op2 hop2 call2 hcall2 code2 hcode2 q2 hq2
    have hk2 : slen2 ky = Int.ofNat kn := by rw [hL2.slen, ← hkp]; rfl
    have hv2 : slen2 vl = Int.ofNat vn := by rw [hL2.slen, ← hvp]; rfl
    obtain ⟨kv, hkv⟩ : ∃ x, x = kn + vn := ⟨_, rfl⟩
    obtain ⟨am, ham⟩ : ∃ x, x = a + m := ⟨_, rfl⟩
    have e1 : add2 .i64 (Int.ofNat kn) (Int.ofNat vn) = Int.ofNat kv := by rw [hA2.add, IntWalk.i64_in _ (by simp only [Int.ofNat_eq_natCast]; omega), hkv]; rfl
    have e2 : add2 .i64 (Int.ofNat kv) 8 = Int.ofNat m := by rw [hA2.add, IntWalk.i64_in _ (by simp only [Int.ofNat_eq_natCast]; omega), hm, hkv]; rfl
    have e4 : add2 .i64 (Int.ofNat a) (Int.ofNat m) = Int.ofNat am := by rw [hA2.add, IntWalk.i64_in _ (by simp only [Int.ofNat_eq_natCast]; omega), ham]; rfl
    cbv
    refine ⟨i, _, rfl, hzz, rfl, ?_⟩
    cbv
    refine ⟨i, _, rfl, hzz, rfl, ?_⟩
    cbv
    rw [hk2, hv2, e1, e2, e4]
    refine hq2 _ ?_
    cbv
    refine hrd _ ⟨(i + 1, am), [], ?_, ⟨hi, ?_, ?_⟩, rfl, ⟨rfl, rfl, ?_, trivial⟩, rfl, rfl, rfl, ?_⟩
    · simp only; omega
    · simp only; rw [htk, ham, hm]
    · simp only; omega
    · show some (V.p (.int .i64 _)) = _
      rw [hadd1 hi]
    · rw [hB]; exact Nat.zero_le _
  · refine vcIf.no (by first | (simp [hA1.not, hA1.eq, hA1.lt, hA1.le, hA1.cond, hA1.beq, hA1.orb, hL1.len, hL1.slen, hL1.sq, hi, hlz1]; done) | (simp only [hi, hlz1]; simp [hA1.not, hA1.eq, hA1.lt, hA1.le, hA1.cond, hA1.beq, hA1.orb, hL1.len, hL1.slen, hL1.sq, hi, hlz1]; done) | (simp [hA1.not, hA1.eq, hA1.lt, hA1.le, hA1.cond, hA1.beq, hA1.orb, hL1.len, hL1.slen, hL1.sq, hi, hlz1]; omega) | (simp only [hi, hlz1]; simp [hA1.not, hA1.eq, hA1.lt, hA1.le, hA1.cond, hA1.beq, hA1.orb, hL1.len, hL1.slen, hL1.sq, hi, hlz1]; omega)) ?_
    cbv
    rw [List.take_of_length_le (by omega)] at k2
    obtain rfl : i = N := by omega
    refine hcode _ _ _ (CodeEv.loop eOk fOk (ι := Nat × Nat) (fun s => [(1, .own 0 0), (3, .p (.int .i64 (Int.ofNat s.2))), (5, .p (.int .i64 (Int.ofNat s.1)))])
      (fun s => [.st 34 [.p (.int .i64 r), .p (.sl xs), .p (.sl zs)]]) (fun s => s.1 ≤ M ∧ s.2 = a + wS (sp.take s.1) ∧ s.2 ≤ a + 42 * s.1 ∧ (sp.take s.1).any Spn.long = false) (fun s => M - s.1) (0, a) ?_ ?_)
    · exact ⟨(by repeat (first | exact trivial | refine And.intro rfl ?_)), rfl, Nat.zero_le _, rfl, Nat.le_refl _, rfl⟩
    rintro ⟨j, b⟩ ⟨j1, j2, j3, j4⟩ rd hrd
    simp only at j1 j2 j3 j4
    intro add1 sub1 mul1 quo1 rem1 band1 bor1 bxor1 bclr1 shl1 shr1 ieq1 ilt1 ile1 seq1 slt1 beq1 bnot1 orb1 bcond1 iwrap1 iof1 ssz1 hA1 cat1 sq1 sl1 imin1 imax1 smin1 smax1 len1 slen1 u81 hL1 op1 hop1 call1 hcall1 code1 hcode1
    have hlx1 : len1 xs = Int.ofNat M := by rw [hL1.len, hxl]; rfl
    have hadd1 : j < M → add1 .i64 (Int.ofNat j) 1 = Int.ofNat (j + 1) := fun _ => by rw [hA1.add, IntWalk.i64_in _ (by simp only [Int.ofNat_eq_natCast]; omega)]; rfl
    cbv
    by_cases hj : j < M
    · obtain ⟨c, hc⟩ := get_of_lt (show j < sp.length by omega)
      have hcm := List.mem_of_getElem? hc
      have hzz : xs[j]? = some (.agg [.str c.lo, .str c.hi]) := by rw [hxs]; exact pP_get hc
      have hlong : c.long = true ↔ (17 < c.lo.length ∨ 17 < c.hi.length) := by unfold Spn.long; rw [decide_eq_true_eq]
      have htw : wS (sp.take (j + 1)) = wS (sp.take j) + (c.lo.length + c.hi.length + 8) := by rw [List.take_add_one, hc, wS_app]; rfl
      have htl : c.long = false → (sp.take (j + 1)).any Spn.long = false := fun h => by rw [List.take_add_one, hc]; simp only [Option.toList_some, List.any_append, j4]; simp [h]
      have hall : c.long = true → sp.any Spn.long = true := fun h => List.any_eq_true.2 ⟨c, hcm, h⟩
      obtain ⟨C, hC⟩ : ∃ C, C = c.long := ⟨_, rfl⟩
      rw [← hC] at hlong htl hall
      clear hC hc
      obtain ⟨lo, hi'⟩ := c
      simp only at hzz hlong htw
      obtain ⟨kn, hkn⟩ : ∃ n, n = lo.length := ⟨_, rfl⟩
      obtain ⟨vn, hvn⟩ : ∃ n, n = hi'.length := ⟨_, rfl⟩
      have hk : slen1 lo = Int.ofNat kn := by rw [hL1.slen, hkn]; rfl
      have hv : slen1 hi' = Int.ofNat vn := by rw [hL1.slen, hvn]; rfl
      rw [← hkn, ← hvn] at hlong htw
      obtain ⟨m, hmd⟩ : ∃ m, m = kn + vn + 8 := ⟨_, rfl⟩
      refine vcIf.yes (by first | (simp [hA1.not, hA1.eq, hA1.lt, hA1.le, hA1.cond, hA1.beq, hA1.orb, hL1.len, hL1.slen, hL1.sq, hj, hlx1]; done) | (simp only [hj, hlx1]; simp [hA1.not, hA1.eq, hA1.lt, hA1.le, hA1.cond, hA1.beq, hA1.orb, hL1.len, hL1.slen, hL1.sq, hj, hlx1]; done) | (simp [hA1.not, hA1.eq, hA1.lt, hA1.le, hA1.cond, hA1.beq, hA1.orb, hL1.len, hL1.slen, hL1.sq, hj, hlx1]; omega) | (simp only [hj, hlx1]; simp [hA1.not, hA1.eq, hA1.lt, hA1.le, hA1.cond, hA1.beq, hA1.orb, hL1.len, hL1.slen, hL1.sq, hj, hlx1]; omega)) ?_
      cbv
      refine ⟨j, _, rfl, hzz, rfl, ?_⟩
      cbv
      rw [hk]
      by_cases c4 : 17 < kn
      · have hl := hall (hlong.2 (.inl c4))
        rw [if_pos (.inr (.inr (.inl hl)))] at hR
        refine vcIf.yes (by first | (simp [hA1.not, hA1.eq, hA1.lt, hA1.le, hA1.cond, hA1.beq, hA1.orb, hL1.len, hL1.slen, hL1.sq, c4]; done) | (simp only [c4]; simp [hA1.not, hA1.eq, hA1.lt, hA1.le, hA1.cond, hA1.beq, hA1.orb, hL1.len, hL1.slen, hL1.sq, c4]; done) | (simp [hA1.not, hA1.eq, hA1.lt, hA1.le, hA1.cond, hA1.beq, hA1.orb, hL1.len, hL1.slen, hL1.sq, c4]; omega) | (simp only [c4]; simp [hA1.not, hA1.eq, hA1.lt, hA1.le, hA1.cond, hA1.beq, hA1.orb, hL1.len, hL1.slen, hL1.sq, c4]; omega)) ?_
        cbv
        repeat (first | (refine vcIf.yes ?_ ?_; (focus (simp [hA1.not, hA1.eq, hA1.lt, hA1.le, hA1.cond, hA1.beq, hA1.orb, hL1.len, hL1.slen, hL1.sq]; done)); cbv) | (refine vcIf.no ?_ ?_; (focus (simp [hA1.not, hA1.eq, hA1.lt, hA1.le, hA1.cond, hA1.beq, hA1.orb, hL1.len, hL1.slen, hL1.sq]; done)); cbv) | fail)
        exact hret _ (RetEv.ret eOk rfl ⟨6, hR.symm, rfl⟩)
      refine vcIf.no (by first | (simp [hA1.not, hA1.eq, hA1.lt, hA1.le, hA1.cond, hA1.beq, hA1.orb, hL1.len, hL1.slen, hL1.sq, c4]; done) | (simp only [c4]; simp [hA1.not, hA1.eq, hA1.lt, hA1.le, hA1.cond, hA1.beq, hA1.orb, hL1.len, hL1.slen, hL1.sq, c4]; done) | (simp [hA1.not, hA1.eq, hA1.lt, hA1.le, hA1.cond, hA1.beq, hA1.orb, hL1.len, hL1.slen, hL1.sq, c4]; omega) | (simp only [c4]; simp [hA1.not, hA1.eq, hA1.lt, hA1.le, hA1.cond, hA1.beq, hA1.orb, hL1.len, hL1.slen, hL1.sq, c4]; omega)) ?_
      cbv
      refine ⟨j, _, rfl, hzz, rfl, ?_⟩
      cbv
      rw [hv]
      by_cases c5 : 17 < vn
      · have hl := hall (hlong.2 (.inr c5))
        rw [if_pos (.inr (.inr (.inl hl)))] at hR
        refine vcIf.yes (by first | (simp [hA1.not, hA1.eq, hA1.lt, hA1.le, hA1.cond, hA1.beq, hA1.orb, hL1.len, hL1.slen, hL1.sq, c5]; done) | (simp only [c5]; simp [hA1.not, hA1.eq, hA1.lt, hA1.le, hA1.cond, hA1.beq, hA1.orb, hL1.len, hL1.slen, hL1.sq, c5]; done) | (simp [hA1.not, hA1.eq, hA1.lt, hA1.le, hA1.cond, hA1.beq, hA1.orb, hL1.len, hL1.slen, hL1.sq, c5]; omega) | (simp only [c5]; simp [hA1.not, hA1.eq, hA1.lt, hA1.le, hA1.cond, hA1.beq, hA1.orb, hL1.len, hL1.slen, hL1.sq, c5]; omega)) ?_
        cbv
        repeat (first | (refine vcIf.yes ?_ ?_; (focus (simp [hA1.not, hA1.eq, hA1.lt, hA1.le, hA1.cond, hA1.beq, hA1.orb, hL1.len, hL1.slen, hL1.sq]; done)); cbv) | (refine vcIf.no ?_ ?_; (focus (simp [hA1.not, hA1.eq, hA1.lt, hA1.le, hA1.cond, hA1.beq, hA1.orb, hL1.len, hL1.slen, hL1.sq]; done)); cbv) | fail)
        exact hret _ (RetEv.ret eOk rfl ⟨6, hR.symm, rfl⟩)
      refine vcIf.no (by first | (simp [hA1.not, hA1.eq, hA1.lt, hA1.le, hA1.cond, hA1.beq, hA1.orb, hL1.len, hL1.slen, hL1.sq, c5]; done) | (simp only [c5]; simp [hA1.not, hA1.eq, hA1.lt, hA1.le, hA1.cond, hA1.beq, hA1.orb, hL1.len, hL1.slen, hL1.sq, c5]; done) | (simp [hA1.not, hA1.eq, hA1.lt, hA1.le, hA1.cond, hA1.beq, hA1.orb, hL1.len, hL1.slen, hL1.sq, c5]; omega) | (simp only [c5]; simp [hA1.not, hA1.eq, hA1.lt, hA1.le, hA1.cond, hA1.beq, hA1.orb, hL1.len, hL1.slen, hL1.sq, c5]; omega)) ?_
      cbv
      refine hcode1 _ _ _ (CodeEv.drawT eOk fOk (by kernel_rfl) noX (.rd 0 (.rd 1 (.rd 2 (.rd 3 (.rd 4 (.rd 5 (.rd 6 (.rd 7 (.rd 8 (.rd 9 (.so 10 (.so 11 (.so 12 (.so 13 (.so 14 (.so 15 (.so 16 (.so 17 (.so 18 (.done)))))))))))))))))))) (by kernel_rfl) (by kernel_rfl) ?_)
      intro add2 sub2 mul2 quo2 rem2 band2 bor2 bxor2 bclr2 shl2 shr2 ieq2 ilt2 ile2 seq2 slt2 beq2 bnot2 orb2 bcond2 iwrap2 iof2 ssz2 hA2 cat2 sq2 sl2 imin2 imax2 smin2 smax2 len2 slen2 u82 hL2 op2 hop2 call2 hcall2 code2 hcode2 q2 hq2
      have hk2 : slen2 lo = Int.ofNat kn := by rw [hL2.slen, hkn]; rfl
      have hv2 : slen2 hi' = Int.ofNat vn := by rw [hL2.slen, hvn]; rfl
      obtain ⟨kv, hkv⟩ : ∃ x, x = kn + vn := ⟨_, rfl⟩
      obtain ⟨am, ham⟩ : ∃ x, x = b + m := ⟨_, rfl⟩
      have e1 : add2 .i64 (Int.ofNat kn) (Int.ofNat vn) = Int.ofNat kv := by rw [hA2.add, IntWalk.i64_in _ (by simp only [Int.ofNat_eq_natCast]; omega), hkv]; rfl
      have e2 : add2 .i64 (Int.ofNat kv) 8 = Int.ofNat m := by rw [hA2.add, IntWalk.i64_in _ (by simp only [Int.ofNat_eq_natCast]; omega), hmd, hkv]; rfl
      have e4 : add2 .i64 (Int.ofNat b) (Int.ofNat m) = Int.ofNat am := by rw [hA2.add, IntWalk.i64_in _ (by simp only [Int.ofNat_eq_natCast]; omega), ham]; rfl
      cbv
      refine ⟨j, _, rfl, hzz, rfl, ?_⟩
      cbv
      refine ⟨j, _, rfl, hzz, rfl, ?_⟩
      cbv
      rw [hk2, hv2, e1, e2, e4]
      refine hq2 _ ?_
      cbv
      refine hrd _ ⟨(j + 1, am), [], ?_, ⟨hj, ?_, ?_, ?_⟩, rfl, ⟨rfl, rfl, ?_, trivial⟩, rfl, rfl, rfl, ?_⟩
      · simp only; omega
      · simp only; rw [htw, ham, j2, hmd]; omega
      · simp only; omega
      · refine htl (Bool.eq_false_iff.2 fun h => ?_)
        rcases hlong.1 h with h | h
        · exact c4 h
        · exact c5 h
      · show some (V.p (.int .i64 _)) = _
        rw [hadd1 hj]
      · rw [hB]; exact Nat.zero_le _
    · refine vcIf.no (by first | (simp [hA1.not, hA1.eq, hA1.lt, hA1.le, hA1.cond, hA1.beq, hA1.orb, hL1.len, hL1.slen, hL1.sq, hj, hlx1]; done) | (simp only [hj, hlx1]; simp [hA1.not, hA1.eq, hA1.lt, hA1.le, hA1.cond, hA1.beq, hA1.orb, hL1.len, hL1.slen, hL1.sq, hj, hlx1]; done) | (simp [hA1.not, hA1.eq, hA1.lt, hA1.le, hA1.cond, hA1.beq, hA1.orb, hL1.len, hL1.slen, hL1.sq, hj, hlx1]; omega) | (simp only [hj, hlx1]; simp [hA1.not, hA1.eq, hA1.lt, hA1.le, hA1.cond, hA1.beq, hA1.orb, hL1.len, hL1.slen, hL1.sq, hj, hlx1]; omega)) ?_
      cbv
      rw [List.take_of_length_le (by omega)] at j2 j4
      by_cases c6 : 512 < b
      · rw [if_pos (.inr (.inr (.inr (by omega))))] at hR
        refine vcIf.yes (by first | (simp [hA.not, hA.eq, hA.lt, hA.le, hA.cond, hA.beq, hA.orb, hL.len, hL.slen, hL.sq, c6]; done) | (simp only [c6]; simp [hA.not, hA.eq, hA.lt, hA.le, hA.cond, hA.beq, hA.orb, hL.len, hL.slen, hL.sq, c6]; done) | (simp [hA.not, hA.eq, hA.lt, hA.le, hA.cond, hA.beq, hA.orb, hL.len, hL.slen, hL.sq, c6]; omega) | (simp only [c6]; simp [hA.not, hA.eq, hA.lt, hA.le, hA.cond, hA.beq, hA.orb, hL.len, hL.slen, hL.sq, c6]; omega)) ?_
        cbv
        exact hret _ (RetEv.ret eOk rfl ⟨6, hR.symm, rfl⟩)
      rw [if_neg (by rw [j4]; simp; omega)] at hR
      refine vcIf.no (by first | (simp [hA.not, hA.eq, hA.lt, hA.le, hA.cond, hA.beq, hA.orb, hL.len, hL.slen, hL.sq, c6]; done) | (simp only [c6]; simp [hA.not, hA.eq, hA.lt, hA.le, hA.cond, hA.beq, hA.orb, hL.len, hL.slen, hL.sq, c6]; done) | (simp [hA.not, hA.eq, hA.lt, hA.le, hA.cond, hA.beq, hA.orb, hL.len, hL.slen, hL.sq, c6]; omega) | (simp only [c6]; simp [hA.not, hA.eq, hA.lt, hA.le, hA.cond, hA.beq, hA.orb, hL.len, hL.slen, hL.sq, c6]; omega)) ?_
      cbv
      obtain rfl : j = M := by omega
      refine hcode _ _ _ (CodeEv.loop eOk fOk (ι := Nat) (fun s => [(1, .own 0 0), (6, .p (.int .i64 (Int.ofNat s)))])
        (fun s => [.st 34 [.p (.int .i64 r), .p (.sl xs), .p (.sl zs)]]) (fun s => s ≤ j ∧ (sp.take s).any Spn.rev = false) (fun s => j - s) 0 ?_ ?_)
      · exact ⟨(by repeat (first | exact trivial | refine And.intro rfl ?_)), rfl, Nat.zero_le _, rfl⟩
      rintro k ⟨y1, y2⟩ rd hrd
      intro add1 sub1 mul1 quo1 rem1 band1 bor1 bxor1 bclr1 shl1 shr1 ieq1 ilt1 ile1 seq1 slt1 beq1 bnot1 orb1 bcond1 iwrap1 iof1 ssz1 hA1 cat1 sq1 sl1 imin1 imax1 smin1 smax1 len1 slen1 u81 hL1 op1 hop1 call1 hcall1 code1 hcode1
      have hlx1 : len1 xs = Int.ofNat j := by rw [hL1.len, hxl]; rfl
      have hadd1 : k < j → add1 .i64 (Int.ofNat k) 1 = Int.ofNat (k + 1) := fun _ => by rw [hA1.add, IntWalk.i64_in _ (by simp only [Int.ofNat_eq_natCast]; omega)]; rfl
      cbv
      by_cases hk : k < j
      · obtain ⟨c, hc⟩ := get_of_lt (show k < sp.length by omega)
        have hzz : xs[k]? = some (.agg [.str c.lo, .str c.hi]) := by rw [hxs]; exact pP_get hc
        have hall : Op.bytesLess c.hi c.lo = true → sp.any Spn.rev = true := fun h => List.any_eq_true.2 ⟨c, List.mem_of_getElem? hc, h⟩
        have htl : Op.bytesLess c.hi c.lo = false → (sp.take (k + 1)).any Spn.rev = false := fun h => by rw [List.take_add_one, hc]; simp only [Option.toList_some, List.any_append, y2]; simp [Spn.rev, h]
        clear hc
        obtain ⟨lo, hi'⟩ := c
        simp only at hzz hall htl
        refine vcIf.yes (by first | (simp [hA1.not, hA1.eq, hA1.lt, hA1.le, hA1.cond, hA1.beq, hA1.orb, hL1.len, hL1.slen, hL1.sq, hk, hlx1]; done) | (simp only [hk, hlx1]; simp [hA1.not, hA1.eq, hA1.lt, hA1.le, hA1.cond, hA1.beq, hA1.orb, hL1.len, hL1.slen, hL1.sq, hk, hlx1]; done) | (simp [hA1.not, hA1.eq, hA1.lt, hA1.le, hA1.cond, hA1.beq, hA1.orb, hL1.len, hL1.slen, hL1.sq, hk, hlx1]; omega) | (simp only [hk, hlx1]; simp [hA1.not, hA1.eq, hA1.lt, hA1.le, hA1.cond, hA1.beq, hA1.orb, hL1.len, hL1.slen, hL1.sq, hk, hlx1]; omega)) ?_
        cbv
        refine hcode1 _ _ _ (CodeEv.drawT eOk fOk (by kernel_rfl) noX (.rd 0 (.rd 1 (.rd 2 (.rd 3 (.rd 4 (.rd 5 (.rd 6 (.rd 7 (.so 8 (.so 9 (.so 10 (.so 11 (.so 12 (.done)))))))))))))) (by kernel_rfl) (by kernel_rfl) ?_)
        intro add2 sub2 mul2 quo2 rem2 band2 bor2 bxor2 bclr2 shl2 shr2 ieq2 ilt2 ile2 seq2 slt2 beq2 bnot2 orb2 bcond2 iwrap2 iof2 ssz2 hA2 cat2 sq2 sl2 imin2 imax2 smin2 smax2 len2 slen2 u82 hL2 op2 hop2 call2 hcall2 code2 hcode2 q2 hq2
        have hev : bnot2 (orb2 (sl2 lo hi') (sq2 lo hi')) = Op.bytesLess hi' lo := by
          rw [hA2.not, hA2.orb, hL2.sl, hL2.sq]
          exact bl_gt lo hi'
        cbv
        refine ⟨k, _, rfl, hzz, rfl, ?_⟩
        cbv
        refine ⟨k, _, rfl, hzz, rfl, ?_⟩
        cbv
        refine hq2 _ ?_
        cbv
        by_cases c7 : Op.bytesLess hi' lo = true
        · rw [if_pos (hall c7)] at hR
          refine vcIf.yes (hev.trans c7) ?_
          cbv
          exact hret _ (RetEv.ret eOk rfl ⟨5, hR.symm, rfl⟩)
        have c7' := Bool.eq_false_iff.2 c7
        refine vcIf.no (hev.trans c7') ?_
        cbv
        refine hrd _ ⟨k + 1, [], ?_, ⟨hk, htl c7'⟩, rfl, ⟨rfl, ?_, trivial⟩, rfl, rfl, rfl, ?_⟩
        · show j - (k + 1) < j - k
          omega
        · show some (V.p (.int .i64 _)) = _
          rw [hadd1 hk]
        · rw [hB]; exact Nat.zero_le _
      · refine vcIf.no (by first | (simp [hA1.not, hA1.eq, hA1.lt, hA1.le, hA1.cond, hA1.beq, hA1.orb, hL1.len, hL1.slen, hL1.sq, hk, hlx1]; done) | (simp only [hk, hlx1]; simp [hA1.not, hA1.eq, hA1.lt, hA1.le, hA1.cond, hA1.beq, hA1.orb, hL1.len, hL1.slen, hL1.sq, hk, hlx1]; done) | (simp [hA1.not, hA1.eq, hA1.lt, hA1.le, hA1.cond, hA1.beq, hA1.orb, hL1.len, hL1.slen, hL1.sq, hk, hlx1]; omega) | (simp only [hk, hlx1]; simp [hA1.not, hA1.eq, hA1.lt, hA1.le, hA1.cond, hA1.beq, hA1.orb, hL1.len, hL1.slen, hL1.sq, hk, hlx1]; omega)) ?_
        cbv
        rw [List.take_of_length_le (by omega)] at y2
        rw [if_neg (by rw [y2]; decide)] at hR
        refine hcall _ _ _ _ _ (CallEv.same hal rfl ?_)
        rintro _ _ ⟨e, he, rfl, rfl⟩
        cbv
        exact hret _ (RetEv.ret eOk rfl ⟨e, he.trans hR.symm, rfl⟩)
end Go.Proofs.Ytocmeaamaecgeaa
