/- Whether a transaction may be: the package's. Conditions: on sizes. -/
import Derived.Test.YtocmeaamaecgeaaLVd1
set_option maxRecDepth 100000
set_option maxHeartbeats 4000000
set_option linter.unusedSimpArgs false
set_option linter.unusedVariables false
namespace Go.Proofs.Ytocmeaamaecgeaa
open Go Go.Lx
open Go.Sx (vcIf)

theorem vCheck_spec (t : Tx) (ht : t.fit) (xs zs : List PV) (hxs : xs = pP t.sp) (hzs : zs = cP t.ch) :
    FnL Try.prog 13 [.p (.agg [.int .i64 t.r, .sl xs, .sl zs])] [] fun v own => ∃ e : Nat, e = t.chk ∧ v = .p (.int .i64 (Int.ofNat e)) ∧ own = [] := by
  refine FnL.flat (R := fun v own => ∃ e : Nat, e = t.chk ∧ v = .p (.int .i64 (Int.ofNat e))) ?_ (by rintro _ _ ⟨b, h, rfl⟩; exact ⟨_, _, rfl, .refl _, b, h, rfl, rfl⟩)
  obtain ⟨r, sp, ch⟩ := t
  obtain ⟨_, hf, hs1, hs2⟩ := ht
  simp only at hf hs1 hs2 hxs hzs ⊢
  obtain ⟨R, hR⟩ : ∃ R, R = Tx.chk ⟨r, sp, ch⟩ := ⟨_, rfl⟩
  rw [← hR]
  unfold Tx.chk at hR
  simp only at hR
  have hxl : xs.length = sp.length := by rw [hxs, pP_length]
  have hzl : zs.length = ch.length := by rw [hzs, cP_length]
  have hwt := fun h => weight_spec ch hf h zs hzs
  have hrv := hasSpns_spec sp hs1 xs hxs _ _ vRev_spec
  have hal := all_spec ch hs2 zs hzs
  obtain ⟨N, hN⟩ : ∃ N, N = ch.length := ⟨_, rfl⟩
  obtain ⟨M, hM⟩ : ∃ M, M = sp.length := ⟨_, rfl⟩
  obtain ⟨W, hW⟩ : ∃ W, W = wC ch := ⟨_, rfl⟩
  rw [← hN] at hzl hR hwt
  rw [← hM] at hxl hR
  rw [← hW] at hR hwt
  have hmax : ∀ {imax : Int → Int → Int}, (∀ a b, imax a b = if b > a then b else a) → ∀ kn vn : Nat, (17 < imax (Int.ofNat kn) (Int.ofNat vn) ↔ (17 < kn ∨ 17 < vn)) := fun h kn vn => by
    rw [h]; simp only [Int.ofNat_eq_natCast]; split <;> omega
  refine fn_of_vc eOk fOk fo13 Try.func13 rfl rfl rfl fun B hB => ?_
  intro add sub mul quo rem band bor bxor bclr shl shr ieq ilt ile seq slt beq bnot orb bcond iwrap iof ssz hA cat sq sl imin imax smin smax len slen u8 hL op hop call hcall code hcode ret hret
  have hlx : len xs = Int.ofNat M := by rw [hL.len, hxl]; rfl
  have hlz : len zs = Int.ofNat N := by rw [hL.len, hzl]; rfl
  cbv
  by_cases c1 : r < 0
  · rw [if_pos c1] at hR
    refine vcIf.yes (by first | (simp [hA.not, hA.eq, hA.lt, hA.le, hA.cond, hA.beq, hA.orb, hL.len, hL.slen, hL.sq, c1]; done) | (simp only [c1]; simp [hA.not, hA.eq, hA.lt, hA.le, hA.cond, hA.beq, hA.orb, hL.len, hL.slen, hL.sq, c1]; done) | (simp [hA.not, hA.eq, hA.lt, hA.le, hA.cond, hA.beq, hA.orb, hL.len, hL.slen, hL.sq, c1]; omega) | (simp only [c1]; simp [hA.not, hA.eq, hA.lt, hA.le, hA.cond, hA.beq, hA.orb, hL.len, hL.slen, hL.sq, c1]; omega)) ?_
    cbv
    exact hret _ (RetEv.ret eOk rfl ⟨1, hR.symm, rfl⟩)
  rw [if_neg c1] at hR
  refine vcIf.no (by first | (simp [hA.not, hA.eq, hA.lt, hA.le, hA.cond, hA.beq, hA.orb, hL.len, hL.slen, hL.sq, c1]; done) | (simp only [c1]; simp [hA.not, hA.eq, hA.lt, hA.le, hA.cond, hA.beq, hA.orb, hL.len, hL.slen, hL.sq, c1]; done) | (simp [hA.not, hA.eq, hA.lt, hA.le, hA.cond, hA.beq, hA.orb, hL.len, hL.slen, hL.sq, c1]; omega) | (simp only [c1]; simp [hA.not, hA.eq, hA.lt, hA.le, hA.cond, hA.beq, hA.orb, hL.len, hL.slen, hL.sq, c1]; omega)) ?_
  cbv
  by_cases c2 : 24 < M
  · rw [if_pos (.inl c2)] at hR
    refine vcIf.yes (by first | (simp [hA.not, hA.eq, hA.lt, hA.le, hA.cond, hA.beq, hA.orb, hL.len, hL.slen, hL.sq, hlx, c2]; done) | (simp only [hlx, c2]; simp [hA.not, hA.eq, hA.lt, hA.le, hA.cond, hA.beq, hA.orb, hL.len, hL.slen, hL.sq, hlx, c2]; done) | (simp [hA.not, hA.eq, hA.lt, hA.le, hA.cond, hA.beq, hA.orb, hL.len, hL.slen, hL.sq, hlx, c2]; omega) | (simp only [hlx, c2]; simp [hA.not, hA.eq, hA.lt, hA.le, hA.cond, hA.beq, hA.orb, hL.len, hL.slen, hL.sq, hlx, c2]; omega)) ?_
    cbv
    repeat (first | (refine vcIf.yes ?_ ?_; (focus (simp [hA.not, hA.eq, hA.lt, hA.le, hA.cond, hA.beq, hA.orb, hL.len, hL.slen, hL.sq]; done)); cbv) | (refine vcIf.no ?_ ?_; (focus (simp [hA.not, hA.eq, hA.lt, hA.le, hA.cond, hA.beq, hA.orb, hL.len, hL.slen, hL.sq]; done)); cbv) | fail)
    refine vcIf.yes (by first | (simp [hA.not, hA.eq, hA.lt, hA.le, hA.cond, hA.beq, hA.orb, hL.len, hL.slen, hL.sq, hlx, c2]; done) | (simp only [hlx, c2]; simp [hA.not, hA.eq, hA.lt, hA.le, hA.cond, hA.beq, hA.orb, hL.len, hL.slen, hL.sq, hlx, c2]; done) | (simp [hA.not, hA.eq, hA.lt, hA.le, hA.cond, hA.beq, hA.orb, hL.len, hL.slen, hL.sq, hlx, c2]; omega) | (simp only [hlx, c2]; simp [hA.not, hA.eq, hA.lt, hA.le, hA.cond, hA.beq, hA.orb, hL.len, hL.slen, hL.sq, hlx, c2]; omega)) ?_
    cbv
    exact hret _ (RetEv.ret eOk rfl ⟨6, hR.symm, rfl⟩)
  refine vcIf.no (by first | (simp [hA.not, hA.eq, hA.lt, hA.le, hA.cond, hA.beq, hA.orb, hL.len, hL.slen, hL.sq, hlx, c2]; done) | (simp only [hlx, c2]; simp [hA.not, hA.eq, hA.lt, hA.le, hA.cond, hA.beq, hA.orb, hL.len, hL.slen, hL.sq, hlx, c2]; done) | (simp [hA.not, hA.eq, hA.lt, hA.le, hA.cond, hA.beq, hA.orb, hL.len, hL.slen, hL.sq, hlx, c2]; omega) | (simp only [hlx, c2]; simp [hA.not, hA.eq, hA.lt, hA.le, hA.cond, hA.beq, hA.orb, hL.len, hL.slen, hL.sq, hlx, c2]; omega)) ?_
  cbv
  by_cases c3 : 24 < N
  · rw [if_pos (.inr (.inl c3))] at hR
    refine vcIf.yes (by first | (simp [hA.not, hA.eq, hA.lt, hA.le, hA.cond, hA.beq, hA.orb, hL.len, hL.slen, hL.sq, hlz, c3]; done) | (simp only [hlz, c3]; simp [hA.not, hA.eq, hA.lt, hA.le, hA.cond, hA.beq, hA.orb, hL.len, hL.slen, hL.sq, hlz, c3]; done) | (simp [hA.not, hA.eq, hA.lt, hA.le, hA.cond, hA.beq, hA.orb, hL.len, hL.slen, hL.sq, hlz, c3]; omega) | (simp only [hlz, c3]; simp [hA.not, hA.eq, hA.lt, hA.le, hA.cond, hA.beq, hA.orb, hL.len, hL.slen, hL.sq, hlz, c3]; omega)) ?_
    cbv
    exact hret _ (RetEv.ret eOk rfl ⟨6, hR.symm, rfl⟩)
  refine vcIf.no (by first | (simp [hA.not, hA.eq, hA.lt, hA.le, hA.cond, hA.beq, hA.orb, hL.len, hL.slen, hL.sq, hlz, c3]; done) | (simp only [hlz, c3]; simp [hA.not, hA.eq, hA.lt, hA.le, hA.cond, hA.beq, hA.orb, hL.len, hL.slen, hL.sq, hlz, c3]; done) | (simp [hA.not, hA.eq, hA.lt, hA.le, hA.cond, hA.beq, hA.orb, hL.len, hL.slen, hL.sq, hlz, c3]; omega) | (simp only [hlz, c3]; simp [hA.not, hA.eq, hA.lt, hA.le, hA.cond, hA.beq, hA.orb, hL.len, hL.slen, hL.sq, hlz, c3]; omega)) ?_
  cbv
  refine hcall _ _ _ _ _ (CallEv.same (hwt (by omega)) rfl ?_)
  rintro _ _ ⟨w, rfl, rfl, rfl⟩
  cbv
  by_cases c4 : 512 < w
  · rw [if_pos (.inr (.inr (.inr (by omega))))] at hR
    refine vcIf.yes (by first | (simp [hA.not, hA.eq, hA.lt, hA.le, hA.cond, hA.beq, hA.orb, hL.len, hL.slen, hL.sq, c4]; done) | (simp only [c4]; simp [hA.not, hA.eq, hA.lt, hA.le, hA.cond, hA.beq, hA.orb, hL.len, hL.slen, hL.sq, c4]; done) | (simp [hA.not, hA.eq, hA.lt, hA.le, hA.cond, hA.beq, hA.orb, hL.len, hL.slen, hL.sq, c4]; omega) | (simp only [c4]; simp [hA.not, hA.eq, hA.lt, hA.le, hA.cond, hA.beq, hA.orb, hL.len, hL.slen, hL.sq, c4]; omega)) ?_
    cbv
    exact hret _ (RetEv.ret eOk rfl ⟨6, hR.symm, rfl⟩)
  refine vcIf.no (by first | (simp [hA.not, hA.eq, hA.lt, hA.le, hA.cond, hA.beq, hA.orb, hL.len, hL.slen, hL.sq, c4]; done) | (simp only [c4]; simp [hA.not, hA.eq, hA.lt, hA.le, hA.cond, hA.beq, hA.orb, hL.len, hL.slen, hL.sq, c4]; done) | (simp [hA.not, hA.eq, hA.lt, hA.le, hA.cond, hA.beq, hA.orb, hL.len, hL.slen, hL.sq, c4]; omega) | (simp only [c4]; simp [hA.not, hA.eq, hA.lt, hA.le, hA.cond, hA.beq, hA.orb, hL.len, hL.slen, hL.sq, c4]; omega)) ?_
  cbv
  rw [hlx]
  refine hcode _ _ _ (CodeEv.loop eOk fOk (ι := Nat × Nat) (fun s => [(1, .own 0 0), (3, .p (.int .i64 (Int.ofNat s.2))), (25, .p (.sl xs)), (26, .p (.int .i64 (Int.ofNat M))), (27, .p (.int .i64 (Int.ofNat s.1)))])
    (fun s => [.st 34 [.p (.int .i64 r), .p (.sl xs), .p (.sl zs)]]) (fun s => s.1 ≤ M ∧ s.2 = w + wS (sp.take s.1) ∧ s.2 ≤ 512 + 42 * s.1 ∧ (sp.take s.1).any Spn.long = false) (fun s => M - s.1) (0, w) ?_ ?_)
  · exact ⟨(by repeat (first | exact trivial | refine And.intro rfl ?_)), rfl, Nat.zero_le _, rfl, by simp only; omega, rfl⟩
  rintro ⟨i, a⟩ ⟨k1, k2, k3, k4⟩ rd hrd
  simp only at k1 k2 k3 k4
  intro add1 sub1 mul1 quo1 rem1 band1 bor1 bxor1 bclr1 shl1 shr1 ieq1 ilt1 ile1 seq1 slt1 beq1 bnot1 orb1 bcond1 iwrap1 iof1 ssz1 hA1 cat1 sq1 sl1 imin1 imax1 smin1 smax1 len1 slen1 u81 hL1 op1 hop1 call1 hcall1 code1 hcode1
  have hadd1 : i < M → add1 .i64 (Int.ofNat i) 1 = Int.ofNat (i + 1) := fun _ => by rw [hA1.add, IntWalk.i64_in _ (by simp only [Int.ofNat_eq_natCast]; omega)]; rfl
  cbv
  by_cases hi : i < M
  · obtain ⟨c, hc⟩ := get_of_lt (show i < sp.length by omega)
    have hcm := List.mem_of_getElem? hc
    have hzz : xs[i]? = some (.agg [.str c.lo, .str c.hi]) := by rw [hxs]; exact pP_get hc
    have hlong : c.long = true ↔ (17 < c.lo.length ∨ 17 < c.hi.length) := by unfold Spn.long; rw [decide_eq_true_eq]
    have htw : wS (sp.take (i + 1)) = wS (sp.take i) + (c.lo.length + c.hi.length + 8) := by rw [List.take_add_one, hc, wS_app]; rfl
    have htl : c.long = false → (sp.take (i + 1)).any Spn.long = false := fun h => by rw [List.take_add_one, hc]; simp only [Option.toList_some, List.any_append, k4]; simp [h]
    have hall : c.long = true → sp.any Spn.long = true := fun h => List.any_eq_true.2 ⟨c, hcm, h⟩
    obtain ⟨C, hC⟩ : ∃ C, C = c.long := ⟨_, rfl⟩
    rw [← hC] at hlong htl hall
    clear hC hc
    obtain ⟨lo, hi'⟩ := c
    simp only at hzz hlong htw
    obtain ⟨kn, hkn⟩ : ∃ n, n = lo.length := ⟨_, rfl⟩
    obtain ⟨vn, hvn⟩ : ∃ n, n = hi'.length := ⟨_, rfl⟩
    have hk : slen1 lo = Int.ofNat kn := by rw [hL1.slen, hkn]; rfl
    have hv : slen1 hi' = Int.ofNat vn := by rw [hL1.slen, hvn]; rfl
    rw [← hkn, ← hvn] at hlong htw
    have hm := hmax hL1.imax kn vn
    refine vcIf.yes (by first | (simp [hA1.not, hA1.eq, hA1.lt, hA1.le, hA1.cond, hA1.beq, hA1.orb, hL1.len, hL1.slen, hL1.sq, hi]; done) | (simp only [hi]; simp [hA1.not, hA1.eq, hA1.lt, hA1.le, hA1.cond, hA1.beq, hA1.orb, hL1.len, hL1.slen, hL1.sq, hi]; done) | (simp [hA1.not, hA1.eq, hA1.lt, hA1.le, hA1.cond, hA1.beq, hA1.orb, hL1.len, hL1.slen, hL1.sq, hi]; omega) | (simp only [hi]; simp [hA1.not, hA1.eq, hA1.lt, hA1.le, hA1.cond, hA1.beq, hA1.orb, hL1.len, hL1.slen, hL1.sq, hi]; omega)) ?_
    cbv
    refine ⟨i, _, rfl, hzz, rfl, ?_⟩
    cbv
    rw [hk, hv]
    obtain ⟨mx, hmx⟩ : ∃ m, m = imax1 (Int.ofNat kn) (Int.ofNat vn) := ⟨_, rfl⟩
    rw [← hmx] at hm ⊢
    by_cases c5 : 17 < mx
    · have hl := hall (hlong.2 (hm.1 c5))
      rw [if_pos (.inr (.inr (.inl hl)))] at hR
      refine vcIf.yes (by rw [hA1.lt]; exact decide_eq_true c5) ?_
      cbv
      exact hret _ (RetEv.ret eOk rfl ⟨6, hR.symm, rfl⟩)
    have hnl : ¬ (17 < kn ∨ 17 < vn) := fun h => c5 (hm.2 h)
    have e1 : add1 .i64 (Int.ofNat kn) (Int.ofNat vn) = Int.ofNat (kn + vn) := by rw [hA1.add, IntWalk.i64_in _ (by simp only [Int.ofNat_eq_natCast]; omega)]; rfl
    obtain ⟨m, hmd⟩ : ∃ m, m = kn + vn + 8 := ⟨_, rfl⟩
    have e2 : add1 .i64 (Int.ofNat (kn + vn)) 8 = Int.ofNat m := by rw [hA1.add, IntWalk.i64_in _ (by simp only [Int.ofNat_eq_natCast]; omega), hmd]; rfl
    have e4 : add1 .i64 (Int.ofNat a) (Int.ofNat m) = Int.ofNat (a + m) := by rw [hA1.add, IntWalk.i64_in _ (by simp only [Int.ofNat_eq_natCast]; omega)]; rfl
    refine vcIf.no (by rw [hA1.lt]; exact decide_eq_false c5) ?_
    cbv
    rw [hk, hv, e1, e2, e4]
    refine hrd _ ⟨(i + 1, a + m), _, ?_, ⟨hi, ?_, ?_, ?_⟩, rfl, ⟨rfl, rfl, rfl, rfl, ?_, trivial⟩, rfl, rfl, rfl, ?_⟩
    · simp only; omega
    · simp only; rw [htw, k2, hmd]; omega
    · simp only; omega
    · exact htl (Bool.eq_false_iff.2 fun h => hnl (hlong.1 h))
    · show some (V.p (.int .i64 _)) = _
      rw [hadd1 hi]
    · rw [hB]; exact Nat.zero_le _
  · refine vcIf.no (by first | (simp [hA1.not, hA1.eq, hA1.lt, hA1.le, hA1.cond, hA1.beq, hA1.orb, hL1.len, hL1.slen, hL1.sq, hi]; done) | (simp only [hi]; simp [hA1.not, hA1.eq, hA1.lt, hA1.le, hA1.cond, hA1.beq, hA1.orb, hL1.len, hL1.slen, hL1.sq, hi]; done) | (simp [hA1.not, hA1.eq, hA1.lt, hA1.le, hA1.cond, hA1.beq, hA1.orb, hL1.len, hL1.slen, hL1.sq, hi]; omega) | (simp only [hi]; simp [hA1.not, hA1.eq, hA1.lt, hA1.le, hA1.cond, hA1.beq, hA1.orb, hL1.len, hL1.slen, hL1.sq, hi]; omega)) ?_
    cbv
    rw [List.take_of_length_le (by omega)] at k2 k4
    by_cases c6 : 512 < a
    · rw [if_pos (.inr (.inr (.inr (by omega))))] at hR
      refine vcIf.yes (by first | (simp [hA.not, hA.eq, hA.lt, hA.le, hA.cond, hA.beq, hA.orb, hL.len, hL.slen, hL.sq, c6]; done) | (simp only [c6]; simp [hA.not, hA.eq, hA.lt, hA.le, hA.cond, hA.beq, hA.orb, hL.len, hL.slen, hL.sq, c6]; done) | (simp [hA.not, hA.eq, hA.lt, hA.le, hA.cond, hA.beq, hA.orb, hL.len, hL.slen, hL.sq, c6]; omega) | (simp only [c6]; simp [hA.not, hA.eq, hA.lt, hA.le, hA.cond, hA.beq, hA.orb, hL.len, hL.slen, hL.sq, c6]; omega)) ?_
      cbv
      exact hret _ (RetEv.ret eOk rfl ⟨6, hR.symm, rfl⟩)
    rw [if_neg (by rw [k4]; simp; omega)] at hR
    refine vcIf.no (by first | (simp [hA.not, hA.eq, hA.lt, hA.le, hA.cond, hA.beq, hA.orb, hL.len, hL.slen, hL.sq, c6]; done) | (simp only [c6]; simp [hA.not, hA.eq, hA.lt, hA.le, hA.cond, hA.beq, hA.orb, hL.len, hL.slen, hL.sq, c6]; done) | (simp [hA.not, hA.eq, hA.lt, hA.le, hA.cond, hA.beq, hA.orb, hL.len, hL.slen, hL.sq, c6]; omega) | (simp only [c6]; simp [hA.not, hA.eq, hA.lt, hA.le, hA.cond, hA.beq, hA.orb, hL.len, hL.slen, hL.sq, c6]; omega)) ?_
    cbv
    refine hcall _ _ _ _ _ (CallEv.same hrv rfl ?_)
    rintro _ _ ⟨b, hb, rfl, rfl⟩
    rw [← hb] at hR
    cbv
    cases b with
    | true =>
      rw [if_pos rfl] at hR
      cbv
      exact hret _ (RetEv.ret eOk rfl ⟨5, hR.symm, rfl⟩)
    | false =>
      rw [if_neg (by decide)] at hR
      cbv
      refine hcall _ _ _ _ _ (CallEv.same hal rfl ?_)
      rintro _ _ ⟨e, he, rfl, rfl⟩
      cbv
      exact hret _ (RetEv.ret eOk rfl ⟨e, he.trans hR.symm, rfl⟩)
end Go.Proofs.Ytocmeaamaecgeaa
