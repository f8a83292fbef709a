/- LPa3, LPa4, LPa5 together. Conditions: on sizes. -/
import Derived.Test.YtegkojnngdlfaaaGreatLPam
set_option maxRecDepth 100000
set_option maxHeartbeats 16000000
set_option linter.unusedSimpArgs false
set_option linter.unusedVariables false
section
namespace Go.Proofs.YtegkojnngdlfaaaGreat
open Go Go.Lx
open Go.Sx (vcIf)
/-! ### The last change that meets a key -/
theorem lk_at {k : List UInt8} : ∀ {ps : List Pr} {i : Nat} {p : Pr}, (∀ (j : Nat) (q : Pr), j < i → ps[j]? = some q → q.key ≠ k) → ps[i]? = some p → p.key = k → lk ps k = some p.val
  | a :: r, i, p, h1, h2, h3 => by
    cases i with
    | zero => simp at h2; subst h2; simp [lk, h3]
    | succ i =>
      have h4 := h1 0 a (by omega) rfl
      have := lk_at (ps := r) (i := i) (p := p) (fun j q hj hq => h1 (j + 1) q (by omega) (by simpa using hq)) (by simpa using h2) h3
      simp [lk, h4, this]
end Go.Proofs.YtegkojnngdlfaaaGreat
end
section
namespace Go.Proofs.YtegkojnngdlfaaaGreat
open Go Go.Lx
open Go.Sx (vcIf)
theorem soundP_spec (ps : List Pr) (hn : ps.length < 281474976710656) (hb : ∀ p ∈ ps, p.fit) (zs : List PV) (hzs : zs = prP ps) :
    FnL Tryz.prog 80 [.p (.sl zs)] [] fun v own => v = .p (.bool (sndP ps)) ∧ own = [] := by
  obtain ⟨R, hR⟩ : ∃ R, R = sndP ps := ⟨_, rfl⟩
  rw [← hR]
  refine FnL.flat (R := fun v own => v = .p (.bool R)) ?_ (by rintro _ _ rfl; exact ⟨_, _, rfl, .refl _, rfl, rfl⟩)
  obtain ⟨N, hN⟩ : ∃ n, n = ps.length := ⟨_, rfl⟩
  have hzl : zs.length = N := by rw [hzs, prP_length, hN]
  refine fn_of_vc eOk fOk fo80 Tryz.func80 rfl rfl rfl fun B hB => ?_
  intro add sub _ _ _ _ _ _ _ _ _ _ _ _ _ _ _ _ orb _ _ _ _ _ _ sq sl _ _ _ _ len slen _ hL _ _ _ _ _ hcode ret hret
  have hlen : len zs = Int.ofNat N := by rw [hL.len, hzl]; rfl
  cbv
  refine hcode _ _ _ (CodeEv.loop eOk fOk (ι := Nat) (fun s => [(0, .p (.sl zs)), (5, .p (.sl zs)), (6, .p (.int .i64 (Int.ofNat N))), (7, .p (.int .i64 (Int.ofNat s)))])
    (fun s => []) (fun s => s ≤ N ∧ ∀ q, q < s → gP ps q = true) (fun s => N - s) 0 ?_ ?_)
  · refine ⟨⟨rfl, rfl, ?_, rfl, trivial⟩, rfl, Nat.zero_le _, fun q h => absurd h (Nat.not_lt_zero q)⟩
    show some (V.p (.int .i64 (len zs))) = _
    rw [hlen]
  rintro i ⟨k1, k2⟩ rd hrd
  by_cases hi : i < N
  · refine Exists.elim (get_of_lt (show i < ps.length by omega)) fun p hpi => ?_
    have hbl := hb p (List.mem_of_getElem? hpi)
    have bad := fun h => hR.trans (sndP_bad hpi h)
    have good := (gP_some hpi).2
    have hzi : zs[i]? = some (.agg [.str p.key, .str p.val]) := by rw [hzs]; exact prP_get hpi
    obtain ⟨ky, vl⟩ := p
    simp only at hzi bad good
    refine Exists.elim (show ∃ n, n = ky.length from ⟨_, rfl⟩) fun n hnn => ?_
    refine Exists.elim (show ∃ n, n = vl.length from ⟨_, rfl⟩) fun m hmm => ?_
    rw [← hnn, ← hmm] at bad good
    intro add1 _ _ _ _ _ _ _ _ _ _ _ _ _ _ _ _ _ _ _ _ _ _ hA1 _ _ _ _ _ _ _ _ _ _ hL1 _ _ _ _ _ hcode1
    have hadd1 : add1 .i64 (Int.ofNat i) 1 = Int.ofNat (i + 1) := by rw [hA1.add, IntWalk.i64_in _ (by simp only [Int.ofNat_eq_natCast]; omega)]; rfl
    cbv
    refine vcIf.yes (by first | (simp [smW hA1 hL1, hi]; done) | (simp only [hi]; simp [smW hA1 hL1, hi]; done) | (simp [smW hA1 hL1, hi]; omega) | (simp only [hi]; simp [smW hA1 hL1, hi]; omega)) ?_
    cbv
    refine ⟨i, _, rfl, hzi, rfl, ?_⟩
    cbv
    refine hcode1 _ _ _ (CodeEv.drawT eOk fOk (by kernel_rfl) noX (.so 0 (.so 1 (.so 2 (.so 3 (.so 4 (.so 5 (.so 6 (.so 7 (.so 8 (.so 9 (.so 10 (.so 11 (.so 12 (.so 13 (.rd 14 (.rd 15 (.rd 16 (.so 17 (.so 18 (.so 19 (.so 20 (.so 21 (.so 22 (.so 23 (.so 24 (.done)))))))))))))))))))))))))) (by kernel_rfl) (by kernel_rfl) ?_)
    intro _ sub2 _ _ _ _ _ _ _ _ _ _ _ _ _ _ _ _ orb2 _ _ _ _ hA2 _ sq2 sl2 _ _ _ _ _ slen2 _ hL2 _ _ _ _ _ _ _ hq2
    have e1 : slen2 ky = Int.ofNat n := by rw [hL2.slen, hnn]; rfl
    have e2 : slen2 vl = Int.ofNat m := by rw [hL2.slen, hmm]; rfl
    cbv
    by_cases h0 : 16 < n
    · have hf := bad (by omega)
      refine vcIf.yes (by first | (simp [smW hA2 hL2, e1, h0]; done) | (simp only [e1, h0]; simp [smW hA2 hL2, e1, h0]; done) | (simp [smW hA2 hL2, e1, h0]; omega) | (simp only [e1, h0]; simp [smW hA2 hL2, e1, h0]; omega)) ?_
      cbv
      refine hq2 _ ?_
      cbv
      exact hret _ (RetEv.ret eOk rfl (by rw [hf]; rfl))
    refine vcIf.no (by first | (simp [smW hA2 hL2, e1, h0]; done) | (simp only [e1, h0]; simp [smW hA2 hL2, e1, h0]; done) | (simp [smW hA2 hL2, e1, h0]; omega) | (simp only [e1, h0]; simp [smW hA2 hL2, e1, h0]; omega)) ?_
    cbv
    by_cases h16 : 64 < m
    · have hf := bad (by omega)
      refine vcIf.yes (by first | (simp [smW hA2 hL2, e2, h16]; done) | (simp only [e2, h16]; simp [smW hA2 hL2, e2, h16]; done) | (simp [smW hA2 hL2, e2, h16]; omega) | (simp only [e2, h16]; simp [smW hA2 hL2, e2, h16]; omega)) ?_
      cbv
      refine hq2 _ ?_
      cbv
      exact hret _ (RetEv.ret eOk rfl (by rw [hf]; rfl))
    refine vcIf.no (by first | (simp [smW hA2 hL2, e2, h16]; done) | (simp only [e2, h16]; simp [smW hA2 hL2, e2, h16]; done) | (simp [smW hA2 hL2, e2, h16]; omega) | (simp only [e2, h16]; simp [smW hA2 hL2, e2, h16]; omega)) ?_
    cbv
    by_cases hi0 : 0 < i
    · refine Exists.elim (get_of_lt (show i - 1 < ps.length by omega)) fun a hai => ?_
      have hza : zs[i - 1]? = some (.agg [.str a.key, .str a.val]) := by rw [hzs]; exact prP_get hai
      have hga : ps.getD (i - 1) ⟨[], []⟩ = a := by rw [List.getD_eq_getElem?_getD, hai]; rfl
      rw [hga] at bad good
      obtain ⟨ak, av⟩ := a
      simp only at hza bad good
      refine Exists.elim (show ∃ j, j = i - 1 from ⟨_, rfl⟩) fun j hj => ?_
      rw [← hj] at hza
      have hsub : sub2 .i64 (Int.ofNat i) 1 = Int.ofNat j := by rw [hA2.sub, IntWalk.i64_in _ (by simp only [Int.ofNat_eq_natCast]; omega), hj]; simp only [Int.ofNat_eq_natCast]; omega
      have hle : orb2 (sl2 ky ak) (sq2 ky ak) = !(bl ak ky) := by rw [hA2.orb, hL2.sl, hL2.sq, ← bl_gt ky ak]; simp
      refine vcIf.yes (by first | (simp [smW hA2 hL2, hi0]; done) | (simp only [hi0]; simp [smW hA2 hL2, hi0]; done) | (simp [smW hA2 hL2, hi0]; omega) | (simp only [hi0]; simp [smW hA2 hL2, hi0]; omega)) ?_
      cbv
      refine ⟨j, _, hsub, hza, rfl, ?_⟩
      cbv
      refine hq2 _ ?_
      cbv
      by_cases hab : bl ak ky = true
      · have hgood := good ⟨by omega, by omega, .inr hab⟩
        refine vcIf.no (by rw [hle, show Op.bytesLess ak ky = true from hab]; simp [hA2.cond, cond]) ?_
        cbv
        refine hrd _ ⟨i + 1, _, ?_, ⟨hi, ?_⟩, rfl, ⟨rfl, rfl, rfl, ?_, trivial⟩, rfl, rfl, rfl, ?_⟩
        · show N - (i + 1) < N - i
          omega
        · intro q hq
          rcases Nat.lt_succ_iff_lt_or_eq.1 hq with c | c
          · exact k2 q c
          · rw [c]; exact hgood
        · show some (V.p (.int .i64 _)) = _
          rw [hadd1]
        · rw [hB]; exact Nat.le_refl _
      · have hf := bad (fun c => by rcases c.2.2 with c | c; omega; exact hab c)
        refine vcIf.yes (by rw [hle, show Op.bytesLess ak ky = false from Bool.eq_false_iff.2 hab]; simp [hA2.cond, cond]) ?_
        cbv
        exact hret _ (RetEv.ret eOk rfl (by rw [hf]; rfl))
    · have hgood := good ⟨by omega, by omega, .inl (by omega)⟩
      refine vcIf.no (by first | (simp [smW hA2 hL2, hi0]; done) | (simp only [hi0]; simp [smW hA2 hL2, hi0]; done) | (simp [smW hA2 hL2, hi0]; omega) | (simp only [hi0]; simp [smW hA2 hL2, hi0]; omega)) ?_
      cbv
      refine hq2 _ ?_
      cbv
      refine vcIf.no (by first | (simp [smW hA2 hL2]; done) | (simp [smW hA2 hL2]; omega)) ?_
      cbv
      refine hrd _ ⟨i + 1, _, ?_, ⟨hi, ?_⟩, rfl, ⟨rfl, rfl, rfl, ?_, trivial⟩, rfl, rfl, rfl, ?_⟩
      · show N - (i + 1) < N - i
        omega
      · intro q hq
        rcases Nat.lt_succ_iff_lt_or_eq.1 hq with c | c
        · exact k2 q c
        · rw [c]; exact hgood
      · show some (V.p (.int .i64 _)) = _
        rw [hadd1]
      · rw [hB]; exact Nat.le_refl _
  · have hin : i = N := by omega
    have hR2 : R = true := by
      rw [hR, sndP, ← hN]
      exact decide_eq_true fun q hq => k2 q (by omega)
    intro add1 _ _ _ _ _ _ _ _ _ _ _ _ _ _ _ _ _ _ _ _ _ _ hA1 _ _ _ _ _ _ _ _ _ _ hL1 _ _ _ _ _ hcode1
    cbv
    refine vcIf.no (by first | (simp [smW hA1 hL1, hi]; done) | (simp only [hi]; simp [smW hA1 hL1, hi]; done) | (simp [smW hA1 hL1, hi]; omega) | (simp only [hi]; simp [smW hA1 hL1, hi]; omega)) ?_
    cbv
    exact hret _ (RetEv.ret eOk rfl (by rw [hR2]; rfl))
end Go.Proofs.YtegkojnngdlfaaaGreat
end
section
namespace Go.Proofs.YtegkojnngdlfaaaGreat
open Go Go.Lx
open Go.Sx (vcIf)
def adE (l v : Int) (ch : List Chg) : Nat := if v ≤ l then 9 else chks ch
end Go.Proofs.YtegkojnngdlfaaaGreat
end
