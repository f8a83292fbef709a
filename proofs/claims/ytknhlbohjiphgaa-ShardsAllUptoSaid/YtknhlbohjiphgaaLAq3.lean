/- The walk of ShardsAll. Conditions: on sizes. -/
import Derived.Test.YtknhlbohjiphgaaLAq2
set_option maxRecDepth 100000
set_option maxHeartbeats 16000000
set_option linter.unusedSimpArgs false
set_option linter.unusedVariables false
namespace Go.Proofs.Ytknhlbohjiphgaa
open Go Go.Lx
open Go.Sx (vcIf)

theorem chk_fit {c : Chg} (h : chk c = 0) : c.fit := by
  unfold chk at h
  unfold Chg.fit
  by_cases h3 : c.kind = 3
  · rw [if_pos h3] at h
    split at h
    · cases h
    · omega
  · rw [if_neg h3] at h
    by_cases h2 : c.kind = 2
    · rw [if_pos h2] at h
      split at h
      · cases h
      · omega
    · rw [if_neg h2] at h
      by_cases h1 : c.kind = 1
      · rw [if_pos h1] at h
        split at h
        · cases h
        · omega
      · rw [if_neg h1] at h; cases h
theorem stg_len (bs : BL) (l : List Chg) (ps : List Pr) : ∀ (n m : Nat), (stg bs l ps m n).length ≤ ps.length + n * l.length
  | 0, m => by simp [stg]
  | n + 1, m => by
    have h1 := stg_len bs l ps n (m + 1)
    have h2 := app_len (cutL (pc bs m) l) (stg bs l ps (m + 1) n)
    have h3 := cutL_len (pc bs m) l
    rw [stg, Nat.succ_mul]; omega

theorem shardsAll (bs : BL) (hn : bs.length < 281474976710656) (hb : ∀ b ∈ bs, b.length < 281474976710656) (ps : List Pr) (hp : ∀ p ∈ ps, p.fit) (l : List Chg) (hf : ∀ c ∈ l, c.fit) (hsz : (ps.length + 9 * l.length) * 40 + 40 ≤ 140737488355328) :
    FnL Try.prog 7 [.p (.sl (sP bs)), .p (.sl (prP ps)), .p (.sl (cP l))] [] fun z own => z = .p (.bool true) := by
  obtain ⟨zs, hzs⟩ : ∃ x, x = sP bs := ⟨_, rfl⟩
  obtain ⟨us0, hus0⟩ : ∃ x, x = prP ps := ⟨_, rfl⟩
  obtain ⟨ys, hys⟩ : ∃ x, x = cP l := ⟨_, rfl⟩
  rw [← hzs, ← hus0, ← hys]
  have h1 := spread_spec bs hn hb zs hzs l hf (by omega) ys hys
  have h2 := rsndP_spec ps (by omega) hp us0 hus0
  have h3 := rApply_spec ps hp l hf (by omega) us0 ys hus0 hys
  obtain ⟨N, hN⟩ : ∃ n, n = bs.length := ⟨_, rfl⟩
  obtain ⟨e, he⟩ : ∃ x, x = spE bs l := ⟨_, rfl⟩
  obtain ⟨S, hS⟩ : ∃ x, x = sndP ps := ⟨_, rfl⟩
  have hsnd : e = 0 → sndB bs = true ∧ chks l = 0 := fun h => by
    rw [he] at h; unfold spE at h; split at h
    · rename_i c; exact ⟨c, h⟩
    · cases h
  have hR : e = 0 → spR bs l = spL bs l (N + 1) := fun h => by rw [spR, if_pos (by rw [← he]; exact h), hN]
  rw [← he] at h1
  rw [← hS] at h2
  obtain ⟨rs, hrs⟩ : ∃ x, x = ccP (spR bs l) := ⟨_, rfl⟩
  rw [← hrs] at h1
  obtain ⟨z, hz⟩ : ∃ z : Nat → Int, ∀ n, z n = (n : Int) - 1 := ⟨_, fun _ => rfl⟩
  have hz1 : ∀ j, z (j + 1) = Int.ofNat j := fun j => by rw [hz]; simp only [Int.ofNat_eq_natCast]; omega
  have hz2 : ∀ j, 0 ≤ z (j + 1) := fun j => by rw [hz]; omega
  have hz3 : ¬ 0 ≤ z 0 := by rw [hz]; omega
  have hz4 : ∀ j, j < 9223372036854775807 → IntKind.i64.wrap (Int.ofNat j - 1) = z j := fun j h => by rw [IntWalk.i64_in _ (by simp only [Int.ofNat_eq_natCast]; omega), hz]; rfl
  have hz5 : ∀ n : Nat, n < 9223372036854775807 → IntKind.i64.wrap ((n : Int) - 1) = z n := fun j h => by rw [IntWalk.i64_in _ (by omega), hz]
  clear hz
  refine fn_of_vc eOk fOk fo7 Try.func7 rfl rfl rfl fun B hB => ?_
  intro add sub mul quo rem band bor bxor bclr shl shr ieq ilt ile seq slt beq bnot orb bcond iwrap iof ssz hA cat sq sl imin imax smin smax len slen u8 hL op hop call hcall code hcode ret hret
  cbv
  refine hcall _ _ _ _ _ (CallEv.same h1 rfl ?_)
  rintro _ _ ⟨rfl, rfl⟩
  cbv
  refine hcall _ _ _ _ _ (CallEv.same awake12_spec rfl ?_)
  rintro _ _ ⟨rfl, rfl⟩
  cbv
  repeat (first | (refine vcIf.yes ?_ ?_; (focus (simp [hA.not, hA.eq, hA.lt, hA.le, hA.cond, hA.beq, hA.orb, hL.len, hL.slen, hL.sq]; done)); cbv) | (refine vcIf.no ?_ ?_; (focus (simp [hA.not, hA.eq, hA.lt, hA.le, hA.cond, hA.beq, hA.orb, hL.len, hL.slen, hL.sq]; done)); cbv) | fail)
  by_cases he0 : e = 0
  · refine vcIf.no (by first | (simp [hA.not, hA.eq, hA.lt, hA.le, hA.cond, hA.beq, hA.orb, hL.len, hL.slen, hL.sq, he0]; done) | (simp only [he0]; simp [hA.not, hA.eq, hA.lt, hA.le, hA.cond, hA.beq, hA.orb, hL.len, hL.slen, hL.sq, he0]; done) | (simp [hA.not, hA.eq, hA.lt, hA.le, hA.cond, hA.beq, hA.orb, hL.len, hL.slen, hL.sq, he0]; omega) | (simp only [he0]; simp [hA.not, hA.eq, hA.lt, hA.le, hA.cond, hA.beq, hA.orb, hL.len, hL.slen, hL.sq, he0]; omega)) ?_
    cbv
    refine hcall _ _ _ _ _ (CallEv.same h2 rfl ?_)
    rintro _ _ ⟨rfl, rfl⟩
    cbv
    by_cases hSS : S = true
    · have hspt : sndP ps = true := hS.symm.trans hSS
      obtain ⟨hsb, hch⟩ := hsnd he0
      have hR := hR he0
      have hN8 : N < 8 := by rw [hN]; exact (of_decide_eq_true hsb).1
      have hrl : rs.length = N + 1 := by rw [hrs, ccP, List.length_map, hR, spL_length]
      have hae : appE ps l = 0 := by rw [appE, if_pos hch, if_pos hspt]
      rw [hae, appR, if_pos hae] at h3
      obtain ⟨W, hW⟩ : ∃ x, x = prP (app ps l) := ⟨_, rfl⟩
      rw [← hW] at h3
      have hlz : sub .i64 (len rs) 1 = z (N + 1) := by
        rw [hL.len, hrl, hA.sub]; exact hz5 (N + 1) (by omega)
      have hpairs := fun us (h : us = prP (app ps l)) => rPairs_spec (app ps l) (app ps l) (by have := app_len l ps; omega) (by have := app_len l ps; omega) true (by simp) us W h hW
      refine vcIf.no (by first | (simp [hA.not, hA.eq, hA.lt, hA.le, hA.cond, hA.beq, hA.orb, hL.len, hL.slen, hL.sq, hSS]; done) | (simp only [hSS]; simp [hA.not, hA.eq, hA.lt, hA.le, hA.cond, hA.beq, hA.orb, hL.len, hL.slen, hL.sq, hSS]; done) | (simp [hA.not, hA.eq, hA.lt, hA.le, hA.cond, hA.beq, hA.orb, hL.len, hL.slen, hL.sq, hSS]; omega) | (simp only [hSS]; simp [hA.not, hA.eq, hA.lt, hA.le, hA.cond, hA.beq, hA.orb, hL.len, hL.slen, hL.sq, hSS]; omega)) ?_
      cbv
      refine hcall _ _ _ _ _ (CallEv.same h3 rfl ?_)
      rintro _ _ ⟨rfl, rfl⟩
      cbv
      rw [hlz]
      refine hcode _ _ _ (CodeEv.loop eOk fOk (ι := Nat × List PV) (fun q => [(1, .p (.sl q.2)), (7, .p (.sl rs)), (9, .p (.sl W)), (10, .p (.int .i64 0)), (11, .p (.int .i64 (z q.1)))])
        (fun q => []) (fun q => q.1 ≤ N + 1 ∧ q.2 = prP (stg bs l ps q.1 (N + 1 - q.1))) (fun q => q.1) (N + 1, us0) ?_ ?_)
      · exact ⟨(by repeat (first | exact trivial | refine And.intro rfl ?_)), rfl, Nat.le_refl _, by simp only; rw [Nat.sub_self]; exact hus0⟩
      rintro ⟨n, us⟩ ⟨k1, k2⟩ rd hrd
      simp only at k1 k2
      by_cases hn0 : 0 < n
      · refine Exists.elim (show ∃ j, j = n - 1 from ⟨_, rfl⟩) fun j hj => ?_
        have hnj : N + 1 - n = N - j := by omega
        have hjs : N + 1 - j = (N - j) + 1 := by omega
        have hst := stg_ok hsb hch hspt (N - j) (j + 1) (by omega)
        have hnj1 : n = j + 1 := by omega
        rw [hnj1, show N + 1 - (j + 1) = N - j by omega] at k2
        have hpl := pc_len hsb j (by omega)
        have hck := cutL_chks hpl.1 hpl.2 hch
        have hsl := stg_len bs l ps (N - j) (j + 1)
        have hcl := cutL_len (pc bs j) l
        have hmul : (N - j) * l.length ≤ 8 * l.length := Nat.mul_le_mul_right _ (by omega)
        have h4 := rApply_spec (stg bs l ps (j + 1) (N - j)) (fun p hp => by have := ((sndP_iff _).1 hst.1).2 p hp; unfold Pr.fit; omega) (cutL (pc bs j) l) (fun c hc => chk_fit (chks_mem hck c hc)) (by omega) us _ k2 rfl
        have hae : appE (stg bs l ps (j + 1) (N - j)) (cutL (pc bs j) l) = 0 := by rw [appE, if_pos hck, if_pos hst.1]
        rw [hae, appR, if_pos hae] at h4
        have hrj : rs[j]? = some (.sl (cP (cutL (pc bs j) l))) := by
          rw [hrs, hR]; exact ccP_get (by unfold spL; rw [List.getElem?_map, List.getElem?_range (show j < N + 1 by omega)]; rfl)
        refine Exists.elim (show ∃ x, x = cP (cutL (pc bs j) l) from ⟨_, rfl⟩) fun cs hcs => ?_
        refine Exists.elim (show ∃ x, x = prP (app (stg bs l ps (j + 1) (N - j)) (cutL (pc bs j) l)) from ⟨_, rfl⟩) fun ws hws => ?_
        rw [← hcs] at hrj h4
        rw [← hws] at h4
        have hzj : z n = Int.ofNat j := by rw [hnj1]; exact hz1 j
        have hz0 : 0 ≤ z n := by rw [hnj1]; exact hz2 j
        intro add1 sub1 mul1 quo1 rem1 band1 bor1 bxor1 bclr1 shl1 shr1 ieq1 ilt1 ile1 seq1 slt1 beq1 bnot1 orb1 bcond1 iwrap1 iof1 ssz1 hA1 cat1 sq1 sl1 imin1 imax1 smin1 smax1 len1 slen1 u81 hL1 op1 hop1 call1 hcall1 code1 hcode1
        have hsub : sub1 .i64 (z n) 1 = z j := by rw [hzj, hA1.sub]; exact hz4 j (by omega)
        cbv
        refine vcIf.yes (by first | (simp [hA1.not, hA1.eq, hA1.lt, hA1.le, hA1.cond, hA1.beq, hA1.orb, hL1.len, hL1.slen, hL1.sq, hz0]; done) | (simp only [hz0]; simp [hA1.not, hA1.eq, hA1.lt, hA1.le, hA1.cond, hA1.beq, hA1.orb, hL1.len, hL1.slen, hL1.sq, hz0]; done) | (simp [hA1.not, hA1.eq, hA1.lt, hA1.le, hA1.cond, hA1.beq, hA1.orb, hL1.len, hL1.slen, hL1.sq, hz0]; omega) | (simp only [hz0]; simp [hA1.not, hA1.eq, hA1.lt, hA1.le, hA1.cond, hA1.beq, hA1.orb, hL1.len, hL1.slen, hL1.sq, hz0]; omega)) ?_
        cbv
        refine ⟨j, _, hzj, hrj, rfl, ?_⟩
        cbv
        refine hcall1 _ _ _ _ _ (CallEv.same h4 rfl ?_)
        rintro _ _ ⟨rfl, rfl⟩
        cbv
        refine vcIf.no (by first | (simp [hA1.not, hA1.eq, hA1.lt, hA1.le, hA1.cond, hA1.beq, hA1.orb, hL1.len, hL1.slen, hL1.sq]; done) | (simp [hA1.not, hA1.eq, hA1.lt, hA1.le, hA1.cond, hA1.beq, hA1.orb, hL1.len, hL1.slen, hL1.sq]; omega)) ?_
        cbv
        refine hrd _ ⟨(j, ws), _, ?_, ⟨by simp only; omega, ?_⟩, rfl, ⟨rfl, rfl, rfl, rfl, ?_, trivial⟩, rfl, rfl, rfl, ?_⟩
        · simp only; omega
        · simp only; rw [hws, hjs]; rfl
        · show some (V.p (.int .i64 _)) = _
          rw [hsub]
        · rw [hB]; exact Nat.zero_le _
      · have hnz : n = 0 := by omega
        rw [hnz, Nat.sub_zero, hN, all_pieces hsb hch hspt] at k2
        have hpa := hpairs us k2
        have hz0 : ¬ 0 ≤ z n := by rw [hnz]; exact hz3
        intro add1 sub1 mul1 quo1 rem1 band1 bor1 bxor1 bclr1 shl1 shr1 ieq1 ilt1 ile1 seq1 slt1 beq1 bnot1 orb1 bcond1 iwrap1 iof1 ssz1 hA1 cat1 sq1 sl1 imin1 imax1 smin1 smax1 len1 slen1 u81 hL1 op1 hop1 call1 hcall1 code1 hcode1
        cbv
        refine vcIf.no (by first | (simp [hA1.not, hA1.eq, hA1.lt, hA1.le, hA1.cond, hA1.beq, hA1.orb, hL1.len, hL1.slen, hL1.sq, hz0]; done) | (simp only [hz0]; simp [hA1.not, hA1.eq, hA1.lt, hA1.le, hA1.cond, hA1.beq, hA1.orb, hL1.len, hL1.slen, hL1.sq, hz0]; done) | (simp [hA1.not, hA1.eq, hA1.lt, hA1.le, hA1.cond, hA1.beq, hA1.orb, hL1.len, hL1.slen, hL1.sq, hz0]; omega) | (simp only [hz0]; simp [hA1.not, hA1.eq, hA1.lt, hA1.le, hA1.cond, hA1.beq, hA1.orb, hL1.len, hL1.slen, hL1.sq, hz0]; omega)) ?_
        cbv
        repeat (first | (refine vcIf.yes ?_ ?_; (focus (simp [hA.not, hA.eq, hA.lt, hA.le, hA.cond, hA.beq, hA.orb, hL.len, hL.slen, hL.sq]; done)); cbv) | (refine vcIf.no ?_ ?_; (focus (simp [hA.not, hA.eq, hA.lt, hA.le, hA.cond, hA.beq, hA.orb, hL.len, hL.slen, hL.sq]; done)); cbv) | fail)
        refine hcall _ _ _ _ _ (CallEv.same hpa rfl ?_)
        rintro _ _ ⟨rfl, rfl⟩
        cbv
        exact hret _ (RetEv.ret eOk rfl (by simp [hA.not, hA.eq, hA.lt, hA.le, hA.cond, hA.beq, hA.orb, hL.len, hL.slen, hL.sq, oneOf]))
    · have hSf := Bool.eq_false_iff.2 hSS
      refine vcIf.yes (by first | (simp [hA.not, hA.eq, hA.lt, hA.le, hA.cond, hA.beq, hA.orb, hL.len, hL.slen, hL.sq, hSf]; done) | (simp only [hSf]; simp [hA.not, hA.eq, hA.lt, hA.le, hA.cond, hA.beq, hA.orb, hL.len, hL.slen, hL.sq, hSf]; done) | (simp [hA.not, hA.eq, hA.lt, hA.le, hA.cond, hA.beq, hA.orb, hL.len, hL.slen, hL.sq, hSf]; omega) | (simp only [hSf]; simp [hA.not, hA.eq, hA.lt, hA.le, hA.cond, hA.beq, hA.orb, hL.len, hL.slen, hL.sq, hSf]; omega)) ?_
      cbv
      refine hcall _ _ _ _ _ (CallEv.same awake12_spec rfl ?_)
      rintro _ _ ⟨rfl, rfl⟩
      cbv
      exact hret _ (RetEv.ret eOk rfl rfl)
  · refine vcIf.yes (by first | (simp [hA.not, hA.eq, hA.lt, hA.le, hA.cond, hA.beq, hA.orb, hL.len, hL.slen, hL.sq, he0]; done) | (simp only [he0]; simp [hA.not, hA.eq, hA.lt, hA.le, hA.cond, hA.beq, hA.orb, hL.len, hL.slen, hL.sq, he0]; done) | (simp [hA.not, hA.eq, hA.lt, hA.le, hA.cond, hA.beq, hA.orb, hL.len, hL.slen, hL.sq, he0]; omega) | (simp only [he0]; simp [hA.not, hA.eq, hA.lt, hA.le, hA.cond, hA.beq, hA.orb, hL.len, hL.slen, hL.sq, he0]; omega)) ?_
    cbv
    refine hcall _ _ _ _ _ (CallEv.same awake12_spec rfl ?_)
    rintro _ _ ⟨rfl, rfl⟩
    cbv
    exact hret _ (RetEv.ret eOk rfl rfl)
end Go.Proofs.Ytknhlbohjiphgaa
