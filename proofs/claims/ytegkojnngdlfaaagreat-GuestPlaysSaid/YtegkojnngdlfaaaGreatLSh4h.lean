/- LSh4 together. Conditions: on sizes. -/
import Derived.Test.YtegkojnngdlfaaaGreatLSqm
import Derived.Test.YtegkojnngdlfaaaGreatLRepH
set_option maxRecDepth 100000
set_option maxHeartbeats 8000000
set_option linter.unusedSimpArgs false
set_option linter.unusedVariables false
section
namespace Go.Proofs.YtegkojnngdlfaaaGreat
open Go Go.Lx
open Go.Sx (vcIf)
def pcLo (bs : BL) (n : Nat) : List UInt8 := if 0 < n then bs.getD (n - 1) [] else []
def pcHi (bs : BL) (n : Nat) : List UInt8 := if n < bs.length then bs.getD n [] else List.replicate 17 255
theorem getD_at {bs : BL} {i : Nat} (h : i < bs.length) : bs[i]? = some (bs.getD i []) := by rw [List.getD_eq_getElem?_getD, List.getElem?_eq_getElem h]; rfl
theorem piece_spec (bs : BL) (hn : bs.length < 281474976710656) (n : Nat) (hnb : n ≤ bs.length) (zs : List PV) (hzs : zs = bsP bs) :
    FnL Tryz.prog 45 [.p (.sl zs), .p (.int .i64 (Int.ofNat n))] [] fun v own => v = .p (.agg [.str (pcLo bs n), .str (pcHi bs n)]) ∧ own = [] := by
  obtain ⟨lo, hlo⟩ : ∃ x, x = pcLo bs n := ⟨_, rfl⟩
  obtain ⟨hi, hhi⟩ : ∃ x, x = pcHi bs n := ⟨_, rfl⟩
  obtain ⟨T, hT⟩ : ∃ x : List UInt8, x = List.replicate 17 255 := ⟨_, rfl⟩
  rw [← hlo, ← hhi]
  obtain ⟨N, hN⟩ : ∃ n, n = bs.length := ⟨_, rfl⟩
  have hzl : zs.length = N := by rw [hzs, sP_length, hN]
  have hnN : n ≤ N := by omega
  have hlo0 : ¬ 0 < n → lo = [] := fun h => by rw [hlo, pcLo, if_neg h]
  have hlo1 : 0 < n → zs[n - 1]? = some (.str lo) := fun h => by rw [hzs, hlo, pcLo, if_pos h]; exact sP_get (getD_at (by omega))
  have hhi0 : ¬ n < N → hi = T := fun h => by rw [hhi, pcHi, if_neg (by omega), hT]
  have hhi1 : n < N → zs[n]? = some (.str hi) := fun h => by rw [hzs, hhi, pcHi, if_pos (by omega)]; exact sP_get (getD_at (by omega))
  refine FnL.flat (R := fun v own => v = .p (.agg [.str lo, .str hi])) ?_ (by rintro _ _ rfl; exact ⟨_, _, rfl, .refl _, rfl, rfl⟩)
  have hrep := repeat17_spec
  rw [← hT] at hrep
  refine fn_of_vc eOk fOk fo45 Tryz.func45 rfl rfl rfl fun B hB => ?_
  intro _ sub _ _ _ _ _ _ _ _ _ _ _ _ _ _ _ _ _ _ _ _ _ hA _ _ sl _ _ _ _ len _ _ hL _ _ _ hcall _ _ ret hret
  have hlen : len zs = Int.ofNat N := by rw [hL.len, hzl]; rfl
  cbv
  refine hcall _ _ _ _ _ (CallEv.same hrep rfl ?_)
  rintro _ _ ⟨rfl, rfl⟩
  cbv
  by_cases hn1 : 0 < n
  · have hlo1 := hlo1 hn1
    obtain ⟨m, hm⟩ : ∃ m, m = n - 1 := ⟨_, rfl⟩
    rw [← hm] at hlo1
    have hsub : sub .i64 (Int.ofNat n) 1 = Int.ofNat m := by rw [hA.sub, IntWalk.i64_in _ (by simp only [Int.ofNat_eq_natCast]; omega), hm]; simp only [Int.ofNat_eq_natCast]; omega
    refine vcIf.yes (by first | (simp [smW hA hL, hn1]; done) | (simp only [hn1]; simp [smW hA hL, hn1]; done) | (simp [smW hA hL, hn1]; omega) | (simp only [hn1]; simp [smW hA hL, hn1]; omega)) ?_
    cbv
    refine ⟨m, _, hsub, hlo1, rfl, ?_⟩
    cbv
    by_cases hn2 : n < N
    · have hhi1 := hhi1 hn2
      refine vcIf.yes (by first | (simp [smW hA hL, hlen, hn2]; done) | (simp only [hlen, hn2]; simp [smW hA hL, hlen, hn2]; done) | (simp [smW hA hL, hlen, hn2]; omega) | (simp only [hlen, hn2]; simp [smW hA hL, hlen, hn2]; omega)) ?_
      cbv
      refine ⟨n, _, rfl, hhi1, rfl, ?_⟩
      cbv
      exact hret _ (RetEv.ret eOk rfl rfl)
    · have hhi0 := hhi0 hn2
      refine vcIf.no (by first | (simp [smW hA hL, hlen, hn2]; done) | (simp only [hlen, hn2]; simp [smW hA hL, hlen, hn2]; done) | (simp [smW hA hL, hlen, hn2]; omega) | (simp only [hlen, hn2]; simp [smW hA hL, hlen, hn2]; omega)) ?_
      cbv
      exact hret _ (RetEv.ret eOk rfl (by rw [hhi0]; rfl))
  · have hlo0 := hlo0 hn1
    refine vcIf.no (by first | (simp [smW hA hL, hn1]; done) | (simp only [hn1]; simp [smW hA hL, hn1]; done) | (simp [smW hA hL, hn1]; omega) | (simp only [hn1]; simp [smW hA hL, hn1]; omega)) ?_
    cbv
    by_cases hn2 : n < N
    · have hhi1 := hhi1 hn2
      refine vcIf.yes (by first | (simp [smW hA hL, hlen, hn2]; done) | (simp only [hlen, hn2]; simp [smW hA hL, hlen, hn2]; done) | (simp [smW hA hL, hlen, hn2]; omega) | (simp only [hlen, hn2]; simp [smW hA hL, hlen, hn2]; omega)) ?_
      cbv
      refine ⟨n, _, rfl, hhi1, rfl, ?_⟩
      cbv
      exact hret _ (RetEv.ret eOk rfl (by rw [hlo0]; rfl))
    · have hhi0 := hhi0 hn2
      refine vcIf.no (by first | (simp [smW hA hL, hlen, hn2]; done) | (simp only [hlen, hn2]; simp [smW hA hL, hlen, hn2]; done) | (simp [smW hA hL, hlen, hn2]; omega) | (simp only [hlen, hn2]; simp [smW hA hL, hlen, hn2]; omega)) ?_
      cbv
      exact hret _ (RetEv.ret eOk rfl (by rw [hlo0, hhi0]; rfl))
def pieceE (bs : BL) (n : Int) : Nat := if sndB bs = true then (if 0 ≤ n ∧ n ≤ (bs.length : Int) then 0 else 1) else 2
def pieceLo (bs : BL) (n : Int) : List UInt8 := if pieceE bs n = 0 then pcLo bs n.toNat else []
def pieceHi (bs : BL) (n : Int) : List UInt8 := if pieceE bs n = 0 then pcHi bs n.toNat else []
theorem pieceT_spec (bs : BL) (hn : bs.length < 281474976710656) (hb : ∀ b ∈ bs, b.length < 281474976710656) (n : Int) (zs : List PV) (hzs : zs = bsP bs) :
    FnL Tryz.prog 20 [.p (.sl zs), .p (.int .i64 n)] [] fun v own => v = .p (.tup [.agg [.str (pieceLo bs n), .str (pieceHi bs n)], .int .i64 (Int.ofNat (pieceE bs n))]) ∧ own = [] := by
  obtain ⟨lo, hlo⟩ : ∃ x, x = pieceLo bs n := ⟨_, rfl⟩
  obtain ⟨hi, hhi⟩ : ∃ x, x = pieceHi bs n := ⟨_, rfl⟩
  obtain ⟨e, he⟩ : ∃ x, x = pieceE bs n := ⟨_, rfl⟩
  have hlo0 : e ≠ 0 → lo = [] := fun h => by rw [hlo, pieceLo, if_neg (by rw [← he]; exact h)]
  have hhi0 : e ≠ 0 → hi = [] := fun h => by rw [hhi, pieceHi, if_neg (by rw [← he]; exact h)]
  have hlo1 : e = 0 → lo = pcLo bs n.toNat := fun h => by rw [hlo, pieceLo, if_pos (by rw [← he]; exact h)]
  have hhi1 : e = 0 → hi = pcHi bs n.toNat := fun h => by rw [hhi, pieceHi, if_pos (by rw [← he]; exact h)]
  rw [← hlo, ← hhi, ← he]
  refine FnL.flat (R := fun v own => v = .p (.tup [.agg [.str lo, .str hi], .int .i64 (Int.ofNat e)])) ?_ (by rintro _ _ rfl; exact ⟨_, _, rfl, .refl _, rfl, rfl⟩)
  have hsd := sound_spec bs hn hb zs hzs
  have h8 : 8 ≤ bs.length → sndB bs = false := fun h => decide_eq_false fun c => by omega
  have h9 : sndB bs = true → bs.length < 8 := fun h => (of_decide_eq_true h).1
  obtain ⟨N, hN⟩ : ∃ n, n = bs.length := ⟨_, rfl⟩
  have hzl : zs.length = N := by rw [hzs, sP_length, hN]
  have hpc := fun (h : n.toNat ≤ bs.length) => piece_spec bs hn n.toNat h zs hzs
  obtain ⟨S, hS⟩ : ∃ S, S = sndB bs := ⟨_, rfl⟩
  have he2 : S = false → e = 2 := fun h => by rw [he, pieceE, ← hS, h]; rfl
  have he1 : S = true → ¬ (0 ≤ n ∧ n ≤ (N : Int)) → e = 1 := fun h h' => by rw [he, pieceE, ← hS, h, if_pos rfl, if_neg (by rw [← hN]; exact h')]
  have he0 : S = true → 0 ≤ n ∧ n ≤ (N : Int) → e = 0 := fun h h' => by rw [he, pieceE, ← hS, h, if_pos rfl, if_pos (by rw [← hN]; exact h')]
  rw [← hS] at hsd h8 h9
  rw [← hN] at h8 h9 hpc
  have g1 : S = true → n < 0 → e = 1 := fun h h' => he1 h (by omega)
  have g2 : S = true → Int.ofNat N < n → e = 1 := fun h h' => he1 h (by simp only [Int.ofNat_eq_natCast] at h'; omega)
  have g3 : S = true → ¬ n < 0 → ¬ Int.ofNat N < n → e = 0 ∧ n.toNat ≤ N ∧ Int.ofNat n.toNat = n := fun h h1 h2 => by
    simp only [Int.ofNat_eq_natCast] at h2
    exact ⟨he0 h (by omega), by omega, Int.toNat_of_nonneg (by omega)⟩
  clear he1 he0
  refine fn_of_vc eOk fOk fo20 Tryz.func20 rfl rfl rfl fun B hB => ?_
  intro _ _ _ _ _ _ _ _ _ _ _ _ _ _ _ _ _ _ _ _ _ _ _ hA _ _ sl _ _ _ _ len _ _ hL _ _ _ hcall _ _ ret hret
  have hlen : len zs = Int.ofNat N := by rw [hL.len, hzl]; rfl
  cbv
  by_cases hN8 : 8 ≤ N
  · have hf := he2 (h8 hN8)
    refine vcIf.yes (by first | (simp [smW hA hL, hlen, hN8]; done) | (simp only [hlen, hN8]; simp [smW hA hL, hlen, hN8]; done) | (simp [smW hA hL, hlen, hN8]; omega) | (simp only [hlen, hN8]; simp [smW hA hL, hlen, hN8]; omega)) ?_
    cbv
    exact hret _ (RetEv.ret eOk rfl (by rw [hf, hlo0 (by rw [hf]; decide), hhi0 (by rw [hf]; decide)]; rfl))
  refine vcIf.no (by first | (simp [smW hA hL, hlen, hN8]; done) | (simp only [hlen, hN8]; simp [smW hA hL, hlen, hN8]; done) | (simp [smW hA hL, hlen, hN8]; omega) | (simp only [hlen, hN8]; simp [smW hA hL, hlen, hN8]; omega)) ?_
  cbv
  refine hcall _ _ _ _ _ (CallEv.same hsd rfl ?_)
  rintro _ _ ⟨rfl, rfl⟩
  cbv
  by_cases hSS : S = true
  · refine vcIf.no (by first | (simp [smW hA hL, hSS]; done) | (simp only [hSS]; simp [smW hA hL, hSS]; done) | (simp [smW hA hL, hSS]; omega) | (simp only [hSS]; simp [smW hA hL, hSS]; omega)) ?_
    cbv
    by_cases hn0 : n < 0
    · have hf := g1 hSS hn0
      refine vcIf.yes (by first | (simp [smW hA hL, hn0]; done) | (simp only [hn0]; simp [smW hA hL, hn0]; done) | (simp [smW hA hL, hn0]; omega) | (simp only [hn0]; simp [smW hA hL, hn0]; omega)) ?_
      cbv
      exact hret _ (RetEv.ret eOk rfl (by rw [hf, hlo0 (by rw [hf]; decide), hhi0 (by rw [hf]; decide)]; rfl))
    refine vcIf.no (by first | (simp [smW hA hL, hn0]; done) | (simp only [hn0]; simp [smW hA hL, hn0]; done) | (simp [smW hA hL, hn0]; omega) | (simp only [hn0]; simp [smW hA hL, hn0]; omega)) ?_
    cbv
    by_cases hnN : Int.ofNat N < n
    · have hf := g2 hSS hnN
      refine vcIf.yes (by first | (simp [smW hA hL, hlen, hnN]; done) | (simp only [hlen, hnN]; simp [smW hA hL, hlen, hnN]; done) | (simp [smW hA hL, hlen, hnN]; omega) | (simp only [hlen, hnN]; simp [smW hA hL, hlen, hnN]; omega)) ?_
      cbv
      exact hret _ (RetEv.ret eOk rfl (by rw [hf, hlo0 (by rw [hf]; decide), hhi0 (by rw [hf]; decide)]; rfl))
    obtain ⟨hf, hf2, hf3⟩ := g3 hSS hn0 hnN
    have hpc := hpc hf2
    rw [← hlo1 hf, ← hhi1 hf, hf3] at hpc
    refine vcIf.no (by first | (simp [smW hA hL, hlen, hnN]; done) | (simp only [hlen, hnN]; simp [smW hA hL, hlen, hnN]; done) | (simp [smW hA hL, hlen, hnN]; omega) | (simp only [hlen, hnN]; simp [smW hA hL, hlen, hnN]; omega)) ?_
    cbv
    refine hcall _ _ _ _ _ (CallEv.same hpc rfl ?_)
    rintro _ _ ⟨rfl, rfl⟩
    cbv
    exact hret _ (RetEv.ret eOk rfl (by rw [hf]; rfl))
  · have hf := he2 (Bool.eq_false_iff.2 hSS)
    have hSS := Bool.eq_false_iff.2 hSS
    refine vcIf.yes (by first | (simp [smW hA hL, hSS]; done) | (simp only [hSS]; simp [smW hA hL, hSS]; done) | (simp [smW hA hL, hSS]; omega) | (simp only [hSS]; simp [smW hA hL, hSS]; omega)) ?_
    cbv
    exact hret _ (RetEv.ret eOk rfl (by rw [hf, hlo0 (by rw [hf]; decide), hhi0 (by rw [hf]; decide)]; rfl))
end Go.Proofs.YtegkojnngdlfaaaGreat
end
