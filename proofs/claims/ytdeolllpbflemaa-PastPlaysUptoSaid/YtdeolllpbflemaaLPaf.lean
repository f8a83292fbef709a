/- PastForgets. Conditions: on sizes. -/
import Derived.Test.YtdeolllpbflemaaLPas
set_option maxRecDepth 100000
set_option maxHeartbeats 32000000
set_option linter.unusedSimpArgs false
set_option linter.unusedVariables false
namespace Go.Proofs.Ytdeolllpbflemaa
open Go Go.Lx
open Go.Sx (vcIf)

theorem upto_more {v w : Int} (h : v ≤ w) : ∀ ls : List Lay, upto ls w = upto ls v + upto (ls.drop (upto ls v)) w
  | [] => rfl
  | l :: r => by
    by_cases hv : v < l.ver
    · have h0 : upto (l :: r) v = 0 := by unfold upto; rw [if_pos hv]
      rw [h0, List.drop_zero, Nat.zero_add]
    · have h0 : upto (l :: r) v = upto r v + 1 := by show (if v < l.ver then 0 else upto r v + 1) = _; rw [if_neg hv]
      have h1 : upto (l :: r) w = upto r w + 1 := by show (if w < l.ver then 0 else upto r w + 1) = _; rw [if_neg (by omega)]
      rw [h0, h1, List.drop_succ_cons, upto_more h r]; omega
theorem whole_more {v w : Int} (h : v ≤ w) (ps : List Pr) (ls : List Lay) : whole (whole ps ls v) (ls.drop (upto ls v)) w = whole ps ls w := by
  unfold whole lays
  rw [← List.foldl_append, upto_more h ls, ← List.take_add]
def vF (j : Nat) : Int := (j : Int) + 1
theorem layF_whole (L : List (List Chg)) {k n : Nat} (h : k ≤ n) : upto (layN L vF n) (Int.ofNat k) = k :=
  layN_upto L vF h (fun j hj => by unfold vF; simp only [Int.ofNat_eq_natCast]; omega) (fun _ => by unfold vF; simp only [Int.ofNat_eq_natCast]; omega)
theorem len_getD {L : List (List Chg)} {M : Nat} (hM : ∀ ch ∈ L, ch.length ≤ M) (j : Nat) : (L.getD j []).length ≤ M := by
  rw [List.getD_eq_getElem?_getD]
  cases h : L[j]? with
  | none => simp
  | some ch => exact hM ch (List.mem_of_getElem? h)
/-- What the list of a version shows, whatever has been forgotten. -/
def shF (L : List (List Chg)) (n w : Nat) (s : Spn) : List Pr := lst (whole [] (layN L vF n) (Int.ofNat w)) s 1000

/-- List of a Past that has forgotten what is below k. -/
theorem listF_spec (L : List (List Chg)) (n k : Nat) (hk : k ≤ n) (hM : ∀ ch ∈ L, ch.length ≤ 1677721) (hn : n ≤ 20) (hck : ∀ j, j < n → chks (L.getD j []) = 0) (w : Nat) (hw : w ≤ n) (lo hi : List UInt8) (us ys : List PV) (hus : us = prP (whole [] (layN L vF n) (Int.ofNat k))) (hys : ys = layP ((layN L vF n).drop (upto (layN L vF n) (Int.ofNat k)))) :
    FnL Try.prog 14 [psI (Int.ofNat k) (Int.ofNat k) (Int.ofNat n) us ys, .p (.agg [.str lo, .str hi]), .p (.int .i64 (Int.ofNat w)), .p (.int .i64 1000)] [] fun r own => ∃ (us : List PV) (m : Nat), us = prP (if w < k then [] else shF L n w ⟨lo, hi⟩) ∧ m = us.length ∧
      r = .tup [.vw 0 2 0 m none, .p (.int .i64 (Int.ofNat (if w < k then 7 else 0)))] ∧ own = [.arr 45 2 us] := by
  have hgM := len_getD hM
  have hs0 : Srt ([] : List Pr) := List.Pairwise.nil
  have hlM : ∀ l ∈ layN L vF n, l.ch.length ≤ 1677721 := fun l hl => by obtain ⟨j, _, rfl⟩ := layN_mem hl; exact hgM j
  have hlc : ∀ l ∈ layN L vF n, chks l.ch = 0 := fun l hl => by obtain ⟨j, hj, rfl⟩ := layN_mem hl; exact hck j hj
  have hup : upto (layN L vF n) (Int.ofNat k) = k := layF_whole L hk
  have hwl : (whole [] (layN L vF n) (Int.ofNat k)).length ≤ 0 + k * 1677721 := by
    unfold whole; rw [hup]; exact lays_take_len hs0 hlM (by rw [layN_length]; exact hk)
  have hdl : ((layN L vF n).drop (upto (layN L vF n) (Int.ofNat k))).length = n - k := by rw [List.length_drop, layN_length, hup]
  refine (listW_spec (Int.ofNat k) (Int.ofNat k) (Int.ofNat n) (Int.ofNat w) lo hi 1000 (whole [] (layN L vF n) (Int.ofNat k)) (lays_srt _ hs0) ((layN L vF n).drop (upto (layN L vF n) (Int.ofNat k))) 1677721 (fun l hl => hlM l (List.mem_of_mem_drop hl)) (fun l hl => hlc l (List.mem_of_mem_drop hl)) ?_ ?_ us hus ys hys).mono fun r own ⟨e, us, m, a1, a2, a3, a4, a5⟩ => ?_
  · rw [hdl]
    have h1 := Nat.mul_le_mul_right 1677721 (show k ≤ 20 by omega)
    have h2 := Nat.mul_le_mul_right 1677721 (show n - k ≤ 20 by omega)
    omega
  · rw [hdl]; omega
  · have hkn : knw (Int.ofNat k) (Int.ofNat n) (Int.ofNat w) = if w < k then 7 else 0 := by
      unfold knw
      by_cases h : w < k
      · rw [if_pos h, if_pos (by simp only [Int.ofNat_eq_natCast]; omega)]
      · rw [if_neg h, if_neg (by simp only [Int.ofNat_eq_natCast]; omega), if_neg (by simp only [Int.ofNat_eq_natCast]; omega)]
    unfold liE at a1
    unfold liP at a2
    rw [hkn] at a1 a2
    by_cases h : w < k
    · simp only [h, if_true] at a1 a2 ⊢
      subst a1
      exact ⟨us, m, a2, a3, a4, a5⟩
    · simp only [h, if_false] at a1 a2 ⊢
      rw [if_neg (by simp), if_neg (by decide)] at a1
      subst a1
      rw [if_pos (by simp), whole_more (by simp only [Int.ofNat_eq_natCast]; omega)] at a2
      exact ⟨us, m, a2, a3, a4, a5⟩
theorem listG_spec (L : List (List Chg)) (n : Nat) (hM : ∀ ch ∈ L, ch.length ≤ 1677721) (hn : n ≤ 20) (hck : ∀ j, j < n → chks (L.getD j []) = 0) (w : Nat) (hw : w ≤ n) (lo hi : List UInt8) (ys : List PV) (hys : ys = layP (layN L vF n)) :
    FnL Try.prog 14 [psI 0 0 (Int.ofNat n) [] ys, .p (.agg [.str lo, .str hi]), .p (.int .i64 (Int.ofNat w)), .p (.int .i64 1000)] [] fun r own => ∃ (us : List PV) (m : Nat), us = prP (shF L n w ⟨lo, hi⟩) ∧ m = us.length ∧
      r = .tup [.vw 0 2 0 m none, .p (.int .i64 0)] ∧ own = [.arr 45 2 us] :=
  (listF_spec L n 0 (Nat.zero_le _) hM hn hck w hw lo hi [] ys (by unfold whole; rw [layF_whole L (Nat.zero_le n)]; rfl) (by rw [layF_whole L (Nat.zero_le n), List.drop_zero]; exact hys)).mono fun r own ⟨us, m, a1, a2, a3, a4⟩ => ⟨us, m, a1, a2, a3, a4⟩
/-- Forget of what is not yet. -/
theorem forgetF_spec (L : List (List Chg)) (n k : Nat) (hk : k ≤ n) (hM : ∀ ch ∈ L, ch.length ≤ 1677721) (hn : n ≤ 20) (hck : ∀ j, j < n → chks (L.getD j []) = 0) (us ys : List PV) (m : Nat) (hus : us = prP (whole [] (layN L vF n) (Int.ofNat k))) (hys : ys = layP ((layN L vF n).drop (upto (layN L vF n) (Int.ofNat k)))) (hm : m = n - k) (V : Int) (hV : V = Int.ofNat (n + 1)) :
    FnL Try.prog 18 [.own 0 0, .p (.int .i64 V)] [psS (Int.ofNat k) (Int.ofNat k) (Int.ofNat n) us m, psA ys] fun r own => r = .p (.int .i64 8) ∧ own = [psS (Int.ofNat k) (Int.ofNat k) (Int.ofNat n) us m, psA ys] := by
  have hgM := len_getD hM
  have hs0 : Srt ([] : List Pr) := List.Pairwise.nil
  have hlM : ∀ l ∈ layN L vF n, l.ch.length ≤ 1677721 := fun l hl => by obtain ⟨j, _, rfl⟩ := layN_mem hl; exact hgM j
  have hlc : ∀ l ∈ layN L vF n, chks l.ch = 0 := fun l hl => by obtain ⟨j, hj, rfl⟩ := layN_mem hl; exact hck j hj
  have hup : upto (layN L vF n) (Int.ofNat k) = k := layF_whole L hk
  have hwl : (whole [] (layN L vF n) (Int.ofNat k)).length ≤ 0 + k * 1677721 := by
    unfold whole; rw [hup]; exact lays_take_len hs0 hlM (by rw [layN_length]; exact hk)
  have hdl : ((layN L vF n).drop (upto (layN L vF n) (Int.ofNat k))).length = n - k := by rw [List.length_drop, layN_length, hup]
  refine (forget_spec (Int.ofNat k) (Int.ofNat k) (Int.ofNat n) V (whole [] (layN L vF n) (Int.ofNat k)) (lays_srt _ hs0) ((layN L vF n).drop (upto (layN L vF n) (Int.ofNat k))) 1677721 (fun l hl => hlM l (List.mem_of_mem_drop hl)) (fun l hl => hlc l (List.mem_of_mem_drop hl)) ?_ ?_ us hus ys hys m (by rw [hdl]; exact hm)).mono fun r own ⟨e, a1, a2, a3⟩ => ?_
  · rw [hdl]
    have h1 := Nat.mul_le_mul_right 1677721 (show k ≤ 20 by omega)
    have h2 := Nat.mul_le_mul_right 1677721 (show n - k ≤ 20 by omega)
    omega
  · rw [hdl]; omega
  · have he : e = 8 := by
      rw [a1]; unfold fgE; rw [if_pos (by rw [hV]; simp only [Int.ofNat_eq_natCast]; omega)]
    subst he
    rcases a3 with ⟨_, a3⟩ | ⟨a3, _⟩
    · exact ⟨a2, a3⟩
    · cases a3
/-- Forget of what is there. -/
theorem forgetG_spec (L : List (List Chg)) (n k : Nat) (hk : k ≤ n) (hM : ∀ ch ∈ L, ch.length ≤ 1677721) (hn : n ≤ 20) (hck : ∀ j, j < n → chks (L.getD j []) = 0) (ys : List PV) (hys : ys = layP (layN L vF n)) (V : Int) (hV : V = Int.ofNat k) :
    FnL Try.prog 18 [.own 0 0, .p (.int .i64 V)] [psS 0 0 (Int.ofNat n) [] n, psA ys] fun r own => r = .p (.int .i64 0) ∧
      ((k = 0 ∧ own = [psS 0 0 (Int.ofNat n) [] n, psA ys]) ∨ (¬ k = 0 ∧ ∃ us ws m, us = prP (whole [] (layN L vF n) (Int.ofNat k)) ∧ m = n - k ∧ ws = layP ((layN L vF n).drop (upto (layN L vF n) (Int.ofNat k))) ∧ own = [psS2 V V (Int.ofNat n) us m, psA ys, psA ws])) := by
  have hgM := len_getD hM
  have hs0 : Srt ([] : List Pr) := List.Pairwise.nil
  have hlM : ∀ l ∈ layN L vF n, l.ch.length ≤ 1677721 := fun l hl => by obtain ⟨j, _, rfl⟩ := layN_mem hl; exact hgM j
  have hlc : ∀ l ∈ layN L vF n, chks l.ch = 0 := fun l hl => by obtain ⟨j, hj, rfl⟩ := layN_mem hl; exact hck j hj
  have hup : upto (layN L vF n) (Int.ofNat k) = k := layF_whole L hk
  refine (forget_spec 0 0 (Int.ofNat n) V [] hs0 (layN L vF n) 1677721 hlM hlc ?_ ?_ [] rfl ys hys n (by rw [layN_length])).mono fun r own ⟨e, a1, a2, a3⟩ => ?_
  · rw [layN_length, List.length_nil]
    have h1 := Nat.mul_le_mul_right 1677721 (show n ≤ 20 by omega)
    omega
  · rw [layN_length]; omega
  · have he : e = 0 := by
      rw [a1]; unfold fgE; rw [if_neg (by rw [hV]; simp only [Int.ofNat_eq_natCast]; omega)]
    subst he
    refine ⟨a2, ?_⟩
    rcases a3 with ⟨h, a3⟩ | ⟨_, h, us, ws, m, b1, b2, b3, b4⟩
    · refine .inl ⟨?_, a3⟩
      rcases h with h | h
      · exact absurd rfl h
      · rw [hV] at h; simp only [Int.ofNat_eq_natCast] at h; omega
    · refine .inr ⟨?_, us, ws, m, ?_, ?_, ?_, b4⟩
      · rw [hV] at h; simp only [Int.ofNat_eq_natCast] at h; omega
      · rw [b1, hV]
      · rw [b2, hV, layN_length, hup]
      · rw [b3, hV]
end Go.Proofs.Ytdeolllpbflemaa
