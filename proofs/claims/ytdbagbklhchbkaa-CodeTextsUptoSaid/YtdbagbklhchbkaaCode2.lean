/- What package code's functions do: PutNum, Num, and the document's Num. No conditions but on sizes. -/
import Derived.Test.YtdbagbklhchbkaaCode1
set_option maxRecDepth 100000
set_option maxHeartbeats 4000000
set_option linter.unusedSimpArgs false
set_option linter.unusedVariables false
namespace Go.Proofs.Ytdbagbklhchbkaa
open Go Go.Sx

theorem PEv.shl {B : Base} {P : Program} {o : Oper} {st : St} {k : V → Prop} {t ty : TypeId} {x y : Operand} {kx ky : IntKind} {a b r : Int} {m : Nat}
    (ho : o.op = .binOp .shl t x y ty) (hx : ev st.fr x = some (.v (.int kx a))) (hy : ev st.fr y = some (.v (.int ky b)))
    (hb : b = (m : Int)) (hr : kx.wrap (a * 2 ^ (min m kx.bits)) = r) (h : k (.v (.int kx r))) : PEv B P o st k :=
  PEv.bin ho hx hy (fun w => run_shl' hb hr w) h

def putNumR (l : List UInt8) (x : Int) (v : Value) (H' : Hp) : Prop :=
  if x < 0 then v = .tuple #[.slice none 0 0, .int .i64 5] else ∃ a' n' c', v = .tuple #[.slice a' n' c', .int .i64 0] ∧ Bs H' a' n' c' (l ++ enc x.toNat)

theorem putNum_spec {H : Hp} (hb : H.Bd) {a : Option Addr} {n c : Nat} {l : List UInt8} (S : Bs H a n c l) (hn : n + 10 ≤ 140737488355328) (x : Int) (hx : x ≤ 9223372036854775807) :
    FnV Try.prog 26 [.slice a n c, .int .i64 x] H (putNumR l x) := by
  refine fn_of_vc eOk fOk Try.func26 rfl rfl rfl hb ?_
  intro add sub mul quo rem band bor bxor bclr shl shr ieq ilt ile seq slt beq bnot orb bcond iwrap iof ssz hA op hop code hcode ret hret
  by_cases h0 : x < 0
  · cbv
    refine vcIf.yes (by rw [hA.lt]; exact decide_eq_true h0) ?_
    cbv
    refine hret _ (RetEv.fn eOk rfl fun H' _ => ?_)
    unfold putNumR; rw [if_pos h0]; rfl
  · obtain ⟨y, hxy⟩ : ∃ y : Nat, x = (y : Int) := ⟨x.toNat, by omega⟩
    have hy : y < 9223372036854775808 := by omega
    subst hxy
    cbv
    refine vcIf.no (by rw [hA.lt]; simp) ?_
    cbv
    refine hop _ _ _ (EEv.callFN fo42 rfl rfl (fun H1 hl1 hb1 => clone_spec hb1 (S.mono hl1) (by omega)) ?_).op
    rintro v φ H2 hl2 hb2 ⟨a2, c2, xs2, rfl, hx2, rfl⟩
    cbv
    refine hop _ _ _ (EEv.callFR fo41 rfl rfl 0 rfl (fun H3 hl3 hb3 => put_spec hb3 y hy hn) ?_).op
    rintro v φ H4 hl4 hb4 ⟨a4, c4, n4, xs4, rfl, hn4, hx4, rfl⟩
    cbv
    have hfin : xs4 = (byteV (l ++ enc y)).flatMap fun y => y.cells.toList := by rw [byteV_flat, hx4, hx2, byteV_append]
    refine hret _ (RetEv.conv (Conv.freeze _ _ 0 (ys := byteV (l ++ enc y)) (by rw [← hfin]; rfl) byteV_size (by decide) (fun _ c => c)) ?_)
    rintro own' H5 ⟨rfl, hl5, a5, c5, h5, S5, h6, h7, h8⟩
    cases h5
    refine RetEv.fn eOk rfl fun H' hl' => ?_
    unfold putNumR
    rw [if_neg h0]
    exact ⟨_, _, _, rfl, S5.mono hl', h6, h7, h8⟩

/-- Three numbers. -/
def numR (r : Nat × Nat × Nat) (v : Value) (_ : Hp) : Prop := ∃ x u e : Nat, (x, u, e) = r ∧ v = .tuple #[.int .i64 x, .int .i64 u, .int .i64 e]

theorem num_spec {H : Hp} (hb : H.Bd) {a : Option Addr} {n c : Nat} {l : List UInt8} (S : Bs H a n c l) :
    FnV Try.prog 27 [.slice a n c] H (numR (dec 0 0 l)) := by
  have hlen := Bs.length S
  refine fn_of_vc eOk fOk Try.func27 rfl rfl rfl hb ?_
  intro add sub mul quo rem band bor bxor bclr shl shr ieq ilt ile seq slt beq bnot orb bcond iwrap iof ssz hA op hop code hcode ret hret
  cbv
  refine hcode _ _ _ (CodeEv.loop eOk fOk (ι := Nat × Nat) (fun i => [(0, .v (.slice a n c)), (2, .v (.int .i64 (Int.ofNat i.2))), (7, .v (.slice a n c)), (8, .v (.int .i64 (iof n))), (9, .v (.int .i64 (Int.ofNat i.1)))])
    (fun i => []) (fun i H' => H.Le H' ∧ i.1 ≤ n ∧ i.1 ≤ 9 ∧ i.2 < 128 ^ i.1 ∧ dec 0 0 l = dec i.1 i.2 (l.drop i.1)) (fun i => n - i.1) (0, 0) ?_ ?_)
  · exact ⟨⟨rfl, rfl, rfl, rfl, rfl, trivial⟩, rfl, Hp.Le.refl _, Nat.zero_le _, by simp, by simp, rfl⟩
  rintro ⟨k, acc⟩ H1 ⟨hl1, h1, h2, h3, h4⟩ rd hrd
  simp only at h1 h2 h3 h4
  intro add1 sub1 mul1 quo1 rem1 band1 bor1 bxor1 bclr1 shl1 shr1 ieq1 ilt1 ile1 seq1 slt1 beq1 bnot1 orb1 bcond1 iwrap1 iof1 ssz1 hA1 op1 hop1 code1 hcode1
  cbv
  by_cases hk : k < n
  · refine vcIf.yes (by rw [hA1.lt, hA.ofNat]; exact decide_eq_true (Int.ofNat_lt.2 hk)) ?_
    obtain ⟨x, hx⟩ : ∃ x : Nat, (l[k]'(by omega)).toNat = x := ⟨_, rfl⟩
    have hxb : x < 256 := by rw [← hx]; exact UInt8.toNat_lt _
    have hkl : k < l.length := by omega
    have hget : (byteV l)[(Int.ofNat k).toNat]? = some (.int .u8 (Int.ofNat x)) := by
      rw [← hx]; exact byteV_get hkl
    have hdrop : l.drop k = l[k]'(by omega) :: l.drop (k + 1) := List.drop_eq_getElem_cons (by omega)
    rw [hdrop, dec_cons, hx] at h4
    cbv
    refine hop1 _ _ _ (PEv.index eOk rfl rfl rfl rfl rfl rfl (S.mono hl1).sl S.len (Int.natCast_nonneg k) hget fun b off => ?_).op
    cbv
    by_cases h9 : k = 9
    · rw [if_pos h9] at h4
      refine vcIf.yes (by rw [hA1.eq, h9]; rfl) ?_
      cbv
      exact hret _ (RetEv.fn eOk rfl fun H' _ => ⟨0, 0, 2, h4.symm, rfl⟩)
    · rw [if_neg h9] at h4
      refine vcIf.no (by rw [hA1.eq]; simp only [Int.ofNat_eq_natCast, beq_eq_false_iff_ne]; omega) ?_
      cbv
      by_cases hx8 : 128 ≤ x
      · rw [if_pos hx8] at h4
        refine vcIf.yes (by rw [hA1.le]; simp only [Int.ofNat_eq_natCast, decide_eq_true_eq]; omega) ?_
        have e1 : mul1 .i64 7 (Int.ofNat k) = ((7 * k : Nat) : Int) := by
          rw [hA1.mul]; exact i64_nat (by simp) (by omega)
        have e2 : iwrap1 .i64 (band1 .u8 (Int.ofNat x) 127) = ((x % 128 : Nat) : Int) := by
          rw [hA1.and, hA1.wrap]; exact i64_nat (and127 x hxb) (by omega)
        obtain ⟨y, hy⟩ : ∃ y : Int, y = ((x % 128 * 128 ^ k : Nat) : Int) := ⟨_, rfl⟩
        have e4 : IntKind.i64.wrap (iwrap1 .i64 (band1 .u8 (Int.ofNat x) 127) * 2 ^ (min (7 * k) IntKind.i64.bits)) = y := by
          rw [e2, hy]; exact shl_val (by omega) (by omega)
        cbv
        refine hop1 _ _ _ (PEv.shl rfl rfl rfl e1 e4 ?_).op
        cbv
        have e3 : bor1 .i64 (Int.ofNat acc) y = ((acc + (x - 128) * 128 ^ k : Nat) : Int) := by
          rw [hA1.or, hy]; simp only [Int.ofNat_eq_natCast]
          rw [or_val (by omega) h3 (by omega), show x % 128 = x - 128 by omega]
        refine hrd _ ⟨(k + 1, acc + (x - 128) * 128 ^ k), ?_, rfl, ⟨rfl, ?_, rfl, rfl, ?_, trivial⟩, rfl, ?_, ?_, ?_, ?_, ?_⟩
        · simp only; omega
        · show some (V.v (.int .i64 (bor1 .i64 (Int.ofNat acc) y))) = _
          rw [e3]; rfl
        · show some (V.v (.int .i64 (add1 .i64 (Int.ofNat k) 1))) = some (V.v (.int .i64 (Int.ofNat (k + 1))))
          rw [hA1.add, IntWalk.i64_in _ (by simp only [Int.ofNat_eq_natCast]; omega)]; rfl
        · exact hl1
        · simp only; omega
        · simp only; omega
        · exact dec_step acc (by omega) h3 (by omega)
        · exact h4
      · rw [if_neg hx8] at h4
        refine vcIf.no (by rw [hA1.le]; simp only [Int.ofNat_eq_natCast, decide_eq_false_iff_not]; omega) ?_
        cbv
        by_cases hx0 : x = 0
        · refine vcIf.yes (by rw [hA1.eq, hx0]; rfl) ?_
          cbv
          by_cases hk0 : 0 < k
          · rw [if_pos ⟨hx0, hk0⟩] at h4
            refine vcIf.yes (by rw [hA1.cond, hA1.lt]; simp only [Int.ofNat_eq_natCast, decide_eq_true_eq, cond_true]; omega) ?_
            cbv
            exact hret _ (RetEv.fn eOk rfl fun H' _ => ⟨0, 0, 2, h4.symm, rfl⟩)
          · rw [if_neg (by omega)] at h4
            refine vcIf.no (by rw [hA1.cond, hA1.lt]; simp only [Int.ofNat_eq_natCast, decide_eq_false_iff_not, cond_true]; omega) ?_
            cbv
            obtain ⟨y, hy⟩ : ∃ y : Int, y = ((x * 128 ^ k : Nat) : Int) := ⟨_, rfl⟩
            have e1 : mul1 .i64 7 (Int.ofNat k) = ((7 * k : Nat) : Int) := by
              rw [hA1.mul]; exact i64_nat (by simp) (by omega)
            have e2 : iwrap1 .i64 (Int.ofNat x) = ((x : Nat) : Int) := by
              rw [hA1.wrap]; exact i64_nat rfl (by omega)
            have e4 : IntKind.i64.wrap (iwrap1 .i64 (Int.ofNat x) * 2 ^ (min (7 * k) IntKind.i64.bits)) = y := by
              rw [e2, hy]; exact shl_val (by omega) (by omega)
            have e3 : bor1 .i64 (Int.ofNat acc) y = ((acc + x * 128 ^ k : Nat) : Int) := by
              rw [hA1.or, hy]; exact or_val (by omega) h3 (by omega)
            have e5 : add1 .i64 (Int.ofNat k) 1 = ((k + 1 : Nat) : Int) := by
              rw [hA1.add]; exact i64_nat (by simp) (by omega)
            refine hop1 _ _ _ (PEv.shl rfl rfl rfl e1 e4 ?_).op
            cbv
            exact hret _ (RetEv.fn eOk rfl fun H' _ => ⟨_, _, 0, h4.symm, by show Value.tuple #[.int .i64 (bor1 .i64 (Int.ofNat acc) y), .int .i64 (add1 .i64 (Int.ofNat k) 1), .int .i64 0] = _; rw [e3, e5]; rfl⟩)
        · rw [if_neg (by omega)] at h4
          refine vcIf.no (by rw [hA1.eq]; simp only [Int.ofNat_eq_natCast, beq_eq_false_iff_ne]; omega) ?_
          cbv
          obtain ⟨y, hy⟩ : ∃ y : Int, y = ((x * 128 ^ k : Nat) : Int) := ⟨_, rfl⟩
          have e1 : mul1 .i64 7 (Int.ofNat k) = ((7 * k : Nat) : Int) := by
            rw [hA1.mul]; exact i64_nat (by simp) (by omega)
          have e2 : iwrap1 .i64 (Int.ofNat x) = ((x : Nat) : Int) := by
            rw [hA1.wrap]; exact i64_nat rfl (by omega)
          have e4 : IntKind.i64.wrap (iwrap1 .i64 (Int.ofNat x) * 2 ^ (min (7 * k) IntKind.i64.bits)) = y := by
            rw [e2, hy]; exact shl_val (by omega) (by omega)
          have e3 : bor1 .i64 (Int.ofNat acc) y = ((acc + x * 128 ^ k : Nat) : Int) := by
            rw [hA1.or, hy]; exact or_val (by omega) h3 (by omega)
          have e5 : add1 .i64 (Int.ofNat k) 1 = ((k + 1 : Nat) : Int) := by
            rw [hA1.add]; exact i64_nat (by simp) (by omega)
          refine hop1 _ _ _ (PEv.shl rfl rfl rfl e1 e4 ?_).op
          cbv
          exact hret _ (RetEv.fn eOk rfl fun H' _ => ⟨_, _, 0, h4.symm, by show Value.tuple #[.int .i64 (bor1 .i64 (Int.ofNat acc) y), .int .i64 (add1 .i64 (Int.ofNat k) 1), .int .i64 0] = _; rw [e3, e5]; rfl⟩)
  · refine vcIf.no (by rw [hA1.lt, hA.ofNat]; exact decide_eq_false (by simp only [Int.ofNat_eq_natCast]; omega)) ?_
    have hke : k = n := by omega
    rw [hke, ← hlen, List.drop_length, dec_nil, hlen] at h4
    cbv
    by_cases h9 : 9 ≤ n
    · refine vcIf.yes (by rw [hA.le, hA.ofNat]; simp only [decide_eq_true_eq, decide_eq_false_iff_not]; omega) ?_
      cbv
      exact hret _ (RetEv.fn eOk rfl fun H' _ => ⟨0, 0, 2, by rw [h4, if_pos (by omega)], rfl⟩)
    · refine vcIf.no (by rw [hA.le, hA.ofNat]; simp only [decide_eq_true_eq, decide_eq_false_iff_not]; omega) ?_
      cbv
      exact hret _ (RetEv.fn eOk rfl fun H' _ => ⟨0, 0, 3, by rw [h4, if_neg (by omega)], rfl⟩)
end Go.Proofs.Ytdbagbklhchbkaa
