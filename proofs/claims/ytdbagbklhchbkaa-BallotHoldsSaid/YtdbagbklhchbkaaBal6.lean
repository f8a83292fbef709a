/- Whether two ballots are equal; the document's Ints, SameState and Same. Conditions: on sizes. -/
import Derived.Test.YtdbagbklhchbkaaBal5
import Derived.Laws.StructEq
import Derived.ChangeKeysEq
set_option maxRecDepth 100000
set_option maxHeartbeats 4000000
set_option linter.unusedSimpArgs false
set_option linter.unusedVariables false
namespace Go.Proofs.Ytdbagbklhchbkaa
open Go Go.Sx

theorem ball_fields (a b c d : Int) (w : World) : (Op.equalIn 10000 23 (ball a b) (ball c d)).run Try.prog w = .ok (a == c && b == d) w := by
  rw [run_equalIn_agg w 9999 23 _ _ (by kernel_rfl) (by kernel_rfl)]
  have hf : (Try.prog.fieldsOf 23).toList = [(Try.prog.fieldsOf 23)[0]!, (Try.prog.fieldsOf 23)[1]!] := by kernel_rfl
  have h0 : (Try.prog.fieldsOf 23)[0]!.type = 3 := by kernel_rfl
  have h1 : (Try.prog.fieldsOf 23)[1]!.type = 3 := by kernel_rfl
  have o0 : (Try.prog.fieldsOf 23)[0]!.offset = 0 := by kernel_rfl
  have o1 : (Try.prog.fieldsOf 23)[1]!.offset = 1 := by kernel_rfl
  have n0 : ((Try.prog.fieldsOf 23)[0]!.name == "_") = false := by kernel_rfl
  have n1 : ((Try.prog.fieldsOf 23)[1]!.name == "_") = false := by kernel_rfl
  have m0 : (Try.prog.fieldsOf 23)[0]!.name ≠ "_" := by simpa using n0
  have m1 : (Try.prog.fieldsOf 23)[1]!.name ≠ "_" := by simpa using n1
  rw [hf]
  generalize (Try.prog.fieldsOf 23)[0]! = f at *
  generalize (Try.prog.fieldsOf 23)[1]! = g at *
  have hp : ∀ (x y : Int) w, (part 3 #[Value.int .i64 x, Value.int .i64 y] 0).run Try.prog w = .ok (.int .i64 x) w := by
    intro x y w
    exact run_part_plain (P := Try.prog) (w := w) (e := 3) (show Try.prog.plainKey 3 = true by kernel_rfl) rfl
  have hq : ∀ (x y : Int) w, (part 3 #[Value.int .i64 x, Value.int .i64 y] 1).run Try.prog w = .ok (.int .i64 y) w := by
    intro x y w
    exact run_part_plain (P := Try.prog) (w := w) (e := 3) (show Try.prog.plainKey 3 = true by kernel_rfl) rfl
  have he : ∀ n (x y : Int) w, (Op.equalIn (n + 1) 3 (.int .i64 x) (.int .i64 y)).run Try.prog w = .ok (x == y) w := fun n x y w => run_equalIn_int w n 3 .i64 .i64 x y Try.underlying3
  simp only [Op.eqFields, if_pos m0, if_pos m1, h0, h1, o0, o1, Sem.run_bind, hp, hq, Result.andThen_ok, Sem.run_ite, he, show (9999 : Nat) = 9998 + 1 from rfl]
  by_cases hac : a = c <;> by_cases hbd : b = d <;> simp [hac, hbd]

theorem ball_eql {a b c d : Int} {x y : Operand} (w : World) : (do eqGuard .eql 23 x y (ball a b) (ball c d); binOp .eql 23 (ball a b) (ball c d) : Sem Value).run Try.prog w = .ok (.bool (a == c && b == d)) w := by
  rw [Sem.run_bind, run_eqGuard_agg w .eql _ _ _ _ _ (by kernel_rfl)]
  simp only [Result.andThen_ok]
  rw [run_eql_struct w, ball_fields]; rfl
theorem ball_neq {a b c d : Int} {x y : Operand} (w : World) : (do eqGuard .neq 23 x y (ball a b) (ball c d); binOp .neq 23 (ball a b) (ball c d) : Sem Value).run Try.prog w = .ok (.bool (!(a == c && b == d))) w := by
  rw [Sem.run_bind, run_eqGuard_agg w .neq _ _ _ _ _ (by kernel_rfl)]
  simp only [Result.andThen_ok]
  rw [run_neq_struct w, ball_fields]; rfl

theorem Ns.length {H : Hp} {a : Option Addr} {n c : Nat} {l : List Int} (h : Ns H a n c l) : l.length = n := by have := h.len; rwa [intV_length] at this
theorem intV_get {a : List Int} {i : Nat} (h : i < a.length) : (intV a)[i]? = some (.int .i64 a[i]) := by simp [intV, h]

theorem ints_spec {H : Hp} (hb : H.Bd) {a a' : Option Addr} {n c n' c' : Nat} {l l' : List Int} (S : Ns H a n c l) (S' : Ns H a' n' c' l') (hn : n < 9223372036854775807) :
    FnV Try.prog 39 [.slice a n c, .slice a' n' c'] H fun z _ => z = .bool (l == l') := by
  have hlen := Ns.length S
  have hlen' := Ns.length S'
  refine fn_of_vc eOk fOk Try.func39 rfl rfl rfl hb ?_
  intro add sub mul quo rem band bor bxor bclr shl shr ieq ilt ile seq slt beq bnot orb bcond iwrap iof ssz hA op hop code hcode ret hret
  cbv
  by_cases hnn : n = n'
  · subst hnn
    refine vcIf.no (by simp [hA.not, hA.eq]) ?_
    cbv
    refine hcode _ _ _ (CodeEv.loop eOk fOk (ι := Nat) (fun i => [(0, .v (.slice a n c)), (1, .v (.slice a' n c')), (5, .v (.int .i64 (Int.ofNat i)))])
      (fun i => []) (fun i H' => H.Le H' ∧ i ≤ n ∧ (l == l') = (l.drop i == l'.drop i)) (fun i => n - i) 0 ?_ ?_)
    · exact ⟨⟨rfl, rfl, rfl, trivial⟩, rfl, Hp.Le.refl _, Nat.zero_le _, rfl⟩
    rintro k H1 ⟨hl1, h1, h2⟩ rd hrd
    intro add1 sub1 mul1 quo1 rem1 band1 bor1 bxor1 bclr1 shl1 shr1 ieq1 ilt1 ile1 seq1 slt1 beq1 bnot1 orb1 bcond1 iwrap1 iof1 ssz1 hA1 op1 hop1 code1 hcode1
    cbv
    by_cases hk : k < n
    · refine vcIf.yes (by rw [hA1.lt, hA1.ofNat]; exact decide_eq_true (Int.ofNat_lt.2 hk)) ?_
      have hk1 : k < l.length := by omega
      have hk2 : k < l'.length := by omega
      obtain ⟨x, hx⟩ : ∃ x, l[k] = x := ⟨_, rfl⟩
      obtain ⟨y, hy⟩ : ∃ y, l'[k] = y := ⟨_, rfl⟩
      have g1 : (intV l)[(Int.ofNat k).toNat]? = some (.int .i64 x) := by rw [← hx]; exact intV_get hk1
      have g2 : (intV l')[(Int.ofNat k).toNat]? = some (.int .i64 y) := by rw [← hy]; exact intV_get hk2
      rw [List.drop_eq_getElem_cons hk1, List.drop_eq_getElem_cons hk2, hx, hy] at h2
      cbv
      refine hcode1 _ _ _ (CodeEv.draw eOk fOk (by kernel_rfl) [(0, false), (1, false), (2, false), (3, false), (4, false), (5, false), (6, false), (7, false), (8, false)] (by kernel_rfl) (by kernel_rfl) (by kernel_rfl) ?_)
      intro add2 sub2 mul2 quo2 rem2 band2 bor2 bxor2 bclr2 shl2 shr2 ieq2 ilt2 ile2 seq2 slt2 beq2 bnot2 orb2 bcond2 iwrap2 iof2 ssz2 hA2 rd2 hrd2 act2 hact2 q2 hq2
      cbv
      refine hrd2 _ _ _ (PEv.index eOk rfl rfl rfl rfl rfl rfl (S.mono hl1).sl S.len (Int.natCast_nonneg k) g1 fun b off => ?_)
      cbv
      refine hrd2 _ _ _ (PEv.index eOk rfl rfl rfl rfl rfl rfl (S'.mono hl1).sl S'.len (Int.natCast_nonneg k) g2 fun b off => ?_)
      cbv
      refine hq2 _ ?_
      cbv
      have e1 : add1 .i64 (Int.ofNat k) 1 = Int.ofNat (k + 1) := by
        rw [hA1.add, IntWalk.i64_in _ (by simp only [Int.ofNat_eq_natCast]; omega)]; rfl
      by_cases hxy : x = y
      · refine vcIf.no (by simp [hA2.not, hA2.eq, hxy]) ?_
        cbv
        refine hrd _ ⟨k + 1, ?_, rfl, ⟨rfl, rfl, ?_, trivial⟩, rfl, hl1, ?_, ?_⟩
        · show n - (k + 1) < n - k
          omega
        · show some (V.v (.int .i64 (add1 .i64 (Int.ofNat k) 1))) = _
          rw [e1]
        · omega
        · rw [h2, hxy]; simp
      · refine vcIf.yes (by simp [hA2.not, hA2.eq, hxy]) ?_
        cbv
        exact hret _ (RetEv.fn eOk rfl fun H' _ => by
          show Value.bool false = Value.bool _
          rw [h2]; simp [hxy])
    · refine vcIf.no (by rw [hA1.lt, hA1.ofNat]; exact decide_eq_false (by simp only [Int.ofNat_eq_natCast]; omega)) ?_
      cbv
      exact hret _ (RetEv.fn eOk rfl fun H' _ => by
        show Value.bool true = Value.bool _
        rw [h2, List.drop_eq_nil_of_le (by omega), List.drop_eq_nil_of_le (by omega)]; rfl)
  · refine vcIf.yes (by simp [hA.not, hA.eq, hA.ofNat]; omega) ?_
    cbv
    exact hret _ (RetEv.fn eOk rfl fun H' _ => by
      show Value.bool false = Value.bool _
      have : l ≠ l' := fun h => hnn (by rw [← hlen, ← hlen', h])
      simp [this])
end Go.Proofs.Ytdbagbklhchbkaa
