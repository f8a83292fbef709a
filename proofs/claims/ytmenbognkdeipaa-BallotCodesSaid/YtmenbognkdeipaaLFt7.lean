/- Batches read. Conditions: on sizes. -/
import Derived.Test.YtmenbognkdeipaaLFt6
set_option maxRecDepth 100000
set_option maxHeartbeats 4000000
set_option linter.unusedSimpArgs false
set_option linter.unusedVariables false
namespace Go.Proofs.Ytmenbognkdeipaa
open Go Go.Lx
open Go.Sx (vcIf)

def Bat.zero : Bat := ⟨0, 0, 0, []⟩
def BatIs (s : Bat) (x : PV) : Prop := ∃ zs, zs = cP s.ch ∧ x = .agg [.int .i64 s.a, .int .i64 s.b, .int .i64 s.c, .sl zs]
/-- The batch that bytes are, and the error. -/
def gBat (l : List UInt8) : Bat × Nat :=
  match rdN l 0 with
  | (g, l, e) => match rdN l e with
    | (p, l, e) => match rdN l e with
      | (r, l, e) => match rdC l e 4096 with
        | (n, l, e) => match rdGsT n l e with
          | (cs, l, e) => if e = 0 ∧ l = [] ∧ Bat.okB ⟨g, p, r, cs⟩ = true then (⟨g, p, r, cs⟩, 0) else (Bat.zero, 2)
theorem gBat_of {l l1 l2 l3 l4 l5 : List UInt8} {e1 e2 e3 e4 e5 n1 n2 n3 n4 i : Nat} {cs : List Chg} (h1 : (n1, l1, e1) = rdN l 0) (h2 : (n2, l2, e2) = rdN l1 e1) (h3 : (n3, l3, e3) = rdN l2 e2) (h4 : (n4, l4, e4) = rdC l3 e3 4096) (hi : i ≤ n4) (hie : i = n4 ∨ e5 ≠ 0) (h5 : (cs, l5, e5) = rdGsT i l4 e4) :
    gBat l = if e5 = 0 ∧ l5 = [] ∧ Bat.okB ⟨n1, n2, n3, cs⟩ = true then (⟨n1, n2, n3, cs⟩, 0) else (Bat.zero, 2) := by
  unfold gBat; rw [← h1]; simp only; rw [← h2]; simp only; rw [← h3]; simp only; rw [← h4]; simp only
  rcases hie with rfl | he
  · rw [← h5]
  · have := rdGsT_bad n4 i hi (by rw [← h5]; exact he)
    rw [if_neg (fun c => this c.1), if_neg (fun c => he c.1)]
def bat0 : V := .p (.tup [.agg [.int .i64 0, .int .i64 0, .int .i64 0, .nils], .int .i64 2])
/-- A batch, and an error: as a result. -/
def batR (r : Bat × Nat) (v : V) (own : List Res) : Prop := ∃ (s : Bat) (e : Nat) (x : PV), (s, e) = r ∧ BatIs s x ∧ v = .p (.tup [x, .int .i64 (Int.ofNat e)]) ∧ own = []
theorem batR.of {f : FuncId} {args : List V} {r : Bat × Nat} (h : FnL Try.prog f args [] fun v own => r = (Bat.zero, 2) ∧ v = bat0 ∨ ∃ (s : Bat) (zs : List PV), r = (s, 0) ∧ zs = cP s.ch ∧ v = .p (.tup [.agg [.int .i64 s.a, .int .i64 s.b, .int .i64 s.c, .sl zs], .int .i64 0])) :
    FnL Try.prog f args [] (batR r) := by
  refine h.flat ?_
  rintro _ _ (⟨rfl, rfl⟩ | ⟨s, zs, rfl, hz, rfl⟩)
  · exact ⟨_, .tup [.agg [.int .i64 0, .int .i64 0, .int .i64 0, .sl []], .int .i64 2], rfl, PW.tup ⟨PW.agg ⟨.refl _, .refl _, .refl _, PW.nils, trivial⟩, .refl _, trivial⟩, Bat.zero, 2, _, rfl, ⟨[], rfl, rfl⟩, rfl, rfl⟩
  · exact ⟨_, _, rfl, .refl _, s, 0, _, rfl, ⟨zs, hz, rfl⟩, rfl, rfl⟩

theorem frGetBatch_spec (l : List UInt8) (hl : l.length < 9223372036854775807) (xs : List PV) (hxs : xs = bP l) : FnL Try.prog 29 [.p (.sl xs)] [] (batR (gBat l)) := by
  refine batR.of ?_
  have hnr := newReader_spec xs
  refine fn_of_vc eOk fOk fo29 Try.func29 rfl rfl rfl fun B hB => ?_
  intro add sub mul quo rem band bor bxor bclr shl shr ieq ilt ile seq slt beq bnot orb bcond iwrap iof ssz hA cat sq sl imin imax smin smax len slen u8 hL op hop call hcall code hcode ret hret
  cbv
  refine hcall _ _ _ _ _ (CallEv.same hnr rfl ?_)
  rintro _ _ ⟨rfl, rfl⟩
  cbv
  have hN1 := rdNumV l 0 xs hxs
  refine hcall _ _ _ _ _ (CallEv.lend [1] hN1 rfl (.cons (.own 0 1 0 rfl) .nil) (rdL rfl) ?_)
  rintro _ _ ⟨n1, l1, e1, z1, h1, g1, rfl, rfl⟩
  have t1 := rdN_len h1
  cbv
  have hN2 := rdNumV l1 e1 z1 g1
  refine hcall _ _ _ _ _ (CallEv.lend [1] hN2 rfl (.cons (.own 0 1 0 rfl) .nil) (rdL rfl) ?_)
  rintro _ _ ⟨n2, l2, e2, z2, h2, g2, rfl, rfl⟩
  have t2 := rdN_len h2
  cbv
  have hN3 := rdNumV l2 e2 z2 g2
  refine hcall _ _ _ _ _ (CallEv.lend [1] hN3 rfl (.cons (.own 0 1 0 rfl) .nil) (rdL rfl) ?_)
  rintro _ _ ⟨n3, l3, e3, z3, h3, g3, rfl, rfl⟩
  have t3 := rdN_len h3
  cbv
  have hC := getChgs_spec l3 (by omega) e3 z3 g3 4096 (by decide)
  refine hcall _ _ _ _ _ (CallEv.lend [1] hC rfl (.cons (.own 0 1 0 rfl) (.cons (.p _) .nil)) (rdL rfl) ?_)
  rintro _ _ ⟨n4, i, l4, e4, cs, l5, e5, z5, zs, h4, hi, hie, h5, g5, gz, rfl, rfl⟩
  have hn4 := (rdC_le h4).1
  have hcl : cs.length = i := by have := (rdGsT_len i l4 e4).1; rw [← h5] at this; exact this
  obtain ⟨s, hsd⟩ : ∃ s : Bat, s = ⟨n1, n2, n3, cs⟩ := ⟨_, rfl⟩
  have hgs := gBat_of h1 h2 h3 h4 hi hie h5
  rw [← hsd] at hgs
  have hst := frBatch_spec s (by rw [hsd]; simp only; omega) zs (by rw [hsd]; exact gz)
  rw [hsd] at hst
  simp only at hst
  rw [← hsd] at hst
  have hdn := rdDone_spec z5 e5
  cbv
  refine hcall _ _ _ _ _ (CallEv.lend [1] hdn rfl (.cons (.own 0 1 0 rfl) .nil) (rdL rfl) ?_)
  rintro _ _ ⟨rfl, rfl⟩
  have hz5 : z5 = [] ↔ l5 = [] := by rw [g5]; cases l5 <;> simp [bP]
  obtain ⟨d, hd⟩ : ∃ d, d = decide (e5 = 0 ∧ z5 = []) := ⟨_, rfl⟩
  rw [← hd]
  cbv
  cases d with
  | false =>
    have hd := of_decide_eq_false hd.symm
    rw [if_neg (fun c => hd ⟨c.1, hz5.2 c.2.1⟩)] at hgs
    cbv
    repeat (first | (refine vcIf.yes ?_ ?_; (focus (simp [hA.not, hA.eq, hA.lt, hA.le, hA.cond, hA.beq, hA.orb, hL.len, hL.slen, hL.sq]; done)); cbv) | (refine vcIf.no ?_ ?_; (focus (simp [hA.not, hA.eq, hA.lt, hA.le, hA.cond, hA.beq, hA.orb, hL.len, hL.slen, hL.sq]; done)); cbv) | fail)
    exact hret _ (RetEv.ret eOk rfl (.inl ⟨hgs, rfl⟩))
  | true =>
    obtain ⟨d1, d2⟩ := of_decide_eq_true hd.symm
    have d2 := hz5.1 d2
    cbv
    repeat (first | (refine vcIf.yes ?_ ?_; (focus (simp [hA.not, hA.eq, hA.lt, hA.le, hA.cond, hA.beq, hA.orb, hL.len, hL.slen, hL.sq]; done)); cbv) | (refine vcIf.no ?_ ?_; (focus (simp [hA.not, hA.eq, hA.lt, hA.le, hA.cond, hA.beq, hA.orb, hL.len, hL.slen, hL.sq]; done)); cbv) | fail)
    refine hcall _ _ _ _ _ (CallEv.same hst rfl ?_)
    rintro _ _ ⟨b, hb, rfl, rfl⟩
    rw [← hb] at hgs
    cbv
    cases b with
    | false =>
      rw [if_neg (fun c => by cases c.2.2)] at hgs
      repeat (first | (refine vcIf.yes ?_ ?_; (focus (simp [hA.not, hA.eq, hA.lt, hA.le, hA.cond, hA.beq, hA.orb, hL.len, hL.slen, hL.sq]; done)); cbv) | (refine vcIf.no ?_ ?_; (focus (simp [hA.not, hA.eq, hA.lt, hA.le, hA.cond, hA.beq, hA.orb, hL.len, hL.slen, hL.sq]; done)); cbv) | fail)
      exact hret _ (RetEv.ret eOk rfl (.inl ⟨hgs, rfl⟩))
    | true =>
      rw [if_pos ⟨d1, d2, rfl⟩] at hgs
      repeat (first | (refine vcIf.yes ?_ ?_; (focus (simp [hA.not, hA.eq, hA.lt, hA.le, hA.cond, hA.beq, hA.orb, hL.len, hL.slen, hL.sq]; done)); cbv) | (refine vcIf.no ?_ ?_; (focus (simp [hA.not, hA.eq, hA.lt, hA.le, hA.cond, hA.beq, hA.orb, hL.len, hL.slen, hL.sq]; done)); cbv) | fail)
      exact hret _ (RetEv.ret eOk rfl (.inr ⟨s, zs, hgs, by rw [hsd]; exact gz, by subst hsd; rfl⟩))
theorem rGetBatch_spec (l : List UInt8) (hl : l.length < 9223372036854775807) (xs : List PV) (hxs : xs = bP l) : FnL Try.prog 30 [.p (.sl xs)] [] (batR (gBat l)) := by
  refine batR.of ?_
  refine fn_of_vc eOk fOk fo30 Try.func30 rfl rfl rfl fun B hB => ?_
  intro add sub mul quo rem band bor bxor bclr shl shr ieq ilt ile seq slt beq bnot orb bcond iwrap iof ssz hA cat sq sl imin imax smin smax len slen u8 hL op hop call hcall code hcode ret hret
  cbv
  have hN1 := rrNum_spec l 0 xs hxs false rfl
  refine hcall _ _ _ _ _ (CallEv.lend [1] hN1 rfl (.cons (.own 0 1 0 rfl) .nil) (rrL rfl) ?_)
  rintro _ _ ⟨n1, l1, e1, z1, b1, h1, g1, d1, rfl, rfl⟩
  have t1 := rdN_len h1
  cbv
  have hN2 := rrNum_spec l1 e1 z1 g1 b1 d1
  refine hcall _ _ _ _ _ (CallEv.lend [1] hN2 rfl (.cons (.own 0 1 0 rfl) .nil) (rrL rfl) ?_)
  rintro _ _ ⟨n2, l2, e2, z2, b2, h2, g2, d2, rfl, rfl⟩
  have t2 := rdN_len h2
  cbv
  have hN3 := rrNum_spec l2 e2 z2 g2 b2 d2
  refine hcall _ _ _ _ _ (CallEv.lend [1] hN3 rfl (.cons (.own 0 1 0 rfl) .nil) (rrL rfl) ?_)
  rintro _ _ ⟨n3, l3, e3, z3, b3, h3, g3, d3, rfl, rfl⟩
  have t3 := rdN_len h3
  cbv
  have hC := rgetChgs_spec l3 (by omega) e3 z3 g3 b3 d3 4096 (by decide)
  refine hcall _ _ _ _ _ (CallEv.lend [1] hC rfl (.cons (.own 0 1 0 rfl) (.cons (.p _) .nil)) (rrL rfl) ?_)
  rintro _ _ ⟨n4, i, l4, e4, cs, l5, e5, z5, zs, b, h4, hi, hie, h5, g5, gz, k4, rfl, rfl⟩
  have hn4 := (rdC_le h4).1
  have hcl : cs.length = i := by have := (rdGsT_len i l4 e4).1; rw [← h5] at this; exact this
  obtain ⟨s, hsd⟩ : ∃ s : Bat, s = ⟨n1, n2, n3, cs⟩ := ⟨_, rfl⟩
  have hgs := gBat_of h1 h2 h3 h4 hi hie h5
  rw [← hsd] at hgs
  have hst := rBatch_spec s (by rw [hsd]; simp only; omega) zs (by rw [hsd]; exact gz)
  rw [hsd] at hst
  simp only at hst
  rw [← hsd] at hst
  have hzl : z5.length = l5.length := by rw [g5, bP_length]
  cbv
  cases b with
  | true =>
    have he := of_decide_eq_true k4.symm
    rw [if_neg (fun c => he c.1)] at hgs
    cbv
    repeat (first | (refine vcIf.yes ?_ ?_; (focus (simp [hA.not, hA.eq, hA.lt, hA.le, hA.cond, hA.beq, hA.orb, hL.len, hL.slen, hL.sq]; done)); cbv) | (refine vcIf.no ?_ ?_; (focus (simp [hA.not, hA.eq, hA.lt, hA.le, hA.cond, hA.beq, hA.orb, hL.len, hL.slen, hL.sq]; done)); cbv) | fail)
    exact hret _ (RetEv.ret eOk rfl (.inl ⟨hgs, rfl⟩))
  | false =>
    have he0 : e5 = 0 := by have := of_decide_eq_false k4.symm; simpa using this
    cbv
    repeat (first | (refine vcIf.yes ?_ ?_; (focus (simp [hA.not, hA.eq, hA.lt, hA.le, hA.cond, hA.beq, hA.orb, hL.len, hL.slen, hL.sq]; done)); cbv) | (refine vcIf.no ?_ ?_; (focus (simp [hA.not, hA.eq, hA.lt, hA.le, hA.cond, hA.beq, hA.orb, hL.len, hL.slen, hL.sq]; done)); cbv) | fail)
    by_cases hlf : l5 = []
    rotate_left
    · rw [if_neg (fun c => hlf c.2.1)] at hgs
      have : 0 < l5.length := List.length_pos_iff.2 hlf
      refine vcIf.yes (by simp [hA.cond, hA.lt, hL.len, hzl]; omega) ?_
      cbv
      repeat (first | (refine vcIf.yes ?_ ?_; (focus (simp [hA.not, hA.eq, hA.lt, hA.le, hA.cond, hA.beq, hA.orb, hL.len, hL.slen, hL.sq]; done)); cbv) | (refine vcIf.no ?_ ?_; (focus (simp [hA.not, hA.eq, hA.lt, hA.le, hA.cond, hA.beq, hA.orb, hL.len, hL.slen, hL.sq]; done)); cbv) | fail)
      exact hret _ (RetEv.ret eOk rfl (.inl ⟨hgs, rfl⟩))
    refine vcIf.no (by simp [hA.cond, hA.lt, hL.len, hzl, hlf]) ?_
    cbv
    refine hcall _ _ _ _ _ (CallEv.same hst rfl ?_)
    rintro _ _ ⟨ok, hok, rfl, rfl⟩
    rw [← hok] at hgs
    cbv
    cases ok with
    | false =>
      rw [if_neg (fun c => by cases c.2.2)] at hgs
      repeat (first | (refine vcIf.yes ?_ ?_; (focus (simp [hA.not, hA.eq, hA.lt, hA.le, hA.cond, hA.beq, hA.orb, hL.len, hL.slen, hL.sq]; done)); cbv) | (refine vcIf.no ?_ ?_; (focus (simp [hA.not, hA.eq, hA.lt, hA.le, hA.cond, hA.beq, hA.orb, hL.len, hL.slen, hL.sq]; done)); cbv) | fail)
      exact hret _ (RetEv.ret eOk rfl (.inl ⟨hgs, rfl⟩))
    | true =>
      rw [if_pos ⟨he0, hlf, rfl⟩] at hgs
      repeat (first | (refine vcIf.yes ?_ ?_; (focus (simp [hA.not, hA.eq, hA.lt, hA.le, hA.cond, hA.beq, hA.orb, hL.len, hL.slen, hL.sq]; done)); cbv) | (refine vcIf.no ?_ ?_; (focus (simp [hA.not, hA.eq, hA.lt, hA.le, hA.cond, hA.beq, hA.orb, hL.len, hL.slen, hL.sq]; done)); cbv) | fail)
      refine hret _ (RetEv.ret eOk rfl (.inr ⟨s, zs, hgs, by rw [hsd]; exact gz, by subst hsd; rfl⟩))
end Go.Proofs.Ytmenbognkdeipaa
