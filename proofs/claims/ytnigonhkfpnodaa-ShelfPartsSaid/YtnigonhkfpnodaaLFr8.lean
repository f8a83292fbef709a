/- States read; the document's states laid and read. Conditions: on sizes. -/
import Derived.Test.YtnigonhkfpnodaaLFr7
import Derived.Test.YtnigonhkfpnodaaLCode6
set_option maxRecDepth 100000
set_option maxHeartbeats 4000000
set_option linter.unusedSimpArgs false
set_option linter.unusedVariables false
namespace Go.Proofs.Ytnigonhkfpnodaa
open Go Go.Lx
open Go.Sx (vcIf)

def Stt.zero : Stt := ⟨0, 0, 0, []⟩
def SttIs (s : Stt) (x : PV) : Prop := ∃ zs, zs = iP s.ch ∧ x = .agg [.int .i64 s.gen, .int .i64 s.epoch, .int .i64 s.recv, .sl zs]
/-- The state that bytes are, and the error. -/
def gSt (l : List UInt8) : Stt × Nat :=
  match rdN l 0 with
  | (g, l, e) => match rdN l e with
    | (p, l, e) => match rdN l e with
      | (r, l, e) => match rdC l e 16 with
        | (n, l, e) => match rdNs n l e with
          | (ns, l, e) => if e = 0 ∧ l = [] ∧ Stt.okB ⟨g, p, r, ns⟩ = true then (⟨g, p, r, ns⟩, 0) else (Stt.zero, 2)
theorem rdC_le {l l' : List UInt8} {e most n e' : Nat} (h : (n, l', e') = rdC l e most) : n ≤ most ∧ l'.length ≤ l.length := by
  unfold rdC at h
  split at h
  · cases h; exact ⟨Nat.zero_le _, rdN_len (l := l) (e := e) (n := (rdN l e).1) (e' := (rdN l e).2.2) rfl⟩
  · rename_i hc
    rw [← h] at hc
    exact ⟨by simpa using hc, rdN_len h⟩
theorem rdNs_len : ∀ (k : Nat) (l : List UInt8) (e : Nat), (rdNs k l e).1.length ≤ k ∧ (rdNs k l e).2.1.length ≤ l.length
  | 0, l, e => ⟨Nat.le_refl _, Nat.le_refl _⟩
  | k + 1, l, e => by
    rw [rdNs]
    split
    · exact ⟨Nat.zero_le _, Nat.le_refl _⟩
    · have h1 := rdNs_len k (rdN l e).2.1 (rdN l e).2.2
      have h2 := rdN_len (l := l) (e := e) (n := (rdN l e).1) (l' := (rdN l e).2.1) (e' := (rdN l e).2.2) rfl
      exact ⟨by simp only [List.length_cons]; omega, Nat.le_trans h1.2 h2⟩
def stt0 : V := .p (.tup [.agg [.int .i64 0, .int .i64 0, .int .i64 0, .nils], .int .i64 2])
/-- A state, and an error: as a result. -/
def sttR (r : Stt × Nat) (v : V) (own : List Res) : Prop := ∃ (s : Stt) (e : Nat) (x : PV), (s, e) = r ∧ SttIs s x ∧ v = .p (.tup [x, .int .i64 (Int.ofNat e)]) ∧ own = []
theorem sttR.of {f : FuncId} {args : List V} {r : Stt × Nat} (h : FnL Try.prog f args [] fun v own => r = (Stt.zero, 2) ∧ v = stt0 ∨ ∃ (s : Stt) (zs : List PV), r = (s, 0) ∧ zs = iP s.ch ∧ v = .p (.tup [.agg [.int .i64 s.gen, .int .i64 s.epoch, .int .i64 s.recv, .sl zs], .int .i64 0])) :
    FnL Try.prog f args [] (sttR r) := by
  refine h.flat ?_
  rintro _ _ (⟨rfl, rfl⟩ | ⟨s, zs, rfl, hz, rfl⟩)
  · exact ⟨_, .tup [.agg [.int .i64 0, .int .i64 0, .int .i64 0, .sl []], .int .i64 2], rfl, PW.tup ⟨PW.agg ⟨.refl _, .refl _, .refl _, PW.nils, trivial⟩, .refl _, trivial⟩, Stt.zero, 2, _, rfl, ⟨[], rfl, rfl⟩, rfl, rfl⟩
  · exact ⟨_, _, rfl, .refl _, s, 0, _, rfl, ⟨zs, hz, rfl⟩, rfl, rfl⟩

theorem frGetState_spec (l : List UInt8) (xs : List PV) (hxs : xs = bP l) : FnL Try.prog 77 [.p (.sl xs)] [] (sttR (gSt l)) := by
  refine sttR.of ?_
  have hnr := newReader_spec xs
  refine fn_of_vc eOk fOk fo77 Try.func77 rfl rfl rfl fun B hB => ?_
  intro add sub mul quo rem band bor bxor bclr shl shr ieq ilt ile seq slt beq bnot orb bcond iwrap iof ssz hA cat sq sl imin imax smin smax len slen u8 hL op hop call hcall code hcode ret hret
  cbv
  refine hcall _ _ _ _ _ (CallEv.same hnr rfl ?_)
  rintro _ _ ⟨rfl, rfl⟩
  cbv
  have hN1 := rdNumV l 0 xs hxs
  refine hcall _ _ _ _ _ (CallEv.lend [1] hN1 rfl (.cons (.own 0 1 0 rfl) .nil) (rdL rfl) ?_)
  rintro _ _ ⟨n1, l1, e1, z1, h1, g1, rfl, rfl⟩
  cbv
  have hN2 := rdNumV l1 e1 z1 g1
  refine hcall _ _ _ _ _ (CallEv.lend [1] hN2 rfl (.cons (.own 0 1 0 rfl) .nil) (rdL rfl) ?_)
  rintro _ _ ⟨n2, l2, e2, z2, h2, g2, rfl, rfl⟩
  cbv
  have hN3 := rdNumV l2 e2 z2 g2
  refine hcall _ _ _ _ _ (CallEv.lend [1] hN3 rfl (.cons (.own 0 1 0 rfl) .nil) (rdL rfl) ?_)
  rintro _ _ ⟨n3, l3, e3, z3, h3, g3, rfl, rfl⟩
  cbv
  have hC := rdCount_spec l3 e3 z3 g3 16
  refine hcall _ _ _ _ _ (CallEv.lend [1] hC rfl (.cons (.own 0 1 0 rfl) (.cons (.p _) .nil)) (rdL rfl) ?_)
  rintro _ _ ⟨n4, l4, e4, z4, h4, g4, rfl, rfl⟩
  have hn4 := (rdC_le h4).1
  have hNs := rdNumsV l4 e4 n4 (by omega) z4 g4
  cbv
  refine hcall _ _ _ _ _ (CallEv.lend [1] hNs rfl (.cons (.own 0 1 0 rfl) (.cons (.p _) .nil)) (rdL rfl) ?_)
  rintro _ _ ⟨ns, l5, e5, z5, zs, h5, g5, gz, rfl, rfl⟩
  have hnl : ns.length ≤ n4 := by have := (rdNs_len n4 l4 e4).1; rw [← h5] at this; exact this
  obtain ⟨s, hsd⟩ : ∃ s : Stt, s = ⟨n1, n2, n3, ns⟩ := ⟨_, rfl⟩
  have hgs : gSt l = if e5 = 0 ∧ l5 = [] ∧ s.okB = true then (s, 0) else (Stt.zero, 2) := by
    unfold gSt; rw [← h1]; simp only; rw [← h2]; simp only; rw [← h3]; simp only; rw [← h4]; simp only; rw [← h5]; simp only; rw [hsd]
  have hst := frState_spec s (by rw [hsd]; simp only; omega) zs (by rw [hsd]; exact gz)
  rw [hsd] at hst
  simp only at hst
  rw [← hsd] at hst
  have hdn := rdDone_spec z5 e5
  cbv
  refine hcall _ _ _ _ _ (CallEv.lend [1] hdn rfl (.cons (.own 0 1 0 rfl) .nil) (rdL rfl) ?_)
  rintro _ _ ⟨rfl, rfl⟩
  have hz5 : z5 = [] ↔ l5 = [] := by rw [g5]; cases l5 <;> simp [bP]
  obtain ⟨d, hd⟩ : ∃ d, d = decide (e5 = 0 ∧ z5 = []) := ⟨_, rfl⟩
  rw [← hd]
  cbv
  cases d with
  | false =>
    have hd := of_decide_eq_false hd.symm
    rw [if_neg (fun c => hd ⟨c.1, hz5.2 c.2.1⟩)] at hgs
    cbv
    repeat (first | (refine vcIf.yes ?_ ?_; (focus (simp [hA.not, hA.eq, hA.lt, hA.le, hA.cond, hA.beq, hA.orb, hL.len, hL.slen, hL.sq]; done)); cbv) | (refine vcIf.no ?_ ?_; (focus (simp [hA.not, hA.eq, hA.lt, hA.le, hA.cond, hA.beq, hA.orb, hL.len, hL.slen, hL.sq]; done)); cbv) | fail)
    exact hret _ (RetEv.ret eOk rfl (.inl ⟨hgs, rfl⟩))
  | true =>
    obtain ⟨d1, d2⟩ := of_decide_eq_true hd.symm
    have d2 := hz5.1 d2
    cbv
    repeat (first | (refine vcIf.yes ?_ ?_; (focus (simp [hA.not, hA.eq, hA.lt, hA.le, hA.cond, hA.beq, hA.orb, hL.len, hL.slen, hL.sq]; done)); cbv) | (refine vcIf.no ?_ ?_; (focus (simp [hA.not, hA.eq, hA.lt, hA.le, hA.cond, hA.beq, hA.orb, hL.len, hL.slen, hL.sq]; done)); cbv) | fail)
    refine hcall _ _ _ _ _ (CallEv.same hst rfl ?_)
    rintro _ _ ⟨b, hb, rfl, rfl⟩
    rw [← hb] at hgs
    cbv
    cases b with
    | false =>
      rw [if_neg (fun c => by cases c.2.2)] at hgs
      repeat (first | (refine vcIf.yes ?_ ?_; (focus (simp [hA.not, hA.eq, hA.lt, hA.le, hA.cond, hA.beq, hA.orb, hL.len, hL.slen, hL.sq]; done)); cbv) | (refine vcIf.no ?_ ?_; (focus (simp [hA.not, hA.eq, hA.lt, hA.le, hA.cond, hA.beq, hA.orb, hL.len, hL.slen, hL.sq]; done)); cbv) | fail)
      exact hret _ (RetEv.ret eOk rfl (.inl ⟨hgs, rfl⟩))
    | true =>
      rw [if_pos ⟨d1, d2, rfl⟩] at hgs
      repeat (first | (refine vcIf.yes ?_ ?_; (focus (simp [hA.not, hA.eq, hA.lt, hA.le, hA.cond, hA.beq, hA.orb, hL.len, hL.slen, hL.sq]; done)); cbv) | (refine vcIf.no ?_ ?_; (focus (simp [hA.not, hA.eq, hA.lt, hA.le, hA.cond, hA.beq, hA.orb, hL.len, hL.slen, hL.sq]; done)); cbv) | fail)
      exact hret _ (RetEv.ret eOk rfl (.inr ⟨s, zs, hgs, by rw [hsd]; exact gz, by subst hsd; rfl⟩))

/-! The document's: it reads on behind an error -/
def rdNsT : Nat → List UInt8 → Nat → List Int × List UInt8 × Nat
  | 0, l, e => ([], l, e)
  | k + 1, l, e => (((rdNsT k l e).1 ++ [((rdN (rdNsT k l e).2.1 (rdNsT k l e).2.2).1 : Int)]), (rdN (rdNsT k l e).2.1 (rdNsT k l e).2.2).2)
theorem rdN_bad {l : List UInt8} {e : Nat} (h : e ≠ 0) : rdN l e = (0, l, e) := by unfold rdN; rw [if_pos h]
theorem rdNs_snoc : ∀ (k : Nat) (l : List UInt8) (e : Nat), (rdNs k l e).2.2 = 0 → rdNs (k + 1) l e = ((rdNs k l e).1 ++ [((rdN (rdNs k l e).2.1 (rdNs k l e).2.2).1 : Int)], (rdN (rdNs k l e).2.1 (rdNs k l e).2.2).2)
  | 0, l, e, h => by
    have he : e = 0 := h
    subst he
    simp [rdNs]
  | k + 1, l, e, h => by
    have he : e = 0 := by
      rcases Nat.eq_zero_or_pos e with c | c
      · exact c
      · rw [rdNs_err _ _ (by omega)] at h; exact h
    subst he
    rw [rdNs, if_neg (by simp)]
    rw [rdNs, if_neg (by simp)] at h
    simp only at h
    have ih := rdNs_snoc k (rdN l 0).2.1 (rdN l 0).2.2 h
    conv => rhs; rw [rdNs, if_neg (by simp)]
    simp only
    rw [ih]
    simp
theorem rdNs_stop : ∀ (k : Nat) (l : List UInt8) (e : Nat), (rdNs k l e).2.2 ≠ 0 → (rdNs (k + 1) l e).2.2 ≠ 0
  | 0, l, e, h => by
    have he : e ≠ 0 := h
    rw [rdNs_err _ _ he]; exact he
  | k + 1, l, e, h => by
    by_cases he : e = 0
    · subst he
      rw [rdNs, if_neg (by simp)] at h ⊢
      simp only at h ⊢
      exact rdNs_stop k _ _ h
    · rw [rdNs_err _ _ he]; exact he
theorem rdNsT_eq : ∀ (k : Nat) (l : List UInt8) (e : Nat), ((rdNsT k l e).2.2 = 0 ∧ rdNs k l e = rdNsT k l e) ∨ ((rdNsT k l e).2.2 ≠ 0 ∧ (rdNs k l e).2.2 ≠ 0)
  | 0, l, e => by
    by_cases h : e = 0
    · exact .inl ⟨h, rfl⟩
    · exact .inr ⟨h, h⟩
  | k + 1, l, e => by
    rcases rdNsT_eq k l e with ⟨h1, h2⟩ | ⟨h1, h2⟩
    · have h3 := rdNs_snoc k l e (by rw [h2]; exact h1)
      rw [h2] at h3
      have h4 : rdNs (k + 1) l e = rdNsT (k + 1) l e := h3
      by_cases h : (rdNsT (k + 1) l e).2.2 = 0
      · exact .inl ⟨h, h4⟩
      · exact .inr ⟨h, by rw [h4]; exact h⟩
    · refine .inr ⟨?_, rdNs_stop k l e h2⟩
      rw [rdNsT, rdN_bad h1]
      exact h1
theorem rdNsT_len : ∀ (k : Nat) (l : List UInt8) (e : Nat), (rdNsT k l e).1.length = k
  | 0, l, e => rfl
  | k + 1, l, e => by rw [rdNsT]; simp [rdNsT_len k l e]

structure GI where
  i : Nat
  ns : List PV
  zs : List PV
  b : Bool
theorem sameState_spec (s : Stt) (hs : s.fit) (x : PV) (hx : SttIs s x) : FnL Try.prog 19 [.p x, .p x] [] fun v own => v = .p (.bool true) := by
  obtain ⟨zs, hz, rfl⟩ := hx
  have hi := ints_spec s.ch s.ch hs.2.2
  rw [← hz, decide_eq_true rfl] at hi
  obtain ⟨g, e, r, ch⟩ := s
  simp only at hi ⊢
  refine fn_of_vc eOk fOk fo19 Try.func19 rfl rfl rfl fun B hB => ?_
  intro add sub mul quo rem band bor bxor bclr shl shr ieq ilt ile seq slt beq bnot orb bcond iwrap iof ssz hA cat sq sl imin imax smin smax len slen u8 hL op hop call hcall code hcode ret hret
  cbv
  repeat (first | (refine vcIf.yes ?_ ?_; (focus (simp [hA.not, hA.eq, hA.lt, hA.le, hA.cond, hA.beq, hA.orb, hL.len, hL.slen, hL.sq]; done)); cbv) | (refine vcIf.no ?_ ?_; (focus (simp [hA.not, hA.eq, hA.lt, hA.le, hA.cond, hA.beq, hA.orb, hL.len, hL.slen, hL.sq]; done)); cbv) | fail)
  refine hcall _ _ _ _ _ (CallEv.same hi rfl ?_)
  rintro _ _ ⟨rfl, rfl⟩
  cbv
  exact hret _ (RetEv.ret eOk rfl (by simp [hA.not, hA.eq, hA.lt, hA.le, hA.cond, hA.beq, hA.orb, hL.len, hL.slen, hL.sq, oneOf]))
end Go.Proofs.Ytnigonhkfpnodaa
