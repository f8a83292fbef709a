/- States read; the document's states laid and read. Conditions: on sizes. -/
import Derived.Test.YtmenbognkdeipaaLFr7
import Derived.Test.YtmenbognkdeipaaLCode6
set_option maxRecDepth 100000
set_option maxHeartbeats 4000000
set_option linter.unusedSimpArgs false
set_option linter.unusedVariables false
namespace Go.Proofs.Ytmenbognkdeipaa
open Go Go.Lx
open Go.Sx (vcIf)

theorem rPutState_spec (s : Stt) (hs : s.fit) (zs : List PV) (hzs : zs = iP s.ch) :
    FnL Try.prog 23 [.p (.agg [.int .i64 s.gen, .int .i64 s.epoch, .int .i64 s.recv, .sl zs])] [] (bytesR (sEnc s)) := by
  refine bytesR.of ?_
  have hst := rState_spec s hs.2.2 zs hzs
  have hok := s.ok_iff
  obtain ⟨R, hR⟩ : ∃ R, R = sEnc s := ⟨_, rfl⟩
  rw [← hR]
  unfold sEnc at hR
  obtain ⟨g, e, r, ch⟩ := s
  unfold sBytes at hR
  obtain ⟨hs1, hs2, hs3⟩ := hs
  simp only at hst hok hR hzs hs1 hs2 hs3 ⊢
  have hzl : zs.length = ch.length := by rw [hzs, iP_length]
  obtain ⟨N, hN⟩ : ∃ N, N = ch.length := ⟨_, rfl⟩
  rw [← hN] at hzl hok
  refine fn_of_vc eOk fOk fo23 Try.func23 rfl rfl rfl fun B hB => ?_
  intro add sub mul quo rem band bor bxor bclr shl shr ieq ilt ile seq slt beq bnot orb bcond iwrap iof ssz hA cat sq sl imin imax smin smax len slen u8 hL op hop call hcall code hcode ret hret
  cbv
  refine hcall _ _ _ _ _ (CallEv.same hst rfl ?_)
  rintro _ _ ⟨b, hb, rfl, rfl⟩
  rw [← hb] at hok hR
  cbv
  cases b with
  | false =>
    rw [if_neg (by decide)] at hR
    repeat (first | (refine vcIf.yes ?_ ?_; (focus (simp [hA.not, hA.eq, hA.lt, hA.le, hA.cond, hA.beq, hA.orb, hL.len, hL.slen, hL.sq]; done)); cbv) | (refine vcIf.no ?_ ?_; (focus (simp [hA.not, hA.eq, hA.lt, hA.le, hA.cond, hA.beq, hA.orb, hL.len, hL.slen, hL.sq]; done)); cbv) | fail)
    exact hret _ (RetEv.ret eOk rfl ⟨[], [], 2, hR.symm, rfl, .inr ⟨rfl, rfl⟩⟩)
  | true =>
    rw [if_pos rfl] at hR
    obtain ⟨k1, k2, k3, k4, k5⟩ := hok.1 rfl
    have hn1 := rnumsNil_spec [g, e, r, Int.ofNat N] (fun z hz => by
      simp only [List.mem_cons, List.not_mem_nil, or_false] at hz
      rcases hz with rfl | rfl | rfl | rfl
      · exact ⟨k1, (hs1 _ (by simp)).2⟩
      · exact ⟨k2, (hs1 _ (by simp)).2⟩
      · exact ⟨k3, (hs1 _ (by simp)).2⟩
      · simp only [Int.ofNat_eq_natCast]; omega) _ rfl (by simp)
    rw [iP4] at hn1
    have hn2 := fun (n1 : Nat) (ys1 : List PV) (w2 : n1 = ys1.length) (w3 : n1 ≤ 36) => rnumsRow_spec ch (fun z hz => ⟨(k5 z hz).1, (hs2 z hz).2⟩) zs hzs n1 ys1 w2.symm (by omega)
    cbv
    repeat (first | (refine vcIf.yes ?_ ?_; (focus (simp [hA.not, hA.eq, hA.lt, hA.le, hA.cond, hA.beq, hA.orb, hL.len, hL.slen, hL.sq]; done)); cbv) | (refine vcIf.no ?_ ?_; (focus (simp [hA.not, hA.eq, hA.lt, hA.le, hA.cond, hA.beq, hA.orb, hL.len, hL.slen, hL.sq]; done)); cbv) | fail)
    refine hcode _ _ _ (CodeEv.drawA eOk fOk (by kernel_rfl) (Xof 1 []) (by kernel_rfl) (by kernel_rfl) (by kernel_rfl) ?_)
    intro add2 sub2 mul2 quo2 rem2 band2 bor2 bxor2 bclr2 shl2 shr2 ieq2 ilt2 ile2 seq2 slt2 beq2 bnot2 orb2 bcond2 iwrap2 iof2 ssz2 hA2 cat2 sq2 sl2 imin2 imax2 smin2 smax2 len2 slen2 u82 hL2 op2 hop2 call2 hcall2 code2 hcode2 q2 hq2
    have hlen2 : len2 zs = Int.ofNat N := by rw [hL2.len, hzl]; rfl
    cbv
    rw [hlen2]
    refine ⟨false, ?_⟩
    cbv
    refine hcall2 _ _ _ _ _ (CallEv.same hn1 rfl ?_)
    rintro _ _ ⟨n1, ys1, w1, w2, w3, rfl, rfl⟩
    have hnn := hn2 n1 ys1 w2 w3
    cbv
    refine hcall2 _ _ _ _ _ (CallEv.lend [1] hnn rfl (.cons (.vw 0 1 1 0 n1 none rfl) (.cons (.p _) .nil)) ⟨⟨_, rfl, .arr _ _ _⟩, trivial⟩ ?_)
    rintro _ _ ⟨n2, ys2, u1, u2, u3, rfl, rfl⟩
    have hys : ys2 = bP (encs [g, e, r, (ch.length : Int)] ++ encs ch) := by rw [u1, w1, ← bP_append, hN]; rfl
    cbv
    refine hq2 _ ?_
    cbv
    refine hret _ (RetEv.retF eOk rfl 1 rfl (by rw [hB]; exact Nat.zero_le _) ⟨ys2, _, 0, hR.symm, hys, .inl ?_⟩)
    show V.p (.tup [.sl ((ys2.drop 0).take n2), .int .i64 0]) = _
    rw [frz_full u2.symm]; rfl

/-! Read -/
def Stt.zero : Stt := ⟨0, 0, 0, []⟩
def SttIs (s : Stt) (x : PV) : Prop := ∃ zs, zs = iP s.ch ∧ x = .agg [.int .i64 s.gen, .int .i64 s.epoch, .int .i64 s.recv, .sl zs]
/-- The state that bytes are, and the error. -/
def gSt (l : List UInt8) : Stt × Nat :=
  match rdN l 0 with
  | (g, l, e) => match rdN l e with
    | (p, l, e) => match rdN l e with
      | (r, l, e) => match rdC l e 16 with
        | (n, l, e) => match rdNs n l e with
          | (ns, l, e) => if e = 0 ∧ l = [] ∧ Stt.okB ⟨g, p, r, ns⟩ = true then (⟨g, p, r, ns⟩, 0) else (Stt.zero, 2)
theorem rdC_le {l l' : List UInt8} {e most n e' : Nat} (h : (n, l', e') = rdC l e most) : n ≤ most ∧ l'.length ≤ l.length := by
  unfold rdC at h
  split at h
  · cases h; exact ⟨Nat.zero_le _, rdN_len (l := l) (e := e) (n := (rdN l e).1) (e' := (rdN l e).2.2) rfl⟩
  · rename_i hc
    rw [← h] at hc
    exact ⟨by simpa using hc, rdN_len h⟩
theorem rdNs_len : ∀ (k : Nat) (l : List UInt8) (e : Nat), (rdNs k l e).1.length ≤ k ∧ (rdNs k l e).2.1.length ≤ l.length
  | 0, l, e => ⟨Nat.le_refl _, Nat.le_refl _⟩
  | k + 1, l, e => by
    rw [rdNs]
    split
    · exact ⟨Nat.zero_le _, Nat.le_refl _⟩
    · have h1 := rdNs_len k (rdN l e).2.1 (rdN l e).2.2
      have h2 := rdN_len (l := l) (e := e) (n := (rdN l e).1) (l' := (rdN l e).2.1) (e' := (rdN l e).2.2) rfl
      exact ⟨by simp only [List.length_cons]; omega, Nat.le_trans h1.2 h2⟩
def stt0 : V := .p (.tup [.agg [.int .i64 0, .int .i64 0, .int .i64 0, .nils], .int .i64 2])
/-- A state, and an error: as a result. -/
def sttR (r : Stt × Nat) (v : V) (own : List Res) : Prop := ∃ (s : Stt) (e : Nat) (x : PV), (s, e) = r ∧ SttIs s x ∧ v = .p (.tup [x, .int .i64 (Int.ofNat e)]) ∧ own = []
theorem sttR.of {f : FuncId} {args : List V} {r : Stt × Nat} (h : FnL Try.prog f args [] fun v own => r = (Stt.zero, 2) ∧ v = stt0 ∨ ∃ (s : Stt) (zs : List PV), r = (s, 0) ∧ zs = iP s.ch ∧ v = .p (.tup [.agg [.int .i64 s.gen, .int .i64 s.epoch, .int .i64 s.recv, .sl zs], .int .i64 0])) :
    FnL Try.prog f args [] (sttR r) := by
  refine h.flat ?_
  rintro _ _ (⟨rfl, rfl⟩ | ⟨s, zs, rfl, hz, rfl⟩)
  · exact ⟨_, .tup [.agg [.int .i64 0, .int .i64 0, .int .i64 0, .sl []], .int .i64 2], rfl, PW.tup ⟨PW.agg ⟨.refl _, .refl _, .refl _, PW.nils, trivial⟩, .refl _, trivial⟩, Stt.zero, 2, _, rfl, ⟨[], rfl, rfl⟩, rfl, rfl⟩
  · exact ⟨_, _, rfl, .refl _, s, 0, _, rfl, ⟨zs, hz, rfl⟩, rfl, rfl⟩

theorem frGetState_spec (l : List UInt8) (xs : List PV) (hxs : xs = bP l) : FnL Try.prog 24 [.p (.sl xs)] [] (sttR (gSt l)) := by
  refine sttR.of ?_
  have hnr := newReader_spec xs
  refine fn_of_vc eOk fOk fo24 Try.func24 rfl rfl rfl fun B hB => ?_
  intro add sub mul quo rem band bor bxor bclr shl shr ieq ilt ile seq slt beq bnot orb bcond iwrap iof ssz hA cat sq sl imin imax smin smax len slen u8 hL op hop call hcall code hcode ret hret
  cbv
  refine hcall _ _ _ _ _ (CallEv.same hnr rfl ?_)
  rintro _ _ ⟨rfl, rfl⟩
  cbv
  have hN1 := rdNumV l 0 xs hxs
  refine hcall _ _ _ _ _ (CallEv.lend [1] hN1 rfl (.cons (.own 0 1 0 rfl) .nil) (rdL rfl) ?_)
  rintro _ _ ⟨n1, l1, e1, z1, h1, g1, rfl, rfl⟩
  cbv
  have hN2 := rdNumV l1 e1 z1 g1
  refine hcall _ _ _ _ _ (CallEv.lend [1] hN2 rfl (.cons (.own 0 1 0 rfl) .nil) (rdL rfl) ?_)
  rintro _ _ ⟨n2, l2, e2, z2, h2, g2, rfl, rfl⟩
  cbv
  have hN3 := rdNumV l2 e2 z2 g2
  refine hcall _ _ _ _ _ (CallEv.lend [1] hN3 rfl (.cons (.own 0 1 0 rfl) .nil) (rdL rfl) ?_)
  rintro _ _ ⟨n3, l3, e3, z3, h3, g3, rfl, rfl⟩
  cbv
  have hC := rdCount_spec l3 e3 z3 g3 16
  refine hcall _ _ _ _ _ (CallEv.lend [1] hC rfl (.cons (.own 0 1 0 rfl) (.cons (.p _) .nil)) (rdL rfl) ?_)
  rintro _ _ ⟨n4, l4, e4, z4, h4, g4, rfl, rfl⟩
  have hn4 := (rdC_le h4).1
  have hNs := rdNumsV l4 e4 n4 (by omega) z4 g4
  cbv
  refine hcall _ _ _ _ _ (CallEv.lend [1] hNs rfl (.cons (.own 0 1 0 rfl) (.cons (.p _) .nil)) (rdL rfl) ?_)
  rintro _ _ ⟨ns, l5, e5, z5, zs, h5, g5, gz, rfl, rfl⟩
  have hnl : ns.length ≤ n4 := by have := (rdNs_len n4 l4 e4).1; rw [← h5] at this; exact this
  obtain ⟨s, hsd⟩ : ∃ s : Stt, s = ⟨n1, n2, n3, ns⟩ := ⟨_, rfl⟩
  have hgs : gSt l = if e5 = 0 ∧ l5 = [] ∧ s.okB = true then (s, 0) else (Stt.zero, 2) := by
    unfold gSt; rw [← h1]; simp only; rw [← h2]; simp only; rw [← h3]; simp only; rw [← h4]; simp only; rw [← h5]; simp only; rw [hsd]
  have hst := frState_spec s (by rw [hsd]; simp only; omega) zs (by rw [hsd]; exact gz)
  rw [hsd] at hst
  simp only at hst
  rw [← hsd] at hst
  have hdn := rdDone_spec z5 e5
  cbv
  refine hcall _ _ _ _ _ (CallEv.lend [1] hdn rfl (.cons (.own 0 1 0 rfl) .nil) (rdL rfl) ?_)
  rintro _ _ ⟨rfl, rfl⟩
  have hz5 : z5 = [] ↔ l5 = [] := by rw [g5]; cases l5 <;> simp [bP]
  obtain ⟨d, hd⟩ : ∃ d, d = decide (e5 = 0 ∧ z5 = []) := ⟨_, rfl⟩
  rw [← hd]
  cbv
  cases d with
  | false =>
    have hd := of_decide_eq_false hd.symm
    rw [if_neg (fun c => hd ⟨c.1, hz5.2 c.2.1⟩)] at hgs
    cbv
    repeat (first | (refine vcIf.yes ?_ ?_; (focus (simp [hA.not, hA.eq, hA.lt, hA.le, hA.cond, hA.beq, hA.orb, hL.len, hL.slen, hL.sq]; done)); cbv) | (refine vcIf.no ?_ ?_; (focus (simp [hA.not, hA.eq, hA.lt, hA.le, hA.cond, hA.beq, hA.orb, hL.len, hL.slen, hL.sq]; done)); cbv) | fail)
    exact hret _ (RetEv.ret eOk rfl (.inl ⟨hgs, rfl⟩))
  | true =>
    obtain ⟨d1, d2⟩ := of_decide_eq_true hd.symm
    have d2 := hz5.1 d2
    cbv
    repeat (first | (refine vcIf.yes ?_ ?_; (focus (simp [hA.not, hA.eq, hA.lt, hA.le, hA.cond, hA.beq, hA.orb, hL.len, hL.slen, hL.sq]; done)); cbv) | (refine vcIf.no ?_ ?_; (focus (simp [hA.not, hA.eq, hA.lt, hA.le, hA.cond, hA.beq, hA.orb, hL.len, hL.slen, hL.sq]; done)); cbv) | fail)
    refine hcall _ _ _ _ _ (CallEv.same hst rfl ?_)
    rintro _ _ ⟨b, hb, rfl, rfl⟩
    rw [← hb] at hgs
    cbv
    cases b with
    | false =>
      rw [if_neg (fun c => by cases c.2.2)] at hgs
      repeat (first | (refine vcIf.yes ?_ ?_; (focus (simp [hA.not, hA.eq, hA.lt, hA.le, hA.cond, hA.beq, hA.orb, hL.len, hL.slen, hL.sq]; done)); cbv) | (refine vcIf.no ?_ ?_; (focus (simp [hA.not, hA.eq, hA.lt, hA.le, hA.cond, hA.beq, hA.orb, hL.len, hL.slen, hL.sq]; done)); cbv) | fail)
      exact hret _ (RetEv.ret eOk rfl (.inl ⟨hgs, rfl⟩))
    | true =>
      rw [if_pos ⟨d1, d2, rfl⟩] at hgs
      repeat (first | (refine vcIf.yes ?_ ?_; (focus (simp [hA.not, hA.eq, hA.lt, hA.le, hA.cond, hA.beq, hA.orb, hL.len, hL.slen, hL.sq]; done)); cbv) | (refine vcIf.no ?_ ?_; (focus (simp [hA.not, hA.eq, hA.lt, hA.le, hA.cond, hA.beq, hA.orb, hL.len, hL.slen, hL.sq]; done)); cbv) | fail)
      exact hret _ (RetEv.ret eOk rfl (.inr ⟨s, zs, hgs, by rw [hsd]; exact gz, by subst hsd; rfl⟩))

/-! The document's: it reads on behind an error -/
def rdNsT : Nat → List UInt8 → Nat → List Int × List UInt8 × Nat
  | 0, l, e => ([], l, e)
  | k + 1, l, e => (((rdNsT k l e).1 ++ [((rdN (rdNsT k l e).2.1 (rdNsT k l e).2.2).1 : Int)]), (rdN (rdNsT k l e).2.1 (rdNsT k l e).2.2).2)
theorem rdN_bad {l : List UInt8} {e : Nat} (h : e ≠ 0) : rdN l e = (0, l, e) := by unfold rdN; rw [if_pos h]
theorem rdNs_snoc : ∀ (k : Nat) (l : List UInt8) (e : Nat), (rdNs k l e).2.2 = 0 → rdNs (k + 1) l e = ((rdNs k l e).1 ++ [((rdN (rdNs k l e).2.1 (rdNs k l e).2.2).1 : Int)], (rdN (rdNs k l e).2.1 (rdNs k l e).2.2).2)
  | 0, l, e, h => by
    have he : e = 0 := h
    subst he
    simp [rdNs]
  | k + 1, l, e, h => by
    have he : e = 0 := by
      rcases Nat.eq_zero_or_pos e with c | c
      · exact c
      · rw [rdNs_err _ _ (by omega)] at h; exact h
    subst he
    rw [rdNs, if_neg (by simp)]
    rw [rdNs, if_neg (by simp)] at h
    simp only at h
    have ih := rdNs_snoc k (rdN l 0).2.1 (rdN l 0).2.2 h
    conv => rhs; rw [rdNs, if_neg (by simp)]
    simp only
    rw [ih]
    simp
theorem rdNs_stop : ∀ (k : Nat) (l : List UInt8) (e : Nat), (rdNs k l e).2.2 ≠ 0 → (rdNs (k + 1) l e).2.2 ≠ 0
  | 0, l, e, h => by
    have he : e ≠ 0 := h
    rw [rdNs_err _ _ he]; exact he
  | k + 1, l, e, h => by
    by_cases he : e = 0
    · subst he
      rw [rdNs, if_neg (by simp)] at h ⊢
      simp only at h ⊢
      exact rdNs_stop k _ _ h
    · rw [rdNs_err _ _ he]; exact he
theorem rdNsT_eq : ∀ (k : Nat) (l : List UInt8) (e : Nat), ((rdNsT k l e).2.2 = 0 ∧ rdNs k l e = rdNsT k l e) ∨ ((rdNsT k l e).2.2 ≠ 0 ∧ (rdNs k l e).2.2 ≠ 0)
  | 0, l, e => by
    by_cases h : e = 0
    · exact .inl ⟨h, rfl⟩
    · exact .inr ⟨h, h⟩
  | k + 1, l, e => by
    rcases rdNsT_eq k l e with ⟨h1, h2⟩ | ⟨h1, h2⟩
    · have h3 := rdNs_snoc k l e (by rw [h2]; exact h1)
      rw [h2] at h3
      have h4 : rdNs (k + 1) l e = rdNsT (k + 1) l e := h3
      by_cases h : (rdNsT (k + 1) l e).2.2 = 0
      · exact .inl ⟨h, h4⟩
      · exact .inr ⟨h, by rw [h4]; exact h⟩
    · refine .inr ⟨?_, rdNs_stop k l e h2⟩
      rw [rdNsT, rdN_bad h1]
      exact h1
theorem rdNsT_len : ∀ (k : Nat) (l : List UInt8) (e : Nat), (rdNsT k l e).1.length = k
  | 0, l, e => rfl
  | k + 1, l, e => by rw [rdNsT]; simp [rdNsT_len k l e]

structure GI where
  i : Nat
  ns : List PV
  zs : List PV
  b : Bool
theorem rGetState_spec (l : List UInt8) (xs : List PV) (hxs : xs = bP l) : FnL Try.prog 25 [.p (.sl xs)] [] (sttR (gSt l)) := by
  refine sttR.of ?_
  refine fn_of_vc eOk fOk fo25 Try.func25 rfl rfl rfl fun B hB => ?_
  intro add sub mul quo rem band bor bxor bclr shl shr ieq ilt ile seq slt beq bnot orb bcond iwrap iof ssz hA cat sq sl imin imax smin smax len slen u8 hL op hop call hcall code hcode ret hret
  cbv
  have hN1 := rrNum_spec l 0 xs hxs false rfl
  refine hcall _ _ _ _ _ (CallEv.lend [1] hN1 rfl (.cons (.own 0 1 0 rfl) .nil) (rrL rfl) ?_)
  rintro _ _ ⟨n1, l1, e1, z1, b1, h1, g1, d1, rfl, rfl⟩
  cbv
  have hN2 := rrNum_spec l1 e1 z1 g1 b1 d1
  refine hcall _ _ _ _ _ (CallEv.lend [1] hN2 rfl (.cons (.own 0 1 0 rfl) .nil) (rrL rfl) ?_)
  rintro _ _ ⟨n2, l2, e2, z2, b2, h2, g2, d2, rfl, rfl⟩
  cbv
  have hN3 := rrNum_spec l2 e2 z2 g2 b2 d2
  refine hcall _ _ _ _ _ (CallEv.lend [1] hN3 rfl (.cons (.own 0 1 0 rfl) .nil) (rrL rfl) ?_)
  rintro _ _ ⟨n3, l3, e3, z3, b3, h3, g3, d3, rfl, rfl⟩
  cbv
  have hN4 := rrNum_spec l3 e3 z3 g3 b3 d3
  refine hcall _ _ _ _ _ (CallEv.lend [1] hN4 rfl (.cons (.own 0 1 0 rfl) .nil) (rrL rfl) ?_)
  rintro _ _ ⟨n4, l4, e4, z4, b4, h4, g4, d4, rfl, rfl⟩
  cbv
  have hgs0 : n4 ≤ 16 → gSt l = if (rdNs n4 l4 e4).2.2 = 0 ∧ (rdNs n4 l4 e4).2.1 = [] ∧ Stt.okB ⟨n1, n2, n3, (rdNs n4 l4 e4).1⟩ = true then (⟨n1, n2, n3, (rdNs n4 l4 e4).1⟩, 0) else (Stt.zero, 2) := fun h => by
    have hc : rdC l3 e3 16 = (n4, l4, e4) := by unfold rdC; rw [← h4]; exact if_neg (show ¬ 16 < n4 by omega)
    unfold gSt; rw [← h1]; simp only; rw [← h2]; simp only; rw [← h3]; simp only; rw [hc]
  have hgs1 : 16 < n4 → gSt l = (Stt.zero, 2) := fun h => by
    have hc : rdC l3 e3 16 = (0, l4, 2) := by unfold rdC; rw [← h4]; exact if_pos (show 16 < n4 from h)
    unfold gSt; rw [← h1]; simp only; rw [← h2]; simp only; rw [← h3]; simp only; rw [hc]
    simp only
    rw [rdNs_err _ _ (by decide)]; simp
  refine hcode _ _ _ (CodeEv.conv (Conv.hollowC 2 3 3 1 (by decide) rfl rfl) (CodeEv.loopX eOk fOk (ι := GI) (κ := GI) (fun s => [(2, .own 0 0), (4, .own 1 0), (5, .own 2 0), (6, .p (.int .i64 (Int.ofNat n4))), (7, .p (.int .i64 (Int.ofNat s.i)))])
    (fun s => [.st 40 [.p (.int .i64 0), .p (.int .i64 0), .p (.int .i64 0), .p .nils], rrSt s.zs s.b, .st 40 [.p (.int .i64 (Int.ofNat n1)), .p (.int .i64 (Int.ofNat n2)), .p (.int .i64 (Int.ofNat n3)), .vw 3 1 0 s.i none], .arr 3 1 s.ns])
    (fun s => (s.i = 0 ∨ s.i ≤ n4 ∧ n4 ≤ 16) ∧ s.ns = iP (rdNsT s.i l4 e4).1 ∧ s.zs = bP (rdNsT s.i l4 e4).2.1 ∧ s.b = decide ((rdNsT s.i l4 e4).2.2 ≠ 0)) (fun s => n4 - s.i) ⟨0, [], z4, b4⟩ 0
    (fun s => [(2, .own 0 0), (4, .own 1 0), (5, .own 2 0), (6, .p (.int .i64 (Int.ofNat n4)))])
    (fun s => [.st 40 [.p (.int .i64 0), .p (.int .i64 0), .p (.int .i64 0), .p .nils], rrSt s.zs s.b, .st 40 [.p (.int .i64 (Int.ofNat n1)), .p (.int .i64 (Int.ofNat n2)), .p (.int .i64 (Int.ofNat n3)), .vw 3 1 0 s.i none], .arr 3 1 s.ns])
    (fun s => (16 < n4 ∧ s.i = 0 ∨ s.i = n4 ∧ n4 ≤ 16) ∧ s.ns = iP (rdNsT s.i l4 e4).1 ∧ s.zs = bP (rdNsT s.i l4 e4).2.1 ∧ s.b = decide ((rdNsT s.i l4 e4).2.2 ≠ 0)) ?_ ?_ ?_))
  · exact ⟨(by repeat (first | exact trivial | refine And.intro rfl ?_)), rfl, .inl rfl, rfl, g4, d4⟩
  · rintro ⟨i, ns, zs, b⟩ ⟨k1, k2, k3, k4⟩ rd hrd out hout
    simp only at k1 k2 k3 k4
    have hnl : ns.length = i := by rw [k2, iP_length, rdNsT_len]
    obtain ⟨li, hli⟩ : ∃ x, x = (rdNsT i l4 e4).2.1 := ⟨_, rfl⟩
    obtain ⟨ei, hei⟩ : ∃ x, x = (rdNsT i l4 e4).2.2 := ⟨_, rfl⟩
    rw [← hli] at k3
    rw [← hei] at k4
    have hN := rrNum_spec li ei zs k3 b k4
    intro add1 sub1 mul1 quo1 rem1 band1 bor1 bxor1 bclr1 shl1 shr1 ieq1 ilt1 ile1 seq1 slt1 beq1 bnot1 orb1 bcond1 iwrap1 iof1 ssz1 hA1 cat1 sq1 sl1 imin1 imax1 smin1 smax1 len1 slen1 u81 hL1 op1 hop1 call1 hcall1 code1 hcode1
    have hadd1 : i ≤ 16 → add1 .i64 (Int.ofNat i) 1 = Int.ofNat (i + 1) := fun _ => by rw [hA1.add, IntWalk.i64_in _ (by simp only [Int.ofNat_eq_natCast]; omega)]; rfl
    cbv
    by_cases hi : i < n4
    · refine vcIf.yes (by first | (simp [hA1.not, hA1.eq, hA1.lt, hA1.le, hA1.cond, hA1.beq, hA1.orb, hL1.len, hL1.slen, hL1.sq, hi]; done) | (simp only [hi]; simp [hA1.not, hA1.eq, hA1.lt, hA1.le, hA1.cond, hA1.beq, hA1.orb, hL1.len, hL1.slen, hL1.sq, hi]; done) | (simp [hA1.not, hA1.eq, hA1.lt, hA1.le, hA1.cond, hA1.beq, hA1.orb, hL1.len, hL1.slen, hL1.sq, hi]; omega) | (simp only [hi]; simp [hA1.not, hA1.eq, hA1.lt, hA1.le, hA1.cond, hA1.beq, hA1.orb, hL1.len, hL1.slen, hL1.sq, hi]; omega)) ?_
      cbv
      by_cases h16 : n4 ≤ 16
      · refine vcIf.yes (by rw [hA1.cond, hA1.le]; exact dle h16) ?_
        cbv
        refine hcode1 _ _ _ (CodeEv.drawT eOk fOk (by kernel_rfl) allX (.rd 0 (.rd 2 (.acts (.cons 1 (.acts (.cons 3 (.acts (.cons 4 (.acts (.cons 5 (.so 6 (.acts (.cons 7 (.done) (.nil)))) (.nil))) (.nil))) (.nil))) (.cons 3 (.acts (.cons 1 (.acts (.cons 4 (.acts (.cons 5 (.so 6 (.acts (.cons 7 (.done) (.nil)))) (.nil))) (.nil))) (.cons 4 (.so 1 (.acts (.cons 5 (.so 6 (.acts (.cons 7 (.done) (.nil)))) (.nil)))) (.nil)))) (.nil)))))) (by kernel_rfl) (by kernel_rfl) ?_)
        intro add2 sub2 mul2 quo2 rem2 band2 bor2 bxor2 bclr2 shl2 shr2 ieq2 ilt2 ile2 seq2 slt2 beq2 bnot2 orb2 bcond2 iwrap2 iof2 ssz2 hA2 cat2 sq2 sl2 imin2 imax2 smin2 smax2 len2 slen2 u82 hL2 op2 hop2 call2 hcall2 code2 hcode2 q2 hq2
        cbv
        refine ⟨?_, ?_⟩
        · refine hcall2 _ _ _ _ _ (CallEv.lend [1] hN rfl (.cons (.own 0 1 0 rfl) .nil) (rrL rfl) ?_)
          rintro _ _ ⟨n, l', e', z', b', q1, q2, q3, rfl, rfl⟩
          cbv
          refine ⟨false, ?_⟩
          cbv
          refine .inl ⟨(), rfl, hnl.symm, Wf.one (PV.wf1 rfl), ?_, ?_, ?_⟩
          · show i + 1 ≤ maxLen
            unfold maxLen; omega
          · show (i + 1) * 8 ≤ _
            omega
          intro us n' hu hn'
          replace hu : us = ns ++ [.int .i64 (Int.ofNat n)] := hu
          obtain rfl : n' = i + 1 := hn'
          cbv
          refine hq2 _ ?_
          cbv
          refine hrd _ ⟨⟨i + 1, us, z', b'⟩, [], ?_, ⟨.inr ⟨hi, h16⟩, ?_, ?_, ?_⟩, rfl, ⟨rfl, rfl, rfl, rfl, ?_, trivial⟩, rfl, rfl, rfl, ?_⟩
          · simp only; omega
          · simp only; rw [rdNsT, ← hli, ← hei, ← q1, hu, k2, iP_append]; rfl
          · simp only; rw [rdNsT, ← hli, ← hei, ← q1]; exact q2
          · simp only; rw [rdNsT, ← hli, ← hei, ← q1]; exact q3
          · show some (V.p (.int .i64 _)) = _
            rw [hadd1 (by omega)]
          · rw [hB]; exact Nat.zero_le _
        · refine hcall2 _ _ _ _ _ (CallEv.lend [1] hN rfl (.cons (.own 0 1 0 rfl) .nil) (rrL rfl) ?_)
          rintro _ _ ⟨n, l', e', z', b', q1, q2, q3, rfl, rfl⟩
          cbv
          refine ⟨?_, ?_⟩
          · refine ⟨false, ?_⟩
            cbv
            refine .inl ⟨(), rfl, hnl.symm, Wf.one (PV.wf1 rfl), ?_, ?_, ?_⟩
            · show i + 1 ≤ maxLen
              unfold maxLen; omega
            · show (i + 1) * 8 ≤ _
              omega
            intro us n' hu hn'
            replace hu : us = ns ++ [.int .i64 (Int.ofNat n)] := hu
            obtain rfl : n' = i + 1 := hn'
            cbv
            refine hq2 _ ?_
            cbv
            refine hrd _ ⟨⟨i + 1, us, z', b'⟩, [], ?_, ⟨.inr ⟨hi, h16⟩, ?_, ?_, ?_⟩, rfl, ⟨rfl, rfl, rfl, rfl, ?_, trivial⟩, rfl, rfl, rfl, ?_⟩
            · simp only; omega
            · simp only; rw [rdNsT, ← hli, ← hei, ← q1, hu, k2, iP_append]; rfl
            · simp only; rw [rdNsT, ← hli, ← hei, ← q1]; exact q2
            · simp only; rw [rdNsT, ← hli, ← hei, ← q1]; exact q3
            · show some (V.p (.int .i64 _)) = _
              rw [hadd1 (by omega)]
            · rw [hB]; exact Nat.zero_le _
          · refine ⟨false, ?_⟩
            cbv
            refine .inl ⟨(), rfl, hnl.symm, Wf.one (PV.wf1 rfl), ?_, ?_, ?_⟩
            · show i + 1 ≤ maxLen
              unfold maxLen; omega
            · show (i + 1) * 8 ≤ _
              omega
            intro us n' hu hn'
            replace hu : us = ns ++ [.int .i64 (Int.ofNat n)] := hu
            obtain rfl : n' = i + 1 := hn'
            cbv
            refine hq2 _ ?_
            cbv
            refine hrd _ ⟨⟨i + 1, us, z', b'⟩, [], ?_, ⟨.inr ⟨hi, h16⟩, ?_, ?_, ?_⟩, rfl, ⟨rfl, rfl, rfl, rfl, ?_, trivial⟩, rfl, rfl, rfl, ?_⟩
            · simp only; omega
            · simp only; rw [rdNsT, ← hli, ← hei, ← q1, hu, k2, iP_append]; rfl
            · simp only; rw [rdNsT, ← hli, ← hei, ← q1]; exact q2
            · simp only; rw [rdNsT, ← hli, ← hei, ← q1]; exact q3
            · show some (V.p (.int .i64 _)) = _
              rw [hadd1 (by omega)]
            · rw [hB]; exact Nat.zero_le _
      · have hi0 : i = 0 := by omega
        refine vcIf.no (by rw [hA1.cond, hA1.le]; exact dle' h16) ?_
        cbv
        refine hout _ ⟨⟨i, ns, zs, b⟩, [], ⟨.inl ⟨by omega, hi0⟩, k2, by rw [k3, hli], by rw [k4, hei]⟩, rfl, (by repeat (first | exact trivial | refine And.intro rfl ?_)), rfl, rfl, rfl, ?_⟩
        rw [hB]; exact Nat.zero_le _
    · refine vcIf.no (by first | (simp [hA1.not, hA1.eq, hA1.lt, hA1.le, hA1.cond, hA1.beq, hA1.orb, hL1.len, hL1.slen, hL1.sq, hi]; done) | (simp only [hi]; simp [hA1.not, hA1.eq, hA1.lt, hA1.le, hA1.cond, hA1.beq, hA1.orb, hL1.len, hL1.slen, hL1.sq, hi]; done) | (simp [hA1.not, hA1.eq, hA1.lt, hA1.le, hA1.cond, hA1.beq, hA1.orb, hL1.len, hL1.slen, hL1.sq, hi]; omega) | (simp only [hi]; simp [hA1.not, hA1.eq, hA1.lt, hA1.le, hA1.cond, hA1.beq, hA1.orb, hL1.len, hL1.slen, hL1.sq, hi]; omega)) ?_
      cbv
      repeat (first | (refine vcIf.yes ?_ ?_; (focus (simp [hA1.not, hA1.eq, hA1.lt, hA1.le, hA1.cond, hA1.beq, hA1.orb, hL1.len, hL1.slen, hL1.sq]; done)); cbv) | (refine vcIf.no ?_ ?_; (focus (simp [hA1.not, hA1.eq, hA1.lt, hA1.le, hA1.cond, hA1.beq, hA1.orb, hL1.len, hL1.slen, hL1.sq]; done)); cbv) | fail)
      refine hout _ ⟨⟨i, ns, zs, b⟩, [], ⟨by simp only; omega, k2, by rw [k3, hli], by rw [k4, hei]⟩, rfl, (by repeat (first | exact trivial | refine And.intro rfl ?_)), rfl, rfl, rfl, ?_⟩
      rw [hB]; exact Nat.zero_le _
  · rintro ⟨i, ns, zs, b⟩ ⟨k1, k2, k3, k4⟩
    simp only at k1 k2 k3 k4
    have hnl : ns.length = i := by rw [k2, iP_length, rdNsT_len]
    by_cases h16 : 16 < n4
    · have hgs := hgs1 h16
      cbv
      refine vcIf.yes (by first | (simp [hA.not, hA.eq, hA.lt, hA.le, hA.cond, hA.beq, hA.orb, hL.len, hL.slen, hL.sq, h16]; done) | (simp only [h16]; simp [hA.not, hA.eq, hA.lt, hA.le, hA.cond, hA.beq, hA.orb, hL.len, hL.slen, hL.sq, h16]; done) | (simp [hA.not, hA.eq, hA.lt, hA.le, hA.cond, hA.beq, hA.orb, hL.len, hL.slen, hL.sq, h16]; omega) | (simp only [h16]; simp [hA.not, hA.eq, hA.lt, hA.le, hA.cond, hA.beq, hA.orb, hL.len, hL.slen, hL.sq, h16]; omega)) ?_
      cbv
      repeat (first | (refine vcIf.yes ?_ ?_; (focus (simp [hA.not, hA.eq, hA.lt, hA.le, hA.cond, hA.beq, hA.orb, hL.len, hL.slen, hL.sq]; done)); cbv) | (refine vcIf.no ?_ ?_; (focus (simp [hA.not, hA.eq, hA.lt, hA.le, hA.cond, hA.beq, hA.orb, hL.len, hL.slen, hL.sq]; done)); cbv) | fail)
      exact hret _ (RetEv.ret eOk rfl (.inl ⟨hgs, rfl⟩))
    obtain rfl : i = n4 := by omega
    have hgs := hgs0 (by omega)
    obtain ⟨⟨ms, lf, ef⟩, hT⟩ : ∃ r, r = rdNsT i l4 e4 := ⟨_, rfl⟩
    rw [← hT] at k2 k3 k4
    simp only at k2 k3 k4
    have hbad : ef ≠ 0 → gSt l = (Stt.zero, 2) := fun h => by
      rcases rdNsT_eq i l4 e4 with ⟨q1, _⟩ | ⟨_, q2⟩
      · rw [← hT] at q1; exact absurd q1 h
      · rw [hgs, if_neg (fun c => q2 c.1)]
    obtain ⟨s, hsd⟩ : ∃ s : Stt, s = ⟨n1, n2, n3, ms⟩ := ⟨_, rfl⟩
    have hgood : ef = 0 → gSt l = if lf = [] ∧ s.okB = true then (s, 0) else (Stt.zero, 2) := fun h => by
      rcases rdNsT_eq i l4 e4 with ⟨_, q2⟩ | ⟨q1, _⟩
      · rw [hgs, q2, ← hT]; simp only [h, true_and]; rw [hsd]
      · rw [← hT] at q1; exact absurd h q1
    have hml : ms.length = i := by have := rdNsT_len i l4 e4; rw [← hT] at this; exact this
    have hst : ∀ us, us = ns → FnL Try.prog 64 [.p (.agg [.int .i64 n1, .int .i64 n2, .int .i64 n3, .sl us])] [] fun v own => ∃ b, b = s.okB ∧ v = .p (.bool b) ∧ own = [] := fun us hu => by
      have := rState_spec s (by rw [hsd]; simp only; omega) us (by rw [hu, hsd]; exact k2)
      rw [hsd] at this ⊢
      exact this
    have hzl : zs.length = lf.length := by rw [k3, bP_length]
    cbv
    refine vcIf.no (by first | (simp [hA.not, hA.eq, hA.lt, hA.le, hA.cond, hA.beq, hA.orb, hL.len, hL.slen, hL.sq, h16]; done) | (simp only [h16]; simp [hA.not, hA.eq, hA.lt, hA.le, hA.cond, hA.beq, hA.orb, hL.len, hL.slen, hL.sq, h16]; done) | (simp [hA.not, hA.eq, hA.lt, hA.le, hA.cond, hA.beq, hA.orb, hL.len, hL.slen, hL.sq, h16]; omega) | (simp only [h16]; simp [hA.not, hA.eq, hA.lt, hA.le, hA.cond, hA.beq, hA.orb, hL.len, hL.slen, hL.sq, h16]; omega)) ?_
    cbv
    cases b with
    | true =>
      have hgs := hbad (of_decide_eq_true k4.symm)
      cbv
      repeat (first | (refine vcIf.yes ?_ ?_; (focus (simp [hA.not, hA.eq, hA.lt, hA.le, hA.cond, hA.beq, hA.orb, hL.len, hL.slen, hL.sq]; done)); cbv) | (refine vcIf.no ?_ ?_; (focus (simp [hA.not, hA.eq, hA.lt, hA.le, hA.cond, hA.beq, hA.orb, hL.len, hL.slen, hL.sq]; done)); cbv) | fail)
      exact hret _ (RetEv.ret eOk rfl (.inl ⟨hgs, rfl⟩))
    | false =>
      have he0 : ef = 0 := by have := of_decide_eq_false k4.symm; simpa using this
      have hgs := hgood he0
      cbv
      repeat (first | (refine vcIf.yes ?_ ?_; (focus (simp [hA.not, hA.eq, hA.lt, hA.le, hA.cond, hA.beq, hA.orb, hL.len, hL.slen, hL.sq]; done)); cbv) | (refine vcIf.no ?_ ?_; (focus (simp [hA.not, hA.eq, hA.lt, hA.le, hA.cond, hA.beq, hA.orb, hL.len, hL.slen, hL.sq]; done)); cbv) | fail)
      by_cases hlf : lf = []
      rotate_left
      · rw [if_neg (fun c => hlf c.1)] at hgs
        have : 0 < lf.length := List.length_pos_iff.2 hlf
        refine vcIf.yes (by simp [hA.cond, hA.lt, hL.len, hzl]; omega) ?_
        cbv
        repeat (first | (refine vcIf.yes ?_ ?_; (focus (simp [hA.not, hA.eq, hA.lt, hA.le, hA.cond, hA.beq, hA.orb, hL.len, hL.slen, hL.sq]; done)); cbv) | (refine vcIf.no ?_ ?_; (focus (simp [hA.not, hA.eq, hA.lt, hA.le, hA.cond, hA.beq, hA.orb, hL.len, hL.slen, hL.sq]; done)); cbv) | fail)
        exact hret _ (RetEv.ret eOk rfl (.inl ⟨hgs, rfl⟩))
      refine vcIf.no (by simp [hA.cond, hA.lt, hL.len, hzl, hlf]) ?_
      cbv
      refine hcall _ _ _ _ _ (CallEv.freezeG 3 rfl (by rw [hB]; exact Nat.zero_le _) fun g hg => CallEv.same (hst (g 0 i) (by rw [hg, frz_full hnl])) rfl ?_)
      rintro _ _ ⟨ok, hok, rfl, rfl⟩
      have hgn : g 0 i = ns := by rw [hg, frz_full hnl]
      rw [← hok] at hgs
      cbv
      cases ok with
      | false =>
        rw [if_neg (fun c => by cases c.2)] at hgs
        repeat (first | (refine vcIf.yes ?_ ?_; (focus (simp [hA.not, hA.eq, hA.lt, hA.le, hA.cond, hA.beq, hA.orb, hL.len, hL.slen, hL.sq]; done)); cbv) | (refine vcIf.no ?_ ?_; (focus (simp [hA.not, hA.eq, hA.lt, hA.le, hA.cond, hA.beq, hA.orb, hL.len, hL.slen, hL.sq]; done)); cbv) | fail)
        exact hret _ (RetEv.ret eOk rfl (.inl ⟨hgs, rfl⟩))
      | true =>
        rw [if_pos ⟨hlf, rfl⟩] at hgs
        repeat (first | (refine vcIf.yes ?_ ?_; (focus (simp [hA.not, hA.eq, hA.lt, hA.le, hA.cond, hA.beq, hA.orb, hL.len, hL.slen, hL.sq]; done)); cbv) | (refine vcIf.no ?_ ?_; (focus (simp [hA.not, hA.eq, hA.lt, hA.le, hA.cond, hA.beq, hA.orb, hL.len, hL.slen, hL.sq]; done)); cbv) | fail)
        refine hret _ (RetEv.ret eOk rfl (.inr ⟨s, g 0 i, hgs, by rw [hgn, hsd]; exact k2, by subst hsd; rfl⟩))
theorem sameState_spec (s : Stt) (hs : s.fit) (x : PV) (hx : SttIs s x) : FnL Try.prog 26 [.p x, .p x] [] fun v own => v = .p (.bool true) := by
  obtain ⟨zs, hz, rfl⟩ := hx
  have hi := ints_spec s.ch s.ch hs.2.2
  rw [← hz, decide_eq_true rfl] at hi
  obtain ⟨g, e, r, ch⟩ := s
  simp only at hi ⊢
  refine fn_of_vc eOk fOk fo26 Try.func26 rfl rfl rfl fun B hB => ?_
  intro add sub mul quo rem band bor bxor bclr shl shr ieq ilt ile seq slt beq bnot orb bcond iwrap iof ssz hA cat sq sl imin imax smin smax len slen u8 hL op hop call hcall code hcode ret hret
  cbv
  repeat (first | (refine vcIf.yes ?_ ?_; (focus (simp [hA.not, hA.eq, hA.lt, hA.le, hA.cond, hA.beq, hA.orb, hL.len, hL.slen, hL.sq]; done)); cbv) | (refine vcIf.no ?_ ?_; (focus (simp [hA.not, hA.eq, hA.lt, hA.le, hA.cond, hA.beq, hA.orb, hL.len, hL.slen, hL.sq]; done)); cbv) | fail)
  refine hcall _ _ _ _ _ (CallEv.same hi rfl ?_)
  rintro _ _ ⟨rfl, rfl⟩
  cbv
  exact hret _ (RetEv.ret eOk rfl (by simp [hA.not, hA.eq, hA.lt, hA.le, hA.cond, hA.beq, hA.orb, hL.len, hL.slen, hL.sq, oneOf]))
end Go.Proofs.Ytmenbognkdeipaa
