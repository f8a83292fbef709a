/- States laid and read. Conditions: on sizes. -/
import Derived.Test.YtnigonhkfpnodaaLFr6
set_option maxRecDepth 100000
set_option maxHeartbeats 4000000
set_option linter.unusedSimpArgs false
set_option linter.unusedVariables false
namespace Go.Proofs.Ytnigonhkfpnodaa
open Go Go.Lx
open Go.Sx (vcIf)

/-- Bytes of a state. -/
def sBytes (s : Stt) : List UInt8 := encs [s.gen, s.epoch, s.recv, (s.ch.length : Int)] ++ encs s.ch
def sEnc (s : Stt) : List UInt8 × Nat := if s.okB = true then (sBytes s, 0) else ([], 2)
theorem Stt.ok_iff (s : Stt) : s.okB = true ↔ (0 ≤ s.gen ∧ 0 ≤ s.epoch ∧ 0 ≤ s.recv ∧ s.ch.length ≤ 16 ∧ ∀ z ∈ s.ch, 0 ≤ z ∧ z ≤ 255) := by unfold Stt.okB; rw [decide_eq_true_eq]
theorem iP4 (a b c d : Int) : iP [a, b, c, d] = [PV.int .i64 a, PV.int .i64 b, PV.int .i64 c, PV.int .i64 d] := rfl

/-- Bytes, and an error: as a result. -/
def bytesR (r : List UInt8 × Nat) (v : V) (own : List Res) : Prop := ∃ (ys : List PV) (l : List UInt8) (e : Nat), (l, e) = r ∧ ys = bP l ∧ v = .p (.tup [.sl ys, .int .i64 (Int.ofNat e)]) ∧ own = []
theorem bytesR.of {f : FuncId} {args : List V} {r : List UInt8 × Nat} (h : FnL Try.prog f args [] fun v own => ∃ (ys : List PV) (l : List UInt8) (e : Nat), (l, e) = r ∧ ys = bP l ∧ (v = .p (.tup [.sl ys, .int .i64 (Int.ofNat e)]) ∨ ys = [] ∧ v = .p (.tup [.nils, .int .i64 (Int.ofNat e)]))) :
    FnL Try.prog f args [] (bytesR r) := by
  refine h.flat ?_
  rintro _ _ ⟨ys, m, e, h1, h2, rfl | ⟨h3, rfl⟩⟩
  · exact ⟨_, _, rfl, .refl _, ys, m, e, h1, h2, rfl, rfl⟩
  · exact ⟨_, .tup [.sl [], .int .i64 (Int.ofNat e)], rfl, PW.tup ⟨PW.nils, .refl _, trivial⟩, ys, m, e, h1, h2, by rw [h3], rfl⟩

theorem frPutState_spec (s : Stt) (hs : s.fit) (zs : List PV) (hzs : zs = iP s.ch) :
    FnL Try.prog 103 [.p (.agg [.int .i64 s.gen, .int .i64 s.epoch, .int .i64 s.recv, .sl zs])] [] (bytesR (sEnc s)) := by
  refine bytesR.of ?_
  have hst := frState_spec s hs.2.2 zs hzs
  have hok := s.ok_iff
  obtain ⟨R, hR⟩ : ∃ R, R = sEnc s := ⟨_, rfl⟩
  rw [← hR]
  unfold sEnc at hR
  obtain ⟨g, e, r, ch⟩ := s
  unfold sBytes at hR
  obtain ⟨hs1, hs2, hs3⟩ := hs
  simp only at hst hok hR hzs hs1 hs2 hs3 ⊢
  have hzl : zs.length = ch.length := by rw [hzs, iP_length]
  obtain ⟨N, hN⟩ : ∃ N, N = ch.length := ⟨_, rfl⟩
  rw [← hN] at hzl hok
  refine fn_of_vc eOk fOk fo103 Try.func103 rfl rfl rfl fun B hB => ?_
  intro add sub mul quo rem band bor bxor bclr shl shr ieq ilt ile seq slt beq bnot orb bcond iwrap iof ssz hA cat sq sl imin imax smin smax len slen u8 hL op hop call hcall code hcode ret hret
  have hlen : len zs = Int.ofNat N := by rw [hL.len, hzl]; rfl
  cbv
  refine hcall _ _ _ _ _ (CallEv.same hst rfl ?_)
  rintro _ _ ⟨b, hb, rfl, rfl⟩
  rw [← hb] at hok hR
  cbv
  cases b with
  | false =>
    rw [if_neg (by decide)] at hR
    repeat (first | (refine vcIf.yes ?_ ?_; (focus (simp [hA.not, hA.eq, hA.lt, hA.le, hA.cond, hA.beq, hA.orb, hL.len, hL.slen, hL.sq]; done)); cbv) | (refine vcIf.no ?_ ?_; (focus (simp [hA.not, hA.eq, hA.lt, hA.le, hA.cond, hA.beq, hA.orb, hL.len, hL.slen, hL.sq]; done)); cbv) | fail)
    exact hret _ (RetEv.ret eOk rfl ⟨[], [], 2, hR.symm, rfl, .inr ⟨rfl, rfl⟩⟩)
  | true =>
    rw [if_pos rfl] at hR
    obtain ⟨k1, k2, k3, k4, k5⟩ := hok.1 rfl
    have hn1 := wr0_of (wrNums_spec [g, e, r, Int.ofNat N] _ rfl (fun z hz => by
      simp only [List.mem_cons, List.not_mem_nil, or_false] at hz
      rcases hz with rfl | rfl | rfl | rfl
      · exact (hs1 _ (by simp)).2
      · exact (hs1 _ (by simp)).2
      · exact (hs1 _ (by simp)).2
      · simp only [Int.ofNat_eq_natCast]; omega) 0 0 [] rfl (by simp))
    rw [iP4] at hn1
    have hok1 : ∀ z ∈ [g, e, r, Int.ofNat N], (0 : Int) ≤ z := fun z hz => by
      simp only [List.mem_cons, List.not_mem_nil, or_false] at hz
      rcases hz with rfl | rfl | rfl | rfl
      · exact k1
      · exact k2
      · exact k3
      · exact Int.natCast_nonneg N
    have hn2 := fun (n1 : Nat) (e1 : Int) (ys1 : List PV) (w1 : ys1.length = n1) (w2 : n1 ≤ 0 + 9 * [g, e, r, Int.ofNat N].length) => wrNums_spec ch zs hzs (fun z hz => (hs2 z hz).2) n1 e1 ys1 w1 (by simp at w2; omega)
    cbv
    repeat (first | (refine vcIf.yes ?_ ?_; (focus (simp [hA.not, hA.eq, hA.lt, hA.le, hA.cond, hA.beq, hA.orb, hL.len, hL.slen, hL.sq]; done)); cbv) | (refine vcIf.no ?_ ?_; (focus (simp [hA.not, hA.eq, hA.lt, hA.le, hA.cond, hA.beq, hA.orb, hL.len, hL.slen, hL.sq]; done)); cbv) | fail)
    refine hcode _ _ _ (CodeEv.drawA eOk fOk (by kernel_rfl) (Xof 1 []) (by kernel_rfl) (by kernel_rfl) (by kernel_rfl) ?_)
    intro add2 sub2 mul2 quo2 rem2 band2 bor2 bxor2 bclr2 shl2 shr2 ieq2 ilt2 ile2 seq2 slt2 beq2 bnot2 orb2 bcond2 iwrap2 iof2 ssz2 hA2 cat2 sq2 sl2 imin2 imax2 smin2 smax2 len2 slen2 u82 hL2 op2 hop2 call2 hcall2 code2 hcode2 q2 hq2
    have hlen2 : len2 zs = Int.ofNat N := by rw [hL2.len, hzl]; rfl
    cbv
    rw [hlen2]
    refine ⟨false, ?_⟩
    cbv
    refine hcall2 _ _ _ _ _ (CallEv.lend [1] hn1 rfl (.cons (.own 0 1 0 rfl) (.cons (.p _) .nil)) (wrL0 rfl) ?_)
    rintro _ _ ⟨n1, e1, ys1, ⟨w1, w2, w3, w4⟩, rfl, rfl⟩
    have hnn := hn2 n1 e1 ys1 w1 w2
    obtain ⟨rfl, w5⟩ := w3 hok1
    cbv
    refine hcall2 _ _ _ _ _ (CallEv.lend [1, 2] hnn rfl (.cons (.own 0 1 0 rfl) (.cons (.p _) .nil)) (wrL rfl rfl rfl rfl) ?_)
    rintro _ _ ⟨n2, e2, ys2, ⟨u1, u2, u3, u4⟩, rfl, rfl⟩
    obtain ⟨rfl, u5⟩ := u3 (fun z hz => (k5 z hz).1)
    have hby := wrBytes_spec n2 0 ys2
    have hys : ys2 = bP (encs [g, e, r, (ch.length : Int)] ++ encs ch) := by rw [u5, w5, List.nil_append, ← bP_append, hN]; rfl
    cbv
    refine hcall2 _ _ _ _ _ (CallEv.lend [1, 2] hby rfl (.cons (.own 0 1 0 rfl) .nil) (wrL rfl rfl rfl rfl) ?_)
    rintro _ _ ⟨⟨_, rfl⟩ | ⟨he, _⟩, rfl⟩
    rotate_left
    · exact absurd rfl he
    cbv
    refine hq2 _ ?_
    cbv
    refine hret _ (RetEv.retF eOk rfl 2 rfl (by rw [hB]; exact Nat.zero_le _) ⟨ys2, _, 0, hR.symm, hys, .inl ?_⟩)
    show V.p (.tup [.sl ((ys2.drop 0).take n2), .int .i64 0]) = _
    rw [frz_full u1]; rfl
theorem rState_spec (s : Stt) (hs : s.ch.length < 9223372036854775807) (zs : List PV) (hzs : zs = iP s.ch) :
    FnL Try.prog 17 [.p (.agg [.int .i64 s.gen, .int .i64 s.epoch, .int .i64 s.recv, .sl zs])] [] fun v own => ∃ b, b = s.okB ∧ v = .p (.bool b) ∧ own = [] := by
  refine FnL.flat (R := fun v own => ∃ b, b = s.okB ∧ v = .p (.bool b)) ?_ (by rintro _ _ ⟨b, h, rfl⟩; exact ⟨_, _, rfl, .refl _, b, h, rfl, rfl⟩)
  have hok := s.ok_iff
  obtain ⟨R, hR⟩ : ∃ R, R = s.okB := ⟨_, rfl⟩
  rw [← hR] at hok ⊢
  clear hR
  obtain ⟨g, e, r, ch⟩ := s
  simp only at hs hzs hok ⊢
  have hzl : zs.length = ch.length := by rw [hzs, iP_length]
  have hl1 := least_spec [g, e, r] (by simp) _ rfl
  rw [show iP [g, e, r] = [PV.int .i64 g, PV.int .i64 e, PV.int .i64 r] from rfl] at hl1
  have hl2 := least_spec ch hs zs hzs
  obtain ⟨N, hN⟩ : ∃ N, N = ch.length := ⟨_, rfl⟩
  rw [← hN] at hzl hok hs
  have no : ∀ {b : Bool}, ¬ (0 ≤ g ∧ 0 ≤ e ∧ 0 ≤ r ∧ N ≤ 16 ∧ ∀ z ∈ ch, 0 ≤ z ∧ z ≤ 255) → false = R := fun h => by
    cases R with
    | false => rfl
    | true => exact absurd (hok.1 rfl) h
  refine fn_of_vc eOk fOk fo17 Try.func17 rfl rfl rfl fun B hB => ?_
  intro add sub mul quo rem band bor bxor bclr shl shr ieq ilt ile seq slt beq bnot orb bcond iwrap iof ssz hA cat sq sl imin imax smin smax len slen u8 hL op hop call hcall code hcode ret hret
  cbv
  refine ⟨false, ?_⟩
  cbv
  refine hcall _ _ _ _ _ (CallEv.same hl1 rfl ?_)
  rintro _ _ ⟨b1, hb1, rfl, rfl⟩
  cbv
  cases b1 with
  | false =>
    have hb1 := of_decide_eq_false hb1.symm
    repeat (first | (refine vcIf.yes ?_ ?_; (focus (simp [hA.not, hA.eq, hA.lt, hA.le, hA.cond, hA.beq, hA.orb, hL.len, hL.slen, hL.sq]; done)); cbv) | (refine vcIf.no ?_ ?_; (focus (simp [hA.not, hA.eq, hA.lt, hA.le, hA.cond, hA.beq, hA.orb, hL.len, hL.slen, hL.sq]; done)); cbv) | fail)
    refine hret _ (RetEv.ret eOk rfl ⟨false, no (b := true) fun c => hb1 fun z hz => ?_, rfl⟩)
    simp only [List.mem_cons, List.not_mem_nil, or_false] at hz
    rcases hz with rfl | rfl | rfl
    · exact c.1
    · exact c.2.1
    · exact c.2.2.1
  | true =>
    have hb1 := of_decide_eq_true hb1.symm
    cbv
    repeat (first | (refine vcIf.yes ?_ ?_; (focus (simp [hA.not, hA.eq, hA.lt, hA.le, hA.cond, hA.beq, hA.orb, hL.len, hL.slen, hL.sq]; done)); cbv) | (refine vcIf.no ?_ ?_; (focus (simp [hA.not, hA.eq, hA.lt, hA.le, hA.cond, hA.beq, hA.orb, hL.len, hL.slen, hL.sq]; done)); cbv) | fail)
    refine hcall _ _ _ _ _ (CallEv.same hl2 rfl ?_)
    rintro _ _ ⟨b2, hb2, rfl, rfl⟩
    cbv
    cases b2 with
    | false =>
      have hb2 := of_decide_eq_false hb2.symm
      repeat (first | (refine vcIf.yes ?_ ?_; (focus (simp [hA.not, hA.eq, hA.lt, hA.le, hA.cond, hA.beq, hA.orb, hL.len, hL.slen, hL.sq]; done)); cbv) | (refine vcIf.no ?_ ?_; (focus (simp [hA.not, hA.eq, hA.lt, hA.le, hA.cond, hA.beq, hA.orb, hL.len, hL.slen, hL.sq]; done)); cbv) | fail)
      exact hret _ (RetEv.ret eOk rfl ⟨false, no (b := true) fun c => hb2 fun z hz => (c.2.2.2.2 z hz).1, rfl⟩)
    | true =>
      have hb2 := of_decide_eq_true hb2.symm
      cbv
      repeat (first | (refine vcIf.yes ?_ ?_; (focus (simp [hA.not, hA.eq, hA.lt, hA.le, hA.cond, hA.beq, hA.orb, hL.len, hL.slen, hL.sq]; done)); cbv) | (refine vcIf.no ?_ ?_; (focus (simp [hA.not, hA.eq, hA.lt, hA.le, hA.cond, hA.beq, hA.orb, hL.len, hL.slen, hL.sq]; done)); cbv) | fail)
      by_cases hn : 16 < N
      · refine vcIf.yes (by simp [hA.cond, hA.lt, hL.len, hzl]; omega) ?_
        cbv
        exact hret _ (RetEv.ret eOk rfl ⟨false, no (b := true) fun c => by omega, rfl⟩)
      refine vcIf.no (by simp [hA.cond, hA.lt, hL.len, hzl]; omega) ?_
      cbv
      refine hcode _ _ _ (CodeEv.loop eOk fOk (ι := Nat) (fun s => [(1, .own 0 0), (3, .p (.int .i64 (Int.ofNat s)))])
        (fun s => [.st 26 [.p (.int .i64 g), .p (.int .i64 e), .p (.int .i64 r), .p (.sl zs)]]) (fun s => s ≤ N ∧ ∀ z ∈ ch.take s, z ≤ 255) (fun s => N - s) 0 ?_ ?_)
      · exact ⟨⟨rfl, rfl, trivial⟩, rfl, Nat.zero_le _, fun z hz => by simp at hz⟩
      rintro i ⟨h1, h2⟩ rd hrd
      intro add1 sub1 mul1 quo1 rem1 band1 bor1 bxor1 bclr1 shl1 shr1 ieq1 ilt1 ile1 seq1 slt1 beq1 bnot1 orb1 bcond1 iwrap1 iof1 ssz1 hA1 cat1 sq1 sl1 imin1 imax1 smin1 smax1 len1 slen1 u81 hL1 op1 hop1 call1 hcall1 code1 hcode1
      have hadd1 : i < N → add1 .i64 (Int.ofNat i) 1 = Int.ofNat (i + 1) := fun _ => by rw [hA1.add, IntWalk.i64_in _ (by simp only [Int.ofNat_eq_natCast]; omega)]; rfl
      cbv
      by_cases hi : i < N
      · obtain ⟨z, hz⟩ := get_of_lt (show i < ch.length by omega)
        have hzz : zs[i]? = some (.int .i64 z) := by rw [hzs]; exact iP_get hz
        have htk : ch.take (i + 1) = ch.take i ++ [z] := by rw [List.take_add_one, hz]; rfl
        refine vcIf.yes (by first | (simp [hA1.not, hA1.eq, hA1.lt, hA1.le, hA1.cond, hA1.beq, hA1.orb, hL1.len, hL1.slen, hL1.sq, hi, hzl]; done) | (simp only [hi, hzl]; simp [hA1.not, hA1.eq, hA1.lt, hA1.le, hA1.cond, hA1.beq, hA1.orb, hL1.len, hL1.slen, hL1.sq, hi, hzl]; done) | (simp [hA1.not, hA1.eq, hA1.lt, hA1.le, hA1.cond, hA1.beq, hA1.orb, hL1.len, hL1.slen, hL1.sq, hi, hzl]; omega) | (simp only [hi, hzl]; simp [hA1.not, hA1.eq, hA1.lt, hA1.le, hA1.cond, hA1.beq, hA1.orb, hL1.len, hL1.slen, hL1.sq, hi, hzl]; omega)) ?_
        cbv
        refine ⟨i, _, rfl, hzz, rfl, ?_⟩
        cbv
        by_cases hz0 : 255 < z
        · refine vcIf.yes (by first | (simp [hA1.not, hA1.eq, hA1.lt, hA1.le, hA1.cond, hA1.beq, hA1.orb, hL1.len, hL1.slen, hL1.sq, hz0]; done) | (simp only [hz0]; simp [hA1.not, hA1.eq, hA1.lt, hA1.le, hA1.cond, hA1.beq, hA1.orb, hL1.len, hL1.slen, hL1.sq, hz0]; done) | (simp [hA1.not, hA1.eq, hA1.lt, hA1.le, hA1.cond, hA1.beq, hA1.orb, hL1.len, hL1.slen, hL1.sq, hz0]; omega) | (simp only [hz0]; simp [hA1.not, hA1.eq, hA1.lt, hA1.le, hA1.cond, hA1.beq, hA1.orb, hL1.len, hL1.slen, hL1.sq, hz0]; omega)) ?_
          cbv
          exact hret _ (RetEv.ret eOk rfl ⟨false, no (b := true) fun c => by have := (c.2.2.2.2 z (List.mem_of_getElem? hz)).2; omega, rfl⟩)
        · refine vcIf.no (by first | (simp [hA1.not, hA1.eq, hA1.lt, hA1.le, hA1.cond, hA1.beq, hA1.orb, hL1.len, hL1.slen, hL1.sq, hz0]; done) | (simp only [hz0]; simp [hA1.not, hA1.eq, hA1.lt, hA1.le, hA1.cond, hA1.beq, hA1.orb, hL1.len, hL1.slen, hL1.sq, hz0]; done) | (simp [hA1.not, hA1.eq, hA1.lt, hA1.le, hA1.cond, hA1.beq, hA1.orb, hL1.len, hL1.slen, hL1.sq, hz0]; omega) | (simp only [hz0]; simp [hA1.not, hA1.eq, hA1.lt, hA1.le, hA1.cond, hA1.beq, hA1.orb, hL1.len, hL1.slen, hL1.sq, hz0]; omega)) ?_
          cbv
          refine hrd _ ⟨i + 1, [], ?_, ⟨hi, ?_⟩, rfl, ⟨rfl, ?_, trivial⟩, rfl, rfl, rfl, ?_⟩
          · show N - (i + 1) < N - i
            omega
          · intro y hy
            rw [htk] at hy
            rcases List.mem_append.1 hy with c | c
            · exact h2 y c
            · simp at c; rw [c]; omega
          · show some (V.p (.int .i64 _)) = _
            rw [hadd1 hi]
          · rw [hB]; exact Nat.zero_le _
      · refine vcIf.no (by first | (simp [hA1.not, hA1.eq, hA1.lt, hA1.le, hA1.cond, hA1.beq, hA1.orb, hL1.len, hL1.slen, hL1.sq, hi, hzl]; done) | (simp only [hi, hzl]; simp [hA1.not, hA1.eq, hA1.lt, hA1.le, hA1.cond, hA1.beq, hA1.orb, hL1.len, hL1.slen, hL1.sq, hi, hzl]; done) | (simp [hA1.not, hA1.eq, hA1.lt, hA1.le, hA1.cond, hA1.beq, hA1.orb, hL1.len, hL1.slen, hL1.sq, hi, hzl]; omega) | (simp only [hi, hzl]; simp [hA1.not, hA1.eq, hA1.lt, hA1.le, hA1.cond, hA1.beq, hA1.orb, hL1.len, hL1.slen, hL1.sq, hi, hzl]; omega)) ?_
        cbv
        rw [List.take_of_length_le (by omega)] at h2
        refine hret _ (RetEv.ret eOk rfl ⟨true, (hok.2 ⟨?_, ?_, ?_, by omega, fun z hz => ⟨hb2 z hz, h2 z hz⟩⟩).symm, rfl⟩)
        · exact hb1 g (by simp)
        · exact hb1 e (by simp)
        · exact hb1 r (by simp)
end Go.Proofs.Ytnigonhkfpnodaa
