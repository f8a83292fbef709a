/- The reader of package code. Conditions: on sizes. -/
import Derived.Test.YtnigonhkfpnodaaLCode4
set_option maxRecDepth 100000
set_option maxHeartbeats 4000000
set_option linter.unusedSimpArgs false
set_option linter.unusedVariables false
namespace Go.Proofs.Ytnigonhkfpnodaa
open Go Go.Lx
open Go.Sx (vcIf)

/-- A reader: bytes that are left, and the first error. -/
abbrev rdSt (xs : List PV) (e : Nat) : Res := .st 180 [.p (.sl xs), .p (.int .i64 (e : Int))]
/-- The next number. -/
def rdN (l : List UInt8) (e : Nat) : Nat × List UInt8 × Nat :=
  if e ≠ 0 then (0, l, e) else ((dec 0 0 l).1, l.drop (dec 0 0 l).2.1, (dec 0 0 l).2.2)

theorem newReader_spec (xs : List PV) : FnL Try.prog 74 [.p (.sl xs)] [] fun z own => z = .own 0 0 ∧ own = [rdSt xs 0] := by
  refine fn_of_vc eOk fOk fo74 Try.func74 rfl rfl rfl fun B hB => ?_
  intro add sub mul quo rem band bor bxor bclr shl shr ieq ilt ile seq slt beq bnot orb bcond iwrap iof ssz hA cat sq sl imin imax smin smax len slen u8 hL op hop call hcall code hcode ret hret
  cbv
  exact hret _ (RetEv.ret eOk rfl ⟨rfl, rfl⟩)

theorem rdNum_spec (l : List UInt8) (e : Nat) :
    FnL Try.prog 75 [.own 0 0] [rdSt (bP l) e] fun z own => ∃ (n : Nat) (l' : List UInt8) (e' : Nat) (ys : List PV), (n, l', e') = rdN l e ∧ ys = bP l' ∧ z = .p (.int .i64 (n : Int)) ∧ own = [rdSt ys e'] := by
  have hnum := num_spec l
  have hus := dec_used l 0 0
  have her := dec_err l 0 0
  obtain ⟨xs, hxs⟩ : ∃ xs, xs = bP l := ⟨_, rfl⟩
  have hxl : xs.length = l.length := by rw [hxs, bP_length]
  rw [← hxs] at hnum ⊢
  refine fn_of_vc eOk fOk fo75 Try.func75 rfl rfl rfl fun B hB => ?_
  intro add sub mul quo rem band bor bxor bclr shl shr ieq ilt ile seq slt beq bnot orb bcond iwrap iof ssz hA cat sq sl imin imax smin smax len slen u8 hL op hop call hcall code hcode ret hret
  cbv
  by_cases he : e = 0
  · refine vcIf.no (by rw [hA.not, hA.eq, he]; rfl) ?_
    cbv
    refine hcall _ _ _ _ _ (CallEv.same hnum rfl ?_)
    rintro _ _ ⟨x, u, e', hd, rfl, rfl⟩
    rw [← hd] at hus her
    simp only at hus her
    have hul : u ≤ l.length := by
      by_cases he' : e' = 0
      · have := hus he'; omega
      · have := her he'; omega
    cbv
    refine ⟨u, xs.length, xs.length, rfl, rfl, rfl, by omega, Nat.le_refl _, Nat.le_refl _, fun y hy => ?_, ?_⟩
    · rw [hxs] at hy; exact (bP_wf l y hy).1
    intro zs hz
    cbv
    refine hret _ (RetEv.ret eOk rfl ⟨x, l.drop u, e', zs, ?_, ?_, rfl, rfl⟩)
    · unfold rdN; rw [if_neg (by simpa using he), ← hd]
    · rw [hz, hxs, bP_drop, List.take_of_length_le (by simp [bP_length])]
  · refine vcIf.yes (by rw [hA.not, hA.eq]; simp; omega) ?_
    cbv
    refine hret _ (RetEv.ret eOk rfl ⟨0, l, e, xs, ?_, hxs, rfl, rfl⟩)
    unfold rdN; rw [if_pos he]

theorem rdError_spec (xs : List PV) (e : Nat) : FnL Try.prog 76 [.own 0 0] [rdSt xs e] fun z own => z = .p (.int .i64 (e : Int)) ∧ own = [rdSt xs e] := by
  refine fn_of_vc eOk fOk fo76 Try.func76 rfl rfl rfl fun B hB => ?_
  intro add sub mul quo rem band bor bxor bclr shl shr ieq ilt ile seq slt beq bnot orb bcond iwrap iof ssz hA cat sq sl imin imax smin smax len slen u8 hL op hop call hcall code hcode ret hret
  cbv
  exact hret _ (RetEv.ret eOk rfl ⟨rfl, rfl⟩)

theorem rdDone_spec (xs : List PV) (e : Nat) : FnL Try.prog 82 [.own 0 0] [rdSt xs e] fun z own => z = .p (.bool (decide (e = 0 ∧ xs = []))) ∧ own = [rdSt xs e] := by
  refine fn_of_vc eOk fOk fo82 Try.func82 rfl rfl rfl fun B hB => ?_
  intro add sub mul quo rem band bor bxor bclr shl shr ieq ilt ile seq slt beq bnot orb bcond iwrap iof ssz hA cat sq sl imin imax smin smax len slen u8 hL op hop call hcall code hcode ret hret
  cbv
  by_cases he : e = 0
  · refine vcIf.yes (by rw [hA.eq, he]; rfl) ?_
    cbv
    refine hret _ (RetEv.ret eOk rfl ⟨?_, rfl⟩)
    show V.p (.bool (bcond true (ieq (len xs) 0) false)) = _
    rw [hA.cond, hA.eq, hL.len, he]
    cases xs <;> simp
    omega
  · refine vcIf.no (by rw [hA.eq]; simp; omega) ?_
    cbv
    refine hret _ (RetEv.ret eOk rfl ⟨?_, rfl⟩)
    show V.p (.bool false) = _
    simp [he]

/-- So many numbers. -/
def rdNs : Nat → List UInt8 → Nat → List Int × List UInt8 × Nat
  | 0, l, e => ([], l, e)
  | k + 1, l, e => if e ≠ 0 then ([], l, e) else
    let r := rdN l e
    let s := rdNs k r.2.1 r.2.2
    ((r.1 : Int) :: s.1, s.2)
theorem rdNs_err (k : Nat) (l : List UInt8) {e : Nat} (h : e ≠ 0) : rdNs k l e = ([], l, e) := by
  cases k with
  | zero => rfl
  | succ k => rw [rdNs, if_pos h]

theorem rdNums_spec (l : List UInt8) (e : Nat) (k : Nat) (hk : k ≤ 4096) :
    FnL Try.prog 110 [.own 0 0, .p (.int .i64 (k : Int))] [rdSt (bP l) e] fun z own => ∃ (ns : List Int) (l' : List UInt8) (e' : Nat) (ys zs : List PV), (ns, l', e') = rdNs k l e ∧ ys = bP l' ∧ zs = iP ns ∧ z = .p (.sl zs) ∧ own = [rdSt ys e', .dead] := by
  obtain ⟨xs, hxs⟩ : ∃ xs, xs = bP l := ⟨_, rfl⟩
  rw [← hxs]
  refine fn_of_vc eOk fOk fo110 Try.func110 rfl rfl rfl fun B hB => ?_
  intro add sub mul quo rem band bor bxor bclr shl shr ieq ilt ile seq slt beq bnot orb bcond iwrap iof ssz hA cat sq sl imin imax smin smax len slen u8 hL op hop call hcall code hcode ret hret
  cbv
  refine hcode _ _ _ (CodeEv.conv (Conv.hollow 5 3 1 (by decide) rfl) (CodeEv.loop eOk fOk (ι := Nat × Nat × List PV × Nat × List PV) (fun i => [(0, .own 0 0), (1, .p (.int .i64 (Int.ofNat k))), (5, .vw 1 1 0 i.2.1 none), (6, .p (.int .i64 (Int.ofNat i.1)))])
    (fun i => [rdSt i.2.2.1 i.2.2.2.1, .arr 3 1 i.2.2.2.2])
    (fun i => i.1 ≤ k ∧ i.2.1 = i.1 ∧ ∃ l' ns, i.2.2.1 = bP l' ∧ i.2.2.2.2 = iP ns ∧ ns.length = i.1 ∧ rdNs k l e = (ns ++ (rdNs (k - i.1) l' i.2.2.2.1).1, (rdNs (k - i.1) l' i.2.2.2.1).2)) (fun i => k - i.1) (0, 0, xs, e, []) ?_ ?_))
  · exact ⟨⟨rfl, rfl, rfl, rfl, trivial⟩, rfl, Nat.zero_le _, rfl, l, [], hxs, rfl, rfl, by simp⟩
  rintro ⟨i, n, ys, e1, zs⟩ ⟨h1, h2, l1, ns, h3, h4, h5, h6⟩ rd hrd
  simp only at h1 h2 h3 h4 h5 h6
  subst h2
  have hzl : zs.length = n := by rw [h4, iP_length, h5]
  intro add1 sub1 mul1 quo1 rem1 band1 bor1 bxor1 bclr1 shl1 shr1 ieq1 ilt1 ile1 seq1 slt1 beq1 bnot1 orb1 bcond1 iwrap1 iof1 ssz1 hA1 cat1 sq1 sl1 imin1 imax1 smin1 smax1 len1 slen1 u81 hL1 op1 hop1 call1 hcall1 code1 hcode1
  cbv
  by_cases hk1 : n < k
  · refine vcIf.yes (by rw [hA1.lt]; exact dlt hk1) ?_
    cbv
    by_cases he : e1 = 0
    · refine vcIf.yes (by rw [hA1.cond, hA1.eq, he]; rfl) ?_
      cbv
      have hstep : rdNs (k - n) l1 e1 = (((rdN l1 e1).1 : Int) :: (rdNs (k - (n + 1)) (rdN l1 e1).2.1 (rdN l1 e1).2.2).1, (rdNs (k - (n + 1)) (rdN l1 e1).2.1 (rdN l1 e1).2.2).2) := by
        obtain ⟨m, hm⟩ : ∃ m, k - n = m + 1 := ⟨k - n - 1, by omega⟩
        rw [hm, rdNs, if_neg (by simpa using he), show k - (n + 1) = m by omega]
      have hnum := rdNum_spec l1 e1
      rw [← h3] at hnum
      refine hcall1 _ _ _ _ _ (CallEv.lend [0] hnum rfl (.cons (.own 0 0 0 rfl) .nil) ⟨⟨_, rfl, .st _ _ _ (.cons (.p _) (.cons (.p _) .nil))⟩, trivial⟩ ?_)
      rintro _ _ ⟨x, l2, e2, ys2, hr, hys2, rfl, rfl⟩
      rw [← hr] at hstep
      simp only at hstep
      cbv
      refine ⟨false, ?_⟩
      cbv
      refine .inl ⟨(), rfl, hzl.symm, Wf.one (PV.wf1 rfl), ?_, ?_, ?_⟩
      · show n + 1 ≤ maxLen
        unfold maxLen; omega
      · show (n + 1) * 8 ≤ _
        omega
      intro zs2 n2 hz2 hn2
      simp only [Sq.get] at hz2 hn2
      cbv
      refine hrd _ ⟨(n + 1, n2, ys2, e2, zs2), [], ?_, ⟨?_, ?_, l2, ns ++ [(x : Int)], hys2, ?_, ?_, ?_⟩, rfl, ⟨rfl, rfl, rfl, ?_, trivial⟩, rfl, rfl, rfl, ?_⟩
      · simp only; omega
      · simp only; omega
      · rw [hn2]; rfl
      · rw [hz2, h4, iP_append]; rfl
      · simp [h5]
      · rw [h6, hstep]; simp
      · show some (V.p (.int .i64 (add1 .i64 (Int.ofNat n) 1))) = some (V.p (.int .i64 (Int.ofNat (n + 1))))
        rw [hA1.add, IntWalk.i64_in _ (by simp only [Int.ofNat_eq_natCast]; omega)]; rfl
      · rw [hB]; exact Nat.le_succ _
    · refine vcIf.no (by rw [hA1.cond, hA1.eq]; simp; omega) ?_
      cbv
      refine hret _ (RetEv.retF eOk rfl 1 rfl (by rw [hB]; exact Nat.le_refl _) ?_)
      refine ⟨ns, l1, e1, ys, zs, ?_, h3, h4, ?_, rfl⟩
      · rw [h6, rdNs_err _ _ he]; simp
      · show V.p (.sl ((zs.drop 0).take n)) = _
        rw [frz_full hzl]
  · refine vcIf.no (by rw [hA1.lt]; exact dlt' hk1) ?_
    cbv
    refine hret _ (RetEv.retF eOk rfl 1 rfl (by rw [hB]; exact Nat.le_refl _) ?_)
    refine ⟨ns, l1, e1, ys, zs, ?_, h3, h4, ?_, rfl⟩
    · rw [h6, show k - n = 0 by omega]; simp [rdNs]
    · show V.p (.sl ((zs.drop 0).take n)) = _
      rw [frz_full hzl]
end Go.Proofs.Ytnigonhkfpnodaa
