/- The document's Split; numbers laid. Conditions: on sizes. -/
import Derived.Test.YtdbagbklhchbkaaLCode6
set_option maxRecDepth 100000
set_option maxHeartbeats 4000000
set_option linter.unusedSimpArgs false
set_option linter.unusedVariables false
namespace Go.Proofs.Ytdbagbklhchbkaa
open Go Go.Lx
open Go.Sx (vcIf)

theorem rsplit_spec (l : List UInt8) (c : Int) (hc : -9223372036854775808 ≤ c) (hc2 : c ≤ 9223372036854775807) : FnL Try.prog 38 [.p (.sl (bP l)), .p (.int .i64 c)] [] (splR (spl l c)) := by
  obtain ⟨R, hR⟩ : ∃ R, R = spl l c := ⟨_, rfl⟩
  have hR2 := hR
  unfold spl at hR2
  rw [← hR]
  obtain ⟨xs, hxs⟩ : ∃ xs, xs = bP l := ⟨_, rfl⟩
  rw [← hxs]
  refine fn_of_vc eOk fOk fo38 Try.func38 rfl rfl rfl fun B hB => ?_
  intro add sub mul quo rem band bor bxor bclr shl shr ieq ilt ile seq slt beq bnot orb bcond iwrap iof ssz hA cat sq sl imin imax smin smax len slen u8 hL op hop call hcall code hcode ret hret
  cbv
  by_cases h0 : c < 0
  · rw [if_pos (.inl h0)] at hR2
    refine vcIf.yes (by rw [hA.lt]; exact decide_eq_true h0) ?_
    cbv
    exact hret _ (RetEv.ret eOk rfl ⟨[], [], 1, hR2.symm, rfl, .inr ⟨rfl, rfl⟩⟩)
  refine vcIf.no (by rw [hA.lt]; exact decide_eq_false h0) ?_
  cbv
  by_cases h1 : 4096 < c
  · rw [if_pos (.inr h1)] at hR2
    refine vcIf.yes (by rw [hA.cond, hA.lt]; exact decide_eq_true h1) ?_
    cbv
    exact hret _ (RetEv.ret eOk rfl ⟨[], [], 1, hR2.symm, rfl, .inr ⟨rfl, rfl⟩⟩)
  rw [if_neg (by omega)] at hR2
  obtain ⟨k, rfl⟩ : ∃ k : Nat, c = (k : Int) := ⟨c.toNat, by omega⟩
  have hk : k ≤ 4096 := by omega
  rw [Int.toNat_natCast] at hR2
  refine vcIf.no (by rw [hA.cond, hA.lt]; exact decide_eq_false h1) ?_
  cbv
  refine ⟨true, ?_⟩
  cbv
  refine hcode _ _ _ (CodeEv.loop eOk fOk (ι := Nat × Nat × List PV × List PV) (fun i => [(0, .p (.sl i.2.2.1)), (1, .p (.int .i64 (Int.ofNat k))), (6, .vw 0 1 0 i.2.1 none), (7, .p (.int .i64 (Int.ofNat i.1)))])
    (fun i => [.arr 3 1 i.2.2.2])
    (fun i => i.1 ≤ k ∧ i.2.1 = i.1 ∧ ∃ l' ns, i.2.2.1 = bP l' ∧ i.2.2.2 = iP ns ∧ ns.length = i.1 ∧ rdNs k l 0 = (ns ++ (rdNs (k - i.1) l' 0).1, (rdNs (k - i.1) l' 0).2)) (fun i => k - i.1) (0, 0, xs, []) ?_ ?_)
  · exact ⟨⟨rfl, rfl, rfl, rfl, trivial⟩, rfl, Nat.zero_le _, rfl, l, [], hxs, rfl, rfl, by simp⟩
  rintro ⟨i, n, ys, zs⟩ ⟨h2, h3, l1, ns, h4, h5, h6, h7⟩ rd hrd
  simp only at h2 h3 h4 h5 h6 h7
  subst h3
  have hzl : zs.length = n := by rw [h5, iP_length, h6]
  intro add1 sub1 mul1 quo1 rem1 band1 bor1 bxor1 bclr1 shl1 shr1 ieq1 ilt1 ile1 seq1 slt1 beq1 bnot1 orb1 bcond1 iwrap1 iof1 ssz1 hA1 cat1 sq1 sl1 imin1 imax1 smin1 smax1 len1 slen1 u81 hL1 op1 hop1 call1 hcall1 code1 hcode1
  cbv
  by_cases hk1 : n < k
  · refine vcIf.yes (by rw [hA1.lt]; exact dlt hk1) ?_
    have hstep : rdNs (k - n) l1 0 = (((rdN l1 0).1 : Int) :: (rdNs (k - (n + 1)) (rdN l1 0).2.1 (rdN l1 0).2.2).1, (rdNs (k - (n + 1)) (rdN l1 0).2.1 (rdN l1 0).2.2).2) := by
      obtain ⟨m, hm⟩ : ∃ m, k - n = m + 1 := ⟨k - n - 1, by omega⟩
      rw [hm, rdNs, if_neg (by simp), show k - (n + 1) = m by omega]
    have hr0 : rdN l1 0 = ((dec 0 0 l1).1, l1.drop (dec 0 0 l1).2.1, (dec 0 0 l1).2.2) := by unfold rdN; rw [if_neg (by simp)]
    rw [hr0] at hstep
    have hnum := rnum_spec l1
    rw [← h4] at hnum
    have hus := dec_used l1 0 0
    have her := dec_err l1 0 0
    cbv
    refine hcall1 _ _ _ _ _ (CallEv.same hnum rfl ?_)
    rintro _ _ ⟨x, u, e, hd, rfl, rfl⟩
    rw [← hd] at hstep hus her
    simp only at hstep hus her
    have hul : u ≤ l1.length := by
      by_cases he' : e = 0
      · have := hus he'; omega
      · have := her he'; omega
    have hyl : ys.length = l1.length := by rw [h4, bP_length]
    cbv
    by_cases he : e = 0
    · refine vcIf.no (by rw [hA1.not, hA1.eq, he]; rfl) ?_
      cbv
      refine ⟨false, ?_⟩
      cbv
      refine .inl ⟨(), rfl, hzl.symm, Wf.one (PV.wf1 rfl), ?_, ?_, ?_⟩
      · show n + 1 ≤ maxLen
        unfold maxLen; omega
      · show (n + 1) * 8 ≤ _
        omega
      intro zs2 n2 hz2 hn2
      simp only [Sq.get] at hz2 hn2
      cbv
      refine ⟨u, ys.length, ys.length, rfl, rfl, rfl, by omega, Nat.le_refl _, Nat.le_refl _, fun y hy => ?_, ?_⟩
      · rw [h4] at hy; exact (bP_wf l1 y hy).1
      intro ys2 hys2
      cbv
      refine hrd _ ⟨(n + 1, n2, ys2, zs2), [], ?_, ⟨?_, ?_, l1.drop u, ns ++ [(x : Int)], ?_, ?_, ?_, ?_⟩, rfl, ⟨rfl, rfl, rfl, ?_, trivial⟩, rfl, rfl, rfl, ?_⟩
      · simp only; omega
      · simp only; omega
      · rw [hn2]; rfl
      · rw [hys2, h4, bP_drop, List.take_of_length_le (by simp [bP_length])]
      · rw [hz2, h5, iP_append]; rfl
      · simp [h6]
      · rw [h7, hstep, he]; simp
      · show some (V.p (.int .i64 (add1 .i64 (Int.ofNat n) 1))) = some (V.p (.int .i64 (Int.ofNat (n + 1))))
        rw [hA1.add, IntWalk.i64_in _ (by simp only [Int.ofNat_eq_natCast]; omega)]; rfl
      · rw [hB]; exact Nat.zero_le _
    · refine vcIf.yes (by rw [hA1.not, hA1.eq]; simp; omega) ?_
      cbv
      refine hret _ (RetEv.ret eOk rfl ⟨[], [], e, ?_, rfl, .inr ⟨rfl, rfl⟩⟩)
      rw [hR2, h7, hstep, rdNs_err _ _ he]
      simp [he]
  · refine vcIf.no (by rw [hA1.lt]; exact dlt' hk1) ?_
    have hkn : k - n = 0 := by omega
    rw [hkn] at h7
    have hyl : ys.length = 0 ↔ l1 = [] := by rw [h4, bP_length]; exact List.length_eq_zero_iff
    cbv
    by_cases hl : l1 = []
    · refine vcIf.no (by rw [hA.lt, hL.len, hyl.2 hl]; rfl) ?_
      cbv
      refine hret _ (RetEv.retF eOk rfl 0 rfl (by rw [hB]; exact Nat.zero_le _) ⟨ns, zs, 0, ?_, h5, .inl ?_⟩)
      · rw [hR2, h7]; simp [rdNs, hl]
      · show V.p (.tup [.sl ((zs.drop 0).take n), .int .i64 0]) = _
        rw [frz_full hzl]; rfl
    · refine vcIf.yes (by rw [hA.lt, hL.len]; exact decide_eq_true (by have : ys.length ≠ 0 := fun h => hl (hyl.1 h); omega)) ?_
      cbv
      refine hret _ (RetEv.ret eOk rfl ⟨[], [], 2, ?_, rfl, .inr ⟨rfl, rfl⟩⟩)
      rw [hR2, h7]; simp [rdNs, hl]

/-- Numbers laid: the error, or all bytes. -/
def lay (l : List Int) : List UInt8 × Nat := if 4096 < l.length then ([], 6) else if l.any (· < 0) then ([], 5) else (l.flatMap fun z => enc z.toNat, 0)
def layR (r : List UInt8 × Nat) (z : V) (own : List Res) : Prop := ∃ (bs : List UInt8) (zs : List PV) (e : Nat), (bs, e) = r ∧ zs = bP bs ∧ (z = .p (.tup [.sl zs, .int .i64 (e : Int)]) ∨ (zs = [] ∧ z = .p (.tup [.nils, .int .i64 (e : Int)])))
theorem lay_len : ∀ (l : List Int), (∀ z ∈ l, z ≤ 9223372036854775807) → (l.flatMap fun z => enc z.toNat).length ≤ 9 * l.length
  | [], _ => by simp
  | z :: r, h => by
    have h1 := lay_len r fun y hy => h y (by simp [hy])
    have h2 := enc_len9 (x := z.toNat) (by have := h z (by simp); omega)
    simp only [List.flatMap_cons, List.length_append, List.length_cons]; omega

theorem nums_spec (l : List Int) (hl : ∀ z ∈ l, -9223372036854775808 ≤ z ∧ z ≤ 9223372036854775807) (hll : l.length < 9223372036854775807) : FnL Try.prog 35 [.p (.sl (iP l))] [] (layR (lay l)) := by
  obtain ⟨R, hR⟩ : ∃ R, R = lay l := ⟨_, rfl⟩
  have hR2 := hR
  unfold lay at hR2
  rw [← hR]
  obtain ⟨xs, hxs⟩ : ∃ xs, xs = iP l := ⟨_, rfl⟩
  have hxl : xs.length = l.length := by rw [hxs, iP_length]
  obtain ⟨n, hn⟩ : ∃ n, n = l.length := ⟨_, rfl⟩
  rw [← hxs]
  refine fn_of_vc eOk fOk fo35 Try.func35 rfl rfl rfl fun B hB => ?_
  intro add sub mul quo rem band bor bxor bclr shl shr ieq ilt ile seq slt beq bnot orb bcond iwrap iof ssz hA cat sq sl imin imax smin smax len slen u8 hL op hop call hcall code hcode ret hret
  have hlen : len xs = Int.ofNat n := by rw [hL.len, hxl, hn]; rfl
  cbv
  by_cases h0 : 4096 < n
  · rw [if_pos (by omega)] at hR2
    refine vcIf.yes (by rw [hA.lt, hlen]; exact dlt h0) ?_
    cbv
    exact hret _ (RetEv.ret eOk rfl ⟨[], [], 6, hR2.symm, rfl, .inr ⟨rfl, rfl⟩⟩)
  rw [if_neg (by omega)] at hR2
  refine vcIf.no (by rw [hA.lt, hlen]; exact dlt' h0) ?_
  cbv
  refine hcode _ _ _ (CodeEv.conv (Conv.hollow 4 5 1 (by decide) rfl) (CodeEv.loop eOk fOk (ι := Nat × Nat × List PV) (fun i => [(4, .vw 0 1 0 i.2.1 none), (10, .p (.sl xs)), (11, .p (.int .i64 (len xs))), (12, .p (.int .i64 (Int.ofNat i.1)))])
    (fun i => [.arr 5 1 i.2.2]) (fun i => i.1 ≤ n ∧ (l.take i.1).any (· < 0) = false ∧ i.2.2 = bP ((l.take i.1).flatMap fun z => enc z.toNat) ∧ i.2.2.length = i.2.1) (fun i => n - i.1) (0, 0, []) ?_ ?_))
  · exact ⟨⟨rfl, rfl, rfl, rfl, trivial⟩, rfl, Nat.zero_le _, by simp, by simp [bP], rfl⟩
  rintro ⟨i, m, ys⟩ ⟨h1, h2, h3, h4⟩ rd hrd
  simp only at h1 h2 h3 h4
  intro add1 sub1 mul1 quo1 rem1 band1 bor1 bxor1 bclr1 shl1 shr1 ieq1 ilt1 ile1 seq1 slt1 beq1 bnot1 orb1 bcond1 iwrap1 iof1 ssz1 hA1 cat1 sq1 sl1 imin1 imax1 smin1 smax1 len1 slen1 u81 hL1 op1 hop1 call1 hcall1 code1 hcode1
  cbv
  by_cases hi : i < n
  · refine vcIf.yes (by rw [hA1.lt, hlen]; exact dlt hi) ?_
    obtain ⟨z, hz⟩ := get_of_lt (show i < l.length by omega)
    have hzm := hl z (List.mem_of_getElem? hz)
    have hzs : xs[i]? = some (.int .i64 z) := by rw [hxs]; exact iP_get hz
    have htk : l.take (i + 1) = l.take i ++ [z] := by rw [List.take_add_one, hz]; rfl
    have hmb : m ≤ 9 * i := by
      have := lay_len (l.take i) (fun y hy => (hl y (List.mem_of_mem_take hy)).2)
      rw [← h4, h3, bP_length]; simp at this ⊢; omega
    cbv
    refine ⟨i, _, rfl, hzs, rfl, ?_⟩
    cbv
    by_cases hz0 : z < 0
    · refine vcIf.yes (by rw [hA1.lt]; exact decide_eq_true hz0) ?_
      cbv
      refine hret _ (RetEv.ret eOk rfl ⟨[], [], 5, ?_, rfl, .inr ⟨rfl, rfl⟩⟩)
      rw [hR2, if_pos]
      exact List.any_eq_true.2 ⟨z, List.mem_of_getElem? hz, decide_eq_true hz0⟩
    · refine vcIf.no (by rw [hA1.lt]; exact decide_eq_false hz0) ?_
      obtain ⟨y, rfl⟩ : ∃ y : Nat, z = (y : Int) := ⟨z.toNat, by omega⟩
      have hy : y < 9223372036854775808 := by omega
      cbv
      refine hcall1 _ _ _ _ _ (CallEv.lend [0] (put_spec ys m y h4 hy (by omega)) rfl (.cons (.vw 0 0 1 0 m none rfl) (.cons (.p _) .nil)) ⟨⟨_, rfl, .arr _ _ _⟩, trivial⟩ ?_)
      rintro _ _ ⟨m', ys', hm', hys', rfl, rfl⟩
      cbv
      refine hrd _ ⟨(i + 1, m', ys'), [], ?_, ⟨?_, ?_, ?_, ?_⟩, rfl, ⟨rfl, rfl, rfl, ?_, trivial⟩, rfl, rfl, rfl, ?_⟩
      · simp only; omega
      · simp only; omega
      · simp only; rw [htk, List.any_append, h2]; simp
      · simp only; rw [hys', h3, htk, List.flatMap_append, bP_append]; simp
      · simp only; rw [hys', List.length_append, bP_length, hm', h4]
      · show some (V.p (.int .i64 (add1 .i64 (Int.ofNat i) 1))) = some (V.p (.int .i64 (Int.ofNat (i + 1))))
        rw [hA1.add, IntWalk.i64_in _ (by simp only [Int.ofNat_eq_natCast]; omega)]; rfl
      · rw [hB]; exact Nat.zero_le _
  · refine vcIf.no (by rw [hA1.lt, hlen]; exact dlt' hi) ?_
    rw [List.take_of_length_le (by omega)] at h2 h3
    cbv
    refine hret _ (RetEv.retF eOk rfl 0 rfl (by rw [hB]; exact Nat.zero_le _) ⟨_, ys, 0, ?_, h3, .inl ?_⟩)
    · rw [hR2, if_neg (by rw [h2]; simp)]
    · show V.p (.tup [.sl ((ys.drop 0).take m), .int .i64 0]) = _
      rw [frz_full h4]; rfl
end Go.Proofs.Ytdbagbklhchbkaa
