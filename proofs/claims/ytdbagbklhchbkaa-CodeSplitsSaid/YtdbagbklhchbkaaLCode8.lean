/- The document's Nums, and the simplest facts. Conditions: on sizes. -/
import Derived.Test.YtdbagbklhchbkaaLCode7
set_option maxRecDepth 100000
set_option maxHeartbeats 4000000
set_option linter.unusedSimpArgs false
set_option linter.unusedVariables false
namespace Go.Proofs.Ytdbagbklhchbkaa
open Go Go.Lx
open Go.Sx (vcIf)

theorem rnums_spec (l : List Int) (hl : ∀ z ∈ l, -9223372036854775808 ≤ z ∧ z ≤ 9223372036854775807) (hll : l.length < 9223372036854775807) : FnL Try.prog 36 [.p (.sl (iP l))] [] (layR (lay l)) := by
  obtain ⟨R, hR⟩ : ∃ R, R = lay l := ⟨_, rfl⟩
  have hR2 := hR
  unfold lay at hR2
  rw [← hR]
  obtain ⟨xs, hxs⟩ : ∃ xs, xs = iP l := ⟨_, rfl⟩
  have hxl : xs.length = l.length := by rw [hxs, iP_length]
  obtain ⟨n, hn⟩ : ∃ n, n = l.length := ⟨_, rfl⟩
  rw [← hxs]
  refine fn_of_vc eOk fOk fo36 Try.func36 rfl rfl rfl fun B hB => ?_
  intro add sub mul quo rem band bor bxor bclr shl shr ieq ilt ile seq slt beq bnot orb bcond iwrap iof ssz hA cat sq sl imin imax smin smax len slen u8 hL op hop call hcall code hcode ret hret
  have hlen : len xs = Int.ofNat n := by rw [hL.len, hxl, hn]; rfl
  cbv
  by_cases h0 : 4096 < n
  · rw [if_pos (by omega)] at hR2
    refine vcIf.yes (by rw [hA.lt, hlen]; exact dlt h0) ?_
    cbv
    exact hret _ (RetEv.ret eOk rfl ⟨[], [], 6, hR2.symm, rfl, .inr ⟨rfl, rfl⟩⟩)
  rw [if_neg (by omega)] at hR2
  refine vcIf.no (by rw [hA.lt, hlen]; exact dlt' h0) ?_
  cbv
  refine ⟨true, ?_⟩
  cbv
  refine hcode _ _ _ (CodeEv.loop eOk fOk (ι := Nat × Nat × List PV) (fun i => [(0, .p (.sl xs)), (4, .vw 0 1 0 i.2.1 none), (5, .p (.int .i64 (Int.ofNat i.1)))])
    (fun i => [.arr 5 1 i.2.2]) (fun i => i.1 ≤ n ∧ (l.take i.1).any (· < 0) = false ∧ i.2.2 = bP ((l.take i.1).flatMap fun z => enc z.toNat) ∧ i.2.2.length = i.2.1) (fun i => n - i.1) (0, 0, []) ?_ ?_)
  · exact ⟨⟨rfl, rfl, rfl, trivial⟩, rfl, Nat.zero_le _, by simp, by simp [bP], rfl⟩
  rintro ⟨i, m, ys⟩ ⟨h1, h2, h3, h4⟩ rd hrd
  simp only at h1 h2 h3 h4
  intro add1 sub1 mul1 quo1 rem1 band1 bor1 bxor1 bclr1 shl1 shr1 ieq1 ilt1 ile1 seq1 slt1 beq1 bnot1 orb1 bcond1 iwrap1 iof1 ssz1 hA1 cat1 sq1 sl1 imin1 imax1 smin1 smax1 len1 slen1 u81 hL1 op1 hop1 call1 hcall1 code1 hcode1
  have hlen1 : len1 xs = Int.ofNat n := by rw [hL1.len, hxl, hn]; rfl
  cbv
  by_cases hi : i < n
  · refine vcIf.yes (by rw [hA1.lt, hlen1]; exact dlt hi) ?_
    obtain ⟨z, hz⟩ := get_of_lt (show i < l.length by omega)
    have hzm := hl z (List.mem_of_getElem? hz)
    have hzs : xs[i]? = some (.int .i64 z) := by rw [hxs]; exact iP_get hz
    have htk : l.take (i + 1) = l.take i ++ [z] := by rw [List.take_add_one, hz]; rfl
    have hmb : m ≤ 9 * i := by
      have := lay_len (l.take i) (fun y hy => (hl y (List.mem_of_mem_take hy)).2)
      rw [← h4, h3, bP_length]; simp at this ⊢; omega
    cbv
    refine ⟨i, _, rfl, hzs, rfl, ?_⟩
    cbv
    by_cases hz0 : z < 0
    · refine vcIf.yes (by rw [hA1.lt]; exact decide_eq_true hz0) ?_
      cbv
      refine hret _ (RetEv.ret eOk rfl ⟨[], [], 5, ?_, rfl, .inr ⟨rfl, rfl⟩⟩)
      rw [hR2, if_pos]
      exact List.any_eq_true.2 ⟨z, List.mem_of_getElem? hz, decide_eq_true hz0⟩
    · refine vcIf.no (by rw [hA1.lt]; exact decide_eq_false hz0) ?_
      obtain ⟨y, rfl⟩ : ∃ y : Nat, z = (y : Int) := ⟨z.toNat, by omega⟩
      have hy : y < 9223372036854775808 := by omega
      cbv
      refine ⟨i, _, rfl, hzs, rfl, ?_⟩
      cbv
      refine hcall1 _ _ _ _ _ (CallEv.lend [0] (rput_spec ys m y h4 hy (by omega)) rfl (.cons (.vw 0 0 1 0 m none rfl) (.cons (.p _) .nil)) ⟨⟨_, rfl, .arr _ _ _⟩, trivial⟩ ?_)
      rintro _ _ ⟨m', ys', hm', hys', rfl, rfl⟩
      cbv
      refine hrd _ ⟨(i + 1, m', ys'), [], ?_, ⟨?_, ?_, ?_, ?_⟩, rfl, ⟨rfl, rfl, ?_, trivial⟩, rfl, rfl, rfl, ?_⟩
      · simp only; omega
      · simp only; omega
      · simp only; rw [htk, List.any_append, h2]; simp
      · simp only; rw [hys', h3, htk, List.flatMap_append, bP_append]; simp
      · simp only; rw [hys', List.length_append, bP_length, hm', h4]
      · show some (V.p (.int .i64 (add1 .i64 (Int.ofNat i) 1))) = some (V.p (.int .i64 (Int.ofNat (i + 1))))
        rw [hA1.add, IntWalk.i64_in _ (by simp only [Int.ofNat_eq_natCast]; omega)]; rfl
      · rw [hB]; exact Nat.zero_le _
  · refine vcIf.no (by rw [hA1.lt, hlen1]; exact dlt' hi) ?_
    rw [List.take_of_length_le (by omega)] at h2 h3
    cbv
    refine hret _ (RetEv.retF eOk rfl 0 rfl (by rw [hB]; exact Nat.zero_le _) ⟨_, ys, 0, ?_, h3, .inl ?_⟩)
    · rw [hR2, if_neg (by rw [h2]; simp)]
    · show V.p (.tup [.sl ((ys.drop 0).take m), .int .i64 0]) = _
      rw [frz_full h4]; rfl

/-- Results told plainly. -/
def layW (r : List UInt8 × Nat) (z : V) (own : List Res) : Prop := ∃ (bs : List UInt8) (zs : List PV) (e : Nat), (bs, e) = r ∧ zs = bP bs ∧ z = .p (.tup [.sl zs, .int .i64 (e : Int)]) ∧ own = []
theorem layR.flat {f : FuncId} {args : List V} {r : List UInt8 × Nat} (h : FnL Try.prog f args [] (layR r)) : FnL Try.prog f args [] (layW r) := by
  refine h.flat ?_
  rintro _ _ ⟨bs, zs, e, h1, h2, rfl | ⟨rfl, rfl⟩⟩
  · exact ⟨_, _, rfl, .refl _, bs, zs, e, h1, h2, rfl, rfl⟩
  · exact ⟨_, .tup [.sl [], .int .i64 (e : Int)], rfl, .tup ⟨.nils, .refl _, trivial⟩, bs, [], e, h1, h2, rfl, rfl⟩
def splW (r : List Int × Nat) (z : V) (own : List Res) : Prop := ∃ (ns : List Int) (zs : List PV) (e : Nat), (ns, e) = r ∧ zs = iP ns ∧ z = .p (.tup [.sl zs, .int .i64 (e : Int)]) ∧ own = []
theorem splR.flat {f : FuncId} {args : List V} {r : List Int × Nat} (h : FnL Try.prog f args [] (splR r)) : FnL Try.prog f args [] (splW r) := by
  refine h.flat ?_
  rintro _ _ ⟨bs, zs, e, h1, h2, rfl | ⟨rfl, rfl⟩⟩
  · exact ⟨_, _, rfl, .refl _, bs, zs, e, h1, h2, rfl, rfl⟩
  · exact ⟨_, .tup [.sl [], .int .i64 (e : Int)], rfl, .tup ⟨.nils, .refl _, trivial⟩, bs, [], e, h1, h2, rfl, rfl⟩

theorem putNum_plain (l : List UInt8) (hs : l.length + 10 ≤ 140737488355328) (x : Nat) (hx : x < 9223372036854775808) :
    FnL Try.prog 26 [.p (.sl (bP l)), .p (.int .i64 (x : Int))] [] fun z own => ∃ zs, zs = bP (l ++ enc x) ∧ z = .p (.tup [.sl zs, .int .i64 0]) ∧ own = [] := by
  refine (putNum_spec l hs x (by omega)).flat ?_
  intro v own' h
  unfold putNumR at h
  rw [if_neg (by omega)] at h
  exact ⟨_, _, h.1, .refl _, _, rfl, rfl, rfl⟩
theorem putText_plain (l ts : List UInt8) (hs : l.length + 65556 ≤ 140737488355328) (ht : ts.length ≤ 65536) :
    FnL Try.prog 31 [.p (.sl (bP l)), .p (.str ts)] [] fun z own => ∃ zs, zs = bP (l ++ enc ts.length ++ ts) ∧ z = .p (.tup [.sl zs, .int .i64 0]) ∧ own = [] := by
  refine (putText_spec l ts hs).flat ?_
  intro v own' h
  unfold putTextR at h
  rw [if_neg (by omega)] at h
  exact ⟨_, _, h.1, .refl _, _, rfl, rfl, rfl⟩

theorem awake3_spec : FnL Try.prog 29 [] [] fun z own => z = .p (.bool true) ∧ own = [] := by
  refine fn_of_vc eOk fOk fo29 Try.func29 rfl rfl rfl fun B hB => ?_
  intro add sub mul quo rem band bor bxor bclr shl shr ieq ilt ile seq slt beq bnot orb bcond iwrap iof ssz hA cat sq sl imin imax smin smax len slen u8 hL op hop call hcall code hcode ret hret
  cbv
  refine hcall _ _ _ _ _ (CallEv.pure (putNum_plain [] (by decide) 300 (by decide)) (.cons .nils (.cons (.p _) .nil)) ?_)
  rintro _ _ ⟨zs, hzs, rfl, rfl⟩
  have hzs2 : zs = bP [172, 2] := by rw [hzs, List.nil_append, enc_hi (by decide), enc_lo (by decide)]; rfl
  have hnum := num_spec [172, 2]
  have htx := putText_plain [172, 2] [97, 98] (by decide) (by decide)
  rw [← hzs2] at hnum htx
  clear hzs
  cbv
  refine hcall _ _ _ _ _ (CallEv.same hnum rfl ?_)
  rintro _ _ ⟨x, u, e, hd, rfl, rfl⟩
  obtain ⟨rfl, rfl, rfl⟩ : x = 300 ∧ u = 2 ∧ e = 0 := by
    have : (x, u, e) = (300, 2, 0) := hd
    simpa using this
  cbv
  refine hcall _ _ _ _ _ (CallEv.same htx rfl ?_)
  rintro _ _ ⟨ts, hts, rfl, rfl⟩
  have hts2 : ts = bP [172, 2, 2, 97, 98] := by rw [hts, show ([97, 98] : List UInt8).length = 2 from rfl, enc_lo (by decide)]; rfl
  cbv
  refine vcIf.yes (by rw [hA.eq]; rfl) ?_
  cbv
  refine vcIf.yes (by rw [hA.cond, hA.eq]; rfl) ?_
  cbv
  refine vcIf.yes (by rw [hA.cond, hA.eq]; rfl) ?_
  cbv
  refine vcIf.yes (by rw [hA.cond, hA.eq]; rfl) ?_
  cbv
  refine vcIf.yes (by rw [hA.cond, hA.eq]; rfl) ?_
  cbv
  refine ⟨_, hts2, ?_⟩
  cbv
  refine hret _ (RetEv.ret eOk rfl ⟨?_, rfl⟩)
  show V.p (.bool (bcond true (sq [172, 2, 2, 97, 98] [172, 2, 2, 97, 98]) false)) = _
  rw [hA.cond, hL.sq]; simp
end Go.Proofs.Ytdbagbklhchbkaa
