/- DeleteFunc of pairs by a closure that has a span. Conditions: on sizes. -/
import Derived.Test.YtdeolllpbflemaaLPi3
set_option maxRecDepth 100000
set_option maxHeartbeats 16000000
set_option linter.unusedSimpArgs false
set_option linter.unusedVariables false
namespace Go.Proofs.Ytdeolllpbflemaa
open Go Go.Lx
open Go.Sx (vcIf)

/-- The closure of List's DeleteFunc. -/
theorem ldel1_spec (lo hi ky vl : List UInt8) : FnL Try.prog 35 [.p (.agg [.str ky, .str vl]), .imm 2 (.agg [.str lo, .str hi]) 0] []
    fun v own => ∃ b, b = !(hs ⟨lo, hi⟩ ky) ∧ v = .p (.bool b) ∧ own = [] := by
  refine FnL.flat (R := fun v own => ∃ b, b = !(hs ⟨lo, hi⟩ ky) ∧ v = .p (.bool b)) ?_ (by rintro _ _ ⟨b, h, rfl⟩; exact ⟨_, _, rfl, .refl _, b, h, rfl, rfl⟩)
  have hh := has_spec lo hi ky
  obtain ⟨R, hR⟩ : ∃ R, R = hs ⟨lo, hi⟩ ky := ⟨_, rfl⟩
  rw [← hR] at hh ⊢
  refine fn_of_vc eOk fOk fo35 Try.func35 rfl rfl rfl fun B hB => ?_
  intro add sub mul quo rem band bor bxor bclr shl shr ieq ilt ile seq slt beq bnot orb bcond iwrap iof ssz hA cat sq sl imin imax smin smax len slen u8 hL op hop call hcall code hcode ret hret
  cbv
  refine hcall _ _ _ _ _ (CallEv.same hh rfl ?_)
  rintro _ _ ⟨b, rfl, rfl, rfl⟩
  cbv
  exact hret _ (RetEv.ret eOk rfl ⟨_, hA.not b, rfl⟩)

/-- What a row is while pairs are deleted from it: the kept ones first, the others behind j as they were. -/
theorem delfSp_spec (ps : List Pr) (xs : List PV) (K n : Nat) (hx : RowP xs K n ps) (hn : n < 140737488355328) (f : FuncId) (b0 b1 : PV) (hbo : ∀ q ∈ [b0, b1], q.one = true) (p : Pr → Bool)
    (hf : ∀ a : Pr, FnL Try.prog f [.p (.agg [.str a.key, .str a.val]), .imm 2 (.agg [b0, b1]) 0] [] fun v own => ∃ b, b = p a ∧ v = .p (.bool b) ∧ own = []) :
    FnL Try.prog 33 [.vw 0 2 0 n (some K), .fn f [.own 1 0]] [.arr 45 2 xs, .st 24 [.p b0, .p b1]]
      fun v own => ∃ n' xs', v = .vw 0 2 0 n' (some K) ∧ own = [.arr 45 2 xs', .st 24 [.p b0, .p b1]] ∧ RowP xs' K n' (ps.filter fun a => !(p a)) := by
  have hps := hx.2.1
  have hxt := hx.2.2.2.2
  obtain ⟨zs, hzs⟩ : ∃ zs, zs = prP ps := ⟨_, rfl⟩
  have hzl : zs.length = n := by rw [hzs, prP_length, hps]
  have hzx : zs = (xs.drop 0).take n := by rw [hzs, List.drop_zero, hxt]
  have hget : ∀ (i : Nat) (z : PV), zs[i]? = some z → ∃ a : Pr, ps[i]? = some a ∧ z = a.v := fun i z h => by
    rw [hzs] at h; unfold prP at h; rw [List.getElem?_map] at h
    cases hp : ps[i]? with
    | none => rw [hp] at h; cases h
    | some a => rw [hp] at h; cases h; exact ⟨a, rfl, rfl⟩
  have hidx := prTIdx zs n hzl (by omega) (fun i z h => by obtain ⟨a, _, rfl⟩ := hget i z h; exact ⟨rfl, rfl⟩) f b0 b1 (fun i => match ps[i]? with | some a => p a | none => false) (fun i z h => by
    obtain ⟨a, ha, rfl⟩ := hget i z h
    rw [ha]; exact hf a)
  have hT : ∀ us, TrL [.arr 45 2 us, .st 24 [.p b0, .p b1]] [] [0, 1] [.own 1 0] [.imm 2 (.agg [b0, b1]) 0] := fun us => .cons (Tr.box (qs := [b0, b1]) (by decide) rfl hbo) .nil
  have hT1 : ∀ us, TrL [.arr 45 2 us, .st 24 [.p b0, .p b1]] [] [1] [.own 1 0] [.imm 2 (.agg [b0, b1]) 0] := fun us => .cons (Tr.box (qs := [b0, b1]) (by decide) rfl hbo) .nil
  refine fn_of_vc eOk fOk fo33 Try.func33 rfl rfl rfl fun B hB => ?_
  intro add sub mul quo rem band bor bxor bclr shl shr ieq ilt ile seq slt beq bnot orb bcond iwrap iof ssz hA cat sq sl imin imax smin smax len slen u8 hL op hop call hcall code hcode ret hret
  cbv
  refine hcall _ _ _ _ _ (CallEv.shown [] [0, 1] hidx rfl (.cons (.bvw 0 2 0 n (some K) _ 2 xs zs (by decide) rfl hzx) (.cons (.fn _ _ _ (hT xs).1 (hT xs).2) .nil)) trivial ?_)
  rintro _ _ ⟨k, hk, rfl, rfl⟩
  refine ⟨.p _ (.int _ _), (by intro r hr; cases hr), ?_⟩
  have hnone : k = -1 → RowP xs K n (ps.filter fun a => !(p a)) := fun h => by
    have hall : ∀ j, j < n → (match ps[j]? with | some a => p a | none => false) = false := by
      rcases hk with c | ⟨i, _, h2, _⟩
      · exact c.2
      · rw [h] at h2; simp only [Int.ofNat_eq_natCast] at h2; omega
    rw [List.filter_eq_self.2 fun a ha => ?_]
    · exact hx
    · obtain ⟨q, hq⟩ := List.mem_iff_getElem?.1 ha
      have := hall q (by rw [hps]; exact (List.getElem?_eq_some_iff.1 hq).1)
      rw [hq] at this; simp only at this; rw [this]; rfl
  cbv
  by_cases hk0 : k = -1
  · have key := hnone hk0
    refine vcIf.yes (by first | (simp [hA.not, hA.eq, hA.lt, hA.le, hA.cond, hA.beq, hA.orb, hL.len, hL.slen, hL.sq, hk0]; done) | (simp only [hk0]; simp [hA.not, hA.eq, hA.lt, hA.le, hA.cond, hA.beq, hA.orb, hL.len, hL.slen, hL.sq, hk0]; done) | (simp [hA.not, hA.eq, hA.lt, hA.le, hA.cond, hA.beq, hA.orb, hL.len, hL.slen, hL.sq, hk0]; omega) | (simp only [hk0]; simp [hA.not, hA.eq, hA.lt, hA.le, hA.cond, hA.beq, hA.orb, hL.len, hL.slen, hL.sq, hk0]; omega)) ?_
    cbv
    exact hret _ (RetEv.ret eOk rfl ⟨n, xs, rfl, rfl, key⟩)
  have hk2 : ∃ i : Nat, i < n ∧ k = Int.ofNat i ∧ (match ps[i]? with | some a => p a | none => false) = true ∧ ∀ j, j < i → (match ps[j]? with | some a => p a | none => false) = false := by
    rcases hk with c | c
    · exact absurd c.1 hk0
    · exact c
  refine Exists.elim hk2 fun i0 hi0 => ?_
  refine Exists.elim (get_of_lt (show i0 < ps.length by omega)) fun a0 ha0 => ?_
  have hst := DelSt.first hx ha0 (p := p) (by have := hi0.2.2.1; rw [ha0] at this; exact this) (fun j hj b hb => by have := hi0.2.2.2 j hj; rw [hb] at this; exact this)
  have hi0n := hi0.1
  have hki := hi0.2.1
  refine Exists.elim (show ∃ j0, j0 = i0 + 1 from ⟨_, rfl⟩) fun j0 hj0 => ?_
  rw [← hj0] at hst
  have hadd : add .i64 k 1 = Int.ofNat j0 := by rw [hki, hA.add, IntWalk.i64_in _ (by simp only [Int.ofNat_eq_natCast]; omega), hj0]; rfl
  clear hk hk2 hi0
  refine vcIf.no (by first | (simp [hA.not, hA.eq, hA.lt, hA.le, hA.cond, hA.beq, hA.orb, hL.len, hL.slen, hL.sq, hk0]; done) | (simp only [hk0]; simp [hA.not, hA.eq, hA.lt, hA.le, hA.cond, hA.beq, hA.orb, hL.len, hL.slen, hL.sq, hk0]; done) | (simp [hA.not, hA.eq, hA.lt, hA.le, hA.cond, hA.beq, hA.orb, hL.len, hL.slen, hL.sq, hk0]; omega) | (simp only [hk0]; simp [hA.not, hA.eq, hA.lt, hA.le, hA.cond, hA.beq, hA.orb, hL.len, hL.slen, hL.sq, hk0]; omega)) ?_
  cbv
  rw [hadd, hki]
  refine hcode _ _ _ (CodeEv.loop eOk fOk (ι := Nat × Nat × List PV) (fun s => [(0, .vw 0 2 0 n (some K)), (1, .fn f [.own 1 0]), (5, .p (.int .i64 (Int.ofNat s.1))), (6, .p (.int .i64 (Int.ofNat s.2.1)))])
    (fun s => [.arr 45 2 s.2.2, .st 24 [.p b0, .p b1]]) (fun s => s.1 < s.2.1 ∧ s.2.1 ≤ n ∧ DelSt xs s.2.2 K ps p s.1 s.2.1) (fun s => n - s.2.1) (i0, j0, xs) ?_ ?_)
  · exact ⟨(by repeat (first | exact trivial | refine And.intro rfl ?_)), rfl, by simp only; omega, by simp only; omega, hst⟩
  rintro ⟨i, j, us⟩ ⟨k1, k2, k3⟩ rd hrd
  simp only at k1 k2 k3
  by_cases hj : j < n
  · refine Exists.elim (get_of_lt (show j < ps.length by omega)) fun a ha => ?_
    have huj : us[j]? = some (.agg [.str a.key, .str a.val]) := by
      rw [k3.2.2.2.2 j (Nat.le_refl _)]
      have h1 : (xs.take n)[j]? = some a.v := by rw [hxt]; unfold prP; rw [List.getElem?_map, ha]; rfl
      rwa [List.getElem?_take_of_lt hj] at h1
    have hul : us.length = K := k3.1
    have hfa := hf a
    have hkeep := fun (h : p a = false) (ws : List PV) => k3.keep ha h (by have := hx.2.2.1; omega) (ws := ws)
    have hskip := fun (h : p a = true) => k3.skip ha h
    have hnK := hx.2.2.1
    refine Exists.elim (show ∃ b, b = p a from ⟨_, rfl⟩) fun pb hpb => ?_
    rw [← hpb] at hfa hkeep hskip
    obtain ⟨ak, av⟩ := a
    simp only at huj hfa
    intro add1 sub1 mul1 quo1 rem1 band1 bor1 bxor1 bclr1 shl1 shr1 ieq1 ilt1 ile1 seq1 slt1 beq1 bnot1 orb1 bcond1 iwrap1 iof1 ssz1 hA1 cat1 sq1 sl1 imin1 imax1 smin1 smax1 len1 slen1 u81 hL1 op1 hop1 call1 hcall1 code1 hcode1
    have haj : add1 .i64 (Int.ofNat j) 1 = Int.ofNat (j + 1) := by rw [hA1.add, IntWalk.i64_in _ (by simp only [Int.ofNat_eq_natCast]; omega)]; rfl
    have hai : add1 .i64 (Int.ofNat i) 1 = Int.ofNat (i + 1) := by rw [hA1.add, IntWalk.i64_in _ (by simp only [Int.ofNat_eq_natCast]; omega)]; rfl
    have hnn : iof1 n = Int.ofNat n := hA1.ofNat n
    cbv
    refine vcIf.yes (by first | (simp [hA1.not, hA1.eq, hA1.lt, hA1.le, hA1.cond, hA1.beq, hA1.orb, hL1.len, hL1.slen, hL1.sq, hnn, hj]; done) | (simp only [hnn, hj]; simp [hA1.not, hA1.eq, hA1.lt, hA1.le, hA1.cond, hA1.beq, hA1.orb, hL1.len, hL1.slen, hL1.sq, hnn, hj]; done) | (simp [hA1.not, hA1.eq, hA1.lt, hA1.le, hA1.cond, hA1.beq, hA1.orb, hL1.len, hL1.slen, hL1.sq, hnn, hj]; omega) | (simp only [hnn, hj]; simp [hA1.not, hA1.eq, hA1.lt, hA1.le, hA1.cond, hA1.beq, hA1.orb, hL1.len, hL1.slen, hL1.sq, hnn, hj]; omega)) ?_
    cbv
    refine ⟨j, rfl, hj, fun q hq => ?_⟩
    have hq : q = j := by omega
    have guq : us[q]? = some (.agg [.str ak, .str av]) := by rw [hq]; exact huj
    cbv
    refine ⟨_, guq, ?_⟩
    cbv
    refine hcall1 _ _ _ _ _ (CallEv.shown [] [1] hfa rfl (.cons (.p _) (.cons (Tr.box (qs := [b0, b1]) (by decide) rfl hbo) .nil)) trivial ?_)
    rintro _ _ ⟨b, hb, rfl, rfl⟩
    refine ⟨.p _ (.bool _), (by intro r hr; cases hr), ?_⟩
    cbv
    by_cases hbb : b = true
    · have hs := hskip (by rw [← hb]; exact hbb)
      refine vcIf.no (by first | (simp [hA1.not, hA1.eq, hA1.lt, hA1.le, hA1.cond, hA1.beq, hA1.orb, hL1.len, hL1.slen, hL1.sq, hbb]; done) | (simp only [hbb]; simp [hA1.not, hA1.eq, hA1.lt, hA1.le, hA1.cond, hA1.beq, hA1.orb, hL1.len, hL1.slen, hL1.sq, hbb]; done) | (simp [hA1.not, hA1.eq, hA1.lt, hA1.le, hA1.cond, hA1.beq, hA1.orb, hL1.len, hL1.slen, hL1.sq, hbb]; omega) | (simp only [hbb]; simp [hA1.not, hA1.eq, hA1.lt, hA1.le, hA1.cond, hA1.beq, hA1.orb, hL1.len, hL1.slen, hL1.sq, hbb]; omega)) ?_
      cbv
      refine hrd _ ⟨(i, j + 1, us), _, ?_, ⟨?_, hj, hs⟩, rfl, ⟨rfl, rfl, rfl, ?_, trivial⟩, rfl, rfl, rfl, ?_⟩
      · show n - (j + 1) < n - j
        omega
      · simp only; omega
      · show some (V.p (.int .i64 _)) = _
        rw [haj]
      · rw [hB]; exact Nat.le_refl _
    · have hkp := hkeep (by rw [← hb]; exact Bool.eq_false_iff.2 hbb)
      have hbb := Bool.eq_false_iff.2 hbb
      refine vcIf.yes (by first | (simp [hA1.not, hA1.eq, hA1.lt, hA1.le, hA1.cond, hA1.beq, hA1.orb, hL1.len, hL1.slen, hL1.sq, hbb]; done) | (simp only [hbb]; simp [hA1.not, hA1.eq, hA1.lt, hA1.le, hA1.cond, hA1.beq, hA1.orb, hL1.len, hL1.slen, hL1.sq, hbb]; done) | (simp [hA1.not, hA1.eq, hA1.lt, hA1.le, hA1.cond, hA1.beq, hA1.orb, hL1.len, hL1.slen, hL1.sq, hbb]; omega) | (simp only [hbb]; simp [hA1.not, hA1.eq, hA1.lt, hA1.le, hA1.cond, hA1.beq, hA1.orb, hL1.len, hL1.slen, hL1.sq, hbb]; omega)) ?_
      cbv
      refine ⟨i, rfl, by omega, fun d hd => ?_⟩
      have hd : d = i := by omega
      refine Exists.elim (get_of_lt (show d < us.length by omega)) fun z hz => ?_
      cbv
      refine ⟨z, hz, Pr.wf ⟨ak, av⟩, fun ws hws => ?_⟩
      have hkp := hkp ws (by rw [hws, hd]; rfl)
      cbv
      refine hrd _ ⟨(i + 1, j + 1, ws), _, ?_, ⟨?_, hj, hkp⟩, rfl, ⟨rfl, rfl, ?_, ?_, trivial⟩, rfl, rfl, rfl, ?_⟩
      · show n - (j + 1) < n - j
        omega
      · simp only; omega
      · show some (V.p (.int .i64 _)) = _
        rw [hai]
      · show some (V.p (.int .i64 _)) = _
        rw [haj]
      · rw [hB]; exact Nat.le_refl _
  · intro add1 sub1 mul1 quo1 rem1 band1 bor1 bxor1 bclr1 shl1 shr1 ieq1 ilt1 ile1 seq1 slt1 beq1 bnot1 orb1 bcond1 iwrap1 iof1 ssz1 hA1 cat1 sq1 sl1 imin1 imax1 smin1 smax1 len1 slen1 u81 hL1 op1 hop1 call1 hcall1 code1 hcode1
    have hnn : iof1 n = Int.ofNat n := hA1.ofNat n
    cbv
    refine vcIf.no (by first | (simp [hA1.not, hA1.eq, hA1.lt, hA1.le, hA1.cond, hA1.beq, hA1.orb, hL1.len, hL1.slen, hL1.sq, hnn, hj]; done) | (simp only [hnn, hj]; simp [hA1.not, hA1.eq, hA1.lt, hA1.le, hA1.cond, hA1.beq, hA1.orb, hL1.len, hL1.slen, hL1.sq, hnn, hj]; done) | (simp [hA1.not, hA1.eq, hA1.lt, hA1.le, hA1.cond, hA1.beq, hA1.orb, hL1.len, hL1.slen, hL1.sq, hnn, hj]; omega) | (simp only [hnn, hj]; simp [hA1.not, hA1.eq, hA1.lt, hA1.le, hA1.cond, hA1.beq, hA1.orb, hL1.len, hL1.slen, hL1.sq, hnn, hj]; omega)) ?_
    cbv
    refine ⟨i, n, rfl, rfl, by omega, by have := hx.2.2.1; have := k3.1; omega, (fun c h => by cases h; have := hx.2.2.1; omega), fun o1 m1 ho1 hm1 => ?_⟩
    have hii : o1 = i := by omega
    cbv
    refine hop _ _ _ _ (OpEv.clear eOk rfl rfl rfl rfl rfl rfl rfl (Pr.wf ⟨[], []⟩) rfl rfl rfl fun ws hws => ?_)
    have key := DelSt.last hx (show DelSt xs us K ps p i n by rw [show n = j by omega]; exact k3) (show i + m1 = n by omega) (ws := ws) (by rw [hws, hii]; rfl)
    cbv
    refine ⟨0, i, rfl, rfl, Nat.zero_le _, by have := key.1; have := key.2.2.1; omega, (fun c h => by cases h; have := key.1; have := key.2.2.1; omega), fun o2 m2 ho2 hm2 => ?_⟩
    obtain rfl : 0 = o2 := by omega
    obtain rfl : i = m2 := by omega
    cbv
    exact hret _ (RetEv.ret eOk rfl ⟨i, ws, rfl, rfl, key⟩)

end Go.Proofs.Ytdeolllpbflemaa
