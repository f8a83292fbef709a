/- What slices.Clone and change.Clone answer: the same changes. Conditions: on sizes. -/
import Derived.Test.YtocmeaamaecgeaaLSc
import Derived.Test.YtocmeaamaecgeaaLCh1
set_option maxRecDepth 100000
set_option maxHeartbeats 4000000
set_option linter.unusedSimpArgs false
set_option linter.unusedVariables false
namespace Go.Proofs.Ytocmeaamaecgeaa
open Go Go.Lx
open Go.Sx (vcIf)

theorem slcChg_spec (zs : List PV) (n : Nat) (hl : zs.length = n) (hw : Wf 3 zs) (hn : n * 40 ≤ 140737488355328) :
    FnL Try.prog 37 [.p (.sl zs)] [] fun v own => (n = 0 ∧ v = .p .nils ∧ own = []) ∨ ∃ us, us = zs ∧ v = .vw 0 3 0 n none ∧ own = [.arr 57 3 us] := by
  refine fn_of_vc eOk fOk fo37 Try.func37 rfl rfl rfl fun B hB => ?_
  intro add sub mul quo rem band bor bxor bclr shl shr ieq ilt ile seq slt beq bnot orb bcond iwrap iof ssz hA cat sq sl imin imax smin smax len slen u8 hL op hop call hcall code hcode ret hret
  cbv
  intro b hb
  cbv
  cases b with
  | true =>
    have h0 := hb rfl
    cbv
    exact hret _ (RetEv.ret eOk rfl (.inl ⟨by rw [← hl, h0]; rfl, rfl, rfl⟩))
  | false =>
    cbv
    refine ⟨true, ?_⟩
    cbv
    refine .inl ⟨(), rfl, rfl, hw, ?_, ?_, ?_⟩
    · show 0 + zs.length ≤ maxLen
      unfold maxLen; omega
    · show (0 + zs.length) * 40 ≤ _
      omega
    intro us n' hu hn'
    replace hu : us = [] ++ zs := hu
    replace hn' : n' = 0 + zs.length := hn'
    obtain rfl : n' = n := by omega
    cbv
    exact hret _ (RetEv.ret eOk rfl (.inr ⟨us, hu, rfl, rfl⟩))

theorem chClone_spec (l : List Chg) (hf : ∀ c ∈ l, c.fit) (hn : l.length * 40 ≤ 140737488355328) (zs : List PV) (hzs : zs = cP l) :
    FnL Try.prog 30 [.p (.sl zs)] [] fun v own => v = .p (.sl zs) ∧ own = [] := by
  refine FnL.flat (R := fun v own => ∃ x, v = .p x ∧ PW x (.sl zs)) ?_ (by rintro _ _ ⟨x, rfl, h⟩; exact ⟨_, _, rfl, h, rfl, rfl⟩)
  obtain ⟨n, hnn⟩ : ∃ n, n = l.length := ⟨_, rfl⟩
  have hzl : zs.length = n := by rw [hzs, cP_length, hnn]
  have hcl := slcChg_spec zs n hzl (by rw [hzs]; exact cP_wf l) (by omega)
  refine fn_of_vc eOk fOk fo30 Try.func30 rfl rfl rfl fun B hB => ?_
  intro add sub mul quo rem band bor bxor bclr shl shr ieq ilt ile seq slt beq bnot orb bcond iwrap iof ssz hA cat sq sl imin imax smin smax len slen u8 hL op hop call hcall code hcode ret hret
  cbv
  refine hcall _ _ _ _ _ (CallEv.same hcl rfl ?_)
  rintro _ _ (⟨h0, rfl, rfl⟩ | ⟨us, hus, rfl, rfl⟩)
  · cbv
    have hz0 : zs = [] := List.length_eq_zero_iff.1 (by omega)
    refine hcode _ _ _ (CodeEv.loop eOk fOk (ι := Unit) (fun s => [(3, .p .nils), (8, .p (.int .i64 0)), (9, .p (.int .i64 0))]) (fun s => []) (fun s => True) (fun s => 0) () ?_ ?_)
    · exact ⟨(by repeat (first | exact trivial | refine And.intro rfl ?_)), rfl, trivial⟩
    rintro _ _ rd hrd
    intro add1 sub1 mul1 quo1 rem1 band1 bor1 bxor1 bclr1 shl1 shr1 ieq1 ilt1 ile1 seq1 slt1 beq1 bnot1 orb1 bcond1 iwrap1 iof1 ssz1 hA1 cat1 sq1 sl1 imin1 imax1 smin1 smax1 len1 slen1 u81 hL1 op1 hop1 call1 hcall1 code1 hcode1
    cbv
    refine vcIf.no (by first | (simp [hA1.not, hA1.eq, hA1.lt, hA1.le, hA1.cond, hA1.beq, hA1.orb, hL1.len, hL1.slen, hL1.sq]; done) | (simp [hA1.not, hA1.eq, hA1.lt, hA1.le, hA1.cond, hA1.beq, hA1.orb, hL1.len, hL1.slen, hL1.sq]; omega)) ?_
    cbv
    exact hret _ (RetEv.ret eOk rfl ⟨.nils, rfl, by rw [hz0]; exact .nils⟩)
  · cbv
    rw [show iof n = Int.ofNat n from hA.ofNat n]
    have husl : us.length = n := by rw [hus, hzl]
    refine hcode _ _ _ (CodeEv.loop eOk fOk (ι := Nat) (fun s => [(3, .vw 0 3 0 n none), (8, .p (.int .i64 (Int.ofNat n))), (9, .p (.int .i64 (Int.ofNat s)))]) (fun s => [.arr 57 3 us]) (fun s => s ≤ n) (fun s => n - s) 0 ?_ ?_)
    · exact ⟨(by repeat (first | exact trivial | refine And.intro rfl ?_)), rfl, Nat.zero_le _⟩
    rintro i h1 rd hrd
    by_cases hi : i < n
    · refine Exists.elim (get_of_lt (show i < l.length by omega)) fun c hc => ?_
      obtain ⟨k, ky, vl⟩ := c
      have hui : us[i]? = some (.agg [.int .i64 k, .str ky, .str vl]) := by rw [hus, hzs]; exact cP_get hc
      have hcf := hf _ (List.mem_of_getElem? hc)
      have sp1 := sclone_spec ky (by have := hcf.1; simp only at this; omega)
      have sp2 := sclone_spec vl (by have := hcf.2.1; simp only at this; omega)
      have hset : us.set i (.agg [.int .i64 k, .str ky, .str vl]) = us := by
        obtain ⟨hlt, he⟩ := List.getElem?_eq_some_iff.1 hui
        rw [← he]; exact List.set_getElem_self hlt
      intro add1 sub1 mul1 quo1 rem1 band1 bor1 bxor1 bclr1 shl1 shr1 ieq1 ilt1 ile1 seq1 slt1 beq1 bnot1 orb1 bcond1 iwrap1 iof1 ssz1 hA1 cat1 sq1 sl1 imin1 imax1 smin1 smax1 len1 slen1 u81 hL1 op1 hop1 call1 hcall1 code1 hcode1
      have hadd1 : add1 .i64 (Int.ofNat i) 1 = Int.ofNat (i + 1) := by rw [hA1.add, IntWalk.i64_in _ (by simp only [Int.ofNat_eq_natCast]; omega)]; rfl
      cbv
      refine vcIf.yes (by first | (simp [hA1.not, hA1.eq, hA1.lt, hA1.le, hA1.cond, hA1.beq, hA1.orb, hL1.len, hL1.slen, hL1.sq, hi]; done) | (simp only [hi]; simp [hA1.not, hA1.eq, hA1.lt, hA1.le, hA1.cond, hA1.beq, hA1.orb, hL1.len, hL1.slen, hL1.sq, hi]; done) | (simp [hA1.not, hA1.eq, hA1.lt, hA1.le, hA1.cond, hA1.beq, hA1.orb, hL1.len, hL1.slen, hL1.sq, hi]; omega) | (simp only [hi]; simp [hA1.not, hA1.eq, hA1.lt, hA1.le, hA1.cond, hA1.beq, hA1.orb, hL1.len, hL1.slen, hL1.sq, hi]; omega)) ?_
      cbv
      refine hcode1 _ _ _ (CodeEv.drawT eOk fOk (by kernel_rfl) (Xof 1 [0]) (.rd 0 (.rd 1 (.rd 2 (.rd 3 (.rd 4 (.rd 5 (.rd 6 (.rd 7 (.rd 10 (.rd 11 (.rd 12 (.rd 13 (.acts (.cons 8 (.acts (.cons 9 (.so 14 (.acts (.cons 15 (.so 16 (.so 17 (.acts (.cons 18 (.so 19 (.so 20 (.acts (.cons 21 (.done) (.nil))))) (.nil))))) (.nil)))) (.cons 14 (.acts (.cons 9 (.acts (.cons 15 (.so 16 (.so 17 (.acts (.cons 18 (.so 19 (.so 20 (.acts (.cons 21 (.done) (.nil))))) (.nil))))) (.nil))) (.nil))) (.nil)))) (.cons 14 (.so 8 (.acts (.cons 9 (.acts (.cons 15 (.so 16 (.so 17 (.acts (.cons 18 (.so 19 (.so 20 (.acts (.cons 21 (.done) (.nil))))) (.nil))))) (.nil))) (.nil)))) (.nil)))))))))))))))) (by kernel_rfl) (by kernel_rfl) ?_)
      intro add2 sub2 mul2 quo2 rem2 band2 bor2 bxor2 bclr2 shl2 shr2 ieq2 ilt2 ile2 seq2 slt2 beq2 bnot2 orb2 bcond2 iwrap2 iof2 ssz2 hA2 cat2 sq2 sl2 imin2 imax2 smin2 smax2 len2 slen2 u82 hL2 op2 hop2 call2 hcall2 code2 hcode2 q2 hq2
      cbv
      refine ⟨i, rfl, by omega, fun a ha => ?_⟩
      have ha : a = i := by omega
      have ga : us[a]? = some (.agg [.int .i64 k, .str ky, .str vl]) := by rw [ha]; exact hui
      cbv
      refine ⟨i, rfl, by omega, fun b hb => ?_⟩
      have hb : b = i := by omega
      have gb : us[b]? = some (.agg [.int .i64 k, .str ky, .str vl]) := by rw [hb]; exact hui
      cbv
      refine ⟨?_, ?_⟩
      · refine ⟨_, ga, ?_⟩
        cbv
        refine ⟨?_, ?_⟩
        · refine hcall2 _ _ _ _ _ (CallEv.same sp1 rfl ?_)
          rintro _ _ ⟨rfl, rfl⟩
          cbv
          refine ⟨_, gb, ?_⟩
          cbv
          refine hcall2 _ _ _ _ _ (CallEv.same sp2 rfl ?_)
          rintro _ _ ⟨rfl, rfl⟩
          cbv
          refine ⟨i, rfl, by omega, fun c hc => ?_⟩
          have hc : c = i := by omega
          have gc : us[c]? = some (.agg [.int .i64 k, .str ky, .str vl]) := by rw [hc]; exact hui
          cbv
          refine ⟨_, gc, PV.wf1 rfl, Nat.le_of_ble_eq_true rfl, fun vs hvs => ?_⟩
          have hvs : vs = us := by rw [hvs, hc]; exact hset
          cbv
          refine ⟨i, rfl, by omega, fun d hd => ?_⟩
          have hd : d = i := by omega
          have gd : vs[d]? = some (.agg [.int .i64 k, .str ky, .str vl]) := by rw [hd, hvs]; exact hui
          cbv
          refine ⟨_, gd, PV.wf1 rfl, Nat.le_of_ble_eq_true rfl, fun ws hws => ?_⟩
          have hws : ws = us := by rw [hws, hd, hvs]; exact hset
          cbv
          refine hq2 _ ?_
          cbv
          rw [hws]
          refine hrd _ ⟨i + 1, _, ?_, by omega, rfl, ⟨rfl, rfl, ?_, trivial⟩, rfl, rfl, rfl, ?_⟩
          · show n - (i + 1) < n - i
            omega
          · show some (V.p (.int .i64 _)) = _
            rw [hadd1]
          · rw [hB]; exact Nat.zero_le _
        · refine ⟨_, gb, ?_⟩
          cbv
          refine hcall2 _ _ _ _ _ (CallEv.same sp1 rfl ?_)
          rintro _ _ ⟨rfl, rfl⟩
          cbv
          refine hcall2 _ _ _ _ _ (CallEv.same sp2 rfl ?_)
          rintro _ _ ⟨rfl, rfl⟩
          cbv
          refine ⟨i, rfl, by omega, fun c hc => ?_⟩
          have hc : c = i := by omega
          have gc : us[c]? = some (.agg [.int .i64 k, .str ky, .str vl]) := by rw [hc]; exact hui
          cbv
          refine ⟨_, gc, PV.wf1 rfl, Nat.le_of_ble_eq_true rfl, fun vs hvs => ?_⟩
          have hvs : vs = us := by rw [hvs, hc]; exact hset
          cbv
          refine ⟨i, rfl, by omega, fun d hd => ?_⟩
          have hd : d = i := by omega
          have gd : vs[d]? = some (.agg [.int .i64 k, .str ky, .str vl]) := by rw [hd, hvs]; exact hui
          cbv
          refine ⟨_, gd, PV.wf1 rfl, Nat.le_of_ble_eq_true rfl, fun ws hws => ?_⟩
          have hws : ws = us := by rw [hws, hd, hvs]; exact hset
          cbv
          refine hq2 _ ?_
          cbv
          rw [hws]
          refine hrd _ ⟨i + 1, _, ?_, by omega, rfl, ⟨rfl, rfl, ?_, trivial⟩, rfl, rfl, rfl, ?_⟩
          · show n - (i + 1) < n - i
            omega
          · show some (V.p (.int .i64 _)) = _
            rw [hadd1]
          · rw [hB]; exact Nat.zero_le _
      · refine ⟨_, gb, ?_⟩
        cbv
        refine ⟨_, ga, ?_⟩
        cbv
        refine hcall2 _ _ _ _ _ (CallEv.same sp1 rfl ?_)
        rintro _ _ ⟨rfl, rfl⟩
        cbv
        refine hcall2 _ _ _ _ _ (CallEv.same sp2 rfl ?_)
        rintro _ _ ⟨rfl, rfl⟩
        cbv
        refine ⟨i, rfl, by omega, fun c hc => ?_⟩
        have hc : c = i := by omega
        have gc : us[c]? = some (.agg [.int .i64 k, .str ky, .str vl]) := by rw [hc]; exact hui
        cbv
        refine ⟨_, gc, PV.wf1 rfl, Nat.le_of_ble_eq_true rfl, fun vs hvs => ?_⟩
        have hvs : vs = us := by rw [hvs, hc]; exact hset
        cbv
        refine ⟨i, rfl, by omega, fun d hd => ?_⟩
        have hd : d = i := by omega
        have gd : vs[d]? = some (.agg [.int .i64 k, .str ky, .str vl]) := by rw [hd, hvs]; exact hui
        cbv
        refine ⟨_, gd, PV.wf1 rfl, Nat.le_of_ble_eq_true rfl, fun ws hws => ?_⟩
        have hws : ws = us := by rw [hws, hd, hvs]; exact hset
        cbv
        refine hq2 _ ?_
        cbv
        rw [hws]
        refine hrd _ ⟨i + 1, _, ?_, by omega, rfl, ⟨rfl, rfl, ?_, trivial⟩, rfl, rfl, rfl, ?_⟩
        · show n - (i + 1) < n - i
          omega
        · show some (V.p (.int .i64 _)) = _
          rw [hadd1]
        · rw [hB]; exact Nat.zero_le _
    · have hin : i = n := by omega
      intro add1 sub1 mul1 quo1 rem1 band1 bor1 bxor1 bclr1 shl1 shr1 ieq1 ilt1 ile1 seq1 slt1 beq1 bnot1 orb1 bcond1 iwrap1 iof1 ssz1 hA1 cat1 sq1 sl1 imin1 imax1 smin1 smax1 len1 slen1 u81 hL1 op1 hop1 call1 hcall1 code1 hcode1
      cbv
      refine vcIf.no (by first | (simp [hA1.not, hA1.eq, hA1.lt, hA1.le, hA1.cond, hA1.beq, hA1.orb, hL1.len, hL1.slen, hL1.sq, hi]; done) | (simp only [hi]; simp [hA1.not, hA1.eq, hA1.lt, hA1.le, hA1.cond, hA1.beq, hA1.orb, hL1.len, hL1.slen, hL1.sq, hi]; done) | (simp [hA1.not, hA1.eq, hA1.lt, hA1.le, hA1.cond, hA1.beq, hA1.orb, hL1.len, hL1.slen, hL1.sq, hi]; omega) | (simp only [hi]; simp [hA1.not, hA1.eq, hA1.lt, hA1.le, hA1.cond, hA1.beq, hA1.orb, hL1.len, hL1.slen, hL1.sq, hi]; omega)) ?_
      cbv
      refine hret _ (RetEv.retF eOk rfl 0 rfl (by rw [hB]; exact Nat.zero_le _) ⟨.sl us, ?_, by rw [hus]; exact .refl _⟩)
      show V.p (.sl ((us.drop 0).take n)) = _
      rw [frz_full husl]
end Go.Proofs.Ytocmeaamaecgeaa
