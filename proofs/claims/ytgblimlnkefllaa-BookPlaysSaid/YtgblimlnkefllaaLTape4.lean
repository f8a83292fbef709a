/- The document's tape. Conditions: on sizes. -/
import Derived.Test.YtgblimlnkefllaaLTape3
set_option maxRecDepth 100000
set_option maxHeartbeats 4000000
set_option linter.unusedSimpArgs false
set_option linter.unusedVariables false
namespace Go.Proofs.Ytgblimlnkefllaa
open Go Go.Lx
open Go.Sx (vcIf)

abbrev rtS (sr ls : List UInt8) (ro lf : Int) (d : Bool) : Res := .st 39 [.p (.str sr), .p (.str ls), .p (.int .i64 ro), .p (.int .i64 lf), .p (.bool d)]
def IsRt (t : Tp) (sr ls : List UInt8) (ro lf : Int) (d : Bool) : Prop :=
  t.all = sr ++ ls ∧ t.sure = sr.length ∧ ro = (t.room : Int) ∧ t.after = (if lf > -1 then lf else -1) ∧ d = t.down ∧ t.all.length ≤ t.room ∧ t.room ≤ 1048576 ∧ -9223372036854775808 ≤ lf ∧ lf ≤ 9223372036854775807

theorem rwrite_spec {t : Tp} {sr ls : List UInt8} {ro lf : Int} {d : Bool} (ht : IsRt t sr ls ro lf d) (size : Nat) (z : Int) (hz : z = (size : Int)) :
    FnL Try.prog 35 [.own 0 0, .p (.int .i64 z)] [rtS sr ls ro lf d] fun v own => ∃ (e lf' : Int) (d' : Bool), e = ((wr t size).1 : Int) ∧ IsRt (wr t size).2 sr ls ro lf' d' ∧ v = .p (.int .i64 e) ∧ own = [rtS sr ls ro lf' d'] := by
  obtain ⟨a, sr0, rm, af, d0⟩ := t
  obtain ⟨h1, h2, h3, h4, h5, h8, h9, h10, h11⟩ := ht
  simp only at h1 h2 h3 h4 h5 h8 h9
  subst h5
  obtain ⟨R, hR⟩ : ∃ R, R = wr ⟨a, sr0, rm, af, d⟩ size := ⟨_, rfl⟩
  have hR2 := hR
  rw [← hR]
  unfold wr at hR2
  simp only at hR2
  have hro : ro < z ↔ rm < size := by omega
  have ha0 : af = 0 ↔ lf = 0 := by rw [h4]; split <;> omega
  have ha1 : 0 < af ↔ 0 < lf := by rw [h4]; split <;> omega
  have ha2 : 0 < lf → af = lf := fun h => by rw [h4]; split <;> omega
  clear hR
  refine fn_of_vc eOk fOk fo35 Try.func35 rfl rfl rfl fun B hB => ?_
  intro add sub mul quo rem band bor bxor bclr shl shr ieq ilt ile seq slt beq bnot orb bcond iwrap iof ssz hA cat sq sl imin imax smin smax len slen u8 hL op hop call hcall code hcode ret hret
  cases d with
  | true =>
    rw [if_pos rfl] at hR2
    cbv
    exact hret _ (RetEv.ret eOk rfl ⟨11, lf, true, by rw [hR2]; rfl, by rw [hR2]; exact ⟨h1, h2, h3, h4, rfl, h8, h9, h10, h11⟩, rfl, rfl⟩)
  | false =>
    rw [if_neg (by decide)] at hR2
    cbv
    by_cases hr : ro < z
    · rw [if_pos (hro.1 hr)] at hR2
      refine vcIf.yes (by rw [hA.lt]; exact decide_eq_true hr) ?_
      cbv
      exact hret _ (RetEv.ret eOk rfl ⟨10, lf, false, by rw [hR2]; rfl, by rw [hR2]; exact ⟨h1, h2, h3, h4, rfl, h8, h9, h10, h11⟩, rfl, rfl⟩)
    · rw [if_neg (fun c => hr (hro.2 c))] at hR2
      refine vcIf.no (by rw [hA.lt]; exact decide_eq_false hr) ?_
      cbv
      by_cases ha : lf = 0
      · rw [if_pos (ha0.2 ha)] at hR2
        refine vcIf.yes (by rw [hA.eq, ha]; rfl) ?_
        cbv
        exact hret _ (RetEv.ret eOk rfl ⟨11, lf, true, by rw [hR2]; rfl, by rw [hR2]; exact ⟨h1, h2, h3, h4, rfl, h8, h9, h10, h11⟩, rfl, rfl⟩)
      · rw [if_neg (fun c => ha (ha0.1 c))] at hR2
        refine vcIf.no (by rw [hA.eq]; simpa using ha) ?_
        cbv
        by_cases ha3 : 0 < lf
        · rw [if_pos (ha1.2 ha3)] at hR2
          have hsub : sub .i64 lf 1 = lf - 1 := by rw [hA.sub, IntWalk.i64_in _ (by omega)]
          have haf := ha2 ha3
          refine vcIf.yes (by rw [hA.lt]; exact decide_eq_true ha3) ?_
          cbv
          exact hret _ (RetEv.ret eOk rfl ⟨0, sub .i64 lf 1, false, by rw [hR2]; rfl, by rw [hR2, hsub]; exact ⟨h1, h2, h3, by simp only; rw [if_pos (by omega), haf], rfl, h8, h9, by omega, by omega⟩, rfl, rfl⟩)
        · rw [if_neg (fun c => ha3 (ha1.1 c))] at hR2
          refine vcIf.no (by rw [hA.lt]; exact decide_eq_false ha3) ?_
          cbv
          exact hret _ (RetEv.ret eOk rfl ⟨0, lf, false, by rw [hR2]; rfl, by rw [hR2]; exact ⟨h1, h2, h3, h4, rfl, h8, h9, h10, h11⟩, rfl, rfl⟩)

theorem rtL {own : List Res} {js : List Nat} {i : Nat} {sr ls : List UInt8} {ro lf : Int} {d : Bool} (h : own[i]? = some (rtS sr ls ro lf d)) : TrO own js [] [i] [rtS sr ls ro lf d] :=
  ⟨⟨_, h, .st _ _ _ (.cons (.p _) (.cons (.p _) (.cons (.p _) (.cons (.p _) (.cons (.p _) .nil)))))⟩, trivial⟩

theorem radd_spec {t : Tp} {sr ls : List UInt8} {ro lf : Int} {d : Bool} (ht : IsRt t sr ls ro lf d) (b : List UInt8) (hb : b.length < 4611686018427387904) :
    FnL Try.prog 17 [.own 0 0, .p (.sl (bP b))] [rtS sr ls ro lf d] fun v own => ∃ (e : Int) (sr' ls' : List UInt8) (ro' lf' : Int) (d' : Bool), e = ((tpAdd t b).1 : Int) ∧ IsRt (tpAdd t b).2 sr' ls' ro' lf' d' ∧ v = .p (.int .i64 e) ∧ own = [rtS sr' ls' ro' lf' d'] := by
  have ht0 := ht
  obtain ⟨h1, h2, h3, h4, h5, h8, h9, h10, h11⟩ := ht
  obtain ⟨W, hW⟩ : ∃ W, W = wr t (t.all.length + b.length) := ⟨_, rfl⟩
  have hsame := wr_same t (t.all.length + b.length)
  have hok := wr_ok (t := t) (s := t.all.length + b.length)
  rw [← hW] at hsame hok
  have hadd : tpAdd t b = if W.1 = 0 then (0, { W.2 with all := t.all ++ b }) else W := by unfold tpAdd; rw [← hW]
  have hal : t.all.length = sr.length + ls.length := by rw [h1]; simp
  obtain ⟨bs, hbs⟩ : ∃ bs, bs = bP b := ⟨_, rfl⟩
  have hbl : bs.length = b.length := by rw [hbs, bP_length]
  rw [← hbs]
  refine fn_of_vc eOk fOk fo17 Try.func17 rfl rfl rfl fun B hB => ?_
  intro add sub mul quo rem band bor bxor bclr shl shr ieq ilt ile seq slt beq bnot orb bcond iwrap iof ssz hA cat sq sl imin imax smin smax len slen u8 hL op hop call hcall code hcode ret hret
  have hfin : ∀ lf' d', W.1 = 0 → IsRt W.2 sr ls ro lf' d' → IsRt (tpAdd t b).2 sr (ls ++ b) ro lf' d' := by
    intro lf' d' c hI
    obtain ⟨g1, g2, g3, g4, g5, g8, g9, g10, g11⟩ := hI
    have := hok c
    rw [hadd, if_pos c]
    refine ⟨?_, g2, g3, g4, g5, ?_, g9, g10, g11⟩
    · simp only; rw [h1, List.append_assoc]
    · simp only [List.length_append]; omega
  have hfin1 : W.1 = 0 → (tpAdd t b).1 = 0 := fun c => by rw [hadd, if_pos c]
  have hfin2 : W.1 ≠ 0 → tpAdd t b = W := fun c => by rw [hadd, if_neg c]
  cbv
  refine hcode _ _ _ (CodeEv.drawA eOk fOk (by kernel_rfl) (Xof 1 [0]) (by kernel_rfl) (by kernel_rfl) (by kernel_rfl) ?_)
  intro add2 sub2 mul2 quo2 rem2 band2 bor2 bxor2 bclr2 shl2 shr2 ieq2 ilt2 ile2 seq2 slt2 beq2 bnot2 orb2 bcond2 iwrap2 iof2 ssz2 hA2 cat2 sq2 sl2 imin2 imax2 smin2 smax2 len2 slen2 u82 hL2 op2 hop2 call2 hcall2 code2 hcode2 q2 hq2
  have hz : add2 .i64 (add2 .i64 (slen2 sr) (slen2 ls)) (len2 bs) = ((t.all.length + b.length : Nat) : Int) := by
    obtain ⟨h1, h2, h3, h4, h5, h8, h9, h10, h11⟩ := ht0
    have hal : t.all.length = sr.length + ls.length := by rw [h1]; simp
    have hbl : bs.length = b.length := by rw [hbs, bP_length]
    rw [hA2.add, hA2.add, hL2.len, hbl, hL2.slen, hL2.slen, IntWalk.i64_in ((sr.length : Int) + (ls.length : Int)) (by omega), IntWalk.i64_in _ (by omega), hal]; simp
  have hwr := rwrite_spec ht0 _ _ hz
  rw [← hW] at hwr
  cbv
  refine hcall2 _ _ _ _ _ (CallEv.lend [0] hwr rfl (.cons (.own 0 0 0 rfl) (.cons (.p _) .nil)) (rtL rfl) ?_)
  rintro _ _ ⟨e, lf', d', he, ht', rfl, rfl⟩
  cbv
  refine hq2 _ ?_
  cbv
  by_cases h0 : W.1 = 0
  · refine vcIf.yes (by rw [hA.eq, he, h0]; rfl) ?_
    have hI := hfin _ _ h0 ht'
    have h1' := hfin1 h0
    cbv
    refine hcode _ _ _ (CodeEv.drawA eOk fOk (by kernel_rfl) (Xof 1 [0]) (by kernel_rfl) (by kernel_rfl) (by kernel_rfl) ?_)
    intro add3 sub3 mul3 quo3 rem3 band3 bor3 bxor3 bclr3 shl3 shr3 ieq3 ilt3 ile3 seq3 slt3 beq3 bnot3 orb3 bcond3 iwrap3 iof3 ssz3 hA3 cat3 sq3 sl3 imin3 imax3 smin3 smax3 len3 slen3 u83 hL3 op3 hop3 call3 hcall3 code3 hcode3 q3 hq3
    have hI3 : IsRt (tpAdd t b).2 sr (cat3 ls b) ro lf' d' := by rw [hL3.cat]; exact hI
    cbv
    refine ⟨b, hbs, ?_⟩
    cbv
    refine ⟨(), ?_, ?_⟩
    · obtain ⟨g1, g2, g3, g4, g5, g6, g7, g8, g9⟩ := ht0
      rw [g1] at g6
      simp only [List.length_append] at g6
      omega
    cbv
    refine hq3 _ ?_
    cbv
    exact hret _ (RetEv.ret eOk rfl ⟨e, sr, _, ro, lf', d', by rw [h1', he, h0], hI3, rfl, rfl⟩)
  · refine vcIf.no (by rw [hA.eq, he]; simpa using h0) ?_
    cbv
    exact hret _ (RetEv.ret eOk rfl ⟨e, sr, ls, ro, lf', d', by rw [hfin2 h0]; exact he, by rw [hfin2 h0]; exact ht', rfl, rfl⟩)

theorem rsync_spec {t : Tp} {sr ls : List UInt8} {ro lf : Int} {d : Bool} (ht : IsRt t sr ls ro lf d) :
    FnL Try.prog 18 [.own 0 0] [rtS sr ls ro lf d] fun v own => ∃ (e : Int) (sr' ls' : List UInt8) (ro' lf' : Int) (d' : Bool), e = ((tpSync t).1 : Int) ∧ IsRt (tpSync t).2 sr' ls' ro' lf' d' ∧ v = .p (.int .i64 e) ∧ own = [rtS sr' ls' ro' lf' d'] := by
  have ht0 := ht
  obtain ⟨W, hW⟩ : ∃ W, W = wr t 0 := ⟨_, rfl⟩
  have hsame := wr_same t 0
  have hok := wr_ok (t := t) (s := 0)
  rw [← hW] at hsame hok
  have hadd : tpSync t = if W.1 = 0 then (0, { W.2 with sure := t.all.length }) else W := by unfold tpSync; rw [← hW]
  refine fn_of_vc eOk fOk fo18 Try.func18 rfl rfl rfl fun B hB => ?_
  intro add sub mul quo rem band bor bxor bclr shl shr ieq ilt ile seq slt beq bnot orb bcond iwrap iof ssz hA cat sq sl imin imax smin smax len slen u8 hL op hop call hcall code hcode ret hret
  have hfin : ∀ lf' d', W.1 = 0 → IsRt W.2 sr ls ro lf' d' → IsRt (tpSync t).2 (sr ++ ls) [] ro lf' d' := by
    intro lf' d' c hI
    obtain ⟨g1, g2, g3, g4, g5, g8, g9, g10, g11⟩ := hI
    have := hok c
    rw [hadd, if_pos c]
    refine ⟨by simp only; rw [g1]; simp, ?_, g3, g4, g5, g8, g9, g10, g11⟩
    simp only; rw [← this.2.2.1, g1]
  have hfin1 : W.1 = 0 → (tpSync t).1 = 0 := fun c => by rw [hadd, if_pos c]
  have hfin2 : W.1 ≠ 0 → tpSync t = W := fun c => by rw [hadd, if_neg c]
  have hwr := rwrite_spec ht0 0 0 rfl
  rw [← hW] at hwr
  cbv
  refine hcall _ _ _ _ _ (CallEv.lend [0] hwr rfl (.cons (.own 0 0 0 rfl) (.cons (.p _) .nil)) (rtL rfl) ?_)
  rintro _ _ ⟨e, lf', d', he, ht', rfl, rfl⟩
  cbv
  by_cases h0 : W.1 = 0
  · refine vcIf.yes (by rw [hA.eq, he, h0]; rfl) ?_
    have hI := hfin _ _ h0 ht'
    have h1' := hfin1 h0
    cbv
    refine hcode _ _ _ (CodeEv.drawA eOk fOk (by kernel_rfl) (Xof 1 [0]) (by kernel_rfl) (by kernel_rfl) (by kernel_rfl) ?_)
    intro add3 sub3 mul3 quo3 rem3 band3 bor3 bxor3 bclr3 shl3 shr3 ieq3 ilt3 ile3 seq3 slt3 beq3 bnot3 orb3 bcond3 iwrap3 iof3 ssz3 hA3 cat3 sq3 sl3 imin3 imax3 smin3 smax3 len3 slen3 u83 hL3 op3 hop3 call3 hcall3 code3 hcode3 q3 hq3
    have hI3 : IsRt (tpSync t).2 (cat3 sr ls) [] ro lf' d' := by rw [hL3.cat]; exact hI
    cbv
    refine ⟨(), ?_, ?_⟩
    · obtain ⟨g1, g2, g3, g4, g5, g6, g7, g8, g9⟩ := ht0
      rw [g1] at g6
      simp only [List.length_append] at g6
      omega
    cbv
    refine hq3 _ ?_
    cbv
    exact hret _ (RetEv.ret eOk rfl ⟨e, _, _, ro, lf', d', by rw [h1', he, h0], hI3, rfl, rfl⟩)
  · refine vcIf.no (by rw [hA.eq, he]; simpa using h0) ?_
    cbv
    exact hret _ (RetEv.ret eOk rfl ⟨e, sr, ls, ro, lf', d', by rw [hfin2 h0]; exact he, by rw [hfin2 h0]; exact ht', rfl, rfl⟩)

theorem rreplace_spec {t : Tp} {sr ls : List UInt8} {ro lf : Int} {d : Bool} (ht : IsRt t sr ls ro lf d) (b : List UInt8) (hb : b.length < 9223372036854775807) :
    FnL Try.prog 20 [.own 0 0, .p (.sl (bP b))] [rtS sr ls ro lf d] fun v own => ∃ (e : Int) (sr' ls' : List UInt8) (ro' lf' : Int) (d' : Bool), e = ((tpRep t b).1 : Int) ∧ IsRt (tpRep t b).2 sr' ls' ro' lf' d' ∧ v = .p (.int .i64 e) ∧ own = [rtS sr' ls' ro' lf' d'] := by
  have ht0 := ht
  obtain ⟨W, hW⟩ : ∃ W, W = wr t b.length := ⟨_, rfl⟩
  have hsame := wr_same t b.length
  have hok := wr_ok (t := t) (s := b.length)
  rw [← hW] at hsame hok
  have hadd : tpRep t b = if W.1 = 0 then (0, { W.2 with all := b, sure := b.length }) else W := by unfold tpRep; rw [← hW]
  obtain ⟨bs, hbs⟩ : ∃ bs, bs = bP b := ⟨_, rfl⟩
  have hbl : bs.length = b.length := by rw [hbs, bP_length]
  rw [← hbs]
  refine fn_of_vc eOk fOk fo20 Try.func20 rfl rfl rfl fun B hB => ?_
  intro add sub mul quo rem band bor bxor bclr shl shr ieq ilt ile seq slt beq bnot orb bcond iwrap iof ssz hA cat sq sl imin imax smin smax len slen u8 hL op hop call hcall code hcode ret hret
  have hl : len bs = (b.length : Int) := by rw [hL.len, hbl]
  have hwr := rwrite_spec ht0 _ _ hl
  rw [← hW] at hwr
  have hfin : ∀ lf' d', W.1 = 0 → IsRt W.2 sr ls ro lf' d' → IsRt (tpRep t b).2 b [] ro lf' d' := by
    intro lf' d' c hI
    obtain ⟨g1, g2, g3, g4, g5, g8, g9, g10, g11⟩ := hI
    have := hok c
    rw [hadd, if_pos c]
    refine ⟨by simp, rfl, g3, g4, g5, ?_, g9, g10, g11⟩
    simp only; omega
  have hfin1 : W.1 = 0 → (tpRep t b).1 = 0 := fun c => by rw [hadd, if_pos c]
  have hfin2 : W.1 ≠ 0 → tpRep t b = W := fun c => by rw [hadd, if_neg c]
  cbv
  refine hcall _ _ _ _ _ (CallEv.lend [0] hwr rfl (.cons (.own 0 0 0 rfl) (.cons (.p _) .nil)) (rtL rfl) ?_)
  rintro _ _ ⟨e, lf', d', he, ht', rfl, rfl⟩
  cbv
  by_cases h0 : W.1 = 0
  · refine vcIf.yes (by rw [hA.eq, he, h0]; rfl) ?_
    have hI := hfin _ _ h0 ht'
    have h1' := hfin1 h0
    cbv
    refine ⟨b, hbs, ?_⟩
    cbv
    exact hret _ (RetEv.ret eOk rfl ⟨e, _, _, ro, lf', d', by rw [h1', he, h0], hI, rfl, rfl⟩)
  · refine vcIf.no (by rw [hA.eq, he]; simpa using h0) ?_
    cbv
    exact hret _ (RetEv.ret eOk rfl ⟨e, sr, ls, ro, lf', d', by rw [hfin2 h0]; exact he, by rw [hfin2 h0]; exact ht', rfl, rfl⟩)
end Go.Proofs.Ytgblimlnkefllaa
