/- PastBack. Conditions: on sizes. -/
import Derived.Test.YtdeolllpbflemaaLPa9
set_option maxRecDepth 100000
set_option maxHeartbeats 32000000
set_option linter.unusedSimpArgs false
set_option linter.unusedVariables false
namespace Go.Proofs.Ytdeolllpbflemaa
open Go Go.Lx
open Go.Sx (vcIf)

theorem adE_ok {l v : Int} {ch : List Chg} (h : 0 = adE l v ch) (hv : ¬ v ≤ l) : chks ch = 0 := by unfold adE at h; rw [if_neg hv] at h; exact h.symm
theorem pastBack_spec (a b c : List Chg) (ha : a.length * 40 ≤ 67108864) (hb : b.length * 40 ≤ 67108864) (hc : c.length * 40 ≤ 67108864) (lo hi : List UInt8) :
    FnL Try.prog 5 [.p (.sl (cP a)), .p (.sl (cP b)), .p (.sl (cP c)), .p (.agg [.str lo, .str hi])] [] fun r own => r = .p (.bool true) ∧ own = [] := by
  refine FnL.flat (R := fun r own => r = .p (.bool true)) ?_ (by rintro _ _ rfl; exact ⟨_, _, rfl, .refl _, rfl, rfl⟩)
  obtain ⟨ca, hca⟩ : ∃ ca, ca = cP a := ⟨_, rfl⟩
  obtain ⟨cb, hcb⟩ : ∃ cb, cb = cP b := ⟨_, rfl⟩
  obtain ⟨cc, hcc⟩ : ∃ cc, cc = cP c := ⟨_, rfl⟩
  rw [← hca, ← hcb, ← hcc]
  have hA1 := add_spec 0 0 0 5 a (by omega) [] [] 0 rfl (by decide) ca hca
  refine fn_of_vc eOk fOk fo5 Try.func5 rfl rfl rfl fun B hB => ?_
  intro add sub mul quo rem band bor bxor bclr shl shr ieq ilt ile seq slt beq bnot orb bcond iwrap iof ssz hA cat sq sl imin imax smin smax len slen u8 hL op hop call hcall code hcode ret hret
  cbv
  refine hcall _ _ _ _ _ (CallEv.same pastNew_spec rfl ?_)
  rintro _ _ ⟨rfl, rfl⟩
  cbv
  refine hcall _ _ _ _ _ (CallEv.pure pastNew_spec .nil ?_)
  rintro _ _ ⟨rfl, rfl⟩
  cbv
  refine hcall _ _ _ _ _ (CallEv.pure awakeP_spec .nil ?_)
  rintro _ _ ⟨rfl, rfl⟩
  cbv
  repeat (first | (refine vcIf.yes ?_ ?_; (focus (simp [hA.not, hA.eq, hA.lt, hA.le, hA.cond, hA.beq, hA.orb, hL.len, hL.slen, hL.sq]; done)); cbv) | (refine vcIf.no ?_ ?_; (focus (simp [hA.not, hA.eq, hA.lt, hA.le, hA.cond, hA.beq, hA.orb, hL.len, hL.slen, hL.sq]; done)); cbv) | fail)
  refine hcall _ _ _ _ _ (CallEv.lend [1, 2] hA1 rfl (.cons (.own 0 1 0 rfl) (.cons (.p _) (.cons (.p _) .nil))) (psL rfl rfl rfl rfl) ?_)
  rintro _ _ ⟨e1, he1, rfl, ⟨hne, rfl⟩ | ⟨rfl, ws1, m1, hm1, hws1, rfl⟩⟩
  · have hne' : ¬ (e1 : Int) = 0 := by omega
    cbv
    repeat (first | (refine vcIf.yes ?_ ?_; (focus (simp [hA.not, hA.eq, hA.lt, hA.le, hA.cond, hA.beq, hA.orb, hL.len, hL.slen, hL.sq, hne, hne']; done)); cbv) | (refine vcIf.no ?_ ?_; (focus (simp [hA.not, hA.eq, hA.lt, hA.le, hA.cond, hA.beq, hA.orb, hL.len, hL.slen, hL.sq, hne, hne']; done)); cbv) | fail)
    refine hcall _ _ _ _ _ (CallEv.pure awakeP_spec .nil ?_)
    rintro _ _ ⟨rfl, rfl⟩
    cbv
    exact hret _ (RetEv.ret eOk rfl (by simp [hA.not, hA.eq, hA.lt, hA.le, hA.cond, hA.beq, hA.orb, hL.len, hL.slen, hL.sq, oneOf]))
  obtain rfl : 1 = m1 := hm1.symm
  have hk1 := adE_ok he1 (by decide)
  cbv
  repeat (first | (refine vcIf.yes ?_ ?_; (focus (simp [hA.not, hA.eq, hA.lt, hA.le, hA.cond, hA.beq, hA.orb, hL.len, hL.slen, hL.sq]; done)); cbv) | (refine vcIf.no ?_ ?_; (focus (simp [hA.not, hA.eq, hA.lt, hA.le, hA.cond, hA.beq, hA.orb, hL.len, hL.slen, hL.sq]; done)); cbv) | fail)
  refine hcall _ _ _ _ _ (CallEv.lend [3, 4] hA1 rfl (.cons (.own 0 3 0 rfl) (.cons (.p _) (.cons (.p _) .nil))) (psL rfl rfl rfl rfl) ?_)
  rintro _ _ ⟨e2, he2, rfl, ⟨hne, rfl⟩ | ⟨rfl, vs1, m2, hm2, hvs1, rfl⟩⟩
  · exact absurd (he2.trans he1.symm) hne
  obtain rfl : 1 = m2 := hm2.symm
  clear he1 he2
  have hA2 := add_spec 0 0 5 9 b (by omega) [] ws1 1 (by rw [hws1]; rfl) (by decide) cb hcb
  cbv
  repeat (first | (refine vcIf.yes ?_ ?_; (focus (simp [hA.not, hA.eq, hA.lt, hA.le, hA.cond, hA.beq, hA.orb, hL.len, hL.slen, hL.sq]; done)); cbv) | (refine vcIf.no ?_ ?_; (focus (simp [hA.not, hA.eq, hA.lt, hA.le, hA.cond, hA.beq, hA.orb, hL.len, hL.slen, hL.sq]; done)); cbv) | fail)
  refine hcall _ _ _ _ _ (CallEv.lend [1, 2] hA2 rfl (.cons (.own 0 1 0 rfl) (.cons (.p _) (.cons (.p _) .nil))) (psL rfl rfl rfl rfl) ?_)
  rintro _ _ ⟨e3, he3, rfl, ⟨hne, rfl⟩ | ⟨rfl, ws2, m3, hm3, hws2, rfl⟩⟩
  · have hne' : ¬ (e3 : Int) = 0 := by omega
    cbv
    repeat (first | (refine vcIf.yes ?_ ?_; (focus (simp [hA.not, hA.eq, hA.lt, hA.le, hA.cond, hA.beq, hA.orb, hL.len, hL.slen, hL.sq, hne, hne']; done)); cbv) | (refine vcIf.no ?_ ?_; (focus (simp [hA.not, hA.eq, hA.lt, hA.le, hA.cond, hA.beq, hA.orb, hL.len, hL.slen, hL.sq, hne, hne']; done)); cbv) | fail)
    refine hcall _ _ _ _ _ (CallEv.pure awakeP_spec .nil ?_)
    rintro _ _ ⟨rfl, rfl⟩
    cbv
    exact hret _ (RetEv.ret eOk rfl (by simp [hA.not, hA.eq, hA.lt, hA.le, hA.cond, hA.beq, hA.orb, hL.len, hL.slen, hL.sq, oneOf]))
  obtain rfl : 2 = m3 := hm3.symm
  clear he3
  have hA3 := add_spec 0 0 9 12 c (by omega) [] ws2 2 (by rw [hws2, hws1]; rfl) (by decide) cc hcc
  cbv
  repeat (first | (refine vcIf.yes ?_ ?_; (focus (simp [hA.not, hA.eq, hA.lt, hA.le, hA.cond, hA.beq, hA.orb, hL.len, hL.slen, hL.sq]; done)); cbv) | (refine vcIf.no ?_ ?_; (focus (simp [hA.not, hA.eq, hA.lt, hA.le, hA.cond, hA.beq, hA.orb, hL.len, hL.slen, hL.sq]; done)); cbv) | fail)
  refine hcall _ _ _ _ _ (CallEv.lend [1, 2] hA3 rfl (.cons (.own 0 1 0 rfl) (.cons (.p _) (.cons (.p _) .nil))) (psL rfl rfl rfl rfl) ?_)
  rintro _ _ ⟨e4, he4, rfl, ⟨hne, rfl⟩ | ⟨rfl, ws3, m4, hm4, hws3, rfl⟩⟩
  · have hne' : ¬ (e4 : Int) = 0 := by omega
    cbv
    repeat (first | (refine vcIf.yes ?_ ?_; (focus (simp [hA.not, hA.eq, hA.lt, hA.le, hA.cond, hA.beq, hA.orb, hL.len, hL.slen, hL.sq, hne, hne']; done)); cbv) | (refine vcIf.no ?_ ?_; (focus (simp [hA.not, hA.eq, hA.lt, hA.le, hA.cond, hA.beq, hA.orb, hL.len, hL.slen, hL.sq, hne, hne']; done)); cbv) | fail)
    refine hcall _ _ _ _ _ (CallEv.pure awakeP_spec .nil ?_)
    rintro _ _ ⟨rfl, rfl⟩
    cbv
    exact hret _ (RetEv.ret eOk rfl (by simp [hA.not, hA.eq, hA.lt, hA.le, hA.cond, hA.beq, hA.orb, hL.len, hL.slen, hL.sq, oneOf]))
  obtain rfl : 3 = m4 := hm4.symm
  have hk3 := adE_ok he4 (by decide)
  clear he4
  have hp3 : ws3 = layP [⟨5, a⟩, ⟨9, b⟩, ⟨12, c⟩] := by rw [hws3, hws2, hws1, hca, hcb, hcc]; rfl
  have hBk := back_spec 0 0 12 5 [⟨5, a⟩, ⟨9, b⟩, ⟨12, c⟩] (by simp) [] ws3 hp3 3 rfl
  cbv
  repeat (first | (refine vcIf.yes ?_ ?_; (focus (simp [hA.not, hA.eq, hA.lt, hA.le, hA.cond, hA.beq, hA.orb, hL.len, hL.slen, hL.sq]; done)); cbv) | (refine vcIf.no ?_ ?_; (focus (simp [hA.not, hA.eq, hA.lt, hA.le, hA.cond, hA.beq, hA.orb, hL.len, hL.slen, hL.sq]; done)); cbv) | fail)
  refine hcall _ _ _ _ _ (CallEv.lend [1, 2] hBk rfl (.cons (.own 0 1 0 rfl) (.cons (.p _) .nil)) (psL rfl rfl rfl rfl) ?_)
  rintro _ _ ⟨e5, he5, rfl, ⟨hne, rfl⟩ | ⟨rfl, ws4, m5, hm5, hws4, rfl⟩⟩
  · exact absurd he5 hne
  obtain rfl : 1 = m5 := hm5.symm
  have hw4 : ws4 = layP [⟨5, a⟩] := hws4
  clear hws4 he5 hws1 hws2 hws3 hp3
  have hA4 := add_spec 0 0 5 8 c (by omega) [] ws4 1 (by rw [hw4]; rfl) (by decide) cc hcc
  have hA5 := add_spec 0 0 5 8 c (by omega) [] vs1 1 (by rw [hvs1]; rfl) (by decide) cc hcc
  cbv
  repeat (first | (refine vcIf.yes ?_ ?_; (focus (simp [hA.not, hA.eq, hA.lt, hA.le, hA.cond, hA.beq, hA.orb, hL.len, hL.slen, hL.sq]; done)); cbv) | (refine vcIf.no ?_ ?_; (focus (simp [hA.not, hA.eq, hA.lt, hA.le, hA.cond, hA.beq, hA.orb, hL.len, hL.slen, hL.sq]; done)); cbv) | fail)
  refine hcall _ _ _ _ _ (CallEv.lend [1, 2] hA4 rfl (.cons (.own 0 1 0 rfl) (.cons (.p _) (.cons (.p _) .nil))) (psL rfl rfl rfl rfl) ?_)
  rintro _ _ ⟨e6, he6, rfl, ⟨hne, rfl⟩ | ⟨rfl, ws5, m6, hm6, hws5, rfl⟩⟩
  · exact absurd (by rw [he6]; unfold adE; rw [if_neg (by decide)]; exact hk3) hne
  obtain rfl : 2 = m6 := hm6.symm
  cbv
  repeat (first | (refine vcIf.yes ?_ ?_; (focus (simp [hA.not, hA.eq, hA.lt, hA.le, hA.cond, hA.beq, hA.orb, hL.len, hL.slen, hL.sq]; done)); cbv) | (refine vcIf.no ?_ ?_; (focus (simp [hA.not, hA.eq, hA.lt, hA.le, hA.cond, hA.beq, hA.orb, hL.len, hL.slen, hL.sq]; done)); cbv) | fail)
  refine hcall _ _ _ _ _ (CallEv.lend [3, 4] hA5 rfl (.cons (.own 0 3 0 rfl) (.cons (.p _) (.cons (.p _) .nil))) (psL rfl rfl rfl rfl) ?_)
  rintro _ _ ⟨e7, he7, rfl, ⟨hne, rfl⟩ | ⟨rfl, vs2, m7, hm7, hvs2, rfl⟩⟩
  · exact absurd (by rw [he7]; unfold adE; rw [if_neg (by decide)]; exact hk3) hne
  obtain rfl : 2 = m7 := hm7.symm
  have hp5 : ws5 = layP [⟨5, a⟩, ⟨8, c⟩] := by rw [hws5, hw4, hcc]; rfl
  have hq5 : vs2 = layP [⟨5, a⟩, ⟨8, c⟩] := by rw [hvs2, hvs1, hca, hcc]; rfl
  clear he6 he7 hws5 hvs1 hvs2 hw4
  have hMa : a.length ≤ 1677721 := by omega
  have hMc : c.length ≤ 1677721 := by omega
  have hL := fun v most (ys : List PV) (h : ys = layP [⟨5, a⟩, ⟨8, c⟩]) => listW_spec 0 0 8 v lo hi most [] List.Pairwise.nil [⟨5, a⟩, ⟨8, c⟩] 1677721 (by intro l hl; simp only [List.mem_cons, List.not_mem_nil, or_false] at hl; rcases hl with rfl | rfl; exact hMa; exact hMc) (by intro l hl; simp only [List.mem_cons, List.not_mem_nil, or_false] at hl; rcases hl with rfl | rfl; exact hk1; exact hk3) (by simp) (by simp) [] rfl ys h
  have hBk2 := back_spec 0 0 8 9 [⟨5, a⟩, ⟨8, c⟩] (by simp) [] ws5 hp5 2 rfl
  have hxs5 : ws5 = (ws5.drop 0).take 2 := by rw [hp5]; rfl
  have hxv2 : vs2 = (vs2.drop 0).take 2 := by rw [hq5]; rfl
  have hX : ∀ v, (liP 0 8 [] [⟨5, a⟩, ⟨8, c⟩] v ⟨lo, hi⟩ 1000).length < 281474976710656 := fun v => by
    unfold liP lst
    split
    · refine Nat.lt_of_le_of_lt (List.length_take_le _ _) (by decide)
    · simp
  obtain ⟨X, hXe⟩ : ∃ X : Int → List Pr, X = fun v => liP 0 8 [] [⟨5, a⟩, ⟨8, c⟩] v ⟨lo, hi⟩ 1000 := ⟨_, rfl⟩
  have hL0 := fun (v : Nat) (h : v ≤ 8) (ys : List PV) (hy : ys = layP [⟨5, a⟩, ⟨8, c⟩]) => (hL v 1000 ys hy).mono (R' := fun r own => ∃ (us : List PV) (m : Nat), us = prP (X v) ∧ m = us.length ∧ r = .tup [.vw 0 2 0 m none, .p (.int .i64 0)] ∧ own = [.arr 45 2 us]) fun r own ⟨e, us, m, h1, h2, h3, h4, h5⟩ => by
    have hkv : knw 0 8 v = 0 := by unfold knw; rw [if_neg (by omega), if_neg (by omega)]
    have h0 : liE 0 8 v 1000 = 0 := by unfold liE; rw [hkv]; rfl
    rw [h0] at h1; subst h1
    exact ⟨us, m, by rw [hXe]; exact h2, h3, h4, h5⟩
  have hXn : ∀ v, (X v).length < 281474976710656 := fun v => by rw [hXe]; exact hX v
  have hL9 := hL 9 5 ws5 hp5
  rw [show liE 0 8 9 5 = 8 by decide] at hL9
  clear hL hX hXe
  cbv
  repeat (first | (refine vcIf.yes ?_ ?_; (focus (simp [hA.not, hA.eq, hA.lt, hA.le, hA.cond, hA.beq, hA.orb, hL.len, hL.slen, hL.sq]; done)); cbv) | (refine vcIf.no ?_ ?_; (focus (simp [hA.not, hA.eq, hA.lt, hA.le, hA.cond, hA.beq, hA.orb, hL.len, hL.slen, hL.sq]; done)); cbv) | fail)
  refine hcode _ _ _ (CodeEv.loop eOk fOk (ι := Nat) (fun s => [(7, .own 0 0), (9, .own 1 0), (10, .own 3 0), (11, .p (.int .i64 (Int.ofNat s)))])
    (fun s => [.st 24 [.p (.str lo), .p (.str hi)], .st 64 [.p (.int .i64 0), .p (.sl []), .vw 2 2 0 2 none, .p (.int .i64 0), .p (.int .i64 8)], psA ws5, .st 64 [.p (.int .i64 0), .p (.sl []), .vw 4 2 0 2 none, .p (.int .i64 0), .p (.int .i64 8)], psA vs2]) (fun s => s ≤ 9) (fun s => 9 - s) 0 ?_ ?_)
  · exact ⟨(by repeat (first | exact trivial | refine And.intro rfl ?_)), rfl, Nat.zero_le _⟩
  rintro i hi9 rd hrd
  by_cases hi8 : i ≤ 8
  · have hLp := hL0 i hi8 ws5 hp5
    have hLq := hL0 i hi8 vs2 hq5
    refine Exists.elim (show ∃ Y, Y = X (i : Int) from ⟨_, rfl⟩) fun Y hY => ?_
    have hYn := hXn i
    rw [← hY] at hLp hLq hYn
    clear hL0 hXn
    intro add1 sub1 mul1 quo1 rem1 band1 bor1 bxor1 bclr1 shl1 shr1 ieq1 ilt1 ile1 seq1 slt1 beq1 bnot1 orb1 bcond1 iwrap1 iof1 ssz1 hA1 cat1 sq1 sl1 imin1 imax1 smin1 smax1 len1 slen1 u81 hL1 op1 hop1 call1 hcall1 code1 hcode1
    have hadd : add1 .i64 (Int.ofNat i) 1 = Int.ofNat (i + 1) := by rw [hA1.add, IntWalk.i64_in _ (by simp only [Int.ofNat_eq_natCast]; omega)]; rfl
    cbv
    refine vcIf.yes (by first | (simp [hA1.not, hA1.eq, hA1.lt, hA1.le, hA1.cond, hA1.beq, hA1.orb, hL1.len, hL1.slen, hL1.sq, hi8]; done) | (simp only [hi8]; simp [hA1.not, hA1.eq, hA1.lt, hA1.le, hA1.cond, hA1.beq, hA1.orb, hL1.len, hL1.slen, hL1.sq, hi8]; done) | (simp [hA1.not, hA1.eq, hA1.lt, hA1.le, hA1.cond, hA1.beq, hA1.orb, hL1.len, hL1.slen, hL1.sq, hi8]; omega) | (simp only [hi8]; simp [hA1.not, hA1.eq, hA1.lt, hA1.le, hA1.cond, hA1.beq, hA1.orb, hL1.len, hL1.slen, hL1.sq, hi8]; omega)) ?_
    cbv
    refine hcall1 _ _ _ _ _ (CallEv.frzR (CallEv.shown [] [1, 2] hLp rfl (.cons (psT (by decide) (by decide) rfl rfl _ hxs5) (.cons (.p _) (.cons (.p _) (.cons (.p _) .nil)))) trivial ?_))
    rintro _ _ ⟨u1, k1, hu1, hk1, rfl, rfl⟩
    refine ⟨flat_l1 (e := 0), flat_l2 hu1, 5, _, _, _, rfl, (by rw [hB]; exact Nat.zero_le _), fun g1 hg1 => ?_⟩
    have hz1 : g1 0 k1 = prP Y := by rw [hg1, List.drop_zero, hk1, List.take_length, hu1]
    cbv
    refine hcall1 _ _ _ _ _ (CallEv.frzR (CallEv.shown [] [3, 4] hLq rfl (.cons (psT (by decide) (by decide) rfl rfl _ hxv2) (.cons (.p _) (.cons (.p _) (.cons (.p _) .nil)))) trivial ?_))
    rintro _ _ ⟨u2, k2, hu2, hk2, rfl, rfl⟩
    refine ⟨flat_l1 (e := 0), flat_l2 hu2, 6, _, _, _, rfl, (by rw [hB]; exact Nat.zero_le _), fun g2 hg2 => ?_⟩
    have hz2 : g2 0 k2 = prP Y := by rw [hg2, List.drop_zero, hk2, List.take_length, hu2]
    have hpr := rPairs_spec Y Y hYn hYn true ⟨fun _ => rfl, fun _ => rfl⟩ (g1 0 k1) (g2 0 k2) hz1 hz2
    cbv
    repeat (first | (refine vcIf.yes ?_ ?_; (focus (simp [hA1.not, hA1.eq, hA1.lt, hA1.le, hA1.cond, hA1.beq, hA1.orb, hL1.len, hL1.slen, hL1.sq]; done)); cbv) | (refine vcIf.no ?_ ?_; (focus (simp [hA1.not, hA1.eq, hA1.lt, hA1.le, hA1.cond, hA1.beq, hA1.orb, hL1.len, hL1.slen, hL1.sq]; done)); cbv) | fail)
    refine hcall1 _ _ _ _ _ (CallEv.same hpr rfl ?_)
    rintro _ _ ⟨rfl, rfl⟩
    cbv
    repeat (first | (refine vcIf.yes ?_ ?_; (focus (simp [hA1.not, hA1.eq, hA1.lt, hA1.le, hA1.cond, hA1.beq, hA1.orb, hL1.len, hL1.slen, hL1.sq]; done)); cbv) | (refine vcIf.no ?_ ?_; (focus (simp [hA1.not, hA1.eq, hA1.lt, hA1.le, hA1.cond, hA1.beq, hA1.orb, hL1.len, hL1.slen, hL1.sq]; done)); cbv) | fail)
    refine hrd _ ⟨i + 1, _, ?_, ?_, rfl, ⟨rfl, rfl, rfl, ?_, trivial⟩, rfl, rfl, rfl, ?_⟩
    · show 9 - (i + 1) < 9 - i
      omega
    · show i + 1 ≤ 9
      omega
    · show some (V.p (.int .i64 _)) = _
      rw [hadd]
    · rw [hB]; exact Nat.zero_le _
  · have hi9' : i = 9 := by omega
    subst hi9'
    intro add1 sub1 mul1 quo1 rem1 band1 bor1 bxor1 bclr1 shl1 shr1 ieq1 ilt1 ile1 seq1 slt1 beq1 bnot1 orb1 bcond1 iwrap1 iof1 ssz1 hA1 cat1 sq1 sl1 imin1 imax1 smin1 smax1 len1 slen1 u81 hL1 op1 hop1 call1 hcall1 code1 hcode1
    cbv
    refine vcIf.no (by first | (simp [hA1.not, hA1.eq, hA1.lt, hA1.le, hA1.cond, hA1.beq, hA1.orb, hL1.len, hL1.slen, hL1.sq]; done) | (simp [hA1.not, hA1.eq, hA1.lt, hA1.le, hA1.cond, hA1.beq, hA1.orb, hL1.len, hL1.slen, hL1.sq]; omega)) ?_
    cbv

    refine hcall _ _ _ _ _ (CallEv.frzR (CallEv.shown [] [1, 2] hL9 rfl (.cons (psT (by decide) (by decide) rfl rfl _ hxs5) (.cons (.p _) (.cons (.p _) (.cons (.p _) .nil)))) trivial ?_))
    rintro _ _ ⟨x9, u9, k9, hx9, hu9, hk9, rfl, rfl⟩
    subst hx9
    refine ⟨flat_l1, flat_l2 hu9, 5, _, _, _, rfl, (by rw [hB]; exact Nat.zero_le _), fun g9 hg9 => ?_⟩
    cbv
    repeat (first | (refine vcIf.yes ?_ ?_; (focus (simp [hA.not, hA.eq, hA.lt, hA.le, hA.cond, hA.beq, hA.orb, hL.len, hL.slen, hL.sq]; done)); cbv) | (refine vcIf.no ?_ ?_; (focus (simp [hA.not, hA.eq, hA.lt, hA.le, hA.cond, hA.beq, hA.orb, hL.len, hL.slen, hL.sq]; done)); cbv) | fail)
    refine hcall _ _ _ _ _ (CallEv.lend [1, 2] hBk2 rfl (.cons (.own 0 1 0 rfl) (.cons (.p _) .nil)) (psL rfl rfl rfl rfl) ?_)
    rintro _ _ ⟨e8, he8, rfl, hrest⟩
    have he8' : e8 = 8 := he8
    subst he8'
    rcases hrest with ⟨_, rfl⟩ | ⟨hbad, _⟩
    · cbv
      repeat (first | (refine vcIf.yes ?_ ?_; (focus (simp [hA.not, hA.eq, hA.lt, hA.le, hA.cond, hA.beq, hA.orb, hL.len, hL.slen, hL.sq]; done)); cbv) | (refine vcIf.no ?_ ?_; (focus (simp [hA.not, hA.eq, hA.lt, hA.le, hA.cond, hA.beq, hA.orb, hL.len, hL.slen, hL.sq]; done)); cbv) | fail)

      exact hret _ (RetEv.ret eOk rfl (by simp [hA.not, hA.eq, hA.cond, oneOf]))
    · cases hbad
end Go.Proofs.Ytdeolllpbflemaa
