/- BallotOnce: whatever is asked of three to seven councils, no two states are ever taken by majorities. Conditions: on sizes. -/
import Derived.Test.YtdbagbklhchbkaaLPxA0
import Derived.Test.YtdbagbklhchbkaaLPxA1
import Derived.Test.YtdbagbklhchbkaaLPxA2
import Derived.Test.YtdbagbklhchbkaaLPxA3
import Derived.Test.YtdbagbklhchbkaaLPxA4
import Derived.Test.YtdbagbklhchbkaaLPxA5
set_option maxRecDepth 100000
set_option maxHeartbeats 400000000
set_option linter.unusedSimpArgs false
set_option linter.unusedVariables false
namespace Go.Proofs.Ytdbagbklhchbkaa
open Go Go.Lx
open Go.Sx (vcIf)

theorem ballotOnce_spec (m : Nat) (hm : m ≤ 255) (steps : List Sp) (hs : steps.length ≤ 2000000000000000) (sp : List PV) (hsp : sp = steps.map Sp.v) : FnL Try.prog 7 [.p (.int .u8 (Int.ofNat m)), .p (.sl sp)] [] fun v own => v = .p (.bool true) ∧ own = [] := by
  refine FnL.flat (R := fun v own => v = .p (.bool true)) ?_ (by rintro _ _ rfl; exact ⟨_, _, rfl, .refl _, rfl, rfl⟩)
  refine fn_of_vc eOk2 fOk2 fo7 Try.func7 rfl rfl rfl fun B hB => ?_
  intro add sub mul quo rem band bor bxor bclr shl shr ieq ilt ile seq slt beq bnot orb bcond iwrap iof ssz hA cat sq sl imin imax smin smax len slen u8 hL op hop call hcall code hcode ret hret
  obtain ⟨n, hn⟩ : ∃ n, n = 3 + m % 5 := ⟨_, rfl⟩
  obtain ⟨Z, hZ⟩ : ∃ Z, Z = List.replicate n (PV.bool false) := ⟨_, rfl⟩
  have hn7 : n ≤ 7 := by omega
  have hn3 : 3 ≤ n := by omega
  have hn80 : 80 * n ≤ 281474976710656 := by omega
  have hn24 : 1 * n ≤ 281474976710656 := by omega
  have hnm : n ≤ maxLen := by unfold maxLen; omega
  have hN : add .i64 3 (iwrap .i64 (rem (Int.ofNat m) (Int.ofNat 5))) = Int.ofNat n := by
    rw [hA.rem, hA.wrap, show (Int.ofNat m).tmod (Int.ofNat 5) = ((m % 5 : Nat) : Int) from rfl, IntWalk.i64_in _ (by omega), hA.add, IntWalk.i64_in _ (by omega), hn]
    rfl
  cbv
  refine ⟨n, n, hN, hN, ⟨rfl, by simp [PV.cells, PV.one]⟩, Nat.le_refl _, hn80, hnm, ?_⟩
  intro vp0 hvp0
  cbv
  refine hop _ _ _ _ (OpEv.makeSt eOk rfl rfl rfl rfl rfl rfl rfl 6 rfl rfl (by decide) ?_)
  cbv
  refine ⟨6, 6, rfl, rfl, ⟨rfl, by simp [PV.cells, PV.one]⟩, Nat.le_refl _, by decide, by decide, ?_⟩
  intro ms0 hms0
  cbv
  refine hop _ _ _ _ (OpEv.makeSt eOk rfl rfl rfl rfl rfl rfl rfl 6 rfl rfl (by decide) ?_)
  cbv
  refine hcode _ _ _ (CodeEv.loop eOk2 fOk2 (ι := Nat) (fun i => frA sp n i) (fun i => ownA vp0 ms0 Z n i) (fun i => i ≤ 6) (fun i => 6 - i) 0 ?_ ?_)
  · refine ⟨⟨rfl, rfl, ?_, rfl, rfl, rfl, rfl, rfl, trivial⟩, rfl, Nat.zero_le _⟩
    show some (V.p (.int .i64 (add .i64 3 (iwrap .i64 (rem (Int.ofNat m) (Int.ofNat 5)))))) = some (V.p (.int .i64 (Int.ofNat n)))
    rw [hN]
  intro i hi rd hrd
  intro add1 sub1 mul1 quo1 rem1 band1 bor1 bxor1 bclr1 shl1 shr1 ieq1 ilt1 ile1 seq1 slt1 beq1 bnot1 orb1 bcond1 iwrap1 iof1 ssz1 hA1 cat1 sq1 sl1 imin1 imax1 smin1 smax1 len1 slen1 u81 hL1 op1 hop1 call1 hcall1 code1 hcode1
  have hl1 : ∀ i : Nat, i < 6 → ilt1 (Int.ofNat i) 6 = true := fun i h => by rw [hA1.lt]; exact decide_eq_true (by show (i : Int) < 6; omega)
  have hl2 : ilt1 6 6 = false := by rw [hA1.lt]; rfl
  have ha1 : ∀ i : Nat, i < 6 → add1 .i64 (Int.ofNat i) 1 = Int.ofNat (i + 1) := fun i h => by rw [hA1.add, IntWalk.i64_in _ (by simp only [Int.ofNat_eq_natCast]; omega)]; rfl
  have h7 : i = 0 ∨ i = 1 ∨ i = 2 ∨ i = 3 ∨ i = 4 ∨ i = 5 ∨ i = 6 := by omega
  rcases h7 with rfl | rfl | rfl | rfl | rfl | rfl | rfl
  · cbv
    refine vcIf.yes (hl1 0 (by decide)) ?_
    cbv
    refine ⟨n, n, rfl, rfl, ⟨rfl, by simp [PV.cells, PV.one]⟩, Nat.le_refl _, hn24, hnm, ?_⟩
    intro zs hzs
    obtain rfl := hZ.trans hzs.symm
    cbv
    refine hop1 _ _ _ _ (OpEv.idxSt eOk rfl rfl rfl rfl rfl 0 rfl rfl (by decide) ?_)
    cbv
    refine hrd _ ⟨1, [], by decide, by decide, rfl, ⟨rfl, rfl, rfl, rfl, rfl, rfl, rfl, ?_, trivial⟩, rfl, rfl, rfl, by rw [hB]; exact Nat.zero_le _⟩
    show some (V.p (.int .i64 (add1 .i64 (Int.ofNat 0) 1))) = some (V.p (.int .i64 (Int.ofNat 1)))
    rw [ha1 0 (by decide)]
  · cbv
    refine vcIf.yes (hl1 1 (by decide)) ?_
    cbv
    refine ⟨n, n, rfl, rfl, ⟨rfl, by simp [PV.cells, PV.one]⟩, Nat.le_refl _, hn24, hnm, ?_⟩
    intro zs hzs
    obtain rfl := hZ.trans hzs.symm
    cbv
    refine hop1 _ _ _ _ (OpEv.idxSt eOk rfl rfl rfl rfl rfl 1 rfl rfl (by decide) ?_)
    cbv
    refine hrd _ ⟨2, [], by decide, by decide, rfl, ⟨rfl, rfl, rfl, rfl, rfl, rfl, rfl, ?_, trivial⟩, rfl, rfl, rfl, by rw [hB]; exact Nat.zero_le _⟩
    show some (V.p (.int .i64 (add1 .i64 (Int.ofNat 1) 1))) = some (V.p (.int .i64 (Int.ofNat 2)))
    rw [ha1 1 (by decide)]
  · cbv
    refine vcIf.yes (hl1 2 (by decide)) ?_
    cbv
    refine ⟨n, n, rfl, rfl, ⟨rfl, by simp [PV.cells, PV.one]⟩, Nat.le_refl _, hn24, hnm, ?_⟩
    intro zs hzs
    obtain rfl := hZ.trans hzs.symm
    cbv
    refine hop1 _ _ _ _ (OpEv.idxSt eOk rfl rfl rfl rfl rfl 2 rfl rfl (by decide) ?_)
    cbv
    refine hrd _ ⟨3, [], by decide, by decide, rfl, ⟨rfl, rfl, rfl, rfl, rfl, rfl, rfl, ?_, trivial⟩, rfl, rfl, rfl, by rw [hB]; exact Nat.zero_le _⟩
    show some (V.p (.int .i64 (add1 .i64 (Int.ofNat 2) 1))) = some (V.p (.int .i64 (Int.ofNat 3)))
    rw [ha1 2 (by decide)]
  · cbv
    refine vcIf.yes (hl1 3 (by decide)) ?_
    cbv
    refine ⟨n, n, rfl, rfl, ⟨rfl, by simp [PV.cells, PV.one]⟩, Nat.le_refl _, hn24, hnm, ?_⟩
    intro zs hzs
    obtain rfl := hZ.trans hzs.symm
    cbv
    refine hop1 _ _ _ _ (OpEv.idxSt eOk rfl rfl rfl rfl rfl 3 rfl rfl (by decide) ?_)
    cbv
    refine hrd _ ⟨4, [], by decide, by decide, rfl, ⟨rfl, rfl, rfl, rfl, rfl, rfl, rfl, ?_, trivial⟩, rfl, rfl, rfl, by rw [hB]; exact Nat.zero_le _⟩
    show some (V.p (.int .i64 (add1 .i64 (Int.ofNat 3) 1))) = some (V.p (.int .i64 (Int.ofNat 4)))
    rw [ha1 3 (by decide)]
  · cbv
    refine vcIf.yes (hl1 4 (by decide)) ?_
    cbv
    refine ⟨n, n, rfl, rfl, ⟨rfl, by simp [PV.cells, PV.one]⟩, Nat.le_refl _, hn24, hnm, ?_⟩
    intro zs hzs
    obtain rfl := hZ.trans hzs.symm
    cbv
    refine hop1 _ _ _ _ (OpEv.idxSt eOk rfl rfl rfl rfl rfl 4 rfl rfl (by decide) ?_)
    cbv
    refine hrd _ ⟨5, [], by decide, by decide, rfl, ⟨rfl, rfl, rfl, rfl, rfl, rfl, rfl, ?_, trivial⟩, rfl, rfl, rfl, by rw [hB]; exact Nat.zero_le _⟩
    show some (V.p (.int .i64 (add1 .i64 (Int.ofNat 4) 1))) = some (V.p (.int .i64 (Int.ofNat 5)))
    rw [ha1 4 (by decide)]
  · cbv
    refine vcIf.yes (hl1 5 (by decide)) ?_
    cbv
    refine ⟨n, n, rfl, rfl, ⟨rfl, by simp [PV.cells, PV.one]⟩, Nat.le_refl _, hn24, hnm, ?_⟩
    intro zs hzs
    obtain rfl := hZ.trans hzs.symm
    cbv
    refine hop1 _ _ _ _ (OpEv.idxSt eOk rfl rfl rfl rfl rfl 5 rfl rfl (by decide) ?_)
    cbv
    refine hrd _ ⟨6, [], by decide, by decide, rfl, ⟨rfl, rfl, rfl, rfl, rfl, rfl, rfl, ?_, trivial⟩, rfl, rfl, rfl, by rw [hB]; exact Nat.zero_le _⟩
    show some (V.p (.int .i64 (add1 .i64 (Int.ofNat 5) 1))) = some (V.p (.int .i64 (Int.ofNat 6)))
    rw [ha1 5 (by decide)]
  cbv
  refine vcIf.no hl2 ?_
  cbv
  refine hop _ _ _ _ (OpEv.makeSt eOk rfl rfl rfl rfl rfl rfl rfl 6 rfl rfl (by decide) ?_)
  cbv
  refine hcode _ _ _ (CodeEv.loop eOk2 fOk2 (ι := Nat) (fun i => frB sp n i) (fun i => ownB vp0 ms0 Z n i) (fun i => i ≤ 6) (fun i => 6 - i) 0 ?_ ?_)
  · exact ⟨⟨rfl, rfl, rfl, rfl, rfl, rfl, rfl, rfl, rfl, rfl, trivial⟩, rfl, Nat.zero_le _⟩
  intro i hi2 rd2 hrd2
  intro add2 sub2 mul2 quo2 rem2 band2 bor2 bxor2 bclr2 shl2 shr2 ieq2 ilt2 ile2 seq2 slt2 beq2 bnot2 orb2 bcond2 iwrap2 iof2 ssz2 hA2 cat2 sq2 sl2 imin2 imax2 smin2 smax2 len2 slen2 u82 hL2 op2 hop2 call2 hcall2 code2 hcode2
  have hl1b : ∀ i : Nat, i < 6 → ilt2 (Int.ofNat i) 6 = true := fun i h => by rw [hA2.lt]; exact decide_eq_true (by show (i : Int) < 6; omega)
  have hl2b : ilt2 6 6 = false := by rw [hA2.lt]; rfl
  have ha1b : ∀ i : Nat, i < 6 → add2 .i64 (Int.ofNat i) 1 = Int.ofNat (i + 1) := fun i h => by rw [hA2.add, IntWalk.i64_in _ (by simp only [Int.ofNat_eq_natCast]; omega)]; rfl
  have h7 : i = 0 ∨ i = 1 ∨ i = 2 ∨ i = 3 ∨ i = 4 ∨ i = 5 ∨ i = 6 := by omega
  rcases h7 with rfl | rfl | rfl | rfl | rfl | rfl | rfl
  · cbv
    refine vcIf.yes (hl1b 0 (by decide)) ?_
    cbv
    refine ⟨n, n, rfl, rfl, ⟨rfl, by simp [PV.cells, PV.one]⟩, Nat.le_refl _, hn24, hnm, ?_⟩
    intro zs hzs
    obtain rfl := hZ.trans hzs.symm
    cbv
    refine hop2 _ _ _ _ (OpEv.idxSt eOk rfl rfl rfl rfl rfl 0 rfl rfl (by decide) ?_)
    cbv
    refine hrd2 _ ⟨1, [], by decide, by decide, rfl, ⟨rfl, rfl, rfl, rfl, rfl, rfl, rfl, rfl, rfl, ?_, trivial⟩, rfl, rfl, rfl, by rw [hB]; exact Nat.zero_le _⟩
    show some (V.p (.int .i64 (add2 .i64 (Int.ofNat 0) 1))) = some (V.p (.int .i64 (Int.ofNat 1)))
    rw [ha1b 0 (by decide)]
  · cbv
    refine vcIf.yes (hl1b 1 (by decide)) ?_
    cbv
    refine ⟨n, n, rfl, rfl, ⟨rfl, by simp [PV.cells, PV.one]⟩, Nat.le_refl _, hn24, hnm, ?_⟩
    intro zs hzs
    obtain rfl := hZ.trans hzs.symm
    cbv
    refine hop2 _ _ _ _ (OpEv.idxSt eOk rfl rfl rfl rfl rfl 1 rfl rfl (by decide) ?_)
    cbv
    refine hrd2 _ ⟨2, [], by decide, by decide, rfl, ⟨rfl, rfl, rfl, rfl, rfl, rfl, rfl, rfl, rfl, ?_, trivial⟩, rfl, rfl, rfl, by rw [hB]; exact Nat.zero_le _⟩
    show some (V.p (.int .i64 (add2 .i64 (Int.ofNat 1) 1))) = some (V.p (.int .i64 (Int.ofNat 2)))
    rw [ha1b 1 (by decide)]
  · cbv
    refine vcIf.yes (hl1b 2 (by decide)) ?_
    cbv
    refine ⟨n, n, rfl, rfl, ⟨rfl, by simp [PV.cells, PV.one]⟩, Nat.le_refl _, hn24, hnm, ?_⟩
    intro zs hzs
    obtain rfl := hZ.trans hzs.symm
    cbv
    refine hop2 _ _ _ _ (OpEv.idxSt eOk rfl rfl rfl rfl rfl 2 rfl rfl (by decide) ?_)
    cbv
    refine hrd2 _ ⟨3, [], by decide, by decide, rfl, ⟨rfl, rfl, rfl, rfl, rfl, rfl, rfl, rfl, rfl, ?_, trivial⟩, rfl, rfl, rfl, by rw [hB]; exact Nat.zero_le _⟩
    show some (V.p (.int .i64 (add2 .i64 (Int.ofNat 2) 1))) = some (V.p (.int .i64 (Int.ofNat 3)))
    rw [ha1b 2 (by decide)]
  · cbv
    refine vcIf.yes (hl1b 3 (by decide)) ?_
    cbv
    refine ⟨n, n, rfl, rfl, ⟨rfl, by simp [PV.cells, PV.one]⟩, Nat.le_refl _, hn24, hnm, ?_⟩
    intro zs hzs
    obtain rfl := hZ.trans hzs.symm
    cbv
    refine hop2 _ _ _ _ (OpEv.idxSt eOk rfl rfl rfl rfl rfl 3 rfl rfl (by decide) ?_)
    cbv
    refine hrd2 _ ⟨4, [], by decide, by decide, rfl, ⟨rfl, rfl, rfl, rfl, rfl, rfl, rfl, rfl, rfl, ?_, trivial⟩, rfl, rfl, rfl, by rw [hB]; exact Nat.zero_le _⟩
    show some (V.p (.int .i64 (add2 .i64 (Int.ofNat 3) 1))) = some (V.p (.int .i64 (Int.ofNat 4)))
    rw [ha1b 3 (by decide)]
  · cbv
    refine vcIf.yes (hl1b 4 (by decide)) ?_
    cbv
    refine ⟨n, n, rfl, rfl, ⟨rfl, by simp [PV.cells, PV.one]⟩, Nat.le_refl _, hn24, hnm, ?_⟩
    intro zs hzs
    obtain rfl := hZ.trans hzs.symm
    cbv
    refine hop2 _ _ _ _ (OpEv.idxSt eOk rfl rfl rfl rfl rfl 4 rfl rfl (by decide) ?_)
    cbv
    refine hrd2 _ ⟨5, [], by decide, by decide, rfl, ⟨rfl, rfl, rfl, rfl, rfl, rfl, rfl, rfl, rfl, ?_, trivial⟩, rfl, rfl, rfl, by rw [hB]; exact Nat.zero_le _⟩
    show some (V.p (.int .i64 (add2 .i64 (Int.ofNat 4) 1))) = some (V.p (.int .i64 (Int.ofNat 5)))
    rw [ha1b 4 (by decide)]
  · cbv
    refine vcIf.yes (hl1b 5 (by decide)) ?_
    cbv
    refine ⟨n, n, rfl, rfl, ⟨rfl, by simp [PV.cells, PV.one]⟩, Nat.le_refl _, hn24, hnm, ?_⟩
    intro zs hzs
    obtain rfl := hZ.trans hzs.symm
    cbv
    refine hop2 _ _ _ _ (OpEv.idxSt eOk rfl rfl rfl rfl rfl 5 rfl rfl (by decide) ?_)
    cbv
    refine hrd2 _ ⟨6, [], by decide, by decide, rfl, ⟨rfl, rfl, rfl, rfl, rfl, rfl, rfl, rfl, rfl, ?_, trivial⟩, rfl, rfl, rfl, by rw [hB]; exact Nat.zero_le _⟩
    show some (V.p (.int .i64 (add2 .i64 (Int.ofNat 5) 1))) = some (V.p (.int .i64 (Int.ofNat 6)))
    rw [ha1b 5 (by decide)]
  cbv
  refine vcIf.no hl2b ?_
  cbv
  refine hcode _ _ _ (CodeEv.conv (Conv.hollowC 1 0 31 8 (by decide) rfl rfl) (CodeEv.conv (Conv.hollowC 1 1 31 8 (by decide) rfl rfl) (CodeEv.conv (Conv.hollowC 1 2 31 8 (by decide) rfl rfl) (CodeEv.conv (Conv.hollowC 1 3 31 8 (by decide) rfl rfl) (CodeEv.conv (Conv.hollowC 1 4 31 8 (by decide) rfl rfl) (CodeEv.conv (Conv.hollowC 1 5 31 8 (by decide) rfl rfl)
    (CodeEv.loop eOk2 fOk2 (ι := Ix) (fun x => frC sp n x.i) (fun x => ownC n x) (fun x => x.i ≤ steps.length ∧ Rel n x) (fun x => steps.length - x.i) (ix0 n Z ms0) ?_ ?_)))))))
  · refine ⟨⟨rfl, rfl, rfl, rfl, rfl, rfl, rfl, rfl, rfl, rfl, trivial⟩, ?_, Nat.zero_le _, ix0_rel n hZ hms0⟩
    rw [hvp0]; rfl
  rintro x ⟨hxi, hx⟩ rd3 hrd3
  have hrd3' : x.i < steps.length → ∀ x' : Ix, x'.i = x.i + 1 → Rel n x' → ∀ st : St, st.n = 230 → FrLe st.fr (frC sp n x'.i) → (∃ ex, st.own = ownC n x' ++ ex) → rd3 st := by
    intro hlt x' h1 h2 st h3 h4 ⟨ex, h5⟩
    exact hrd3 st ⟨x', ex, by show steps.length - x'.i < steps.length - x.i; omega, ⟨by omega, h2⟩, h3, h4, h5, rfl, rfl, by rw [hB]; exact Nat.zero_le _⟩
  by_cases hgo : x.i < steps.length ∧ x.i < 200
  · obtain ⟨g1, g2⟩ := hgo
    obtain ⟨y, hy⟩ := get_of_lt g1
    have hl := idx_lt y.ballot (show 0 < 6 by decide)
    have hu : ∀ z, steps[x.i]? = some z → z = y := fun z hz => by rw [hy] at hz; exact (Option.some.inj hz).symm
    have hk6 : idx y.ballot 6 = 0 ∨ idx y.ballot 6 = 1 ∨ idx y.ballot 6 = 2 ∨ idx y.ballot 6 = 3 ∨ idx y.ballot 6 = 4 ∨ idx y.ballot 6 = 5 := by omega
    rcases hk6 with hk | hk | hk | hk | hk | hk
    · exact onceRound0 hB hn7 hn3 hs hsp hx g1 g2 (fun z hz => by rw [hu z hz]; exact hk) rd3 _ (hrd3' g1)
    · exact onceRound1 hB hn7 hn3 hs hsp hx g1 g2 (fun z hz => by rw [hu z hz]; exact hk) rd3 _ (hrd3' g1)
    · exact onceRound2 hB hn7 hn3 hs hsp hx g1 g2 (fun z hz => by rw [hu z hz]; exact hk) rd3 _ (hrd3' g1)
    · exact onceRound3 hB hn7 hn3 hs hsp hx g1 g2 (fun z hz => by rw [hu z hz]; exact hk) rd3 _ (hrd3' g1)
    · exact onceRound4 hB hn7 hn3 hs hsp hx g1 g2 (fun z hz => by rw [hu z hz]; exact hk) rd3 _ (hrd3' g1)
    · exact onceRound5 hB hn7 hn3 hs hsp hx g1 g2 (fun z hz => by rw [hu z hz]; exact hk) rd3 _ (hrd3' g1)
  obtain ⟨nn, hnn⟩ : ∃ nn, nn = steps.length := ⟨_, rfl⟩
  rw [← hnn] at hgo
  obtain ⟨i, s, vs, vp, ms, A, K, tl, T, L, ch⟩ := x
  simp only at hgo
  intro add3 sub3 mul3 quo3 rem3 band3 bor3 bxor3 bclr3 shl3 shr3 ieq3 ilt3 ile3 seq3 slt3 beq3 bnot3 orb3 bcond3 iwrap3 iof3 ssz3 hA3 cat3 sq3 sl3 imin3 imax3 smin3 smax3 len3 slen3 u83 hL3 op3 hop3 call3 hcall3 code3 hcode3
  have hlen : len3 sp = Int.ofNat nn := by rw [hL3.len, hsp, List.length_map, hnn]; rfl
  cbv
  by_cases hi3 : i < nn
  · have hi4 : ¬ i < 200 := fun h => hgo ⟨hi3, h⟩
    refine vcIf.yes (by rw [hA3.lt, hlen]; exact decide_eq_true (by show ((i : Int) < nn); omega)) ?_
    cbv
    refine vcIf.no (by rw [hA3.cond, hA3.lt]; exact decide_eq_false (by show ¬ ((i : Int) < 200); omega)) ?_
    cbv
    refine hcall _ _ _ _ _ (CallEv.same awake13_spec rfl ?_)
    rintro _ _ ⟨rfl, rfl⟩
    cbv
    exact hret _ (RetEv.ret eOk2 rfl rfl)
  · refine vcIf.no (by rw [hA3.lt, hlen]; exact decide_eq_false (by show ¬ ((i : Int) < nn); omega)) ?_
    cbv
    refine hcall _ _ _ _ _ (CallEv.same awake13_spec rfl ?_)
    rintro _ _ ⟨rfl, rfl⟩
    cbv
    exact hret _ (RetEv.ret eOk2 rfl rfl)
theorem has_Sp {K : Nat} {z : PV} (h : Sh.Has K (.st [.int .i64, .int .i64, .int .i64]) z) : ∃ s : Sp, z = s.v ∧ True := by
  obtain ⟨cs, rfl, h0⟩ := has_st h
  obtain ⟨y0, c0, k0, e0, h1⟩ := has_cons h0
  obtain ⟨y1, c1, k1, e1, h2⟩ := has_cons h1
  obtain ⟨y2, c2, k2, e2, h3⟩ := has_cons h2
  obtain rfl := has_nil h3
  subst e2 e1 e0
  obtain ⟨a0, rfl, p0⟩ := has_int k0
  obtain ⟨a1, rfl, p1⟩ := has_int k1
  obtain ⟨a2, rfl, p2⟩ := has_int k2
  exact ⟨⟨a0, a1, a2⟩, rfl, trivial⟩
end Go.Proofs.Ytdbagbklhchbkaa
