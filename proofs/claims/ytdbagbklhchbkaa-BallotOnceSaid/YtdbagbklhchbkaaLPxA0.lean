/- BallotOnce: a step of its loop, ballot 0. Conditions: on sizes. -/
import Derived.Test.YtdbagbklhchbkaaLPx4
set_option maxRecDepth 100000
set_option maxHeartbeats 400000000
set_option linter.unusedSimpArgs false
set_option linter.unusedVariables false
namespace Go.Proofs.Ytdbagbklhchbkaa
open Go Go.Lx
open Go.Sx (vcIf)

theorem onceRound0 {B : Base} (hB : B.own0 = []) {n : Nat} (hn7 : n ≤ 7) (hn3 : 3 ≤ n) {steps : List Sp} (hs : steps.length ≤ 2000000000000000) {sp : List PV} (hsp : sp = steps.map Sp.v) {x : Ix} (hx : Rel n x) (hxi : x.i < steps.length) (hi2 : x.i < 200)
    (hk : ∀ y, steps[x.i]? = some y → idx y.ballot 6 = 0) (rd : St → Prop) (Q : Exit → St → Prop)
    (hrd : ∀ x' : Ix, x'.i = x.i + 1 → Rel n x' → ∀ st : St, st.n = 230 → FrLe st.fr (frC sp n x'.i) → (∃ ex, st.own = ownC n x' ++ ex) → rd st) : VcAny B Try.prog env2 (onceBody Try.f7) ⟨230, frC sp n x.i, ownC n x⟩ (loopQ rd Q) := by
  obtain ⟨nn, hnn⟩ : ∃ nn, nn = steps.length := ⟨_, rfl⟩
  have hnpos : (0 : Int) < Int.ofNat n := by show (0 : Int) < (n : Int); omega
  obtain ⟨⟨wh, co, ba⟩, hst⟩ := get_of_lt hxi
  have hk0 := hk _ hst
  clear hk
  simp only at hk0
  have hsi : sp[x.i]? = some (.agg [.int .i64 wh, .int .i64 co, .int .i64 ba]) := by rw [hsp, List.getElem?_map, hst]; rfl
  obtain ⟨i, s, vs, vp, ms, A, K, tl, T, L, ch⟩ := x
  simp only at hxi hi2 hrd hst hsi
  rw [← hnn] at hxi hs
  have hclt := idx_lt co (show 0 < n by omega)
  obtain ⟨y, hy, hiv⟩ := hx.v _ hclt
  obtain ⟨pn, pd, an, ad, g, e⟩ := y
  simp only at hy hiv
  generalize hcq : idx co n = cc at *
  have hvp : vp[cc]? = some (nvP pn pd an ad g e) := by
    have := hx.vp; simp only at this
    rw [this, List.getElem?_map, hy]; rfl
  obtain ⟨ak, hak⟩ : ∃ ak, ak = s.asked 0 cc := ⟨_, rfl⟩
  obtain ⟨M, hM⟩ : ∃ M : Int, M = (s.mine 0 : Int) := ⟨_, rfl⟩
  have hAc : ∀ q, q = 0 + cc → (A 0)[q]? = some (.bool ak) := by intro q hq; rw [hq, Nat.zero_add, hak]; exact (hx.a 0 (by decide)).2 _ hclt
  have hKc : ∀ q, q = 0 + cc → (K 0)[q]? = some (.bool (s.took 0 cc)) := by intro q hq; rw [hq, Nat.zero_add]; exact (hx.k 0 (by decide)).2 _ hclt
  have hms : ∀ q, q = 0 + 0 → ms[q]? = some (nsP M M) := by intro q hq; rw [hq, hM]; exact hx.m 0 (by decide)
  have hLT : L 0 = (T 0).length := by have h1 := hx.l 0 (by decide); have h2 := hx.t 0 (by decide); simp only at h1 h2; rw [h1, h2, List.length_map]
  have hL7 : L 0 ≤ n := hx.tfit (by decide)
  have hWT : Wf 8 (T 0) := by have h2 := hx.t 0 (by decide); simp only at h2; rw [h2]; intro z hz; obtain ⟨y, -, rfl⟩ := List.mem_map.1 hz; exact ⟨rfl, by simp [Nv.v, PV.cells, PV.one]⟩
  have hvq : ∀ q, q = 0 + cc → vp[q]? = some (nvP pn pd an ad g e) := by intro q hq; rw [hq, Nat.zero_add]; exact hvp
  intro add3 sub3 mul3 quo3 rem3 band3 bor3 bxor3 bclr3 shl3 shr3 ieq3 ilt3 ile3 seq3 slt3 beq3 bnot3 orb3 bcond3 iwrap3 iof3 ssz3 hA3 cat3 sq3 sl3 imin3 imax3 smin3 smax3 len3 slen3 u83 hL3 op3 hop3 call3 hcall3 code3 hcode3
  have hlen : len3 sp = Int.ofNat nn := by rw [hL3.len, hsp, List.length_map, hnn]; rfl
  have hadd : add3 .i64 (Int.ofNat i) 1 = Int.ofNat (i + 1) := by rw [hA3.add, IntWalk.i64_in _ (by simp only [Int.ofNat_eq_natCast]; omega)]; rfl
  have hWv : Wf 8 [nvP (add3 .i64 (Int.ofNat 0) 1) (rem3 (Int.ofNat 0) (Int.ofNat 2)) an ad g e] := by intro z hz; rw [List.mem_singleton.1 hz]; exact ⟨rfl, by simp [PV.cells, PV.one]⟩
  have hLm : L 0 + 1 ≤ maxLen := by unfold maxLen; omega
  have hLb : (L 0 + 1) * 80 ≤ 140737488355328 := by omega
  have hA1 : (add3 .i64 (Int.ofNat 0) 1) = ((0 + 1 : Nat) : Int) := by rw [hA3.add, IntWalk.i64_in _ (by decide)]; rfl
  have hB1 : (rem3 (Int.ofNat 0) (Int.ofNat 2)) = nd (0 + 1) := by rw [hA3.rem]; rfl
  cbv
  refine vcIf.yes (by rw [hA3.lt, hlen]; exact decide_eq_true (by show ((i : Int) < nn); omega)) ?_
  cbv
  refine vcIf.yes (by rw [hA3.cond, hA3.lt]; exact decide_eq_true (by show ((i : Int) < 200); omega)) ?_
  cbv
  refine hcode3 _ _ _ (CodeEv.drawA eOk2 fOk2 (by kernel_rfl) noX (by kernel_rfl) (by kernel_rfl) (by kernel_rfl) ?_)
  intro add4 sub4 mul4 quo4 rem4 band4 bor4 bxor4 bclr4 shl4 shr4 ieq4 ilt4 ile4 seq4 slt4 beq4 bnot4 orb4 bcond4 iwrap4 iof4 ssz4 hA4 cat4 sq4 sl4 imin4 imax4 smin4 smax4 len4 slen4 u84 hL4 op4 hop4 call4 hcall4 code4 hcode4 q4 hq4
  cbv
  refine ⟨i, _, rfl, hsi, rfl, ?_⟩
  cbv
  refine ⟨i, _, rfl, hsi, rfl, ?_⟩
  cbv
  refine hcall4 _ _ _ _ _ (CallEv.same (idx_spec ba 6 6 rfl (by decide) (by decide)) rfl ?_)
  rintro _ _ ⟨k, hkk, rfl, rfl⟩
  obtain rfl := hkk.trans hk0
  cbv
  refine hcall4 _ _ _ _ _ (CallEv.same (idx_spec co n (Int.ofNat n) rfl (by omega) (by omega)) rfl ?_)
  rintro _ _ ⟨c, hc, rfl, rfl⟩
  obtain rfl := hc.trans hcq
  cbv
  refine hq4 _ ?_
  cbv
  refine ⟨i, _, rfl, hsi, rfl, ?_⟩
  by_cases hw : wh = 0
  rotate_left
  · cbv
    refine vcIf.no (by rw [hA3.eq]; exact decide_eq_false hw) ?_
    cbv
    refine ⟨0, rfl, by decide, fun q1 hq1 => ?_⟩
    cbv
    refine ⟨_, hms q1 hq1, ?_⟩
    cbv
    by_cases hM0 : M = 0
    · refine vcIf.yes (by rw [hA3.eq]; exact decide_eq_true hM0) ?_
      cbv
      exact hrd (Ix.mk (i + 1) s vs vp ms A K tl T L ch) rfl hx.next _ rfl (by
        refine ⟨rfl, rfl, rfl, rfl, rfl, rfl, rfl, rfl, rfl, ?_, trivial⟩
        show some (V.p (.int .i64 (add3 .i64 (Int.ofNat i) 1))) = some (V.p (.int .i64 (Int.ofNat (i + 1))))
        rw [hadd]
        ) ⟨_, rfl⟩
    refine vcIf.no (by rw [hA3.eq]; exact decide_eq_false hM0) ?_
    have hmK : s.mine 0 ≠ 0 := fun h => hM0 (by rw [hM, h]; rfl)
    cbv
    refine hcode3 _ _ _ (CodeEv.thru (κ := Bool) (fun o => frT sp n i 0 c ++ [(21, .p (.bool o))])
      (fun o => ownC n ⟨i, s, vs, vp, ms, A, K, tl, T, L, ch⟩ ++ [.st 23 [.p (.int .i64 (add3 .i64 (Int.ofNat 0) 1)), .p (.int .i64 (rem3 (Int.ofNat 0) (Int.ofNat 2)))], .st 31 (match o with | true => vowC (add3 .i64 (Int.ofNat 0) 1) (rem3 (Int.ofNat 0) (Int.ofNat 2)) (add3 .i64 (Int.ofNat 0) 1) (rem3 (Int.ofNat 0) (Int.ofNat 2)) M M | false => vowC pn pd an ad g e)]) (fun o => o = !(blt (add3 .i64 (Int.ofNat 0) 1) (rem3 (Int.ofNat 0) (Int.ofNat 2)) pn pd)) ?_ ?_)
    · refine CodeEv.drawT eOk2 fOk2 (by kernel_rfl) (Xof 25 []) (.rd 0 (.rd 1 (.rd 2 (.rd 3 (.rd 4 (.rd 5 (.rd 6 (.rd 7 (.rd 8 (.acts (.cons 9 (.rd 10 (.rd 11 (.rd 12 (.acts (.cons 13 (.acts (.cons 14 (.so 15 (.done)) (.nil))) (.nil)))))) (.cons 13 (.acts (.cons 9 (.so 10 (.rd 11 (.rd 12 (.acts (.cons 14 (.so 15 (.done)) (.nil)))))) (.nil))) (.nil))))))))))))) (by kernel_rfl) (by kernel_rfl) ?_
      intro add5 sub5 mul5 quo5 rem5 band5 bor5 bxor5 bclr5 shl5 shr5 ieq5 ilt5 ile5 seq5 slt5 beq5 bnot5 orb5 bcond5 iwrap5 iof5 ssz5 hA5 cat5 sq5 sl5 imin5 imax5 smin5 smax5 len5 slen5 u85 hL5 op5 hop5 call5 hcall5 code5 hcode5 q5 hq5
      cbv
      refine ⟨c, rfl, hclt, fun q hq => ?_⟩
      cbv
      refine ⟨_, hvq q hq, ?_⟩
      cbv
      refine ⟨0, rfl, by decide, fun q2 hq2 => ?_⟩
      cbv
      refine ⟨_, hms q2 hq2, ?_⟩
      cbv
      refine ⟨?_, ?_⟩
      · refine hcall5 _ _ _ _ _ (CallEv.same (nvTake_spec pn pd an ad g e _ _ M M) rfl ?_)
        rintro _ _ ⟨(⟨h, rfl⟩ | ⟨h, rfl⟩), rfl⟩
        · cbv
          exact hq5 _ (OutX.thru ⟨false, _, by rw [h]; rfl, rfl, (by repeat (first | exact trivial | refine And.intro rfl ?_)), rfl, rfl, rfl, by rw [hB]; exact Nat.zero_le _⟩)
        · cbv
          exact hq5 _ (OutX.thru ⟨true, _, by rw [h]; rfl, rfl, (by repeat (first | exact trivial | refine And.intro rfl ?_)), rfl, rfl, rfl, by rw [hB]; exact Nat.zero_le _⟩)
      · refine hcall5 _ _ _ _ _ (CallEv.same (nvTake_spec pn pd an ad g e _ _ M M) rfl ?_)
        rintro _ _ ⟨(⟨h, rfl⟩ | ⟨h, rfl⟩), rfl⟩
        · cbv
          exact hq5 _ (OutX.thru ⟨false, _, by rw [h]; rfl, rfl, (by repeat (first | exact trivial | refine And.intro rfl ?_)), rfl, rfl, rfl, by rw [hB]; exact Nat.zero_le _⟩)
        · cbv
          exact hq5 _ (OutX.thru ⟨true, _, by rw [h]; rfl, rfl, (by repeat (first | exact trivial | refine And.intro rfl ?_)), rfl, rfl, rfl, by rw [hB]; exact Nat.zero_le _⟩)
    rintro o ho
    have hko : o = !decide (0 + 1 < s.p c) := by
      have hv1 : pn = ((s.p c : Nat) : Int) := hiv.1
      have hv2 : pd = nd (s.p c) := hiv.2.1
      rw [ho, hv1, hv2, hA1, hB1]; exact congrArg _ (blt_nd (0 + 1) (s.p c))
    cases o with
    | false =>
      cbv
      refine ⟨c, rfl, hclt, fun q hq => ?_⟩
      cbv
      refine ⟨_, hvq q hq, ⟨rfl, by simp [PV.cells, PV.one]⟩, fun ys hys => ?_⟩
      have hr : Rel n (Ix.mk (i + 1) s (vs.set c ⟨pn, pd, an, ad, g, e⟩) ys ms A K tl T L ch) := by rw [hys, hq, Nat.zero_add]; exact hx.same hclt hy
      obtain ⟨R, hR⟩ : ∃ R, R = K 0 := ⟨_, rfl⟩
      have hrk : IsRow n R (s.took 0) := by rw [hR]; exact hr.k 0 (by decide)
      obtain ⟨tk, htk⟩ : ∃ tk, tk = s.took 0 := ⟨_, rfl⟩
      rw [← htk] at hrk
      have hcho : n < 2 * cnt n tk → ch = 0 ∨ ch = M := by
        intro h
        rw [htk] at h
        have hch : ch = (s.chosen : Int) := hr.ch
        rcases hr.ok.agree (k := 0) h with e | e
        · exact .inl (by rw [hch]; show ((s.chosen : Nat) : Int) = 0; rw [show s.chosen = 0 from e]; rfl)
        · exact .inr (by rw [hch, hM]; exact congrArg _ e)
      have hend : n < 2 * cnt n tk → Rel n (Ix.mk (i + 1) { s with chosen := s.mine 0 } (vs.set c ⟨pn, pd, an, ad, g, e⟩) ys ms A K tl T L M) := by
        intro h
        rw [htk] at h
        exact hr.choose (k := 0) h hM
      cbv
      refine hcode3 _ _ _ (CodeEv.loop eOk2 fOk2 (ι := Nat × Nat) (fun j => frT sp n i 0 c ++ [(22, .p (.int .i64 (Int.ofNat j.2))), (23, .p (.int .i64 (Int.ofNat j.1)))])
        (fun _ => ownC n (Ix.mk 0 Px.zero [] ys ms A K (fun _ => []) T L ch) ++ [.st 23 [.p (.int .i64 (add3 .i64 (Int.ofNat 0) 1)), .p (.int .i64 (rem3 (Int.ofNat 0) (Int.ofNat 2)))], .st 31 (vowC pn pd an ad g e)]) (fun j => j.1 ≤ n ∧ j.2 = cntTo tk j.1) (fun j => n - j.1) (0, 0) ?_ ?_)
      · exact ⟨(by repeat (first | exact trivial | refine And.intro rfl ?_)), rfl, Nat.zero_le _, rfl⟩
      rintro ⟨j, cn⟩ ⟨hj, hcn⟩ rd6 hrd6
      simp only at hj hcn
      have hcn' := cntTo_succ tk j
      have hcnn : cn ≤ j := by rw [hcn]; exact cnt_le j tk
      obtain ⟨fb, hfb⟩ : ∃ fb, fb = tk j := ⟨_, rfl⟩
      rw [← hfb, ← hcn] at hcn'
      intro add6 sub6 mul6 quo6 rem6 band6 bor6 bxor6 bclr6 shl6 shr6 ieq6 ilt6 ile6 seq6 slt6 beq6 bnot6 orb6 bcond6 iwrap6 iof6 ssz6 hA6 cat6 sq6 sl6 imin6 imax6 smin6 smax6 len6 slen6 u86 hL6 op6 hop6 call6 hcall6 code6 hcode6
      have haddj : add6 .i64 (Int.ofNat j) 1 = Int.ofNat (j + 1) := by rw [hA6.add, IntWalk.i64_in _ (by simp only [Int.ofNat_eq_natCast]; omega)]; rfl
      have haddc : add6 .i64 (Int.ofNat cn) 1 = Int.ofNat (cn + 1) := by rw [hA6.add, IntWalk.i64_in _ (by simp only [Int.ofNat_eq_natCast]; omega)]; rfl
      have hcc : ile3 (mul3 .i64 2 (Int.ofNat cn)) (Int.ofNat n) = decide (2 * cn ≤ n) := by
        rw [hA3.le, hA3.mul, IntWalk.i64_in _ (by simp only [Int.ofNat_eq_natCast]; omega)]
        exact decide_eq_decide.2 (by show _ ≤ (n : Int) ↔ _; simp only [Int.ofNat_eq_natCast]; omega)
      by_cases hjn : j < n
      · have hRj : ∀ q, q = 0 + j → R[q]? = some (.bool fb) := by intro q hq; rw [hq, Nat.zero_add, hfb]; exact hrk.2 j hjn
        cbv
        refine vcIf.yes (by rw [hA6.lt]; exact decide_eq_true (by show (j : Int) < (n : Int); omega)) ?_
        cbv
        refine hop6 _ _ _ _ (OpEv.idxSt eOk rfl rfl rfl rfl rfl 0 rfl rfl (by decide) ?_)
        cbv
        refine ⟨j, rfl, hjn, fun q8 hq8 => ?_⟩
        cbv
        refine ⟨_, hR ▸ hRj q8 hq8, ?_⟩
        cases fb with
        | true =>
          cbv
          refine hrd6 _ ⟨(j + 1, cn + 1), [], ?_, ⟨hjn, ?_⟩, rfl, ⟨rfl, rfl, rfl, rfl, rfl, rfl, rfl, rfl, rfl, rfl, rfl, rfl, rfl, rfl, ?_, ?_, trivial⟩, rfl, rfl, rfl, by rw [hB]; exact Nat.zero_le _⟩
          · simp only; omega
          · simp only; rw [hcn']; rfl
          · show some (V.p (.int .i64 (add6 .i64 (Int.ofNat cn) 1))) = some (V.p (.int .i64 (Int.ofNat (cn + 1))))
            rw [haddc]
          · show some (V.p (.int .i64 (add6 .i64 (Int.ofNat j) 1))) = some (V.p (.int .i64 (Int.ofNat (j + 1))))
            rw [haddj]
        | false =>
          cbv
          refine hrd6 _ ⟨(j + 1, cn), [], ?_, ⟨hjn, ?_⟩, rfl, ⟨rfl, rfl, rfl, rfl, rfl, rfl, rfl, rfl, rfl, rfl, rfl, rfl, rfl, rfl, rfl, ?_, trivial⟩, rfl, rfl, rfl, by rw [hB]; exact Nat.zero_le _⟩
          · simp only; omega
          · simp only; rw [hcn']; rfl
          · show some (V.p (.int .i64 (add6 .i64 (Int.ofNat j) 1))) = some (V.p (.int .i64 (Int.ofNat (j + 1))))
            rw [haddj]
      have hjn' : j = n := by omega
      have hcnt : cn = cnt n tk := by rw [hcn, hjn']; rfl
      cbv
      refine vcIf.no (by rw [hA6.lt]; exact decide_eq_false (by show ¬ (j : Int) < (n : Int); omega)) ?_
      cbv
      by_cases hle : 2 * cn ≤ n
      · refine vcIf.yes (by rw [hcc]; exact decide_eq_true hle) ?_
        cbv
        refine hrd (Ix.mk (i + 1) s (vs.set c ⟨pn, pd, an, ad, g, e⟩) ys ms A K tl T L ch) rfl hr _ rfl ?_ ⟨_, rfl⟩
        refine ⟨rfl, rfl, rfl, rfl, rfl, rfl, rfl, rfl, rfl, ?_, trivial⟩
        show some (V.p (.int .i64 (add3 .i64 (Int.ofNat i) 1))) = some (V.p (.int .i64 (Int.ofNat (i + 1))))
        rw [hadd]
      refine vcIf.no (by rw [hcc]; exact decide_eq_false hle) ?_
      have hmaj : n < 2 * cnt n tk := by rw [← hcnt]; omega
      cbv
      refine hcode3 _ _ _ (CodeEv.drawA eOk2 fOk2 (by kernel_rfl) noX (by kernel_rfl) (by kernel_rfl) (by kernel_rfl) ?_)
      intro add7 sub7 mul7 quo7 rem7 band7 bor7 bxor7 bclr7 shl7 shr7 ieq7 ilt7 ile7 seq7 slt7 beq7 bnot7 orb7 bcond7 iwrap7 iof7 ssz7 hA7 cat7 sq7 sl7 imin7 imax7 smin7 smax7 len7 slen7 u87 hL7 op7 hop7 call7 hcall7 code7 hcode7 q7 hq7
      cbv
      by_cases hch0 : ch = 0
      · refine vcIf.no (by rw [hA7.not, hA7.eq]; simp [hch0]) ?_
        cbv
        refine hq7 _ ?_
        cbv
        refine ⟨0, rfl, by decide, fun q10 hq10 => ?_⟩
        cbv
        refine ⟨_, hms q10 hq10, ?_⟩
        cbv
        refine hrd (Ix.mk (i + 1) { s with chosen := s.mine 0 } (vs.set c ⟨pn, pd, an, ad, g, e⟩) ys ms A K tl T L M) rfl (hend hmaj) _ rfl ?_ ⟨_, rfl⟩
        refine ⟨rfl, rfl, rfl, rfl, rfl, rfl, rfl, rfl, rfl, ?_, trivial⟩
        show some (V.p (.int .i64 (add3 .i64 (Int.ofNat i) 1))) = some (V.p (.int .i64 (Int.ofNat (i + 1))))
        rw [hadd]
      have hchM : ch = M := (hcho hmaj).resolve_left hch0
      have hsm : FnL Try.prog 22 [.p (nsP ch ch), .p (nsP M M)] [] fun v own => v = .p (.bool true) ∧ own = [] := by rw [hchM]; exact nsSame_spec M M
      refine vcIf.yes (by rw [hA7.not, hA7.eq]; simp [hch0]) ?_
      cbv
      refine ⟨0, rfl, by decide, fun q9 hq9 => ?_⟩
      cbv
      refine ⟨_, hms q9 hq9, ?_⟩
      cbv
      refine hcall7 _ _ _ _ _ (CallEv.same hsm rfl ?_)
      rintro _ _ ⟨rfl, rfl⟩
      cbv
      refine hq7 _ ?_
      cbv
      refine vcIf.no (by rw [hA7.cond, hA7.not]; rfl) ?_
      cbv
      refine ⟨0, rfl, by decide, fun q10 hq10 => ?_⟩
      cbv
      refine ⟨_, hms q10 hq10, ?_⟩
      cbv
      refine hrd (Ix.mk (i + 1) { s with chosen := s.mine 0 } (vs.set c ⟨pn, pd, an, ad, g, e⟩) ys ms A K tl T L M) rfl (hend hmaj) _ rfl ?_ ⟨_, rfl⟩
      refine ⟨rfl, rfl, rfl, rfl, rfl, rfl, rfl, rfl, rfl, ?_, trivial⟩
      show some (V.p (.int .i64 (add3 .i64 (Int.ofNat i) 1))) = some (V.p (.int .i64 (Int.ofNat (i + 1))))
      rw [hadd]
    | true =>
      have hnp : ¬ 0 + 1 < s.p c := by
        intro h; rw [decide_eq_true h] at hko; exact absurd hko (by decide)
      cbv
      refine ⟨c, rfl, hclt, fun q hq => ?_⟩
      cbv
      refine ⟨_, hvq q hq, ⟨rfl, by simp [PV.cells, PV.one]⟩, fun ys hys => ?_⟩
      cbv
      refine hop3 _ _ _ _ (OpEv.idxSt eOk rfl rfl rfl rfl rfl 0 rfl rfl (by decide) ?_)
      cbv
      refine ⟨c, rfl, hclt, fun q4 hq4 => ?_⟩
      cbv
      refine ⟨_, hKc q4 hq4, ⟨rfl, by simp [PV.cells, PV.one]⟩, fun R hR0 => ?_⟩
      have hr : Rel n (Ix.mk (i + 1) (s.take 0 c) (vs.set c ⟨(add3 .i64 (Int.ofNat 0) 1), (rem3 (Int.ofNat 0) (Int.ofNat 2)), (add3 .i64 (Int.ofNat 0) 1), (rem3 (Int.ofNat 0) (Int.ofNat 2)), M, M⟩) ys ms A (fset K 0 R) tl T L ch) := by
        rw [hys, hq, hR0, hq4, Nat.zero_add]; exact hx.takeY (by decide) hclt hy hnp hmK hA1 hB1 hM
      have hR : R = fset K 0 R 0 := (fset_at K 0 R).symm
      have hrk : IsRow n R ((s.take 0 c).took 0) := by have h := hr.k 0 (by decide); simp only at h; rw [fset_at] at h; exact h
      obtain ⟨tk, htk⟩ : ∃ tk, tk = (s.take 0 c).took 0 := ⟨_, rfl⟩
      rw [← htk] at hrk
      have hmt : (s.take 0 c).mine = s.mine := by unfold Px.take; rw [if_neg hnp]
      have hcho : n < 2 * cnt n tk → ch = 0 ∨ ch = M := by
        intro h
        rw [htk] at h
        have hch : ch = ((s.take 0 c).chosen : Int) := hr.ch
        rcases hr.ok.agree (k := 0) h with e | e
        · exact .inl (by rw [hch]; show (((s.take 0 c).chosen : Nat) : Int) = 0; rw [show (s.take 0 c).chosen = 0 from e]; rfl)
        · exact .inr (by rw [hch, hM]; exact congrArg _ (e.trans (congrFun hmt _)))
      have hend : n < 2 * cnt n tk → Rel n (Ix.mk (i + 1) { s.take 0 c with chosen := (s.take 0 c).mine 0 } (vs.set c ⟨(add3 .i64 (Int.ofNat 0) 1), (rem3 (Int.ofNat 0) (Int.ofNat 2)), (add3 .i64 (Int.ofNat 0) 1), (rem3 (Int.ofNat 0) (Int.ofNat 2)), M, M⟩) ys ms A (fset K 0 R) tl T L M) := by
        intro h
        rw [htk] at h
        exact hr.choose (k := 0) h (by rw [hM]; exact congrArg _ (congrFun hmt _).symm)
      cbv
      refine hcode3 _ _ _ (CodeEv.loop eOk2 fOk2 (ι := Nat × Nat) (fun j => frT sp n i 0 c ++ [(22, .p (.int .i64 (Int.ofNat j.2))), (23, .p (.int .i64 (Int.ofNat j.1)))])
        (fun _ => ownC n (Ix.mk 0 Px.zero [] ys ms A (fset K 0 R) (fun _ => []) T L ch) ++ [.st 23 [.p (.int .i64 (add3 .i64 (Int.ofNat 0) 1)), .p (.int .i64 (rem3 (Int.ofNat 0) (Int.ofNat 2)))], .st 31 (vowC (add3 .i64 (Int.ofNat 0) 1) (rem3 (Int.ofNat 0) (Int.ofNat 2)) (add3 .i64 (Int.ofNat 0) 1) (rem3 (Int.ofNat 0) (Int.ofNat 2)) M M)]) (fun j => j.1 ≤ n ∧ j.2 = cntTo tk j.1) (fun j => n - j.1) (0, 0) ?_ ?_)
      · exact ⟨(by repeat (first | exact trivial | refine And.intro rfl ?_)), rfl, Nat.zero_le _, rfl⟩
      rintro ⟨j, cn⟩ ⟨hj, hcn⟩ rd6 hrd6
      simp only at hj hcn
      have hcn' := cntTo_succ tk j
      have hcnn : cn ≤ j := by rw [hcn]; exact cnt_le j tk
      obtain ⟨fb, hfb⟩ : ∃ fb, fb = tk j := ⟨_, rfl⟩
      rw [← hfb, ← hcn] at hcn'
      intro add6 sub6 mul6 quo6 rem6 band6 bor6 bxor6 bclr6 shl6 shr6 ieq6 ilt6 ile6 seq6 slt6 beq6 bnot6 orb6 bcond6 iwrap6 iof6 ssz6 hA6 cat6 sq6 sl6 imin6 imax6 smin6 smax6 len6 slen6 u86 hL6 op6 hop6 call6 hcall6 code6 hcode6
      have haddj : add6 .i64 (Int.ofNat j) 1 = Int.ofNat (j + 1) := by rw [hA6.add, IntWalk.i64_in _ (by simp only [Int.ofNat_eq_natCast]; omega)]; rfl
      have haddc : add6 .i64 (Int.ofNat cn) 1 = Int.ofNat (cn + 1) := by rw [hA6.add, IntWalk.i64_in _ (by simp only [Int.ofNat_eq_natCast]; omega)]; rfl
      have hcc : ile3 (mul3 .i64 2 (Int.ofNat cn)) (Int.ofNat n) = decide (2 * cn ≤ n) := by
        rw [hA3.le, hA3.mul, IntWalk.i64_in _ (by simp only [Int.ofNat_eq_natCast]; omega)]
        exact decide_eq_decide.2 (by show _ ≤ (n : Int) ↔ _; simp only [Int.ofNat_eq_natCast]; omega)
      by_cases hjn : j < n
      · have hRj : ∀ q, q = 0 + j → R[q]? = some (.bool fb) := by intro q hq; rw [hq, Nat.zero_add, hfb]; exact hrk.2 j hjn
        cbv
        refine vcIf.yes (by rw [hA6.lt]; exact decide_eq_true (by show (j : Int) < (n : Int); omega)) ?_
        cbv
        refine hop6 _ _ _ _ (OpEv.idxSt eOk rfl rfl rfl rfl rfl 0 rfl rfl (by decide) ?_)
        cbv
        refine ⟨j, rfl, hjn, fun q8 hq8 => ?_⟩
        cbv
        refine ⟨_, hR ▸ hRj q8 hq8, ?_⟩
        cases fb with
        | true =>
          cbv
          refine hrd6 _ ⟨(j + 1, cn + 1), [], ?_, ⟨hjn, ?_⟩, rfl, ⟨rfl, rfl, rfl, rfl, rfl, rfl, rfl, rfl, rfl, rfl, rfl, rfl, rfl, rfl, ?_, ?_, trivial⟩, rfl, rfl, rfl, by rw [hB]; exact Nat.zero_le _⟩
          · simp only; omega
          · simp only; rw [hcn']; rfl
          · show some (V.p (.int .i64 (add6 .i64 (Int.ofNat cn) 1))) = some (V.p (.int .i64 (Int.ofNat (cn + 1))))
            rw [haddc]
          · show some (V.p (.int .i64 (add6 .i64 (Int.ofNat j) 1))) = some (V.p (.int .i64 (Int.ofNat (j + 1))))
            rw [haddj]
        | false =>
          cbv
          refine hrd6 _ ⟨(j + 1, cn), [], ?_, ⟨hjn, ?_⟩, rfl, ⟨rfl, rfl, rfl, rfl, rfl, rfl, rfl, rfl, rfl, rfl, rfl, rfl, rfl, rfl, rfl, ?_, trivial⟩, rfl, rfl, rfl, by rw [hB]; exact Nat.zero_le _⟩
          · simp only; omega
          · simp only; rw [hcn']; rfl
          · show some (V.p (.int .i64 (add6 .i64 (Int.ofNat j) 1))) = some (V.p (.int .i64 (Int.ofNat (j + 1))))
            rw [haddj]
      have hjn' : j = n := by omega
      have hcnt : cn = cnt n tk := by rw [hcn, hjn']; rfl
      cbv
      refine vcIf.no (by rw [hA6.lt]; exact decide_eq_false (by show ¬ (j : Int) < (n : Int); omega)) ?_
      cbv
      by_cases hle : 2 * cn ≤ n
      · refine vcIf.yes (by rw [hcc]; exact decide_eq_true hle) ?_
        cbv
        refine hrd (Ix.mk (i + 1) (s.take 0 c) (vs.set c ⟨(add3 .i64 (Int.ofNat 0) 1), (rem3 (Int.ofNat 0) (Int.ofNat 2)), (add3 .i64 (Int.ofNat 0) 1), (rem3 (Int.ofNat 0) (Int.ofNat 2)), M, M⟩) ys ms A (fset K 0 R) tl T L ch) rfl hr _ rfl ?_ ⟨_, rfl⟩
        refine ⟨rfl, rfl, rfl, rfl, rfl, rfl, rfl, rfl, rfl, ?_, trivial⟩
        show some (V.p (.int .i64 (add3 .i64 (Int.ofNat i) 1))) = some (V.p (.int .i64 (Int.ofNat (i + 1))))
        rw [hadd]
      refine vcIf.no (by rw [hcc]; exact decide_eq_false hle) ?_
      have hmaj : n < 2 * cnt n tk := by rw [← hcnt]; omega
      cbv
      refine hcode3 _ _ _ (CodeEv.drawA eOk2 fOk2 (by kernel_rfl) noX (by kernel_rfl) (by kernel_rfl) (by kernel_rfl) ?_)
      intro add7 sub7 mul7 quo7 rem7 band7 bor7 bxor7 bclr7 shl7 shr7 ieq7 ilt7 ile7 seq7 slt7 beq7 bnot7 orb7 bcond7 iwrap7 iof7 ssz7 hA7 cat7 sq7 sl7 imin7 imax7 smin7 smax7 len7 slen7 u87 hL7 op7 hop7 call7 hcall7 code7 hcode7 q7 hq7
      cbv
      by_cases hch0 : ch = 0
      · refine vcIf.no (by rw [hA7.not, hA7.eq]; simp [hch0]) ?_
        cbv
        refine hq7 _ ?_
        cbv
        refine ⟨0, rfl, by decide, fun q10 hq10 => ?_⟩
        cbv
        refine ⟨_, hms q10 hq10, ?_⟩
        cbv
        refine hrd (Ix.mk (i + 1) { s.take 0 c with chosen := (s.take 0 c).mine 0 } (vs.set c ⟨(add3 .i64 (Int.ofNat 0) 1), (rem3 (Int.ofNat 0) (Int.ofNat 2)), (add3 .i64 (Int.ofNat 0) 1), (rem3 (Int.ofNat 0) (Int.ofNat 2)), M, M⟩) ys ms A (fset K 0 R) tl T L M) rfl (hend hmaj) _ rfl ?_ ⟨_, rfl⟩
        refine ⟨rfl, rfl, rfl, rfl, rfl, rfl, rfl, rfl, rfl, ?_, trivial⟩
        show some (V.p (.int .i64 (add3 .i64 (Int.ofNat i) 1))) = some (V.p (.int .i64 (Int.ofNat (i + 1))))
        rw [hadd]
      have hchM : ch = M := (hcho hmaj).resolve_left hch0
      have hsm : FnL Try.prog 22 [.p (nsP ch ch), .p (nsP M M)] [] fun v own => v = .p (.bool true) ∧ own = [] := by rw [hchM]; exact nsSame_spec M M
      refine vcIf.yes (by rw [hA7.not, hA7.eq]; simp [hch0]) ?_
      cbv
      refine ⟨0, rfl, by decide, fun q9 hq9 => ?_⟩
      cbv
      refine ⟨_, hms q9 hq9, ?_⟩
      cbv
      refine hcall7 _ _ _ _ _ (CallEv.same hsm rfl ?_)
      rintro _ _ ⟨rfl, rfl⟩
      cbv
      refine hq7 _ ?_
      cbv
      refine vcIf.no (by rw [hA7.cond, hA7.not]; rfl) ?_
      cbv
      refine ⟨0, rfl, by decide, fun q10 hq10 => ?_⟩
      cbv
      refine ⟨_, hms q10 hq10, ?_⟩
      cbv
      refine hrd (Ix.mk (i + 1) { s.take 0 c with chosen := (s.take 0 c).mine 0 } (vs.set c ⟨(add3 .i64 (Int.ofNat 0) 1), (rem3 (Int.ofNat 0) (Int.ofNat 2)), (add3 .i64 (Int.ofNat 0) 1), (rem3 (Int.ofNat 0) (Int.ofNat 2)), M, M⟩) ys ms A (fset K 0 R) tl T L M) rfl (hend hmaj) _ rfl ?_ ⟨_, rfl⟩
      refine ⟨rfl, rfl, rfl, rfl, rfl, rfl, rfl, rfl, rfl, ?_, trivial⟩
      show some (V.p (.int .i64 (add3 .i64 (Int.ofNat i) 1))) = some (V.p (.int .i64 (Int.ofNat (i + 1))))
      rw [hadd]
  cbv
  refine vcIf.yes (by rw [hA3.eq]; exact decide_eq_true hw) ?_
  cbv
  refine hcode3 _ _ _ (CodeEv.thru (κ := Bool) (fun o => frK sp n i 0 c ++ [(19, .p (.bool o))])
    (fun o => ownC n ⟨i, s, vs, vp, ms, A, K, tl, T, L, ch⟩ ++ [.st 23 [.p (.int .i64 (add3 .i64 (Int.ofNat 0) 1)), .p (.int .i64 (rem3 (Int.ofNat 0) (Int.ofNat 2)))], .st 31 (match o with | true => vowC (add3 .i64 (Int.ofNat 0) 1) (rem3 (Int.ofNat 0) (Int.ofNat 2)) an ad g e | false => vowC pn pd an ad g e)]) (fun o => o = blt pn pd (add3 .i64 (Int.ofNat 0) 1) (rem3 (Int.ofNat 0) (Int.ofNat 2))) ?_ ?_)
  · refine CodeEv.drawT eOk2 fOk2 (by kernel_rfl) (Xof 25 []) (.rd 0 (.rd 1 (.rd 2 (.rd 3 (.rd 4 (.acts (.cons 5 (.rd 6 (.rd 7 (.rd 8 (.acts (.cons 9 (.acts (.cons 10 (.so 11 (.done)) (.nil))) (.nil)))))) (.cons 9 (.acts (.cons 5 (.so 6 (.rd 7 (.rd 8 (.acts (.cons 10 (.so 11 (.done)) (.nil)))))) (.nil))) (.nil))))))))) (by kernel_rfl) (by kernel_rfl) ?_
    intro add5 sub5 mul5 quo5 rem5 band5 bor5 bxor5 bclr5 shl5 shr5 ieq5 ilt5 ile5 seq5 slt5 beq5 bnot5 orb5 bcond5 iwrap5 iof5 ssz5 hA5 cat5 sq5 sl5 imin5 imax5 smin5 smax5 len5 slen5 u85 hL5 op5 hop5 call5 hcall5 code5 hcode5 q5 hq5
    cbv
    refine ⟨c, rfl, hclt, fun q hq => ?_⟩
    cbv
    refine ⟨_, hvq q hq, ?_⟩
    cbv
    refine ⟨?_, ?_⟩
    · refine hcall5 _ _ _ _ _ (CallEv.same (nvPromise_spec pn pd an ad g e _ _) rfl ?_)
      rintro _ _ ⟨(⟨h, rfl⟩ | ⟨h, rfl⟩), rfl⟩
      · cbv
        exact hq5 _ (OutX.thru ⟨true, _, h.symm, rfl, (by repeat (first | exact trivial | refine And.intro rfl ?_)), rfl, rfl, rfl, by rw [hB]; exact Nat.zero_le _⟩)
      · cbv
        exact hq5 _ (OutX.thru ⟨false, _, h.symm, rfl, (by repeat (first | exact trivial | refine And.intro rfl ?_)), rfl, rfl, rfl, by rw [hB]; exact Nat.zero_le _⟩)
    · refine hcall5 _ _ _ _ _ (CallEv.same (nvPromise_spec pn pd an ad g e _ _) rfl ?_)
      rintro _ _ ⟨(⟨h, rfl⟩ | ⟨h, rfl⟩), rfl⟩
      · cbv
        exact hq5 _ (OutX.thru ⟨true, _, h.symm, rfl, (by repeat (first | exact trivial | refine And.intro rfl ?_)), rfl, rfl, rfl, by rw [hB]; exact Nat.zero_le _⟩)
      · cbv
        exact hq5 _ (OutX.thru ⟨false, _, h.symm, rfl, (by repeat (first | exact trivial | refine And.intro rfl ?_)), rfl, rfl, rfl, by rw [hB]; exact Nat.zero_le _⟩)
  rintro o ho
  have hko : o = decide (s.p c < 0 + 1) := by
    have hv1 : pn = ((s.p c : Nat) : Int) := hiv.1
    have hv2 : pd = nd (s.p c) := hiv.2.1
    rw [ho, hv1, hv2, hA1, hB1]; exact blt_nd (s.p c) (0 + 1)
  cases o with
  | false =>
    cbv
    refine ⟨c, rfl, hclt, fun q hq => ?_⟩
    cbv
    refine ⟨_, hvq q hq, ⟨rfl, by simp [PV.cells, PV.one]⟩, fun ys hys => ?_⟩
    cbv
    refine hrd (Ix.mk (i + 1) s (vs.set c ⟨pn, pd, an, ad, g, e⟩) ys ms A K tl T L ch) rfl ?_ _ rfl ?_ ⟨_, rfl⟩
    · rw [hys, hq, Nat.zero_add]; exact hx.same hclt hy
    · refine ⟨rfl, rfl, rfl, rfl, rfl, rfl, rfl, rfl, rfl, ?_, trivial⟩
      show some (V.p (.int .i64 (add3 .i64 (Int.ofNat i) 1))) = some (V.p (.int .i64 (Int.ofNat (i + 1))))
      rw [hadd]
  | true =>
    have hps : s.p c < 0 + 1 := of_decide_eq_true hko.symm
    cases ak with
    | true =>
      cbv
      refine hop3 _ _ _ _ (OpEv.idxSt eOk rfl rfl rfl rfl rfl 0 rfl rfl (by decide) ?_)
      cbv
      refine ⟨c, rfl, hclt, fun q hq => ?_⟩
      cbv
      refine ⟨_, hAc q hq, ?_⟩
      cbv
      refine vcIf.no (by rw [hA3.cond, hA3.not]; rfl) ?_
      cbv
      repeat (first | (refine vcIf.yes ?_ ?_; (focus (simp [hA3.not, hA3.eq, hA3.lt, hA3.le, hA3.cond, hA3.beq, hA3.orb, hL3.len, hL3.slen, hL3.sq]; done)); cbv) | (refine vcIf.no ?_ ?_; (focus (simp [hA3.not, hA3.eq, hA3.lt, hA3.le, hA3.cond, hA3.beq, hA3.orb, hL3.len, hL3.slen, hL3.sq]; done)); cbv) | fail)
      refine ⟨c, rfl, hclt, fun q3 hq3 => ?_⟩
      cbv
      refine ⟨_, hvq q3 hq3, ⟨rfl, by simp [PV.cells, PV.one]⟩, fun ys hys => ?_⟩
      cbv
      refine hrd (Ix.mk (i + 1) (s.promise n 0 c) (vs.set c ⟨(add3 .i64 (Int.ofNat 0) 1), (rem3 (Int.ofNat 0) (Int.ofNat 2)), an, ad, g, e⟩) ys ms A K tl T L ch) rfl ?_ _ rfl ?_ ⟨_, rfl⟩
      · rw [hys, hq3, Nat.zero_add]; exact hx.promA hclt hy hps (fun h => by rw [← hak] at h; exact absurd h.1 (by decide)) hA1 hB1
      · refine ⟨rfl, rfl, rfl, rfl, rfl, rfl, rfl, rfl, rfl, ?_, trivial⟩
        show some (V.p (.int .i64 (add3 .i64 (Int.ofNat i) 1))) = some (V.p (.int .i64 (Int.ofNat (i + 1))))
        rw [hadd]
    | false =>
      cbv
      refine hop3 _ _ _ _ (OpEv.idxSt eOk rfl rfl rfl rfl rfl 0 rfl rfl (by decide) ?_)
      cbv
      refine ⟨c, rfl, hclt, fun q hq => ?_⟩
      cbv
      refine ⟨_, hAc q hq, ?_⟩
      cbv
      refine vcIf.yes (by rw [hA3.cond, hA3.not]; rfl) ?_
      cbv
      refine ⟨0, rfl, by decide, fun q2 hq2 => ?_⟩
      cbv
      refine ⟨_, hms q2 hq2, ?_⟩
      cbv
      by_cases hM0 : M = 0
      rotate_left
      · refine vcIf.no (by rw [hA3.cond, hA3.eq]; exact decide_eq_false hM0) ?_
        cbv
        refine ⟨c, rfl, hclt, fun q3 hq3 => ?_⟩
        cbv
        refine ⟨_, hvq q3 hq3, ⟨rfl, by simp [PV.cells, PV.one]⟩, fun ys hys => ?_⟩
        cbv
        refine hrd (Ix.mk (i + 1) (s.promise n 0 c) (vs.set c ⟨(add3 .i64 (Int.ofNat 0) 1), (rem3 (Int.ofNat 0) (Int.ofNat 2)), an, ad, g, e⟩) ys ms A K tl T L ch) rfl ?_ _ rfl ?_ ⟨_, rfl⟩
        · rw [hys, hq3, Nat.zero_add]; exact hx.promA hclt hy hps (fun h => hM0 (by rw [hM, h.2]; rfl)) hA1 hB1
        · refine ⟨rfl, rfl, rfl, rfl, rfl, rfl, rfl, rfl, rfl, ?_, trivial⟩
          show some (V.p (.int .i64 (add3 .i64 (Int.ofNat i) 1))) = some (V.p (.int .i64 (Int.ofNat (i + 1))))
          rw [hadd]
      refine vcIf.yes (by rw [hA3.cond, hA3.eq]; exact decide_eq_true hM0) ?_
      cbv
      refine hcode3 _ _ _ (CodeEv.thru (κ := List PV × Nat) (fun o => frK sp n i 0 c ++ [(19, .p (.bool true))])
        (fun o => ownC n ⟨i, s, vs, vp, ms, A, K, tl, fset T 0 o.1, fset L 0 o.2, ch⟩ ++ [.st 23 [.p (.int .i64 (add3 .i64 (Int.ofNat 0) 1)), .p (.int .i64 (rem3 (Int.ofNat 0) (Int.ofNat 2)))], .st 31 (vowC (add3 .i64 (Int.ofNat 0) 1) (rem3 (Int.ofNat 0) (Int.ofNat 2)) an ad g e)]) (fun o => o.1 = T 0 ++ [nvP (add3 .i64 (Int.ofNat 0) 1) (rem3 (Int.ofNat 0) (Int.ofNat 2)) an ad g e] ∧ o.2 = L 0 + 1) ?_ ?_)
      · refine CodeEv.drawT eOk2 fOk2 (by kernel_rfl) (Xof 26 [1, 18]) (.rd 0 (.rd 1 (.rd 2 (.rd 3 (.rd 6 (.acts (.cons 4 (.acts (.cons 5 (.acts (.cons 7 (.acts (.cons 8 (.acts (.cons 9 (.acts (.cons 10 (.done) .nil)) .nil)) .nil)) .nil)) (.cons 7 (.acts (.cons 5 (.acts (.cons 8 (.acts (.cons 9 (.acts (.cons 10 (.done) .nil)) .nil)) .nil)) .nil)) .nil))) (.cons 7 (.acts (.cons 4 (.acts (.cons 5 (.acts (.cons 8 (.acts (.cons 9 (.acts (.cons 10 (.done) .nil)) .nil)) .nil)) .nil)) .nil)) .nil)))))))) (by kernel_rfl) (by kernel_rfl) ?_
        intro add5 sub5 mul5 quo5 rem5 band5 bor5 bxor5 bclr5 shl5 shr5 ieq5 ilt5 ile5 seq5 slt5 beq5 bnot5 orb5 bcond5 iwrap5 iof5 ssz5 hA5 cat5 sq5 sl5 imin5 imax5 smin5 smax5 len5 slen5 u85 hL5 op5 hop5 call5 hcall5 code5 hcode5 q5 hq5
        cbv
        refine ⟨?_, ?_⟩
        · refine hop5 _ _ _ _ (OpEv.idxSt eOk rfl rfl rfl rfl rfl 0 rfl rfl (by decide) ?_)
          cbv
          refine ⟨?_, ?_⟩
          · refine ⟨false, ?_⟩
            cbv
            refine .inl ⟨(), rfl, hLT, hWv, hLm, hLb, ?_⟩
            intro zs n' hz hn'
            cbv
            refine hop5 _ _ _ _ (OpEv.idxSt eOk rfl rfl rfl rfl rfl 0 rfl rfl (by decide) ?_)
            cbv
            exact hq5 _ (OutX.thru ⟨(zs, n'), _, ⟨hz, hn'⟩, rfl, (by repeat (first | exact trivial | refine And.intro rfl ?_)), rfl, rfl, rfl, by rw [hB]; exact Nat.zero_le _⟩)
          · refine ⟨false, ?_⟩
            cbv
            refine .inl ⟨(), rfl, hLT, hWv, hLm, hLb, ?_⟩
            intro zs n' hz hn'
            cbv
            refine hop5 _ _ _ _ (OpEv.idxSt eOk rfl rfl rfl rfl rfl 0 rfl rfl (by decide) ?_)
            cbv
            exact hq5 _ (OutX.thru ⟨(zs, n'), _, ⟨hz, hn'⟩, rfl, (by repeat (first | exact trivial | refine And.intro rfl ?_)), rfl, rfl, rfl, by rw [hB]; exact Nat.zero_le _⟩)
        · refine ⟨false, ?_⟩
          cbv
          refine hop5 _ _ _ _ (OpEv.idxSt eOk rfl rfl rfl rfl rfl 0 rfl rfl (by decide) ?_)
          cbv
          refine .inl ⟨(), rfl, hLT, hWv, hLm, hLb, ?_⟩
          intro zs n' hz hn'
          cbv
          refine hop5 _ _ _ _ (OpEv.idxSt eOk rfl rfl rfl rfl rfl 0 rfl rfl (by decide) ?_)
          cbv
          exact hq5 _ (OutX.thru ⟨(zs, n'), _, ⟨hz, hn'⟩, rfl, (by repeat (first | exact trivial | refine And.intro rfl ?_)), rfl, rfl, rfl, by rw [hB]; exact Nat.zero_le _⟩)
      rintro ⟨zs, n'⟩ ⟨hz, hn'⟩
      simp only at hz hn'
      cbv
      refine hop3 _ _ _ _ (OpEv.idxSt eOk rfl rfl rfl rfl rfl 0 rfl rfl (by decide) ?_)
      cbv
      refine ⟨c, rfl, hclt, fun q4 hq4 => ?_⟩
      cbv
      refine ⟨_, hAc q4 hq4, ⟨rfl, by simp [PV.cells, PV.one]⟩, fun ays hays => ?_⟩
      cbv
      refine hop3 _ _ _ _ (OpEv.idxSt eOk rfl rfl rfl rfl rfl 0 rfl rfl (by decide) ?_)
      cbv
      have hLn : zs.length = n' := by rw [hz, hn', List.length_append, hLT]; rfl
      have hcm : ilt3 (Int.ofNat n) (mul3 .i64 2 (iof3 n')) = decide (n < 2 * n') := by
        rw [hA3.lt, hA3.ofNat, hA3.mul, IntWalk.i64_in _ (by omega)]
        exact decide_eq_decide.2 (by show (n : Int) < _ ↔ _; omega)
      have hm0 : s.mine 0 = 0 := by rw [hM] at hM0; exact Int.ofNat_inj.1 hM0
      have hak' : s.asked 0 c = false := hak.symm
      by_cases hmaj : n < 2 * n'
      rotate_left
      · refine vcIf.no (by rw [hcm]; exact decide_eq_false hmaj) ?_
        cbv
        refine ⟨c, rfl, hclt, fun q3 hq3 => ?_⟩
        cbv
        refine ⟨_, hvq q3 hq3, ⟨rfl, by simp [PV.cells, PV.one]⟩, fun ys hys => ?_⟩
        cbv
        refine hrd (Ix.mk (i + 1) (s.promise n 0 c) (vs.set c ⟨(add3 .i64 (Int.ofNat 0) 1), (rem3 (Int.ofNat 0) (Int.ofNat 2)), an, ad, g, e⟩) ys ms (fset A 0 ays) K (fset tl 0 (tl 0 ++ [⟨(add3 .i64 (Int.ofNat 0) 1), (rem3 (Int.ofNat 0) (Int.ofNat 2)), an, ad, g, e⟩])) (fset T 0 zs) (fset L 0 n') ch) rfl ?_ _ rfl ?_ ⟨_, rfl⟩
        · rw [hys, hq3, hays, hq4, hz, hn', Nat.zero_add]; exact (hx.promB (by decide) hclt hy hps hak' hm0 hA1 hB1 hx.ml (promB_few hx (by decide) hps hak' hm0 (by rw [← hn']; exact hmaj)))
        · refine ⟨rfl, rfl, rfl, rfl, rfl, rfl, rfl, rfl, rfl, ?_, trivial⟩
          show some (V.p (.int .i64 (add3 .i64 (Int.ofNat i) 1))) = some (V.p (.int .i64 (Int.ofNat (i + 1))))
          rw [hadd]
      have hTK : T 0 = (tl 0).map Nv.v := hx.t 0 (by decide)
      have hbest := nvBest_spec (tl 0 ++ [⟨(add3 .i64 (Int.ofNat 0) 1), (rem3 (Int.ofNat 0) (Int.ofNat 2)), an, ad, g, e⟩]) zs (by rw [hz, hTK, List.map_append]; rfl) (by
        have h1 := hx.l 0 (by decide); simp only at h1
        rw [List.length_append, ← h1]; show L 0 + 1 ≤ 1000; omega)
      have htold : (tl 0 ++ [Nv.mk (add3 .i64 (Int.ofNat 0) 1) (rem3 (Int.ofNat 0) (Int.ofNat 2)) an ad g e]).map toldQ = (s.told 0 ++ [(s.a c, s.g c)]).map toldR := by
        rw [List.map_append, List.map_append]
        exact congr (congrArg _ (hx.tl 0 (by decide))) (congrArg (fun z => [z]) (by unfold toldQ toldR; exact congr (congrArg Prod.mk hiv.2.2.1) (congr (congrArg Prod.mk hiv.2.2.2.1) (congr (congrArg Prod.mk hiv.2.2.2.2.1) hiv.2.2.2.2.2))))
      obtain ⟨bg, hbg⟩ : ∃ bg, bg = (bst (0, 0) (s.told 0 ++ [(s.a c, s.g c)])).2 := ⟨_, rfl⟩
      obtain ⟨G, hG⟩ : ∃ G : Int, G = (bg : Int) := ⟨_, rfl⟩
      rw [(best_of htold).1, (best_of htold).2, ← hbg, ← hG] at hbest
      refine vcIf.yes (by rw [hcm]; exact decide_eq_true hmaj) ?_
      cbv
      refine hop3 _ _ _ _ (OpEv.idxSt eOk rfl rfl rfl rfl rfl 0 rfl rfl (by decide) ?_)
      cbv
      refine hcall3 _ _ _ _ _ (CallEv.shown [] [18] hbest rfl (.cons (.bvw 18 8 0 n' none 31 8 zs zs (List.mem_singleton.2 rfl) rfl (by rw [List.drop_zero, ← hLn, List.take_length])) .nil) trivial ?_)
      rintro _ _ ⟨rfl, rfl⟩
      refine ⟨flat_ns G G, by simp, ?_⟩
      cbv
      refine ⟨0, rfl, by decide, fun q5 hq5 => ?_⟩
      cbv
      refine ⟨_, hms q5 hq5, ⟨rfl, by simp [PV.cells, PV.one]⟩, fun ms1 hms1 => ?_⟩
      have hms1' : ∀ q, q = 0 + 0 → ms1[q]? = some (nsP G G) := by
        intro q hq; rw [hms1, hq, hq5]; exact List.getElem?_set_self (by have := hx.ml; simp only at this; omega)
      cbv
      refine ⟨0, rfl, by decide, fun q6 hq6 => ?_⟩
      cbv
      refine ⟨_, hms1' q6 hq6, ?_⟩
      cbv
      by_cases hG0 : G = 0
      · have hb0 : bg = 0 := by rw [hG] at hG0; exact Int.ofNat_inj.1 hG0
        refine vcIf.yes (by rw [hA3.eq]; exact decide_eq_true hG0) ?_
        cbv
        refine ⟨0, rfl, by decide, fun q7 hq7 => ?_⟩
        cbv
        refine ⟨_, hms1' q7 hq7, ⟨rfl, by simp [PV.cells, PV.one]⟩, fun ms2 hms2 => ?_⟩
        have hmsE : ms2 = ms.set 0 (nsP (add3 .i64 (Int.ofNat 0) 1) (add3 .i64 (Int.ofNat 0) 1)) := by rw [hms2, hms1, hq7, hq5, Nat.zero_add, List.set_set]
        cbv
        refine ⟨c, rfl, hclt, fun q3 hq3 => ?_⟩
        cbv
        refine ⟨_, hvq q3 hq3, ⟨rfl, by simp [PV.cells, PV.one]⟩, fun ys hys => ?_⟩
        cbv
        refine hrd (Ix.mk (i + 1) (s.promise n 0 c) (vs.set c ⟨(add3 .i64 (Int.ofNat 0) 1), (rem3 (Int.ofNat 0) (Int.ofNat 2)), an, ad, g, e⟩) ys ms2 (fset A 0 ays) K (fset tl 0 (tl 0 ++ [⟨(add3 .i64 (Int.ofNat 0) 1), (rem3 (Int.ofNat 0) (Int.ofNat 2)), an, ad, g, e⟩])) (fset T 0 zs) (fset L 0 n') ch) rfl ?_ _ rfl ?_ ⟨_, rfl⟩
        · rw [hys, hq3, hays, hq4, hz, hn', Nat.zero_add]; exact (hmsE ▸ hx.promB (by decide) hclt hy hps hak' hm0 hA1 hB1 (by rw [List.length_set]; exact hx.ml) (promB_many hx (by decide) hps hak' hm0 (by rw [← hn']; exact hmaj) (by rw [← hbg, if_pos hb0]; exact hA1)))
        · refine ⟨rfl, rfl, rfl, rfl, rfl, rfl, rfl, rfl, rfl, ?_, trivial⟩
          show some (V.p (.int .i64 (add3 .i64 (Int.ofNat i) 1))) = some (V.p (.int .i64 (Int.ofNat (i + 1))))
          rw [hadd]
      · have hb0 : bg ≠ 0 := fun h => hG0 (by rw [hG, h]; rfl)
        have hmsE : ms1 = ms.set 0 (nsP G G) := by rw [hms1, hq5, Nat.zero_add]
        refine vcIf.no (by rw [hA3.eq]; exact decide_eq_false hG0) ?_
        cbv
        refine ⟨c, rfl, hclt, fun q3 hq3 => ?_⟩
        cbv
        refine ⟨_, hvq q3 hq3, ⟨rfl, by simp [PV.cells, PV.one]⟩, fun ys hys => ?_⟩
        cbv
        refine hrd (Ix.mk (i + 1) (s.promise n 0 c) (vs.set c ⟨(add3 .i64 (Int.ofNat 0) 1), (rem3 (Int.ofNat 0) (Int.ofNat 2)), an, ad, g, e⟩) ys ms1 (fset A 0 ays) K (fset tl 0 (tl 0 ++ [⟨(add3 .i64 (Int.ofNat 0) 1), (rem3 (Int.ofNat 0) (Int.ofNat 2)), an, ad, g, e⟩])) (fset T 0 zs) (fset L 0 n') ch) rfl ?_ _ rfl ?_ ⟨_, rfl⟩
        · rw [hys, hq3, hays, hq4, hz, hn', Nat.zero_add]; exact (hmsE ▸ hx.promB (by decide) hclt hy hps hak' hm0 hA1 hB1 (by rw [List.length_set]; exact hx.ml) (promB_many hx (by decide) hps hak' hm0 (by rw [← hn']; exact hmaj) (by rw [← hbg, if_neg hb0]; exact hG)))
        · refine ⟨rfl, rfl, rfl, rfl, rfl, rfl, rfl, rfl, rfl, ?_, trivial⟩
          show some (V.p (.int .i64 (add3 .i64 (Int.ofNat i) 1))) = some (V.p (.int .i64 (Int.ofNat (i + 1))))
          rw [hadd]
end Go.Proofs.Ytdbagbklhchbkaa
