/- PastForgets, the walk. Conditions: on sizes. -/
import Derived.Test.YtdeolllpbflemaaLPaf
set_option maxRecDepth 100000
set_option maxHeartbeats 32000000
set_option linter.unusedSimpArgs false
set_option linter.unusedVariables false
namespace Go.Proofs.Ytdeolllpbflemaa
open Go Go.Lx
open Go.Sx (vcIf)


theorem pastForgets_spec (L : List (List Chg)) (hLn : L.length * 24 ≤ 67108864) (hLm : ∀ ch ∈ L, ch.length * 40 ≤ 67108864) (lo hi : List UInt8) (cut : Nat) (hct : cut < 256) :
    FnL Try.prog 6 [.p (.sl (cLP L)), .p (.agg [.str lo, .str hi]), .p (.int .u8 (Int.ofNat cut))] [] fun r own => r = .p (.bool true) ∧ own = [] := by
  refine FnL.flat (R := fun r own => r = .p (.bool true)) ?_ (by rintro _ _ rfl; exact ⟨_, _, rfl, .refl _, rfl, rfl⟩)
  have hM : ∀ ch ∈ L, ch.length ≤ 1677721 := fun ch h => by have := hLm ch h; omega
  obtain ⟨N, hN⟩ : ∃ N, N = L.length := ⟨_, rfl⟩
  obtain ⟨LL, hLL⟩ : ∃ LL, LL = cLP L := ⟨_, rfl⟩
  have hLl : LL.length = N := by rw [hLL, cLP_length, hN]
  rw [← hLL]
  refine fn_of_vc eOk fOk fo6 Try.func6 rfl rfl rfl fun B hB => ?_
  intro add sub mul quo rem band bor bxor bclr shl shr ieq ilt ile seq slt beq bnot orb bcond iwrap iof ssz hA cat sq sl imin imax smin smax len slen u8 hL op hop call hcall code hcode ret hret
  cbv
  refine hcall _ _ _ _ _ (CallEv.same pastNew_spec rfl ?_)
  rintro _ _ ⟨rfl, rfl⟩
  cbv
  refine hcall _ _ _ _ _ (CallEv.pure pastNew_spec .nil ?_)
  rintro _ _ ⟨rfl, rfl⟩
  cbv
  refine hcall _ _ _ _ _ (CallEv.pure awakeP_spec .nil ?_)
  rintro _ _ ⟨rfl, rfl⟩
  cbv
  repeat (first | (refine vcIf.yes ?_ ?_; (focus (simp [hA.not, hA.eq, hA.lt, hA.le, hA.cond, hA.beq, hA.orb, hL.len, hL.slen, hL.sq]; done)); cbv) | (refine vcIf.no ?_ ?_; (focus (simp [hA.not, hA.eq, hA.lt, hA.le, hA.cond, hA.beq, hA.orb, hL.len, hL.slen, hL.sq]; done)); cbv) | fail)
  refine hcode _ _ _ (CodeEv.loopX eOk fOk (ι := Nat × List PV × Int) (κ := Nat × List PV × Int) (fun s => [(0, .p (.sl LL)), (2, .p (.int .u8 (Int.ofNat cut))), (4, .own 0 0), (7, .own 1 0), (8, .own 3 0), (9, .p (.int .i64 (Int.ofNat s.1))), (10, .p (.int .i64 (Int.ofNat s.1)))])
    (fun s => [.st 24 [.p (.str lo), .p (.str hi)], .st 64 [.p (.int .i64 0), .p (.sl []), .vw 2 2 0 s.1 none, .p (.int .i64 0), .p (.int .i64 s.2.2)], psA s.2.1, .st 64 [.p (.int .i64 0), .p (.sl []), .vw 4 2 0 s.1 none, .p (.int .i64 0), .p (.int .i64 s.2.2)], psA s.2.1])
    (fun s => s.1 ≤ 20 ∧ s.1 ≤ N ∧ s.2.1 = layP (layN L vF s.1) ∧ s.2.2 = Int.ofNat s.1 ∧ (∀ j, j < s.1 → chks (L.getD j []) = 0))
    (fun s => N - s.1) (0, [], 0) 0
    (fun s => [(2, .p (.int .u8 (Int.ofNat cut))), (4, .own 0 0), (7, .own 1 0), (8, .own 3 0), (9, .p (.int .i64 (Int.ofNat s.1)))])
    (fun s => [.st 24 [.p (.str lo), .p (.str hi)], .st 64 [.p (.int .i64 0), .p (.sl []), .vw 2 2 0 s.1 none, .p (.int .i64 0), .p (.int .i64 s.2.2)], psA s.2.1, .st 64 [.p (.int .i64 0), .p (.sl []), .vw 4 2 0 s.1 none, .p (.int .i64 0), .p (.int .i64 s.2.2)], psA s.2.1])
    (fun s => s.1 ≤ 20 ∧ s.2.1 = layP (layN L vF s.1) ∧ s.2.2 = Int.ofNat s.1 ∧ (∀ j, j < s.1 → chks (L.getD j []) = 0)) ?_ ?_ ?_)
  · exact ⟨(by repeat (first | exact trivial | refine And.intro rfl ?_)), rfl, Nat.zero_le _, Nat.zero_le _, rfl, rfl, fun j h => absurd h (Nat.not_lt_zero _)⟩
  · rintro ⟨i, ws, l0⟩ ⟨hi20, hiN, hws, hl0, hck⟩ rd hrd out hout
    dsimp only at hi20 hiN hws hl0 hck
    have hpB : B.own0.length ≤ 5 := by rw [hB]; exact Nat.zero_le _
    by_cases hiN' : i < N
    · by_cases hi3 : i < 20
      · obtain ⟨ch, hch⟩ : ∃ ch, L[i]? = some ch := ⟨L[i]'(by omega), List.getElem?_eq_getElem (by omega)⟩
        have hg := cLP_get hch
        rw [← hLL] at hg
        have hcL := hLm ch (List.mem_of_getElem? hch)
        obtain ⟨cc, hcc⟩ : ∃ cc, cc = cP ch := ⟨_, rfl⟩
        rw [← hcc] at hg
        have hall := rall_spec ch (by omega) cc hcc
        have hAd := fun V => add_spec 0 0 l0 V ch (by omega) [] ws i (by rw [hws, layP_length, layN_length]) (by omega) cc hcc
        have hgD := getD_of hch
        intro add1 sub1 mul1 quo1 rem1 band1 bor1 bxor1 bclr1 shl1 shr1 ieq1 ilt1 ile1 seq1 slt1 beq1 bnot1 orb1 bcond1 iwrap1 iof1 ssz1 hA1 cat1 sq1 sl1 imin1 imax1 smin1 smax1 len1 slen1 u81 hL1 op1 hop1 call1 hcall1 code1 hcode1
        have hadd : add1 .i64 (Int.ofNat i) 1 = Int.ofNat (i + 1) := by
          rw [hA1.add]; exact i64_nat (by simp) (by omega)
        replace hAd := hAd (add1 .i64 (Int.ofNat i) 1)
        rw [show adE l0 (add1 .i64 (Int.ofNat i) 1) ch = chks ch by rw [hadd, hl0]; unfold adE; rw [if_neg (by simp only [Int.ofNat_eq_natCast]; omega)]] at hAd
        by_cases hc : chks ch = 0
        · rw [hc] at hall hAd
          cbv
          repeat (first | (refine vcIf.yes ?_ ?_; (focus (simp [hA1.not, hA1.eq, hA1.lt, hA1.le, hA1.cond, hA1.beq, hA1.orb, hL1.len, hL1.slen, hL1.sq, hLl, hiN', hi3]; done)); cbv) | (refine vcIf.no ?_ ?_; (focus (simp [hA1.not, hA1.eq, hA1.lt, hA1.le, hA1.cond, hA1.beq, hA1.orb, hL1.len, hL1.slen, hL1.sq, hLl, hiN', hi3]; done)); cbv) | fail)
          refine vcIf.yes (by first | (simp [hA1.not, hA1.eq, hA1.lt, hA1.le, hA1.cond, hA1.beq, hA1.orb, hL1.len, hL1.slen, hL1.sq, hi3]; done) | (simp only [hi3]; simp [hA1.not, hA1.eq, hA1.lt, hA1.le, hA1.cond, hA1.beq, hA1.orb, hL1.len, hL1.slen, hL1.sq, hi3]; done) | (simp [hA1.not, hA1.eq, hA1.lt, hA1.le, hA1.cond, hA1.beq, hA1.orb, hL1.len, hL1.slen, hL1.sq, hi3]; omega) | (simp only [hi3]; simp [hA1.not, hA1.eq, hA1.lt, hA1.le, hA1.cond, hA1.beq, hA1.orb, hL1.len, hL1.slen, hL1.sq, hi3]; omega)) ?_
          cbv
          repeat (first | (refine vcIf.yes ?_ ?_; (focus (simp [hA1.not, hA1.eq, hA1.lt, hA1.le, hA1.cond, hA1.beq, hA1.orb, hL1.len, hL1.slen, hL1.sq]; done)); cbv) | (refine vcIf.no ?_ ?_; (focus (simp [hA1.not, hA1.eq, hA1.lt, hA1.le, hA1.cond, hA1.beq, hA1.orb, hL1.len, hL1.slen, hL1.sq]; done)); cbv) | fail)
          refine ⟨i, .sl cc, rfl, hg, rfl, ?_⟩
          cbv
          refine hcall1 _ _ _ _ _ (CallEv.same hall rfl ?_)
          rintro _ _ ⟨_, rfl, rfl, rfl⟩
          cbv
          repeat (first | (refine vcIf.yes ?_ ?_; (focus (simp [hA1.not, hA1.eq, hA1.lt, hA1.le, hA1.cond, hA1.beq, hA1.orb, hL1.len, hL1.slen, hL1.sq]; done)); cbv) | (refine vcIf.no ?_ ?_; (focus (simp [hA1.not, hA1.eq, hA1.lt, hA1.le, hA1.cond, hA1.beq, hA1.orb, hL1.len, hL1.slen, hL1.sq]; done)); cbv) | fail)
          refine ⟨i, .sl cc, rfl, hg, rfl, ?_⟩
          cbv
          refine hcall1 _ _ _ _ _ (CallEv.lend [1, 2] hAd rfl (.cons (.own 0 1 0 rfl) (.cons (.p _) (.cons (.p _) .nil))) (psL rfl rfl rfl rfl) ?_)
          rintro _ _ ⟨e, he, rfl, ⟨hne, _⟩ | ⟨_, xs, m, hm, hxs, rfl⟩⟩
          · exact absurd he hne
          obtain rfl : e = 0 := he
          obtain rfl : m = i + 1 := hm
          cbv
          repeat (first | (refine vcIf.yes ?_ ?_; (focus (simp [hA1.not, hA1.eq, hA1.lt, hA1.le, hA1.cond, hA1.beq, hA1.orb, hL1.len, hL1.slen, hL1.sq]; done)); cbv) | (refine vcIf.no ?_ ?_; (focus (simp [hA1.not, hA1.eq, hA1.lt, hA1.le, hA1.cond, hA1.beq, hA1.orb, hL1.len, hL1.slen, hL1.sq]; done)); cbv) | fail)
          refine ⟨i, .sl cc, rfl, hg, rfl, ?_⟩
          cbv
          refine hcall1 _ _ _ _ _ (CallEv.lend [3, 4] hAd rfl (.cons (.own 0 3 0 rfl) (.cons (.p _) (.cons (.p _) .nil))) (psL rfl rfl rfl rfl) ?_)
          rintro _ _ ⟨e, he, rfl, ⟨hne, _⟩ | ⟨_, xs2, m, hm, hxs2, rfl⟩⟩
          · exact absurd he hne
          obtain rfl : e = 0 := he
          obtain rfl : m = i + 1 := hm
          obtain rfl : xs2 = xs := hxs2.trans hxs.symm
          have hxl : xs2 = layP (layN L vF (i + 1)) := by
            rw [hxs, hws, layN_succ, hcc, hadd, hgD]; unfold layP; rw [List.map_append]; rfl
          have hck' : ∀ j, j < i + 1 → chks (L.getD j []) = 0 := fun j hj => by
            rcases Nat.lt_succ_iff_lt_or_eq.1 hj with h | rfl
            · exact hck j h
            · rw [hgD]; exact hc
          have hend : i + 1 ≤ 20 ∧ i + 1 ≤ N ∧ xs2 = layP (layN L vF (i + 1)) ∧ add1 .i64 (Int.ofNat i) 1 = Int.ofNat (i + 1) ∧ (∀ j, j < i + 1 → chks (L.getD j []) = 0) := ⟨by omega, by omega, hxl, hadd, hck'⟩
          have hmu : N - (i + 1) < N - i := by omega
          cbv
          repeat (first | (refine vcIf.yes ?_ ?_; (focus (simp [hA1.not, hA1.eq, hA1.lt, hA1.le, hA1.cond, hA1.beq, hA1.orb, hL1.len, hL1.slen, hL1.sq]; done)); cbv) | (refine vcIf.no ?_ ?_; (focus (simp [hA1.not, hA1.eq, hA1.lt, hA1.le, hA1.cond, hA1.beq, hA1.orb, hL1.len, hL1.slen, hL1.sq]; done)); cbv) | fail)
          refine hrd _ ⟨(i + 1, xs2, _), _, hmu, hend, rfl, ⟨rfl, rfl, rfl, rfl, rfl, ?_, ?_, trivial⟩, rfl, rfl, rfl, hpB⟩
          · show some (Go.Lx.V.p (.int .i64 _)) = _
            rw [hadd]
          · show some (Go.Lx.V.p (.int .i64 _)) = _
            rw [hadd]
        · have hne : ∀ e : Nat, e = chks ch → ¬ (e : Int) = 0 := fun e h => by omega
          clear hAd
          cbv
          repeat (first | (refine vcIf.yes ?_ ?_; (focus (simp [hA1.not, hA1.eq, hA1.lt, hA1.le, hA1.cond, hA1.beq, hA1.orb, hL1.len, hL1.slen, hL1.sq, hLl, hiN', hi3]; done)); cbv) | (refine vcIf.no ?_ ?_; (focus (simp [hA1.not, hA1.eq, hA1.lt, hA1.le, hA1.cond, hA1.beq, hA1.orb, hL1.len, hL1.slen, hL1.sq, hLl, hiN', hi3]; done)); cbv) | fail)
          refine vcIf.yes (by first | (simp [hA1.not, hA1.eq, hA1.lt, hA1.le, hA1.cond, hA1.beq, hA1.orb, hL1.len, hL1.slen, hL1.sq, hi3]; done) | (simp only [hi3]; simp [hA1.not, hA1.eq, hA1.lt, hA1.le, hA1.cond, hA1.beq, hA1.orb, hL1.len, hL1.slen, hL1.sq, hi3]; done) | (simp [hA1.not, hA1.eq, hA1.lt, hA1.le, hA1.cond, hA1.beq, hA1.orb, hL1.len, hL1.slen, hL1.sq, hi3]; omega) | (simp only [hi3]; simp [hA1.not, hA1.eq, hA1.lt, hA1.le, hA1.cond, hA1.beq, hA1.orb, hL1.len, hL1.slen, hL1.sq, hi3]; omega)) ?_
          cbv
          repeat (first | (refine vcIf.yes ?_ ?_; (focus (simp [hA1.not, hA1.eq, hA1.lt, hA1.le, hA1.cond, hA1.beq, hA1.orb, hL1.len, hL1.slen, hL1.sq]; done)); cbv) | (refine vcIf.no ?_ ?_; (focus (simp [hA1.not, hA1.eq, hA1.lt, hA1.le, hA1.cond, hA1.beq, hA1.orb, hL1.len, hL1.slen, hL1.sq]; done)); cbv) | fail)
          refine ⟨i, .sl cc, rfl, hg, rfl, ?_⟩
          cbv
          refine hcall1 _ _ _ _ _ (CallEv.same hall rfl ?_)
          rintro _ _ ⟨e, he, rfl, rfl⟩
          have hne := hne e he
          cbv
          refine vcIf.yes (by first | (simp [hA1.not, hA1.eq, hA1.lt, hA1.le, hA1.cond, hA1.beq, hA1.orb, hL1.len, hL1.slen, hL1.sq, hne]; done) | (simp only [hne]; simp [hA1.not, hA1.eq, hA1.lt, hA1.le, hA1.cond, hA1.beq, hA1.orb, hL1.len, hL1.slen, hL1.sq, hne]; done) | (simp [hA1.not, hA1.eq, hA1.lt, hA1.le, hA1.cond, hA1.beq, hA1.orb, hL1.len, hL1.slen, hL1.sq, hne]; omega) | (simp only [hne]; simp [hA1.not, hA1.eq, hA1.lt, hA1.le, hA1.cond, hA1.beq, hA1.orb, hL1.len, hL1.slen, hL1.sq, hne]; omega)) ?_
          cbv
          exact hout _ ⟨(i, ws, l0), _, ⟨hi20, hws, hl0, hck⟩, rfl, (by repeat (first | exact trivial | refine And.intro rfl ?_)), rfl, rfl, rfl, hpB⟩
      · intro add1 sub1 mul1 quo1 rem1 band1 bor1 bxor1 bclr1 shl1 shr1 ieq1 ilt1 ile1 seq1 slt1 beq1 bnot1 orb1 bcond1 iwrap1 iof1 ssz1 hA1 cat1 sq1 sl1 imin1 imax1 smin1 smax1 len1 slen1 u81 hL1 op1 hop1 call1 hcall1 code1 hcode1
        cbv
        repeat (first | (refine vcIf.yes ?_ ?_; (focus (simp [hA1.not, hA1.eq, hA1.lt, hA1.le, hA1.cond, hA1.beq, hA1.orb, hL1.len, hL1.slen, hL1.sq, hLl, hiN', hi3]; done)); cbv) | (refine vcIf.no ?_ ?_; (focus (simp [hA1.not, hA1.eq, hA1.lt, hA1.le, hA1.cond, hA1.beq, hA1.orb, hL1.len, hL1.slen, hL1.sq, hLl, hiN', hi3]; done)); cbv) | fail)
        refine vcIf.no (by first | (simp [hA1.not, hA1.eq, hA1.lt, hA1.le, hA1.cond, hA1.beq, hA1.orb, hL1.len, hL1.slen, hL1.sq, hi3]; done) | (simp only [hi3]; simp [hA1.not, hA1.eq, hA1.lt, hA1.le, hA1.cond, hA1.beq, hA1.orb, hL1.len, hL1.slen, hL1.sq, hi3]; done) | (simp [hA1.not, hA1.eq, hA1.lt, hA1.le, hA1.cond, hA1.beq, hA1.orb, hL1.len, hL1.slen, hL1.sq, hi3]; omega) | (simp only [hi3]; simp [hA1.not, hA1.eq, hA1.lt, hA1.le, hA1.cond, hA1.beq, hA1.orb, hL1.len, hL1.slen, hL1.sq, hi3]; omega)) ?_
        cbv
        exact hout _ ⟨(i, ws, l0), _, ⟨hi20, hws, hl0, hck⟩, rfl, (by repeat (first | exact trivial | refine And.intro rfl ?_)), rfl, rfl, rfl, hpB⟩
    · intro add1 sub1 mul1 quo1 rem1 band1 bor1 bxor1 bclr1 shl1 shr1 ieq1 ilt1 ile1 seq1 slt1 beq1 bnot1 orb1 bcond1 iwrap1 iof1 ssz1 hA1 cat1 sq1 sl1 imin1 imax1 smin1 smax1 len1 slen1 u81 hL1 op1 hop1 call1 hcall1 code1 hcode1
      cbv
      repeat (first | (refine vcIf.yes ?_ ?_; (focus (simp [hA1.not, hA1.eq, hA1.lt, hA1.le, hA1.cond, hA1.beq, hA1.orb, hL1.len, hL1.slen, hL1.sq, hLl, hiN']; done)); cbv) | (refine vcIf.no ?_ ?_; (focus (simp [hA1.not, hA1.eq, hA1.lt, hA1.le, hA1.cond, hA1.beq, hA1.orb, hL1.len, hL1.slen, hL1.sq, hLl, hiN']; done)); cbv) | fail)
      exact hout _ ⟨(i, ws, l0), _, ⟨hi20, hws, hl0, hck⟩, rfl, (by repeat (first | exact trivial | refine And.intro rfl ?_)), rfl, rfl, rfl, hpB⟩
  · rintro ⟨n, ws, l0⟩ ⟨hn20, hws, hl0, hck⟩
    dsimp only at hn20 hws hl0 hck
    subst hl0
    have hgM := len_getD hM
    have hs0 : Srt ([] : List Pr) := List.Pairwise.nil
    have hlM : ∀ l ∈ layN L vF n, l.ch.length ≤ 1677721 := fun l hl => by obtain ⟨j, _, rfl⟩ := layN_mem hl; exact hgM j
    have hlc : ∀ l ∈ layN L vF n, chks l.ch = 0 := fun l hl => by obtain ⟨j, hj, rfl⟩ := layN_mem hl; exact hck j hj
    obtain ⟨k, hk⟩ : ∃ k, k = cut % (n + 1) := ⟨_, rfl⟩
    have hkn : k ≤ n := by rw [hk]; exact Nat.le_of_lt_succ (Nat.mod_lt cut (Nat.succ_pos n))
    have hadd : add .i64 (Int.ofNat n) 1 = Int.ofNat (n + 1) := by
      rw [hA.add]; exact i64_nat (by simp) (by omega)
    have hnz : ¬ add .i64 (Int.ofNat n) 1 = 0 := by rw [hadd]; simp only [Int.ofNat_eq_natCast]; omega
    have hrem : ∀ c1, c1 = Int.ofNat cut → rem c1 (add .i64 (Int.ofNat n) 1) = Int.ofNat k := fun c1 h => by
      rw [hadd, h, hA.rem, hk]; rfl
    obtain ⟨kk, hkk'⟩ : ∃ kk, kk = rem (iwrap .i64 (Int.ofNat cut)) (add .i64 (Int.ofNat n) 1) := ⟨_, rfl⟩
    have hkk : rem (iwrap .i64 (Int.ofNat cut)) (add .i64 (Int.ofNat n) 1) = Int.ofNat k := hrem _ (by rw [hA.wrap]; exact i64_nat rfl (by omega))
    have hF := forgetG_spec L n k hkn hM hn20 hck ws hws _ hkk
    have hxd : ws = (ws.drop 0).take n := by rw [List.drop_zero, List.take_of_length_le]; rw [hws, layP_length, layN_length]; exact Nat.le_refl _
    have hQl := fun w (hw : w ≤ n) => listG_spec L n hM hn20 hck w hw lo hi ws hws
    have hF2 := fun us ys m h1 h2 h3 => forgetF_spec L n k hkn hM hn20 hck us ys m h1 h2 h3 _ hadd
    have hPlK := fun us ys h1 h2 w (hw : w ≤ n) => listF_spec L n k hkn hM hn20 hck w hw lo hi us ys h1 h2
    cbv
    refine ⟨(), hnz, ?_⟩
    cbv
    refine hcall _ _ _ _ _ (CallEv.lend [1, 2] hF rfl (.cons (.own 0 1 0 rfl) (.cons (.p _) .nil)) (psL rfl rfl rfl rfl) ?_)
    rintro _ _ ⟨rfl, ⟨hk0, rfl⟩ | ⟨hk0, us, ys, m, hus, hm, hys, rfl⟩⟩
    · have hk00 : Int.ofNat k = 0 := by rw [hk0]; rfl
      have hn0 : ws = layP ((layN L vF n).drop (upto (layN L vF n) (Int.ofNat k))) := by
        rw [hk0, layF_whole L (Nat.zero_le n), List.drop_zero]; exact hws
      have hn1 : ([] : List PV) = prP (whole [] (layN L vF n) (Int.ofNat k)) := by
        rw [hk0]; unfold whole; rw [layF_whole L (Nat.zero_le n)]; rfl
      have hF3 := hF2 [] ws n hn1 hn0 (by rw [hk0]; rfl)
      have hPl := hPlK [] ws hn1 hn0
      rw [hk00] at hF3 hPl
      clear hF hF2 hPlK hn0 hn1 hk00
      cbv
      repeat (first | (refine vcIf.yes ?_ ?_; (focus (simp [hA.not, hA.eq, hA.lt, hA.le, hA.cond, hA.beq, hA.orb, hL.len, hL.slen, hL.sq]; done)); cbv) | (refine vcIf.no ?_ ?_; (focus (simp [hA.not, hA.eq, hA.lt, hA.le, hA.cond, hA.beq, hA.orb, hL.len, hL.slen, hL.sq]; done)); cbv) | fail)
      refine hcall _ _ _ _ _ (CallEv.lend [1, 2] hF3 rfl (.cons (.own 0 1 0 rfl) (.cons (.p _) .nil)) (psL rfl rfl rfl rfl) ?_)
      rintro _ _ ⟨rfl, rfl⟩
      cbv
      repeat (first | (refine vcIf.yes ?_ ?_; (focus (simp [hA.not, hA.eq, hA.lt, hA.le, hA.cond, hA.beq, hA.orb, hL.len, hL.slen, hL.sq]; done)); cbv) | (refine vcIf.no ?_ ?_; (focus (simp [hA.not, hA.eq, hA.lt, hA.le, hA.cond, hA.beq, hA.orb, hL.len, hL.slen, hL.sq]; done)); cbv) | fail)
      refine hcode _ _ _ (CodeEv.loop eOk fOk (ι := Nat) (fun s => [(4, .own 0 0), (7, .own 1 0), (8, .own 3 0), (9, .p (.int .i64 (Int.ofNat n))), (11, .p (.int .i64 (Int.ofNat k))), (12, .p (.int .i64 (Int.ofNat s)))])
        (fun s => [.st 24 [.p (.str lo), .p (.str hi)], .st 64 [.p (.int .i64 0), .p (.sl []), .vw 2 2 0 n none, .p (.int .i64 0), .p (.int .i64 (Int.ofNat n))], psA ws, .st 64 [.p (.int .i64 0), .p (.sl []), .vw 4 2 0 n none, .p (.int .i64 0), .p (.int .i64 (Int.ofNat n))], psA ws]) (fun s => s ≤ n + 1) (fun s => n + 1 - s) 0 ?_ ?_)
      · refine ⟨⟨rfl, rfl, rfl, rfl, ?_, rfl, trivial⟩, ?_, Nat.zero_le _⟩
        · show some (Go.Lx.V.p (.int .i64 _)) = _
          rw [hkk]
        · first | rfl | (show [_, _, _, _, _, _] = _; rw [hkk])
      rintro w hw rd hrd
      have hpB : ∀ m, B.own0.length ≤ m := fun m => by rw [hB]; exact Nat.zero_le _
      by_cases hwn : w ≤ n
      · have hPl := hPl w hwn
        have hQl := hQl w hwn
        refine Exists.elim (show ∃ Y, Y = shF L n w ⟨lo, hi⟩ from ⟨_, rfl⟩) fun Y hY => ?_
        have hYn : Y.length < 281474976710656 := by rw [hY]; exact lst_len
        rw [← hY] at hPl hQl
        have hmu : n + 1 - (w + 1) < n + 1 - w := by omega
        have hw1 : w + 1 ≤ n + 1 := by omega
        by_cases hwk : w < k
        · have hkw : ¬ k ≤ w := by omega
          rw [if_pos hwk, if_pos hwk] at hPl
          intro add1 sub1 mul1 quo1 rem1 band1 bor1 bxor1 bclr1 shl1 shr1 ieq1 ilt1 ile1 seq1 slt1 beq1 bnot1 orb1 bcond1 iwrap1 iof1 ssz1 hA1 cat1 sq1 sl1 imin1 imax1 smin1 smax1 len1 slen1 u81 hL1 op1 hop1 call1 hcall1 code1 hcode1
          have hinc : add1 .i64 (Int.ofNat w) 1 = Int.ofNat (w + 1) := by rw [hA1.add]; exact i64_nat (by simp) (by omega)
          cbv
          refine vcIf.yes (by first | (simp [hA1.not, hA1.eq, hA1.lt, hA1.le, hA1.cond, hA1.beq, hA1.orb, hL1.len, hL1.slen, hL1.sq, hwn]; done) | (simp only [hwn]; simp [hA1.not, hA1.eq, hA1.lt, hA1.le, hA1.cond, hA1.beq, hA1.orb, hL1.len, hL1.slen, hL1.sq, hwn]; done) | (simp [hA1.not, hA1.eq, hA1.lt, hA1.le, hA1.cond, hA1.beq, hA1.orb, hL1.len, hL1.slen, hL1.sq, hwn]; omega) | (simp only [hwn]; simp [hA1.not, hA1.eq, hA1.lt, hA1.le, hA1.cond, hA1.beq, hA1.orb, hL1.len, hL1.slen, hL1.sq, hwn]; omega)) ?_
          cbv
          refine hcall1 _ _ _ _ _ (CallEv.frzR (CallEv.shown [] [1, 2] hPl rfl (.cons (psT (by decide) (by decide) rfl rfl _ hxd) (.cons (.p _) (.cons (.p _) (.cons (.p _) .nil)))) trivial ?_))
          rintro _ _ ⟨u1, k1, hu1, hk1, rfl, rfl⟩
          refine ⟨flat_l1 (e := 7), flat_l2 hu1, 5, _, _, _, rfl, hpB _, fun g1 hg1 => ?_⟩
          cbv
          refine hcall1 _ _ _ _ _ (CallEv.frzR (CallEv.shown [] [3, 4] hQl rfl (.cons (psT (by decide) (by decide) rfl rfl _ hxd) (.cons (.p _) (.cons (.p _) (.cons (.p _) .nil)))) trivial ?_))
          rintro _ _ ⟨u2, k2, hu2, hk2, rfl, rfl⟩
          refine ⟨flat_l1 (e := 0), flat_l2 hu2, 5 + 1, _, _, _, rfl, hpB _, fun g2 hg2 => ?_⟩
          cbv
          repeat (first | (refine vcIf.yes ?_ ?_; (focus (simp [hA1.not, hA1.eq, hA1.lt, hA1.le, hA1.cond, hA1.beq, hA1.orb, hL1.len, hL1.slen, hL1.sq, hwk, hkw]; done)); cbv) | (refine vcIf.no ?_ ?_; (focus (simp [hA1.not, hA1.eq, hA1.lt, hA1.le, hA1.cond, hA1.beq, hA1.orb, hL1.len, hL1.slen, hL1.sq, hwk, hkw]; done)); cbv) | fail)
          refine hrd _ ⟨w + 1, _, hmu, hw1, rfl, ⟨rfl, rfl, rfl, rfl, rfl, ?_, trivial⟩, rfl, rfl, rfl, hpB _⟩
          · show some (Go.Lx.V.p (.int .i64 _)) = _
            rw [hinc]
        · have hkw : k ≤ w := by omega
          rw [if_neg hwk, if_neg hwk] at hPl
          intro add1 sub1 mul1 quo1 rem1 band1 bor1 bxor1 bclr1 shl1 shr1 ieq1 ilt1 ile1 seq1 slt1 beq1 bnot1 orb1 bcond1 iwrap1 iof1 ssz1 hA1 cat1 sq1 sl1 imin1 imax1 smin1 smax1 len1 slen1 u81 hL1 op1 hop1 call1 hcall1 code1 hcode1
          have hinc : add1 .i64 (Int.ofNat w) 1 = Int.ofNat (w + 1) := by rw [hA1.add]; exact i64_nat (by simp) (by omega)
          cbv
          refine vcIf.yes (by first | (simp [hA1.not, hA1.eq, hA1.lt, hA1.le, hA1.cond, hA1.beq, hA1.orb, hL1.len, hL1.slen, hL1.sq, hwn]; done) | (simp only [hwn]; simp [hA1.not, hA1.eq, hA1.lt, hA1.le, hA1.cond, hA1.beq, hA1.orb, hL1.len, hL1.slen, hL1.sq, hwn]; done) | (simp [hA1.not, hA1.eq, hA1.lt, hA1.le, hA1.cond, hA1.beq, hA1.orb, hL1.len, hL1.slen, hL1.sq, hwn]; omega) | (simp only [hwn]; simp [hA1.not, hA1.eq, hA1.lt, hA1.le, hA1.cond, hA1.beq, hA1.orb, hL1.len, hL1.slen, hL1.sq, hwn]; omega)) ?_
          cbv
          refine hcall1 _ _ _ _ _ (CallEv.frzR (CallEv.shown [] [1, 2] hPl rfl (.cons (psT (by decide) (by decide) rfl rfl _ hxd) (.cons (.p _) (.cons (.p _) (.cons (.p _) .nil)))) trivial ?_))
          rintro _ _ ⟨u1, k1, hu1, hk1, rfl, rfl⟩
          refine ⟨flat_l1 (e := 0), flat_l2 hu1, 5, _, _, _, rfl, hpB _, fun g1 hg1 => ?_⟩
          have hz1 : g1 0 k1 = prP Y := by rw [hg1, List.drop_zero, hk1, List.take_length, hu1]
          cbv
          refine hcall1 _ _ _ _ _ (CallEv.frzR (CallEv.shown [] [3, 4] hQl rfl (.cons (psT (by decide) (by decide) rfl rfl _ hxd) (.cons (.p _) (.cons (.p _) (.cons (.p _) .nil)))) trivial ?_))
          rintro _ _ ⟨u2, k2, hu2, hk2, rfl, rfl⟩
          refine ⟨flat_l1 (e := 0), flat_l2 hu2, 5 + 1, _, _, _, rfl, hpB _, fun g2 hg2 => ?_⟩
          have hz2 : g2 0 k2 = prP Y := by rw [hg2, List.drop_zero, hk2, List.take_length, hu2]
          have hpr := rPairs_spec Y Y hYn hYn true ⟨fun _ => rfl, fun _ => rfl⟩ (g1 0 k1) (g2 0 k2) hz1 hz2
          cbv
          repeat (first | (refine vcIf.yes ?_ ?_; (focus (simp [hA1.not, hA1.eq, hA1.lt, hA1.le, hA1.cond, hA1.beq, hA1.orb, hL1.len, hL1.slen, hL1.sq, hwk, hkw]; done)); cbv) | (refine vcIf.no ?_ ?_; (focus (simp [hA1.not, hA1.eq, hA1.lt, hA1.le, hA1.cond, hA1.beq, hA1.orb, hL1.len, hL1.slen, hL1.sq, hwk, hkw]; done)); cbv) | fail)
          refine hcall1 _ _ _ _ _ (CallEv.same hpr rfl ?_)
          rintro _ _ ⟨rfl, rfl⟩
          cbv
          repeat (first | (refine vcIf.yes ?_ ?_; (focus (simp [hA1.not, hA1.eq, hA1.lt, hA1.le, hA1.cond, hA1.beq, hA1.orb, hL1.len, hL1.slen, hL1.sq, hwk, hkw]; done)); cbv) | (refine vcIf.no ?_ ?_; (focus (simp [hA1.not, hA1.eq, hA1.lt, hA1.le, hA1.cond, hA1.beq, hA1.orb, hL1.len, hL1.slen, hL1.sq, hwk, hkw]; done)); cbv) | fail)
          refine hrd _ ⟨w + 1, _, hmu, hw1, rfl, ⟨rfl, rfl, rfl, rfl, rfl, ?_, trivial⟩, rfl, rfl, rfl, hpB _⟩
          · show some (Go.Lx.V.p (.int .i64 _)) = _
            rw [hinc]
      · intro add1 sub1 mul1 quo1 rem1 band1 bor1 bxor1 bclr1 shl1 shr1 ieq1 ilt1 ile1 seq1 slt1 beq1 bnot1 orb1 bcond1 iwrap1 iof1 ssz1 hA1 cat1 sq1 sl1 imin1 imax1 smin1 smax1 len1 slen1 u81 hL1 op1 hop1 call1 hcall1 code1 hcode1
        cbv
        refine vcIf.no (by first | (simp [hA1.not, hA1.eq, hA1.lt, hA1.le, hA1.cond, hA1.beq, hA1.orb, hL1.len, hL1.slen, hL1.sq, hwn]; done) | (simp only [hwn]; simp [hA1.not, hA1.eq, hA1.lt, hA1.le, hA1.cond, hA1.beq, hA1.orb, hL1.len, hL1.slen, hL1.sq, hwn]; done) | (simp [hA1.not, hA1.eq, hA1.lt, hA1.le, hA1.cond, hA1.beq, hA1.orb, hL1.len, hL1.slen, hL1.sq, hwn]; omega) | (simp only [hwn]; simp [hA1.not, hA1.eq, hA1.lt, hA1.le, hA1.cond, hA1.beq, hA1.orb, hL1.len, hL1.slen, hL1.sq, hwn]; omega)) ?_
        cbv
        repeat (first | (refine vcIf.yes ?_ ?_; (focus (simp [hA.not, hA.eq, hA.lt, hA.le, hA.cond, hA.beq, hA.orb, hL.len, hL.slen, hL.sq]; done)); cbv) | (refine vcIf.no ?_ ?_; (focus (simp [hA.not, hA.eq, hA.lt, hA.le, hA.cond, hA.beq, hA.orb, hL.len, hL.slen, hL.sq]; done)); cbv) | fail)
        exact hret _ (RetEv.ret eOk rfl (by simp [hA.not, hA.eq, hA.lt, hA.le, hA.cond, hA.beq, hA.orb, hL.len, hL.slen, hL.sq, oneOf]))
    · have hF3 := hF2 us ys m hus hys hm
      have hPl := hPlK us ys hus hys
      rw [← hkk] at hF3
      have hyd : ys = (ys.drop 0).take m := by rw [List.drop_zero, List.take_of_length_le]; rw [hys, layP_length, List.length_drop, layN_length, layF_whole L hkn, hm]; exact Nat.le_refl _
      clear hF hF2 hPlK
      cbv
      repeat (first | (refine vcIf.yes ?_ ?_; (focus (simp [hA.not, hA.eq, hA.lt, hA.le, hA.cond, hA.beq, hA.orb, hL.len, hL.slen, hL.sq]; done)); cbv) | (refine vcIf.no ?_ ?_; (focus (simp [hA.not, hA.eq, hA.lt, hA.le, hA.cond, hA.beq, hA.orb, hL.len, hL.slen, hL.sq]; done)); cbv) | fail)
      refine hcall _ _ _ _ _ (CallEv.lend [1, 5] hF3 rfl (.cons (.own 0 1 0 rfl) (.cons (.p _) .nil)) (psL rfl rfl rfl rfl) ?_)
      rintro _ _ ⟨rfl, rfl⟩
      cbv
      repeat (first | (refine vcIf.yes ?_ ?_; (focus (simp [hA.not, hA.eq, hA.lt, hA.le, hA.cond, hA.beq, hA.orb, hL.len, hL.slen, hL.sq]; done)); cbv) | (refine vcIf.no ?_ ?_; (focus (simp [hA.not, hA.eq, hA.lt, hA.le, hA.cond, hA.beq, hA.orb, hL.len, hL.slen, hL.sq]; done)); cbv) | fail)
      refine hcode _ _ _ (CodeEv.loop eOk fOk (ι := Nat) (fun s => [(4, .own 0 0), (7, .own 1 0), (8, .own 3 0), (9, .p (.int .i64 (Int.ofNat n))), (11, .p (.int .i64 (Int.ofNat k))), (12, .p (.int .i64 (Int.ofNat s)))])
        (fun s => [.st 24 [.p (.str lo), .p (.str hi)], .st 64 [.p (.int .i64 (Int.ofNat k)), .p (.sl us), .vw 5 2 0 m none, .p (.int .i64 (Int.ofNat k)), .p (.int .i64 (Int.ofNat n))], psA ws, .st 64 [.p (.int .i64 0), .p (.sl []), .vw 4 2 0 n none, .p (.int .i64 0), .p (.int .i64 (Int.ofNat n))], psA ws, psA ys]) (fun s => s ≤ n + 1) (fun s => n + 1 - s) 0 ?_ ?_)
      · refine ⟨⟨rfl, rfl, rfl, rfl, ?_, rfl, trivial⟩, ?_, Nat.zero_le _⟩
        · show some (Go.Lx.V.p (.int .i64 _)) = _
          rw [hkk]
        · first | rfl | (show [_, _, _, _, _, _] = _; rw [hkk])
      rintro w hw rd hrd
      have hpB : ∀ m, B.own0.length ≤ m := fun m => by rw [hB]; exact Nat.zero_le _
      by_cases hwn : w ≤ n
      · have hPl := hPl w hwn
        have hQl := hQl w hwn
        refine Exists.elim (show ∃ Y, Y = shF L n w ⟨lo, hi⟩ from ⟨_, rfl⟩) fun Y hY => ?_
        have hYn : Y.length < 281474976710656 := by rw [hY]; exact lst_len
        rw [← hY] at hPl hQl
        have hmu : n + 1 - (w + 1) < n + 1 - w := by omega
        have hw1 : w + 1 ≤ n + 1 := by omega
        by_cases hwk : w < k
        · have hkw : ¬ k ≤ w := by omega
          rw [if_pos hwk, if_pos hwk] at hPl
          intro add1 sub1 mul1 quo1 rem1 band1 bor1 bxor1 bclr1 shl1 shr1 ieq1 ilt1 ile1 seq1 slt1 beq1 bnot1 orb1 bcond1 iwrap1 iof1 ssz1 hA1 cat1 sq1 sl1 imin1 imax1 smin1 smax1 len1 slen1 u81 hL1 op1 hop1 call1 hcall1 code1 hcode1
          have hinc : add1 .i64 (Int.ofNat w) 1 = Int.ofNat (w + 1) := by rw [hA1.add]; exact i64_nat (by simp) (by omega)
          cbv
          refine vcIf.yes (by first | (simp [hA1.not, hA1.eq, hA1.lt, hA1.le, hA1.cond, hA1.beq, hA1.orb, hL1.len, hL1.slen, hL1.sq, hwn]; done) | (simp only [hwn]; simp [hA1.not, hA1.eq, hA1.lt, hA1.le, hA1.cond, hA1.beq, hA1.orb, hL1.len, hL1.slen, hL1.sq, hwn]; done) | (simp [hA1.not, hA1.eq, hA1.lt, hA1.le, hA1.cond, hA1.beq, hA1.orb, hL1.len, hL1.slen, hL1.sq, hwn]; omega) | (simp only [hwn]; simp [hA1.not, hA1.eq, hA1.lt, hA1.le, hA1.cond, hA1.beq, hA1.orb, hL1.len, hL1.slen, hL1.sq, hwn]; omega)) ?_
          cbv
          refine hcall1 _ _ _ _ _ (CallEv.frzR (CallEv.shown [] [1, 5] hPl rfl (.cons (psT (by decide) (by decide) rfl rfl _ hyd) (.cons (.p _) (.cons (.p _) (.cons (.p _) .nil)))) trivial ?_))
          rintro _ _ ⟨u1, k1, hu1, hk1, rfl, rfl⟩
          refine ⟨flat_l1 (e := 7), flat_l2 hu1, 6, _, _, _, rfl, hpB _, fun g1 hg1 => ?_⟩
          cbv
          refine hcall1 _ _ _ _ _ (CallEv.frzR (CallEv.shown [] [3, 4] hQl rfl (.cons (psT (by decide) (by decide) rfl rfl _ hxd) (.cons (.p _) (.cons (.p _) (.cons (.p _) .nil)))) trivial ?_))
          rintro _ _ ⟨u2, k2, hu2, hk2, rfl, rfl⟩
          refine ⟨flat_l1 (e := 0), flat_l2 hu2, 6 + 1, _, _, _, rfl, hpB _, fun g2 hg2 => ?_⟩
          cbv
          repeat (first | (refine vcIf.yes ?_ ?_; (focus (simp [hA1.not, hA1.eq, hA1.lt, hA1.le, hA1.cond, hA1.beq, hA1.orb, hL1.len, hL1.slen, hL1.sq, hwk, hkw]; done)); cbv) | (refine vcIf.no ?_ ?_; (focus (simp [hA1.not, hA1.eq, hA1.lt, hA1.le, hA1.cond, hA1.beq, hA1.orb, hL1.len, hL1.slen, hL1.sq, hwk, hkw]; done)); cbv) | fail)
          refine hrd _ ⟨w + 1, _, hmu, hw1, rfl, ⟨rfl, rfl, rfl, rfl, rfl, ?_, trivial⟩, rfl, rfl, rfl, hpB _⟩
          · show some (Go.Lx.V.p (.int .i64 _)) = _
            rw [hinc]
        · have hkw : k ≤ w := by omega
          rw [if_neg hwk, if_neg hwk] at hPl
          intro add1 sub1 mul1 quo1 rem1 band1 bor1 bxor1 bclr1 shl1 shr1 ieq1 ilt1 ile1 seq1 slt1 beq1 bnot1 orb1 bcond1 iwrap1 iof1 ssz1 hA1 cat1 sq1 sl1 imin1 imax1 smin1 smax1 len1 slen1 u81 hL1 op1 hop1 call1 hcall1 code1 hcode1
          have hinc : add1 .i64 (Int.ofNat w) 1 = Int.ofNat (w + 1) := by rw [hA1.add]; exact i64_nat (by simp) (by omega)
          cbv
          refine vcIf.yes (by first | (simp [hA1.not, hA1.eq, hA1.lt, hA1.le, hA1.cond, hA1.beq, hA1.orb, hL1.len, hL1.slen, hL1.sq, hwn]; done) | (simp only [hwn]; simp [hA1.not, hA1.eq, hA1.lt, hA1.le, hA1.cond, hA1.beq, hA1.orb, hL1.len, hL1.slen, hL1.sq, hwn]; done) | (simp [hA1.not, hA1.eq, hA1.lt, hA1.le, hA1.cond, hA1.beq, hA1.orb, hL1.len, hL1.slen, hL1.sq, hwn]; omega) | (simp only [hwn]; simp [hA1.not, hA1.eq, hA1.lt, hA1.le, hA1.cond, hA1.beq, hA1.orb, hL1.len, hL1.slen, hL1.sq, hwn]; omega)) ?_
          cbv
          refine hcall1 _ _ _ _ _ (CallEv.frzR (CallEv.shown [] [1, 5] hPl rfl (.cons (psT (by decide) (by decide) rfl rfl _ hyd) (.cons (.p _) (.cons (.p _) (.cons (.p _) .nil)))) trivial ?_))
          rintro _ _ ⟨u1, k1, hu1, hk1, rfl, rfl⟩
          refine ⟨flat_l1 (e := 0), flat_l2 hu1, 6, _, _, _, rfl, hpB _, fun g1 hg1 => ?_⟩
          have hz1 : g1 0 k1 = prP Y := by rw [hg1, List.drop_zero, hk1, List.take_length, hu1]
          cbv
          refine hcall1 _ _ _ _ _ (CallEv.frzR (CallEv.shown [] [3, 4] hQl rfl (.cons (psT (by decide) (by decide) rfl rfl _ hxd) (.cons (.p _) (.cons (.p _) (.cons (.p _) .nil)))) trivial ?_))
          rintro _ _ ⟨u2, k2, hu2, hk2, rfl, rfl⟩
          refine ⟨flat_l1 (e := 0), flat_l2 hu2, 6 + 1, _, _, _, rfl, hpB _, fun g2 hg2 => ?_⟩
          have hz2 : g2 0 k2 = prP Y := by rw [hg2, List.drop_zero, hk2, List.take_length, hu2]
          have hpr := rPairs_spec Y Y hYn hYn true ⟨fun _ => rfl, fun _ => rfl⟩ (g1 0 k1) (g2 0 k2) hz1 hz2
          cbv
          repeat (first | (refine vcIf.yes ?_ ?_; (focus (simp [hA1.not, hA1.eq, hA1.lt, hA1.le, hA1.cond, hA1.beq, hA1.orb, hL1.len, hL1.slen, hL1.sq, hwk, hkw]; done)); cbv) | (refine vcIf.no ?_ ?_; (focus (simp [hA1.not, hA1.eq, hA1.lt, hA1.le, hA1.cond, hA1.beq, hA1.orb, hL1.len, hL1.slen, hL1.sq, hwk, hkw]; done)); cbv) | fail)
          refine hcall1 _ _ _ _ _ (CallEv.same hpr rfl ?_)
          rintro _ _ ⟨rfl, rfl⟩
          cbv
          repeat (first | (refine vcIf.yes ?_ ?_; (focus (simp [hA1.not, hA1.eq, hA1.lt, hA1.le, hA1.cond, hA1.beq, hA1.orb, hL1.len, hL1.slen, hL1.sq, hwk, hkw]; done)); cbv) | (refine vcIf.no ?_ ?_; (focus (simp [hA1.not, hA1.eq, hA1.lt, hA1.le, hA1.cond, hA1.beq, hA1.orb, hL1.len, hL1.slen, hL1.sq, hwk, hkw]; done)); cbv) | fail)
          refine hrd _ ⟨w + 1, _, hmu, hw1, rfl, ⟨rfl, rfl, rfl, rfl, rfl, ?_, trivial⟩, rfl, rfl, rfl, hpB _⟩
          · show some (Go.Lx.V.p (.int .i64 _)) = _
            rw [hinc]
      · intro add1 sub1 mul1 quo1 rem1 band1 bor1 bxor1 bclr1 shl1 shr1 ieq1 ilt1 ile1 seq1 slt1 beq1 bnot1 orb1 bcond1 iwrap1 iof1 ssz1 hA1 cat1 sq1 sl1 imin1 imax1 smin1 smax1 len1 slen1 u81 hL1 op1 hop1 call1 hcall1 code1 hcode1
        cbv
        refine vcIf.no (by first | (simp [hA1.not, hA1.eq, hA1.lt, hA1.le, hA1.cond, hA1.beq, hA1.orb, hL1.len, hL1.slen, hL1.sq, hwn]; done) | (simp only [hwn]; simp [hA1.not, hA1.eq, hA1.lt, hA1.le, hA1.cond, hA1.beq, hA1.orb, hL1.len, hL1.slen, hL1.sq, hwn]; done) | (simp [hA1.not, hA1.eq, hA1.lt, hA1.le, hA1.cond, hA1.beq, hA1.orb, hL1.len, hL1.slen, hL1.sq, hwn]; omega) | (simp only [hwn]; simp [hA1.not, hA1.eq, hA1.lt, hA1.le, hA1.cond, hA1.beq, hA1.orb, hL1.len, hL1.slen, hL1.sq, hwn]; omega)) ?_
        cbv
        repeat (first | (refine vcIf.yes ?_ ?_; (focus (simp [hA.not, hA.eq, hA.lt, hA.le, hA.cond, hA.beq, hA.orb, hL.len, hL.slen, hL.sq]; done)); cbv) | (refine vcIf.no ?_ ?_; (focus (simp [hA.not, hA.eq, hA.lt, hA.le, hA.cond, hA.beq, hA.orb, hL.len, hL.slen, hL.sq]; done)); cbv) | fail)
        exact hret _ (RetEv.ret eOk rfl (by simp [hA.not, hA.eq, hA.lt, hA.le, hA.cond, hA.beq, hA.orb, hL.len, hL.slen, hL.sq, oneOf]))
end Go.Proofs.Ytdeolllpbflemaa
