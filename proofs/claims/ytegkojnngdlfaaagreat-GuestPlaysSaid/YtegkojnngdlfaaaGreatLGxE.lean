/- Guest: GuestPlays. Conditions: on sizes. -/
import Derived.Test.YtegkojnngdlfaaaGreatLGxD
set_option maxRecDepth 100000
set_option maxHeartbeats 32000000
set_option linter.unusedSimpArgs false
set_option linter.unusedVariables false
namespace Go.Proofs.YtegkojnngdlfaaaGreat
open Go Go.Lx
open Go.Sx (vcIf)
structure Stp where
  what : Int
  n : Int
  key : List UInt8
  a : List UInt8
  b : List UInt8
  c : Chg
def Stp.v (s : Stp) : PV := stp s.what s.n s.key s.a s.b s.c.kind s.c.key s.c.val
def Stp.fit (s : Stp) : Prop := s.key.length < 140737488355328 ∧ s.a.length < 140737488355328 ∧ s.b.length < 140737488355328 ∧ s.c.fit
abbrev gmP (c : Int) (g : Gq) (nt : Nat) (xt ws : List PV) : List Res :=
  [.st 63 [.p (.int .i64 1), .p (.int .i64 1), .p (.int .i64 g.c3), .p (.int .i64 2), .p (.int .i64 1), .p (.int .i64 1), .p (.int .i64 100), .p (.int .i64 g.fr), .p (.int .i64 g.hd), .p (.int .i64 g.qn), .p (.int .i64 g.wt), .p (.int .i64 g.tk),
    .p (.int .i64 0), .p (.int .i64 0), .p (.int .i64 0), .p (.int .i64 g.dr), .p (.int .i64 g.dO), .p (.int .i64 g.dv), .vw 4 4 0 g.n1 none, .vw 5 3 0 g.n2 none, .p (.bool g.bg), .vw 6 2 0 g.n3 none, .p (.str g.lo), .p (.str g.hi), .vw 7 1 g.o4 g.n4 none, .vw 8 2 0 g.n5 none, .vw 9 8 0 g.n6 none, .p (.int .i64 g.ep), .p (.int .i64 g.sv)],
   .st 133 [.vw 2 2 0 2 none, .p (.int .i64 10), .p (.int .i64 30)], rpA ws,
   .st 89 [.own 0 0, .own 1 0, .p (.int .i64 1), .p (.int .i64 1), .p (.int .i64 c), .p (.int .i64 2), .p (.int .i64 1), .p (.int .i64 1), .vw 10 3 0 nt none],
   .arr 81 4 g.x1, .arr 25 3 g.x2, .arr 38 2 g.x3, .arr 3 1 g.x4, .arr 84 2 g.x5, msA g.x6, .arr 74 3 xt]
def g00 (k : Nat) : Gq := ⟨Int.ofNat k, 60, 0, 0, 0, 0, 0, 0, 0, 0, 0, false, 0, [], [], 0, 0, 0, 0, 0, 0, [], [], [], [], [], []⟩
theorem inv00 (k : Nat) : Inv21 k 0 (g00 k) 0 [] :=
  ⟨[], [], ⟨rfl, .inl rfl, Int.le_refl _, Int.le_refl _, rfl, Int.le_refl _, rfl, rfl, fun i s h => by simp at h, rfl, rfl, by decide, rfl, rfl, by decide, by simp, rfl⟩, .none rfl rfl rfl rfl⟩
theorem guestPlays_spec (sh : Nat) (hsh : sh < 256) (l : List Stp) (hl : ∀ s ∈ l, s.fit) (zs : List PV) (hzs : zs = l.map Stp.v) :
    FnL Tryz.prog 4 [.p (.int .u8 (sh : Int)), .p (.sl zs)] [] fun z own => z = .p (.bool true) ∧ own = [] := by
  refine FnL.flat (R := fun z own => z = .p (.bool true)) ?_ (fun v own' h => ⟨_, _, h, .refl _, rfl, rfl⟩)
  obtain ⟨k, hkd⟩ : ∃ k, k = 1 + sh % 4 := ⟨_, rfl⟩
  have hk : 1 ≤ k ∧ k ≤ 4 := by omega
  have hbg := gmBegin_spec (Int.ofNat k) (by simp only [Int.ofNat_eq_natCast]; omega)
  have hinv := inv00 k
  obtain ⟨M, hM⟩ : ∃ M, M = l.length := ⟨_, rfl⟩
  have hzl : zs.length = M := by rw [hzs, List.length_map, hM]
  refine fn_of_vc eOk fOk fo4 Tryz.func4 rfl rfl rfl fun B hB => ?_
  intro add _ _ _ rem _ _ _ _ _ _ _ _ _ _ _ _ _ _ _ iwrap _ _ hA _ _ sl _ _ _ _ len _ u8 hL _ _ _ hcall _ hcode ret hret
  have hkv : add .i64 1 (iwrap .i64 (rem (Int.ofNat sh) (Int.ofNat 4))) = Int.ofNat k := by
    rw [hA.rem, show (Int.ofNat sh).tmod (Int.ofNat 4) = Int.ofNat (sh % 4) from rfl, hA.wrap, IntWalk.i64_in _ (by simp only [Int.ofNat_eq_natCast]; omega), hA.add, IntWalk.i64_in _ (by simp only [Int.ofNat_eq_natCast]; omega), hkd]
    simp only [Int.ofNat_eq_natCast]; omega
  cbv
  rw [hkv]
  refine hcall _ _ _ _ _ (CallEv.same hbg rfl ?_)
  rintro _ _ ⟨ws, hws, rfl, rfl⟩
  have hstep := fun {N : Int} (hN : 0 ≤ N ∧ N ≤ 890) {g : Gq} {nt : Nat} {xt : List PV} (hI : Inv21 k N g nt xt) (s : Stp) (hf : s.fit) => stepAll k hk ws hws hN hI s.what s.n s.key s.a s.b s.c hf.1 hf.2.1 hf.2.2.1 hf.2.2.2
  clear hws hkv
  cbv
  repeat (first | (refine vcIf.yes ?_ ?_; (focus (simp [smW hA hL]; done)); cbv) | (refine vcIf.no ?_ ?_; (focus (simp [smW hA hL]; done)); cbv))
  refine hcall _ _ _ _ _ (CallEv.convE ((ConvE.hollowC 0 18 81 4 (by decide) rfl rfl).trans ((ConvE.hollowC 0 19 25 3 (by decide) rfl rfl).trans ((ConvE.hollowC 0 21 38 2 (by decide) rfl rfl).trans
    ((ConvE.hollowC 0 24 3 1 (by decide) rfl rfl).trans ((ConvE.hollowC 0 25 84 2 (by decide) rfl rfl).trans ((ConvE.hollowC 0 26 28 8 (by decide) rfl rfl).trans (ConvE.hollowC 3 8 74 3 (by decide) rfl rfl))))))) (CallEv.pure awake21_spec .nil ?_))
  rintro _ _ ⟨rfl, rfl⟩
  cbv
  repeat (first | (refine vcIf.yes ?_ ?_; (focus (simp [smW hA hL]; done)); cbv) | (refine vcIf.no ?_ ?_; (focus (simp [smW hA hL]; done)); cbv))
  refine hcode _ _ _ (CodeEv.loop eOk fOk (ι := Nat × Gq × Nat × List PV) (fun q => [(1, .p (.sl zs)), (5, .own 3 0), (6, .p (.int .i64 (Int.ofNat q.1)))])
    (fun q => gmP (Int.ofNat k) q.2.1 q.2.2.1 q.2.2.2 ws) (fun q => q.1 ≤ 80 ∧ Inv21 k (10 * (q.1 : Int)) q.2.1 q.2.2.1 q.2.2.2) (fun q => 80 - q.1) (0, g00 k, 0, []) ?_ ?_)
  · exact ⟨(by repeat (first | exact trivial | refine And.intro rfl ?_)), rfl, Nat.zero_le _, hinv⟩
  rintro ⟨i, g, nt, xt⟩ ⟨h1, h2⟩ rd hrd
  simp only at h1 h2
  by_cases hi : i < M
  rotate_left
  · obtain ⟨c3, fr, hd, qn, wt, tk, dr, dO, dv, n1, n2, bg, n3, lo0, hi0, o4, n4, n5, n6, ep, sv, x1, x2, x3, x4, x5, x6⟩ := g
    intro add1 sub1 mul1 quo1 rem1 band1 bor1 bxor1 bclr1 shl1 shr1 ieq1 ilt1 ile1 seq1 slt1 beq1 bnot1 orb1 bcond1 iwrap1 iof1 ssz1 hA1 cat1 sq1 sl1 imin1 imax1 smin1 smax1 len1 slen1 u81 hL1 op1 hop1 call1 hcall1 code1 hcode1
    have hcc : ilt1 (Int.ofNat i) (len1 zs) = false := by rw [hA1.lt, hL1.len, hzl]; exact decide_eq_false (fun h => hi (Int.ofNat_lt.1 h))
    cbv
    rw [hcc]
    cbv
    repeat (first | (refine vcIf.yes ?_ ?_; (focus (simp [smW hA1 hL1]; done)); cbv) | (refine vcIf.no ?_ ?_; (focus (simp [smW hA1 hL1]; done)); cbv))
    exact hret _ (RetEv.ret eOk rfl rfl)
  have hst := fun s hs (h80 : i < 80) => hstep (N := 10 * (i : Int)) ⟨by omega, by omega⟩ h2 s (hl s hs)
  obtain ⟨c3, fr, hd, qn, wt, tk, dr, dO, dv, n1, n2, bg, n3, lo0, hi0, o4, n4, n5, n6, ep, sv, x1, x2, x3, x4, x5, x6⟩ := g
  by_cases h80 : i < 80
  rotate_left
  · intro add1 sub1 mul1 quo1 rem1 band1 bor1 bxor1 bclr1 shl1 shr1 ieq1 ilt1 ile1 seq1 slt1 beq1 bnot1 orb1 bcond1 iwrap1 iof1 ssz1 hA1 cat1 sq1 sl1 imin1 imax1 smin1 smax1 len1 slen1 u81 hL1 op1 hop1 call1 hcall1 code1 hcode1
    have hcc : ilt1 (Int.ofNat i) (len1 zs) = true := by rw [hA1.lt, hL1.len, hzl]; exact decide_eq_true (Int.ofNat_lt.2 hi)
    have hcd : ilt1 (Int.ofNat i) 80 = false := by rw [hA1.lt]; exact decide_eq_false (by simp only [Int.ofNat_eq_natCast]; omega)
    cbv
    rw [hcc]
    cbv
    rw [hcd]
    cbv
    repeat (first | (refine vcIf.yes ?_ ?_; (focus (simp [smW hA1 hL1]; done)); cbv) | (refine vcIf.no ?_ ?_; (focus (simp [smW hA1 hL1]; done)); cbv))
    exact hret _ (RetEv.ret eOk rfl rfl)
  refine Exists.elim (get_of_lt (show i < l.length by omega)) fun s hs => ?_
  have hst := hst s (List.mem_of_getElem? hs) h80
  have hzi : zs[i]? = some (stp s.what s.n s.key s.a s.b s.c.kind s.c.key s.c.val) := by rw [hzs, List.getElem?_map, hs]; rfl
  obtain ⟨what, n, key, a, b, ⟨ck, cy, cv⟩⟩ := s
  simp only at hst hzi
  intro add1 sub1 mul1 quo1 rem1 band1 bor1 bxor1 bclr1 shl1 shr1 ieq1 ilt1 ile1 seq1 slt1 beq1 bnot1 orb1 bcond1 iwrap1 iof1 ssz1 hA1 cat1 sq1 sl1 imin1 imax1 smin1 smax1 len1 slen1 u81 hL1 op1 hop1 call1 hcall1 code1 hcode1
  have hcc : ilt1 (Int.ofNat i) (len1 zs) = true := by rw [hA1.lt, hL1.len, hzl]; exact decide_eq_true (Int.ofNat_lt.2 hi)
  have hcd : ilt1 (Int.ofNat i) 80 = true := by rw [hA1.lt]; exact decide_eq_true (by simp only [Int.ofNat_eq_natCast]; omega)
  have hadd1 : add1 .i64 (Int.ofNat i) 1 = Int.ofNat (i + 1) := by rw [hA1.add, IntWalk.i64_in _ (by simp only [Int.ofNat_eq_natCast]; omega)]; rfl
  cbv
  rw [hcc]
  cbv
  rw [hcd]
  cbv
  repeat (first | (refine vcIf.yes ?_ ?_; (focus (simp [smW hA1 hL1]; done)); cbv) | (refine vcIf.no ?_ ?_; (focus (simp [smW hA1 hL1]; done)); cbv))
  refine ⟨i, _, rfl, hzi, rfl, ?_⟩
  cbv
  refine hcall1 _ _ _ _ _ (CallEv.lend [0, 4, 5, 6, 7, 8, 9, 1, 2, 3, 10] hst rfl (.cons (.own 9 3 0 rfl) (.cons (.p _) .nil)) (gmT2 rfl rfl rfl rfl rfl rfl rfl rfl rfl rfl rfl rfl rfl rfl rfl rfl rfl rfl rfl rfl rfl) ?_)
  rintro _ _ ⟨rfl, ⟨c3, fr, hd, qn, wt, tk, dr, dO, dv, n1, n2, bg, n3, lo0, hi0, o4, n4, n5, n6, ep, sv, x1, x2, x3, x4, x5, x6⟩, nt, xt, hq, rfl⟩
  cbv
  repeat (first | (refine vcIf.yes ?_ ?_; (focus (simp [smW hA1 hL1]; done)); cbv) | (refine vcIf.no ?_ ?_; (focus (simp [smW hA1 hL1]; done)); cbv))
  refine hrd _ ⟨(i + 1, ⟨c3, fr, hd, qn, wt, tk, dr, dO, dv, n1, n2, bg, n3, lo0, hi0, o4, n4, n5, n6, ep, sv, x1, x2, x3, x4, x5, x6⟩, nt, xt), _, ?_, ⟨by simp only; omega, ?_⟩, rfl, ⟨rfl, rfl, ?_, trivial⟩, rfl, rfl, rfl, by rw [hB]; exact Nat.le_of_ble_eq_true rfl⟩
  · simp only; omega
  · show Inv21 k (10 * ((i + 1 : Nat) : Int)) _ _ _
    rw [show (10 * ((i + 1 : Nat) : Int)) = 10 * (i : Int) + 10 by omega]
    exact hq
  · show some (V.p (.int .i64 _)) = _
    rw [hadd1]
end Go.Proofs.YtegkojnngdlfaaaGreat
