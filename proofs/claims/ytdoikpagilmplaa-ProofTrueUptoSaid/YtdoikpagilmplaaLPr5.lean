/- Did a deed read what there was? The document's. Conditions: on sizes, and that the pairs are in order. -/
import Derived.Test.YtdoikpagilmplaaLPr4
set_option maxRecDepth 100000
set_option maxHeartbeats 16000000
set_option linter.unusedSimpArgs false
set_option linter.unusedVariables false
namespace Go.Proofs.Ytdoikpagilmplaa
open Go Go.Lx
open Go.Sx (vcIf)

theorem bnd1 {m k P : Nat} (h1 : m ≤ k) (h2 : k < P) (h3 : (P + 1) * 32 ≤ 140737488355328) : m + 1 ≤ maxLen ∧ (m + 1) * 32 ≤ 140737488355328 ∧ m + 1 ≤ k + 1 ∧ m ≤ k + 1 ∧ P - (k + 1) < P - k := by
  unfold maxLen; omega
theorem filter_next {fl : Pr → Bool} {ps : List Pr} {k : Nat} {p : Pr} (h : ps[k]? = some p) : (ps.take (k + 1)).filter fl = (ps.take k).filter fl ++ (if fl p = true then [p] else []) := by
  rw [List.take_add_one, h, List.filter_append]
  by_cases hp : fl p = true
  · simp [hp]
  · simp [hp]
theorem rRight_spec (ps : List Pr) (hps : Srt ps) (s : Sn) (hsf : s.fit) (dch : List Chg) (hcf : ∀ c ∈ dch, c.fit) (hsz : (ps.length + dch.length + 1) * 32 ≤ 140737488355328) (zs cs : List PV) (hzs : zs = prP ps) (hcs : cs = cP dch) :
    FnL Try.prog 30 [.p (.sl zs), .p (.agg [.str s.lo, .str s.hi, .int .i64 s.aft, .sl (prP s.ps)]), .p (.sl cs)] []
      fun v own => ∃ R : Bool, (R = true ↔ rgt ps s dch) ∧ v = .p (.bool R) ∧ own = [] := by
  refine FnL.flat (R := fun v own => ∃ R : Bool, (R = true ↔ rgt ps s dch) ∧ v = .p (.bool R)) ?_ (by rintro _ _ ⟨b, h, rfl⟩; exact ⟨_, _, rfl, .refl _, b, h, rfl, rfl⟩)
  have hbnd := ones_bnd hps hsz
  obtain ⟨C, hC⟩ : ∃ C, C = dch.length := ⟨_, rfl⟩
  have hcl2 : cs.length = C := by rw [hcs, cP_length, hC]
  have hC47 : C < 140737488355328 := by omega
  obtain ⟨lo, hi_, aft, sps⟩ := s
  simp only
  obtain ⟨qs, hqs⟩ : ∃ qs, qs = prP sps := ⟨_, rfl⟩
  rw [← hqs]
  have hfalse : ¬ rgt ps ⟨lo, hi_, aft, sps⟩ dch → ∀ v, v = V.p (.bool false) → ∃ R : Bool, (R = true ↔ rgt ps ⟨lo, hi_, aft, sps⟩ dch) ∧ v = .p (.bool R) := fun h v hv => ⟨false, ⟨fun c => (by cases c), fun c => absurd c h⟩, hv⟩
  have hneg : aft < 0 → ¬ rgt ps ⟨lo, hi_, aft, sps⟩ dch := fun h c => by have := c.1; simp only at this; omega
  have hbig : (C : Int) < aft → ¬ rgt ps ⟨lo, hi_, aft, sps⟩ dch := fun h c => by have := c.2.1; simp only at this; omega
  by_cases h0 : aft < 0
  · have hfalse := hfalse (hneg h0)
    refine fn_of_vc eOk fOk fo30 Try.func30 rfl rfl rfl fun B hB => ?_
    intro add sub mul quo rem band bor bxor bclr shl shr ieq ilt ile seq slt beq bnot orb bcond iwrap iof ssz hA cat sq sl imin imax smin smax len slen u8 hL op hop call hcall code hcode ret hret
    cbv
    refine vcIf.yes (by first | (simp [hA.not, hA.eq, hA.lt, hA.le, hA.cond, hA.beq, hA.orb, hL.len, hL.slen, hL.sq, h0]; done) | (simp only [h0]; simp [hA.not, hA.eq, hA.lt, hA.le, hA.cond, hA.beq, hA.orb, hL.len, hL.slen, hL.sq, h0]; done) | (simp [hA.not, hA.eq, hA.lt, hA.le, hA.cond, hA.beq, hA.orb, hL.len, hL.slen, hL.sq, h0]; omega) | (simp only [h0]; simp [hA.not, hA.eq, hA.lt, hA.le, hA.cond, hA.beq, hA.orb, hL.len, hL.slen, hL.sq, h0]; omega)) ?_
    cbv
    exact hret _ (RetEv.ret eOk rfl (hfalse _ rfl))
  obtain ⟨A, hA0⟩ : ∃ A : Nat, aft = Int.ofNat A := ⟨aft.toNat, by simp only [Int.ofNat_eq_natCast]; omega⟩
  subst hA0
  by_cases hAC : C < A
  · have hfalse := hfalse (hbig (by simp only [Int.ofNat_eq_natCast]; omega))
    refine fn_of_vc eOk fOk fo30 Try.func30 rfl rfl rfl fun B hB => ?_
    intro add sub mul quo rem band bor bxor bclr shl shr ieq ilt ile seq slt beq bnot orb bcond iwrap iof ssz hA cat sq sl imin imax smin smax len slen u8 hL op hop call hcall code hcode ret hret
    have hlc : len cs = Int.ofNat C := by rw [hL.len, hcl2]; rfl
    cbv
    refine vcIf.no (by first | (simp [hA.not, hA.eq, hA.lt, hA.le, hA.cond, hA.beq, hA.orb, hL.len, hL.slen, hL.sq, h0]; done) | (simp only [h0]; simp [hA.not, hA.eq, hA.lt, hA.le, hA.cond, hA.beq, hA.orb, hL.len, hL.slen, hL.sq, h0]; done) | (simp [hA.not, hA.eq, hA.lt, hA.le, hA.cond, hA.beq, hA.orb, hL.len, hL.slen, hL.sq, h0]; omega) | (simp only [h0]; simp [hA.not, hA.eq, hA.lt, hA.le, hA.cond, hA.beq, hA.orb, hL.len, hL.slen, hL.sq, h0]; omega)) ?_
    cbv
    refine vcIf.yes (by first | (simp [hA.not, hA.eq, hA.lt, hA.le, hA.cond, hA.beq, hA.orb, hL.len, hL.slen, hL.sq, hlc, hAC]; done) | (simp only [hlc, hAC]; simp [hA.not, hA.eq, hA.lt, hA.le, hA.cond, hA.beq, hA.orb, hL.len, hL.slen, hL.sq, hlc, hAC]; done) | (simp [hA.not, hA.eq, hA.lt, hA.le, hA.cond, hA.beq, hA.orb, hL.len, hL.slen, hL.sq, hlc, hAC]; omega) | (simp only [hlc, hAC]; simp [hA.not, hA.eq, hA.lt, hA.le, hA.cond, hA.beq, hA.orb, hL.len, hL.slen, hL.sq, hlc, hAC]; omega)) ?_
    cbv
    exact hret _ (RetEv.ret eOk rfl (hfalse _ rfl))
  have hrg : rgt ps ⟨lo, hi_, Int.ofNat A, sps⟩ dch ↔ (chks (dch.take A) = 0 ∧ (ones ps (dch.take A)).filter (fun p => hs ⟨lo, hi_⟩ p.key) = sps) := by
    unfold rgt
    simp only [Int.ofNat_eq_natCast, Int.toNat_natCast]
    constructor
    · exact fun h => h.2.2
    · exact fun h => ⟨by omega, by omega, h⟩
  have hta : (cs.take A) = cP (dch.take A) := by rw [hcs]; unfold cP; rw [List.map_take]
  have htl : (dch.take A).length = A := by rw [List.length_take]; omega
  have hall := rall_spec (dch.take A) (by omega) (cP (dch.take A)) rfl
  obtain ⟨us, hus⟩ : ∃ us, us = cs.take A := ⟨_, rfl⟩
  rw [← hta, ← hus] at hall
  have hcw : ∀ y : PV, y ∈ cs → y.cells.length = 3 := fun y hy => by rw [hcs] at hy; exact (cP_wf dch y hy).1
  have hAl : A ≤ cs.length := by omega
  obtain ⟨fl, hfl⟩ : ∃ fl, fl = fun p : Pr => hs ⟨lo, hi_⟩ p.key := ⟨_, rfl⟩
  rw [← hfl] at hrg
  obtain ⟨pe, hpe⟩ : ∃ pe, pe = ones ps (dch.take A) := ⟨_, rfl⟩
  have hone : ∀ (j : Nat) (c : Chg), j < A → dch[j]? = some c → ∀ ws, ws = prP (ones ps (dch.take j)) → FnL Try.prog 28 [.p (.sl ws), .p (.agg [.int .i64 c.kind, .str c.key, .str c.val])] [] fun v own => v = .p (.sl (prP (ones ps (dch.take (j + 1))))) ∧ own = [] := fun j c hj hc ws hws => by
    have h1 := rOne_spec (ones ps (dch.take j)) (by have := hbnd j _ rfl; rw [Nat.add_mul] at this; exact this) c (hcf c (List.mem_of_getElem? hc)) ws hws
    rw [← ones_next ps hc] at h1
    exact h1
  obtain ⟨P, hP⟩ : ∃ P, P = pe.length := ⟨_, rfl⟩
  have hP47 : (P + 1) * 32 ≤ 140737488355328 := hbnd A P (by rw [hP, hpe])
  obtain ⟨R, hR⟩ : ∃ R : Bool, R = true ↔ pe.filter fl = sps := by
    by_cases h : pe.filter fl = sps
    · exact ⟨true, fun _ => h, fun _ => rfl⟩
    · exact ⟨false, fun c => (by cases c), fun c => absurd c h⟩
  have heq := rPairs_spec (pe.filter fl) sps (by have := List.length_filter_le fl pe; omega) hsf.1 R hR (prP (pe.filter fl)) qs rfl hqs
  rw [← hpe] at hrg
  refine fn_of_vc eOk fOk fo30 Try.func30 rfl rfl rfl fun B hB => ?_
  intro add sub mul quo rem band bor bxor bclr shl shr ieq ilt ile seq slt beq bnot orb bcond iwrap iof ssz hA cat sq sl imin imax smin smax len slen u8 hL op hop call hcall code hcode ret hret
  have hlc : len cs = Int.ofNat C := by rw [hL.len, hcl2]; rfl
  cbv
  refine vcIf.no (by first | (simp [hA.not, hA.eq, hA.lt, hA.le, hA.cond, hA.beq, hA.orb, hL.len, hL.slen, hL.sq, h0]; done) | (simp only [h0]; simp [hA.not, hA.eq, hA.lt, hA.le, hA.cond, hA.beq, hA.orb, hL.len, hL.slen, hL.sq, h0]; done) | (simp [hA.not, hA.eq, hA.lt, hA.le, hA.cond, hA.beq, hA.orb, hL.len, hL.slen, hL.sq, h0]; omega) | (simp only [h0]; simp [hA.not, hA.eq, hA.lt, hA.le, hA.cond, hA.beq, hA.orb, hL.len, hL.slen, hL.sq, h0]; omega)) ?_
  cbv
  refine vcIf.no (by first | (simp [hA.not, hA.eq, hA.lt, hA.le, hA.cond, hA.beq, hA.orb, hL.len, hL.slen, hL.sq, hlc, hAC]; done) | (simp only [hlc, hAC]; simp [hA.not, hA.eq, hA.lt, hA.le, hA.cond, hA.beq, hA.orb, hL.len, hL.slen, hL.sq, hlc, hAC]; done) | (simp [hA.not, hA.eq, hA.lt, hA.le, hA.cond, hA.beq, hA.orb, hL.len, hL.slen, hL.sq, hlc, hAC]; omega) | (simp only [hlc, hAC]; simp [hA.not, hA.eq, hA.lt, hA.le, hA.cond, hA.beq, hA.orb, hL.len, hL.slen, hL.sq, hlc, hAC]; omega)) ?_
  cbv
  refine ⟨0, A, cs.length, rfl, rfl, rfl, Nat.zero_le _, hAl, Nat.le_refl _, hcw, fun u hu => ?_⟩
  have hu : u = us := by rw [hu, hus]; rfl
  cbv
  refine hcall _ _ _ _ _ (CallEv.same (by rw [hu]; exact hall) rfl ?_)
  rintro _ _ ⟨e, he, rfl, rfl⟩
  cbv
  by_cases hee : e = 0
  · refine vcIf.no (by first | (simp [hA.not, hA.eq, hA.lt, hA.le, hA.cond, hA.beq, hA.orb, hL.len, hL.slen, hL.sq, hee]; done) | (simp only [hee]; simp [hA.not, hA.eq, hA.lt, hA.le, hA.cond, hA.beq, hA.orb, hL.len, hL.slen, hL.sq, hee]; done) | (simp [hA.not, hA.eq, hA.lt, hA.le, hA.cond, hA.beq, hA.orb, hL.len, hL.slen, hL.sq, hee]; omega) | (simp only [hee]; simp [hA.not, hA.eq, hA.lt, hA.le, hA.cond, hA.beq, hA.orb, hL.len, hL.slen, hL.sq, hee]; omega)) ?_
    cbv
    refine hcode _ _ _ (CodeEv.loop eOk fOk (ι := Nat × List PV) (fun s => [(0, .p (.sl s.2)), (2, .p (.sl cs)), (4, .own 0 0), (7, .p (.int .i64 (Int.ofNat s.1)))])
      (fun s => [.st 43 [.p (.str lo), .p (.str hi_), .p (.int .i64 (Int.ofNat A)), .p (.sl qs)]]) (fun s => s.1 ≤ A ∧ s.2 = prP (ones ps (dch.take s.1))) (fun s => A - s.1) (0, zs) ?_ ?_)
    · exact ⟨(by repeat (first | exact trivial | refine And.intro rfl ?_)), rfl, Nat.zero_le _, hzs⟩
    rintro ⟨j, ws⟩ ⟨m1, m2⟩ rd hrd
    simp only at m1 m2
    by_cases hj : j < A
    · refine Exists.elim (get_of_lt (show j < dch.length by omega)) fun c hc => ?_
      have hzj : cs[j]? = some (.agg [.int .i64 c.kind, .str c.key, .str c.val]) := by rw [hcs]; exact cP_get hc
      have h1 := hone j c hj hc ws m2
      obtain ⟨ck, cy, cv⟩ := c
      simp only at hzj h1
      refine Exists.elim (show ∃ us2, us2 = prP (ones ps (dch.take (j + 1))) from ⟨_, rfl⟩) fun us2 hus2 => ?_
      rw [← hus2] at h1
      intro add1 sub1 mul1 quo1 rem1 band1 bor1 bxor1 bclr1 shl1 shr1 ieq1 ilt1 ile1 seq1 slt1 beq1 bnot1 orb1 bcond1 iwrap1 iof1 ssz1 hA1 cat1 sq1 sl1 imin1 imax1 smin1 smax1 len1 slen1 u81 hL1 op1 hop1 call1 hcall1 code1 hcode1
      have hadd1 : add1 .i64 (Int.ofNat j) 1 = Int.ofNat (j + 1) := by rw [hA1.add, IntWalk.i64_in _ (by simp only [Int.ofNat_eq_natCast]; omega)]; rfl
      cbv
      refine vcIf.yes (by first | (simp [hA1.not, hA1.eq, hA1.lt, hA1.le, hA1.cond, hA1.beq, hA1.orb, hL1.len, hL1.slen, hL1.sq, hj]; done) | (simp only [hj]; simp [hA1.not, hA1.eq, hA1.lt, hA1.le, hA1.cond, hA1.beq, hA1.orb, hL1.len, hL1.slen, hL1.sq, hj]; done) | (simp [hA1.not, hA1.eq, hA1.lt, hA1.le, hA1.cond, hA1.beq, hA1.orb, hL1.len, hL1.slen, hL1.sq, hj]; omega) | (simp only [hj]; simp [hA1.not, hA1.eq, hA1.lt, hA1.le, hA1.cond, hA1.beq, hA1.orb, hL1.len, hL1.slen, hL1.sq, hj]; omega)) ?_
      cbv
      refine ⟨j, _, rfl, hzj, rfl, ?_⟩
      cbv
      refine hcall1 _ _ _ _ _ (CallEv.same h1 rfl ?_)
      rintro _ _ ⟨rfl, rfl⟩
      cbv
      refine hrd _ ⟨(j + 1, us2), _, ?_, ⟨hj, hus2⟩, rfl, ⟨rfl, rfl, rfl, ?_, trivial⟩, rfl, rfl, rfl, ?_⟩
      · show A - (j + 1) < A - j
        omega
      · show some (V.p (.int .i64 _)) = _
        rw [hadd1]
      · rw [hB]; exact Nat.zero_le _
    · have hwe : ws = prP pe := by rw [m2, hpe, show j = A by omega]
      have hwl : ws.length = P := by rw [hwe, prP_length, hP]
      intro add1 sub1 mul1 quo1 rem1 band1 bor1 bxor1 bclr1 shl1 shr1 ieq1 ilt1 ile1 seq1 slt1 beq1 bnot1 orb1 bcond1 iwrap1 iof1 ssz1 hA1 cat1 sq1 sl1 imin1 imax1 smin1 smax1 len1 slen1 u81 hL1 op1 hop1 call1 hcall1 code1 hcode1
      cbv
      refine vcIf.no (by first | (simp [hA1.not, hA1.eq, hA1.lt, hA1.le, hA1.cond, hA1.beq, hA1.orb, hL1.len, hL1.slen, hL1.sq, hj]; done) | (simp only [hj]; simp [hA1.not, hA1.eq, hA1.lt, hA1.le, hA1.cond, hA1.beq, hA1.orb, hL1.len, hL1.slen, hL1.sq, hj]; done) | (simp [hA1.not, hA1.eq, hA1.lt, hA1.le, hA1.cond, hA1.beq, hA1.orb, hL1.len, hL1.slen, hL1.sq, hj]; omega) | (simp only [hj]; simp [hA1.not, hA1.eq, hA1.lt, hA1.le, hA1.cond, hA1.beq, hA1.orb, hL1.len, hL1.slen, hL1.sq, hj]; omega)) ?_
      cbv
      refine ⟨true, ?_⟩
      cbv
      refine hcode _ _ _ (CodeEv.loop eOk fOk (ι := Nat × Nat × List PV) (fun s => [(0, .p (.sl ws)), (4, .own 0 0), (8, .vw 1 2 0 s.2.1 none), (9, .p (.int .i64 (Int.ofNat s.1)))])
        (fun s => [.st 43 [.p (.str lo), .p (.str hi_), .p (.int .i64 (Int.ofNat A)), .p (.sl qs)], .arr 41 2 s.2.2]) (fun s => s.1 ≤ P ∧ s.2.2.length = s.2.1 ∧ s.2.1 ≤ s.1 ∧ s.2.2 = prP ((pe.take s.1).filter fl)) (fun s => P - s.1) (0, 0, []) ?_ ?_)
      · exact ⟨(by repeat (first | exact trivial | refine And.intro rfl ?_)), rfl, Nat.zero_le _, rfl, Nat.le_refl _, rfl⟩
      rintro ⟨k, m, vs⟩ ⟨w1, w2, w3, w4⟩ rd2 hrd2
      simp only at w1 w2 w3 w4
      by_cases hk : k < P
      · refine Exists.elim (get_of_lt (show k < pe.length by omega)) fun p hp => ?_
        have hzk : ws[k]? = some (.agg [.str p.key, .str p.val]) := by rw [hwe]; exact prP_get hp
        have hnx := filter_next (fl := fl) hp
        have hhas := rhas_spec lo hi_ p.key
        have hflp : fl p = (!(bl p.key lo) && bl p.key hi_) := by rw [hfl]; rfl
        refine Exists.elim (show ∃ b, b = fl p from ⟨_, rfl⟩) fun b hb => ?_
        rw [← hb] at hnx hflp
        rw [← hflp] at hhas
        clear hflp hb
        obtain ⟨pk, pv⟩ := p
        simp only at hzk hhas
        intro add1 sub1 mul1 quo1 rem1 band1 bor1 bxor1 bclr1 shl1 shr1 ieq1 ilt1 ile1 seq1 slt1 beq1 bnot1 orb1 bcond1 iwrap1 iof1 ssz1 hA1 cat1 sq1 sl1 imin1 imax1 smin1 smax1 len1 slen1 u81 hL1 op1 hop1 call1 hcall1 code1 hcode1
        have e0 : len1 ws = Int.ofNat P := by rw [hL1.len, hwl]; rfl
        have hadd1 : add1 .i64 (Int.ofNat k) 1 = Int.ofNat (k + 1) := by rw [hA1.add, IntWalk.i64_in _ (by simp only [Int.ofNat_eq_natCast]; omega)]; rfl
        cbv
        refine vcIf.yes (by first | (simp [hA1.not, hA1.eq, hA1.lt, hA1.le, hA1.cond, hA1.beq, hA1.orb, hL1.len, hL1.slen, hL1.sq, e0, hk]; done) | (simp only [e0, hk]; simp [hA1.not, hA1.eq, hA1.lt, hA1.le, hA1.cond, hA1.beq, hA1.orb, hL1.len, hL1.slen, hL1.sq, e0, hk]; done) | (simp [hA1.not, hA1.eq, hA1.lt, hA1.le, hA1.cond, hA1.beq, hA1.orb, hL1.len, hL1.slen, hL1.sq, e0, hk]; omega) | (simp only [e0, hk]; simp [hA1.not, hA1.eq, hA1.lt, hA1.le, hA1.cond, hA1.beq, hA1.orb, hL1.len, hL1.slen, hL1.sq, e0, hk]; omega)) ?_
        cbv
        refine hcode1 _ _ _ (CodeEv.drawT eOk fOk (by kernel_rfl) noX (.rd 0 (.rd 1 (.rd 2 (.so 3 (.so 4 (.so 5 (.so 6 (.acts (.cons 7 (.done) (.nil)))))))))) (by kernel_rfl) (by kernel_rfl) ?_)
        intro add2 sub2 mul2 quo2 rem2 band2 bor2 bxor2 bclr2 shl2 shr2 ieq2 ilt2 ile2 seq2 slt2 beq2 bnot2 orb2 bcond2 iwrap2 iof2 ssz2 hA2 cat2 sq2 sl2 imin2 imax2 smin2 smax2 len2 slen2 u82 hL2 op2 hop2 call2 hcall2 code2 hcode2 q2 hq2
        cbv
        refine ⟨k, _, rfl, hzk, rfl, ?_⟩
        cbv
        refine hcall2 _ _ _ _ _ (CallEv.same hhas rfl ?_)
        rintro _ _ ⟨rfl, rfl⟩
        cbv
        refine hq2 _ ?_
        cbv
        have hbd := bnd1 w3 hk hP47
        by_cases hbb : b = true
        · rw [if_pos hbb] at hnx
          refine vcIf.yes hbb ?_
          cbv
          refine ⟨k, _, rfl, hzk, rfl, ?_⟩
          cbv
          refine ⟨false, ?_⟩
          cbv
          refine .inl ⟨(), rfl, w2.symm, Wf.one (Pr.wf ⟨pk, pv⟩), ?_, ?_, ?_⟩
          · exact hbd.1
          · exact hbd.2.1
          intro vs2 m2' hw hn3
          replace hw : vs2 = vs ++ [Pr.v ⟨pk, pv⟩] := hw
          replace hn3 : m2' = m + 1 := hn3
          cbv
          refine hrd2 _ ⟨(k + 1, m2', vs2), _, ?_, ⟨hk, ?_, ?_, ?_⟩, rfl, ⟨rfl, rfl, rfl, ?_, trivial⟩, rfl, rfl, rfl, ?_⟩
          · exact hbd.2.2.2.2
          · simp only; rw [hw, hn3, List.length_append, w2]; rfl
          · rw [hn3]; exact hbd.2.2.1
          · simp only; rw [hnx, prP_append, hw, w4]; rfl
          · show some (V.p (.int .i64 _)) = _
            rw [hadd1]
          · rw [hB]; exact Nat.zero_le _
        · rw [if_neg hbb, List.append_nil] at hnx
          refine vcIf.no (Bool.eq_false_iff.2 hbb) ?_
          cbv
          refine hrd2 _ ⟨(k + 1, m, vs), _, ?_, ⟨hk, w2, ?_, ?_⟩, rfl, ⟨rfl, rfl, rfl, ?_, trivial⟩, rfl, rfl, rfl, ?_⟩
          · exact hbd.2.2.2.2
          · exact hbd.2.2.2.1
          · simp only; rw [hnx, w4]
          · show some (V.p (.int .i64 _)) = _
            rw [hadd1]
          · rw [hB]; exact Nat.zero_le _
      · have hvs : vs = prP (pe.filter fl) := by rw [w4, List.take_of_length_le (by omega)]
        rw [← hvs] at heq
        have hRr : R = true ↔ rgt ps ⟨lo, hi_, Int.ofNat A, sps⟩ dch := by
          rw [hrg, hR]
          exact ⟨fun c => ⟨by rw [← he]; exact hee, c⟩, fun c => c.2⟩
        intro add1 sub1 mul1 quo1 rem1 band1 bor1 bxor1 bclr1 shl1 shr1 ieq1 ilt1 ile1 seq1 slt1 beq1 bnot1 orb1 bcond1 iwrap1 iof1 ssz1 hA1 cat1 sq1 sl1 imin1 imax1 smin1 smax1 len1 slen1 u81 hL1 op1 hop1 call1 hcall1 code1 hcode1
        have e0 : len1 ws = Int.ofNat P := by rw [hL1.len, hwl]; rfl
        cbv
        refine vcIf.no (by first | (simp [hA1.not, hA1.eq, hA1.lt, hA1.le, hA1.cond, hA1.beq, hA1.orb, hL1.len, hL1.slen, hL1.sq, e0, hk]; done) | (simp only [e0, hk]; simp [hA1.not, hA1.eq, hA1.lt, hA1.le, hA1.cond, hA1.beq, hA1.orb, hL1.len, hL1.slen, hL1.sq, e0, hk]; done) | (simp [hA1.not, hA1.eq, hA1.lt, hA1.le, hA1.cond, hA1.beq, hA1.orb, hL1.len, hL1.slen, hL1.sq, e0, hk]; omega) | (simp only [e0, hk]; simp [hA1.not, hA1.eq, hA1.lt, hA1.le, hA1.cond, hA1.beq, hA1.orb, hL1.len, hL1.slen, hL1.sq, e0, hk]; omega)) ?_
        cbv
        refine hcall _ _ _ _ _ (CallEv.shown [] [1] heq rfl (.cons (.bvw 1 2 0 m none _ 2 vs vs (by decide) rfl (by rw [frz_full w2])) (.cons (.p _) .nil)) trivial ?_)
        rintro _ _ ⟨rfl, rfl⟩
        refine ⟨.p _ (.bool _), (by intro r hr; cases hr), ?_⟩
        cbv
        exact hret _ (RetEv.ret eOk rfl ⟨R, hRr, rfl⟩)
  · have hfalse := hfalse fun c => hee (by rw [he]; exact (hrg.1 c).1)
    refine vcIf.yes (by first | (simp [hA.not, hA.eq, hA.lt, hA.le, hA.cond, hA.beq, hA.orb, hL.len, hL.slen, hL.sq, hee]; done) | (simp only [hee]; simp [hA.not, hA.eq, hA.lt, hA.le, hA.cond, hA.beq, hA.orb, hL.len, hL.slen, hL.sq, hee]; done) | (simp [hA.not, hA.eq, hA.lt, hA.le, hA.cond, hA.beq, hA.orb, hL.len, hL.slen, hL.sq, hee]; omega) | (simp only [hee]; simp [hA.not, hA.eq, hA.lt, hA.le, hA.cond, hA.beq, hA.orb, hL.len, hL.slen, hL.sq, hee]; omega)) ?_
    cbv
    exact hret _ (RetEv.ret eOk rfl (hfalse _ rfl))
end Go.Proofs.Ytdoikpagilmplaa
