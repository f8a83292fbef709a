/- What changes do to the keys of each piece: the program's answer and the document's. Conditions: on sizes. -/
import Derived.Test.YtknhlbohjiphgaaLSq3
import Derived.Test.YtknhlbohjiphgaaLSame
set_option maxRecDepth 100000
set_option maxHeartbeats 8000000
set_option linter.unusedSimpArgs false
set_option linter.unusedVariables false
namespace Go.Proofs.Ytknhlbohjiphgaa
open Go Go.Lx
open Go.Sx (vcIf)

def pc (bs : BL) (n : Nat) : Spn := ⟨pcLo bs n, pcHi bs n⟩
theorem pc_len {bs : BL} (hs : sndB bs = true) (n : Nat) (hn : n ≤ bs.length) : (pc bs n).lo.length ≤ 17 ∧ (pc bs n).hi.length ≤ 17 := by
  have key : ∀ i, i < bs.length → (bs.getD i []).length ≤ 16 := fun i hi => ((gB_some (getD_at hi)).1 ((of_decide_eq_true hs).2 i hi)).2.1
  refine ⟨?_, ?_⟩
  · show (pcLo bs n).length ≤ 17
    unfold pcLo; split
    · have := key (n - 1) (by omega); omega
    · simp
  · show (pcHi bs n).length ≤ 17
    unfold pcHi; split
    · have := key n (by omega); omega
    · simp
theorem pc_cutE {bs : BL} (hs : sndB bs = true) (n : Nat) (hn : n ≤ bs.length) (l : List Chg) : cutE (pc bs n) l = chks l := by
  have := pc_len hs n hn
  unfold cutE
  split
  · rename_i h; rw [if_neg (by omega), h]
  · rfl
def ccP (ls : List (List Chg)) : List PV := ls.map fun l => .sl (cP l)
theorem ccP_get {ls : List (List Chg)} {i : Nat} {l : List Chg} (h : ls[i]? = some l) : (ccP ls)[i]? = some (.sl (cP l)) := by unfold ccP; rw [List.getElem?_map, h]; rfl
def spE (bs : BL) (l : List Chg) : Nat := if sndB bs = true then chks l else 2
def spL (bs : BL) (l : List Chg) (n : Nat) : List (List Chg) := (List.range n).map fun i => cutL (pc bs i) l
def spR (bs : BL) (l : List Chg) : List (List Chg) := if spE bs l = 0 then spL bs l (bs.length + 1) else []
theorem spL_next (bs : BL) (l : List Chg) (n : Nat) : spL bs l (n + 1) = spL bs l n ++ [cutL (pc bs n) l] := by simp [spL, List.range_succ]
theorem spL_length (bs : BL) (l : List Chg) (n : Nat) : (spL bs l n).length = n := by simp [spL]

theorem spread_spec (bs : BL) (hn : bs.length < 281474976710656) (hb : ∀ b ∈ bs, b.length < 281474976710656) (zs : List PV) (hzs : zs = sP bs) (l : List Chg) (hf : ∀ c ∈ l, c.fit) (hl : l.length * 40 ≤ 140737488355328) (ys : List PV) (hys : ys = cP l) :
    FnL Try.prog 17 [.p (.sl zs), .p (.sl ys)] [] fun v own => v = .p (.tup [.sl (ccP (spR bs l)), .int .i64 (Int.ofNat (spE bs l))]) ∧ own = [] := by
  obtain ⟨R, hR⟩ : ∃ R, R = ccP (spR bs l) := ⟨_, rfl⟩
  obtain ⟨e, he⟩ : ∃ e, e = spE bs l := ⟨_, rfl⟩
  have hR0 : e ≠ 0 → R = [] := fun h => by rw [hR, spR, if_neg (by rw [← he]; exact h)]; rfl
  have hR1 : e = 0 → R = ccP (spL bs l (bs.length + 1)) := fun h => by rw [hR, spR, if_pos (by rw [← he]; exact h)]
  rw [← hR, ← he]
  refine FnL.flat (R := fun v own => ∃ x, v = .p (.tup [x, .int .i64 (Int.ofNat e)]) ∧ PW x (.sl R)) ?_ (by
    rintro _ _ ⟨x, rfl, h⟩; exact ⟨_, .tup [.sl R, .int .i64 (Int.ofNat e)], rfl, .tup ⟨h, .refl _, trivial⟩, rfl, rfl⟩)
  have hsd := sound_spec bs hn hb zs hzs
  have h8 : 8 ≤ bs.length → sndB bs = false := fun h => decide_eq_false fun c => by omega
  obtain ⟨N, hN⟩ : ∃ n, n = bs.length := ⟨_, rfl⟩
  have hzl : zs.length = N := by rw [hzs, sP_length, hN]
  obtain ⟨S, hS⟩ : ∃ S, S = sndB bs := ⟨_, rfl⟩
  have he2 : S = false → e = 2 := fun h => by rw [he, spE, ← hS, h]; rfl
  have heC : S = true → e = chks l := fun h => by rw [he, spE, ← hS, if_pos h]
  have hpc := fun i (h : i ≤ bs.length) => piece_spec bs hn i h zs hzs
  have hpl := fun (h : S = true) i (h' : i ≤ bs.length) => pc_len (bs := bs) (by rw [← hS]; exact h) i h'
  have hcu := fun (h : S = true) i (h' : i ≤ bs.length) => chCut_spec (pc bs i) (by have := (hpl h i h').1; omega) (by have := (hpl h i h').2; omega) l hf hl ys hys
  have hce := fun (h : S = true) i (h' : i ≤ bs.length) => pc_cutE (bs := bs) (by rw [← hS]; exact h) i h' l
  rw [← hS] at hsd h8
  rw [← hN] at h8 hpc hcu hR1 hce
  refine fn_of_vc eOk fOk fo17 Try.func17 rfl rfl rfl fun B hB => ?_
  intro add sub mul quo rem band bor bxor bclr shl shr ieq ilt ile seq slt beq bnot orb bcond iwrap iof ssz hA cat sq sl imin imax smin smax len slen u8 hL op hop call hcall code hcode ret hret
  have hlen : len zs = Int.ofNat N := by rw [hL.len, hzl]; rfl
  cbv
  by_cases hN8 : 8 ≤ N
  · have hfe := he2 (h8 hN8)
    refine vcIf.yes (by first | (simp [hA.not, hA.eq, hA.lt, hA.le, hA.cond, hA.beq, hA.orb, hL.len, hL.slen, hL.sq, hlen, hN8]; done) | (simp only [hlen, hN8]; simp [hA.not, hA.eq, hA.lt, hA.le, hA.cond, hA.beq, hA.orb, hL.len, hL.slen, hL.sq, hlen, hN8]; done) | (simp [hA.not, hA.eq, hA.lt, hA.le, hA.cond, hA.beq, hA.orb, hL.len, hL.slen, hL.sq, hlen, hN8]; omega) | (simp only [hlen, hN8]; simp [hA.not, hA.eq, hA.lt, hA.le, hA.cond, hA.beq, hA.orb, hL.len, hL.slen, hL.sq, hlen, hN8]; omega)) ?_
    cbv
    exact hret _ (RetEv.ret eOk rfl ⟨.nils, by rw [hfe]; rfl, by rw [hR0 (by rw [hfe]; decide)]; exact .nils⟩)
  refine vcIf.no (by first | (simp [hA.not, hA.eq, hA.lt, hA.le, hA.cond, hA.beq, hA.orb, hL.len, hL.slen, hL.sq, hlen, hN8]; done) | (simp only [hlen, hN8]; simp [hA.not, hA.eq, hA.lt, hA.le, hA.cond, hA.beq, hA.orb, hL.len, hL.slen, hL.sq, hlen, hN8]; done) | (simp [hA.not, hA.eq, hA.lt, hA.le, hA.cond, hA.beq, hA.orb, hL.len, hL.slen, hL.sq, hlen, hN8]; omega) | (simp only [hlen, hN8]; simp [hA.not, hA.eq, hA.lt, hA.le, hA.cond, hA.beq, hA.orb, hL.len, hL.slen, hL.sq, hlen, hN8]; omega)) ?_
  cbv
  refine hcall _ _ _ _ _ (CallEv.same hsd rfl ?_)
  rintro _ _ ⟨rfl, rfl⟩
  cbv
  by_cases hSS : S = true
  · have heC := heC hSS
    have hcu := hcu hSS
    have hce := hce hSS
    obtain ⟨M, hM⟩ : ∃ M, M = N + 1 := ⟨_, rfl⟩
    rw [← hM] at hR1
    have hadd0 : add .i64 (len zs) 1 = Int.ofNat M := by rw [hlen, hA.add, IntWalk.i64_in _ (by simp only [Int.ofNat_eq_natCast]; omega), hM]; rfl
    refine vcIf.no (by first | (simp [hA.not, hA.eq, hA.lt, hA.le, hA.cond, hA.beq, hA.orb, hL.len, hL.slen, hL.sq, hSS]; done) | (simp only [hSS]; simp [hA.not, hA.eq, hA.lt, hA.le, hA.cond, hA.beq, hA.orb, hL.len, hL.slen, hL.sq, hSS]; done) | (simp [hA.not, hA.eq, hA.lt, hA.le, hA.cond, hA.beq, hA.orb, hL.len, hL.slen, hL.sq, hSS]; omega) | (simp only [hSS]; simp [hA.not, hA.eq, hA.lt, hA.le, hA.cond, hA.beq, hA.orb, hL.len, hL.slen, hL.sq, hSS]; omega)) ?_
    cbv
    rw [hadd0]
    refine hcode _ _ _ (CodeEv.conv (Conv.hollow 6 37 1 (by decide) rfl) (CodeEv.loop eOk fOk (ι := Nat × List PV) (fun q => [(0, .p (.sl zs)), (1, .p (.sl ys)), (6, .vw 0 1 0 q.1 none), (20, .p (.int .i64 (Int.ofNat M))), (21, .p (.int .i64 (Int.ofNat q.1)))])
      (fun q => [.arr 37 1 q.2]) (fun q => q.1 ≤ M ∧ q.2 = ccP (spL bs l q.1) ∧ (q.1 ≠ 0 → e = 0)) (fun q => M - q.1) (0, []) ?_ ?_))
    · exact ⟨(by repeat (first | exact trivial | refine And.intro rfl ?_)), rfl, Nat.zero_le _, rfl, fun h => absurd rfl h⟩
    rintro ⟨i, us⟩ ⟨k1, k2, k3⟩ rd hrd
    simp only at k1 k2 k3
    have hul : us.length = i := by rw [k2, ccP, List.length_map, spL_length]
    by_cases hi : i < M
    · have hpc := hpc i (by omega)
      have hcu := hcu i (by omega)
      have hce := hce i (by omega)
      rw [hce, ← heC, show (pc bs i).lo = pcLo bs i from rfl, show (pc bs i).hi = pcHi bs i from rfl] at hcu
      have hcr : e = 0 → cP (cutR (pc bs i) l) = cP (cutL (pc bs i) l) := fun h => by rw [cutR, if_pos (by rw [hce, ← heC]; exact h)]
      refine Exists.elim (show ∃ x, x = pcLo bs i from ⟨_, rfl⟩) fun lo hlo => ?_
      refine Exists.elim (show ∃ x, x = pcHi bs i from ⟨_, rfl⟩) fun hii hhi => ?_
      refine Exists.elim (show ∃ x, x = cP (cutR (pc bs i) l) from ⟨_, rfl⟩) fun cs hcs => ?_
      rw [← hlo, ← hhi] at hpc hcu
      rw [← hcs] at hcu hcr
      clear hlo hhi hcs
      intro add1 sub1 mul1 quo1 rem1 band1 bor1 bxor1 bclr1 shl1 shr1 ieq1 ilt1 ile1 seq1 slt1 beq1 bnot1 orb1 bcond1 iwrap1 iof1 ssz1 hA1 cat1 sq1 sl1 imin1 imax1 smin1 smax1 len1 slen1 u81 hL1 op1 hop1 call1 hcall1 code1 hcode1
      have hadd1 : add1 .i64 (Int.ofNat i) 1 = Int.ofNat (i + 1) := by rw [hA1.add, IntWalk.i64_in _ (by simp only [Int.ofNat_eq_natCast]; omega)]; rfl
      cbv
      refine vcIf.yes (by first | (simp [hA1.not, hA1.eq, hA1.lt, hA1.le, hA1.cond, hA1.beq, hA1.orb, hL1.len, hL1.slen, hL1.sq, hi]; done) | (simp only [hi]; simp [hA1.not, hA1.eq, hA1.lt, hA1.le, hA1.cond, hA1.beq, hA1.orb, hL1.len, hL1.slen, hL1.sq, hi]; done) | (simp [hA1.not, hA1.eq, hA1.lt, hA1.le, hA1.cond, hA1.beq, hA1.orb, hL1.len, hL1.slen, hL1.sq, hi]; omega) | (simp only [hi]; simp [hA1.not, hA1.eq, hA1.lt, hA1.le, hA1.cond, hA1.beq, hA1.orb, hL1.len, hL1.slen, hL1.sq, hi]; omega)) ?_
      cbv
      refine hcall1 _ _ _ _ _ (CallEv.same hpc rfl ?_)
      rintro _ _ ⟨rfl, rfl⟩
      cbv
      refine hcall1 _ _ _ _ _ (CallEv.same hcu rfl ?_)
      rintro _ _ ⟨rfl, rfl⟩
      cbv
      by_cases he0 : e = 0
      · have hcr := hcr he0
        refine vcIf.no (by first | (simp [hA1.not, hA1.eq, hA1.lt, hA1.le, hA1.cond, hA1.beq, hA1.orb, hL1.len, hL1.slen, hL1.sq, he0]; done) | (simp only [he0]; simp [hA1.not, hA1.eq, hA1.lt, hA1.le, hA1.cond, hA1.beq, hA1.orb, hL1.len, hL1.slen, hL1.sq, he0]; done) | (simp [hA1.not, hA1.eq, hA1.lt, hA1.le, hA1.cond, hA1.beq, hA1.orb, hL1.len, hL1.slen, hL1.sq, he0]; omega) | (simp only [he0]; simp [hA1.not, hA1.eq, hA1.lt, hA1.le, hA1.cond, hA1.beq, hA1.orb, hL1.len, hL1.slen, hL1.sq, he0]; omega)) ?_
        cbv
        refine ⟨false, ?_⟩
        cbv
        refine .inl ⟨(), rfl, hul.symm, Wf.one (PV.wf1 rfl), ?_, ?_, ?_⟩
        · show i + 1 ≤ maxLen
          unfold maxLen; omega
        · show (i + 1) * 24 ≤ _
          omega
        intro us' n' hu hn'
        replace hu : us' = us ++ [.sl cs] := hu
        replace hn' : n' = i + 1 := hn'
        cbv
        refine hrd _ ⟨(n', us'), _, ?_, ⟨by simp only; omega, ?_, fun _ => he0⟩, rfl, ⟨rfl, rfl, rfl, rfl, ?_, trivial⟩, rfl, rfl, rfl, ?_⟩
        · simp only; omega
        · simp only; rw [hn', hu, k2, spL_next, hcr]; simp [ccP]
        · show some (V.p (.int .i64 _)) = _
          rw [hadd1, hn']
        · rw [hB]; exact Nat.zero_le _
      · refine vcIf.yes (by first | (simp [hA1.not, hA1.eq, hA1.lt, hA1.le, hA1.cond, hA1.beq, hA1.orb, hL1.len, hL1.slen, hL1.sq, he0]; done) | (simp only [he0]; simp [hA1.not, hA1.eq, hA1.lt, hA1.le, hA1.cond, hA1.beq, hA1.orb, hL1.len, hL1.slen, hL1.sq, he0]; done) | (simp [hA1.not, hA1.eq, hA1.lt, hA1.le, hA1.cond, hA1.beq, hA1.orb, hL1.len, hL1.slen, hL1.sq, he0]; omega) | (simp only [he0]; simp [hA1.not, hA1.eq, hA1.lt, hA1.le, hA1.cond, hA1.beq, hA1.orb, hL1.len, hL1.slen, hL1.sq, he0]; omega)) ?_
        cbv
        exact hret _ (RetEv.ret eOk rfl ⟨.nils, rfl, by rw [hR0 he0]; exact .nils⟩)
    · have hiM : i = M := by omega
      have he0 := k3 (by omega)
      have hR1 := hR1 he0
      rw [hiM] at k2 hul
      intro add1 sub1 mul1 quo1 rem1 band1 bor1 bxor1 bclr1 shl1 shr1 ieq1 ilt1 ile1 seq1 slt1 beq1 bnot1 orb1 bcond1 iwrap1 iof1 ssz1 hA1 cat1 sq1 sl1 imin1 imax1 smin1 smax1 len1 slen1 u81 hL1 op1 hop1 call1 hcall1 code1 hcode1
      cbv
      refine vcIf.no (by first | (simp [hA1.not, hA1.eq, hA1.lt, hA1.le, hA1.cond, hA1.beq, hA1.orb, hL1.len, hL1.slen, hL1.sq, hi]; done) | (simp only [hi]; simp [hA1.not, hA1.eq, hA1.lt, hA1.le, hA1.cond, hA1.beq, hA1.orb, hL1.len, hL1.slen, hL1.sq, hi]; done) | (simp [hA1.not, hA1.eq, hA1.lt, hA1.le, hA1.cond, hA1.beq, hA1.orb, hL1.len, hL1.slen, hL1.sq, hi]; omega) | (simp only [hi]; simp [hA1.not, hA1.eq, hA1.lt, hA1.le, hA1.cond, hA1.beq, hA1.orb, hL1.len, hL1.slen, hL1.sq, hi]; omega)) ?_
      cbv
      refine hret _ (RetEv.retF eOk rfl 0 rfl (by rw [hB]; exact Nat.zero_le _) ⟨.sl us, ?_, by rw [hR1, k2]; exact .refl _⟩)
      rw [he0]
      show V.p (.tup [.sl ((us.drop 0).take i), .int .i64 0]) = _
      rw [hiM, frz_full hul]
      rfl
  · have hfe := he2 (Bool.eq_false_iff.2 hSS)
    have hSS := Bool.eq_false_iff.2 hSS
    refine vcIf.yes (by first | (simp [hA.not, hA.eq, hA.lt, hA.le, hA.cond, hA.beq, hA.orb, hL.len, hL.slen, hL.sq, hSS]; done) | (simp only [hSS]; simp [hA.not, hA.eq, hA.lt, hA.le, hA.cond, hA.beq, hA.orb, hL.len, hL.slen, hL.sq, hSS]; done) | (simp [hA.not, hA.eq, hA.lt, hA.le, hA.cond, hA.beq, hA.orb, hL.len, hL.slen, hL.sq, hSS]; omega) | (simp only [hSS]; simp [hA.not, hA.eq, hA.lt, hA.le, hA.cond, hA.beq, hA.orb, hL.len, hL.slen, hL.sq, hSS]; omega)) ?_
    cbv
    exact hret _ (RetEv.ret eOk rfl ⟨.nils, by rw [hfe]; rfl, by rw [hR0 (by rw [hfe]; decide)]; exact .nils⟩)
end Go.Proofs.Ytknhlbohjiphgaa
