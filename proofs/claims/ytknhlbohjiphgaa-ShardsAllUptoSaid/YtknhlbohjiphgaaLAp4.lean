/- Pairs behind changes; the document's. Conditions: on sizes. -/
import Derived.Test.YtknhlbohjiphgaaLAp3
set_option maxRecDepth 100000
set_option maxHeartbeats 16000000
set_option linter.unusedSimpArgs false
set_option linter.unusedVariables false
namespace Go.Proofs.Ytknhlbohjiphgaa
open Go Go.Lx
open Go.Sx (vcIf)

theorem oneSt_len2 (c : Chg) (ul : List Pr) (put : Bool) (p : Pr) (n : Nat) (h : ul.length ≤ n + (if put = true then 1 else 0)) : (oneSt c (ul, put) p).1.length ≤ n + 1 + (if (oneSt c (ul, put) p).2 = true then 1 else 0) := by
  by_cases h1 : put = true ∨ Op.bytesLess p.key c.key = true
  · rw [oneSt_no _ _ _ _ h1]
    simp only
    split
    · omega
    · simp only [List.length_append, List.length_singleton]; omega
  · have h2 : put = false := Bool.eq_false_iff.2 fun d => h1 (.inl d)
    have h3 : Op.bytesLess p.key c.key = false := Bool.eq_false_iff.2 fun d => h1 (.inr d)
    rw [oneSt_in _ _ _ _ h2 h3]
    rw [h2] at h
    simp only [if_pos]
    split
    · simp only [List.length_append, List.length_singleton]; simp at h; omega
    · simp only [List.length_append, List.length_singleton]; simp at h; omega
theorem oneFold_len (c : Chg) : ∀ (ps : List Pr) (ul : List Pr) (put : Bool) (n : Nat), ul.length ≤ n + (if put = true then 1 else 0) → (ps.foldl (oneSt c) (ul, put)).1.length ≤ n + ps.length + (if (ps.foldl (oneSt c) (ul, put)).2 = true then 1 else 0)
  | [], ul, put, n, h => h
  | p :: ps, ul, put, n, h => by
    have h1 := oneSt_len2 c ul put p n h
    have h2 := oneFold_len c ps (oneSt c (ul, put) p).1 (oneSt c (ul, put) p).2 (n + 1) h1
    simp only [List.foldl_cons, List.length_cons]
    have e : n + (ps.length + 1) = n + 1 + ps.length := by omega
    rw [e]; exact h2
theorem one_len (ps : List Pr) (c : Chg) : (one ps c).length ≤ ps.length + 1 := by
  have := oneFold_len c ps [] (decide (c.kind ≠ 1)) 0 (Nat.zero_le _)
  unfold one
  by_cases h : (oneF c ps).2 = true
  · rw [if_pos h]
    unfold oneF at h ⊢
    rw [h] at this; simpa using this
  · rw [if_neg h]
    have h := Bool.eq_false_iff.2 h
    unfold oneF at h ⊢
    rw [h] at this
    simp at this ⊢; omega
def app (ps : List Pr) (l : List Chg) : List Pr := l.foldl one ps
theorem app_next (ps : List Pr) {l : List Chg} {i : Nat} {c : Chg} (h : l[i]? = some c) : app ps (l.take (i + 1)) = one (app ps (l.take i)) c := by
  unfold app; rw [List.take_add_one, h, List.foldl_append]; rfl
theorem app_len : ∀ (l : List Chg) (ps : List Pr), (app ps l).length ≤ ps.length + l.length
  | [], ps => Nat.le_refl _
  | c :: l, ps => by
    have := app_len l (one ps c)
    have h1 := one_len ps c
    unfold app at this ⊢
    simp only [List.foldl_cons, List.length_cons]; omega
def appE (ps : List Pr) (l : List Chg) : Nat := if chks l = 0 then (if sndP ps = true then 0 else 2) else chks l
def appR (ps : List Pr) (l : List Chg) : List Pr := if appE ps l = 0 then app ps l else []

theorem rApply_spec (ps : List Pr) (hp : ∀ p ∈ ps, p.fit) (l : List Chg) (hf : ∀ c ∈ l, c.fit) (hn : (ps.length + l.length) * 32 + 32 ≤ 140737488355328) (zs cs : List PV) (hzs : zs = prP ps) (hcs : cs = cP l) :
    FnL Try.prog 21 [.p (.sl zs), .p (.sl cs)] [] fun v own => v = .p (.tup [.sl (prP (appR ps l)), .int .i64 (Int.ofNat (appE ps l))]) ∧ own = [] := by
  obtain ⟨R, hR⟩ : ∃ R, R = prP (appR ps l) := ⟨_, rfl⟩
  obtain ⟨e, he⟩ : ∃ e, e = appE ps l := ⟨_, rfl⟩
  have hR0 : e ≠ 0 → R = [] := fun h => by rw [hR, appR, if_neg (by rw [← he]; exact h)]; rfl
  have hR1 : e = 0 → R = prP (app ps l) := fun h => by rw [hR, appR, if_pos (by rw [← he]; exact h)]
  rw [← hR, ← he]
  refine FnL.flat (R := fun v own => ∃ x, v = .p (.tup [x, .int .i64 (Int.ofNat e)]) ∧ PW x (.sl R)) ?_ (by
    rintro _ _ ⟨x, rfl, h⟩; exact ⟨_, .tup [.sl R, .int .i64 (Int.ofNat e)], rfl, .tup ⟨h, .refl _, trivial⟩, rfl, rfl⟩)
  have hall := rall_spec l (by omega) cs hcs
  have hsd := rsndP_spec ps (by omega) hp zs hzs
  obtain ⟨C, hC⟩ : ∃ C, C = chks l := ⟨_, rfl⟩
  obtain ⟨S, hS⟩ : ∃ S, S = sndP ps := ⟨_, rfl⟩
  have he0 : C ≠ 0 → e = C := fun h => by rw [he, appE, ← hC, if_neg h]
  have he1 : C = 0 → S = true → e = 0 := fun h h' => by rw [he, appE, ← hC, if_pos h, ← hS, if_pos h']
  have he2 : C = 0 → S = false → e = 2 := fun h h' => by rw [he, appE, ← hC, if_pos h, ← hS, h']; rfl
  rw [← hC] at hall
  rw [← hS] at hsd
  obtain ⟨N, hN⟩ : ∃ n, n = l.length := ⟨_, rfl⟩
  have hcl : cs.length = N := by rw [hcs, cP_length, hN]
  have hal := fun i => app_len (l.take i) ps
  refine fn_of_vc eOk fOk fo21 Try.func21 rfl rfl rfl fun B hB => ?_
  intro add sub mul quo rem band bor bxor bclr shl shr ieq ilt ile seq slt beq bnot orb bcond iwrap iof ssz hA cat sq sl imin imax smin smax len slen u8 hL op hop call hcall code hcode ret hret
  cbv
  refine hcall _ _ _ _ _ (CallEv.same hall rfl ?_)
  rintro _ _ ⟨c0, hc0, rfl, rfl⟩
  cbv
  by_cases hC0 : c0 = 0
  · have hCz : C = 0 := by omega
    refine vcIf.no (by first | (simp [hA.not, hA.eq, hA.lt, hA.le, hA.cond, hA.beq, hA.orb, hL.len, hL.slen, hL.sq, hC0]; done) | (simp only [hC0]; simp [hA.not, hA.eq, hA.lt, hA.le, hA.cond, hA.beq, hA.orb, hL.len, hL.slen, hL.sq, hC0]; done) | (simp [hA.not, hA.eq, hA.lt, hA.le, hA.cond, hA.beq, hA.orb, hL.len, hL.slen, hL.sq, hC0]; omega) | (simp only [hC0]; simp [hA.not, hA.eq, hA.lt, hA.le, hA.cond, hA.beq, hA.orb, hL.len, hL.slen, hL.sq, hC0]; omega)) ?_
    cbv
    refine hcall _ _ _ _ _ (CallEv.same hsd rfl ?_)
    rintro _ _ ⟨rfl, rfl⟩
    cbv
    by_cases hSS : S = true
    · have hfe := he1 hCz hSS
      have hR1 := hR1 hfe
      refine vcIf.no (by first | (simp [hA.not, hA.eq, hA.lt, hA.le, hA.cond, hA.beq, hA.orb, hL.len, hL.slen, hL.sq, hSS]; done) | (simp only [hSS]; simp [hA.not, hA.eq, hA.lt, hA.le, hA.cond, hA.beq, hA.orb, hL.len, hL.slen, hL.sq, hSS]; done) | (simp [hA.not, hA.eq, hA.lt, hA.le, hA.cond, hA.beq, hA.orb, hL.len, hL.slen, hL.sq, hSS]; omega) | (simp only [hSS]; simp [hA.not, hA.eq, hA.lt, hA.le, hA.cond, hA.beq, hA.orb, hL.len, hL.slen, hL.sq, hSS]; omega)) ?_
      cbv
      refine hcode _ _ _ (CodeEv.loop eOk fOk (ι := Nat × List PV) (fun q => [(0, .p (.sl q.2)), (1, .p (.sl cs)), (7, .p (.int .i64 (Int.ofNat q.1)))])
        (fun q => []) (fun q => q.1 ≤ N ∧ q.2 = prP (app ps (l.take q.1))) (fun q => N - q.1) (0, zs) ?_ ?_)
      · exact ⟨(by repeat (first | exact trivial | refine And.intro rfl ?_)), rfl, Nat.zero_le _, hzs⟩
      rintro ⟨i, us⟩ ⟨k1, k2⟩ rd hrd
      simp only at k1 k2
      by_cases hi : i < N
      · refine Exists.elim (get_of_lt (show i < l.length by omega)) fun c hc => ?_
        have hnx := app_next ps hc
        have hal := hal i
        rw [List.length_take] at hal
        have h1 := rOne_spec (app ps (l.take i)) (by omega) c (hf c (List.mem_of_getElem? hc)) us k2
        rw [← hnx] at h1
        have hci : cs[i]? = some (.agg [.int .i64 c.kind, .str c.key, .str c.val]) := by rw [hcs]; exact cP_get hc
        refine Exists.elim (show ∃ x, x = prP (app ps (l.take (i + 1))) from ⟨_, rfl⟩) fun ws hws => ?_
        rw [← hws] at h1
        obtain ⟨kd, ky, vl⟩ := c
        simp only at hci h1
        intro add1 sub1 mul1 quo1 rem1 band1 bor1 bxor1 bclr1 shl1 shr1 ieq1 ilt1 ile1 seq1 slt1 beq1 bnot1 orb1 bcond1 iwrap1 iof1 ssz1 hA1 cat1 sq1 sl1 imin1 imax1 smin1 smax1 len1 slen1 u81 hL1 op1 hop1 call1 hcall1 code1 hcode1
        have e0 : len1 cs = Int.ofNat N := by rw [hL1.len, hcl]; rfl
        have hadd1 : add1 .i64 (Int.ofNat i) 1 = Int.ofNat (i + 1) := by rw [hA1.add, IntWalk.i64_in _ (by simp only [Int.ofNat_eq_natCast]; omega)]; rfl
        cbv
        refine vcIf.yes (by first | (simp [hA1.not, hA1.eq, hA1.lt, hA1.le, hA1.cond, hA1.beq, hA1.orb, hL1.len, hL1.slen, hL1.sq, e0, hi]; done) | (simp only [e0, hi]; simp [hA1.not, hA1.eq, hA1.lt, hA1.le, hA1.cond, hA1.beq, hA1.orb, hL1.len, hL1.slen, hL1.sq, e0, hi]; done) | (simp [hA1.not, hA1.eq, hA1.lt, hA1.le, hA1.cond, hA1.beq, hA1.orb, hL1.len, hL1.slen, hL1.sq, e0, hi]; omega) | (simp only [e0, hi]; simp [hA1.not, hA1.eq, hA1.lt, hA1.le, hA1.cond, hA1.beq, hA1.orb, hL1.len, hL1.slen, hL1.sq, e0, hi]; omega)) ?_
        cbv
        refine ⟨i, _, rfl, hci, rfl, ?_⟩
        cbv
        refine hcall1 _ _ _ _ _ (CallEv.same h1 rfl ?_)
        rintro _ _ ⟨rfl, rfl⟩
        cbv
        refine hrd _ ⟨(i + 1, ws), _, ?_, ⟨by simp only; omega, hws⟩, rfl, ⟨rfl, rfl, ?_, trivial⟩, rfl, rfl, rfl, ?_⟩
        · simp only; omega
        · show some (V.p (.int .i64 _)) = _
          rw [hadd1]
        · rw [hB]; exact Nat.zero_le _
      · rw [List.take_of_length_le (by omega)] at k2
        intro add1 sub1 mul1 quo1 rem1 band1 bor1 bxor1 bclr1 shl1 shr1 ieq1 ilt1 ile1 seq1 slt1 beq1 bnot1 orb1 bcond1 iwrap1 iof1 ssz1 hA1 cat1 sq1 sl1 imin1 imax1 smin1 smax1 len1 slen1 u81 hL1 op1 hop1 call1 hcall1 code1 hcode1
        have e0 : len1 cs = Int.ofNat N := by rw [hL1.len, hcl]; rfl
        cbv
        refine vcIf.no (by first | (simp [hA1.not, hA1.eq, hA1.lt, hA1.le, hA1.cond, hA1.beq, hA1.orb, hL1.len, hL1.slen, hL1.sq, e0, hi]; done) | (simp only [e0, hi]; simp [hA1.not, hA1.eq, hA1.lt, hA1.le, hA1.cond, hA1.beq, hA1.orb, hL1.len, hL1.slen, hL1.sq, e0, hi]; done) | (simp [hA1.not, hA1.eq, hA1.lt, hA1.le, hA1.cond, hA1.beq, hA1.orb, hL1.len, hL1.slen, hL1.sq, e0, hi]; omega) | (simp only [e0, hi]; simp [hA1.not, hA1.eq, hA1.lt, hA1.le, hA1.cond, hA1.beq, hA1.orb, hL1.len, hL1.slen, hL1.sq, e0, hi]; omega)) ?_
        cbv
        exact hret _ (RetEv.ret eOk rfl ⟨.sl us, by rw [hfe]; rfl, by rw [hR1, k2]; exact .refl _⟩)
    · have hSf := Bool.eq_false_iff.2 hSS
      have hfe := he2 hCz hSf
      refine vcIf.yes (by first | (simp [hA.not, hA.eq, hA.lt, hA.le, hA.cond, hA.beq, hA.orb, hL.len, hL.slen, hL.sq, hSf]; done) | (simp only [hSf]; simp [hA.not, hA.eq, hA.lt, hA.le, hA.cond, hA.beq, hA.orb, hL.len, hL.slen, hL.sq, hSf]; done) | (simp [hA.not, hA.eq, hA.lt, hA.le, hA.cond, hA.beq, hA.orb, hL.len, hL.slen, hL.sq, hSf]; omega) | (simp only [hSf]; simp [hA.not, hA.eq, hA.lt, hA.le, hA.cond, hA.beq, hA.orb, hL.len, hL.slen, hL.sq, hSf]; omega)) ?_
      cbv
      exact hret _ (RetEv.ret eOk rfl ⟨.nils, by rw [hfe]; rfl, by rw [hR0 (by rw [hfe]; decide)]; exact .nils⟩)
  · have hfe := he0 (by omega)
    have hce : e = c0 := hfe.trans hc0.symm
    refine vcIf.yes (by first | (simp [hA.not, hA.eq, hA.lt, hA.le, hA.cond, hA.beq, hA.orb, hL.len, hL.slen, hL.sq, hC0]; done) | (simp only [hC0]; simp [hA.not, hA.eq, hA.lt, hA.le, hA.cond, hA.beq, hA.orb, hL.len, hL.slen, hL.sq, hC0]; done) | (simp [hA.not, hA.eq, hA.lt, hA.le, hA.cond, hA.beq, hA.orb, hL.len, hL.slen, hL.sq, hC0]; omega) | (simp only [hC0]; simp [hA.not, hA.eq, hA.lt, hA.le, hA.cond, hA.beq, hA.orb, hL.len, hL.slen, hL.sq, hC0]; omega)) ?_
    cbv
    exact hret _ (RetEv.ret eOk rfl ⟨.nils, by rw [hce]; rfl, by rw [hR0 (by rw [hce]; exact hC0)]; exact .nils⟩)
end Go.Proofs.Ytknhlbohjiphgaa
