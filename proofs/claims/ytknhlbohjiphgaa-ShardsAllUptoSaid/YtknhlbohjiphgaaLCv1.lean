/- What shards.Carve answers: what a transaction does of each piece. Conditions: on sizes. -/
import Derived.Test.YtknhlbohjiphgaaLSr1
import Derived.Test.YtknhlbohjiphgaaLY3
set_option maxRecDepth 100000
set_option maxHeartbeats 16000000
set_option linter.unusedSimpArgs false
set_option linter.unusedVariables false
namespace Go.Proofs.Ytknhlbohjiphgaa
open Go Go.Lx
open Go.Sx (vcIf)

def rd1 (p s : Spn) : List Spn := if Op.bytesLess (mt s p).lo (mt s p).hi = true then [mt s p] else []
def rdL (p : Spn) (l : List Spn) : List Spn := l.flatMap (rd1 p)
theorem rdL_next (p : Spn) {l : List Spn} {i : Nat} {c : Spn} (h : l[i]? = some c) : rdL p (l.take (i + 1)) = rdL p (l.take i) ++ rd1 p c := by
  rw [List.take_add_one, h, rdL, List.flatMap_append]; simp [rdL]
theorem rd1_len (p c : Spn) : (rd1 p c).length ≤ 1 := by unfold rd1; split <;> simp
theorem rdL_len (p : Spn) : ∀ l, (rdL p l).length ≤ l.length
  | [] => Nat.le_refl _
  | c :: l => by
    have := rdL_len p l
    have h1 := rd1_len p c
    simp only [rdL, List.flatMap_cons, List.length_append, List.length_cons] at this ⊢
    omega
def tP (ts : List Tx) : List PV := ts.map Tx.v
theorem tP_length (ts : List Tx) : (tP ts).length = ts.length := List.length_map _
theorem tP_get {ts : List Tx} {i : Nat} {t : Tx} (h : ts[i]? = some t) : (tP ts)[i]? = some (.agg [.int .i64 t.r, .sl (pP t.sp), .sl (cP t.ch)]) := by unfold tP; rw [List.getElem?_map, h]; rfl
theorem Tx.wf (t : Tx) : t.v.wf 3 := ⟨rfl, fun u hu => by simp [Tx.v, PV.cells] at hu; rcases hu with rfl | rfl | rfl <;> rfl⟩
def cvT (bs : BL) (t : Tx) (n : Nat) : Tx := ⟨t.r, rdL (pc bs n) t.sp, cutL (pc bs n) t.ch⟩
def cvL (bs : BL) (t : Tx) (n : Nat) : List Tx := (List.range n).map (cvT bs t)
theorem cvL_next (bs : BL) (t : Tx) (n : Nat) : cvL bs t (n + 1) = cvL bs t n ++ [cvT bs t n] := by simp [cvL, List.range_succ]
theorem cvL_length (bs : BL) (t : Tx) (n : Nat) : (cvL bs t n).length = n := by simp [cvL]
def cvE (bs : BL) (t : Tx) : Nat := if sndB bs = true ∧ t.okB = true then 0 else 2
def cvR (bs : BL) (t : Tx) : List Tx := if cvE bs t = 0 then cvL bs t (bs.length + 1) else []

theorem carve_spec (bs : BL) (hn : bs.length < 281474976710656) (hb : ∀ b ∈ bs, b.length < 281474976710656) (zs : List PV) (hzs : zs = sP bs) (t : Tx) (ht : t.fit) (hch : t.ch.length * 40 ≤ 140737488355328) (xs cs : List PV) (hxs : xs = pP t.sp) (hcs : cs = cP t.ch) :
    FnL Try.prog 23 [.p (.sl zs), .p (.agg [.int .i64 t.r, .sl xs, .sl cs])] [] fun v own => v = .p (.tup [.sl (tP (cvR bs t)), .int .i64 (Int.ofNat (cvE bs t))]) ∧ own = [] := by
  obtain ⟨R, hR⟩ : ∃ R, R = tP (cvR bs t) := ⟨_, rfl⟩
  obtain ⟨e, he⟩ : ∃ e, e = cvE bs t := ⟨_, rfl⟩
  have hR0 : e ≠ 0 → R = [] := fun h => by rw [hR, cvR, if_neg (by rw [← he]; exact h)]; rfl
  have hR1 : e = 0 → R = tP (cvL bs t (bs.length + 1)) := fun h => by rw [hR, cvR, if_pos (by rw [← he]; exact h)]
  rw [← hR, ← he]
  refine FnL.flat (R := fun v own => ∃ x, v = .p (.tup [x, .int .i64 (Int.ofNat e)]) ∧ PW x (.sl R)) ?_ (by
    rintro _ _ ⟨x, rfl, h⟩; exact ⟨_, .tup [.sl R, .int .i64 (Int.ofNat e)], rfl, .tup ⟨h, .refl _, trivial⟩, rfl, rfl⟩)
  have hsd := sound_spec bs hn hb zs hzs
  have h8 : 8 ≤ bs.length → sndB bs = false := fun h => decide_eq_false fun c => by omega
  have hfr := frTxn_spec t ht xs cs hxs hcs
  have hok := t.ok_iff
  obtain ⟨N, hN⟩ : ∃ n, n = bs.length := ⟨_, rfl⟩
  have hzl : zs.length = N := by rw [hzs, sP_length, hN]
  obtain ⟨S, hS⟩ : ∃ S, S = sndB bs := ⟨_, rfl⟩
  obtain ⟨K, hK⟩ : ∃ K, K = t.okB := ⟨_, rfl⟩
  have he2 : S = false ∨ K = false → e = 2 := fun h => by rw [he, cvE, if_neg]; rw [← hS, ← hK]; rintro ⟨a, b⟩; rcases h with h | h <;> simp_all
  have he0 : S = true → K = true → e = 0 := fun h h' => by rw [he, cvE, ← hS, ← hK, if_pos ⟨h, h'⟩]
  have hpcs := fun i (h : i ≤ bs.length) => piece_spec bs hn i h zs hzs
  have hcus := fun (h : S = true) i (h' : i ≤ bs.length) => chCut_spec (pc bs i) (by have := (pc_len (bs := bs) (by rw [← hS]; exact h) i h').1; omega) (by have := (pc_len (bs := bs) (by rw [← hS]; exact h) i h').2; omega) t.ch ht.2.1 hch cs hcs
  have hces := fun (h : S = true) (h2 : K = true) i (h' : i ≤ bs.length) => (pc_cutE (bs := bs) (by rw [← hS]; exact h) i h' t.ch).trans (hok.1 (by rw [← hK]; exact h2)).2.2.2.1
  have hspl : K = true → t.sp.length ≤ 24 := fun h => (hok.1 (by rw [← hK]; exact h)).2.1
  rw [← hS] at hsd h8
  rw [← hK] at hfr
  rw [← hN] at h8 hpcs hcus hces hR1
  obtain ⟨r, hr⟩ : ∃ r, r = t.r := ⟨_, rfl⟩
  obtain ⟨m, hm⟩ : ∃ m, m = t.sp.length := ⟨_, rfl⟩
  have hxl : xs.length = m := by rw [hxs, pP_length, hm]
  rw [← hm] at hspl
  rw [← hr] at hfr ⊢
  clear hok
  refine fn_of_vc eOk fOk fo23 Try.func23 rfl rfl rfl fun B hB => ?_
  intro add sub mul quo rem band bor bxor bclr shl shr ieq ilt ile seq slt beq bnot orb bcond iwrap iof ssz hA cat sq sl imin imax smin smax len slen u8 hL op hop call hcall code hcode ret hret
  have hlen : len zs = Int.ofNat N := by rw [hL.len, hzl]; rfl
  cbv
  by_cases hN8 : 8 ≤ N
  · have hfe := he2 (.inl (h8 hN8))
    refine vcIf.yes (by first | (simp [hA.not, hA.eq, hA.lt, hA.le, hA.cond, hA.beq, hA.orb, hL.len, hL.slen, hL.sq, hlen, hN8]; done) | (simp only [hlen, hN8]; simp [hA.not, hA.eq, hA.lt, hA.le, hA.cond, hA.beq, hA.orb, hL.len, hL.slen, hL.sq, hlen, hN8]; done) | (simp [hA.not, hA.eq, hA.lt, hA.le, hA.cond, hA.beq, hA.orb, hL.len, hL.slen, hL.sq, hlen, hN8]; omega) | (simp only [hlen, hN8]; simp [hA.not, hA.eq, hA.lt, hA.le, hA.cond, hA.beq, hA.orb, hL.len, hL.slen, hL.sq, hlen, hN8]; omega)) ?_
    cbv
    exact hret _ (RetEv.ret eOk rfl ⟨.nils, by rw [hfe]; rfl, by rw [hR0 (by rw [hfe]; decide)]; exact .nils⟩)
  refine vcIf.no (by first | (simp [hA.not, hA.eq, hA.lt, hA.le, hA.cond, hA.beq, hA.orb, hL.len, hL.slen, hL.sq, hlen, hN8]; done) | (simp only [hlen, hN8]; simp [hA.not, hA.eq, hA.lt, hA.le, hA.cond, hA.beq, hA.orb, hL.len, hL.slen, hL.sq, hlen, hN8]; done) | (simp [hA.not, hA.eq, hA.lt, hA.le, hA.cond, hA.beq, hA.orb, hL.len, hL.slen, hL.sq, hlen, hN8]; omega) | (simp only [hlen, hN8]; simp [hA.not, hA.eq, hA.lt, hA.le, hA.cond, hA.beq, hA.orb, hL.len, hL.slen, hL.sq, hlen, hN8]; omega)) ?_
  cbv
  refine hcall _ _ _ _ _ (CallEv.same hsd rfl ?_)
  rintro _ _ ⟨rfl, rfl⟩
  cbv
  by_cases hSS : S = true
  · refine vcIf.no (by first | (simp [hA.not, hA.eq, hA.lt, hA.le, hA.cond, hA.beq, hA.orb, hL.len, hL.slen, hL.sq, hSS]; done) | (simp only [hSS]; simp [hA.not, hA.eq, hA.lt, hA.le, hA.cond, hA.beq, hA.orb, hL.len, hL.slen, hL.sq, hSS]; done) | (simp [hA.not, hA.eq, hA.lt, hA.le, hA.cond, hA.beq, hA.orb, hL.len, hL.slen, hL.sq, hSS]; omega) | (simp only [hSS]; simp [hA.not, hA.eq, hA.lt, hA.le, hA.cond, hA.beq, hA.orb, hL.len, hL.slen, hL.sq, hSS]; omega)) ?_
    cbv
    refine hcall _ _ _ _ _ (CallEv.same hfr rfl ?_)
    rintro _ _ ⟨K2, hK2, rfl, rfl⟩
    cbv
    by_cases hKK : K2 = true
    · have hKt : K = true := hK2.symm.trans hKK
      have hfe := he0 hSS hKt
      have hcus := hcus hSS
      have hces := hces hSS hKt
      have hspl := hspl hKt
      have hR1 := hR1 hfe
      obtain ⟨M, hM⟩ : ∃ M, M = N + 1 := ⟨_, rfl⟩
      rw [← hM] at hR1
      have hadd0 : add .i64 (len zs) 1 = Int.ofNat M := by rw [hlen, hA.add, IntWalk.i64_in _ (by simp only [Int.ofNat_eq_natCast]; omega), hM]; rfl
      refine vcIf.no (by first | (simp [hA.not, hA.eq, hA.lt, hA.le, hA.cond, hA.beq, hA.orb, hL.len, hL.slen, hL.sq, hKK]; done) | (simp only [hKK]; simp [hA.not, hA.eq, hA.lt, hA.le, hA.cond, hA.beq, hA.orb, hL.len, hL.slen, hL.sq, hKK]; done) | (simp [hA.not, hA.eq, hA.lt, hA.le, hA.cond, hA.beq, hA.orb, hL.len, hL.slen, hL.sq, hKK]; omega) | (simp only [hKK]; simp [hA.not, hA.eq, hA.lt, hA.le, hA.cond, hA.beq, hA.orb, hL.len, hL.slen, hL.sq, hKK]; omega)) ?_
      cbv
      rw [hadd0]
      refine hcode _ _ _ (CodeEv.conv (Conv.hollow 6 52 3 (by decide) rfl) (CodeEv.loop eOk fOk (ι := Nat × List PV) (fun q => [(0, .p (.sl zs)), (3, .own 0 0), (6, .vw 1 3 0 q.1 none), (27, .p (.int .i64 (Int.ofNat M))), (28, .p (.int .i64 (Int.ofNat q.1)))])
        (fun q => [.st 52 [.p (.int .i64 r), .p (.sl xs), .p (.sl cs)], .arr 52 3 q.2]) (fun q => q.1 ≤ M ∧ q.2 = tP (cvL bs t q.1)) (fun q => M - q.1) (0, []) ?_ ?_))
      · exact ⟨(by repeat (first | exact trivial | refine And.intro rfl ?_)), rfl, Nat.zero_le _, rfl⟩
      rintro ⟨i, us⟩ ⟨k1, k2⟩ rd hrd
      simp only at k1 k2
      have hul : us.length = i := by rw [k2, tP_length, cvL_length]
      by_cases hi : i < M
      · have hpc := hpcs i (by omega)
        have hcu := hcus i (by omega)
        have hce := hces i (by omega)
        rw [hce, cutR, if_pos hce, show (pc bs i).lo = pcLo bs i from rfl, show (pc bs i).hi = pcHi bs i from rfl] at hcu
        refine Exists.elim (show ∃ x, x = pcLo bs i from ⟨_, rfl⟩) fun lo hlo => ?_
        refine Exists.elim (show ∃ x, x = pcHi bs i from ⟨_, rfl⟩) fun hii hhi => ?_
        have hpce : pc bs i = ⟨lo, hii⟩ := by rw [hlo, hhi]; rfl
        refine Exists.elim (show ∃ x, x = cP (cutL (pc bs i) t.ch) from ⟨_, rfl⟩) fun cu hcuE => ?_
        rw [← hlo, ← hhi] at hpc hcu
        rw [← hcuE] at hcu
        clear hlo hhi
        intro add1 sub1 mul1 quo1 rem1 band1 bor1 bxor1 bclr1 shl1 shr1 ieq1 ilt1 ile1 seq1 slt1 beq1 bnot1 orb1 bcond1 iwrap1 iof1 ssz1 hA1 cat1 sq1 sl1 imin1 imax1 smin1 smax1 len1 slen1 u81 hL1 op1 hop1 call1 hcall1 code1 hcode1
        have e1 : len1 xs = Int.ofNat m := by rw [hL1.len, hxl]; rfl
        have hadd1 : add1 .i64 (Int.ofNat i) 1 = Int.ofNat (i + 1) := by rw [hA1.add, IntWalk.i64_in _ (by simp only [Int.ofNat_eq_natCast]; omega)]; rfl
        cbv
        refine vcIf.yes (by first | (simp [hA1.not, hA1.eq, hA1.lt, hA1.le, hA1.cond, hA1.beq, hA1.orb, hL1.len, hL1.slen, hL1.sq, hi]; done) | (simp only [hi]; simp [hA1.not, hA1.eq, hA1.lt, hA1.le, hA1.cond, hA1.beq, hA1.orb, hL1.len, hL1.slen, hL1.sq, hi]; done) | (simp [hA1.not, hA1.eq, hA1.lt, hA1.le, hA1.cond, hA1.beq, hA1.orb, hL1.len, hL1.slen, hL1.sq, hi]; omega) | (simp only [hi]; simp [hA1.not, hA1.eq, hA1.lt, hA1.le, hA1.cond, hA1.beq, hA1.orb, hL1.len, hL1.slen, hL1.sq, hi]; omega)) ?_
        cbv
        rw [e1]
        refine hcode1 _ _ _ (CodeEv.conv (Conv.hollowC 2 1 31 2 (by decide) rfl rfl) (CodeEv.loop eOk fOk (ι := Nat × Nat × List PV) (fun q => [(0, .p (.sl zs)), (3, .own 0 0), (6, .vw 1 3 0 i none), (27, .p (.int .i64 (Int.ofNat M))), (28, .p (.int .i64 (Int.ofNat i))), (7, .p (.int .i64 (Int.ofNat i))), (8, .own 2 0), (35, .p (.sl xs)), (36, .p (.int .i64 (Int.ofNat m))), (37, .p (.int .i64 (Int.ofNat q.1)))])
          (fun q => [.st 52 [.p (.int .i64 r), .p (.sl xs), .p (.sl cs)], .arr 52 3 us, .st 52 [.p (.int .i64 r), .vw 3 2 0 q.2.1 none, .p .nils], .arr 31 2 q.2.2])
          (fun q => q.1 ≤ m ∧ q.2.1 ≤ q.1 ∧ q.2.2.length = q.2.1 ∧ q.2.2 = pP (rdL (pc bs i) (t.sp.take q.1))) (fun q => m - q.1) (0, 0, []) ?_ ?_))
        · exact ⟨(by repeat (first | exact trivial | refine And.intro rfl ?_)), rfl, Nat.zero_le _, Nat.le_refl _, rfl, rfl⟩
        rintro ⟨j, k, ws⟩ ⟨m1, m2, m3, m4⟩ rd2 hrd2
        simp only at m1 m2 m3 m4
        by_cases hj : j < m
        · refine Exists.elim (get_of_lt (show j < t.sp.length by omega)) fun c hc => ?_
          have hnx := rdL_next (pc bs i) hc
          obtain ⟨ca, cb⟩ := c
          have hxj : xs[j]? = some (.agg [.str ca, .str cb]) := by rw [hxs]; exact pP_get hc
          have hmt := meet_spec ca cb lo hii
          have hr1 : rd1 (pc bs i) ⟨ca, cb⟩ = if Op.bytesLess (mt ⟨ca, cb⟩ ⟨lo, hii⟩).lo (mt ⟨ca, cb⟩ ⟨lo, hii⟩).hi = true then [mt ⟨ca, cb⟩ ⟨lo, hii⟩] else [] := by rw [rd1, hpce]
          refine Exists.elim (show ∃ x, x = mt ⟨ca, cb⟩ ⟨lo, hii⟩ from ⟨_, rfl⟩) fun mm hmm => ?_
          rw [← hmm] at hmt hr1
          clear hmm
          obtain ⟨ml, mh⟩ := mm
          simp only at hmt hr1
          have hem := empty_spec ml mh
          intro add2 sub2 mul2 quo2 rem2 band2 bor2 bxor2 bclr2 shl2 shr2 ieq2 ilt2 ile2 seq2 slt2 beq2 bnot2 orb2 bcond2 iwrap2 iof2 ssz2 hA2 cat2 sq2 sl2 imin2 imax2 smin2 smax2 len2 slen2 u82 hL2 op2 hop2 call2 hcall2 code2 hcode2
          have hadd2 : add2 .i64 (Int.ofNat j) 1 = Int.ofNat (j + 1) := by rw [hA2.add, IntWalk.i64_in _ (by simp only [Int.ofNat_eq_natCast]; omega)]; rfl
          cbv
          refine vcIf.yes (by first | (simp [hA2.not, hA2.eq, hA2.lt, hA2.le, hA2.cond, hA2.beq, hA2.orb, hL2.len, hL2.slen, hL2.sq, hj]; done) | (simp only [hj]; simp [hA2.not, hA2.eq, hA2.lt, hA2.le, hA2.cond, hA2.beq, hA2.orb, hL2.len, hL2.slen, hL2.sq, hj]; done) | (simp [hA2.not, hA2.eq, hA2.lt, hA2.le, hA2.cond, hA2.beq, hA2.orb, hL2.len, hL2.slen, hL2.sq, hj]; omega) | (simp only [hj]; simp [hA2.not, hA2.eq, hA2.lt, hA2.le, hA2.cond, hA2.beq, hA2.orb, hL2.len, hL2.slen, hL2.sq, hj]; omega)) ?_
          cbv
          refine ⟨j, _, rfl, hxj, rfl, ?_⟩
          cbv
          refine hcode2 _ _ _ (CodeEv.drawT eOk fOk (by kernel_rfl) (Xof 5 []) (.rd 0 (.rd 1 (.rd 2 (.acts (.cons 3 (.acts (.cons 4 (.acts (.cons 5 (.acts (.cons 6 (.done) (.nil))) (.nil))) (.cons 5 (.acts (.cons 4 (.acts (.cons 6 (.done) (.nil))) (.nil))) (.nil)))) (.cons 5 (.acts (.cons 3 (.acts (.cons 4 (.acts (.cons 6 (.done) (.nil))) (.nil))) (.nil))) (.nil))))))) (by kernel_rfl) (by kernel_rfl) ?_)
          intro add3 sub3 mul3 quo3 rem3 band3 bor3 bxor3 bclr3 shl3 shr3 ieq3 ilt3 ile3 seq3 slt3 beq3 bnot3 orb3 bcond3 iwrap3 iof3 ssz3 hA3 cat3 sq3 sl3 imin3 imax3 smin3 smax3 len3 slen3 u83 hL3 op3 hop3 call3 hcall3 code3 hcode3 q3 hq3
          cbv
          refine ⟨?_, ?_⟩
          · refine hcall3 _ _ _ _ _ (CallEv.same hpc rfl ?_)
            rintro _ _ ⟨rfl, rfl⟩
            cbv
            refine ⟨?_, ?_⟩
            · refine hcall3 _ _ _ _ _ (CallEv.same hmt rfl ?_)
              rintro _ _ ⟨_, rfl, rfl, rfl⟩
              cbv
              refine hq3 _ ?_
              cbv
              refine hcall2 _ _ _ _ _ (CallEv.same hem rfl ?_)
              rintro _ _ ⟨b2, hb2, rfl, rfl⟩
              cbv
              by_cases hlt : b2 = true
              · rw [if_neg (by intro c; rw [hlt, c] at hb2; cases hb2)] at hr1
                refine vcIf.no (by first | (simp [hA2.not, hA2.eq, hA2.lt, hA2.le, hA2.cond, hA2.beq, hA2.orb, hL2.len, hL2.slen, hL2.sq, hlt]; done) | (simp only [hlt]; simp [hA2.not, hA2.eq, hA2.lt, hA2.le, hA2.cond, hA2.beq, hA2.orb, hL2.len, hL2.slen, hL2.sq, hlt]; done) | (simp [hA2.not, hA2.eq, hA2.lt, hA2.le, hA2.cond, hA2.beq, hA2.orb, hL2.len, hL2.slen, hL2.sq, hlt]; omega) | (simp only [hlt]; simp [hA2.not, hA2.eq, hA2.lt, hA2.le, hA2.cond, hA2.beq, hA2.orb, hL2.len, hL2.slen, hL2.sq, hlt]; omega)) ?_
                cbv
                refine hrd2 _ ⟨(j + 1, k, ws), _, ?_, ⟨by simp only; omega, ?_, ?_, ?_⟩, rfl, ⟨rfl, rfl, rfl, rfl, rfl, rfl, rfl, rfl, rfl, ?_, trivial⟩, rfl, rfl, rfl, ?_⟩
                · simp only; omega
                · simp only; omega
                · exact m3
                · simp only; rw [hnx, hr1, m4]; simp
                · show some (V.p (.int .i64 _)) = _
                  rw [hadd2]
                · rw [hB]; exact Nat.zero_le _
              · have hlt := Bool.eq_false_iff.2 hlt
                rw [if_pos (by rw [hlt] at hb2; simpa using hb2.symm)] at hr1
                refine vcIf.yes (by first | (simp [hA2.not, hA2.eq, hA2.lt, hA2.le, hA2.cond, hA2.beq, hA2.orb, hL2.len, hL2.slen, hL2.sq, hlt]; done) | (simp only [hlt]; simp [hA2.not, hA2.eq, hA2.lt, hA2.le, hA2.cond, hA2.beq, hA2.orb, hL2.len, hL2.slen, hL2.sq, hlt]; done) | (simp [hA2.not, hA2.eq, hA2.lt, hA2.le, hA2.cond, hA2.beq, hA2.orb, hL2.len, hL2.slen, hL2.sq, hlt]; omega) | (simp only [hlt]; simp [hA2.not, hA2.eq, hA2.lt, hA2.le, hA2.cond, hA2.beq, hA2.orb, hL2.len, hL2.slen, hL2.sq, hlt]; omega)) ?_
                cbv
                refine ⟨false, ?_⟩
                cbv
                refine .inl ⟨(), rfl, m3.symm, Wf.one (Spn.wf ⟨ml, mh⟩), ?_, ?_, ?_⟩
                · show k + 1 ≤ maxLen
                  unfold maxLen; omega
                · show (k + 1) * 32 ≤ _
                  omega
                intro ws' n' hu hn'
                replace hu : ws' = ws ++ [Spn.v ⟨ml, mh⟩] := hu
                replace hn' : n' = k + 1 := hn'
                cbv
                refine hrd2 _ ⟨(j + 1, n', ws'), _, ?_, ⟨by simp only; omega, ?_, ?_, ?_⟩, rfl, ⟨rfl, rfl, rfl, rfl, rfl, rfl, rfl, rfl, rfl, ?_, trivial⟩, rfl, rfl, rfl, ?_⟩
                · simp only; omega
                · simp only; omega
                · simp only; rw [hu, hn', List.length_append, m3]; rfl
                · simp only; rw [hnx, hr1, hu, m4]; simp [pP]
                · show some (V.p (.int .i64 _)) = _
                  rw [hadd2]
                · rw [hB]; exact Nat.zero_le _
            · refine hcall3 _ _ _ _ _ (CallEv.same hmt rfl ?_)
              rintro _ _ ⟨_, rfl, rfl, rfl⟩
              cbv
              refine hq3 _ ?_
              cbv
              refine hcall2 _ _ _ _ _ (CallEv.same hem rfl ?_)
              rintro _ _ ⟨b2, hb2, rfl, rfl⟩
              cbv
              by_cases hlt : b2 = true
              · rw [if_neg (by intro c; rw [hlt, c] at hb2; cases hb2)] at hr1
                refine vcIf.no (by first | (simp [hA2.not, hA2.eq, hA2.lt, hA2.le, hA2.cond, hA2.beq, hA2.orb, hL2.len, hL2.slen, hL2.sq, hlt]; done) | (simp only [hlt]; simp [hA2.not, hA2.eq, hA2.lt, hA2.le, hA2.cond, hA2.beq, hA2.orb, hL2.len, hL2.slen, hL2.sq, hlt]; done) | (simp [hA2.not, hA2.eq, hA2.lt, hA2.le, hA2.cond, hA2.beq, hA2.orb, hL2.len, hL2.slen, hL2.sq, hlt]; omega) | (simp only [hlt]; simp [hA2.not, hA2.eq, hA2.lt, hA2.le, hA2.cond, hA2.beq, hA2.orb, hL2.len, hL2.slen, hL2.sq, hlt]; omega)) ?_
                cbv
                refine hrd2 _ ⟨(j + 1, k, ws), _, ?_, ⟨by simp only; omega, ?_, ?_, ?_⟩, rfl, ⟨rfl, rfl, rfl, rfl, rfl, rfl, rfl, rfl, rfl, ?_, trivial⟩, rfl, rfl, rfl, ?_⟩
                · simp only; omega
                · simp only; omega
                · exact m3
                · simp only; rw [hnx, hr1, m4]; simp
                · show some (V.p (.int .i64 _)) = _
                  rw [hadd2]
                · rw [hB]; exact Nat.zero_le _
              · have hlt := Bool.eq_false_iff.2 hlt
                rw [if_pos (by rw [hlt] at hb2; simpa using hb2.symm)] at hr1
                refine vcIf.yes (by first | (simp [hA2.not, hA2.eq, hA2.lt, hA2.le, hA2.cond, hA2.beq, hA2.orb, hL2.len, hL2.slen, hL2.sq, hlt]; done) | (simp only [hlt]; simp [hA2.not, hA2.eq, hA2.lt, hA2.le, hA2.cond, hA2.beq, hA2.orb, hL2.len, hL2.slen, hL2.sq, hlt]; done) | (simp [hA2.not, hA2.eq, hA2.lt, hA2.le, hA2.cond, hA2.beq, hA2.orb, hL2.len, hL2.slen, hL2.sq, hlt]; omega) | (simp only [hlt]; simp [hA2.not, hA2.eq, hA2.lt, hA2.le, hA2.cond, hA2.beq, hA2.orb, hL2.len, hL2.slen, hL2.sq, hlt]; omega)) ?_
                cbv
                refine ⟨false, ?_⟩
                cbv
                refine .inl ⟨(), rfl, m3.symm, Wf.one (Spn.wf ⟨ml, mh⟩), ?_, ?_, ?_⟩
                · show k + 1 ≤ maxLen
                  unfold maxLen; omega
                · show (k + 1) * 32 ≤ _
                  omega
                intro ws' n' hu hn'
                replace hu : ws' = ws ++ [Spn.v ⟨ml, mh⟩] := hu
                replace hn' : n' = k + 1 := hn'
                cbv
                refine hrd2 _ ⟨(j + 1, n', ws'), _, ?_, ⟨by simp only; omega, ?_, ?_, ?_⟩, rfl, ⟨rfl, rfl, rfl, rfl, rfl, rfl, rfl, rfl, rfl, ?_, trivial⟩, rfl, rfl, rfl, ?_⟩
                · simp only; omega
                · simp only; omega
                · simp only; rw [hu, hn', List.length_append, m3]; rfl
                · simp only; rw [hnx, hr1, hu, m4]; simp [pP]
                · show some (V.p (.int .i64 _)) = _
                  rw [hadd2]
                · rw [hB]; exact Nat.zero_le _
          · refine hcall3 _ _ _ _ _ (CallEv.same hpc rfl ?_)
            rintro _ _ ⟨rfl, rfl⟩
            cbv
            refine hcall3 _ _ _ _ _ (CallEv.same hmt rfl ?_)
            rintro _ _ ⟨_, rfl, rfl, rfl⟩
            cbv
            refine hq3 _ ?_
            cbv
            refine hcall2 _ _ _ _ _ (CallEv.same hem rfl ?_)
            rintro _ _ ⟨b2, hb2, rfl, rfl⟩
            cbv
            by_cases hlt : b2 = true
            · rw [if_neg (by intro c; rw [hlt, c] at hb2; cases hb2)] at hr1
              refine vcIf.no (by first | (simp [hA2.not, hA2.eq, hA2.lt, hA2.le, hA2.cond, hA2.beq, hA2.orb, hL2.len, hL2.slen, hL2.sq, hlt]; done) | (simp only [hlt]; simp [hA2.not, hA2.eq, hA2.lt, hA2.le, hA2.cond, hA2.beq, hA2.orb, hL2.len, hL2.slen, hL2.sq, hlt]; done) | (simp [hA2.not, hA2.eq, hA2.lt, hA2.le, hA2.cond, hA2.beq, hA2.orb, hL2.len, hL2.slen, hL2.sq, hlt]; omega) | (simp only [hlt]; simp [hA2.not, hA2.eq, hA2.lt, hA2.le, hA2.cond, hA2.beq, hA2.orb, hL2.len, hL2.slen, hL2.sq, hlt]; omega)) ?_
              cbv
              refine hrd2 _ ⟨(j + 1, k, ws), _, ?_, ⟨by simp only; omega, ?_, ?_, ?_⟩, rfl, ⟨rfl, rfl, rfl, rfl, rfl, rfl, rfl, rfl, rfl, ?_, trivial⟩, rfl, rfl, rfl, ?_⟩
              · simp only; omega
              · simp only; omega
              · exact m3
              · simp only; rw [hnx, hr1, m4]; simp
              · show some (V.p (.int .i64 _)) = _
                rw [hadd2]
              · rw [hB]; exact Nat.zero_le _
            · have hlt := Bool.eq_false_iff.2 hlt
              rw [if_pos (by rw [hlt] at hb2; simpa using hb2.symm)] at hr1
              refine vcIf.yes (by first | (simp [hA2.not, hA2.eq, hA2.lt, hA2.le, hA2.cond, hA2.beq, hA2.orb, hL2.len, hL2.slen, hL2.sq, hlt]; done) | (simp only [hlt]; simp [hA2.not, hA2.eq, hA2.lt, hA2.le, hA2.cond, hA2.beq, hA2.orb, hL2.len, hL2.slen, hL2.sq, hlt]; done) | (simp [hA2.not, hA2.eq, hA2.lt, hA2.le, hA2.cond, hA2.beq, hA2.orb, hL2.len, hL2.slen, hL2.sq, hlt]; omega) | (simp only [hlt]; simp [hA2.not, hA2.eq, hA2.lt, hA2.le, hA2.cond, hA2.beq, hA2.orb, hL2.len, hL2.slen, hL2.sq, hlt]; omega)) ?_
              cbv
              refine ⟨false, ?_⟩
              cbv
              refine .inl ⟨(), rfl, m3.symm, Wf.one (Spn.wf ⟨ml, mh⟩), ?_, ?_, ?_⟩
              · show k + 1 ≤ maxLen
                unfold maxLen; omega
              · show (k + 1) * 32 ≤ _
                omega
              intro ws' n' hu hn'
              replace hu : ws' = ws ++ [Spn.v ⟨ml, mh⟩] := hu
              replace hn' : n' = k + 1 := hn'
              cbv
              refine hrd2 _ ⟨(j + 1, n', ws'), _, ?_, ⟨by simp only; omega, ?_, ?_, ?_⟩, rfl, ⟨rfl, rfl, rfl, rfl, rfl, rfl, rfl, rfl, rfl, ?_, trivial⟩, rfl, rfl, rfl, ?_⟩
              · simp only; omega
              · simp only; omega
              · simp only; rw [hu, hn', List.length_append, m3]; rfl
              · simp only; rw [hnx, hr1, hu, m4]; simp [pP]
              · show some (V.p (.int .i64 _)) = _
                rw [hadd2]
              · rw [hB]; exact Nat.zero_le _
        · have hjm : j = m := by omega
          rw [List.take_of_length_le (by omega)] at m4
          have hcv : Tx.v (cvT bs t i) = .agg [.int .i64 r, .sl ws, .sl cu] := by rw [m4, hcuE, hr]; rfl
          intro add2 sub2 mul2 quo2 rem2 band2 bor2 bxor2 bclr2 shl2 shr2 ieq2 ilt2 ile2 seq2 slt2 beq2 bnot2 orb2 bcond2 iwrap2 iof2 ssz2 hA2 cat2 sq2 sl2 imin2 imax2 smin2 smax2 len2 slen2 u82 hL2 op2 hop2 call2 hcall2 code2 hcode2
          cbv
          refine vcIf.no (by first | (simp [hA2.not, hA2.eq, hA2.lt, hA2.le, hA2.cond, hA2.beq, hA2.orb, hL2.len, hL2.slen, hL2.sq, hj]; done) | (simp only [hj]; simp [hA2.not, hA2.eq, hA2.lt, hA2.le, hA2.cond, hA2.beq, hA2.orb, hL2.len, hL2.slen, hL2.sq, hj]; done) | (simp [hA2.not, hA2.eq, hA2.lt, hA2.le, hA2.cond, hA2.beq, hA2.orb, hL2.len, hL2.slen, hL2.sq, hj]; omega) | (simp only [hj]; simp [hA2.not, hA2.eq, hA2.lt, hA2.le, hA2.cond, hA2.beq, hA2.orb, hL2.len, hL2.slen, hL2.sq, hj]; omega)) ?_
          cbv
          refine hcode1 _ _ _ (CodeEv.freezeG 3 rfl (by rw [hB]; exact Nat.zero_le _) fun g hg => ?_)
          have hgk : g 0 k = ws := by rw [hg]; exact frz_full m3
          cbv
          refine CodeEv.drawA eOk fOk (by kernel_rfl) (Xof 4 [2]) (by kernel_rfl) (by kernel_rfl) (by kernel_rfl) ?_
          intro add3 sub3 mul3 quo3 rem3 band3 bor3 bxor3 bclr3 shl3 shr3 ieq3 ilt3 ile3 seq3 slt3 beq3 bnot3 orb3 bcond3 iwrap3 iof3 ssz3 hA3 cat3 sq3 sl3 imin3 imax3 smin3 smax3 len3 slen3 u83 hL3 op3 hop3 call3 hcall3 code3 hcode3 q3 hq3
          cbv
          refine hcall3 _ _ _ _ _ (CallEv.same hpc rfl ?_)
          rintro _ _ ⟨rfl, rfl⟩
          cbv
          refine hcall3 _ _ _ _ _ (CallEv.same hcu rfl ?_)
          rintro _ _ ⟨rfl, rfl⟩
          cbv
          refine hq3 _ ?_
          cbv
          refine ⟨false, ?_⟩
          cbv
          refine .inl ⟨(), rfl, hul.symm, Wf.one (PV.wfA rfl rfl), ?_, ?_, ?_⟩
          · show i + 1 ≤ maxLen
            unfold maxLen; omega
          · show (i + 1) * 56 ≤ _
            omega
          intro us' n' hu hn'
          replace hu : us' = us ++ [.agg [.int .i64 r, .sl (g 0 k), .sl cu]] := hu
          rw [hgk] at hu
          replace hn' : n' = i + 1 := hn'
          cbv
          refine hrd _ ⟨(n', us'), _, ?_, ⟨by simp only; omega, ?_⟩, rfl, ⟨rfl, rfl, rfl, rfl, ?_, trivial⟩, rfl, rfl, rfl, ?_⟩
          · simp only; omega
          · simp only; rw [hn', hu, k2, cvL_next, ← hcv]; simp [tP]
          · show some (V.p (.int .i64 _)) = _
            rw [hadd1, hn']
          · rw [hB]; exact Nat.zero_le _
      · have hiM : i = M := by omega
        rw [hiM] at k2 hul
        intro add1 sub1 mul1 quo1 rem1 band1 bor1 bxor1 bclr1 shl1 shr1 ieq1 ilt1 ile1 seq1 slt1 beq1 bnot1 orb1 bcond1 iwrap1 iof1 ssz1 hA1 cat1 sq1 sl1 imin1 imax1 smin1 smax1 len1 slen1 u81 hL1 op1 hop1 call1 hcall1 code1 hcode1
        cbv
        refine vcIf.no (by first | (simp [hA1.not, hA1.eq, hA1.lt, hA1.le, hA1.cond, hA1.beq, hA1.orb, hL1.len, hL1.slen, hL1.sq, hi]; done) | (simp only [hi]; simp [hA1.not, hA1.eq, hA1.lt, hA1.le, hA1.cond, hA1.beq, hA1.orb, hL1.len, hL1.slen, hL1.sq, hi]; done) | (simp [hA1.not, hA1.eq, hA1.lt, hA1.le, hA1.cond, hA1.beq, hA1.orb, hL1.len, hL1.slen, hL1.sq, hi]; omega) | (simp only [hi]; simp [hA1.not, hA1.eq, hA1.lt, hA1.le, hA1.cond, hA1.beq, hA1.orb, hL1.len, hL1.slen, hL1.sq, hi]; omega)) ?_
        cbv
        refine hret _ (RetEv.retF eOk rfl 1 rfl (by rw [hB]; exact Nat.zero_le _) ⟨.sl us, ?_, by rw [hR1, k2]; exact .refl _⟩)
        rw [hfe]
        show V.p (.tup [.sl ((us.drop 0).take i), .int .i64 0]) = _
        rw [hiM, frz_full hul]
        rfl
    · have hfe := he2 (.inr (hK2.symm.trans (Bool.eq_false_iff.2 hKK)))
      have hKK := Bool.eq_false_iff.2 hKK
      refine vcIf.yes (by first | (simp [hA.not, hA.eq, hA.lt, hA.le, hA.cond, hA.beq, hA.orb, hL.len, hL.slen, hL.sq, hKK]; done) | (simp only [hKK]; simp [hA.not, hA.eq, hA.lt, hA.le, hA.cond, hA.beq, hA.orb, hL.len, hL.slen, hL.sq, hKK]; done) | (simp [hA.not, hA.eq, hA.lt, hA.le, hA.cond, hA.beq, hA.orb, hL.len, hL.slen, hL.sq, hKK]; omega) | (simp only [hKK]; simp [hA.not, hA.eq, hA.lt, hA.le, hA.cond, hA.beq, hA.orb, hL.len, hL.slen, hL.sq, hKK]; omega)) ?_
      cbv
      exact hret _ (RetEv.ret eOk rfl ⟨.nils, by rw [hfe]; rfl, by rw [hR0 (by rw [hfe]; decide)]; exact .nils⟩)
  · have hfe := he2 (.inl (Bool.eq_false_iff.2 hSS))
    have hSS := Bool.eq_false_iff.2 hSS
    refine vcIf.yes (by first | (simp [hA.not, hA.eq, hA.lt, hA.le, hA.cond, hA.beq, hA.orb, hL.len, hL.slen, hL.sq, hSS]; done) | (simp only [hSS]; simp [hA.not, hA.eq, hA.lt, hA.le, hA.cond, hA.beq, hA.orb, hL.len, hL.slen, hL.sq, hSS]; done) | (simp [hA.not, hA.eq, hA.lt, hA.le, hA.cond, hA.beq, hA.orb, hL.len, hL.slen, hL.sq, hSS]; omega) | (simp only [hSS]; simp [hA.not, hA.eq, hA.lt, hA.le, hA.cond, hA.beq, hA.orb, hL.len, hL.slen, hL.sq, hSS]; omega)) ?_
    cbv
    exact hret _ (RetEv.ret eOk rfl ⟨.nils, by rw [hfe]; rfl, by rw [hR0 (by rw [hfe]; decide)]; exact .nils⟩)
end Go.Proofs.Ytknhlbohjiphgaa
