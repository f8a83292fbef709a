/- LPa3, LPa4, LPa5 together. Conditions: on sizes. -/
import Derived.Test.YtegkojnngdlfaaaGreatLPam
set_option maxRecDepth 100000
set_option maxHeartbeats 16000000
set_option linter.unusedSimpArgs false
set_option linter.unusedVariables false
section
namespace Go.Proofs.YtegkojnngdlfaaaGreat
open Go Go.Lx
open Go.Sx (vcIf)

/-! ### The last change that meets a key -/
theorem eff_miss {k : List UInt8} {o : Option (List UInt8)} {c : Chg} (h : hs (spn c) k = false) : eff k o c = o := by
  unfold eff
  split
  · rename_i h1
    rw [if_neg]
    intro e
    have := (hs_spn (c := c) (by omega) k).2 e
    rw [h] at this; cases this
  · rw [if_neg (by rw [h]; decide)]
theorem eff_hit {k : List UInt8} {o : Option (List UInt8)} {c : Chg} (h : hs (spn c) k = true) : eff k o c = if c.kind = 1 then some c.val else none := by
  unfold eff
  by_cases h1 : c.kind = 1
  · rw [if_pos h1, if_pos h1, if_pos ((hs_spn (c := c) (by omega) k).1 h)]
  · rw [if_neg h1, if_neg h1, if_pos h]
theorem lk_ones (k : List UInt8) : ∀ (cs : List Chg) {ps : List Pr}, Srt ps → lk (ones ps cs) k = cs.foldl (eff k) (lk ps k)
  | [], _, _ => rfl
  | c :: r, ps, h => by
    obtain ⟨h1, h2⟩ := one_ok c ps h
    have := lk_ones k r h1
    rw [h2] at this
    exact this
theorem eff_misses (k : List UInt8) : ∀ (cs : List Chg) (o : Option (List UInt8)), (∀ c ∈ cs, hs (spn c) k = false) → cs.foldl (eff k) o = o
  | [], _, _ => rfl
  | c :: r, o, h => by
    rw [List.foldl_cons, eff_miss (h c (by simp))]
    exact eff_misses k r o fun d hd => h d (by simp [hd])
def chgs (ls : List Lay) : List Chg := ls.flatMap (·.ch)
theorem lays_ones : ∀ (ls : List Lay) (ps : List Pr), lays ps ls = ones ps (chgs ls)
  | [], _ => rfl
  | l :: r, ps => by
    have e : chgs (l :: r) = l.ch ++ chgs r := rfl
    rw [e, show ones ps (l.ch ++ chgs r) = ones (ones ps l.ch) (chgs r) from List.foldl_append]
    exact lays_ones r (ones ps l.ch)
/-- None of these meets the key. -/
def miss (k : List UInt8) (cs : List Chg) (from' : Nat) : Prop := ∀ (i : Nat) (c : Chg), from' ≤ i → cs[i]? = some c → hs (spn c) k = false
def missL (k : List UInt8) (ls : List Lay) (from' N : Nat) : Prop := ∀ (i : Nat) (l : Lay), from' ≤ i → i < N → ls[i]? = some l → miss k l.ch 0
theorem miss_drop {k : List UInt8} {cs : List Chg} {j : Nat} (h : miss k cs j) : ∀ c ∈ cs.drop j, hs (spn c) k = false := fun c hc => by
  obtain ⟨i, hi⟩ := List.mem_iff_getElem?.1 hc
  rw [List.getElem?_drop] at hi
  exact h (j + i) c (by omega) hi
theorem missL_drop {k : List UInt8} {ls : List Lay} {i N : Nat} (h : missL k ls i N) : ∀ c ∈ chgs ((ls.take N).drop i), hs (spn c) k = false := fun c hc => by
  obtain ⟨l, hl, hc⟩ := List.mem_flatMap.1 hc
  obtain ⟨q, hq⟩ := List.mem_iff_getElem?.1 hl
  rw [List.getElem?_drop] at hq
  have hlt : i + q < N := by
    have := (List.getElem?_eq_some_iff.1 hq).1
    rw [List.length_take] at this; omega
  rw [List.getElem?_take_of_lt hlt] at hq
  obtain ⟨j, hj⟩ := List.mem_iff_getElem?.1 hc
  exact h (i + q) l (by omega) hlt hq j c (Nat.zero_le _) hj
theorem lk_miss {k : List UInt8} {ls : List Lay} {N : Nat} {ps : List Pr} (hs' : Srt ps) (h : missL k ls 0 N) : lk (lays ps (ls.take N)) k = lk ps k := by
  rw [lays_ones, lk_ones k _ hs']
  exact eff_misses k _ _ (by have := missL_drop h; rwa [List.drop_zero] at this)
theorem lk_hit {k : List UInt8} {ls : List Lay} {N i j : Nat} {l : Lay} {c : Chg} {ps : List Pr} (hs' : Srt ps) (hi : i < N) (hl : ls[i]? = some l) (h1 : missL k ls (i + 1) N) (hc : l.ch[j]? = some c) (h2 : miss k l.ch (j + 1)) (hh : hs (spn c) k = true) :
    lk (lays ps (ls.take N)) k = if c.kind = 1 then some c.val else none := by
  have e1 : ls.take N = (ls.take N).take i ++ (l :: (ls.take N).drop (i + 1)) := by
    have hlt : i < (ls.take N).length := by rw [List.length_take]; have := (List.getElem?_eq_some_iff.1 hl).1; omega
    have h3 : (ls.take N)[i]? = some l := by rw [List.getElem?_take_of_lt hi]; exact hl
    conv => lhs; rw [← List.take_append_drop i (ls.take N), List.drop_eq_getElem_cons hlt]
    rw [List.getElem?_eq_getElem hlt] at h3; cases h3; rfl
  have e2 : l.ch = l.ch.take j ++ (c :: l.ch.drop (j + 1)) := by
    have hlt := (List.getElem?_eq_some_iff.1 hc).1
    conv => lhs; rw [← List.take_append_drop j l.ch, List.drop_eq_getElem_cons hlt]
    rw [List.getElem?_eq_getElem hlt] at hc; cases hc; rfl
  rw [lays_ones, lk_ones k _ hs', e1]
  rw [show chgs ((ls.take N).take i ++ (l :: (ls.take N).drop (i + 1))) = chgs ((ls.take N).take i) ++ (l.ch ++ chgs ((ls.take N).drop (i + 1))) from List.flatMap_append, List.foldl_append, List.foldl_append]
  rw [eff_misses k _ _ (missL_drop h1), e2, List.foldl_append, List.foldl_cons, eff_misses k _ _ (miss_drop h2), eff_hit hh]
theorem lk_at {k : List UInt8} : ∀ {ps : List Pr} {i : Nat} {p : Pr}, (∀ (j : Nat) (q : Pr), j < i → ps[j]? = some q → q.key ≠ k) → ps[i]? = some p → p.key = k → lk ps k = some p.val
  | a :: r, i, p, h1, h2, h3 => by
    cases i with
    | zero => simp at h2; subst h2; simp [lk, h3]
    | succ i =>
      have h4 := h1 0 a (by omega) rfl
      have := lk_at (ps := r) (i := i) (p := p) (fun j q hj hq => h1 (j + 1) q (by omega) (by simpa using hq)) (by simpa using h2) h3
      simp [lk, h4, this]

end Go.Proofs.YtegkojnngdlfaaaGreat
end
section
namespace Go.Proofs.YtegkojnngdlfaaaGreat
open Go Go.Lx
open Go.Sx (vcIf)

theorem cloneC_spec (l : List Chg) (hn : l.length * 40 ≤ 140737488355328) (zs : List PV) (hzs : zs = cP l) :
    FnL Tryz.prog 28 [.p (.sl zs)] [] fun v own => v = .p (.sl zs) ∧ own = [] := by
  refine FnL.flat (R := fun v own => ∃ x, v = .p x ∧ PW x (.sl zs)) ?_ (by rintro _ _ ⟨x, rfl, h⟩; exact ⟨_, _, rfl, h, rfl, rfl⟩)
  obtain ⟨n, hnn⟩ : ∃ n, n = l.length := ⟨_, rfl⟩
  have hl : zs.length = n := by rw [hzs, cP_length, hnn]
  have hw : Wf 3 zs := by rw [hzs]; exact cP_wf l
  rw [← hnn] at hn
  refine fn_of_vc eOk fOk fo28 Tryz.func28 rfl rfl rfl fun B hB => ?_
  intro add sub mul quo rem band bor bxor bclr shl shr ieq ilt ile seq slt beq bnot orb bcond iwrap iof ssz hA cat sq sl imin imax smin smax len slen u8 hL op hop call hcall code hcode ret hret
  cbv
  intro b hb
  cbv
  cases b with
  | true =>
    have h0 := hb rfl
    cbv
    exact hret _ (RetEv.ret eOk rfl ⟨_, rfl, by rw [h0]; exact PW.nils⟩)
  | false =>
    cbv
    refine ⟨true, ?_⟩
    cbv
    refine .inl ⟨(), rfl, rfl, hw, ?_, ?_, ?_⟩
    · show 0 + zs.length ≤ maxLen
      unfold maxLen; omega
    · show (0 + zs.length) * 40 ≤ _
      omega
    intro us n' hu hn'
    replace hu : us = [] ++ zs := hu
    replace hn' : n' = 0 + zs.length := hn'
    have e1 : (us.drop 0).take n' = zs := by rw [hu, hn', List.drop_zero, List.nil_append, Nat.zero_add, List.take_length]
    cbv
    refine hret _ (RetEv.retF eOk rfl 0 rfl (by rw [hB]; exact Nat.zero_le _) ⟨.sl ((us.drop 0).take n'), rfl, ?_⟩)
    rw [e1]; exact PW.refl _
theorem soundP_spec (ps : List Pr) (hn : ps.length < 281474976710656) (hb : ∀ p ∈ ps, p.fit) (zs : List PV) (hzs : zs = prP ps) :
    FnL Tryz.prog 80 [.p (.sl zs)] [] fun v own => v = .p (.bool (sndP ps)) ∧ own = [] := by
  obtain ⟨R, hR⟩ : ∃ R, R = sndP ps := ⟨_, rfl⟩
  rw [← hR]
  refine FnL.flat (R := fun v own => v = .p (.bool R)) ?_ (by rintro _ _ rfl; exact ⟨_, _, rfl, .refl _, rfl, rfl⟩)
  obtain ⟨N, hN⟩ : ∃ n, n = ps.length := ⟨_, rfl⟩
  have hzl : zs.length = N := by rw [hzs, prP_length, hN]
  refine fn_of_vc eOk fOk fo80 Tryz.func80 rfl rfl rfl fun B hB => ?_
  intro add sub mul quo rem band bor bxor bclr shl shr ieq ilt ile seq slt beq bnot orb bcond iwrap iof ssz hA cat sq sl imin imax smin smax len slen u8 hL op hop call hcall code hcode ret hret
  have hlen : len zs = Int.ofNat N := by rw [hL.len, hzl]; rfl
  cbv
  refine hcode _ _ _ (CodeEv.loop eOk fOk (ι := Nat) (fun s => [(0, .p (.sl zs)), (5, .p (.sl zs)), (6, .p (.int .i64 (Int.ofNat N))), (7, .p (.int .i64 (Int.ofNat s)))])
    (fun s => []) (fun s => s ≤ N ∧ ∀ q, q < s → gP ps q = true) (fun s => N - s) 0 ?_ ?_)
  · refine ⟨⟨rfl, rfl, ?_, rfl, trivial⟩, rfl, Nat.zero_le _, fun q h => absurd h (Nat.not_lt_zero q)⟩
    show some (V.p (.int .i64 (len zs))) = _
    rw [hlen]
  rintro i ⟨k1, k2⟩ rd hrd
  by_cases hi : i < N
  · refine Exists.elim (get_of_lt (show i < ps.length by omega)) fun p hpi => ?_
    have hbl := hb p (List.mem_of_getElem? hpi)
    have bad := fun h => hR.trans (sndP_bad hpi h)
    have good := (gP_some hpi).2
    have hzi : zs[i]? = some (.agg [.str p.key, .str p.val]) := by rw [hzs]; exact prP_get hpi
    obtain ⟨ky, vl⟩ := p
    simp only at hzi bad good
    refine Exists.elim (show ∃ n, n = ky.length from ⟨_, rfl⟩) fun n hnn => ?_
    refine Exists.elim (show ∃ n, n = vl.length from ⟨_, rfl⟩) fun m hmm => ?_
    rw [← hnn, ← hmm] at bad good
    intro add1 sub1 mul1 quo1 rem1 band1 bor1 bxor1 bclr1 shl1 shr1 ieq1 ilt1 ile1 seq1 slt1 beq1 bnot1 orb1 bcond1 iwrap1 iof1 ssz1 hA1 cat1 sq1 sl1 imin1 imax1 smin1 smax1 len1 slen1 u81 hL1 op1 hop1 call1 hcall1 code1 hcode1
    have hadd1 : add1 .i64 (Int.ofNat i) 1 = Int.ofNat (i + 1) := by rw [hA1.add, IntWalk.i64_in _ (by simp only [Int.ofNat_eq_natCast]; omega)]; rfl
    cbv
    refine vcIf.yes (by first | (simp [hA1.not, hA1.eq, hA1.lt, hA1.le, hA1.cond, hA1.beq, hA1.orb, hL1.len, hL1.slen, hL1.sq, hi]; done) | (simp only [hi]; simp [hA1.not, hA1.eq, hA1.lt, hA1.le, hA1.cond, hA1.beq, hA1.orb, hL1.len, hL1.slen, hL1.sq, hi]; done) | (simp [hA1.not, hA1.eq, hA1.lt, hA1.le, hA1.cond, hA1.beq, hA1.orb, hL1.len, hL1.slen, hL1.sq, hi]; omega) | (simp only [hi]; simp [hA1.not, hA1.eq, hA1.lt, hA1.le, hA1.cond, hA1.beq, hA1.orb, hL1.len, hL1.slen, hL1.sq, hi]; omega)) ?_
    cbv
    refine ⟨i, _, rfl, hzi, rfl, ?_⟩
    cbv
    refine hcode1 _ _ _ (CodeEv.drawT eOk fOk (by kernel_rfl) noX (.so 0 (.so 1 (.so 2 (.so 3 (.so 4 (.so 5 (.so 6 (.so 7 (.so 8 (.so 9 (.so 10 (.so 11 (.so 12 (.so 13 (.rd 14 (.rd 15 (.rd 16 (.so 17 (.so 18 (.so 19 (.so 20 (.so 21 (.so 22 (.so 23 (.so 24 (.done)))))))))))))))))))))))))) (by kernel_rfl) (by kernel_rfl) ?_)
    intro add2 sub2 mul2 quo2 rem2 band2 bor2 bxor2 bclr2 shl2 shr2 ieq2 ilt2 ile2 seq2 slt2 beq2 bnot2 orb2 bcond2 iwrap2 iof2 ssz2 hA2 cat2 sq2 sl2 imin2 imax2 smin2 smax2 len2 slen2 u82 hL2 op2 hop2 call2 hcall2 code2 hcode2 q2 hq2
    have e1 : slen2 ky = Int.ofNat n := by rw [hL2.slen, hnn]; rfl
    have e2 : slen2 vl = Int.ofNat m := by rw [hL2.slen, hmm]; rfl
    cbv
    by_cases h0 : 16 < n
    · have hf := bad (by omega)
      refine vcIf.yes (by first | (simp [hA2.not, hA2.eq, hA2.lt, hA2.le, hA2.cond, hA2.beq, hA2.orb, hL2.len, hL2.slen, hL2.sq, e1, h0]; done) | (simp only [e1, h0]; simp [hA2.not, hA2.eq, hA2.lt, hA2.le, hA2.cond, hA2.beq, hA2.orb, hL2.len, hL2.slen, hL2.sq, e1, h0]; done) | (simp [hA2.not, hA2.eq, hA2.lt, hA2.le, hA2.cond, hA2.beq, hA2.orb, hL2.len, hL2.slen, hL2.sq, e1, h0]; omega) | (simp only [e1, h0]; simp [hA2.not, hA2.eq, hA2.lt, hA2.le, hA2.cond, hA2.beq, hA2.orb, hL2.len, hL2.slen, hL2.sq, e1, h0]; omega)) ?_
      cbv
      refine hq2 _ ?_
      cbv
      exact hret _ (RetEv.ret eOk rfl (by rw [hf]; rfl))
    refine vcIf.no (by first | (simp [hA2.not, hA2.eq, hA2.lt, hA2.le, hA2.cond, hA2.beq, hA2.orb, hL2.len, hL2.slen, hL2.sq, e1, h0]; done) | (simp only [e1, h0]; simp [hA2.not, hA2.eq, hA2.lt, hA2.le, hA2.cond, hA2.beq, hA2.orb, hL2.len, hL2.slen, hL2.sq, e1, h0]; done) | (simp [hA2.not, hA2.eq, hA2.lt, hA2.le, hA2.cond, hA2.beq, hA2.orb, hL2.len, hL2.slen, hL2.sq, e1, h0]; omega) | (simp only [e1, h0]; simp [hA2.not, hA2.eq, hA2.lt, hA2.le, hA2.cond, hA2.beq, hA2.orb, hL2.len, hL2.slen, hL2.sq, e1, h0]; omega)) ?_
    cbv
    by_cases h16 : 64 < m
    · have hf := bad (by omega)
      refine vcIf.yes (by first | (simp [hA2.not, hA2.eq, hA2.lt, hA2.le, hA2.cond, hA2.beq, hA2.orb, hL2.len, hL2.slen, hL2.sq, e2, h16]; done) | (simp only [e2, h16]; simp [hA2.not, hA2.eq, hA2.lt, hA2.le, hA2.cond, hA2.beq, hA2.orb, hL2.len, hL2.slen, hL2.sq, e2, h16]; done) | (simp [hA2.not, hA2.eq, hA2.lt, hA2.le, hA2.cond, hA2.beq, hA2.orb, hL2.len, hL2.slen, hL2.sq, e2, h16]; omega) | (simp only [e2, h16]; simp [hA2.not, hA2.eq, hA2.lt, hA2.le, hA2.cond, hA2.beq, hA2.orb, hL2.len, hL2.slen, hL2.sq, e2, h16]; omega)) ?_
      cbv
      refine hq2 _ ?_
      cbv
      exact hret _ (RetEv.ret eOk rfl (by rw [hf]; rfl))
    refine vcIf.no (by first | (simp [hA2.not, hA2.eq, hA2.lt, hA2.le, hA2.cond, hA2.beq, hA2.orb, hL2.len, hL2.slen, hL2.sq, e2, h16]; done) | (simp only [e2, h16]; simp [hA2.not, hA2.eq, hA2.lt, hA2.le, hA2.cond, hA2.beq, hA2.orb, hL2.len, hL2.slen, hL2.sq, e2, h16]; done) | (simp [hA2.not, hA2.eq, hA2.lt, hA2.le, hA2.cond, hA2.beq, hA2.orb, hL2.len, hL2.slen, hL2.sq, e2, h16]; omega) | (simp only [e2, h16]; simp [hA2.not, hA2.eq, hA2.lt, hA2.le, hA2.cond, hA2.beq, hA2.orb, hL2.len, hL2.slen, hL2.sq, e2, h16]; omega)) ?_
    cbv
    by_cases hi0 : 0 < i
    · refine Exists.elim (get_of_lt (show i - 1 < ps.length by omega)) fun a hai => ?_
      have hza : zs[i - 1]? = some (.agg [.str a.key, .str a.val]) := by rw [hzs]; exact prP_get hai
      have hga : ps.getD (i - 1) ⟨[], []⟩ = a := by rw [List.getD_eq_getElem?_getD, hai]; rfl
      rw [hga] at bad good
      obtain ⟨ak, av⟩ := a
      simp only at hza bad good
      refine Exists.elim (show ∃ j, j = i - 1 from ⟨_, rfl⟩) fun j hj => ?_
      rw [← hj] at hza
      have hsub : sub2 .i64 (Int.ofNat i) 1 = Int.ofNat j := by rw [hA2.sub, IntWalk.i64_in _ (by simp only [Int.ofNat_eq_natCast]; omega), hj]; simp only [Int.ofNat_eq_natCast]; omega
      have hle : orb2 (sl2 ky ak) (sq2 ky ak) = !(bl ak ky) := by rw [hA2.orb, hL2.sl, hL2.sq, ← bl_gt ky ak]; simp
      refine vcIf.yes (by first | (simp [hA2.not, hA2.eq, hA2.lt, hA2.le, hA2.cond, hA2.beq, hA2.orb, hL2.len, hL2.slen, hL2.sq, hi0]; done) | (simp only [hi0]; simp [hA2.not, hA2.eq, hA2.lt, hA2.le, hA2.cond, hA2.beq, hA2.orb, hL2.len, hL2.slen, hL2.sq, hi0]; done) | (simp [hA2.not, hA2.eq, hA2.lt, hA2.le, hA2.cond, hA2.beq, hA2.orb, hL2.len, hL2.slen, hL2.sq, hi0]; omega) | (simp only [hi0]; simp [hA2.not, hA2.eq, hA2.lt, hA2.le, hA2.cond, hA2.beq, hA2.orb, hL2.len, hL2.slen, hL2.sq, hi0]; omega)) ?_
      cbv
      refine ⟨j, _, hsub, hza, rfl, ?_⟩
      cbv
      refine hq2 _ ?_
      cbv
      by_cases hab : bl ak ky = true
      · have hgood := good ⟨by omega, by omega, .inr hab⟩
        refine vcIf.no (by rw [hle, show Op.bytesLess ak ky = true from hab]; simp [hA2.cond, cond]) ?_
        cbv
        refine hrd _ ⟨i + 1, _, ?_, ⟨hi, ?_⟩, rfl, ⟨rfl, rfl, rfl, ?_, trivial⟩, rfl, rfl, rfl, ?_⟩
        · show N - (i + 1) < N - i
          omega
        · intro q hq
          rcases Nat.lt_succ_iff_lt_or_eq.1 hq with c | c
          · exact k2 q c
          · rw [c]; exact hgood
        · show some (V.p (.int .i64 _)) = _
          rw [hadd1]
        · rw [hB]; exact Nat.le_refl _
      · have hf := bad (fun c => by rcases c.2.2 with c | c; omega; exact hab c)
        refine vcIf.yes (by rw [hle, show Op.bytesLess ak ky = false from Bool.eq_false_iff.2 hab]; simp [hA2.cond, cond]) ?_
        cbv
        exact hret _ (RetEv.ret eOk rfl (by rw [hf]; rfl))
    · have hgood := good ⟨by omega, by omega, .inl (by omega)⟩
      refine vcIf.no (by first | (simp [hA2.not, hA2.eq, hA2.lt, hA2.le, hA2.cond, hA2.beq, hA2.orb, hL2.len, hL2.slen, hL2.sq, hi0]; done) | (simp only [hi0]; simp [hA2.not, hA2.eq, hA2.lt, hA2.le, hA2.cond, hA2.beq, hA2.orb, hL2.len, hL2.slen, hL2.sq, hi0]; done) | (simp [hA2.not, hA2.eq, hA2.lt, hA2.le, hA2.cond, hA2.beq, hA2.orb, hL2.len, hL2.slen, hL2.sq, hi0]; omega) | (simp only [hi0]; simp [hA2.not, hA2.eq, hA2.lt, hA2.le, hA2.cond, hA2.beq, hA2.orb, hL2.len, hL2.slen, hL2.sq, hi0]; omega)) ?_
      cbv
      refine hq2 _ ?_
      cbv
      refine vcIf.no (by first | (simp [hA2.not, hA2.eq, hA2.lt, hA2.le, hA2.cond, hA2.beq, hA2.orb, hL2.len, hL2.slen, hL2.sq]; done) | (simp [hA2.not, hA2.eq, hA2.lt, hA2.le, hA2.cond, hA2.beq, hA2.orb, hL2.len, hL2.slen, hL2.sq]; omega)) ?_
      cbv
      refine hrd _ ⟨i + 1, _, ?_, ⟨hi, ?_⟩, rfl, ⟨rfl, rfl, rfl, ?_, trivial⟩, rfl, rfl, rfl, ?_⟩
      · show N - (i + 1) < N - i
        omega
      · intro q hq
        rcases Nat.lt_succ_iff_lt_or_eq.1 hq with c | c
        · exact k2 q c
        · rw [c]; exact hgood
      · show some (V.p (.int .i64 _)) = _
        rw [hadd1]
      · rw [hB]; exact Nat.le_refl _
  · have hin : i = N := by omega
    have hR2 : R = true := by
      rw [hR, sndP, ← hN]
      exact decide_eq_true fun q hq => k2 q (by omega)
    intro add1 sub1 mul1 quo1 rem1 band1 bor1 bxor1 bclr1 shl1 shr1 ieq1 ilt1 ile1 seq1 slt1 beq1 bnot1 orb1 bcond1 iwrap1 iof1 ssz1 hA1 cat1 sq1 sl1 imin1 imax1 smin1 smax1 len1 slen1 u81 hL1 op1 hop1 call1 hcall1 code1 hcode1
    cbv
    refine vcIf.no (by first | (simp [hA1.not, hA1.eq, hA1.lt, hA1.le, hA1.cond, hA1.beq, hA1.orb, hL1.len, hL1.slen, hL1.sq, hi]; done) | (simp only [hi]; simp [hA1.not, hA1.eq, hA1.lt, hA1.le, hA1.cond, hA1.beq, hA1.orb, hL1.len, hL1.slen, hL1.sq, hi]; done) | (simp [hA1.not, hA1.eq, hA1.lt, hA1.le, hA1.cond, hA1.beq, hA1.orb, hL1.len, hL1.slen, hL1.sq, hi]; omega) | (simp only [hi]; simp [hA1.not, hA1.eq, hA1.lt, hA1.le, hA1.cond, hA1.beq, hA1.orb, hL1.len, hL1.slen, hL1.sq, hi]; omega)) ?_
    cbv
    exact hret _ (RetEv.ret eOk rfl (by rw [hR2]; rfl))
end Go.Proofs.YtegkojnngdlfaaaGreat
end
section
namespace Go.Proofs.YtegkojnngdlfaaaGreat
open Go Go.Lx
open Go.Sx (vcIf)

/-- The error of a batch that is added. -/
def adE (l v : Int) (ch : List Chg) : Nat := if v ≤ l then 9 else chks ch
end Go.Proofs.YtegkojnngdlfaaaGreat
end
