/- ProofTrue. Conditions: on sizes. -/
import Derived.Test.YtdoikpagilmplaaLPr8
import Derived.Test.YtdoikpagilmplaaLY3
set_option maxRecDepth 100000
set_option maxHeartbeats 32000000
set_option linter.unusedSimpArgs false
set_option linter.unusedVariables false
namespace Go.Proofs.Ytdoikpagilmplaa
open Go Go.Lx
open Go.Sx (vcIf)

theorem rgts_one {ps : List Pr} {lo hi : List UInt8} {q : List Pr} {g b e r o w : Int} {cs : List Chg} : rgts ps ⟨g, b, e, r, o, w, [⟨lo, hi, 0, q⟩], cs⟩ ↔ ps.filter (fun p => hs ⟨lo, hi⟩ p.key) = q := by
  constructor
  · intro h
    exact (h 0 ⟨lo, hi, 0, q⟩ rfl).2.2.2
  · intro h k s hk
    have : k = 0 := by have := (List.getElem?_eq_some_iff.1 hk).1; simp at this; exact this
    subst this
    obtain rfl := Option.some.inj hk
    exact ⟨Int.le_refl _, Int.natCast_nonneg _, rfl, h⟩
theorem true_facts (l : List Bt) (v : Int) (lo hi : List UInt8) (q : List Pr) (hq : q = (atP l v).filter (fun p => hs ⟨lo, hi⟩ p.key)) (cs : List Chg) (ex : Pr) :
    (∀ n, isFst (rbad l [⟨0, 0, 0, v, 0, 0, [⟨lo, hi, 0, q⟩], cs⟩]) 1 n → n = -1) ∧ (∀ n, isFst (rbad l [⟨0, 0, 0, v, 0, 0, [⟨lo, hi, 0, q⟩], cs⟩, ⟨0, 0, 0, v, 0, 0, [⟨lo, hi, 0, q ++ [ex]⟩], cs⟩]) 2 n → n = 1) := by
  have h0 : ∀ ds : List Dd, ds[0]? = some ⟨0, 0, 0, v, 0, 0, [⟨lo, hi, 0, q⟩], cs⟩ → ¬ rbad l ds 0 := fun ds h c => (rbad_iff h).1 c (rgts_one.2 hq.symm)
  refine ⟨fun n h => h.uniq (isFst.none fun j hj => ?_), fun n h => h.uniq (isFst.at (i := 1) (by decide) ?_ fun j hj => ?_)⟩
  · obtain rfl : j = 0 := by omega
    exact h0 _ rfl
  · refine (rbad_iff rfl).2 fun c => ?_
    have := rgts_one.1 c
    rw [← hq] at this
    have := congrArg List.length this
    simp at this
  · obtain rfl : j = 0 := by omega
    exact h0 _ rfl
theorem bnd9 {a b P L Q : Nat} (h1 : a ≤ b) (h2 : b ≤ L * P) (h : (L * P + Q + 1) * 32 ≤ 140737488355328) : a + 1 ≤ maxLen ∧ (a + 1) * 32 ≤ 140737488355328 ∧ a < 281474976710656 ∧ a + 1 < 281474976710656 := by
  have h3 : (a + 1) * 32 ≤ 140737488355328 := Nat.le_trans (Nat.mul_le_mul_right _ (Nat.succ_le_succ (Nat.le_trans h1 (Nat.le_trans h2 (Nat.le_add_right _ _))))) h
  unfold maxLen
  exact ⟨by omega, h3, by omega, by omega⟩
theorem proofTrue (l : List Bt) (P Q : Nat) (hP : ∀ b ∈ l, b.ch.length ≤ P) (hl : l.length < 281474976710656) (hf : ∀ b ∈ l, b.fit) (hsz : (l.length * P + Q + 1) * 32 ≤ 140737488355328) (v : Int) (lo hi : List UInt8) (ms : List Chg) (hms : ∀ c ∈ ms, c.fit) (hml : ms.length ≤ Q) (hQ : Q < 281474976710656) (ex : Pr) :
    FnL Try.prog 5 [.p (.sl (btP l)), .p (.int .i64 v), .p (.agg [.str lo, .str hi]), .p (.sl (cP ms)), .p (.agg [.str ex.key, .str ex.val])] [] fun z own => z = .p (.bool true) ∧ own = [] := by
  refine FnL.flat (R := fun z own => z = .p (.bool true)) ?_ (fun v own' h => ⟨_, _, h, .refl _, rfl, rfl⟩)
  obtain ⟨zs, hzs⟩ : ∃ zs, zs = btP l := ⟨_, rfl⟩
  obtain ⟨xs, hxs⟩ : ∃ xs, xs = cP ms := ⟨_, rfl⟩
  obtain ⟨ps, hps⟩ : ∃ ps, ps = atP l v := ⟨_, rfl⟩
  obtain ⟨fl, hfl⟩ : ∃ fl, fl = fun p : Pr => hs ⟨lo, hi⟩ p.key := ⟨_, rfl⟩
  have hpl : ps.length ≤ l.length * P := by rw [hps]; exact atP_len hP v
  have hfll := List.length_filter_le fl ps
  have h1 := at_spec l v P hP (bnd3 hsz) hl hf zs hzs
  obtain ⟨t1, t2⟩ := true_facts l v lo hi (ps.filter fl) (by rw [hps, hfl]) ms ex
  have hb0 := bnd9 hfll hpl hsz
  have hfit1 : Sn.fit ⟨lo, hi, 0, ps.filter fl⟩ := ⟨hb0.2.2.1, (show (-9223372036854775808 : Int) ≤ 0 by decide), (show (0 : Int) ≤ 9223372036854775807 by decide)⟩
  have hfit2 : Sn.fit ⟨lo, hi, 0, ps.filter fl ++ [ex]⟩ := ⟨by simp only [List.length_append, List.length_singleton]; exact hb0.2.2.2, (show (-9223372036854775808 : Int) ≤ 0 by decide), (show (0 : Int) ≤ 9223372036854775807 by decide)⟩
  have hd : ∀ s : Sn, s.fit → Dd.fit ⟨0, 0, 0, v, 0, 0, [s], ms⟩ := fun s hs => ⟨(show 1 < 281474976710656 by decide), fun x hx => by rw [List.mem_singleton.1 hx]; exact hs, Nat.lt_of_le_of_lt hml hQ, hms⟩
  have r1 := reads_spec l P Q hP hl hf [⟨0, 0, 0, v, 0, 0, [⟨lo, hi, 0, ps.filter fl⟩], ms⟩] (fun d h => by rw [List.mem_singleton.1 h]; exact hml) hsz (show 1 < 281474976710656 by decide) (fun d h => by rw [List.mem_singleton.1 h]; exact hd _ hfit1) zs _ hzs rfl
  have r2 := reads_spec l P Q hP hl hf [⟨0, 0, 0, v, 0, 0, [⟨lo, hi, 0, ps.filter fl⟩], ms⟩, ⟨0, 0, 0, v, 0, 0, [⟨lo, hi, 0, ps.filter fl ++ [ex]⟩], ms⟩] (fun d h => by simp at h; rcases h with rfl | rfl <;> exact hml) hsz (show 2 < 281474976710656 by decide) (fun d h => by simp at h; rcases h with rfl | rfl; exact hd _ hfit1; exact hd _ hfit2) zs _ hzs rfl
  obtain ⟨rs, hrs⟩ : ∃ rs, rs = prP ps := ⟨_, rfl⟩
  obtain ⟨N, hN⟩ : ∃ N, N = ps.length := ⟨_, rfl⟩
  have hN47 : (N + 1) * 32 ≤ 140737488355328 := by rw [hN]; exact Nat.le_trans (Nat.mul_le_mul_right _ (Nat.succ_le_succ (Nat.le_trans hpl (Nat.le_add_right _ _)))) hsz
  have hrl : rs.length = N := by rw [hrs, prP_length, hN]
  obtain ⟨ins, hins⟩ : ∃ ins, ins = prP (ps.filter fl) := ⟨_, rfl⟩
  have r1' : FnL Try.prog 16 [.p (.sl zs), .p (.sl [.agg [.int .i64 0, .int .i64 0, .int .i64 0, .int .i64 v, .int .i64 0, .int .i64 0, .sl [.agg [.str lo, .str hi, .int .i64 0, .sl ins]], .sl xs]])] [] (fun z own => ∃ n e : Int, ((lsnd l ∧ e = 0 ∧ n = -1) ∨ (¬ lsnd l ∧ e = 2 ∧ n = 0)) ∧ z = .p (.tup [.int .i64 n, .int .i64 e]) ∧ own = []) := by rw [hins, hxs]; exact r1.mono fun z own h => by obtain ⟨n, e, g1, g2⟩ := h; exact ⟨n, e, g1.imp (fun c => ⟨c.1, c.2.1, t1 n c.2.2⟩) id, g2⟩
  have r2' : FnL Try.prog 16 [.p (.sl zs), .p (.sl [.agg [.int .i64 0, .int .i64 0, .int .i64 0, .int .i64 v, .int .i64 0, .int .i64 0, .sl [.agg [.str lo, .str hi, .int .i64 0, .sl ins]], .sl xs], .agg [.int .i64 0, .int .i64 0, .int .i64 0, .int .i64 v, .int .i64 0, .int .i64 0, .sl [.agg [.str lo, .str hi, .int .i64 0, .sl (ins ++ [.agg [.str ex.key, .str ex.val]])]], .sl xs]])] [] (fun z own => ∃ n e : Int, ((lsnd l ∧ e = 0 ∧ n = 1) ∨ (¬ lsnd l ∧ e = 2 ∧ n = 0)) ∧ z = .p (.tup [.int .i64 n, .int .i64 e]) ∧ own = []) := by rw [hins, hxs, show prP (ps.filter fl) ++ [.agg [.str ex.key, .str ex.val]] = prP (ps.filter fl ++ [ex]) by unfold prP; simp [Pr.v]]; exact r2.mono fun z own h => by obtain ⟨n, e, g1, g2⟩ := h; exact ⟨n, e, g1.imp (fun c => ⟨c.1, c.2.1, t2 n c.2.2⟩) id, g2⟩
  have hil : ins.length = (ps.filter fl).length := by rw [hins, prP_length]
  have hinw : Wf 2 ins := by rw [hins]; exact prP_wf _
  have hb1 : 0 + ins.length ≤ maxLen ∧ (0 + ins.length) * 32 ≤ 140737488355328 ∧ ins.length + 1 ≤ maxLen ∧ (ins.length + 1) * 32 ≤ 140737488355328 := by
    rw [hil, Nat.zero_add]
    exact ⟨Nat.le_trans (Nat.le_succ _) hb0.1, Nat.le_trans (Nat.mul_le_mul_right _ (Nat.le_succ _)) hb0.2.1, hb0.1, hb0.2.1⟩
  rw [← hps, ← hrs] at h1
  rw [← hzs, ← hxs]
  clear r1 r2 hfit1 hfit2 hd
  obtain ⟨ek, ev⟩ := ex
  simp only at r2'
  obtain ⟨ins2, hins2⟩ : ∃ i, i = ins ++ [PV.agg [.str ek, .str ev]] := ⟨_, rfl⟩
  rw [← hins2] at r2'
  refine fn_of_vc eOk fOk fo5 Try.func5 rfl rfl rfl fun B hB => ?_
  intro add sub mul quo rem band bor bxor bclr shl shr ieq ilt ile seq slt beq bnot orb bcond iwrap iof ssz hA cat sq sl imin imax smin smax len slen u8 hL op hop call hcall code hcode ret hret
  cbv
  refine hcall _ _ _ _ _ (CallEv.same h1 rfl ?_)
  refine fun z own' hz => ?_
  obtain ⟨hz, rfl⟩ := hz
  by_cases hs : lsnd l
  · obtain rfl : z = .p (.tup [.sl rs, .int .i64 0]) := hz.elim (fun c => c.2) fun c => absurd hs c.1
    cbv
    refine hcall _ _ _ _ _ (CallEv.same awake22_spec rfl ?_)
    rintro _ _ ⟨rfl, rfl⟩
    cbv
    repeat (first | (refine vcIf.yes ?_ ?_; (focus (simp [hA.not, hA.eq, hA.lt, hA.le, hA.cond, hA.beq, hA.orb, hL.len, hL.slen, hL.sq]; done)); cbv) | (refine vcIf.no ?_ ?_; (focus (simp [hA.not, hA.eq, hA.lt, hA.le, hA.cond, hA.beq, hA.orb, hL.len, hL.slen, hL.sq]; done)); cbv) | fail)
    refine ⟨true, ?_⟩
    cbv
    refine hcode _ _ _ (CodeEv.loop eOk fOk (ι := Nat × Nat × List PV) (fun s => [(0, .p (.sl zs)), (1, .p (.int .i64 v)), (3, .p (.sl xs)), (7, .own 0 0), (9, .own 1 0), (11, .p (.sl rs)), (12, .p (.int .i64 0)), (13, .vw 2 2 0 s.2.1 none), (14, .p (.int .i64 (Int.ofNat s.1)))])
      (fun s => [.st 38 [.p (.str lo), .p (.str hi)], .st 41 [.p (.str ek), .p (.str ev)], .arr 41 2 s.2.2]) (fun s => s.1 ≤ N ∧ s.2.2.length = s.2.1 ∧ s.2.1 ≤ s.1 ∧ s.2.2 = prP ((ps.take s.1).filter fl)) (fun s => N - s.1) (0, 0, []) ?_ ?_)
    · exact ⟨(by repeat (first | exact trivial | refine And.intro rfl ?_)), rfl, Nat.zero_le _, rfl, Nat.le_refl _, rfl⟩
    rintro ⟨k, m, vs⟩ ⟨w1, w2, w3, w4⟩ rd hrd
    simp only at w1 w2 w3 w4
    by_cases hk : k < N
    · refine Exists.elim (get_of_lt (show k < ps.length by omega)) fun p hp => ?_
      have hzk : rs[k]? = some (.agg [.str p.key, .str p.val]) := by rw [hrs]; exact prP_get hp
      have hnx := filter_next (fl := fl) hp
      have hml2 : m ≤ (ps.filter fl).length ∨ True := .inr trivial
      have hflp : fl p = (!(bl p.key lo) && bl p.key hi) := by rw [hfl]; rfl
      have hbd := bnd1 w3 hk hN47
      clear hp
      obtain ⟨pk, pv⟩ := p
      simp only at hzk hflp
      have hnx1 : bl pk lo = false → bl pk hi = true → prP ((ps.take (k + 1)).filter fl) = vs ++ [Pr.v ⟨pk, pv⟩] := fun a b => by
        rw [hnx, hflp, a, b, prP_append, w4]; rfl
      have hnx2 : bl pk lo = true ∨ bl pk hi = false → prP ((ps.take (k + 1)).filter fl) = vs := fun h => by
        rw [hnx, hflp]
        rcases h with h | h
        · rw [h, w4]; simp
        · rw [h, w4]; simp
      clear hnx hflp
      intro add1 sub1 mul1 quo1 rem1 band1 bor1 bxor1 bclr1 shl1 shr1 ieq1 ilt1 ile1 seq1 slt1 beq1 bnot1 orb1 bcond1 iwrap1 iof1 ssz1 hA1 cat1 sq1 sl1 imin1 imax1 smin1 smax1 len1 slen1 u81 hL1 op1 hop1 call1 hcall1 code1 hcode1
      have e0 : len1 rs = Int.ofNat N := by rw [hL1.len, hrl]; rfl
      have hadd1 : add1 .i64 (Int.ofNat k) 1 = Int.ofNat (k + 1) := by rw [hA1.add, IntWalk.i64_in _ (by simp only [Int.ofNat_eq_natCast]; omega)]; rfl
      cbv
      refine vcIf.yes (by first | (simp [hA1.not, hA1.eq, hA1.lt, hA1.le, hA1.cond, hA1.beq, hA1.orb, hL1.len, hL1.slen, hL1.sq, e0, hk]; done) | (simp only [e0, hk]; simp [hA1.not, hA1.eq, hA1.lt, hA1.le, hA1.cond, hA1.beq, hA1.orb, hL1.len, hL1.slen, hL1.sq, e0, hk]; done) | (simp [hA1.not, hA1.eq, hA1.lt, hA1.le, hA1.cond, hA1.beq, hA1.orb, hL1.len, hL1.slen, hL1.sq, e0, hk]; omega) | (simp only [e0, hk]; simp [hA1.not, hA1.eq, hA1.lt, hA1.le, hA1.cond, hA1.beq, hA1.orb, hL1.len, hL1.slen, hL1.sq, e0, hk]; omega)) ?_
      cbv
      refine hcode1 _ _ _ (CodeEv.drawT eOk fOk (by kernel_rfl) (Xof 0 []) (.rd 0 (.rd 1 (.rd 2 (.rd 3 (.rd 4 (.so 5 (.so 6 (.so 7 (.so 8 (.rd 9 (.rd 10 (.rd 11 (.rd 12 (.rd 13 (.so 14 (.so 15 (.so 16 (.so 17 (.done))))))))))))))))))) (by kernel_rfl) (by kernel_rfl) ?_)
      intro add2 sub2 mul2 quo2 rem2 band2 bor2 bxor2 bclr2 shl2 shr2 ieq2 ilt2 ile2 seq2 slt2 beq2 bnot2 orb2 bcond2 iwrap2 iof2 ssz2 hA2 cat2 sq2 sl2 imin2 imax2 smin2 smax2 len2 slen2 u82 hL2 op2 hop2 call2 hcall2 code2 hcode2 q2 hq2
      cbv
      refine ⟨k, _, rfl, hzk, rfl, ?_⟩
      cbv
      by_cases ha : bl pk lo = true
      · have hnx := hnx2 (.inl ha)
        refine vcIf.no (by rw [hA2.not, hL2.sl]; rw [show Op.bytesLess pk lo = true from ha]; rfl) ?_
        cbv
        refine hq2 _ ?_
        cbv
        refine hrd _ ⟨(k + 1, m, vs), _, hbd.2.2.2.2, ⟨hk, w2, hbd.2.2.2.1, hnx.symm⟩, rfl, ⟨rfl, rfl, rfl, rfl, rfl, rfl, rfl, rfl, ?_, trivial⟩, rfl, rfl, rfl, ?_⟩
        · show some (V.p (.int .i64 _)) = _
          rw [hadd1]
        · rw [hB]; exact Nat.zero_le _
      · have ha := Bool.eq_false_iff.2 ha
        refine vcIf.yes (by rw [hA2.not, hL2.sl]; rw [show Op.bytesLess pk lo = false from ha]; rfl) ?_
        cbv
        refine ⟨k, _, rfl, hzk, rfl, ?_⟩
        cbv
        refine hq2 _ ?_
        cbv
        by_cases hb : bl pk hi = true
        · have hnx := hnx1 ha hb
          refine vcIf.yes (by rw [hA2.cond, hL2.sl]; exact hb) ?_
          cbv
          refine ⟨k, _, rfl, hzk, rfl, ?_⟩
          cbv
          refine ⟨false, ?_⟩
          cbv
          refine .inl ⟨(), rfl, w2.symm, Wf.one (Pr.wf ⟨pk, pv⟩), hbd.1, hbd.2.1, ?_⟩
          intro vs2 m2 hw hn3
          replace hw : vs2 = vs ++ [Pr.v ⟨pk, pv⟩] := hw
          replace hn3 : m2 = m + 1 := hn3
          cbv
          refine hrd _ ⟨(k + 1, m2, vs2), _, hbd.2.2.2.2, ⟨hk, by rw [hw, hn3, List.length_append, w2]; rfl, by rw [hn3]; exact hbd.2.2.1, by rw [hw]; exact hnx.symm⟩, rfl, ⟨rfl, rfl, rfl, rfl, rfl, rfl, rfl, rfl, ?_, trivial⟩, rfl, rfl, rfl, ?_⟩
          · show some (V.p (.int .i64 _)) = _
            rw [hadd1]
          · rw [hB]; exact Nat.zero_le _
        · have hnx := hnx2 (.inr (Bool.eq_false_iff.2 hb))
          refine vcIf.no (by rw [hA2.cond, hL2.sl]; exact Bool.eq_false_iff.2 hb) ?_
          cbv
          refine hrd _ ⟨(k + 1, m, vs), _, hbd.2.2.2.2, ⟨hk, w2, hbd.2.2.2.1, hnx.symm⟩, rfl, ⟨rfl, rfl, rfl, rfl, rfl, rfl, rfl, rfl, ?_, trivial⟩, rfl, rfl, rfl, ?_⟩
          · show some (V.p (.int .i64 _)) = _
            rw [hadd1]
          · rw [hB]; exact Nat.zero_le _
    · have hvs : vs = ins := by rw [w4, hins, List.take_of_length_le (by omega)]
      intro add1 sub1 mul1 quo1 rem1 band1 bor1 bxor1 bclr1 shl1 shr1 ieq1 ilt1 ile1 seq1 slt1 beq1 bnot1 orb1 bcond1 iwrap1 iof1 ssz1 hA1 cat1 sq1 sl1 imin1 imax1 smin1 smax1 len1 slen1 u81 hL1 op1 hop1 call1 hcall1 code1 hcode1
      have e0 : len1 rs = Int.ofNat N := by rw [hL1.len, hrl]; rfl
      cbv
      refine vcIf.no (by first | (simp [hA1.not, hA1.eq, hA1.lt, hA1.le, hA1.cond, hA1.beq, hA1.orb, hL1.len, hL1.slen, hL1.sq, e0, hk]; done) | (simp only [e0, hk]; simp [hA1.not, hA1.eq, hA1.lt, hA1.le, hA1.cond, hA1.beq, hA1.orb, hL1.len, hL1.slen, hL1.sq, e0, hk]; done) | (simp [hA1.not, hA1.eq, hA1.lt, hA1.le, hA1.cond, hA1.beq, hA1.orb, hL1.len, hL1.slen, hL1.sq, e0, hk]; omega) | (simp only [e0, hk]; simp [hA1.not, hA1.eq, hA1.lt, hA1.le, hA1.cond, hA1.beq, hA1.orb, hL1.len, hL1.slen, hL1.sq, e0, hk]; omega)) ?_
      cbv
      refine hop _ _ _ _ (OpEv.freezeG 2 rfl (by rw [hB]; exact Nat.zero_le _) fun g hg => OpEv.again eOk fOk ?_)
      have hg0 : g 0 m = ins := by rw [hg, frz_full w2, hvs]
      intro add2 sub2 mul2 quo2 rem2 band2 bor2 bxor2 bclr2 shl2 shr2 ieq2 ilt2 ile2 seq2 slt2 beq2 bnot2 orb2 bcond2 iwrap2 iof2 ssz2 hA2 cat2 sq2 sl2 imin2 imax2 smin2 smax2 len2 slen2 u82 hL2 op2 hop2 call2 hcall2 code2 hcode2 q2 hq2
      cbv
      rw [hg0]
      refine ⟨false, ?_⟩
      cbv
      refine hq2 _ _ ?_
      cbv
      refine ⟨false, ?_⟩
      cbv
      refine hcall _ _ _ _ _ (CallEv.same r1' rfl ?_)
      rintro _ _ ⟨n1, x1, hx1, rfl, rfl⟩
      cbv
      refine hcode _ _ _ (CodeEv.drawT eOk fOk (by kernel_rfl) (Xof 5 [4]) (.rd 0 (.rd 2 (.rd 4 (.acts (.cons 1 (.acts (.cons 3 (.acts (.cons 5 (.acts (.cons 6 (.so 7 (.acts (.cons 8 (.so 9 (.acts (.cons 10 (.done) (.nil)))) (.nil)))) (.nil))) (.nil))) (.cons 5 (.acts (.cons 3 (.acts (.cons 6 (.so 7 (.acts (.cons 8 (.so 9 (.acts (.cons 10 (.done) (.nil)))) (.nil)))) (.nil))) (.nil))) (.nil)))) (.cons 5 (.acts (.cons 1 (.acts (.cons 3 (.acts (.cons 6 (.so 7 (.acts (.cons 8 (.so 9 (.acts (.cons 10 (.done) (.nil)))) (.nil)))) (.nil))) (.nil))) (.nil))) (.nil))))))) (by kernel_rfl) (by kernel_rfl) ?_)
      intro add3 sub3 mul3 quo3 rem3 band3 bor3 bxor3 bclr3 shl3 shr3 ieq3 ilt3 ile3 seq3 slt3 beq3 bnot3 orb3 bcond3 iwrap3 iof3 ssz3 hA3 cat3 sq3 sl3 imin3 imax3 smin3 smax3 len3 slen3 u83 hL3 op3 hop3 call3 hcall3 code3 hcode3 q3 hq3
      cbv
      refine ⟨?_, ?_⟩
      · refine ⟨true, ?_⟩
        cbv
        refine ⟨?_, ?_⟩
        · refine .inl ⟨(), rfl, rfl, hinw, hb1.1, hb1.2.1, ?_⟩
          intro q1 n1' hq1 hn1
          replace hq1 : q1 = [] ++ ins := hq1
          replace hn1 : n1' = 0 + ins.length := hn1
          cbv
          refine ⟨false, ?_⟩
          cbv
          refine .inl ⟨(), rfl, (by rw [hq1, hn1]; simp), Wf.one (Pr.wf ⟨ek, ev⟩), ?_, ?_, ?_⟩
          · show n1' + 1 ≤ maxLen
            rw [hn1, Nat.zero_add]; exact hb1.2.2.1
          · show (n1' + 1) * 32 ≤ _
            rw [hn1, Nat.zero_add]; exact hb1.2.2.2
          intro q2' n2' hq2' hn2'
          replace hq2' : q2' = q1 ++ [.agg [.str ek, .str ev]] := hq2'
          replace hn2' : n2' = n1' + 1 := hn2'
          cbv
          refine hop3 _ _ _ _ (OpEv.freezeG 5 rfl (by rw [hB]; exact Nat.zero_le _) fun g2 hg2 => OpEv.again eOk fOk ?_)
          have hg3 : g2 0 n2' = ins2 := by
            rw [hg2, frz_full (by rw [hq2', hn2', hq1, hn1]; simp), hq2', hq1, hins2]; rfl
          intro add4 sub4 mul4 quo4 rem4 band4 bor4 bxor4 bclr4 shl4 shr4 ieq4 ilt4 ile4 seq4 slt4 beq4 bnot4 orb4 bcond4 iwrap4 iof4 ssz4 hA4 cat4 sq4 sl4 imin4 imax4 smin4 smax4 len4 slen4 u84 hL4 op4 hop4 call4 hcall4 code4 hcode4 q4 hq4
          cbv
          rw [hg3]
          refine ⟨false, ?_⟩
          cbv
          refine hq4 _ _ ?_
          cbv
          refine hq3 _ ?_
          cbv
          refine ⟨false, ?_⟩
          cbv
          refine hcall _ _ _ _ _ (CallEv.same r2' rfl ?_)
          rintro _ _ ⟨n2, x2, hx2, rfl, rfl⟩
          have y1 : x1 = 0 ∧ n1 = -1 := hx1.elim (fun h => h.2) fun h => absurd hs h.1
          have y2 : x2 = 0 ∧ n2 = 1 := hx2.elim (fun h => h.2) fun h => absurd hs h.1
          have z1 := y1.1
          have z2 := y1.2
          have z3 := y2.1
          have z4 := y2.2
          clear hx1 hx2 y1 y2
          cbv
          repeat (first | (refine vcIf.yes ?_ ?_; (focus (simp [hA.not, hA.eq, hA.lt, hA.le, hA.cond, hA.beq, hA.orb, hL.len, hL.slen, hL.sq, z1, z2, z3, z4]; done)); cbv) | (refine vcIf.no ?_ ?_; (focus (simp [hA.not, hA.eq, hA.lt, hA.le, hA.cond, hA.beq, hA.orb, hL.len, hL.slen, hL.sq, z1, z2, z3, z4]; done)); cbv) | fail)
          refine hret _ (RetEv.ret eOk rfl ?_)
          show V.p (.bool (bcond true (ieq n2 1) false)) = _
          rw [hA.cond, hA.eq, z4]; simp [cond]
        · refine ⟨false, ?_⟩
          cbv
          refine .inl ⟨(), rfl, rfl, hinw, hb1.1, hb1.2.1, ?_⟩
          intro q1 n1' hq1 hn1
          replace hq1 : q1 = [] ++ ins := hq1
          replace hn1 : n1' = 0 + ins.length := hn1
          cbv
          refine .inl ⟨(), rfl, (by rw [hq1, hn1]; simp), Wf.one (Pr.wf ⟨ek, ev⟩), ?_, ?_, ?_⟩
          · show n1' + 1 ≤ maxLen
            rw [hn1, Nat.zero_add]; exact hb1.2.2.1
          · show (n1' + 1) * 32 ≤ _
            rw [hn1, Nat.zero_add]; exact hb1.2.2.2
          intro q2' n2' hq2' hn2'
          replace hq2' : q2' = q1 ++ [.agg [.str ek, .str ev]] := hq2'
          replace hn2' : n2' = n1' + 1 := hn2'
          cbv
          refine hop3 _ _ _ _ (OpEv.freezeG 5 rfl (by rw [hB]; exact Nat.zero_le _) fun g2 hg2 => OpEv.again eOk fOk ?_)
          have hg3 : g2 0 n2' = ins2 := by
            rw [hg2, frz_full (by rw [hq2', hn2', hq1, hn1]; simp), hq2', hq1, hins2]; rfl
          intro add4 sub4 mul4 quo4 rem4 band4 bor4 bxor4 bclr4 shl4 shr4 ieq4 ilt4 ile4 seq4 slt4 beq4 bnot4 orb4 bcond4 iwrap4 iof4 ssz4 hA4 cat4 sq4 sl4 imin4 imax4 smin4 smax4 len4 slen4 u84 hL4 op4 hop4 call4 hcall4 code4 hcode4 q4 hq4
          cbv
          rw [hg3]
          refine ⟨false, ?_⟩
          cbv
          refine hq4 _ _ ?_
          cbv
          refine hq3 _ ?_
          cbv
          refine ⟨false, ?_⟩
          cbv
          refine hcall _ _ _ _ _ (CallEv.same r2' rfl ?_)
          rintro _ _ ⟨n2, x2, hx2, rfl, rfl⟩
          have y1 : x1 = 0 ∧ n1 = -1 := hx1.elim (fun h => h.2) fun h => absurd hs h.1
          have y2 : x2 = 0 ∧ n2 = 1 := hx2.elim (fun h => h.2) fun h => absurd hs h.1
          have z1 := y1.1
          have z2 := y1.2
          have z3 := y2.1
          have z4 := y2.2
          clear hx1 hx2 y1 y2
          cbv
          repeat (first | (refine vcIf.yes ?_ ?_; (focus (simp [hA.not, hA.eq, hA.lt, hA.le, hA.cond, hA.beq, hA.orb, hL.len, hL.slen, hL.sq, z1, z2, z3, z4]; done)); cbv) | (refine vcIf.no ?_ ?_; (focus (simp [hA.not, hA.eq, hA.lt, hA.le, hA.cond, hA.beq, hA.orb, hL.len, hL.slen, hL.sq, z1, z2, z3, z4]; done)); cbv) | fail)
          refine hret _ (RetEv.ret eOk rfl ?_)
          show V.p (.bool (bcond true (ieq n2 1) false)) = _
          rw [hA.cond, hA.eq, z4]; simp [cond]
      · refine ⟨false, ?_⟩
        cbv
        refine ⟨true, ?_⟩
        cbv
        refine .inl ⟨(), rfl, rfl, hinw, hb1.1, hb1.2.1, ?_⟩
        intro q1 n1' hq1 hn1
        replace hq1 : q1 = [] ++ ins := hq1
        replace hn1 : n1' = 0 + ins.length := hn1
        cbv
        refine .inl ⟨(), rfl, (by rw [hq1, hn1]; simp), Wf.one (Pr.wf ⟨ek, ev⟩), ?_, ?_, ?_⟩
        · show n1' + 1 ≤ maxLen
          rw [hn1, Nat.zero_add]; exact hb1.2.2.1
        · show (n1' + 1) * 32 ≤ _
          rw [hn1, Nat.zero_add]; exact hb1.2.2.2
        intro q2' n2' hq2' hn2'
        replace hq2' : q2' = q1 ++ [.agg [.str ek, .str ev]] := hq2'
        replace hn2' : n2' = n1' + 1 := hn2'
        cbv
        refine hop3 _ _ _ _ (OpEv.freezeG 5 rfl (by rw [hB]; exact Nat.zero_le _) fun g2 hg2 => OpEv.again eOk fOk ?_)
        have hg3 : g2 0 n2' = ins2 := by
          rw [hg2, frz_full (by rw [hq2', hn2', hq1, hn1]; simp), hq2', hq1, hins2]; rfl
        intro add4 sub4 mul4 quo4 rem4 band4 bor4 bxor4 bclr4 shl4 shr4 ieq4 ilt4 ile4 seq4 slt4 beq4 bnot4 orb4 bcond4 iwrap4 iof4 ssz4 hA4 cat4 sq4 sl4 imin4 imax4 smin4 smax4 len4 slen4 u84 hL4 op4 hop4 call4 hcall4 code4 hcode4 q4 hq4
        cbv
        rw [hg3]
        refine ⟨false, ?_⟩
        cbv
        refine hq4 _ _ ?_
        cbv
        refine hq3 _ ?_
        cbv
        refine ⟨false, ?_⟩
        cbv
        refine hcall _ _ _ _ _ (CallEv.same r2' rfl ?_)
        rintro _ _ ⟨n2, x2, hx2, rfl, rfl⟩
        have y1 : x1 = 0 ∧ n1 = -1 := hx1.elim (fun h => h.2) fun h => absurd hs h.1
        have y2 : x2 = 0 ∧ n2 = 1 := hx2.elim (fun h => h.2) fun h => absurd hs h.1
        have z1 := y1.1
        have z2 := y1.2
        have z3 := y2.1
        have z4 := y2.2
        clear hx1 hx2 y1 y2
        cbv
        repeat (first | (refine vcIf.yes ?_ ?_; (focus (simp [hA.not, hA.eq, hA.lt, hA.le, hA.cond, hA.beq, hA.orb, hL.len, hL.slen, hL.sq, z1, z2, z3, z4]; done)); cbv) | (refine vcIf.no ?_ ?_; (focus (simp [hA.not, hA.eq, hA.lt, hA.le, hA.cond, hA.beq, hA.orb, hL.len, hL.slen, hL.sq, z1, z2, z3, z4]; done)); cbv) | fail)
        refine hret _ (RetEv.ret eOk rfl ?_)
        show V.p (.bool (bcond true (ieq n2 1) false)) = _
        rw [hA.cond, hA.eq, z4]; simp [cond]
  · obtain rfl : z = .p (.tup [.nils, .int .i64 2]) := hz.elim (fun c => absurd c.1 hs) fun c => c.2
    cbv
    refine hcall _ _ _ _ _ (CallEv.same awake22_spec rfl ?_)
    rintro _ _ ⟨rfl, rfl⟩
    cbv
    repeat (first | (refine vcIf.yes ?_ ?_; (focus (simp [hA.not, hA.eq, hA.lt, hA.le, hA.cond, hA.beq, hA.orb, hL.len, hL.slen, hL.sq]; done)); cbv) | (refine vcIf.no ?_ ?_; (focus (simp [hA.not, hA.eq, hA.lt, hA.le, hA.cond, hA.beq, hA.orb, hL.len, hL.slen, hL.sq]; done)); cbv) | fail)
    refine hcall _ _ _ _ _ (CallEv.same awake22_spec rfl ?_)
    rintro _ _ ⟨rfl, rfl⟩
    cbv
    exact hret _ (RetEv.ret eOk rfl rfl)
end Go.Proofs.Ytdoikpagilmplaa
