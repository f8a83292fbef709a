/- The iterators slices.Backward go through a settled slice from its end. No conditions. -/
import Derived.Test.YtnigonhkfpnodaaLEnv
set_option maxRecDepth 100000
set_option maxHeartbeats 4000000
set_option linter.unusedSimpArgs false
set_option linter.unusedVariables false
namespace Go.Proofs.Ytnigonhkfpnodaa
open Go Go.Lx
open Go.Sx (vcIf Keep0)

theorem sl_bound {H : Go.Sx.Hp} {E : Ev} {xs : List PV} {v : Value} (h : V.Den H E (.imm 1 (.sl xs) 0) v) : (xs.length : Int) ≤ 9223372036854775807 := by
  cases h with
  | imm _ _ _ b off val hw hs hd =>
    have := hd 0 (.sl xs) rfl
    generalize val 0 = u at this
    cases this with
    | sle a c h => simp
    | sl _ b off sz c val hw hc hs hd => have := hc.1; have := hc.2; have : maxLen ≤ 9223372036854775807 := by decide
                                         omega
theorem backLay_ok : BackOk Try.prog 117 2 := by
  refine ⟨fo117, fun xs hz pb l J Jx W M hJ hJx hR h0 => ?_⟩
  obtain ⟨N, hN⟩ : ∃ N, N = xs.length := ⟨_, rfl⟩
  have hbox : ∀ k M W, J k M W → V.Den ⟨M, W⟩ evNone (.imm 1 (.sl xs) 0) pb := fun k M W h => (hR k M W h).2.1
  have hNb : (N : Int) ≤ 9223372036854775807 := by rw [hN]; exact sl_bound (hbox 0 M W h0)
  obtain ⟨yv, hyv⟩ : ∃ yv, yv = Value.func (.yield l) #[] #[] := ⟨_, rfl⟩
  refine callsIn_of_wp Try.func117 rfl trivial ?_ rfl
  refine wpIn_depth (r := none) (n := 9) ?_
  have hf0 := Fr.start (M := M) (w := W) (fn := Try.f117) (n := 19) (args := [.raw yv, .raw pb]) (vals := [yv, pb]) rfl (hR 0 M W h0).1 (DenL.cons (.raw _) (DenL.cons (.raw _) DenL.nil)) (by simp)
  rw [hyv] at hf0
  generalize ha0 : ({ tmps := _, defers := [] } : Act) = a0 at hf0 ⊢
  rw [← hyv] at hf0
  clear ha0
  have hf0 : Fr M 19 [(0, .raw yv), (1, .raw pb)] a0 W := hf0
  refine wpIn_seq (wpIn_region_list ?_)
  -- the slice's length
  refine wpListIn_plain rfl fun K hK => ?_
  refine resOf_wpA (r := none) (Fr.op1 eOk fOk (hf0.see (t := 1) rfl (hbox 0 M W h0)) (fun v => v = .p (.sl xs)) (fun v hv => by rw [hv]; rfl) ?_) ?_
  · intro B hB fin hfin
    intro add1 sub1 mul1 quo1 rem1 band1 bor1 bxor1 bclr1 shl1 shr1 ieq1 ilt1 ile1 seq1 slt1 beq1 bnot1 orb1 bcond1 iwrap1 iof1 ssz1 hA1 cat1 sq1 sl1 imin1 imax1 smin1 smax1 len1 slen1 u81 hL1 op1 hop1 call1 hcall1 code1 hcode1 q1 hq1
    cbv
    exact hq1 _ _ (hfin _ _ rfl)
  rintro sv W0 ⟨hk0, v, rfl, hsd⟩
  refine hK _ _ ?_
  have hf1 := (hf0.world hk0).set (d := 4) hsd (by decide)
  have h1 := hJ _ _ _ _ h0 hk0
  clear hK hf0 h0 hk0 hsd
  rw [← List.append_nil [_, _, _]]
  refine Fr.ops eOk fOk hf1 [_, _, _] [] (fun fr => ∃ i : Int, i = (N : Int) - 1 ∧ fr = [(3, .p (.int .i64 i)), (1, .raw pb), (0, .raw yv)]) ?_ ?_
  · intro B hB fin hfin
    intro add1 sub1 mul1 quo1 rem1 band1 bor1 bxor1 bclr1 shl1 shr1 ieq1 ilt1 ile1 seq1 slt1 beq1 bnot1 orb1 bcond1 iwrap1 iof1 ssz1 hA1 cat1 sq1 sl1 imin1 imax1 smin1 smax1 len1 slen1 u81 hL1 op1 hop1 call1 hcall1 code1 hcode1
    have hlen : len1 xs = Int.ofNat N := by rw [hL1.len, hN]; rfl
    have hsub : sub1 .i64 (Int.ofNat N) 1 = (N : Int) - 1 := by rw [hA1.sub, IntWalk.i64_in _ (by simp only [Int.ofNat_eq_natCast]; omega)]; rfl
    cbv
    rw [hlen]
    exact hfin _ [(3, .p (.int .i64 (sub1 .i64 (Int.ofNat N) 1))), (1, .raw pb), (0, .raw yv)] ⟨rfl, rfl, rfl, trivial⟩ rfl ⟨_, hsub, rfl⟩ rfl
  rintro fr1 a1 W1 ⟨i, hi, rfl⟩ hf2 hk1
  have h2 := hJ _ _ _ _ h1 hk1
  clear hf1 h1 hk1
  show Code.wpIn (WF none) 9 _ _ _ _ _
  refine wpIn_block ?_
  refine wpA_loop_ghost (r := none) (fun m a W => ∃ (k : Nat) (i : Int) (M : Go.Sx.NP), m = N - k ∧ k ≤ N ∧ i = (N : Int) - 1 - k ∧ J k M W ∧ Fr M 19 [(3, .p (.int .i64 i)), (1, .raw pb), (0, .raw yv)] a W) N ?_ ?_
  · exact ⟨0, i, M, rfl, Nat.zero_le _, by rw [hi]; simp, h2, hf2⟩
  clear h2 hf2 hi i
  rintro m a W ⟨k, i, M, rfl, hkN, hi, hj, hf⟩
  refine wpIn_seq (wpIn_mono (Fr.code eOk fOk hf (fun e fr => (k < N ∧ e = .normal ∧ fr = [(3, .p (.int .i64 i)), (1, .raw pb), (0, .raw yv)]) ∨ (k = N ∧ e = .exit 0 ∧ fr = [])) (m := 9) ?_) ?_)
  · intro B hB fin hfin
    by_cases hk : k < N
    · have h0i : (0 : Int) ≤ i := by omega
      intro add1 sub1 mul1 quo1 rem1 band1 bor1 bxor1 bclr1 shl1 shr1 ieq1 ilt1 ile1 seq1 slt1 beq1 bnot1 orb1 bcond1 iwrap1 iof1 ssz1 hA1 cat1 sq1 sl1 imin1 imax1 smin1 smax1 len1 slen1 u81 hL1 op1 hop1 call1 hcall1 code1 hcode1
      cbv
      refine vcIf.yes (by first | (simp [hA1.not, hA1.eq, hA1.lt, hA1.le, hA1.cond, hA1.beq, hA1.orb, hL1.len, hL1.slen, hL1.sq, h0i]; done) | (simp only [h0i]; simp [hA1.not, hA1.eq, hA1.lt, hA1.le, hA1.cond, hA1.beq, hA1.orb, hL1.len, hL1.slen, hL1.sq, h0i]; done) | (simp [hA1.not, hA1.eq, hA1.lt, hA1.le, hA1.cond, hA1.beq, hA1.orb, hL1.len, hL1.slen, hL1.sq, h0i]; omega) | (simp only [h0i]; simp [hA1.not, hA1.eq, hA1.lt, hA1.le, hA1.cond, hA1.beq, hA1.orb, hL1.len, hL1.slen, hL1.sq, h0i]; omega)) ?_
      cbv
      exact hfin _ _ [(3, .p (.int .i64 i)), (1, .raw pb), (0, .raw yv)] ⟨rfl, rfl, rfl, trivial⟩ rfl (.inl ⟨hk, rfl, rfl⟩) rfl
    · have h0i : ¬ (0 : Int) ≤ i := by omega
      have hke : k = N := by omega
      intro add1 sub1 mul1 quo1 rem1 band1 bor1 bxor1 bclr1 shl1 shr1 ieq1 ilt1 ile1 seq1 slt1 beq1 bnot1 orb1 bcond1 iwrap1 iof1 ssz1 hA1 cat1 sq1 sl1 imin1 imax1 smin1 smax1 len1 slen1 u81 hL1 op1 hop1 call1 hcall1 code1 hcode1
      cbv
      refine vcIf.no (by first | (simp [hA1.not, hA1.eq, hA1.lt, hA1.le, hA1.cond, hA1.beq, hA1.orb, hL1.len, hL1.slen, hL1.sq, h0i]; done) | (simp only [h0i]; simp [hA1.not, hA1.eq, hA1.lt, hA1.le, hA1.cond, hA1.beq, hA1.orb, hL1.len, hL1.slen, hL1.sq, h0i]; done) | (simp [hA1.not, hA1.eq, hA1.lt, hA1.le, hA1.cond, hA1.beq, hA1.orb, hL1.len, hL1.slen, hL1.sq, h0i]; omega) | (simp only [h0i]; simp [hA1.not, hA1.eq, hA1.lt, hA1.le, hA1.cond, hA1.beq, hA1.orb, hL1.len, hL1.slen, hL1.sq, h0i]; omega)) ?_
      cbv
      exact hfin _ _ [] trivial rfl (.inr ⟨hke, rfl, rfl⟩) rfl
  rintro e a2 W2 ⟨fr2, (⟨hk, rfl, rfl⟩ | ⟨hk, rfl, rfl⟩), hf2, hk2⟩
  rotate_left
  · simp only [Exit.then, Exit.inBlock, if_true]
    refine bodyPost_end (results_none rfl _ _ _) hf2.dfr ?_
    subst hk
    rw [hN] at hj
    exact ⟨⟨_, rfl⟩, .inl ⟨M, hJ _ _ _ _ hj hk2⟩⟩
  have hj2 := hJ _ _ _ _ hj hk2
  clear hf hj hk2
  show Code.wpIn (WF none) 9 _ _ _ _ _
  refine wpIn_seq (wpIn_block (wpIn_seq (wpIn_region_list ?_)))
  -- the element
  have hlt : xs.length - 1 - k < xs.length := by omega
  obtain ⟨z, hzz⟩ := get_of_lt hlt
  obtain ⟨hz1, hz2⟩ := hz _ z hzz
  have hi2 : i = Int.ofNat (xs.length - 1 - k) := by rw [hi, hN]; simp only [Int.ofNat_eq_natCast]; omega
  rw [← List.take_append_drop 2 (Array.toList _)]
  refine Fr.ops eOk fOk hf2 _ _ (fun fr => fr = [(12, .p (.int .i64 i)), (11, .raw yv), (3, .p (.int .i64 i)), (1, .raw pb), (0, .raw yv)]) ?_ ?_
  · intro B hB fin hfin
    intro add1 sub1 mul1 quo1 rem1 band1 bor1 bxor1 bclr1 shl1 shr1 ieq1 ilt1 ile1 seq1 slt1 beq1 bnot1 orb1 bcond1 iwrap1 iof1 ssz1 hA1 cat1 sq1 sl1 imin1 imax1 smin1 smax1 len1 slen1 u81 hL1 op1 hop1 call1 hcall1 code1 hcode1
    cbv
    exact hfin _ [(12, .p (.int .i64 i)), (11, .raw yv), (3, .p (.int .i64 i)), (1, .raw pb), (0, .raw yv)] ⟨rfl, rfl, rfl, rfl, rfl, trivial⟩ rfl rfl rfl
  rintro _ a3 W3 rfl hf3 hk3
  have hj3 := hJ _ _ _ _ hj2 hk3
  clear hf2 hj2 hk3
  refine wpListIn_plain rfl fun K hK => ?_
  refine resOf_wpA (r := none) (Fr.op1 eOk fOk (hf3.see (t := 1) rfl (hbox k M W3 hj3)) (fun v => v = .p (.sl xs)) (fun v hv => by rw [hv]; rfl) ?_) ?_
  · intro B hB fin hfin
    intro add1 sub1 mul1 quo1 rem1 band1 bor1 bxor1 bclr1 shl1 shr1 ieq1 ilt1 ile1 seq1 slt1 beq1 bnot1 orb1 bcond1 iwrap1 iof1 ssz1 hA1 cat1 sq1 sl1 imin1 imax1 smin1 smax1 len1 slen1 u81 hL1 op1 hop1 call1 hcall1 code1 hcode1 q1 hq1
    cbv
    exact hq1 _ _ (hfin _ _ rfl)
  rintro sv W4 ⟨hk4, v, rfl, hsd⟩
  refine hK _ _ ?_
  have hf4 := (hf3.world hk4).set (d := 13) hsd (by decide)
  have hj4 := hJ _ _ _ _ hj3 hk4
  clear hK hf3 hj3 hk4 hsd
  show wpListIn Fence.wide 9 _ _ _ ([_, _, _] ++ [_, _]) _ _
  refine Fr.ops eOk fOk hf4 _ _ (fun fr => fr = [(16, .p z), (12, .p (.int .i64 i)), (11, .raw yv), (3, .p (.int .i64 i)), (1, .raw pb), (0, .raw yv)]) ?_ ?_
  · intro B hB fin hfin
    intro add1 sub1 mul1 quo1 rem1 band1 bor1 bxor1 bclr1 shl1 shr1 ieq1 ilt1 ile1 seq1 slt1 beq1 bnot1 orb1 bcond1 iwrap1 iof1 ssz1 hA1 cat1 sq1 sl1 imin1 imax1 smin1 smax1 len1 slen1 u81 hL1 op1 hop1 call1 hcall1 code1 hcode1
    cbv
    refine ⟨xs.length - 1 - k, z, hi2, hzz, hz2, ?_⟩
    cbv
    unfold PV.isAgg at hz1
    rw [hz1]
    cbv
    exact hfin _ [(16, .p z), (12, .p (.int .i64 i)), (11, .raw yv), (3, .p (.int .i64 i)), (1, .raw pb), (0, .raw yv)] ⟨rfl, rfl, rfl, rfl, rfl, rfl, trivial⟩ rfl rfl rfl
  rintro _ a5 W5 rfl hf5 hk5
  have hj5 := hJ _ _ _ _ hj4 hk5
  clear hf4 hj4 hk5
  -- the call of yield
  obtain ⟨zv, hzv⟩ : ∃ zv, zv = a5.eval (.tmp 16) := ⟨_, rfl⟩
  have hzd : PV.Den ⟨M, W5⟩ z zv := by
    have h := hf5.slot 16 _ rfl
    rw [hzv]
    cases h with
    | p _ _ h => exact h
  have hiv : a5.eval (.tmp 12) = .int .i64 ((xs.length - 1 - k : Nat) : Int) := by
    have h := hf5.slot 12 _ rfl
    rw [hi2] at h
    show a5.tmps.getD 12 undef = _
    generalize a5.tmps.getD 12 undef = u at h
    cases h with
    | p _ _ h => cases h; rfl
  have hy := (hR k M W5 hj5).2.2 z zv (by omega) hzz hzd
  refine wpListIn_plain rfl fun K hK => ?_
  refine yield_wp (R := fun e W' => (e = .returned (.bool true) ∧ ∃ M', J (k + 1) M' W') ∨ (e = .returned (.bool false) ∧ Jx W')) rfl ((hf5.raw rfl).trans hyv) hiv hzv.symm hy ?_
  have hnext : ∀ {M' : Go.Sx.NP} {b : Bool} {W6 : World}, Go.Sx.Hp.Bd ⟨M', W6⟩ → Fr M' 19 [(17, .p (.bool b)), (3, .p (.int .i64 i)), (1, .raw pb), (0, .raw yv)] (a5.put (some 17) (.bool b)) W6 := by
    intro M' b W6 hb6
    refine Fr.set (hf5.next hb6 (fr' := [(3, .p (.int .i64 i)), (1, .raw pb), (0, .raw yv)]) fun t v hv => ?_) (.p _ _ (.bool _)) (by decide)
    simp only [look_cons, look] at hv ⊢
    split at hv
    · rename_i e; subst e; cases hv; exact ⟨rfl, .inr (.inl ⟨_, _, rfl⟩)⟩
    · split at hv
      · rename_i e; subst e; cases hv; exact ⟨rfl, .inl ⟨_, rfl⟩⟩
      · split at hv
        · rename_i e; subst e; cases hv; exact ⟨rfl, .inl ⟨_, rfl⟩⟩
        · cases hv
  rintro e W6 (⟨rfl, M', hj6⟩ | ⟨rfl, hjx⟩)
  · refine ⟨_, rfl, hK _ _ ?_⟩
    have hf6 := hnext (b := true) (hR (k + 1) M' W6 hj6).1
    clear hnext hK hf5 hj5 hy
    show wpListIn Fence.wide 9 _ _ _ ([_] ++ []) _ _
    refine Fr.ops eOk fOk hf6 _ _ (fun fr => fr = [(18, .p (.bool false)), (3, .p (.int .i64 i)), (1, .raw pb), (0, .raw yv)]) ?_ ?_
    · intro B hB fin hfin
      intro add1 sub1 mul1 quo1 rem1 band1 bor1 bxor1 bclr1 shl1 shr1 ieq1 ilt1 ile1 seq1 slt1 beq1 bnot1 orb1 bcond1 iwrap1 iof1 ssz1 hA1 cat1 sq1 sl1 imin1 imax1 smin1 smax1 len1 slen1 u81 hL1 op1 hop1 call1 hcall1 code1 hcode1
      have hnot : bnot1 true = false := by rw [hA1.not]; rfl
      cbv
      rw [hnot]
      exact hfin _ [(18, .p (.bool false)), (3, .p (.int .i64 i)), (1, .raw pb), (0, .raw yv)] ⟨rfl, rfl, rfl, rfl, trivial⟩ rfl rfl rfl
    rintro _ a7 W7 rfl hf7 hk7
    have hj7 := hJ _ _ _ _ hj6 hk7
    clear hf6 hj6 hk7
    have hc : a7.eval (.tmp 18) = .bool false := (hf7.slot 18 _ rfl).bool_inv
    refine wpIn_cond_false hc (wpIn_skip ?_)
    show Code.wpIn (WF none) 9 _ _ _ _ _
    refine wpIn_mono (Fr.code eOk fOk hf7 (fun e fr => e = .normal ∧ ∃ j : Int, j = i - 1 ∧ fr = [(3, .p (.int .i64 j)), (1, .raw pb), (0, .raw yv)]) (m := 9) ?_) ?_
    · intro B hB fin hfin
      have hib : (0 : Int) ≤ i ∧ i ≤ 9223372036854775807 := by omega
      intro add1 sub1 mul1 quo1 rem1 band1 bor1 bxor1 bclr1 shl1 shr1 ieq1 ilt1 ile1 seq1 slt1 beq1 bnot1 orb1 bcond1 iwrap1 iof1 ssz1 hA1 cat1 sq1 sl1 imin1 imax1 smin1 smax1 len1 slen1 u81 hL1 op1 hop1 call1 hcall1 code1 hcode1
      have hsub : sub1 .i64 i 1 = i - 1 := by rw [hA1.sub, IntWalk.i64_in _ (by omega)]
      cbv
      exact hfin _ _ [(3, .p (.int .i64 (sub1 .i64 i 1))), (1, .raw pb), (0, .raw yv)] ⟨rfl, rfl, rfl, trivial⟩ rfl ⟨rfl, _, hsub, rfl⟩ rfl
    rintro e a8 W8 ⟨fr8, ⟨rfl, j, hje, rfl⟩, hf8, hk8⟩
    exact ⟨N - (k + 1), by omega, k + 1, j, M', rfl, by omega, by rw [hje, hi]; omega, hJ _ _ _ _ hj7 hk8, hf8⟩
  · refine ⟨_, rfl, hK _ _ ?_⟩
    have hf6 := hnext (M' := fun _ => False) (b := false) (W6 := W6) fun k h => h.elim
    clear hnext hK hf5 hj5 hy
    show wpListIn Fence.wide 9 _ _ _ ([_] ++ []) _ _
    refine Fr.ops eOk fOk hf6 _ _ (fun fr => fr = [(18, .p (.bool true))]) ?_ ?_
    · intro B hB fin hfin
      intro add1 sub1 mul1 quo1 rem1 band1 bor1 bxor1 bclr1 shl1 shr1 ieq1 ilt1 ile1 seq1 slt1 beq1 bnot1 orb1 bcond1 iwrap1 iof1 ssz1 hA1 cat1 sq1 sl1 imin1 imax1 smin1 smax1 len1 slen1 u81 hL1 op1 hop1 call1 hcall1 code1 hcode1
      have hnot : bnot1 false = true := by rw [hA1.not]; rfl
      cbv
      rw [hnot]
      exact hfin _ [(18, .p (.bool true))] ⟨rfl, trivial⟩ rfl rfl rfl
    rintro _ a7 W7 rfl hf7 hk7
    have hc : a7.eval (.tmp 18) = .bool true := (hf7.slot 18 _ rfl).bool_inv
    refine wpIn_cond_true hc (wpIn_ret ?_)
    simp only [Exit.then, Exit.inBlock]
    exact bodyPost_ret (results_none rfl _ _ _) hf7.dfr ⟨⟨_, rfl⟩, .inr (hJx _ _ hjx hk7)⟩
theorem backChg_ok : BackOk Try.prog 120 3 := by
  refine ⟨fo120, fun xs hz pb l J Jx W M hJ hJx hR h0 => ?_⟩
  obtain ⟨N, hN⟩ : ∃ N, N = xs.length := ⟨_, rfl⟩
  have hbox : ∀ k M W, J k M W → V.Den ⟨M, W⟩ evNone (.imm 1 (.sl xs) 0) pb := fun k M W h => (hR k M W h).2.1
  have hNb : (N : Int) ≤ 9223372036854775807 := by rw [hN]; exact sl_bound (hbox 0 M W h0)
  obtain ⟨yv, hyv⟩ : ∃ yv, yv = Value.func (.yield l) #[] #[] := ⟨_, rfl⟩
  refine callsIn_of_wp Try.func120 rfl trivial ?_ rfl
  refine wpIn_depth (r := none) (n := 9) ?_
  have hf0 := Fr.start (M := M) (w := W) (fn := Try.f120) (n := 19) (args := [.raw yv, .raw pb]) (vals := [yv, pb]) rfl (hR 0 M W h0).1 (DenL.cons (.raw _) (DenL.cons (.raw _) DenL.nil)) (by simp)
  rw [hyv] at hf0
  generalize ha0 : ({ tmps := _, defers := [] } : Act) = a0 at hf0 ⊢
  rw [← hyv] at hf0
  clear ha0
  have hf0 : Fr M 19 [(0, .raw yv), (1, .raw pb)] a0 W := hf0
  refine wpIn_seq (wpIn_region_list ?_)
  -- the slice's length
  refine wpListIn_plain rfl fun K hK => ?_
  refine resOf_wpA (r := none) (Fr.op1 eOk fOk (hf0.see (t := 1) rfl (hbox 0 M W h0)) (fun v => v = .p (.sl xs)) (fun v hv => by rw [hv]; rfl) ?_) ?_
  · intro B hB fin hfin
    intro add1 sub1 mul1 quo1 rem1 band1 bor1 bxor1 bclr1 shl1 shr1 ieq1 ilt1 ile1 seq1 slt1 beq1 bnot1 orb1 bcond1 iwrap1 iof1 ssz1 hA1 cat1 sq1 sl1 imin1 imax1 smin1 smax1 len1 slen1 u81 hL1 op1 hop1 call1 hcall1 code1 hcode1 q1 hq1
    cbv
    exact hq1 _ _ (hfin _ _ rfl)
  rintro sv W0 ⟨hk0, v, rfl, hsd⟩
  refine hK _ _ ?_
  have hf1 := (hf0.world hk0).set (d := 4) hsd (by decide)
  have h1 := hJ _ _ _ _ h0 hk0
  clear hK hf0 h0 hk0 hsd
  rw [← List.append_nil [_, _, _]]
  refine Fr.ops eOk fOk hf1 [_, _, _] [] (fun fr => ∃ i : Int, i = (N : Int) - 1 ∧ fr = [(3, .p (.int .i64 i)), (1, .raw pb), (0, .raw yv)]) ?_ ?_
  · intro B hB fin hfin
    intro add1 sub1 mul1 quo1 rem1 band1 bor1 bxor1 bclr1 shl1 shr1 ieq1 ilt1 ile1 seq1 slt1 beq1 bnot1 orb1 bcond1 iwrap1 iof1 ssz1 hA1 cat1 sq1 sl1 imin1 imax1 smin1 smax1 len1 slen1 u81 hL1 op1 hop1 call1 hcall1 code1 hcode1
    have hlen : len1 xs = Int.ofNat N := by rw [hL1.len, hN]; rfl
    have hsub : sub1 .i64 (Int.ofNat N) 1 = (N : Int) - 1 := by rw [hA1.sub, IntWalk.i64_in _ (by simp only [Int.ofNat_eq_natCast]; omega)]; rfl
    cbv
    rw [hlen]
    exact hfin _ [(3, .p (.int .i64 (sub1 .i64 (Int.ofNat N) 1))), (1, .raw pb), (0, .raw yv)] ⟨rfl, rfl, rfl, trivial⟩ rfl ⟨_, hsub, rfl⟩ rfl
  rintro fr1 a1 W1 ⟨i, hi, rfl⟩ hf2 hk1
  have h2 := hJ _ _ _ _ h1 hk1
  clear hf1 h1 hk1
  show Code.wpIn (WF none) 9 _ _ _ _ _
  refine wpIn_block ?_
  refine wpA_loop_ghost (r := none) (fun m a W => ∃ (k : Nat) (i : Int) (M : Go.Sx.NP), m = N - k ∧ k ≤ N ∧ i = (N : Int) - 1 - k ∧ J k M W ∧ Fr M 19 [(3, .p (.int .i64 i)), (1, .raw pb), (0, .raw yv)] a W) N ?_ ?_
  · exact ⟨0, i, M, rfl, Nat.zero_le _, by rw [hi]; simp, h2, hf2⟩
  clear h2 hf2 hi i
  rintro m a W ⟨k, i, M, rfl, hkN, hi, hj, hf⟩
  refine wpIn_seq (wpIn_mono (Fr.code eOk fOk hf (fun e fr => (k < N ∧ e = .normal ∧ fr = [(3, .p (.int .i64 i)), (1, .raw pb), (0, .raw yv)]) ∨ (k = N ∧ e = .exit 0 ∧ fr = [])) (m := 9) ?_) ?_)
  · intro B hB fin hfin
    by_cases hk : k < N
    · have h0i : (0 : Int) ≤ i := by omega
      intro add1 sub1 mul1 quo1 rem1 band1 bor1 bxor1 bclr1 shl1 shr1 ieq1 ilt1 ile1 seq1 slt1 beq1 bnot1 orb1 bcond1 iwrap1 iof1 ssz1 hA1 cat1 sq1 sl1 imin1 imax1 smin1 smax1 len1 slen1 u81 hL1 op1 hop1 call1 hcall1 code1 hcode1
      cbv
      refine vcIf.yes (by first | (simp [hA1.not, hA1.eq, hA1.lt, hA1.le, hA1.cond, hA1.beq, hA1.orb, hL1.len, hL1.slen, hL1.sq, h0i]; done) | (simp only [h0i]; simp [hA1.not, hA1.eq, hA1.lt, hA1.le, hA1.cond, hA1.beq, hA1.orb, hL1.len, hL1.slen, hL1.sq, h0i]; done) | (simp [hA1.not, hA1.eq, hA1.lt, hA1.le, hA1.cond, hA1.beq, hA1.orb, hL1.len, hL1.slen, hL1.sq, h0i]; omega) | (simp only [h0i]; simp [hA1.not, hA1.eq, hA1.lt, hA1.le, hA1.cond, hA1.beq, hA1.orb, hL1.len, hL1.slen, hL1.sq, h0i]; omega)) ?_
      cbv
      exact hfin _ _ [(3, .p (.int .i64 i)), (1, .raw pb), (0, .raw yv)] ⟨rfl, rfl, rfl, trivial⟩ rfl (.inl ⟨hk, rfl, rfl⟩) rfl
    · have h0i : ¬ (0 : Int) ≤ i := by omega
      have hke : k = N := by omega
      intro add1 sub1 mul1 quo1 rem1 band1 bor1 bxor1 bclr1 shl1 shr1 ieq1 ilt1 ile1 seq1 slt1 beq1 bnot1 orb1 bcond1 iwrap1 iof1 ssz1 hA1 cat1 sq1 sl1 imin1 imax1 smin1 smax1 len1 slen1 u81 hL1 op1 hop1 call1 hcall1 code1 hcode1
      cbv
      refine vcIf.no (by first | (simp [hA1.not, hA1.eq, hA1.lt, hA1.le, hA1.cond, hA1.beq, hA1.orb, hL1.len, hL1.slen, hL1.sq, h0i]; done) | (simp only [h0i]; simp [hA1.not, hA1.eq, hA1.lt, hA1.le, hA1.cond, hA1.beq, hA1.orb, hL1.len, hL1.slen, hL1.sq, h0i]; done) | (simp [hA1.not, hA1.eq, hA1.lt, hA1.le, hA1.cond, hA1.beq, hA1.orb, hL1.len, hL1.slen, hL1.sq, h0i]; omega) | (simp only [h0i]; simp [hA1.not, hA1.eq, hA1.lt, hA1.le, hA1.cond, hA1.beq, hA1.orb, hL1.len, hL1.slen, hL1.sq, h0i]; omega)) ?_
      cbv
      exact hfin _ _ [] trivial rfl (.inr ⟨hke, rfl, rfl⟩) rfl
  rintro e a2 W2 ⟨fr2, (⟨hk, rfl, rfl⟩ | ⟨hk, rfl, rfl⟩), hf2, hk2⟩
  rotate_left
  · simp only [Exit.then, Exit.inBlock, if_true]
    refine bodyPost_end (results_none rfl _ _ _) hf2.dfr ?_
    subst hk
    rw [hN] at hj
    exact ⟨⟨_, rfl⟩, .inl ⟨M, hJ _ _ _ _ hj hk2⟩⟩
  have hj2 := hJ _ _ _ _ hj hk2
  clear hf hj hk2
  show Code.wpIn (WF none) 9 _ _ _ _ _
  refine wpIn_seq (wpIn_block (wpIn_seq (wpIn_region_list ?_)))
  -- the element
  have hlt : xs.length - 1 - k < xs.length := by omega
  obtain ⟨z, hzz⟩ := get_of_lt hlt
  obtain ⟨hz1, hz2⟩ := hz _ z hzz
  have hi2 : i = Int.ofNat (xs.length - 1 - k) := by rw [hi, hN]; simp only [Int.ofNat_eq_natCast]; omega
  rw [← List.take_append_drop 2 (Array.toList _)]
  refine Fr.ops eOk fOk hf2 _ _ (fun fr => fr = [(12, .p (.int .i64 i)), (11, .raw yv), (3, .p (.int .i64 i)), (1, .raw pb), (0, .raw yv)]) ?_ ?_
  · intro B hB fin hfin
    intro add1 sub1 mul1 quo1 rem1 band1 bor1 bxor1 bclr1 shl1 shr1 ieq1 ilt1 ile1 seq1 slt1 beq1 bnot1 orb1 bcond1 iwrap1 iof1 ssz1 hA1 cat1 sq1 sl1 imin1 imax1 smin1 smax1 len1 slen1 u81 hL1 op1 hop1 call1 hcall1 code1 hcode1
    cbv
    exact hfin _ [(12, .p (.int .i64 i)), (11, .raw yv), (3, .p (.int .i64 i)), (1, .raw pb), (0, .raw yv)] ⟨rfl, rfl, rfl, rfl, rfl, trivial⟩ rfl rfl rfl
  rintro _ a3 W3 rfl hf3 hk3
  have hj3 := hJ _ _ _ _ hj2 hk3
  clear hf2 hj2 hk3
  refine wpListIn_plain rfl fun K hK => ?_
  refine resOf_wpA (r := none) (Fr.op1 eOk fOk (hf3.see (t := 1) rfl (hbox k M W3 hj3)) (fun v => v = .p (.sl xs)) (fun v hv => by rw [hv]; rfl) ?_) ?_
  · intro B hB fin hfin
    intro add1 sub1 mul1 quo1 rem1 band1 bor1 bxor1 bclr1 shl1 shr1 ieq1 ilt1 ile1 seq1 slt1 beq1 bnot1 orb1 bcond1 iwrap1 iof1 ssz1 hA1 cat1 sq1 sl1 imin1 imax1 smin1 smax1 len1 slen1 u81 hL1 op1 hop1 call1 hcall1 code1 hcode1 q1 hq1
    cbv
    exact hq1 _ _ (hfin _ _ rfl)
  rintro sv W4 ⟨hk4, v, rfl, hsd⟩
  refine hK _ _ ?_
  have hf4 := (hf3.world hk4).set (d := 13) hsd (by decide)
  have hj4 := hJ _ _ _ _ hj3 hk4
  clear hK hf3 hj3 hk4 hsd
  show wpListIn Fence.wide 9 _ _ _ ([_, _, _] ++ [_, _]) _ _
  refine Fr.ops eOk fOk hf4 _ _ (fun fr => fr = [(16, .p z), (12, .p (.int .i64 i)), (11, .raw yv), (3, .p (.int .i64 i)), (1, .raw pb), (0, .raw yv)]) ?_ ?_
  · intro B hB fin hfin
    intro add1 sub1 mul1 quo1 rem1 band1 bor1 bxor1 bclr1 shl1 shr1 ieq1 ilt1 ile1 seq1 slt1 beq1 bnot1 orb1 bcond1 iwrap1 iof1 ssz1 hA1 cat1 sq1 sl1 imin1 imax1 smin1 smax1 len1 slen1 u81 hL1 op1 hop1 call1 hcall1 code1 hcode1
    cbv
    refine ⟨xs.length - 1 - k, z, hi2, hzz, hz2, ?_⟩
    cbv
    unfold PV.isAgg at hz1
    rw [hz1]
    cbv
    exact hfin _ [(16, .p z), (12, .p (.int .i64 i)), (11, .raw yv), (3, .p (.int .i64 i)), (1, .raw pb), (0, .raw yv)] ⟨rfl, rfl, rfl, rfl, rfl, rfl, trivial⟩ rfl rfl rfl
  rintro _ a5 W5 rfl hf5 hk5
  have hj5 := hJ _ _ _ _ hj4 hk5
  clear hf4 hj4 hk5
  -- the call of yield
  obtain ⟨zv, hzv⟩ : ∃ zv, zv = a5.eval (.tmp 16) := ⟨_, rfl⟩
  have hzd : PV.Den ⟨M, W5⟩ z zv := by
    have h := hf5.slot 16 _ rfl
    rw [hzv]
    cases h with
    | p _ _ h => exact h
  have hiv : a5.eval (.tmp 12) = .int .i64 ((xs.length - 1 - k : Nat) : Int) := by
    have h := hf5.slot 12 _ rfl
    rw [hi2] at h
    show a5.tmps.getD 12 undef = _
    generalize a5.tmps.getD 12 undef = u at h
    cases h with
    | p _ _ h => cases h; rfl
  have hy := (hR k M W5 hj5).2.2 z zv (by omega) hzz hzd
  refine wpListIn_plain rfl fun K hK => ?_
  refine yield_wp (R := fun e W' => (e = .returned (.bool true) ∧ ∃ M', J (k + 1) M' W') ∨ (e = .returned (.bool false) ∧ Jx W')) rfl ((hf5.raw rfl).trans hyv) hiv hzv.symm hy ?_
  have hnext : ∀ {M' : Go.Sx.NP} {b : Bool} {W6 : World}, Go.Sx.Hp.Bd ⟨M', W6⟩ → Fr M' 19 [(17, .p (.bool b)), (3, .p (.int .i64 i)), (1, .raw pb), (0, .raw yv)] (a5.put (some 17) (.bool b)) W6 := by
    intro M' b W6 hb6
    refine Fr.set (hf5.next hb6 (fr' := [(3, .p (.int .i64 i)), (1, .raw pb), (0, .raw yv)]) fun t v hv => ?_) (.p _ _ (.bool _)) (by decide)
    simp only [look_cons, look] at hv ⊢
    split at hv
    · rename_i e; subst e; cases hv; exact ⟨rfl, .inr (.inl ⟨_, _, rfl⟩)⟩
    · split at hv
      · rename_i e; subst e; cases hv; exact ⟨rfl, .inl ⟨_, rfl⟩⟩
      · split at hv
        · rename_i e; subst e; cases hv; exact ⟨rfl, .inl ⟨_, rfl⟩⟩
        · cases hv
  rintro e W6 (⟨rfl, M', hj6⟩ | ⟨rfl, hjx⟩)
  · refine ⟨_, rfl, hK _ _ ?_⟩
    have hf6 := hnext (b := true) (hR (k + 1) M' W6 hj6).1
    clear hnext hK hf5 hj5 hy
    show wpListIn Fence.wide 9 _ _ _ ([_] ++ []) _ _
    refine Fr.ops eOk fOk hf6 _ _ (fun fr => fr = [(18, .p (.bool false)), (3, .p (.int .i64 i)), (1, .raw pb), (0, .raw yv)]) ?_ ?_
    · intro B hB fin hfin
      intro add1 sub1 mul1 quo1 rem1 band1 bor1 bxor1 bclr1 shl1 shr1 ieq1 ilt1 ile1 seq1 slt1 beq1 bnot1 orb1 bcond1 iwrap1 iof1 ssz1 hA1 cat1 sq1 sl1 imin1 imax1 smin1 smax1 len1 slen1 u81 hL1 op1 hop1 call1 hcall1 code1 hcode1
      have hnot : bnot1 true = false := by rw [hA1.not]; rfl
      cbv
      rw [hnot]
      exact hfin _ [(18, .p (.bool false)), (3, .p (.int .i64 i)), (1, .raw pb), (0, .raw yv)] ⟨rfl, rfl, rfl, rfl, trivial⟩ rfl rfl rfl
    rintro _ a7 W7 rfl hf7 hk7
    have hj7 := hJ _ _ _ _ hj6 hk7
    clear hf6 hj6 hk7
    have hc : a7.eval (.tmp 18) = .bool false := (hf7.slot 18 _ rfl).bool_inv
    refine wpIn_cond_false hc (wpIn_skip ?_)
    show Code.wpIn (WF none) 9 _ _ _ _ _
    refine wpIn_mono (Fr.code eOk fOk hf7 (fun e fr => e = .normal ∧ ∃ j : Int, j = i - 1 ∧ fr = [(3, .p (.int .i64 j)), (1, .raw pb), (0, .raw yv)]) (m := 9) ?_) ?_
    · intro B hB fin hfin
      have hib : (0 : Int) ≤ i ∧ i ≤ 9223372036854775807 := by omega
      intro add1 sub1 mul1 quo1 rem1 band1 bor1 bxor1 bclr1 shl1 shr1 ieq1 ilt1 ile1 seq1 slt1 beq1 bnot1 orb1 bcond1 iwrap1 iof1 ssz1 hA1 cat1 sq1 sl1 imin1 imax1 smin1 smax1 len1 slen1 u81 hL1 op1 hop1 call1 hcall1 code1 hcode1
      have hsub : sub1 .i64 i 1 = i - 1 := by rw [hA1.sub, IntWalk.i64_in _ (by omega)]
      cbv
      exact hfin _ _ [(3, .p (.int .i64 (sub1 .i64 i 1))), (1, .raw pb), (0, .raw yv)] ⟨rfl, rfl, rfl, trivial⟩ rfl ⟨rfl, _, hsub, rfl⟩ rfl
    rintro e a8 W8 ⟨fr8, ⟨rfl, j, hje, rfl⟩, hf8, hk8⟩
    exact ⟨N - (k + 1), by omega, k + 1, j, M', rfl, by omega, by rw [hje, hi]; omega, hJ _ _ _ _ hj7 hk8, hf8⟩
  · refine ⟨_, rfl, hK _ _ ?_⟩
    have hf6 := hnext (M' := fun _ => False) (b := false) (W6 := W6) fun k h => h.elim
    clear hnext hK hf5 hj5 hy
    show wpListIn Fence.wide 9 _ _ _ ([_] ++ []) _ _
    refine Fr.ops eOk fOk hf6 _ _ (fun fr => fr = [(18, .p (.bool true))]) ?_ ?_
    · intro B hB fin hfin
      intro add1 sub1 mul1 quo1 rem1 band1 bor1 bxor1 bclr1 shl1 shr1 ieq1 ilt1 ile1 seq1 slt1 beq1 bnot1 orb1 bcond1 iwrap1 iof1 ssz1 hA1 cat1 sq1 sl1 imin1 imax1 smin1 smax1 len1 slen1 u81 hL1 op1 hop1 call1 hcall1 code1 hcode1
      have hnot : bnot1 false = true := by rw [hA1.not]; rfl
      cbv
      rw [hnot]
      exact hfin _ [(18, .p (.bool true))] ⟨rfl, trivial⟩ rfl rfl rfl
    rintro _ a7 W7 rfl hf7 hk7
    have hc : a7.eval (.tmp 18) = .bool true := (hf7.slot 18 _ rfl).bool_inv
    refine wpIn_cond_true hc (wpIn_ret ?_)
    simp only [Exit.then, Exit.inBlock]
    exact bodyPost_ret (results_none rfl _ _ _) hf7.dfr ⟨⟨_, rfl⟩, .inr (hJx _ _ hjx hk7)⟩
end Go.Proofs.Ytnigonhkfpnodaa
