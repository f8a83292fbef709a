/- Changes: sound or not, one and all; the document's too. Conditions: on sizes. -/
import Derived.Test.YtegkojnngdlfaaaGreatLEnv
set_option maxRecDepth 100000
set_option maxHeartbeats 4000000
set_option linter.unusedSimpArgs false
set_option linter.unusedVariables false
namespace Go.Proofs.YtegkojnngdlfaaaGreat
open Go Go.Lx
open Go.Sx (vcIf)
structure Chg where
  kind : Int
  key : List UInt8
  val : List UInt8
def Chg.v (c : Chg) : PV := .agg [.int .i64 c.kind, .str c.key, .str c.val]
def cP (l : List Chg) : List PV := l.map Chg.v
theorem cP_length (l : List Chg) : (cP l).length = l.length := List.length_map _
theorem cP_get {l : List Chg} {i : Nat} {c : Chg} (h : l[i]? = some c) : (cP l)[i]? = some (.agg [.int .i64 c.kind, .str c.key, .str c.val]) := by unfold cP; rw [List.getElem?_map, h]; rfl
theorem Chg.wf (c : Chg) : c.v.wf 3 := ⟨rfl, fun u hu => by simp [Chg.v, PV.cells] at hu; rcases hu with rfl | rfl | rfl <;> rfl⟩
theorem cP_wf (l : List Chg) : Wf 3 (cP l) := fun x hx => by obtain ⟨c, _, rfl⟩ := List.mem_map.1 hx; exact c.wf
def Chg.fit (c : Chg) : Prop := c.key.length < 140737488355328 ∧ c.val.length < 140737488355328 ∧ -9223372036854775808 ≤ c.kind ∧ c.kind ≤ 9223372036854775807
def chk (c : Chg) : Nat :=
  if c.kind = 3 then (if 17 < c.val.length ∨ 17 < c.key.length then 6 else if Op.bytesLess c.val c.key = true then 5 else 0)
  else if c.kind = 2 then (if 0 < c.val.length ∨ 16 < c.key.length then 6 else 0)
  else if c.kind = 1 then (if 16 < c.key.length ∨ 64 < c.val.length then 6 else 0) else 1
def chks : List Chg → Nat
  | [] => 0
  | c :: r => if chk c ≠ 0 then chk c else chks r
theorem check_spec (c : Chg) : FnL Tryz.prog 31 [.p (.agg [.int .i64 c.kind, .str c.key, .str c.val])] [] fun v own => ∃ e : Nat, e = chk c ∧ v = .p (.int .i64 (Int.ofNat e)) ∧ own = [] := by
  refine FnL.flat (R := fun v own => ∃ e : Nat, e = chk c ∧ v = .p (.int .i64 (Int.ofNat e))) ?_ (by rintro _ _ ⟨b, h, rfl⟩; exact ⟨_, _, rfl, .refl _, b, h, rfl, rfl⟩)
  obtain ⟨R, hR⟩ : ∃ R, R = chk c := ⟨_, rfl⟩
  rw [← hR]
  obtain ⟨k, ky, vl⟩ := c
  unfold chk at hR
  simp only at hR ⊢
  obtain ⟨kn, hkn⟩ : ∃ n, n = ky.length := ⟨_, rfl⟩
  obtain ⟨vn, hvn⟩ : ∃ n, n = vl.length := ⟨_, rfl⟩
  rw [← hkn, ← hvn] at hR
  refine fn_of_vc eOk fOk fo31 Tryz.func31 rfl rfl rfl fun B hB => ?_
  intro add _ _ _ _ _ _ _ _ _ _ _ _ _ _ _ _ _ orb _ _ _ _ hA _ sq sl _ _ _ _ _ slen _ hL _ _ _ _ _ hcode ret hret
  have hk : slen ky = Int.ofNat kn := by rw [hL.slen, hkn]; rfl
  have hv : slen vl = Int.ofNat vn := by rw [hL.slen, hvn]; rfl
  cbv
  refine hcode _ _ _ (CodeEv.drawA eOk fOk (by kernel_rfl) noX (by kernel_rfl) (by kernel_rfl) (by kernel_rfl) ?_)
  intro _ _ _ _ _ _ _ _ _ _ _ _ _ _ _ _ _ _ _ _ _ _ _ _ _ _ _ _ _ _ _ _ slen2 _ hL2 _ _ _ _ _ _ _ hq2
  have hv2 : slen2 vl = Int.ofNat vn := by rw [hL2.slen, hvn]; rfl
  have hadd : add .i64 16 1 = 17 := by rw [hA.add]; rfl
  cbv
  rw [hv2]
  refine hq2 _ ?_
  cbv
  by_cases h3 : k = 3
  · rw [if_pos h3] at hR
    repeat (first | (refine vcIf.yes ?_ ?_; (focus (simp [smW hA hL, h3]; done)); cbv) | (refine vcIf.no ?_ ?_; (focus (simp [smW hA hL, h3]; done)); cbv))
    by_cases h1 : 17 < vn
    · rw [if_pos (.inl h1)] at hR
      refine vcIf.yes (by first | (simp [smW hA hL, hadd, h1]; done) | (simp only [hadd, h1]; simp [smW hA hL, hadd, h1]; done) | (simp [smW hA hL, hadd, h1]; omega) | (simp only [hadd, h1]; simp [smW hA hL, hadd, h1]; omega)) ?_
      cbv
      repeat (first | (refine vcIf.yes ?_ ?_; (focus (simp [smW hA hL]; done)); cbv) | (refine vcIf.no ?_ ?_; (focus (simp [smW hA hL]; done)); cbv))
      exact hret _ (RetEv.ret eOk rfl ⟨6, hR.symm, rfl⟩)
    refine vcIf.no (by first | (simp [smW hA hL, hadd, h1]; done) | (simp only [hadd, h1]; simp [smW hA hL, hadd, h1]; done) | (simp [smW hA hL, hadd, h1]; omega) | (simp only [hadd, h1]; simp [smW hA hL, hadd, h1]; omega)) ?_
    cbv
    by_cases h2 : 17 < kn
    · rw [if_pos (.inr h2)] at hR
      refine vcIf.yes (by rw [hA.cond, hA.lt, hadd, hk]; exact decide_eq_true (by simp only [Int.ofNat_eq_natCast]; omega)) ?_
      cbv
      exact hret _ (RetEv.ret eOk rfl ⟨6, hR.symm, rfl⟩)
    rw [if_neg (by omega)] at hR
    refine vcIf.no (by rw [hA.cond, hA.lt, hadd, hk]; exact decide_eq_false (by simp only [Int.ofNat_eq_natCast]; omega)) ?_
    cbv
    by_cases h4 : Op.bytesLess vl ky = true
    · rw [if_pos h4] at hR
      refine vcIf.yes (by rw [hA.not, hA.orb, hL.sl, hL.sq]; exact (bl_gt ky vl).trans h4) ?_
      cbv
      exact hret _ (RetEv.ret eOk rfl ⟨5, hR.symm, rfl⟩)
    · rw [if_neg h4] at hR
      refine vcIf.no (by rw [hA.not, hA.orb, hL.sl, hL.sq]; exact (bl_gt ky vl).trans (by simpa using h4)) ?_
      cbv
      exact hret _ (RetEv.ret eOk rfl ⟨0, hR.symm, rfl⟩)
  rw [if_neg h3] at hR
  by_cases h2 : k = 2
  · rw [if_pos h2] at hR
    repeat (first | (refine vcIf.yes ?_ ?_; (focus (simp [smW hA hL, h3, h2]; done)); cbv) | (refine vcIf.no ?_ ?_; (focus (simp [smW hA hL, h3, h2]; done)); cbv))
    by_cases h1 : 0 < vn
    · rw [if_pos (.inl h1)] at hR
      refine vcIf.yes (by first | (simp [smW hA hL, h1]; done) | (simp only [h1]; simp [smW hA hL, h1]; done) | (simp [smW hA hL, h1]; omega) | (simp only [h1]; simp [smW hA hL, h1]; omega)) ?_
      cbv
      exact hret _ (RetEv.ret eOk rfl ⟨6, hR.symm, rfl⟩)
    refine vcIf.no (by first | (simp [smW hA hL, h1]; done) | (simp only [h1]; simp [smW hA hL, h1]; done) | (simp [smW hA hL, h1]; omega) | (simp only [h1]; simp [smW hA hL, h1]; omega)) ?_
    cbv
    by_cases h4 : 16 < kn
    · rw [if_pos (.inr h4)] at hR
      refine vcIf.yes (by first | (simp [smW hA hL, hk, h4]; done) | (simp only [hk, h4]; simp [smW hA hL, hk, h4]; done) | (simp [smW hA hL, hk, h4]; omega) | (simp only [hk, h4]; simp [smW hA hL, hk, h4]; omega)) ?_
      cbv
      repeat (first | (refine vcIf.yes ?_ ?_; (focus (simp [smW hA hL]; done)); cbv) | (refine vcIf.no ?_ ?_; (focus (simp [smW hA hL]; done)); cbv))
      exact hret _ (RetEv.ret eOk rfl ⟨6, hR.symm, rfl⟩)
    rw [if_neg (by omega)] at hR
    refine vcIf.no (by first | (simp [smW hA hL, hk, h4]; done) | (simp only [hk, h4]; simp [smW hA hL, hk, h4]; done) | (simp [smW hA hL, hk, h4]; omega) | (simp only [hk, h4]; simp [smW hA hL, hk, h4]; omega)) ?_
    cbv
    refine vcIf.no (by rw [hA.cond, hA.lt]; exact decide_eq_false (by simp only [Int.ofNat_eq_natCast]; omega)) ?_
    cbv
    exact hret _ (RetEv.ret eOk rfl ⟨0, hR.symm, rfl⟩)
  rw [if_neg h2] at hR
  by_cases h1 : k = 1
  · rw [if_pos h1] at hR
    repeat (first | (refine vcIf.yes ?_ ?_; (focus (simp [smW hA hL, h3, h2, h1]; done)); cbv) | (refine vcIf.no ?_ ?_; (focus (simp [smW hA hL, h3, h2, h1]; done)); cbv))
    by_cases h4 : 16 < kn
    · rw [if_pos (.inl h4)] at hR
      refine vcIf.yes (by first | (simp [smW hA hL, hk, h4]; done) | (simp only [hk, h4]; simp [smW hA hL, hk, h4]; done) | (simp [smW hA hL, hk, h4]; omega) | (simp only [hk, h4]; simp [smW hA hL, hk, h4]; omega)) ?_
      cbv
      repeat (first | (refine vcIf.yes ?_ ?_; (focus (simp [smW hA hL]; done)); cbv) | (refine vcIf.no ?_ ?_; (focus (simp [smW hA hL]; done)); cbv))
      exact hret _ (RetEv.ret eOk rfl ⟨6, hR.symm, rfl⟩)
    refine vcIf.no (by first | (simp [smW hA hL, hk, h4]; done) | (simp only [hk, h4]; simp [smW hA hL, hk, h4]; done) | (simp [smW hA hL, hk, h4]; omega) | (simp only [hk, h4]; simp [smW hA hL, hk, h4]; omega)) ?_
    cbv
    by_cases h5 : 64 < vn
    · rw [if_pos (.inr h5)] at hR
      refine vcIf.yes (by rw [hA.cond, hA.lt]; exact decide_eq_true (by simp only [Int.ofNat_eq_natCast]; omega)) ?_
      cbv
      exact hret _ (RetEv.ret eOk rfl ⟨6, hR.symm, rfl⟩)
    rw [if_neg (by omega)] at hR
    refine vcIf.no (by rw [hA.cond, hA.lt]; exact decide_eq_false (by simp only [Int.ofNat_eq_natCast]; omega)) ?_
    cbv
    exact hret _ (RetEv.ret eOk rfl ⟨0, hR.symm, rfl⟩)
  rw [if_neg h1] at hR
  repeat (first | (refine vcIf.yes ?_ ?_; (focus (simp [smW hA hL, h3, h2, h1]; done)); cbv) | (refine vcIf.no ?_ ?_; (focus (simp [smW hA hL, h3, h2, h1]; done)); cbv))
  exact hret _ (RetEv.ret eOk rfl ⟨1, hR.symm, rfl⟩)
theorem chks_take : ∀ (l : List Chg) (i : Nat) (c : Chg), l[i]? = some c → chks (l.take i) = 0 → chks (l.take (i + 1)) = chk c ∧ (chk c ≠ 0 → chks l = chk c)
  | [], i, c, h, _ => by simp at h
  | d :: r, 0, c, h, _ => by
    simp at h; subst h
    refine ⟨?_, fun hc => ?_⟩
    · by_cases hc : chk d = 0 <;> simp [chks, hc]
    · simp [chks, hc]
  | d :: r, i + 1, c, h, h0 => by
    simp only [List.getElem?_cons_succ] at h
    rw [List.take_succ_cons, chks] at h0
    have hd : chk d = 0 := by
      split at h0
      · rename_i hd; exact absurd h0 hd
      · rename_i hd; simpa using hd
    rw [if_neg (by simpa using hd)] at h0
    obtain ⟨h1, h2⟩ := chks_take r i c h h0
    rw [List.take_succ_cons, chks, if_neg (by simpa using hd), chks, if_neg (by simpa using hd)]
    exact ⟨h1, h2⟩
theorem all_spec (l : List Chg) (hl : l.length < 9223372036854775807) (zs : List PV) (hzs : zs = cP l) :
    FnL Tryz.prog 56 [.p (.sl zs)] [] fun v own => ∃ e : Nat, e = chks l ∧ v = .p (.int .i64 (Int.ofNat e)) ∧ own = [] := by
  have hzl : zs.length = l.length := by rw [hzs, cP_length]
  obtain ⟨N, hN⟩ : ∃ N, N = l.length := ⟨_, rfl⟩
  rw [← hN] at hzl hl
  refine FnL.flat (R := fun v own => ∃ e : Nat, e = chks l ∧ v = .p (.int .i64 (Int.ofNat e))) ?_ (by rintro _ _ ⟨b, h, rfl⟩; exact ⟨_, _, rfl, .refl _, b, h, rfl, rfl⟩)
  refine fn_of_vc eOk fOk fo56 Tryz.func56 rfl rfl rfl fun B hB => ?_
  intro add _ _ _ _ _ _ _ _ _ _ _ _ _ _ _ _ _ _ _ _ _ _ _ _ _ sl _ _ _ _ len _ _ hL _ _ _ _ _ hcode ret hret
  have hlen : len zs = Int.ofNat N := by rw [hL.len, hzl]; rfl
  cbv
  rw [hlen]
  refine hcode _ _ _ (CodeEv.loop eOk fOk (ι := Nat) (fun s => [(6, .p (.sl zs)), (7, .p (.int .i64 (Int.ofNat N))), (8, .p (.int .i64 (Int.ofNat s)))])
    (fun s => []) (fun s => s ≤ N ∧ chks (l.take s) = 0) (fun s => N - s) 0 ?_ ?_)
  · exact ⟨⟨rfl, rfl, rfl, trivial⟩, rfl, Nat.zero_le _, rfl⟩
  rintro i ⟨h1, h2⟩ rd hrd
  intro add1 _ _ _ _ _ _ _ _ _ _ _ _ _ _ _ _ _ _ _ _ _ _ hA1 _ _ _ _ _ _ _ _ _ _ hL1 _ _ _ hcall1 _ _
  have hadd1 : i < N → add1 .i64 (Int.ofNat i) 1 = Int.ofNat (i + 1) := fun _ => by rw [hA1.add, IntWalk.i64_in _ (by simp only [Int.ofNat_eq_natCast]; omega)]; rfl
  cbv
  by_cases hi : i < N
  · obtain ⟨c, hc⟩ := get_of_lt (show i < l.length by omega)
    obtain ⟨k1, k2⟩ := chks_take l i c hc h2
    have hzz : zs[i]? = some (.agg [.int .i64 c.kind, .str c.key, .str c.val]) := by rw [hzs]; exact cP_get hc
    have hch := check_spec c
    obtain ⟨k, ky, vl⟩ := c
    simp only at hzz hch
    refine vcIf.yes (by first | (simp [smW hA1 hL1, hi]; done) | (simp only [hi]; simp [smW hA1 hL1, hi]; done) | (simp [smW hA1 hL1, hi]; omega) | (simp only [hi]; simp [smW hA1 hL1, hi]; omega)) ?_
    cbv
    refine ⟨i, _, rfl, hzz, rfl, ?_⟩
    cbv
    refine hcall1 _ _ _ _ _ (CallEv.same hch rfl ?_)
    rintro _ _ ⟨e, he, rfl, rfl⟩
    rw [← he] at k1 k2
    cbv
    by_cases h0 : e = 0
    · refine vcIf.no (by first | (simp [smW hA1 hL1, h0]; done) | (simp only [h0]; simp [smW hA1 hL1, h0]; done) | (simp [smW hA1 hL1, h0]; omega) | (simp only [h0]; simp [smW hA1 hL1, h0]; omega)) ?_
      cbv
      refine hrd _ ⟨i + 1, _, ?_, ⟨hi, by rw [k1, h0]⟩, rfl, ⟨rfl, rfl, ?_, trivial⟩, rfl, rfl, rfl, ?_⟩
      · show N - (i + 1) < N - i
        omega
      · show some (V.p (.int .i64 _)) = _
        rw [hadd1 hi]
      · rw [hB]; exact Nat.zero_le _
    · refine vcIf.yes (by first | (simp [smW hA1 hL1, h0]; done) | (simp only [h0]; simp [smW hA1 hL1, h0]; done) | (simp [smW hA1 hL1, h0]; omega) | (simp only [h0]; simp [smW hA1 hL1, h0]; omega)) ?_
      cbv
      exact hret _ (RetEv.ret eOk rfl ⟨e, (k2 h0).symm, rfl⟩)
  · refine vcIf.no (by first | (simp [smW hA1 hL1, hi]; done) | (simp only [hi]; simp [smW hA1 hL1, hi]; done) | (simp [smW hA1 hL1, hi]; omega) | (simp only [hi]; simp [smW hA1 hL1, hi]; omega)) ?_
    cbv
    rw [List.take_of_length_le (by omega)] at h2
    exact hret _ (RetEv.ret eOk rfl ⟨0, h2.symm, rfl⟩)
theorem rcheck_spec (c : Chg) : FnL Tryz.prog 73 [.p (.agg [.int .i64 c.kind, .str c.key, .str c.val])] [] fun v own => ∃ e : Nat, e = chk c ∧ v = .p (.int .i64 (Int.ofNat e)) ∧ own = [] := by
  refine FnL.flat (R := fun v own => ∃ e : Nat, e = chk c ∧ v = .p (.int .i64 (Int.ofNat e))) ?_ (by rintro _ _ ⟨b, h, rfl⟩; exact ⟨_, _, rfl, .refl _, b, h, rfl, rfl⟩)
  obtain ⟨R, hR⟩ : ∃ R, R = chk c := ⟨_, rfl⟩
  rw [← hR]
  obtain ⟨k, ky, vl⟩ := c
  unfold chk at hR
  simp only at hR ⊢
  obtain ⟨kn, hkn⟩ : ∃ n, n = ky.length := ⟨_, rfl⟩
  obtain ⟨vn, hvn⟩ : ∃ n, n = vl.length := ⟨_, rfl⟩
  rw [← hkn, ← hvn] at hR
  refine fn_of_vc eOk fOk fo73 Tryz.func73 rfl rfl rfl fun B hB => ?_
  intro _ _ _ _ _ _ _ _ _ _ _ _ _ _ _ _ _ _ orb _ _ _ _ hA _ sq sl _ _ _ _ _ slen _ hL _ _ _ _ _ hcode ret hret
  cbv
  refine hcode _ _ _ (CodeEv.drawA eOk fOk (by kernel_rfl) noX (by kernel_rfl) (by kernel_rfl) (by kernel_rfl) ?_)
  intro _ _ _ _ _ _ _ _ _ _ _ _ _ _ _ _ _ _ _ _ _ _ _ _ _ _ _ _ _ _ _ _ slen2 _ hL2 _ _ _ _ _ _ _ hq2
  have hk2 : slen2 ky = Int.ofNat kn := by rw [hL2.slen, hkn]; rfl
  have hv2 : slen2 vl = Int.ofNat vn := by rw [hL2.slen, hvn]; rfl
  cbv
  rw [hv2, hk2]
  refine hq2 _ ?_
  cbv
  by_cases h1 : k = 1
  · rw [if_neg (by omega), if_neg (by omega), if_pos h1] at hR
    repeat (first | (refine vcIf.yes ?_ ?_; (focus (simp [smW hA hL, h1]; done)); cbv) | (refine vcIf.no ?_ ?_; (focus (simp [smW hA hL, h1]; done)); cbv))
    by_cases h4 : 16 < kn
    · rw [if_pos (.inl h4)] at hR
      refine vcIf.yes (by first | (simp [smW hA hL, h4]; done) | (simp only [h4]; simp [smW hA hL, h4]; done) | (simp [smW hA hL, h4]; omega) | (simp only [h4]; simp [smW hA hL, h4]; omega)) ?_
      cbv
      repeat (first | (refine vcIf.yes ?_ ?_; (focus (simp [smW hA hL]; done)); cbv) | (refine vcIf.no ?_ ?_; (focus (simp [smW hA hL]; done)); cbv))
      exact hret _ (RetEv.ret eOk rfl ⟨6, hR.symm, rfl⟩)
    refine vcIf.no (by first | (simp [smW hA hL, h4]; done) | (simp only [h4]; simp [smW hA hL, h4]; done) | (simp [smW hA hL, h4]; omega) | (simp only [h4]; simp [smW hA hL, h4]; omega)) ?_
    cbv
    by_cases h5 : 64 < vn
    · rw [if_pos (.inr h5)] at hR
      refine vcIf.yes (by rw [hA.cond, hA.lt]; exact decide_eq_true (by simp only [Int.ofNat_eq_natCast]; omega)) ?_
      cbv
      exact hret _ (RetEv.ret eOk rfl ⟨6, hR.symm, rfl⟩)
    rw [if_neg (by omega)] at hR
    refine vcIf.no (by rw [hA.cond, hA.lt]; exact decide_eq_false (by simp only [Int.ofNat_eq_natCast]; omega)) ?_
    cbv
    exact hret _ (RetEv.ret eOk rfl ⟨0, hR.symm, rfl⟩)
  by_cases h2 : k = 2
  · rw [if_neg (by omega), if_pos h2] at hR
    repeat (first | (refine vcIf.yes ?_ ?_; (focus (simp [smW hA hL, h1, h2]; done)); cbv) | (refine vcIf.no ?_ ?_; (focus (simp [smW hA hL, h1, h2]; done)); cbv))
    by_cases h4 : 16 < kn
    · rw [if_pos (.inr h4)] at hR
      refine vcIf.yes (by first | (simp [smW hA hL, h4]; done) | (simp only [h4]; simp [smW hA hL, h4]; done) | (simp [smW hA hL, h4]; omega) | (simp only [h4]; simp [smW hA hL, h4]; omega)) ?_
      cbv
      repeat (first | (refine vcIf.yes ?_ ?_; (focus (simp [smW hA hL]; done)); cbv) | (refine vcIf.no ?_ ?_; (focus (simp [smW hA hL]; done)); cbv))
      exact hret _ (RetEv.ret eOk rfl ⟨6, hR.symm, rfl⟩)
    refine vcIf.no (by first | (simp [smW hA hL, h4]; done) | (simp only [h4]; simp [smW hA hL, h4]; done) | (simp [smW hA hL, h4]; omega) | (simp only [h4]; simp [smW hA hL, h4]; omega)) ?_
    cbv
    by_cases h5 : 0 < vn
    · rw [if_pos (.inl h5)] at hR
      refine vcIf.yes (by rw [hA.cond, hA.lt]; exact decide_eq_true (by simp only [Int.ofNat_eq_natCast]; omega)) ?_
      cbv
      exact hret _ (RetEv.ret eOk rfl ⟨6, hR.symm, rfl⟩)
    rw [if_neg (by omega)] at hR
    refine vcIf.no (by rw [hA.cond, hA.lt]; exact decide_eq_false (by simp only [Int.ofNat_eq_natCast]; omega)) ?_
    cbv
    exact hret _ (RetEv.ret eOk rfl ⟨0, hR.symm, rfl⟩)
  by_cases h3 : k = 3
  · rw [if_pos h3] at hR
    repeat (first | (refine vcIf.yes ?_ ?_; (focus (simp [smW hA hL, h1, h2, h3]; done)); cbv) | (refine vcIf.no ?_ ?_; (focus (simp [smW hA hL, h1, h2, h3]; done)); cbv))
    by_cases h4 : 17 < kn
    · rw [if_pos (.inr h4)] at hR
      refine vcIf.yes (by first | (simp [smW hA hL, h4]; done) | (simp only [h4]; simp [smW hA hL, h4]; done) | (simp [smW hA hL, h4]; omega) | (simp only [h4]; simp [smW hA hL, h4]; omega)) ?_
      cbv
      repeat (first | (refine vcIf.yes ?_ ?_; (focus (simp [smW hA hL]; done)); cbv) | (refine vcIf.no ?_ ?_; (focus (simp [smW hA hL]; done)); cbv))
      exact hret _ (RetEv.ret eOk rfl ⟨6, hR.symm, rfl⟩)
    refine vcIf.no (by first | (simp [smW hA hL, h4]; done) | (simp only [h4]; simp [smW hA hL, h4]; done) | (simp [smW hA hL, h4]; omega) | (simp only [h4]; simp [smW hA hL, h4]; omega)) ?_
    cbv
    by_cases h5 : 17 < vn
    · rw [if_pos (.inl h5)] at hR
      refine vcIf.yes (by rw [hA.cond, hA.lt]; exact decide_eq_true (by simp only [Int.ofNat_eq_natCast]; omega)) ?_
      cbv
      exact hret _ (RetEv.ret eOk rfl ⟨6, hR.symm, rfl⟩)
    rw [if_neg (by omega)] at hR
    refine vcIf.no (by rw [hA.cond, hA.lt]; exact decide_eq_false (by simp only [Int.ofNat_eq_natCast]; omega)) ?_
    cbv
    by_cases h6 : Op.bytesLess vl ky = true
    · rw [if_pos h6] at hR
      refine vcIf.yes (by rw [hA.not, hA.orb, hL.sl, hL.sq]; exact (bl_gt ky vl).trans h6) ?_
      cbv
      exact hret _ (RetEv.ret eOk rfl ⟨5, hR.symm, rfl⟩)
    · rw [if_neg h6] at hR
      refine vcIf.no (by rw [hA.not, hA.orb, hL.sl, hL.sq]; exact (bl_gt ky vl).trans (by simpa using h6)) ?_
      cbv
      exact hret _ (RetEv.ret eOk rfl ⟨0, hR.symm, rfl⟩)
  rw [if_neg h3, if_neg h2, if_neg h1] at hR
  repeat (first | (refine vcIf.yes ?_ ?_; (focus (simp [smW hA hL, h3, h2, h1]; done)); cbv) | (refine vcIf.no ?_ ?_; (focus (simp [smW hA hL, h3, h2, h1]; done)); cbv))
  exact hret _ (RetEv.ret eOk rfl ⟨1, hR.symm, rfl⟩)
theorem rall_spec (l : List Chg) (hl : l.length < 9223372036854775807) (zs : List PV) (hzs : zs = cP l) :
    FnL Tryz.prog 67 [.p (.sl zs)] [] fun v own => ∃ e : Nat, e = chks l ∧ v = .p (.int .i64 (Int.ofNat e)) ∧ own = [] := by
  have hzl : zs.length = l.length := by rw [hzs, cP_length]
  obtain ⟨N, hN⟩ : ∃ N, N = l.length := ⟨_, rfl⟩
  rw [← hN] at hzl hl
  refine fn_of_vc eOk fOk fo67 Tryz.func67 rfl rfl rfl fun B hB => ?_
  intro add _ _ _ _ _ _ _ _ _ _ _ _ _ _ _ _ _ _ _ _ _ _ _ _ _ sl _ _ _ _ _ _ _ _ _ _ _ _ _ hcode ret hret
  cbv
  refine hcode _ _ _ (CodeEv.loop eOk fOk (ι := Nat) (fun s => [(0, .p (.sl zs)), (3, .p (.int .i64 (Int.ofNat s)))])
    (fun s => []) (fun s => s ≤ N ∧ chks (l.take s) = 0) (fun s => N - s) 0 ?_ ?_)
  · exact ⟨⟨rfl, rfl, trivial⟩, rfl, Nat.zero_le _, rfl⟩
  rintro i ⟨h1, h2⟩ rd hrd
  intro add1 _ _ _ _ _ _ _ _ _ _ _ _ _ _ _ _ _ _ _ _ _ _ hA1 _ _ _ _ _ _ _ _ _ _ hL1 _ _ _ hcall1 _ _
  have hadd1 : i < N → add1 .i64 (Int.ofNat i) 1 = Int.ofNat (i + 1) := fun _ => by rw [hA1.add, IntWalk.i64_in _ (by simp only [Int.ofNat_eq_natCast]; omega)]; rfl
  cbv
  by_cases hi : i < N
  · obtain ⟨c, hc⟩ := get_of_lt (show i < l.length by omega)
    obtain ⟨k1, k2⟩ := chks_take l i c hc h2
    have hzz : zs[i]? = some (.agg [.int .i64 c.kind, .str c.key, .str c.val]) := by rw [hzs]; exact cP_get hc
    have hch := rcheck_spec c
    obtain ⟨k, ky, vl⟩ := c
    simp only at hzz hch
    refine vcIf.yes (by first | (simp [smW hA1 hL1, hi, hzl]; done) | (simp only [hi, hzl]; simp [smW hA1 hL1, hi, hzl]; done) | (simp [smW hA1 hL1, hi, hzl]; omega) | (simp only [hi, hzl]; simp [smW hA1 hL1, hi, hzl]; omega)) ?_
    cbv
    refine ⟨i, _, rfl, hzz, rfl, ?_⟩
    cbv
    refine hcall1 _ _ _ _ _ (CallEv.same hch rfl ?_)
    rintro _ _ ⟨e, he, rfl, rfl⟩
    rw [← he] at k1 k2
    cbv
    by_cases h0 : e = 0
    · refine vcIf.no (by first | (simp [smW hA1 hL1, h0]; done) | (simp only [h0]; simp [smW hA1 hL1, h0]; done) | (simp [smW hA1 hL1, h0]; omega) | (simp only [h0]; simp [smW hA1 hL1, h0]; omega)) ?_
      cbv
      refine hrd _ ⟨i + 1, [], ?_, ⟨hi, by rw [k1, h0]⟩, rfl, ⟨rfl, ?_, trivial⟩, rfl, rfl, rfl, ?_⟩
      · show N - (i + 1) < N - i
        omega
      · show some (V.p (.int .i64 _)) = _
        rw [hadd1 hi]
      · rw [hB]; exact Nat.zero_le _
    · refine vcIf.yes (by first | (simp [smW hA1 hL1, h0]; done) | (simp only [h0]; simp [smW hA1 hL1, h0]; done) | (simp [smW hA1 hL1, h0]; omega) | (simp only [h0]; simp [smW hA1 hL1, h0]; omega)) ?_
      cbv
      exact hret _ (RetEv.ret eOk rfl ⟨e, (k2 h0).symm, rfl, rfl⟩)
  · refine vcIf.no (by first | (simp [smW hA1 hL1, hi, hzl]; done) | (simp only [hi, hzl]; simp [smW hA1 hL1, hi, hzl]; done) | (simp [smW hA1 hL1, hi, hzl]; omega) | (simp only [hi, hzl]; simp [smW hA1 hL1, hi, hzl]; omega)) ?_
    cbv
    rw [List.take_of_length_le (by omega)] at h2
    exact hret _ (RetEv.ret eOk rfl ⟨0, h2.symm, rfl, rfl⟩)
end Go.Proofs.YtegkojnngdlfaaaGreat
