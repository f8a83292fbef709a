/- LAp1, LAp2, LAp3, LAq0 together. Conditions: on sizes. -/
import Derived.Test.YtegkojnngdlfaaaGreatLSqm
set_option maxRecDepth 100000
set_option maxHeartbeats 16000000
set_option linter.unusedSimpArgs false
set_option linter.unusedVariables false
namespace Go.Proofs.YtegkojnngdlfaaaGreat
section
open Go Go.Lx
open Go.Sx (vcIf)
structure Pr where
  key : List UInt8
  val : List UInt8
def Pr.v (p : Pr) : PV := .agg [.str p.key, .str p.val]
def prP (l : List Pr) : List PV := l.map Pr.v
theorem prP_length (l : List Pr) : (prP l).length = l.length := List.length_map _
theorem prP_get {l : List Pr} {i : Nat} {p : Pr} (h : l[i]? = some p) : (prP l)[i]? = some (.agg [.str p.key, .str p.val]) := by unfold prP; rw [List.getElem?_map, h]; rfl
theorem Pr.wf (p : Pr) : p.v.wf 2 := ⟨rfl, fun u hu => by simp [Pr.v, PV.cells] at hu; rcases hu with rfl | rfl <;> rfl⟩
def gP (ps : List Pr) (i : Nat) : Bool :=
  match ps[i]? with
  | none => true
  | some p => decide (p.key.length ≤ 16 ∧ p.val.length ≤ 64 ∧ (i = 0 ∨ bl (ps.getD (i - 1) ⟨[], []⟩).key p.key = true))
theorem gP_some {ps : List Pr} {i : Nat} {p : Pr} (h : ps[i]? = some p) : gP ps i = true ↔ (p.key.length ≤ 16 ∧ p.val.length ≤ 64 ∧ (i = 0 ∨ bl (ps.getD (i - 1) ⟨[], []⟩).key p.key = true)) := by
  unfold gP; rw [h]; exact decide_eq_true_iff
def sndP (ps : List Pr) : Bool := decide (∀ i, i < ps.length → gP ps i = true)
theorem sndP_bad {ps : List Pr} {i : Nat} {p : Pr} (h : ps[i]? = some p) (hn : ¬ (p.key.length ≤ 16 ∧ p.val.length ≤ 64 ∧ (i = 0 ∨ bl (ps.getD (i - 1) ⟨[], []⟩).key p.key = true))) : sndP ps = false := by
  unfold sndP
  exact decide_eq_false fun c => hn ((gP_some h).1 (c i (List.getElem?_eq_some_iff.1 h).1))
def Pr.fit (p : Pr) : Prop := p.key.length < 281474976710656 ∧ p.val.length < 281474976710656
end
section
open Go Go.Lx
open Go.Sx (vcIf)
theorem prEq (a b c d : List UInt8) : eqF Tryz.prog [PV.str a, PV.str b] [PV.str c, PV.str d] (Tryz.prog.fieldsOf 84).toList = some (decide (a = c) && (decide (b = d) && true)) := by kernel_rfl
theorem prEqB (a b c d : List UInt8) {t : Bool} (h : t = true ↔ (a = c ∧ b = d)) : eqF Tryz.prog [PV.str a, PV.str b] [PV.str c, PV.str d] (Tryz.prog.fieldsOf 84).toList = some t := by
  rw [prEq]; congr 1; rw [Bool.eq_iff_iff, h]; simp
theorem rPairs_spec (a b : List Pr) (hn : a.length < 281474976710656) (hn2 : b.length < 281474976710656) (R : Bool) (hR : R = true ↔ a = b) (zs ys : List PV) (hzs : zs = prP a) (hys : ys = prP b) :
    FnL Tryz.prog 72 [.p (.sl zs), .p (.sl ys)] [] fun v own => v = .p (.bool R) ∧ own = [] := by
  refine FnL.flat (R := fun v own => v = .p (.bool R)) ?_ (by rintro _ _ rfl; exact ⟨_, _, rfl, .refl _, rfl, rfl⟩)
  obtain ⟨N, hN⟩ : ∃ n, n = a.length := ⟨_, rfl⟩
  obtain ⟨M, hM⟩ : ∃ n, n = b.length := ⟨_, rfl⟩
  have hzl : zs.length = N := by rw [hzs, prP_length, hN]
  have hyl : ys.length = M := by rw [hys, prP_length, hM]
  have hfalse : a ≠ b → R = false := fun h => Bool.eq_false_iff.2 fun c => h (hR.1 c)
  by_cases hNM : N = M
  · refine fn_of_vc eOk fOk fo72 Tryz.func72 rfl rfl rfl fun B hB => ?_
    intro add _ _ _ _ _ _ _ _ _ _ _ _ _ _ _ _ _ _ _ _ _ _ hA _ _ sl _ _ _ _ len _ _ hL _ _ _ _ _ hcode ret hret
    have e1 : len zs = Int.ofNat N := by rw [hL.len, hzl]; rfl
    have e2 : len ys = Int.ofNat N := by rw [hL.len, hyl, hNM]; rfl
    cbv
    refine vcIf.no (by first | (simp [smW hA hL, e1, e2]; done) | (simp only [e1, e2]; simp [smW hA hL, e1, e2]; done) | (simp [smW hA hL, e1, e2]; omega) | (simp only [e1, e2]; simp [smW hA hL, e1, e2]; omega)) ?_
    cbv
    refine hcode _ _ _ (CodeEv.loop eOk fOk (ι := Nat) (fun q => [(0, .p (.sl zs)), (1, .p (.sl ys)), (5, .p (.int .i64 (Int.ofNat q)))])
      (fun q => []) (fun q => q ≤ N ∧ ∀ r, r < q → a[r]? = b[r]?) (fun q => N - q) 0 ?_ ?_)
    · exact ⟨(by repeat (first | exact trivial | refine And.intro rfl ?_)), rfl, Nat.zero_le _, fun r h => absurd h (Nat.not_lt_zero r)⟩
    rintro i ⟨k1, k2⟩ rd hrd
    by_cases hi : i < N
    · refine Exists.elim (get_of_lt (show i < a.length by omega)) fun p hp => ?_
      refine Exists.elim (get_of_lt (show i < b.length by omega)) fun q hq => ?_
      have hzi : zs[i]? = some (.agg [.str p.key, .str p.val]) := by rw [hzs]; exact prP_get hp
      have hyi : ys[i]? = some (.agg [.str q.key, .str q.val]) := by rw [hys]; exact prP_get hq
      obtain ⟨pk, pv⟩ := p
      obtain ⟨qk, qv⟩ := q
      simp only at hzi hyi
      have hpq : a[i]? = b[i]? ↔ (pk = qk ∧ pv = qv) := by rw [hp, hq]; simp
      refine Exists.elim (show ∃ t : Bool, t = true ↔ (pk = qk ∧ pv = qv) from ⟨decide (pk = qk ∧ pv = qv), decide_eq_true_iff⟩) fun t ht => ?_
      have hE := prEqB pk pv qk qv ht
      intro add1 _ _ _ _ _ _ _ _ _ _ _ _ _ _ _ _ _ _ _ _ _ _ hA1 _ _ _ _ _ _ _ len1 _ _ hL1 _ _ _ _ _ hcode1
      have e3 : len1 zs = Int.ofNat N := by rw [hL1.len, hzl]; rfl
      have hadd1 : add1 .i64 (Int.ofNat i) 1 = Int.ofNat (i + 1) := by rw [hA1.add, IntWalk.i64_in _ (by simp only [Int.ofNat_eq_natCast]; omega)]; rfl
      cbv
      refine vcIf.yes (by first | (simp [smW hA1 hL1, e3, hi]; done) | (simp only [e3, hi]; simp [smW hA1 hL1, e3, hi]; done) | (simp [smW hA1 hL1, e3, hi]; omega) | (simp only [e3, hi]; simp [smW hA1 hL1, e3, hi]; omega)) ?_
      cbv
      refine hcode1 _ _ _ (CodeEv.drawT eOk fOk (by kernel_rfl) noX (.rd 0 (.rd 1 (.rd 2 (.rd 3 (.rd 4 (.rd 5 (.rd 6 (.so 7 (.acts (.cons 8 (.done) (.nil))))))))))) (by kernel_rfl) (by kernel_rfl) ?_)
      intro _ _ _ _ _ _ _ _ _ _ _ _ _ _ _ _ _ _ _ _ _ _ _ _ _ _ _ _ _ _ _ _ _ _ _ _ hop2 _ _ _ _ _ hq2
      cbv
      refine ⟨i, _, rfl, hzi, rfl, ?_⟩
      cbv
      refine ⟨i, _, rfl, hyi, rfl, ?_⟩
      cbv
      refine hop2 _ _ _ _ (OpEv.aggNe (b := t) rfl rfl rfl (by kernel_rfl) (by kernel_rfl) (by kernel_rfl) hE ?_)
      cbv
      refine hq2 _ ?_
      cbv
      by_cases htt : t = true
      · have hgood := hpq.2 (ht.1 htt)
        refine vcIf.no (by rw [htt]) ?_
        cbv
        refine hrd _ ⟨i + 1, _, ?_, ⟨hi, ?_⟩, rfl, ⟨rfl, rfl, ?_, trivial⟩, rfl, rfl, rfl, ?_⟩
        · show N - (i + 1) < N - i
          omega
        · intro r hr
          rcases Nat.lt_succ_iff_lt_or_eq.1 hr with c | c
          · exact k2 r c
          · rw [c]; exact hgood
        · show some (V.p (.int .i64 _)) = _
          rw [hadd1]
        · rw [hB]; exact Nat.zero_le _
      · have hf := hfalse fun c => htt (ht.2 (hpq.1 (by rw [c])))
        refine vcIf.yes (by rw [Bool.eq_false_iff.2 htt]) ?_
        cbv
        exact hret _ (RetEv.ret eOk rfl (by rw [hf]; rfl))
    · have hRt : R = true := hR.2 (List.ext_getElem? fun r => by
        by_cases hr : r < N
        · exact k2 r (by omega)
        · rw [List.getElem?_eq_none (by omega), List.getElem?_eq_none (by omega)])
      intro add1 _ _ _ _ _ _ _ _ _ _ _ _ _ _ _ _ _ _ _ _ _ _ hA1 _ _ _ _ _ _ _ len1 _ _ hL1 _ _ _ _ _ hcode1
      have e3 : len1 zs = Int.ofNat N := by rw [hL1.len, hzl]; rfl
      cbv
      refine vcIf.no (by first | (simp [smW hA1 hL1, e3, hi]; done) | (simp only [e3, hi]; simp [smW hA1 hL1, e3, hi]; done) | (simp [smW hA1 hL1, e3, hi]; omega) | (simp only [e3, hi]; simp [smW hA1 hL1, e3, hi]; omega)) ?_
      cbv
      exact hret _ (RetEv.ret eOk rfl (by rw [hRt]; rfl))
  · have hf := hfalse fun c => hNM (by rw [hN, hM, c])
    refine fn_of_vc eOk fOk fo72 Tryz.func72 rfl rfl rfl fun B hB => ?_
    intro add _ _ _ _ _ _ _ _ _ _ _ _ _ _ _ _ _ _ _ _ _ _ hA _ _ sl _ _ _ _ len _ _ hL _ _ _ _ _ hcode ret hret
    have e1 : len zs = Int.ofNat N := by rw [hL.len, hzl]; rfl
    have e2 : len ys = Int.ofNat M := by rw [hL.len, hyl]; rfl
    have hne : ¬ ((N : Int) = (M : Int)) := by omega
    cbv
    refine vcIf.yes (by rw [e1, e2, hA.not, hA.eq]; simp only [Int.ofNat_eq_natCast]; simp [hne]) ?_
    cbv
    exact hret _ (RetEv.ret eOk rfl (by rw [hf]; rfl))
end
section
open Go Go.Lx
open Go.Sx (vcIf)
def oneSt (c : Chg) (s : List Pr × Bool) (p : Pr) : List Pr × Bool :=
  let s1 := if s.2 = false ∧ Op.bytesLess p.key c.key = false then (s.1 ++ [⟨c.key, c.val⟩], true) else s
  (if hs (spn c) p.key = true then s1.1 else s1.1 ++ [p], s1.2)
def oneF (c : Chg) (ps : List Pr) : List Pr × Bool := ps.foldl (oneSt c) ([], decide (c.kind ≠ 1))
def one (ps : List Pr) (c : Chg) : List Pr := if (oneF c ps).2 = true then (oneF c ps).1 else (oneF c ps).1 ++ [⟨c.key, c.val⟩]
theorem oneF_next (c : Chg) {ps : List Pr} {i : Nat} {p : Pr} (h : ps[i]? = some p) : oneF c (ps.take (i + 1)) = oneSt c (oneF c (ps.take i)) p := by
  unfold oneF
  rw [List.take_add_one, h, List.foldl_append]; rfl
theorem oneSt_no (c : Chg) (ul : List Pr) (put : Bool) (p : Pr) (h : put = true ∨ Op.bytesLess p.key c.key = true) : oneSt c (ul, put) p = (if hs (spn c) p.key = true then ul else ul ++ [p], put) := by
  unfold oneSt
  have : ¬ ((ul, put).2 = false ∧ Op.bytesLess p.key c.key = false) := by
    rintro ⟨a, b⟩; simp only at a; rcases h with h | h
    · rw [h] at a; cases a
    · rw [h] at b; cases b
  simp only at this
  simp only [if_neg this]
theorem oneSt_in (c : Chg) (ul : List Pr) (put : Bool) (p : Pr) (h1 : put = false) (h2 : Op.bytesLess p.key c.key = false) : oneSt c (ul, put) p = (if hs (spn c) p.key = true then ul ++ [⟨c.key, c.val⟩] else (ul ++ [⟨c.key, c.val⟩]) ++ [p], true) := by
  unfold oneSt
  simp only [if_pos (And.intro h1 h2)]
theorem rOne_spec (ps : List Pr) (hn : ps.length * 32 + 32 ≤ 140737488355328) (c : Chg) (hc : c.fit) (zs : List PV) (hzs : zs = prP ps) :
    FnL Tryz.prog 69 [.p (.sl zs), .p (.agg [.int .i64 c.kind, .str c.key, .str c.val])] [] fun v own => v = .p (.sl (prP (one ps c))) ∧ own = [] := by
  obtain ⟨R, hR⟩ : ∃ R, R = prP (one ps c) := ⟨_, rfl⟩
  rw [← hR]
  refine FnL.flat (R := fun v own => v = .p (.sl R)) ?_ (by rintro _ _ rfl; exact ⟨_, _, rfl, .refl _, rfl, rfl⟩)
  obtain ⟨N, hN⟩ : ∃ n, n = ps.length := ⟨_, rfl⟩
  have hzl : zs.length = N := by rw [hzs, prP_length, hN]
  have hN2 : N * 32 + 32 ≤ 140737488355328 := by omega
  have hsp := rSpan_spec c.kind c.key c.val hc.1
  obtain ⟨kd, ky, vl⟩ := c
  simp only at hsp
  simp only
  obtain ⟨pn, hpn⟩ : ∃ b, b = decide (kd ≠ 1) := ⟨_, rfl⟩
  refine fn_of_vc eOk fOk fo69 Tryz.func69 rfl rfl rfl fun B hB => ?_
  intro add _ _ _ _ _ _ _ _ _ _ ieq _ _ _ _ _ bnot _ _ _ _ _ hA _ _ sl _ _ _ _ len _ _ _ _ _ _ _ _ hcode _ hret
  have hpn1 : bnot (ieq kd 1) = pn := by rw [hA.not, hA.eq, hpn]; by_cases h : kd = 1 <;> simp [h]
  cbv
  refine ⟨true, ?_⟩
  cbv
  rw [hpn1]
  refine hcode _ _ _ (CodeEv.loop eOk fOk (ι := Nat × Nat × List PV × Bool) (fun q => [(0, .p (.sl zs)), (3, .own 0 0), (5, .vw 1 2 0 q.2.1 none), (6, .p (.bool q.2.2.2)), (7, .p (.int .i64 (Int.ofNat q.1)))])
    (fun q => [.st 25 [.p (.int .i64 kd), .p (.str ky), .p (.str vl)], .arr 84 2 q.2.2.1]) (fun q => q.1 ≤ N ∧ q.2.1 ≤ q.1 + (if q.2.2.2 = true then 1 else 0) ∧ q.2.2.1.length = q.2.1 ∧ (∃ us : List Pr, q.2.2.1 = prP us ∧ oneF ⟨kd, ky, vl⟩ (ps.take q.1) = (us, q.2.2.2))) (fun q => N - q.1) (0, 0, [], pn) ?_ ?_)
  · exact ⟨(by repeat (first | exact trivial | refine And.intro rfl ?_)), rfl, Nat.zero_le _, Nat.zero_le _, rfl, [], rfl, by rw [hpn]; rfl⟩
  rintro ⟨i, k, us, put⟩ ⟨k1, k2, k3, k4⟩ rd hrd
  simp only at k1 k2 k3 k4
  obtain ⟨ul, hul, hof⟩ := k4
  by_cases hi : i < N
  · refine Exists.elim (get_of_lt (show i < ps.length by omega)) fun p hp => ?_
    have hnx := oneF_next ⟨kd, ky, vl⟩ hp
    rw [hof] at hnx
    obtain ⟨pk, pv⟩ := p
    have hzi : zs[i]? = some (.agg [.str pk, .str pv]) := by rw [hzs]; exact prP_get hp
    refine Exists.elim (show ∃ x, x = spn ⟨kd, ky, vl⟩ from ⟨_, rfl⟩) fun sp hspe => ?_
    rw [← hspe] at hsp
    have hhas := rhas_spec sp.lo sp.hi pk
    refine Exists.elim (show ∃ b, b = hs sp pk from ⟨_, rfl⟩) fun b hb => ?_
    rw [show (!(bl pk sp.lo) && bl pk sp.hi) = b from hb.symm] at hhas
    have hx1 : put = true ∨ Op.bytesLess pk ky = true → oneF ⟨kd, ky, vl⟩ (ps.take (i + 1)) = (if b = true then ul else ul ++ [⟨pk, pv⟩], put) := fun h => by
      rw [hnx, oneSt_no _ _ _ _ h, ← hspe, ← hb]
    have hx2 : put = false → Op.bytesLess pk ky = false → oneF ⟨kd, ky, vl⟩ (ps.take (i + 1)) = (if b = true then ul ++ [⟨ky, vl⟩] else (ul ++ [⟨ky, vl⟩]) ++ [⟨pk, pv⟩], true) := fun h h' => by
      rw [hnx, oneSt_in _ _ _ _ h h', ← hspe, ← hb]
    clear hnx
    clear hspe hb
    obtain ⟨sl, sh⟩ := sp
    simp only at hsp hhas
    intro add1 _ _ _ _ _ _ _ _ _ _ _ _ _ _ _ _ _ _ _ _ _ _ hA1 _ _ _ _ _ _ _ len1 _ _ hL1 _ _ _ _ _ hcode1
    have e0 : len1 zs = Int.ofNat N := by rw [hL1.len, hzl]; rfl
    have hadd1 : add1 .i64 (Int.ofNat i) 1 = Int.ofNat (i + 1) := by rw [hA1.add, IntWalk.i64_in _ (by simp only [Int.ofNat_eq_natCast]; omega)]; rfl
    cbv
    refine vcIf.yes (by first | (simp [smW hA1 hL1, e0, hi]; done) | (simp only [e0, hi]; simp [smW hA1 hL1, e0, hi]; done) | (simp [smW hA1 hL1, e0, hi]; omega) | (simp only [e0, hi]; simp [smW hA1 hL1, e0, hi]; omega)) ?_
    cbv
    refine hcode1 _ _ _ (CodeEv.drawT eOk fOk (by kernel_rfl) noX (.so 0 (.so 1 (.so 2 (.rd 3 (.rd 4 (.rd 5 (.rd 6 (.rd 7 (.so 8 (.so 9 (.so 10 (.so 11 (.done))))))))))))) (by kernel_rfl) (by kernel_rfl) ?_)
    intro _ _ _ _ _ _ _ _ _ _ _ _ _ _ _ _ _ _ _ _ _ _ _ hA2 _ _ _ _ _ _ _ _ _ _ hL2 _ _ _ hcall2 _ _ _ hq2
    cbv
    by_cases hpt : put = true
    · refine vcIf.no (by rw [hA2.not, hpt]; rfl) ?_
      cbv
      refine hq2 _ ?_
      cbv
      have hnx := hx1 (.inl hpt)
      rw [if_pos hpt] at k2
      refine hcode1 _ _ _ (CodeEv.drawA eOk fOk (by kernel_rfl) noX (by kernel_rfl) (by kernel_rfl) (by kernel_rfl) ?_)
      intro _ _ _ _ _ _ _ _ _ _ _ _ _ _ _ _ _ _ _ _ _ _ _ hA2 _ _ _ _ _ _ _ _ _ _ hL2 _ _ _ hcall2 _ _ _ hq2
      cbv
      refine ⟨i, _, rfl, hzi, rfl, ?_⟩
      cbv
      refine hcall2 _ _ _ _ _ (CallEv.same hsp rfl ?_)
      rintro _ _ ⟨_, rfl, rfl, rfl⟩
      cbv
      refine hcall2 _ _ _ _ _ (CallEv.same hhas rfl ?_)
      rintro _ _ ⟨rfl, rfl⟩
      cbv
      refine hq2 _ ?_
      cbv
      by_cases hbb : b = true
      · rw [if_pos hbb] at hnx
        refine vcIf.no (by rw [hA2.not, hbb]; rfl) ?_
        cbv
        refine hrd _ ⟨(i + 1, k, us, put), _, ?_, ⟨by simp only; omega, ?_, ?_, ?_⟩, rfl, ⟨rfl, rfl, rfl, rfl, ?_, trivial⟩, rfl, rfl, rfl, ?_⟩
        · simp only; omega
        · simp only [hpt]; first | omega | (simp; omega)
        · exact k3
        · exact ⟨_, hul, hnx⟩
        · show some (V.p (.int .i64 _)) = _
          rw [hadd1]
        · rw [hB]; exact Nat.zero_le _
      · rw [if_neg hbb] at hnx
        have hbb := Bool.eq_false_iff.2 hbb
        refine vcIf.yes (by rw [hA2.not, hbb]; rfl) ?_
        cbv
        refine ⟨i, _, rfl, hzi, rfl, ?_⟩
        cbv
        refine ⟨false, ?_⟩
        cbv
        refine .inl ⟨(), rfl, k3.symm, Wf.one (Pr.wf ⟨pk, pv⟩), ?_, ?_, ?_⟩
        · show k + 1 ≤ maxLen
          unfold maxLen; omega
        · show (k + 1) * 32 ≤ _
          omega
        intro ws n3 hw hn3
        replace hw : ws = us ++ [Pr.v ⟨pk, pv⟩] := hw
        replace hn3 : n3 = k + 1 := hn3
        cbv
        refine hrd _ ⟨(i + 1, n3, ws, put), _, ?_, ⟨by simp only; omega, ?_, ?_, ?_⟩, rfl, ⟨rfl, rfl, rfl, rfl, ?_, trivial⟩, rfl, rfl, rfl, ?_⟩
        · simp only; omega
        · simp only [hpt]; first | omega | (simp; omega)
        · simp only; rw [hw, hn3, List.length_append, k3]; rfl
        · exact ⟨_, by simp only; rw [hw, hul]; simp [prP], hnx⟩
        · show some (V.p (.int .i64 _)) = _
          rw [hadd1]
        · rw [hB]; exact Nat.zero_le _
    · rw [if_neg hpt] at k2
      have hpt := Bool.eq_false_iff.2 hpt
      refine vcIf.yes (by rw [hA2.not, hpt]; rfl) ?_
      cbv
      refine ⟨i, _, rfl, hzi, rfl, ?_⟩
      cbv
      refine hq2 _ ?_
      cbv
      by_cases hlt : Op.bytesLess pk ky = true
      · have hnx := hx1 (.inr hlt)
        refine vcIf.no (by rw [hA2.cond, hA2.not, hL2.sl, hlt]; rfl) ?_
        cbv
        refine hcode1 _ _ _ (CodeEv.drawA eOk fOk (by kernel_rfl) noX (by kernel_rfl) (by kernel_rfl) (by kernel_rfl) ?_)
        intro _ _ _ _ _ _ _ _ _ _ _ _ _ _ _ _ _ _ _ _ _ _ _ hA2 _ _ _ _ _ _ _ _ _ _ hL2 _ _ _ hcall2 _ _ _ hq2
        cbv
        refine ⟨i, _, rfl, hzi, rfl, ?_⟩
        cbv
        refine hcall2 _ _ _ _ _ (CallEv.same hsp rfl ?_)
        rintro _ _ ⟨_, rfl, rfl, rfl⟩
        cbv
        refine hcall2 _ _ _ _ _ (CallEv.same hhas rfl ?_)
        rintro _ _ ⟨rfl, rfl⟩
        cbv
        refine hq2 _ ?_
        cbv
        by_cases hbb : b = true
        · rw [if_pos hbb] at hnx
          refine vcIf.no (by rw [hA2.not, hbb]; rfl) ?_
          cbv
          refine hrd _ ⟨(i + 1, k, us, put), _, ?_, ⟨by simp only; omega, ?_, ?_, ?_⟩, rfl, ⟨rfl, rfl, rfl, rfl, ?_, trivial⟩, rfl, rfl, rfl, ?_⟩
          · simp only; omega
          · simp only [hpt]; first | omega | (simp; omega)
          · exact k3
          · exact ⟨_, hul, hnx⟩
          · show some (V.p (.int .i64 _)) = _
            rw [hadd1]
          · rw [hB]; exact Nat.zero_le _
        · rw [if_neg hbb] at hnx
          have hbb := Bool.eq_false_iff.2 hbb
          refine vcIf.yes (by rw [hA2.not, hbb]; rfl) ?_
          cbv
          refine ⟨i, _, rfl, hzi, rfl, ?_⟩
          cbv
          refine ⟨false, ?_⟩
          cbv
          refine .inl ⟨(), rfl, k3.symm, Wf.one (Pr.wf ⟨pk, pv⟩), ?_, ?_, ?_⟩
          · show k + 1 ≤ maxLen
            unfold maxLen; omega
          · show (k + 1) * 32 ≤ _
            omega
          intro ws n3 hw hn3
          replace hw : ws = us ++ [Pr.v ⟨pk, pv⟩] := hw
          replace hn3 : n3 = k + 1 := hn3
          cbv
          refine hrd _ ⟨(i + 1, n3, ws, put), _, ?_, ⟨by simp only; omega, ?_, ?_, ?_⟩, rfl, ⟨rfl, rfl, rfl, rfl, ?_, trivial⟩, rfl, rfl, rfl, ?_⟩
          · simp only; omega
          · simp only [hpt]; first | omega | (simp; omega)
          · simp only; rw [hw, hn3, List.length_append, k3]; rfl
          · exact ⟨_, by simp only; rw [hw, hul]; simp [prP], hnx⟩
          · show some (V.p (.int .i64 _)) = _
            rw [hadd1]
          · rw [hB]; exact Nat.zero_le _
      · have hlt := Bool.eq_false_iff.2 hlt
        have hnx := hx2 hpt hlt
        refine vcIf.yes (by rw [hA2.cond, hA2.not, hL2.sl, hlt]; rfl) ?_
        cbv
        refine ⟨false, ?_⟩
        cbv
        refine .inl ⟨(), rfl, k3.symm, Wf.one (Pr.wf ⟨ky, vl⟩), ?_, ?_, ?_⟩
        · show k + 1 ≤ maxLen
          unfold maxLen; omega
        · show (k + 1) * 32 ≤ _
          omega
        intro us' n' hu hn'
        replace hu : us' = us ++ [Pr.v ⟨ky, vl⟩] := hu
        replace hn' : n' = k + 1 := hn'
        have hul' : us' = prP (ul ++ [⟨ky, vl⟩]) := by rw [hu, hul]; simp [prP]
        have k3' : us'.length = n' := by rw [hu, hn', List.length_append, k3]; rfl
        cbv
        refine hcode1 _ _ _ (CodeEv.drawA eOk fOk (by kernel_rfl) noX (by kernel_rfl) (by kernel_rfl) (by kernel_rfl) ?_)
        intro _ _ _ _ _ _ _ _ _ _ _ _ _ _ _ _ _ _ _ _ _ _ _ hA2 _ _ _ _ _ _ _ _ _ _ hL2 _ _ _ hcall2 _ _ _ hq2
        cbv
        refine ⟨i, _, rfl, hzi, rfl, ?_⟩
        cbv
        refine hcall2 _ _ _ _ _ (CallEv.same hsp rfl ?_)
        rintro _ _ ⟨_, rfl, rfl, rfl⟩
        cbv
        refine hcall2 _ _ _ _ _ (CallEv.same hhas rfl ?_)
        rintro _ _ ⟨rfl, rfl⟩
        cbv
        refine hq2 _ ?_
        cbv
        by_cases hbb : b = true
        · rw [if_pos hbb] at hnx
          refine vcIf.no (by rw [hA2.not, hbb]; rfl) ?_
          cbv
          refine hrd _ ⟨(i + 1, n', us', true), _, ?_, ⟨by simp only; omega, ?_, ?_, ?_⟩, rfl, ⟨rfl, rfl, rfl, rfl, ?_, trivial⟩, rfl, rfl, rfl, ?_⟩
          · simp only; omega
          · simp only [hpt]; first | omega | (simp; omega)
          · exact k3'
          · exact ⟨_, hul', hnx⟩
          · show some (V.p (.int .i64 _)) = _
            rw [hadd1]
          · rw [hB]; exact Nat.zero_le _
        · rw [if_neg hbb] at hnx
          have hbb := Bool.eq_false_iff.2 hbb
          refine vcIf.yes (by rw [hA2.not, hbb]; rfl) ?_
          cbv
          refine ⟨i, _, rfl, hzi, rfl, ?_⟩
          cbv
          refine ⟨false, ?_⟩
          cbv
          refine .inl ⟨(), rfl, k3'.symm, Wf.one (Pr.wf ⟨pk, pv⟩), ?_, ?_, ?_⟩
          · show n' + 1 ≤ maxLen
            unfold maxLen; omega
          · show (n' + 1) * 32 ≤ _
            omega
          intro ws n3 hw hn3
          replace hw : ws = us' ++ [Pr.v ⟨pk, pv⟩] := hw
          replace hn3 : n3 = n' + 1 := hn3
          cbv
          refine hrd _ ⟨(i + 1, n3, ws, true), _, ?_, ⟨by simp only; omega, ?_, ?_, ?_⟩, rfl, ⟨rfl, rfl, rfl, rfl, ?_, trivial⟩, rfl, rfl, rfl, ?_⟩
          · simp only; omega
          · simp only [hpt]; first | omega | (simp; omega)
          · simp only; rw [hw, hn3, List.length_append, k3']; rfl
          · exact ⟨_, by simp only; rw [hw, hul']; simp [prP], hnx⟩
          · show some (V.p (.int .i64 _)) = _
            rw [hadd1]
          · rw [hB]; exact Nat.zero_le _
  · have hin : i = N := by omega
    rw [List.take_of_length_le (by omega)] at hof
    by_cases hpt : put = true
    · have hRR : R = us := by rw [hR, one, hof, if_pos hpt, hul]
      intro add1 _ _ _ _ _ _ _ _ _ _ _ _ _ _ _ _ _ _ _ _ _ _ hA1 _ _ _ _ _ _ _ len1 _ _ hL1 _ _ _ _ _ hcode1
      have e0 : len1 zs = Int.ofNat N := by rw [hL1.len, hzl]; rfl
      cbv
      refine vcIf.no (by first | (simp [smW hA1 hL1, e0, hi]; done) | (simp only [e0, hi]; simp [smW hA1 hL1, e0, hi]; done) | (simp [smW hA1 hL1, e0, hi]; omega) | (simp only [e0, hi]; simp [smW hA1 hL1, e0, hi]; omega)) ?_
      cbv
      refine vcIf.no (by rw [hpt, hA.not]; rfl) ?_
      cbv
      refine hret _ (RetEv.retF eOk rfl 1 rfl (by rw [hB]; exact Nat.zero_le _) ?_)
      rw [hRR]
      show V.p (.sl ((us.drop 0).take k)) = _
      rw [frz_full k3]
    · rw [if_neg hpt] at k2
      have hRR : R = us ++ [Pr.v ⟨ky, vl⟩] := by rw [hR, one, hof, if_neg hpt, hul]; simp [prP]
      have hpt := Bool.eq_false_iff.2 hpt
      intro add1 _ _ _ _ _ _ _ _ _ _ _ _ _ _ _ _ _ _ _ _ _ _ hA1 _ _ _ _ _ _ _ len1 _ _ hL1 _ _ _ _ _ hcode1
      have e0 : len1 zs = Int.ofNat N := by rw [hL1.len, hzl]; rfl
      cbv
      refine vcIf.no (by first | (simp [smW hA1 hL1, e0, hi]; done) | (simp only [e0, hi]; simp [smW hA1 hL1, e0, hi]; done) | (simp [smW hA1 hL1, e0, hi]; omega) | (simp only [e0, hi]; simp [smW hA1 hL1, e0, hi]; omega)) ?_
      cbv
      refine vcIf.yes (by rw [hpt, hA.not]; rfl) ?_
      cbv
      refine ⟨false, ?_⟩
      cbv
      refine .inl ⟨(), rfl, k3.symm, Wf.one (Pr.wf ⟨ky, vl⟩), ?_, ?_, ?_⟩
      · show k + 1 ≤ maxLen
        unfold maxLen; omega
      · show (k + 1) * 32 ≤ _
        omega
      intro us' n' hu hn'
      replace hu : us' = us ++ [Pr.v ⟨ky, vl⟩] := hu
      replace hn' : n' = k + 1 := hn'
      have hul' : us'.length = n' := by rw [hu, hn', List.length_append, k3]; rfl
      cbv
      refine hret _ (RetEv.retF eOk rfl 1 rfl (by rw [hB]; exact Nat.zero_le _) ?_)
      rw [hRR, ← hu]
      show V.p (.sl ((us'.drop 0).take n')) = _
      rw [frz_full hul']
end
section
open Go Go.Lx
theorem bl_snoc0 : ∀ (a k : List UInt8), bl k (a ++ [0]) = !(bl a k)
  | [], [] => rfl
  | [], x :: r => by
    have e1 : bl (x :: r) ([] ++ [0]) = (decide (x < 0) || (x == 0 && bl r [])) := rfl
    have e2 : bl [] (x :: r) = true := rfl
    have h0 : ¬ x < 0 := fun c => by have := UInt8.lt_iff_toNat_lt.1 c; simp at this
    rw [e1, e2, bl_nil]; simp [h0]
  | y :: s, [] => rfl
  | y :: s, x :: r => by
    have ih := bl_snoc0 s r
    have e1 : bl (x :: r) ((y :: s) ++ [0]) = (decide (x < y) || (x == y && bl r (s ++ [0]))) := rfl
    have e2 : bl (y :: s) (x :: r) = (decide (y < x) || (y == x && bl s r)) := rfl
    rw [e1, e2, ih]
    by_cases h : x = y
    · subst h; simp [UInt8.lt_irrefl]
    · have h' : ¬ y = x := fun c => h c.symm
      have h1 : (x == y) = false := by simpa using h
      have h2 : (y == x) = false := by simpa using h'
      rw [h1, h2]
      simp only [Bool.false_and, Bool.or_false]
      by_cases hlt : x < y
      · have : ¬ y < x := fun c => by
          have a1 := UInt8.lt_iff_toNat_lt.1 c; have a2 := UInt8.lt_iff_toNat_lt.1 hlt; omega
        simp [hlt, this]
      · have : y < x := by
          have a2 : ¬ x.toNat < y.toNat := fun c => hlt (UInt8.lt_iff_toNat_lt.2 c)
          have a3 : x.toNat ≠ y.toNat := fun c => h (UInt8.toNat_inj.1 c)
          exact UInt8.lt_iff_toNat_lt.2 (by omega)
        simp [hlt, this]
theorem hs_point (a k : List UInt8) : hs ⟨a, a ++ [0]⟩ k = true ↔ k = a := by
  unfold hs
  simp only [bl_snoc0]
  constructor
  · intro h
    rcases bl_tri k a with c | c | c
    · rw [c] at h; simp at h
    · exact c
    · rw [c] at h; simp at h
  · intro h; rw [h, bl_irrefl]; rfl
theorem hs_spn {c : Chg} (h : c.kind ≠ 3) (k : List UInt8) : hs (spn c) k = true ↔ k = c.key := by
  rw [spn, if_neg h]; exact hs_point c.key k
def lk : List Pr → List UInt8 → Option (List UInt8)
  | [], _ => none
  | p :: r, k => if p.key = k then some p.val else lk r k
def Srt (ps : List Pr) : Prop := ps.Pairwise fun a b => bl a.key b.key = true
theorem lk_none {ps : List Pr} {k : List UInt8} (h : ∀ p ∈ ps, p.key ≠ k) : lk ps k = none := by
  induction ps with
  | nil => rfl
  | cons p r ih => rw [lk, if_neg (h p (by simp)), ih fun q hq => h q (by simp [hq])]
theorem lk_some {ps : List Pr} {k v : List UInt8} (h : lk ps k = some v) : ∃ p ∈ ps, p.key = k ∧ p.val = v := by
  induction ps with
  | nil => cases h
  | cons p r ih =>
    rw [lk] at h
    split at h
    · rename_i hk; cases h; exact ⟨p, by simp, hk, rfl⟩
    · obtain ⟨q, h1, h2⟩ := ih h; exact ⟨q, by simp [h1], h2⟩
theorem srt_ext : ∀ {a b : List Pr}, Srt a → Srt b → (∀ k, lk a k = lk b k) → a = b
  | [], [], _, _, _ => rfl
  | [], q :: s, _, _, h => by have := h q.key; rw [lk, lk, if_pos rfl] at this; cases this
  | p :: r, [], _, _, h => by have := h p.key; rw [lk, lk, if_pos rfl] at this; cases this
  | p :: r, q :: s, ha, hb, h => by
    obtain ⟨ha1, ha2⟩ := List.pairwise_cons.1 ha
    obtain ⟨hb1, hb2⟩ := List.pairwise_cons.1 hb
    have hk : p.key = q.key := by
      have h1 := h p.key
      have h2 := h q.key
      rw [lk, if_pos rfl] at h1
      rw [show lk (q :: s) q.key = some q.val by rw [lk, if_pos rfl]] at h2
      by_cases e : q.key = p.key
      · exact e.symm
      · rw [lk, if_neg e] at h1
        rw [lk, if_neg (fun c => e c.symm)] at h2
        obtain ⟨x, hx, hxk, _⟩ := lk_some h1.symm
        obtain ⟨y, hy, hyk, _⟩ := lk_some h2
        have c1 := hb1 x hx
        have c2 := ha1 y hy
        rw [hxk] at c1; rw [hyk] at c2
        rw [bl_asymm c1] at c2; cases c2
    have hv : p.val = q.val := by
      have h1 := h p.key
      rw [lk, if_pos rfl, lk, if_pos hk.symm] at h1
      exact Option.some.inj h1
    have hpq : p = q := by cases p; cases q; simp only at hk hv; rw [hk, hv]
    subst hpq
    congr 1
    refine srt_ext ha2 hb2 fun k => ?_
    by_cases e : p.key = k
    · rw [lk_none fun x hx c => ?_, lk_none fun x hx c => ?_]
      · have := hb1 x hx; rw [c, ← e, bl_irrefl] at this; cases this
      · have := ha1 x hx; rw [c, ← e, bl_irrefl] at this; cases this
    · have := h k
      rwa [lk, if_neg e, lk, if_neg e] at this
def nh (c : Chg) (p : Pr) : Bool := !(hs (spn c) p.key)
theorem fold_put (c : Chg) : ∀ (ps ul : List Pr), ps.foldl (oneSt c) (ul, true) = (ul ++ ps.filter (nh c), true)
  | [], ul => by simp
  | p :: ps, ul => by
    rw [List.foldl_cons, oneSt_no c ul true p (.inl rfl)]
    by_cases h : hs (spn c) p.key = true
    · rw [if_pos h, fold_put c ps ul, List.filter_cons_of_neg (by simp [nh, h])]
    · rw [if_neg h, fold_put c ps (ul ++ [p]), List.filter_cons_of_pos (by simp [nh, h]), List.append_assoc]; rfl
def ins (c : Chg) : List Pr → List Pr
  | [] => [⟨c.key, c.val⟩]
  | p :: r => if Op.bytesLess p.key c.key = true then (if hs (spn c) p.key = true then [] else [p]) ++ ins c r else ⟨c.key, c.val⟩ :: (p :: r).filter (nh c)
theorem fold_ins (c : Chg) : ∀ (ps ul : List Pr), (if (ps.foldl (oneSt c) (ul, false)).2 = true then (ps.foldl (oneSt c) (ul, false)).1 else (ps.foldl (oneSt c) (ul, false)).1 ++ [⟨c.key, c.val⟩]) = ul ++ ins c ps
  | [], ul => by simp [ins]
  | p :: ps, ul => by
    rw [List.foldl_cons]
    by_cases hlt : Op.bytesLess p.key c.key = true
    · rw [oneSt_no c ul false p (.inr hlt), ins, if_pos hlt]
      by_cases h : hs (spn c) p.key = true
      · rw [if_pos h, fold_ins c ps ul, if_pos h]; rfl
      · rw [if_neg h, fold_ins c ps (ul ++ [p]), if_neg h, List.append_assoc]
    · have hlt' := Bool.eq_false_iff.2 hlt
      rw [oneSt_in c ul false p rfl hlt', ins, if_neg hlt]
      by_cases h : hs (spn c) p.key = true
      · rw [if_pos h, fold_put, if_pos rfl, List.filter_cons_of_neg (by simp [nh, h])]; simp
      · rw [if_neg h, fold_put, if_pos rfl, List.filter_cons_of_pos (by simp [nh, h])]; simp
theorem one_eq (ps : List Pr) (c : Chg) : one ps c = if c.kind = 1 then ins c ps else ps.filter (nh c) := by
  unfold one oneF
  by_cases h : c.kind = 1
  · rw [if_pos h, show decide (c.kind ≠ 1) = false by simp [h], fold_ins]; rfl
  · rw [if_neg h, show decide (c.kind ≠ 1) = true by simp [h], fold_put, if_pos rfl]; rfl
theorem lk_filter (c : Chg) (k : List UInt8) : ∀ ps : List Pr, lk (ps.filter (nh c)) k = if hs (spn c) k = true then none else lk ps k
  | [] => by simp [lk]
  | p :: r => by
    have ih := lk_filter c k r
    by_cases h : hs (spn c) p.key = true
    · rw [List.filter_cons_of_neg (by simp [nh, h]), ih]
      by_cases hk : hs (spn c) k = true
      · rw [if_pos hk, if_pos hk]
      · rw [if_neg hk, if_neg hk, lk, if_neg (fun e => hk (by rw [← e]; exact h))]
    · rw [List.filter_cons_of_pos (by simp [nh, h]), lk, ih]
      by_cases hk : hs (spn c) k = true
      · rw [if_pos hk, if_pos hk, if_neg (fun e => h (by rw [e]; exact hk))]
      · rw [if_neg hk, if_neg hk, lk]
theorem srt_filter {ps : List Pr} (h : Srt ps) (f : Pr → Bool) : Srt (ps.filter f) := List.Pairwise.filter f h
theorem ins_mem {c : Chg} : ∀ {ps : List Pr} {p : Pr}, p ∈ ins c ps → p = ⟨c.key, c.val⟩ ∨ p ∈ ps
  | [], p, h => by simp [ins] at h; exact .inl h
  | q :: r, p, h => by
    rw [ins] at h
    split at h
    · rcases List.mem_append.1 h with h | h
      · split at h
        · cases h
        · simp at h; exact .inr (by simp [h])
      · rcases ins_mem h with h | h
        · exact .inl h
        · exact .inr (by simp [h])
    · rcases List.mem_cons.1 h with h | h
      · exact .inl h
      · exact .inr (List.mem_filter.1 h).1
theorem ins_ok (c : Chg) (hc : c.kind = 1) : ∀ (ps : List Pr), Srt ps → Srt (ins c ps) ∧ ∀ k, lk (ins c ps) k = if k = c.key then some c.val else lk ps k
  | [], _ => by
    refine ⟨by simp [ins, Srt], fun k => ?_⟩
    show (if c.key = k then some c.val else none) = (if k = c.key then some c.val else none)
    by_cases e : c.key = k
    · rw [if_pos e, if_pos e.symm]
    · rw [if_neg e, if_neg (fun d => e d.symm)]
  | p :: r, h => by
    obtain ⟨h1, h2⟩ := List.pairwise_cons.1 h
    have h3 : c.kind ≠ 3 := by rw [hc]; decide
    rw [ins]
    by_cases hlt : Op.bytesLess p.key c.key = true
    · have hne : p.key ≠ c.key := bl_ne hlt
      have hnh : ¬ hs (spn c) p.key = true := fun d => hne ((hs_spn h3 p.key).1 d)
      obtain ⟨i1, i2⟩ := ins_ok c hc r h2
      rw [if_pos hlt, if_neg hnh]
      refine ⟨List.pairwise_cons.2 ⟨fun q hq => ?_, i1⟩, fun k => ?_⟩
      · rcases ins_mem hq with d | d
        · rw [d]; exact hlt
        · exact h1 q d
      · show lk (p :: ins c r) k = _
        rw [lk, i2, lk]
        by_cases e : p.key = k
        · rw [if_pos e, if_pos e, if_neg (fun d => hne (e.trans d))]
        · rw [if_neg e, if_neg e]
    · rw [if_neg hlt]
      refine ⟨List.pairwise_cons.2 ⟨fun q hq => ?_, srt_filter h _⟩, fun k => ?_⟩
      · obtain ⟨q1, q2⟩ := List.mem_filter.1 hq
        have hqk : q.key ≠ c.key := fun d => by
          have := (hs_spn h3 q.key).2 d
          rw [nh, this] at q2; cases q2
        have hge : bl q.key c.key = false := by
          rcases List.mem_cons.1 q1 with d | d
          · rw [d]; exact Bool.eq_false_iff.2 hlt
          · refine Bool.eq_false_iff.2 fun e => hlt (bl_trans (h1 q d) e)
        rcases bl_tri c.key q.key with d | d | d
        · exact d
        · exact absurd d.symm hqk
        · rw [hge] at d; cases d
      · rw [lk, lk_filter]
        by_cases e : c.key = k
        · rw [if_pos e, if_pos e.symm]
        · rw [if_neg e, if_neg (fun d : hs (spn c) k = true => e ((hs_spn h3 k).1 d).symm), if_neg (fun d : k = c.key => e d.symm)]
def eff (k : List UInt8) (o : Option (List UInt8)) (c : Chg) : Option (List UInt8) := if c.kind = 1 then (if k = c.key then some c.val else o) else if hs (spn c) k = true then none else o
theorem one_ok (c : Chg) (ps : List Pr) (h : Srt ps) : Srt (one ps c) ∧ ∀ k, lk (one ps c) k = eff k (lk ps k) c := by
  rw [one_eq]
  by_cases hc : c.kind = 1
  · obtain ⟨i1, i2⟩ := ins_ok c hc ps h
    rw [if_pos hc]
    exact ⟨i1, fun k => by rw [i2, eff, if_pos hc]⟩
  · rw [if_neg hc]
    exact ⟨srt_filter h _, fun k => by rw [lk_filter, eff, if_neg hc]⟩
end
end Go.Proofs.YtegkojnngdlfaaaGreat
