/- The document's messages. Conditions: on sizes. -/
import Derived.Test.YtmenbognkdeipaaLFr2
import Derived.Test.YtmenbognkdeipaaLCas2
set_option maxRecDepth 100000
set_option maxHeartbeats 4000000
set_option linter.unusedSimpArgs false
set_option linter.unusedVariables false
namespace Go.Proofs.Ytmenbognkdeipaa
open Go Go.Lx
open Go.Sx (vcIf)

theorem least_spec (l : List Int) (hl : l.length < 9223372036854775807) (zs : List PV) (hzs : zs = iP l) :
    FnL Try.prog 42 [.p (.sl zs)] [] fun v own => ∃ b, b = decide (∀ z ∈ l, 0 ≤ z) ∧ v = .p (.bool b) ∧ own = [] := by
  have hzl : zs.length = l.length := by rw [hzs, iP_length]
  obtain ⟨N, hN⟩ : ∃ N, N = l.length := ⟨_, rfl⟩
  rw [← hN] at hzl hl
  refine fn_of_vc eOk fOk fo42 Try.func42 rfl rfl rfl fun B hB => ?_
  intro add sub mul quo rem band bor bxor bclr shl shr ieq ilt ile seq slt beq bnot orb bcond iwrap iof ssz hA cat sq sl imin imax smin smax len slen u8 hL op hop call hcall code hcode ret hret
  cbv
  refine hcode _ _ _ (CodeEv.loop eOk fOk (ι := Nat) (fun s => [(0, .p (.sl zs)), (3, .p (.int .i64 (Int.ofNat s)))])
    (fun s => []) (fun s => s ≤ N ∧ ∀ z ∈ l.take s, 0 ≤ z) (fun s => N - s) 0 ?_ ?_)
  · exact ⟨⟨rfl, rfl, trivial⟩, rfl, Nat.zero_le _, fun z hz => by simp at hz⟩
  rintro i ⟨h1, h2⟩ rd hrd
  intro add1 sub1 mul1 quo1 rem1 band1 bor1 bxor1 bclr1 shl1 shr1 ieq1 ilt1 ile1 seq1 slt1 beq1 bnot1 orb1 bcond1 iwrap1 iof1 ssz1 hA1 cat1 sq1 sl1 imin1 imax1 smin1 smax1 len1 slen1 u81 hL1 op1 hop1 call1 hcall1 code1 hcode1
  have hadd1 : i < N → add1 .i64 (Int.ofNat i) 1 = Int.ofNat (i + 1) := fun _ => by rw [hA1.add, IntWalk.i64_in _ (by simp only [Int.ofNat_eq_natCast]; omega)]; rfl
  cbv
  by_cases hi : i < N
  · obtain ⟨z, hz⟩ := get_of_lt (show i < l.length by omega)
    have hzz : zs[i]? = some (.int .i64 z) := by rw [hzs]; exact iP_get hz
    have htk : l.take (i + 1) = l.take i ++ [z] := by rw [List.take_add_one, hz]; rfl
    refine vcIf.yes (by first | (simp [hA1.not, hA1.eq, hA1.lt, hA1.le, hA1.cond, hA1.beq, hA1.orb, hL1.len, hL1.slen, hL1.sq, hi, hzl]; done) | (simp only [hi, hzl]; simp [hA1.not, hA1.eq, hA1.lt, hA1.le, hA1.cond, hA1.beq, hA1.orb, hL1.len, hL1.slen, hL1.sq, hi, hzl]; done) | (simp [hA1.not, hA1.eq, hA1.lt, hA1.le, hA1.cond, hA1.beq, hA1.orb, hL1.len, hL1.slen, hL1.sq, hi, hzl]; omega) | (simp only [hi, hzl]; simp [hA1.not, hA1.eq, hA1.lt, hA1.le, hA1.cond, hA1.beq, hA1.orb, hL1.len, hL1.slen, hL1.sq, hi, hzl]; omega)) ?_
    cbv
    refine ⟨i, _, rfl, hzz, rfl, ?_⟩
    cbv
    by_cases hz0 : z < 0
    · refine vcIf.yes (by first | (simp [hA1.not, hA1.eq, hA1.lt, hA1.le, hA1.cond, hA1.beq, hA1.orb, hL1.len, hL1.slen, hL1.sq, hz0]; done) | (simp only [hz0]; simp [hA1.not, hA1.eq, hA1.lt, hA1.le, hA1.cond, hA1.beq, hA1.orb, hL1.len, hL1.slen, hL1.sq, hz0]; done) | (simp [hA1.not, hA1.eq, hA1.lt, hA1.le, hA1.cond, hA1.beq, hA1.orb, hL1.len, hL1.slen, hL1.sq, hz0]; omega) | (simp only [hz0]; simp [hA1.not, hA1.eq, hA1.lt, hA1.le, hA1.cond, hA1.beq, hA1.orb, hL1.len, hL1.slen, hL1.sq, hz0]; omega)) ?_
      cbv
      exact hret _ (RetEv.ret eOk rfl ⟨false, (decide_eq_false fun c => absurd (c z (List.mem_of_getElem? hz)) (by omega)).symm, rfl, rfl⟩)
    · refine vcIf.no (by first | (simp [hA1.not, hA1.eq, hA1.lt, hA1.le, hA1.cond, hA1.beq, hA1.orb, hL1.len, hL1.slen, hL1.sq, hz0]; done) | (simp only [hz0]; simp [hA1.not, hA1.eq, hA1.lt, hA1.le, hA1.cond, hA1.beq, hA1.orb, hL1.len, hL1.slen, hL1.sq, hz0]; done) | (simp [hA1.not, hA1.eq, hA1.lt, hA1.le, hA1.cond, hA1.beq, hA1.orb, hL1.len, hL1.slen, hL1.sq, hz0]; omega) | (simp only [hz0]; simp [hA1.not, hA1.eq, hA1.lt, hA1.le, hA1.cond, hA1.beq, hA1.orb, hL1.len, hL1.slen, hL1.sq, hz0]; omega)) ?_
      cbv
      refine hrd _ ⟨i + 1, [], ?_, ⟨hi, ?_⟩, rfl, ⟨rfl, ?_, trivial⟩, rfl, rfl, rfl, ?_⟩
      · show N - (i + 1) < N - i
        omega
      · intro y hy
        rw [htk] at hy
        rcases List.mem_append.1 hy with c | c
        · exact h2 y c
        · simp at c; rw [c]; omega
      · show some (V.p (.int .i64 _)) = _
        rw [hadd1 hi]
      · rw [hB]; exact Nat.zero_le _
  · refine vcIf.no (by first | (simp [hA1.not, hA1.eq, hA1.lt, hA1.le, hA1.cond, hA1.beq, hA1.orb, hL1.len, hL1.slen, hL1.sq, hi, hzl]; done) | (simp only [hi, hzl]; simp [hA1.not, hA1.eq, hA1.lt, hA1.le, hA1.cond, hA1.beq, hA1.orb, hL1.len, hL1.slen, hL1.sq, hi, hzl]; done) | (simp [hA1.not, hA1.eq, hA1.lt, hA1.le, hA1.cond, hA1.beq, hA1.orb, hL1.len, hL1.slen, hL1.sq, hi, hzl]; omega) | (simp only [hi, hzl]; simp [hA1.not, hA1.eq, hA1.lt, hA1.le, hA1.cond, hA1.beq, hA1.orb, hL1.len, hL1.slen, hL1.sq, hi, hzl]; omega)) ?_
    cbv
    rw [List.take_of_length_le (by omega)] at h2
    exact hret _ (RetEv.ret eOk rfl ⟨true, (decide_eq_true h2).symm, rfl, rfl⟩)

theorem rnumsRow_spec (l : List Int) (hl : ∀ z ∈ l, 0 ≤ z ∧ z ≤ 9223372036854775807) (zs : List PV) (hzs : zs = iP l) (n : Nat) (xs : List PV) (hxl : xs.length = n) (hs : n + 9 * l.length + 10 ≤ 140737488355328) :
    FnL Try.prog 43 [.vw 0 1 0 n none, .p (.sl zs)] [wrA xs] fun v own => ∃ (n' : Nat) (ys : List PV), ys = xs ++ bP (encs l) ∧ n' = ys.length ∧ n' ≤ n + 9 * l.length ∧ v = .vw 0 1 0 n' none ∧ own = [wrA ys] := by
  have hzl : zs.length = l.length := by rw [hzs, iP_length]
  obtain ⟨N, hN⟩ : ∃ N, N = l.length := ⟨_, rfl⟩
  rw [← hN] at hzl hs
  refine fn_of_vc eOk fOk fo43 Try.func43 rfl rfl rfl fun B hB => ?_
  intro add sub mul quo rem band bor bxor bclr shl shr ieq ilt ile seq slt beq bnot orb bcond iwrap iof ssz hA cat sq sl imin imax smin smax len slen u8 hL op hop call hcall code hcode ret hret
  cbv
  refine hcode _ _ _ (CodeEv.loop eOk fOk (ι := Nat × Nat × List PV) (fun s => [(0, .vw 0 1 0 s.2.1 none), (1, .p (.sl zs)), (5, .p (.int .i64 (Int.ofNat s.1)))])
    (fun s => [wrA s.2.2]) (fun s => s.1 ≤ N ∧ s.2.2.length = s.2.1 ∧ s.2.1 ≤ n + 9 * s.1 ∧ s.2.2 = xs ++ bP (encs (l.take s.1))) (fun s => N - s.1) (0, n, xs) ?_ ?_)
  · exact ⟨⟨rfl, rfl, rfl, trivial⟩, rfl, Nat.zero_le _, hxl, Nat.le_refl _, by simp [encs, bP]⟩
  rintro ⟨i, m, us⟩ ⟨h1, h2, h3, h5⟩ rd hrd
  simp only at h1 h2 h3 h5
  intro add1 sub1 mul1 quo1 rem1 band1 bor1 bxor1 bclr1 shl1 shr1 ieq1 ilt1 ile1 seq1 slt1 beq1 bnot1 orb1 bcond1 iwrap1 iof1 ssz1 hA1 cat1 sq1 sl1 imin1 imax1 smin1 smax1 len1 slen1 u81 hL1 op1 hop1 call1 hcall1 code1 hcode1
  have hadd1 : i < N → add1 .i64 (Int.ofNat i) 1 = Int.ofNat (i + 1) := fun _ => by rw [hA1.add, IntWalk.i64_in _ (by simp only [Int.ofNat_eq_natCast]; omega)]; rfl
  cbv
  by_cases hi : i < N
  · obtain ⟨z, hz⟩ := get_of_lt (show i < l.length by omega)
    obtain ⟨hz0, hzm⟩ := hl z (List.mem_of_getElem? hz)
    have hzz : zs[i]? = some (.int .i64 z) := by rw [hzs]; exact iP_get hz
    have htk : l.take (i + 1) = l.take i ++ [z] := by rw [List.take_add_one, hz]; rfl
    obtain ⟨y, hy⟩ : ∃ y : Nat, z = Int.ofNat y := ⟨z.toNat, by simp only [Int.ofNat_eq_natCast]; omega⟩
    have hylt : y < 9223372036854775808 := by simp only [Int.ofNat_eq_natCast] at hy; omega
    have hput := rput_spec us m y h2 hylt (by omega)
    have hen := enc_len9 hylt
    have hen2 : encs (l.take (i + 1)) = encs (l.take i) ++ enc y := by rw [htk]; unfold encs; rw [List.flatMap_append, hy]; simp
    subst hy
    refine vcIf.yes (by first | (simp [hA1.not, hA1.eq, hA1.lt, hA1.le, hA1.cond, hA1.beq, hA1.orb, hL1.len, hL1.slen, hL1.sq, hi, hzl]; done) | (simp only [hi, hzl]; simp [hA1.not, hA1.eq, hA1.lt, hA1.le, hA1.cond, hA1.beq, hA1.orb, hL1.len, hL1.slen, hL1.sq, hi, hzl]; done) | (simp [hA1.not, hA1.eq, hA1.lt, hA1.le, hA1.cond, hA1.beq, hA1.orb, hL1.len, hL1.slen, hL1.sq, hi, hzl]; omega) | (simp only [hi, hzl]; simp [hA1.not, hA1.eq, hA1.lt, hA1.le, hA1.cond, hA1.beq, hA1.orb, hL1.len, hL1.slen, hL1.sq, hi, hzl]; omega)) ?_
    cbv
    refine ⟨i, _, rfl, hzz, rfl, ?_⟩
    cbv
    refine hcall1 _ _ _ _ _ (CallEv.lend [0] hput rfl (.cons (.vw 0 0 1 0 m none rfl) (.cons (.p _) .nil)) ⟨⟨_, rfl, .arr _ _ _⟩, trivial⟩ ?_)
    rintro _ _ ⟨m', us', hm', hus', rfl, rfl⟩
    cbv
    refine hrd _ ⟨(i + 1, m', us'), [], ?_, ⟨hi, ?_, ?_, ?_⟩, rfl, ⟨rfl, rfl, ?_, trivial⟩, rfl, rfl, rfl, ?_⟩
    · simp only; omega
    · simp only; rw [hus', List.length_append, bP_length]; omega
    · simp only; omega
    · simp only; rw [hus', h5, hen2, bP_append, List.append_assoc]
    · show some (V.p (.int .i64 _)) = _
      rw [hadd1 hi]
    · rw [hB]; exact Nat.le_refl _
  · refine vcIf.no (by first | (simp [hA1.not, hA1.eq, hA1.lt, hA1.le, hA1.cond, hA1.beq, hA1.orb, hL1.len, hL1.slen, hL1.sq, hi, hzl]; done) | (simp only [hi, hzl]; simp [hA1.not, hA1.eq, hA1.lt, hA1.le, hA1.cond, hA1.beq, hA1.orb, hL1.len, hL1.slen, hL1.sq, hi, hzl]; done) | (simp [hA1.not, hA1.eq, hA1.lt, hA1.le, hA1.cond, hA1.beq, hA1.orb, hL1.len, hL1.slen, hL1.sq, hi, hzl]; omega) | (simp only [hi, hzl]; simp [hA1.not, hA1.eq, hA1.lt, hA1.le, hA1.cond, hA1.beq, hA1.orb, hL1.len, hL1.slen, hL1.sq, hi, hzl]; omega)) ?_
    cbv
    rw [List.take_of_length_le (by omega)] at h5
    refine hret _ (RetEv.ret eOk rfl ⟨m, us, h5, h2.symm, by omega, rfl, rfl⟩)
theorem rnumsNil_spec (l : List Int) (hl : ∀ z ∈ l, 0 ≤ z ∧ z ≤ 9223372036854775807) (zs : List PV) (hzs : zs = iP l) (hs : 9 * l.length + 10 ≤ 140737488355328) :
    FnL Try.prog 43 [.p .nils, .p (.sl zs)] [] fun v own => ∃ (n' : Nat) (ys : List PV), ys = bP (encs l) ∧ n' = ys.length ∧ n' ≤ 9 * l.length ∧ v = .vw 0 1 0 n' none ∧ own = [wrA ys] := by
  have := rnumsRow_spec l hl zs hzs 0 [] rfl (by omega)
  simp only [List.nil_append, Nat.zero_add] at this
  exact FnL.hollowA 0 5 1 (by decide) rfl this

theorem rputText_spec (s : List UInt8) (n : Nat) (xs : List PV) (hxl : xs.length = n) (hs : n + s.length + 20 ≤ 140737488355328) :
    FnL Try.prog 45 [.vw 0 1 0 n none, .p (.str s)] [wrA xs] fun v own => ∃ (n' : Nat) (ys : List PV), ys = xs ++ bP (enct s) ∧ n' = ys.length ∧ n' ≤ n + 9 + s.length ∧ v = .vw 0 1 0 n' none ∧ own = [wrA ys] := by
  have hput := rput_spec xs n s.length hxl (by omega) (by omega)
  have hen := enc_len9 (show s.length < 9223372036854775808 by omega)
  refine fn_of_vc eOk fOk fo45 Try.func45 rfl rfl rfl fun B hB => ?_
  intro add sub mul quo rem band bor bxor bclr shl shr ieq ilt ile seq slt beq bnot orb bcond iwrap iof ssz hA cat sq sl imin imax smin smax len slen u8 hL op hop call hcall code hcode ret hret
  have hsl : slen s = Int.ofNat s.length := by rw [hL.slen]; rfl
  cbv
  rw [hsl]
  refine hcall _ _ _ _ _ (CallEv.lend [0] hput rfl (.cons (.vw 0 0 1 0 n none rfl) (.cons (.p _) .nil)) ⟨⟨_, rfl, .arr _ _ _⟩, trivial⟩ ?_)
  rintro _ _ ⟨m', us', hm', hus', rfl, rfl⟩
  have hul : us'.length = m' := by rw [hus', List.length_append, bP_length]; omega
  cbv
  refine .inl ⟨(), rfl, hul.symm, bP_wf s, ?_, ?_, ?_⟩
  · show m' + (bP s).length ≤ maxLen
    rw [bP_length]; unfold maxLen; omega
  · show (m' + (bP s).length) * 1 ≤ _
    rw [bP_length]; omega
  intro ws n' hw hn'
  replace hw : ws = us' ++ bP s := hw
  replace hn' : n' = m' + (bP s).length := hn'
  rw [bP_length] at hn'
  cbv
  refine hret _ (RetEv.ret eOk rfl ⟨n', ws, ?_, ?_, by omega, rfl, rfl⟩)
  · rw [hw, hus']; unfold enct; rw [bP_append, List.append_assoc]
  · rw [hw, List.length_append, bP_length]; omega

theorem rEncode_spec (m : Msg) (hm : m.fit) (bs : List PV) (hbs : bs = bP m.body) :
    FnL Try.prog 11 [.p (.agg [.int .i64 m.kind, .int .i64 m.from_, .int .i64 m.to_, .int .i64 m.epoch, .int .i64 m.a, .int .i64 m.b, .int .i64 m.c, .sl bs])] []
      fun v own => ∃ (ys : List PV) (l : List UInt8) (e : Nat), (l, e) = fEnc m ∧ ys = bP l ∧ v = .p (.tup [.sl ys, .int .i64 (Int.ofNat e)]) ∧ own = [] := by
  refine FnL.flat (R := fun v own => ∃ (ys : List PV) (l : List UInt8) (e : Nat), (l, e) = fEnc m ∧ ys = bP l ∧ (v = .p (.tup [.sl ys, .int .i64 (Int.ofNat e)]) ∨ ys = [] ∧ v = .p (.tup [.nils, .int .i64 (Int.ofNat e)]))) ?_
    (by
      rintro _ _ ⟨ys, m, e, h1, h2, rfl | ⟨h3, rfl⟩⟩
      · exact ⟨_, _, rfl, .refl _, ys, m, e, h1, h2, rfl, rfl⟩
      · exact ⟨_, .tup [.sl [], .int .i64 (Int.ofNat e)], rfl, PW.tup ⟨PW.nils, .refl _, trivial⟩, ys, m, e, h1, h2, by rw [h3], rfl⟩)
  obtain ⟨R, hR⟩ : ∃ R, R = fEnc m := ⟨_, rfl⟩
  rw [← hR]
  obtain ⟨kd, fr, to, ep, a, b, c, body⟩ := m
  unfold fEnc Msg.okB at hR
  simp only [Msg.nums] at hR hm
  simp only at hbs
  obtain ⟨hm1, hm2⟩ := hm
  simp only [Msg.nums] at hm1 hm2
  have hbl : bs.length = body.length := by rw [hbs, bP_length]
  obtain ⟨bn, hbn⟩ : ∃ n, n = body.length := ⟨_, rfl⟩
  rw [← hbn] at hR hbl hm2
  have hle := least_spec [fr, to, ep, a, b, c] (by simp) _ rfl
  rw [show iP [fr, to, ep, a, b, c] = [PV.int .i64 fr, PV.int .i64 to, PV.int .i64 ep, PV.int .i64 a, PV.int .i64 b, PV.int .i64 c] from rfl] at hle
  simp only
  refine fn_of_vc eOk fOk fo11 Try.func11 rfl rfl rfl fun B hB => ?_
  intro add sub mul quo rem band bor bxor bclr shl shr ieq ilt ile seq slt beq bnot orb bcond iwrap iof ssz hA cat sq sl imin imax smin smax len slen u8 hL op hop call hcall code hcode ret hret
  cbv
  by_cases h1 : kd < 1
  · refine vcIf.yes (by first | (simp [hA.not, hA.eq, hA.lt, hA.le, hA.cond, hA.beq, hA.orb, hL.len, hL.slen, hL.sq, h1]; done) | (simp only [h1]; simp [hA.not, hA.eq, hA.lt, hA.le, hA.cond, hA.beq, hA.orb, hL.len, hL.slen, hL.sq, h1]; done) | (simp [hA.not, hA.eq, hA.lt, hA.le, hA.cond, hA.beq, hA.orb, hL.len, hL.slen, hL.sq, h1]; omega) | (simp only [h1]; simp [hA.not, hA.eq, hA.lt, hA.le, hA.cond, hA.beq, hA.orb, hL.len, hL.slen, hL.sq, h1]; omega)) ?_
    cbv
    repeat (first | (refine vcIf.yes ?_ ?_; (focus (simp [hA.not, hA.eq, hA.lt, hA.le, hA.cond, hA.beq, hA.orb, hL.len, hL.slen, hL.sq]; done)); cbv) | (refine vcIf.no ?_ ?_; (focus (simp [hA.not, hA.eq, hA.lt, hA.le, hA.cond, hA.beq, hA.orb, hL.len, hL.slen, hL.sq]; done)); cbv) | fail)
    refine hret _ (RetEv.ret eOk rfl ⟨[], [], 2, ?_, rfl, .inr ⟨rfl, rfl⟩⟩)
    rw [hR, if_neg]; simp; omega
  refine vcIf.no (by first | (simp [hA.not, hA.eq, hA.lt, hA.le, hA.cond, hA.beq, hA.orb, hL.len, hL.slen, hL.sq, h1]; done) | (simp only [h1]; simp [hA.not, hA.eq, hA.lt, hA.le, hA.cond, hA.beq, hA.orb, hL.len, hL.slen, hL.sq, h1]; done) | (simp [hA.not, hA.eq, hA.lt, hA.le, hA.cond, hA.beq, hA.orb, hL.len, hL.slen, hL.sq, h1]; omega) | (simp only [h1]; simp [hA.not, hA.eq, hA.lt, hA.le, hA.cond, hA.beq, hA.orb, hL.len, hL.slen, hL.sq, h1]; omega)) ?_
  cbv
  by_cases h2 : 20 < kd
  · refine vcIf.yes (by first | (simp [hA.not, hA.eq, hA.lt, hA.le, hA.cond, hA.beq, hA.orb, hL.len, hL.slen, hL.sq, h2]; done) | (simp only [h2]; simp [hA.not, hA.eq, hA.lt, hA.le, hA.cond, hA.beq, hA.orb, hL.len, hL.slen, hL.sq, h2]; done) | (simp [hA.not, hA.eq, hA.lt, hA.le, hA.cond, hA.beq, hA.orb, hL.len, hL.slen, hL.sq, h2]; omega) | (simp only [h2]; simp [hA.not, hA.eq, hA.lt, hA.le, hA.cond, hA.beq, hA.orb, hL.len, hL.slen, hL.sq, h2]; omega)) ?_
    cbv
    repeat (first | (refine vcIf.yes ?_ ?_; (focus (simp [hA.not, hA.eq, hA.lt, hA.le, hA.cond, hA.beq, hA.orb, hL.len, hL.slen, hL.sq]; done)); cbv) | (refine vcIf.no ?_ ?_; (focus (simp [hA.not, hA.eq, hA.lt, hA.le, hA.cond, hA.beq, hA.orb, hL.len, hL.slen, hL.sq]; done)); cbv) | fail)
    refine hret _ (RetEv.ret eOk rfl ⟨[], [], 2, ?_, rfl, .inr ⟨rfl, rfl⟩⟩)
    rw [hR, if_neg]; simp; omega
  refine vcIf.no (by first | (simp [hA.not, hA.eq, hA.lt, hA.le, hA.cond, hA.beq, hA.orb, hL.len, hL.slen, hL.sq, h2]; done) | (simp only [h2]; simp [hA.not, hA.eq, hA.lt, hA.le, hA.cond, hA.beq, hA.orb, hL.len, hL.slen, hL.sq, h2]; done) | (simp [hA.not, hA.eq, hA.lt, hA.le, hA.cond, hA.beq, hA.orb, hL.len, hL.slen, hL.sq, h2]; omega) | (simp only [h2]; simp [hA.not, hA.eq, hA.lt, hA.le, hA.cond, hA.beq, hA.orb, hL.len, hL.slen, hL.sq, h2]; omega)) ?_
  cbv
  by_cases h3 : 255 < fr
  · refine vcIf.yes (by first | (simp [hA.not, hA.eq, hA.lt, hA.le, hA.cond, hA.beq, hA.orb, hL.len, hL.slen, hL.sq, h3]; done) | (simp only [h3]; simp [hA.not, hA.eq, hA.lt, hA.le, hA.cond, hA.beq, hA.orb, hL.len, hL.slen, hL.sq, h3]; done) | (simp [hA.not, hA.eq, hA.lt, hA.le, hA.cond, hA.beq, hA.orb, hL.len, hL.slen, hL.sq, h3]; omega) | (simp only [h3]; simp [hA.not, hA.eq, hA.lt, hA.le, hA.cond, hA.beq, hA.orb, hL.len, hL.slen, hL.sq, h3]; omega)) ?_
    cbv
    repeat (first | (refine vcIf.yes ?_ ?_; (focus (simp [hA.not, hA.eq, hA.lt, hA.le, hA.cond, hA.beq, hA.orb, hL.len, hL.slen, hL.sq]; done)); cbv) | (refine vcIf.no ?_ ?_; (focus (simp [hA.not, hA.eq, hA.lt, hA.le, hA.cond, hA.beq, hA.orb, hL.len, hL.slen, hL.sq]; done)); cbv) | fail)
    refine hret _ (RetEv.ret eOk rfl ⟨[], [], 2, ?_, rfl, .inr ⟨rfl, rfl⟩⟩)
    rw [hR, if_neg]; simp; omega
  refine vcIf.no (by first | (simp [hA.not, hA.eq, hA.lt, hA.le, hA.cond, hA.beq, hA.orb, hL.len, hL.slen, hL.sq, h3]; done) | (simp only [h3]; simp [hA.not, hA.eq, hA.lt, hA.le, hA.cond, hA.beq, hA.orb, hL.len, hL.slen, hL.sq, h3]; done) | (simp [hA.not, hA.eq, hA.lt, hA.le, hA.cond, hA.beq, hA.orb, hL.len, hL.slen, hL.sq, h3]; omega) | (simp only [h3]; simp [hA.not, hA.eq, hA.lt, hA.le, hA.cond, hA.beq, hA.orb, hL.len, hL.slen, hL.sq, h3]; omega)) ?_
  cbv
  by_cases h4 : 255 < to
  · refine vcIf.yes (by first | (simp [hA.not, hA.eq, hA.lt, hA.le, hA.cond, hA.beq, hA.orb, hL.len, hL.slen, hL.sq, h4]; done) | (simp only [h4]; simp [hA.not, hA.eq, hA.lt, hA.le, hA.cond, hA.beq, hA.orb, hL.len, hL.slen, hL.sq, h4]; done) | (simp [hA.not, hA.eq, hA.lt, hA.le, hA.cond, hA.beq, hA.orb, hL.len, hL.slen, hL.sq, h4]; omega) | (simp only [h4]; simp [hA.not, hA.eq, hA.lt, hA.le, hA.cond, hA.beq, hA.orb, hL.len, hL.slen, hL.sq, h4]; omega)) ?_
    cbv
    repeat (first | (refine vcIf.yes ?_ ?_; (focus (simp [hA.not, hA.eq, hA.lt, hA.le, hA.cond, hA.beq, hA.orb, hL.len, hL.slen, hL.sq]; done)); cbv) | (refine vcIf.no ?_ ?_; (focus (simp [hA.not, hA.eq, hA.lt, hA.le, hA.cond, hA.beq, hA.orb, hL.len, hL.slen, hL.sq]; done)); cbv) | fail)
    refine hret _ (RetEv.ret eOk rfl ⟨[], [], 2, ?_, rfl, .inr ⟨rfl, rfl⟩⟩)
    rw [hR, if_neg]; simp; omega
  refine vcIf.no (by first | (simp [hA.not, hA.eq, hA.lt, hA.le, hA.cond, hA.beq, hA.orb, hL.len, hL.slen, hL.sq, h4]; done) | (simp only [h4]; simp [hA.not, hA.eq, hA.lt, hA.le, hA.cond, hA.beq, hA.orb, hL.len, hL.slen, hL.sq, h4]; done) | (simp [hA.not, hA.eq, hA.lt, hA.le, hA.cond, hA.beq, hA.orb, hL.len, hL.slen, hL.sq, h4]; omega) | (simp only [h4]; simp [hA.not, hA.eq, hA.lt, hA.le, hA.cond, hA.beq, hA.orb, hL.len, hL.slen, hL.sq, h4]; omega)) ?_
  cbv
  by_cases h5 : 65536 < bn
  · refine vcIf.yes (by first | (simp [hA.not, hA.eq, hA.lt, hA.le, hA.cond, hA.beq, hA.orb, hL.len, hL.slen, hL.sq, hbl, h5]; done) | (simp only [hbl, h5]; simp [hA.not, hA.eq, hA.lt, hA.le, hA.cond, hA.beq, hA.orb, hL.len, hL.slen, hL.sq, hbl, h5]; done) | (simp [hA.not, hA.eq, hA.lt, hA.le, hA.cond, hA.beq, hA.orb, hL.len, hL.slen, hL.sq, hbl, h5]; omega) | (simp only [hbl, h5]; simp [hA.not, hA.eq, hA.lt, hA.le, hA.cond, hA.beq, hA.orb, hL.len, hL.slen, hL.sq, hbl, h5]; omega)) ?_
    cbv
    repeat (first | (refine vcIf.yes ?_ ?_; (focus (simp [hA.not, hA.eq, hA.lt, hA.le, hA.cond, hA.beq, hA.orb, hL.len, hL.slen, hL.sq]; done)); cbv) | (refine vcIf.no ?_ ?_; (focus (simp [hA.not, hA.eq, hA.lt, hA.le, hA.cond, hA.beq, hA.orb, hL.len, hL.slen, hL.sq]; done)); cbv) | fail)
    refine hret _ (RetEv.ret eOk rfl ⟨[], [], 2, ?_, rfl, .inr ⟨rfl, rfl⟩⟩)
    rw [hR, if_neg]; simp; omega
  refine vcIf.no (by first | (simp [hA.not, hA.eq, hA.lt, hA.le, hA.cond, hA.beq, hA.orb, hL.len, hL.slen, hL.sq, hbl, h5]; done) | (simp only [hbl, h5]; simp [hA.not, hA.eq, hA.lt, hA.le, hA.cond, hA.beq, hA.orb, hL.len, hL.slen, hL.sq, hbl, h5]; done) | (simp [hA.not, hA.eq, hA.lt, hA.le, hA.cond, hA.beq, hA.orb, hL.len, hL.slen, hL.sq, hbl, h5]; omega) | (simp only [hbl, h5]; simp [hA.not, hA.eq, hA.lt, hA.le, hA.cond, hA.beq, hA.orb, hL.len, hL.slen, hL.sq, hbl, h5]; omega)) ?_
  cbv
  refine ⟨false, ?_⟩
  cbv
  refine hcall _ _ _ _ _ (CallEv.same hle rfl ?_)
  rintro _ _ ⟨lb, hlb, rfl, rfl⟩
  cbv
  cases lb with
  | false =>
    have hlb := of_decide_eq_false hlb.symm
    simp only [List.mem_cons, List.not_mem_nil, or_false, forall_eq_or_imp, forall_eq] at hlb
    repeat (first | (refine vcIf.yes ?_ ?_; (focus (simp [hA.not, hA.eq, hA.lt, hA.le, hA.cond, hA.beq, hA.orb, hL.len, hL.slen, hL.sq]; done)); cbv) | (refine vcIf.no ?_ ?_; (focus (simp [hA.not, hA.eq, hA.lt, hA.le, hA.cond, hA.beq, hA.orb, hL.len, hL.slen, hL.sq]; done)); cbv) | fail)
    refine hret _ (RetEv.ret eOk rfl ⟨[], [], 2, ?_, rfl, .inr ⟨rfl, rfl⟩⟩)
    rw [hR, if_neg]; simp; omega
  | true =>
    have hlb := of_decide_eq_true hlb.symm
    simp only [List.mem_cons, List.not_mem_nil, or_false, forall_eq_or_imp, forall_eq] at hlb
    repeat (first | (refine vcIf.yes ?_ ?_; (focus (simp [hA.not, hA.eq, hA.lt, hA.le, hA.cond, hA.beq, hA.orb, hL.len, hL.slen, hL.sq]; done)); cbv) | (refine vcIf.no ?_ ?_; (focus (simp [hA.not, hA.eq, hA.lt, hA.le, hA.cond, hA.beq, hA.orb, hL.len, hL.slen, hL.sq]; done)); cbv) | fail)
    have hall : ∀ z ∈ [kd, fr, to, ep, a, b, c], 0 ≤ z ∧ z ≤ 9223372036854775807 := fun z hz => by
      refine ⟨?_, (hm1 z hz).2⟩
      simp only [List.mem_cons, List.not_mem_nil, or_false] at hz
      obtain ⟨q1, q2, q3, q4, q5, q6⟩ := hlb
      rcases hz with rfl | rfl | rfl | rfl | rfl | rfl | rfl <;> omega
    have hnums := rnumsNil_spec [kd, fr, to, ep, a, b, c] hall _ rfl (by simp)
    rw [show iP [kd, fr, to, ep, a, b, c] = [PV.int .i64 kd, PV.int .i64 fr, PV.int .i64 to, PV.int .i64 ep, PV.int .i64 a, PV.int .i64 b, PV.int .i64 c] from rfl] at hnums
    have hR2 : R = (cseal (encs [kd, fr, to, ep, a, b, c] ++ enct body), 0) := by
      rw [hR, if_pos]; simp; omega
    refine ⟨false, ?_⟩
    cbv
    refine hcall _ _ _ _ _ (CallEv.same hnums rfl ?_)
    rintro _ _ ⟨n1, ys1, w1, w2, w3, rfl, rfl⟩
    replace w3 : n1 ≤ 9 * 7 := w3
    have hpt := rputText_spec body n1 ys1 w2.symm (by omega)
    cbv
    refine ⟨body, hbs, ?_⟩
    cbv
    refine hcall _ _ _ _ _ (CallEv.lend [1] hpt rfl (.cons (.vw 0 1 1 0 n1 none rfl) (.cons (.p _) .nil)) ⟨⟨_, rfl, .arr _ _ _⟩, trivial⟩ ?_)
    rintro _ _ ⟨n2, ys2, u1, u2, u3, rfl, rfl⟩
    have hys : ys2 = bP (encs [kd, fr, to, ep, a, b, c] ++ enct body) := by rw [u1, w1, bP_append]
    have hyl : n2 = (encs [kd, fr, to, ep, a, b, c] ++ enct body).length := by rw [u2, hys, bP_length]
    have hse := rSeal_spec (encs [kd, fr, to, ep, a, b, c] ++ enct body) ((ys2.drop 0).take n2) (by rw [frz_full u2.symm]; exact hys) (by rw [← hyl]; omega)
    cbv
    refine hcall _ _ _ _ _ (CallEv.freeze 1 rfl (by rw [hB]; exact Nat.zero_le _) (CallEv.same hse rfl ?_))
    rintro _ _ ⟨zs, hz, rfl, rfl⟩
    cbv
    exact hret _ (RetEv.ret eOk rfl ⟨zs, _, 0, hR2.symm, hz, .inl rfl⟩)
end Go.Proofs.Ytmenbognkdeipaa
