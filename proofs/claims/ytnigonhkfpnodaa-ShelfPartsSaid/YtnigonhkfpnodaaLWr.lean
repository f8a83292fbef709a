/- The writer of package code. Conditions: on sizes. -/
import Derived.Test.YtnigonhkfpnodaaLCode1
set_option maxRecDepth 100000
set_option maxHeartbeats 4000000
set_option linter.unusedSimpArgs false
set_option linter.unusedVariables false
namespace Go.Proofs.Ytnigonhkfpnodaa
open Go Go.Lx
open Go.Sx (vcIf)

abbrev wrS (n : Nat) (e : Int) : Res := .st 121 [.vw 1 1 0 n none, .p (.int .i64 e)]
abbrev wrA (xs : List PV) : Res := .arr 5 1 xs
abbrev wr0 : Res := .st 121 [.p .nils, .p (.int .i64 0)]
/-- What a writer has behind something that was laid (or not, if it could not be): at most m bytes more. -/
def Wrote (ok : Prop) (more : List UInt8) (m : Nat) (n : Nat) (e : Int) (xs : List PV) (n' : Nat) (e' : Int) (ys : List PV) : Prop :=
  ys.length = n' ∧ n' ≤ n + m ∧ (ok → e' = e ∧ ys = xs ++ bP more) ∧ (¬ ok → e' = 2)
def encs (l : List Int) : List UInt8 := l.flatMap fun z => enc z.toNat

theorem wrL {own : List Res} {js : List Nat} {i j n : Nat} {e : Int} {xs : List PV} (hi : js[0]? = some i) (hj : js[1]? = some j)
    (h1 : own[i]? = some (.st 121 [.vw j 1 0 n none, .p (.int .i64 e)])) (h2 : own[j]? = some (wrA xs)) : TrO own js [] [i, j] [wrS n e, wrA xs] :=
  ⟨⟨_, h1, .st _ _ _ (.cons (.vw 1 j 1 0 n none hj) (.cons (.p _) .nil))⟩, ⟨_, h2, .arr _ _ _⟩, trivial⟩
theorem wrL0 {own : List Res} {js : List Nat} {i : Nat} (h1 : own[i]? = some wr0) : TrO own js [] [i] [wr0] :=
  ⟨⟨_, h1, .st _ _ _ (.cons (.p _) (.cons (.p _) .nil))⟩, trivial⟩

theorem wrNums_spec (l : List Int) (zs : List PV) (hzs : zs = iP l) (hl : ∀ z ∈ l, z ≤ 9223372036854775807) (n : Nat) (e : Int) (xs : List PV) (hxl : xs.length = n) (hs : n + 9 * l.length + 10 ≤ 140737488355328) :
    FnL Try.prog 58 [.own 0 0, .p (.sl zs)] [wrS n e, wrA xs] fun v own => ∃ (n' : Nat) (e' : Int) (ys : List PV), Wrote (∀ z ∈ l, 0 ≤ z) (encs l) (9 * l.length) n e xs n' e' ys ∧ v = .own 0 0 ∧ own = [wrS n' e', wrA ys] := by
  have hzl : zs.length = l.length := by rw [hzs, iP_length]
  obtain ⟨N, hN⟩ : ∃ N, N = l.length := ⟨_, rfl⟩
  rw [← hN] at hzl hs
  refine fn_of_vc eOk fOk fo58 Try.func58 rfl rfl rfl fun B hB => ?_
  intro add sub mul quo rem band bor bxor bclr shl shr ieq ilt ile seq slt beq bnot orb bcond iwrap iof ssz hA cat sq sl imin imax smin smax len slen u8 hL op hop call hcall code hcode ret hret
  have hlen : len zs = Int.ofNat N := by rw [hL.len, hzl]; rfl
  cbv
  rw [hlen]
  refine hcode _ _ _ (CodeEv.loop eOk fOk (ι := Nat × Nat × List PV) (fun s => [(0, .own 0 0), (7, .p (.sl zs)), (8, .p (.int .i64 (Int.ofNat N))), (9, .p (.int .i64 (Int.ofNat s.1)))])
    (fun s => [wrS s.2.1 e, wrA s.2.2]) (fun s => s.1 ≤ N ∧ s.2.2.length = s.2.1 ∧ s.2.1 ≤ n + 9 * s.1 ∧ (∀ z ∈ l.take s.1, 0 ≤ z) ∧ s.2.2 = xs ++ bP (encs (l.take s.1))) (fun s => N - s.1) (0, n, xs) ?_ ?_)
  · exact ⟨⟨rfl, rfl, rfl, rfl, trivial⟩, rfl, Nat.zero_le _, hxl, Nat.le_refl _, fun z hz => by simp at hz, by simp [encs, bP]⟩
  rintro ⟨i, m, us⟩ ⟨h1, h2, h3, h4, h5⟩ rd hrd
  simp only at h1 h2 h3 h4 h5
  intro add1 sub1 mul1 quo1 rem1 band1 bor1 bxor1 bclr1 shl1 shr1 ieq1 ilt1 ile1 seq1 slt1 beq1 bnot1 orb1 bcond1 iwrap1 iof1 ssz1 hA1 cat1 sq1 sl1 imin1 imax1 smin1 smax1 len1 slen1 u81 hL1 op1 hop1 call1 hcall1 code1 hcode1
  have hadd1 : i < N → add1 .i64 (Int.ofNat i) 1 = Int.ofNat (i + 1) := fun _ => by rw [hA1.add, IntWalk.i64_in _ (by simp only [Int.ofNat_eq_natCast]; omega)]; rfl
  cbv
  by_cases hi : i < N
  · obtain ⟨z, hz⟩ := get_of_lt (show i < l.length by omega)
    have hzm := hl z (List.mem_of_getElem? hz)
    have hzz : zs[i]? = some (.int .i64 z) := by rw [hzs]; exact iP_get hz
    have htk : l.take (i + 1) = l.take i ++ [z] := by rw [List.take_add_one, hz]; rfl
    refine vcIf.yes (by first | (simp [hA1.not, hA1.eq, hA1.lt, hA1.le, hA1.cond, hA1.beq, hA1.orb, hL1.len, hL1.slen, hL1.sq, hi]; done) | (simp only [hi]; simp [hA1.not, hA1.eq, hA1.lt, hA1.le, hA1.cond, hA1.beq, hA1.orb, hL1.len, hL1.slen, hL1.sq, hi]; done) | (simp [hA1.not, hA1.eq, hA1.lt, hA1.le, hA1.cond, hA1.beq, hA1.orb, hL1.len, hL1.slen, hL1.sq, hi]; omega) | (simp only [hi]; simp [hA1.not, hA1.eq, hA1.lt, hA1.le, hA1.cond, hA1.beq, hA1.orb, hL1.len, hL1.slen, hL1.sq, hi]; omega)) ?_
    cbv
    refine ⟨i, _, rfl, hzz, rfl, ?_⟩
    cbv
    by_cases hz0 : z < 0
    · refine vcIf.yes (by first | (simp [hA1.not, hA1.eq, hA1.lt, hA1.le, hA1.cond, hA1.beq, hA1.orb, hL1.len, hL1.slen, hL1.sq, hz0]; done) | (simp only [hz0]; simp [hA1.not, hA1.eq, hA1.lt, hA1.le, hA1.cond, hA1.beq, hA1.orb, hL1.len, hL1.slen, hL1.sq, hz0]; done) | (simp [hA1.not, hA1.eq, hA1.lt, hA1.le, hA1.cond, hA1.beq, hA1.orb, hL1.len, hL1.slen, hL1.sq, hz0]; omega) | (simp only [hz0]; simp [hA1.not, hA1.eq, hA1.lt, hA1.le, hA1.cond, hA1.beq, hA1.orb, hL1.len, hL1.slen, hL1.sq, hz0]; omega)) ?_
      cbv
      refine hret _ (RetEv.ret eOk rfl ⟨m, 2, us, ⟨h2, by omega, fun c => absurd (c z (List.mem_of_getElem? hz)) (by omega), fun _ => rfl⟩, rfl, rfl⟩)
    · obtain ⟨y, hy⟩ : ∃ y : Nat, z = Int.ofNat y := ⟨z.toNat, by simp only [Int.ofNat_eq_natCast]; omega⟩
      have hylt : y < 9223372036854775808 := by simp only [Int.ofNat_eq_natCast] at hy; omega
      have hput := put_spec us m y h2 hylt (by omega)
      have hen := enc_len9 hylt
      have hen2 : encs (l.take (i + 1)) = encs (l.take i) ++ enc y := by rw [htk]; unfold encs; rw [List.flatMap_append, hy]; simp
      have hnn : ∀ z ∈ l.take (i + 1), 0 ≤ z := fun w hw => by
        rw [htk] at hw
        rcases List.mem_append.1 hw with c | c
        · exact h4 w c
        · simp at c; rw [c]; omega
      subst hy
      refine vcIf.no (by first | (simp [hA1.not, hA1.eq, hA1.lt, hA1.le, hA1.cond, hA1.beq, hA1.orb, hL1.len, hL1.slen, hL1.sq, hz0]; done) | (simp only [hz0]; simp [hA1.not, hA1.eq, hA1.lt, hA1.le, hA1.cond, hA1.beq, hA1.orb, hL1.len, hL1.slen, hL1.sq, hz0]; done) | (simp [hA1.not, hA1.eq, hA1.lt, hA1.le, hA1.cond, hA1.beq, hA1.orb, hL1.len, hL1.slen, hL1.sq, hz0]; omega) | (simp only [hz0]; simp [hA1.not, hA1.eq, hA1.lt, hA1.le, hA1.cond, hA1.beq, hA1.orb, hL1.len, hL1.slen, hL1.sq, hz0]; omega)) ?_
      cbv
      refine hcall1 _ _ _ _ _ (CallEv.lend [1] hput rfl (.cons (.vw 0 1 1 0 m none rfl) (.cons (.p _) .nil)) ⟨⟨_, rfl, .arr _ _ _⟩, trivial⟩ ?_)
      rintro _ _ ⟨m', us', hm', hus', rfl, rfl⟩
      cbv
      refine hrd _ ⟨(i + 1, m', us'), [], ?_, ⟨hi, ?_, ?_, hnn, ?_⟩, rfl, ⟨rfl, rfl, rfl, ?_, trivial⟩, rfl, rfl, rfl, ?_⟩
      · simp only; omega
      · simp only; rw [hus', List.length_append, bP_length]; omega
      · simp only; omega
      · simp only; rw [hus', h5, hen2, bP_append, List.append_assoc]
      · show some (V.p (.int .i64 _)) = _
        rw [hadd1 hi]
      · rw [hB]; exact Nat.le_refl _
  · refine vcIf.no (by first | (simp [hA1.not, hA1.eq, hA1.lt, hA1.le, hA1.cond, hA1.beq, hA1.orb, hL1.len, hL1.slen, hL1.sq, hi]; done) | (simp only [hi]; simp [hA1.not, hA1.eq, hA1.lt, hA1.le, hA1.cond, hA1.beq, hA1.orb, hL1.len, hL1.slen, hL1.sq, hi]; done) | (simp [hA1.not, hA1.eq, hA1.lt, hA1.le, hA1.cond, hA1.beq, hA1.orb, hL1.len, hL1.slen, hL1.sq, hi]; omega) | (simp only [hi]; simp [hA1.not, hA1.eq, hA1.lt, hA1.le, hA1.cond, hA1.beq, hA1.orb, hL1.len, hL1.slen, hL1.sq, hi]; omega)) ?_
    cbv
    rw [List.take_of_length_le (by omega)] at h4 h5
    refine hret _ (RetEv.ret eOk rfl ⟨m, e, us, ⟨h2, by omega, fun _ => ⟨rfl, h5⟩, fun c => absurd h4 c⟩, rfl, rfl⟩)

def enct (s : List UInt8) : List UInt8 := enc s.length ++ s
def encts (l : List (List UInt8)) : List UInt8 := l.flatMap enct
def sP (l : List (List UInt8)) : List PV := l.map PV.str
theorem wrTexts_spec (l : List (List UInt8)) (zs : List PV) (hzs : zs = sP l) (hl : ∀ s ∈ l, s.length < 9223372036854775808) (n : Nat) (e : Int) (xs : List PV) (hxl : xs.length = n) (hs : n + 65546 * l.length + 10 ≤ 140737488355328) :
    FnL Try.prog 59 [.own 0 0, .p (.sl zs)] [wrS n e, wrA xs] fun v own => ∃ (n' : Nat) (e' : Int) (ys : List PV), Wrote (∀ s ∈ l, s.length ≤ 65536) (encts l) (65546 * l.length) n e xs n' e' ys ∧ v = .own 0 0 ∧ own = [wrS n' e', wrA ys] := by
  have hzl : zs.length = l.length := by rw [hzs, sP, List.length_map]
  obtain ⟨N, hN⟩ : ∃ N, N = l.length := ⟨_, rfl⟩
  rw [← hN] at hzl hs
  refine fn_of_vc eOk fOk fo59 Try.func59 rfl rfl rfl fun B hB => ?_
  intro add sub mul quo rem band bor bxor bclr shl shr ieq ilt ile seq slt beq bnot orb bcond iwrap iof ssz hA cat sq sl imin imax smin smax len slen u8 hL op hop call hcall code hcode ret hret
  have hlen : len zs = Int.ofNat N := by rw [hL.len, hzl]; rfl
  cbv
  rw [hlen]
  refine hcode _ _ _ (CodeEv.loop eOk fOk (ι := Nat × Nat × List PV) (fun s => [(0, .own 0 0), (7, .p (.sl zs)), (8, .p (.int .i64 (Int.ofNat N))), (9, .p (.int .i64 (Int.ofNat s.1)))])
    (fun s => [wrS s.2.1 e, wrA s.2.2]) (fun s => s.1 ≤ N ∧ s.2.2.length = s.2.1 ∧ s.2.1 ≤ n + 65546 * s.1 ∧ (∀ z ∈ l.take s.1, z.length ≤ 65536) ∧ s.2.2 = xs ++ bP (encts (l.take s.1))) (fun s => N - s.1) (0, n, xs) ?_ ?_)
  · exact ⟨⟨rfl, rfl, rfl, rfl, trivial⟩, rfl, Nat.zero_le _, hxl, Nat.le_refl _, fun z hz => by simp at hz, by simp [encts, bP]⟩
  rintro ⟨i, m, us⟩ ⟨h1, h2, h3, h4, h5⟩ rd hrd
  simp only at h1 h2 h3 h4 h5
  intro add1 sub1 mul1 quo1 rem1 band1 bor1 bxor1 bclr1 shl1 shr1 ieq1 ilt1 ile1 seq1 slt1 beq1 bnot1 orb1 bcond1 iwrap1 iof1 ssz1 hA1 cat1 sq1 sl1 imin1 imax1 smin1 smax1 len1 slen1 u81 hL1 op1 hop1 call1 hcall1 code1 hcode1
  have hadd1 : i < N → add1 .i64 (Int.ofNat i) 1 = Int.ofNat (i + 1) := fun _ => by rw [hA1.add, IntWalk.i64_in _ (by simp only [Int.ofNat_eq_natCast]; omega)]; rfl
  cbv
  by_cases hi : i < N
  · obtain ⟨z, hz⟩ := get_of_lt (show i < l.length by omega)
    have hzm := hl z (List.mem_of_getElem? hz)
    have hzz : zs[i]? = some (.str z) := by rw [hzs, sP, List.getElem?_map, hz]; rfl
    have htk : l.take (i + 1) = l.take i ++ [z] := by rw [List.take_add_one, hz]; rfl
    have hsl : slen1 z = Int.ofNat z.length := by rw [hL1.slen]; rfl
    refine vcIf.yes (by first | (simp [hA1.not, hA1.eq, hA1.lt, hA1.le, hA1.cond, hA1.beq, hA1.orb, hL1.len, hL1.slen, hL1.sq, hi]; done) | (simp only [hi]; simp [hA1.not, hA1.eq, hA1.lt, hA1.le, hA1.cond, hA1.beq, hA1.orb, hL1.len, hL1.slen, hL1.sq, hi]; done) | (simp [hA1.not, hA1.eq, hA1.lt, hA1.le, hA1.cond, hA1.beq, hA1.orb, hL1.len, hL1.slen, hL1.sq, hi]; omega) | (simp only [hi]; simp [hA1.not, hA1.eq, hA1.lt, hA1.le, hA1.cond, hA1.beq, hA1.orb, hL1.len, hL1.slen, hL1.sq, hi]; omega)) ?_
    cbv
    refine ⟨i, _, rfl, hzz, rfl, ?_⟩
    cbv
    by_cases hz0 : 65536 < z.length
    · refine vcIf.yes (by first | (simp [hA1.not, hA1.eq, hA1.lt, hA1.le, hA1.cond, hA1.beq, hA1.orb, hL1.len, hL1.slen, hL1.sq, hz0]; done) | (simp only [hz0]; simp [hA1.not, hA1.eq, hA1.lt, hA1.le, hA1.cond, hA1.beq, hA1.orb, hL1.len, hL1.slen, hL1.sq, hz0]; done) | (simp [hA1.not, hA1.eq, hA1.lt, hA1.le, hA1.cond, hA1.beq, hA1.orb, hL1.len, hL1.slen, hL1.sq, hz0]; omega) | (simp only [hz0]; simp [hA1.not, hA1.eq, hA1.lt, hA1.le, hA1.cond, hA1.beq, hA1.orb, hL1.len, hL1.slen, hL1.sq, hz0]; omega)) ?_
      cbv
      refine hret _ (RetEv.ret eOk rfl ⟨m, 2, us, ⟨h2, by omega, fun c => absurd (c z (List.mem_of_getElem? hz)) (by omega), fun _ => rfl⟩, rfl, rfl⟩)
    · have hput := put_spec us m z.length h2 hzm (by omega)
      have hen := enc_len9 hzm
      have hen2 : encts (l.take (i + 1)) = encts (l.take i) ++ (enc z.length ++ z) := by rw [htk]; unfold encts; rw [List.flatMap_append]; simp [enct]
      have hnn : ∀ z ∈ l.take (i + 1), z.length ≤ 65536 := fun w hw => by
        rw [htk] at hw
        rcases List.mem_append.1 hw with c | c
        · exact h4 w c
        · simp at c; rw [c]; omega
      refine vcIf.no (by first | (simp [hA1.not, hA1.eq, hA1.lt, hA1.le, hA1.cond, hA1.beq, hA1.orb, hL1.len, hL1.slen, hL1.sq, hz0]; done) | (simp only [hz0]; simp [hA1.not, hA1.eq, hA1.lt, hA1.le, hA1.cond, hA1.beq, hA1.orb, hL1.len, hL1.slen, hL1.sq, hz0]; done) | (simp [hA1.not, hA1.eq, hA1.lt, hA1.le, hA1.cond, hA1.beq, hA1.orb, hL1.len, hL1.slen, hL1.sq, hz0]; omega) | (simp only [hz0]; simp [hA1.not, hA1.eq, hA1.lt, hA1.le, hA1.cond, hA1.beq, hA1.orb, hL1.len, hL1.slen, hL1.sq, hz0]; omega)) ?_
      cbv
      rw [hsl]
      refine hcall1 _ _ _ _ _ (CallEv.lend [1] hput rfl (.cons (.vw 0 1 1 0 m none rfl) (.cons (.p _) .nil)) ⟨⟨_, rfl, .arr _ _ _⟩, trivial⟩ ?_)
      rintro _ _ ⟨m', us', hm', hus', rfl, rfl⟩
      have hul : us'.length = m' := by rw [hus', List.length_append, bP_length]; omega
      cbv
      refine .inl ⟨(), rfl, hul.symm, bP_wf z, ?_, ?_, ?_⟩
      · show m' + (bP z).length ≤ maxLen
        rw [bP_length]; unfold maxLen; omega
      · show (m' + (bP z).length) * 1 ≤ _
        rw [bP_length]; omega
      intro ws n' hw hn'
      replace hw : ws = us' ++ bP z := hw
      replace hn' : n' = m' + (bP z).length := hn'
      rw [bP_length] at hn'
      cbv
      refine hrd _ ⟨(i + 1, n', ws), [], ?_, ⟨hi, ?_, ?_, hnn, ?_⟩, rfl, ⟨rfl, rfl, rfl, ?_, trivial⟩, rfl, rfl, rfl, ?_⟩
      · simp only; omega
      · simp only; rw [hw, List.length_append, bP_length]; omega
      · simp only; omega
      · simp only; rw [hw, hus', h5, hen2, bP_append, bP_append, List.append_assoc, List.append_assoc]
      · show some (V.p (.int .i64 _)) = _
        rw [hadd1 hi]
      · rw [hB]; exact Nat.le_refl _
  · refine vcIf.no (by first | (simp [hA1.not, hA1.eq, hA1.lt, hA1.le, hA1.cond, hA1.beq, hA1.orb, hL1.len, hL1.slen, hL1.sq, hi]; done) | (simp only [hi]; simp [hA1.not, hA1.eq, hA1.lt, hA1.le, hA1.cond, hA1.beq, hA1.orb, hL1.len, hL1.slen, hL1.sq, hi]; done) | (simp [hA1.not, hA1.eq, hA1.lt, hA1.le, hA1.cond, hA1.beq, hA1.orb, hL1.len, hL1.slen, hL1.sq, hi]; omega) | (simp only [hi]; simp [hA1.not, hA1.eq, hA1.lt, hA1.le, hA1.cond, hA1.beq, hA1.orb, hL1.len, hL1.slen, hL1.sq, hi]; omega)) ?_
    cbv
    rw [List.take_of_length_le (by omega)] at h4 h5
    refine hret _ (RetEv.ret eOk rfl ⟨m, e, us, ⟨h2, by omega, fun _ => ⟨rfl, h5⟩, fun c => absurd h4 c⟩, rfl, rfl⟩)

theorem wrBytes_spec (n : Nat) (e : Int) (xs : List PV) :
    FnL Try.prog 60 [.own 0 0] [wrS n e, wrA xs] fun v own => (e = 0 ∧ v = .tup [.vw 1 1 0 n none, .p (.int .i64 0)] ∨ e ≠ 0 ∧ v = .p (.tup [.nils, .int .i64 e])) ∧ own = [wrS n e, wrA xs] := by
  refine fn_of_vc eOk fOk fo60 Try.func60 rfl rfl rfl fun B hB => ?_
  intro add sub mul quo rem band bor bxor bclr shl shr ieq ilt ile seq slt beq bnot orb bcond iwrap iof ssz hA cat sq sl imin imax smin smax len slen u8 hL op hop call hcall code hcode ret hret
  cbv
  by_cases h : e = 0
  · refine vcIf.no (by first | (simp [hA.not, hA.eq, hA.lt, hA.le, hA.cond, hA.beq, hA.orb, hL.len, hL.slen, hL.sq, h]; done) | (simp only [h]; simp [hA.not, hA.eq, hA.lt, hA.le, hA.cond, hA.beq, hA.orb, hL.len, hL.slen, hL.sq, h]; done) | (simp [hA.not, hA.eq, hA.lt, hA.le, hA.cond, hA.beq, hA.orb, hL.len, hL.slen, hL.sq, h]; omega) | (simp only [h]; simp [hA.not, hA.eq, hA.lt, hA.le, hA.cond, hA.beq, hA.orb, hL.len, hL.slen, hL.sq, h]; omega)) ?_
    cbv
    exact hret _ (RetEv.ret eOk rfl ⟨.inl ⟨h, rfl⟩, rfl⟩)
  · refine vcIf.yes (by first | (simp [hA.not, hA.eq, hA.lt, hA.le, hA.cond, hA.beq, hA.orb, hL.len, hL.slen, hL.sq, h]; done) | (simp only [h]; simp [hA.not, hA.eq, hA.lt, hA.le, hA.cond, hA.beq, hA.orb, hL.len, hL.slen, hL.sq, h]; done) | (simp [hA.not, hA.eq, hA.lt, hA.le, hA.cond, hA.beq, hA.orb, hL.len, hL.slen, hL.sq, h]; omega) | (simp only [h]; simp [hA.not, hA.eq, hA.lt, hA.le, hA.cond, hA.beq, hA.orb, hL.len, hL.slen, hL.sq, h]; omega)) ?_
    cbv
    refine hcode _ _ _ (CodeEv.drawA eOk fOk (by kernel_rfl) noX (by kernel_rfl) (by kernel_rfl) (by kernel_rfl) ?_)
    intro add2 sub2 mul2 quo2 rem2 band2 bor2 bxor2 bclr2 shl2 shr2 ieq2 ilt2 ile2 seq2 slt2 beq2 bnot2 orb2 bcond2 iwrap2 iof2 ssz2 hA2 cat2 sq2 sl2 imin2 imax2 smin2 smax2 len2 slen2 u82 hL2 op2 hop2 call2 hcall2 code2 hcode2 q2 hq2
    cbv
    refine hq2 _ ?_
    cbv
    exact hret _ (RetEv.ret eOk rfl ⟨.inr ⟨h, rfl⟩, rfl⟩)

/-! A writer that has nothing yet -/
theorem wr0_of {f : FuncId} {args : List V} {R : V → List Res → Prop} (h : FnL Try.prog f args [wrS 0 0, wrA []] R) : FnL Try.prog f args [wr0] R :=
  FnL.hollow 0 0 5 1 (by decide) rfl rfl h
end Go.Proofs.Ytnigonhkfpnodaa
