/- Records are cloned; is a book ready. Conditions: on sizes. -/
import Derived.Test.YtnigonhkfpnodaaLTape4
set_option maxRecDepth 100000
set_option maxHeartbeats 4000000
set_option linter.unusedSimpArgs false
set_option linter.unusedVariables false
namespace Go.Proofs.Ytnigonhkfpnodaa
open Go Go.Lx
open Go.Sx (vcIf)

/-- Records as slices of bytes. -/
def rcP (l : List (List UInt8)) : List PV := l.map fun r => .sl (bP r)
theorem rcP_length (l : List (List UInt8)) : (rcP l).length = l.length := by simp [rcP]
theorem rcP_wf (l : List (List UInt8)) : Wf 1 (rcP l) := Wf.mapO (fun _ => PV.wf1 rfl) l
theorem rcP_append (a b : List (List UInt8)) : rcP (a ++ b) = rcP a ++ rcP b := by simp [rcP]
theorem rcP_take (l : List (List UInt8)) (n : Nat) : (rcP l).take n = rcP (l.take n) := by simp [rcP, List.map_take]
theorem rcP_get {l : List (List UInt8)} {i : Nat} {r : List UInt8} (h : l[i]? = some r) : (rcP l)[i]? = some (.sl (bP r)) := by simp [rcP, h]

theorem bcloneF_spec (xs : List PV) (hw : Wf 1 xs) (hs : xs.length ≤ 140737488355328) :
    FnL Try.prog 106 [.p (.sl xs)] [] fun z own => z = .p (.sl xs) ∧ own = [] := by
  refine FnL.flat (R := fun v own => ∃ x, v = .p x ∧ PW x (.sl xs)) ?_ (by rintro _ _ ⟨x, rfl, h⟩; exact ⟨_, _, rfl, h, rfl, rfl⟩)
  obtain ⟨n, hnn⟩ : ∃ n, n = xs.length := ⟨_, rfl⟩
  rw [← hnn] at hs
  refine fn_of_vc eOk fOk fo106 Try.func106 rfl rfl rfl fun B hB => ?_
  intro add sub mul quo rem band bor bxor bclr shl shr ieq ilt ile seq slt beq bnot orb bcond iwrap iof ssz hA cat sq sl imin imax smin smax len slen u8 hL op hop call hcall code hcode ret hret
  cbv
  intro b hb
  cases b with
  | true =>
    have h0 := hb rfl
    cbv
    exact hret _ (RetEv.ret eOk rfl ⟨_, rfl, by rw [h0]; exact PW.nils⟩)
  | false =>
    cbv
    refine ⟨true, ?_⟩
    cbv
    refine .inl ⟨(), rfl, rfl, hw, ?_, ?_, ?_⟩
    · show 0 + xs.length ≤ maxLen
      unfold maxLen; omega
    · show (0 + xs.length) * 1 ≤ _
      omega
    intro us n' hu hn'
    replace hu : us = [] ++ xs := hu
    replace hn' : n' = 0 + xs.length := hn'
    have e1 : (us.drop 0).take n' = xs := by rw [hu, hn', List.drop_zero, List.nil_append, Nat.zero_add, List.take_length]
    cbv
    refine hret _ (RetEv.retF eOk rfl 0 rfl (by rw [hB]; exact Nat.zero_le _) ⟨.sl ((us.drop 0).take n'), rfl, ?_⟩)
    rw [e1]; exact PW.refl _

abbrev bkA (rs : List PV) : Res := .arr 94 1 rs

theorem bkClone_spec (l : List (List UInt8)) (hl : ∀ r ∈ l, r.length ≤ 140737488355328) (hn : l.length * 24 ≤ 140737488355328) (zs : List PV) (hzs : zs = rcP l) :
    FnL Try.prog 73 [.p (.sl zs)] [] fun v own => v = .vw 0 1 0 l.length none ∧ own = [bkA zs] := by
  obtain ⟨N, hN⟩ : ∃ N, N = l.length := ⟨_, rfl⟩
  have hzl : zs.length = N := by rw [hzs, rcP_length, hN]
  rw [← hN] at hn ⊢
  refine fn_of_vc eOk fOk fo73 Try.func73 rfl rfl rfl fun B hB => ?_
  intro add sub mul quo rem band bor bxor bclr shl shr ieq ilt ile seq slt beq bnot orb bcond iwrap iof ssz hA cat sq sl imin imax smin smax len slen u8 hL op hop call hcall code hcode ret hret
  have hlen : len zs = Int.ofNat N := by rw [hL.len, hzl]; rfl
  cbv
  rw [hlen]
  refine hcode _ _ _ (CodeEv.conv (Conv.hollow 3 94 1 (by decide) rfl) ?_)
  refine CodeEv.loop eOk fOk (ι := Nat × List PV) (fun s => [(3, .vw 0 1 0 s.1 none), (6, .p (.sl zs)), (7, .p (.int .i64 (Int.ofNat N))), (8, .p (.int .i64 (Int.ofNat s.1)))])
    (fun s => [bkA s.2]) (fun s => s.1 ≤ N ∧ s.2.length = s.1 ∧ s.2 = rcP (l.take s.1)) (fun s => N - s.1) (0, []) ?_ ?_
  · exact ⟨⟨rfl, rfl, rfl, rfl, trivial⟩, rfl, Nat.zero_le _, rfl, by simp [rcP]⟩
  rintro ⟨i, us⟩ ⟨h1, h2, h3⟩ rd hrd
  simp only at h1 h2 h3
  intro add1 sub1 mul1 quo1 rem1 band1 bor1 bxor1 bclr1 shl1 shr1 ieq1 ilt1 ile1 seq1 slt1 beq1 bnot1 orb1 bcond1 iwrap1 iof1 ssz1 hA1 cat1 sq1 sl1 imin1 imax1 smin1 smax1 len1 slen1 u81 hL1 op1 hop1 call1 hcall1 code1 hcode1
  have hadd1 : i < N → add1 .i64 (Int.ofNat i) 1 = Int.ofNat (i + 1) := fun _ => by rw [hA1.add, IntWalk.i64_in _ (by simp only [Int.ofNat_eq_natCast]; omega)]; rfl
  cbv
  by_cases hi : i < N
  · obtain ⟨r, hr⟩ := get_of_lt (show i < l.length by omega)
    obtain ⟨bs, hbs⟩ : ∃ bs, bs = bP r := ⟨_, rfl⟩
    have hzz : zs[i]? = some (.sl bs) := by rw [hzs, hbs]; exact rcP_get hr
    have htk : rcP (l.take (i + 1)) = rcP (l.take i) ++ [.sl bs] := by rw [List.take_add_one, hr, rcP_append, hbs]; rfl
    have hcl := bcloneF_spec bs (by rw [hbs]; exact bP_wf _) (by rw [hbs, bP_length]; exact hl r (List.mem_of_getElem? hr))
    refine vcIf.yes (by first | (simp [hA1.not, hA1.eq, hA1.lt, hA1.le, hA1.cond, hA1.beq, hA1.orb, hL1.len, hL1.slen, hL1.sq, hi]; done) | (simp only [hi]; simp [hA1.not, hA1.eq, hA1.lt, hA1.le, hA1.cond, hA1.beq, hA1.orb, hL1.len, hL1.slen, hL1.sq, hi]; done) | (simp [hA1.not, hA1.eq, hA1.lt, hA1.le, hA1.cond, hA1.beq, hA1.orb, hL1.len, hL1.slen, hL1.sq, hi]; omega) | (simp only [hi]; simp [hA1.not, hA1.eq, hA1.lt, hA1.le, hA1.cond, hA1.beq, hA1.orb, hL1.len, hL1.slen, hL1.sq, hi]; omega)) ?_
    cbv
    refine ⟨i, _, rfl, hzz, rfl, ?_⟩
    cbv
    refine hcall1 _ _ _ _ _ (CallEv.same hcl rfl ?_)
    rintro _ _ ⟨rfl, rfl⟩
    cbv
    refine ⟨false, ?_⟩
    cbv
    refine .inl ⟨(), rfl, h2.symm, ?_, ?_, ?_, ?_⟩
    · intro u hu; simp only [Sq.get, List.mem_singleton] at hu; rw [hu]; exact PV.wf1 rfl
    · show i + 1 ≤ maxLen
      unfold maxLen; omega
    · show (i + 1) * 24 ≤ _
      omega
    intro ws n' hw hn'
    replace hw : ws = us ++ [.sl bs] := hw
    replace hn' : n' = i + 1 := hn'
    subst hn'
    cbv
    refine hrd _ ⟨(i + 1, ws), [], ?_, ⟨hi, ?_, ?_⟩, rfl, ⟨rfl, rfl, rfl, ?_, trivial⟩, rfl, rfl, rfl, ?_⟩
    · simp only; omega
    · simp only; rw [hw, List.length_append, h2]; rfl
    · simp only; rw [htk, hw, h3]
    · show some (V.p (.int .i64 _)) = _
      rw [hadd1 hi]
    · rw [hB]; exact Nat.zero_le _
  · refine vcIf.no (by first | (simp [hA1.not, hA1.eq, hA1.lt, hA1.le, hA1.cond, hA1.beq, hA1.orb, hL1.len, hL1.slen, hL1.sq, hi]; done) | (simp only [hi]; simp [hA1.not, hA1.eq, hA1.lt, hA1.le, hA1.cond, hA1.beq, hA1.orb, hL1.len, hL1.slen, hL1.sq, hi]; done) | (simp [hA1.not, hA1.eq, hA1.lt, hA1.le, hA1.cond, hA1.beq, hA1.orb, hL1.len, hL1.slen, hL1.sq, hi]; omega) | (simp only [hi]; simp [hA1.not, hA1.eq, hA1.lt, hA1.le, hA1.cond, hA1.beq, hA1.orb, hL1.len, hL1.slen, hL1.sq, hi]; omega)) ?_
    cbv
    have hiN : i = N := by omega
    rw [List.take_of_length_le (by omega), ← hzs] at h3
    subst h3 hiN
    exact hret _ (RetEv.ret eOk rfl ⟨rfl, rfl⟩)
abbrev bkS (m : Nat) (d : Bool) : Res := .st 131 [.own 0 0, .vw 3 1 0 m none, .p (.bool d)]
theorem bkCloneO_spec (l : List (List UInt8)) (hl : ∀ r ∈ l, r.length ≤ 140737488355328) (hn : l.length * 24 ≤ 140737488355328) (zs : List PV) (hzs : zs = rcP l) (N : Nat) (hN : N = l.length) {n : Nat} {su ro af : Int} {d : Bool} {xs : List PV} {dn : Bool} :
    FnL Try.prog 73 [.vw 3 1 0 N none] [tpS n su ro af d, tpA xs, bkS N dn, bkA zs] fun v own => v = .vw 4 1 0 N none ∧ own = [tpS n su ro af d, tpA xs, bkS N dn, bkA zs, bkA zs] := by
  have hzl : zs.length = N := by rw [hzs, rcP_length, hN]
  rw [← hN] at hn
  refine fn_of_vc eOk fOk fo73 Try.func73 rfl rfl rfl fun B hB => ?_
  intro add sub mul quo rem band bor bxor bclr shl shr ieq ilt ile seq slt beq bnot orb bcond iwrap iof ssz hA cat sq sl imin imax smin smax len slen u8 hL op hop call hcall code hcode ret hret
  have hlen : iof N = Int.ofNat N := hA.ofNat N
  cbv
  rw [hlen]
  refine hcode _ _ _ (CodeEv.conv (Conv.hollow 3 94 1 (by decide) rfl) ?_)
  refine CodeEv.loop eOk fOk (ι := Nat × List PV) (fun s => [(3, .vw 4 1 0 s.1 none), (6, .vw 3 1 0 N none), (7, .p (.int .i64 (Int.ofNat N))), (8, .p (.int .i64 (Int.ofNat s.1)))])
    (fun s => [tpS n su ro af d, tpA xs, bkS N dn, bkA zs, bkA s.2]) (fun s => s.1 ≤ N ∧ s.2.length = s.1 ∧ s.2 = rcP (l.take s.1)) (fun s => N - s.1) (0, []) ?_ ?_
  · exact ⟨⟨rfl, rfl, rfl, rfl, trivial⟩, rfl, Nat.zero_le _, rfl, by simp [rcP]⟩
  rintro ⟨i, us⟩ ⟨h1, h2, h3⟩ rd hrd
  simp only at h1 h2 h3
  intro add1 sub1 mul1 quo1 rem1 band1 bor1 bxor1 bclr1 shl1 shr1 ieq1 ilt1 ile1 seq1 slt1 beq1 bnot1 orb1 bcond1 iwrap1 iof1 ssz1 hA1 cat1 sq1 sl1 imin1 imax1 smin1 smax1 len1 slen1 u81 hL1 op1 hop1 call1 hcall1 code1 hcode1
  have hadd1 : i < N → add1 .i64 (Int.ofNat i) 1 = Int.ofNat (i + 1) := fun _ => by rw [hA1.add, IntWalk.i64_in _ (by simp only [Int.ofNat_eq_natCast]; omega)]; rfl
  cbv
  by_cases hi : i < N
  · obtain ⟨r, hr⟩ := get_of_lt (show i < l.length by omega)
    obtain ⟨bs, hbs⟩ : ∃ bs, bs = bP r := ⟨_, rfl⟩
    have hzz : zs[i]? = some (.sl bs) := by rw [hzs, hbs]; exact rcP_get hr
    have htk : rcP (l.take (i + 1)) = rcP (l.take i) ++ [.sl bs] := by rw [List.take_add_one, hr, rcP_append, hbs]; rfl
    have hcl := bcloneF_spec bs (by rw [hbs]; exact bP_wf _) (by rw [hbs, bP_length]; exact hl r (List.mem_of_getElem? hr))
    refine vcIf.yes (by first | (simp [hA1.not, hA1.eq, hA1.lt, hA1.le, hA1.cond, hA1.beq, hA1.orb, hL1.len, hL1.slen, hL1.sq, hi]; done) | (simp only [hi]; simp [hA1.not, hA1.eq, hA1.lt, hA1.le, hA1.cond, hA1.beq, hA1.orb, hL1.len, hL1.slen, hL1.sq, hi]; done) | (simp [hA1.not, hA1.eq, hA1.lt, hA1.le, hA1.cond, hA1.beq, hA1.orb, hL1.len, hL1.slen, hL1.sq, hi]; omega) | (simp only [hi]; simp [hA1.not, hA1.eq, hA1.lt, hA1.le, hA1.cond, hA1.beq, hA1.orb, hL1.len, hL1.slen, hL1.sq, hi]; omega)) ?_
    cbv
    refine ⟨i, rfl, hi, fun q hq => ?_⟩
    have hq : q = i := by omega
    have guq : zs[q]? = some (.sl bs) := by rw [hq]; exact hzz
    cbv
    refine ⟨_, guq, ?_⟩
    cbv
    refine hcall1 _ _ _ _ _ (CallEv.same hcl rfl ?_)
    rintro _ _ ⟨rfl, rfl⟩
    cbv
    refine ⟨false, ?_⟩
    cbv
    refine .inl ⟨(), rfl, h2.symm, ?_, ?_, ?_, ?_⟩
    · intro u hu; simp only [Sq.get, List.mem_singleton] at hu; rw [hu]; exact PV.wf1 rfl
    · show i + 1 ≤ maxLen
      unfold maxLen; omega
    · show (i + 1) * 24 ≤ _
      omega
    intro ws n' hw hn'
    replace hw : ws = us ++ [.sl bs] := hw
    replace hn' : n' = i + 1 := hn'
    subst hn'
    cbv
    refine hrd _ ⟨(i + 1, ws), [], ?_, ⟨hi, ?_, ?_⟩, rfl, ⟨rfl, rfl, rfl, ?_, trivial⟩, rfl, rfl, rfl, ?_⟩
    · simp only; omega
    · simp only; rw [hw, List.length_append, h2]; rfl
    · simp only; rw [htk, hw, h3]
    · show some (V.p (.int .i64 _)) = _
      rw [hadd1 hi]
    · rw [hB]; exact Nat.le_of_ble_eq_true rfl
  · refine vcIf.no (by first | (simp [hA1.not, hA1.eq, hA1.lt, hA1.le, hA1.cond, hA1.beq, hA1.orb, hL1.len, hL1.slen, hL1.sq, hi]; done) | (simp only [hi]; simp [hA1.not, hA1.eq, hA1.lt, hA1.le, hA1.cond, hA1.beq, hA1.orb, hL1.len, hL1.slen, hL1.sq, hi]; done) | (simp [hA1.not, hA1.eq, hA1.lt, hA1.le, hA1.cond, hA1.beq, hA1.orb, hL1.len, hL1.slen, hL1.sq, hi]; omega) | (simp only [hi]; simp [hA1.not, hA1.eq, hA1.lt, hA1.le, hA1.cond, hA1.beq, hA1.orb, hL1.len, hL1.slen, hL1.sq, hi]; omega)) ?_
    cbv
    have hiN : i = N := by omega
    rw [List.take_of_length_le (by omega), ← hzs] at h3
    subst h3 hiN
    exact hret _ (RetEv.ret eOk rfl ⟨rfl, rfl⟩)
theorem bkReady_spec {n : Nat} {su ro af : Int} {d : Bool} {xs : List PV} {m : Nat} {dn : Bool} {rs : List PV} :
    FnL Try.prog 57 [.own 2 0] [tpS n su ro af d, tpA xs, bkS m dn, bkA rs] fun v own => v = .p (.int .i64 (if dn then 11 else 0)) ∧ own = [tpS n su ro af d, tpA xs, bkS m dn, bkA rs] := by
  refine fn_of_vc eOk fOk fo57 Try.func57 rfl rfl rfl fun B hB => ?_
  intro add sub mul quo rem band bor bxor bclr shl shr ieq ilt ile seq slt beq bnot orb bcond iwrap iof ssz hA cat sq sl imin imax smin smax len slen u8 hL op hop call hcall code hcode ret hret
  cbv
  cases dn with
  | true =>
    cbv
    exact hret _ (RetEv.ret eOk rfl ⟨rfl, rfl⟩)
  | false =>
    cbv
    exact hret _ (RetEv.ret eOk rfl ⟨rfl, rfl⟩)
theorem bkReady_nil : FnL Try.prog 57 [.p .nilp] [] fun v own => v = .p (.int .i64 1) ∧ own = [] := by
  refine fn_of_vc eOk fOk fo57 Try.func57 rfl rfl rfl fun B hB => ?_
  intro add sub mul quo rem band bor bxor bclr shl shr ieq ilt ile seq slt beq bnot orb bcond iwrap iof ssz hA cat sq sl imin imax smin smax len slen u8 hL op hop call hcall code hcode ret hret
  cbv
  exact hret _ (RetEv.ret eOk rfl ⟨rfl, rfl⟩)
end Go.Proofs.Ytnigonhkfpnodaa
