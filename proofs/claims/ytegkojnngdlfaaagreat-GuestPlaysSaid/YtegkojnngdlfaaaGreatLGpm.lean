/- LGp1, LGp2, LGp3, LGp4, LGp5, LGp6 together. Conditions: on sizes. -/
import Derived.Test.YtegkojnngdlfaaaGreatLGum
import Derived.Test.YtegkojnngdlfaaaGreatLSqm
import Derived.Test.YtegkojnngdlfaaaGreatLCh1
set_option maxRecDepth 100000
set_option maxHeartbeats 16000000
set_option linter.unusedSimpArgs false
set_option linter.unusedVariables false
section
namespace Go.Proofs.YtegkojnngdlfaaaGreat
open Go Go.Lx
open Go.Sx (vcIf)
def bnds (k : Nat) : BL := (List.range (k - 1)).map fun i => [UInt8.ofNat (97 + 26 * (i + 1) / k)]
theorem crBounds_spec (k : Nat) (hk : 1 ≤ k ∧ k ≤ 4) : FnL Tryz.prog 21 [.p (.int .i64 (Int.ofNat k))] [] fun v own => v = .p (.sl (bsP (bnds k))) ∧ own = [] := by
  refine FnL.flat (R := fun v own => ∃ x, v = .p x ∧ PW x (.sl (bsP (bnds k)))) ?_ (by rintro _ _ ⟨x, rfl, h⟩; exact ⟨_, _, rfl, h, rfl, rfl⟩)
  refine fn_of_vc eOk fOk fo21 Tryz.func21 rfl rfl rfl fun B hB => ?_
  intro add _ mul quo _ _ _ _ _ _ _ _ _ _ _ _ _ _ _ _ _ _ _ _ _ _ sl _ _ _ _ _ _ u8 _ _ _ _ _ _ hcode _ hret
  cbv
  refine hcode _ _ _ (CodeEv.conv (Conv.hollow 3 9 1 (by decide) rfl) (CodeEv.loop eOk fOk (ι := Nat × List PV) (fun q => [(0, .p (.int .i64 (Int.ofNat k))), (3, .vw 0 1 0 q.1 none), (4, .p (.int .i64 (Int.ofNat (q.1 + 1))))])
    (fun q => [.arr 9 1 q.2]) (fun q => q.1 + 1 ≤ k ∧ q.2 = bsP ((bnds k).take q.1)) (fun q => k - q.1) (0, []) ?_ ?_))
  · exact ⟨⟨rfl, rfl, rfl, trivial⟩, rfl, hk.1, rfl⟩
  rintro ⟨i, us⟩ ⟨h1, h2⟩ rd hrd
  simp only at h1 h2
  intro add1 _ mul1 quo1 _ _ _ _ _ _ _ _ _ _ _ _ _ _ _ _ iwrap1 _ _ hA1 _ _ _ _ _ _ _ _ _ _ hL1 _ _ _ _ _ _
  have hadd1 : add1 .i64 (Int.ofNat (i + 1)) 1 = Int.ofNat (i + 1 + 1) := by rw [hA1.add, IntWalk.i64_in _ (by simp only [Int.ofNat_eq_natCast]; omega)]; rfl
  obtain ⟨j, hj⟩ : ∃ j, j = i + 1 := ⟨_, rfl⟩
  have hul : us.length = i := by rw [h2, bsP, List.length_map, List.length_take, bnds, List.length_map, List.length_range]; omega
  have htk : i + 1 < k → (bnds k).take (i + 1) = (bnds k).take i ++ [[UInt8.ofNat (97 + 26 * (i + 1) / k)]] := fun h => by
    rw [List.take_add_one, bnds, List.getElem?_map, List.getElem?_range (by omega)]; rfl
  rw [← hj] at hadd1 ⊢
  have hk4 : k ≤ 4 := hk.2
  obtain ⟨y, hy⟩ : ∃ y, y = 26 * j / k := ⟨_, rfl⟩
  have hval : j < k → iwrap1 .u8 (add1 .i64 97 (quo1 .i64 (mul1 .i64 26 (Int.ofNat j)) (Int.ofNat k))) = (((97 + y) % 256 : Nat) : Int) := fun hi => by
    have hd := Nat.div_le_self (26 * j) k
    rw [hA1.mul, show (26 : Int) * Int.ofNat j = Int.ofNat (26 * j) from rfl, IntWalk.i64_in _ (by simp only [Int.ofNat_eq_natCast]; omega), hA1.quo, show (Int.ofNat (26 * j)).tdiv (Int.ofNat k) = Int.ofNat (26 * j / k) from rfl, ← hy, IntWalk.i64_in _ (by
      simp only [Int.ofNat_eq_natCast]; omega), hA1.add, show (97 : Int) + Int.ofNat y = Int.ofNat (97 + y) from (Int.natCast_add 97 y).symm, IntWalk.i64_in _ (by simp only [Int.ofNat_eq_natCast]; omega), hA1.wrap, wrap_u8]
  cbv
  by_cases hi : j < k
  · have hval := hval hi
    refine vcIf.yes (by first | (simp [smW hA1 hL1, hi]; done) | (simp only [hi]; simp [smW hA1 hL1, hi]; done) | (simp [smW hA1 hL1, hi]; omega) | (simp only [hi]; simp [smW hA1 hL1, hi]; omega)) ?_
    cbv
    refine ⟨(), by simp only [Int.ofNat_eq_natCast]; omega, ?_⟩
    cbv
    refine ⟨false, ?_⟩
    cbv
    refine ⟨[UInt8.ofNat (97 + y)], ?_, ?_⟩
    · show [PV.int IntKind.u8 _] = _
      rw [hval]
      rw [bP_eq]; simp
    obtain ⟨s, hs⟩ : ∃ s, s = [UInt8.ofNat (97 + y)] := ⟨_, rfl⟩
    rw [← hs]
    cbv
    refine ⟨false, ?_⟩
    cbv
    refine .inl ⟨(), rfl, ?_, ?_, ?_, ?_, fun us1 n1 hu1 hn1 => ?_⟩
    · exact hul.symm
    · intro z hz
      simp [Sq.get] at hz
      rw [hz]; exact PV.wf1 rfl
    · show i + 1 ≤ maxLen
      unfold maxLen; omega
    · show (i + 1) * 16 ≤ _
      omega
    replace hu1 : us1 = us ++ [.str s] := hu1
    obtain rfl : i + 1 = n1 := hn1.symm
    cbv
    refine hrd _ ⟨(i + 1, us1), _, ?_, ⟨by simp only; omega, ?_⟩, rfl, ⟨rfl, rfl, ?_, trivial⟩, rfl, rfl, rfl, ?_⟩
    · simp only; omega
    · simp only
      rw [hu1, htk (by omega), h2, hs, hy, hj]; simp [bsP]
    · show some (V.p (.int .i64 _)) = _
      rw [hadd1, hj]
    · rw [hB]; exact Nat.zero_le _
  · refine vcIf.no (by first | (simp [smW hA1 hL1, hi]; done) | (simp only [hi]; simp [smW hA1 hL1, hi]; done) | (simp [smW hA1 hL1, hi]; omega) | (simp only [hi]; simp [smW hA1 hL1, hi]; omega)) ?_
    cbv
    obtain rfl : i + 1 = k := by omega
    refine hret _ (RetEv.retF eOk rfl 0 rfl (by rw [hB]; exact Nat.zero_le _) ⟨.sl ((us.drop 0).take i), rfl, ?_⟩)
    have e : (us.drop 0).take i = bsP (bnds (i + 1)) := by
      rw [List.drop_zero, List.take_of_length_le (Nat.le_of_eq hul), h2, List.take_of_length_le (by rw [bnds, List.length_map, List.length_range]; omega)]
    rw [e]; exact PW.refl _
end Go.Proofs.YtegkojnngdlfaaaGreat
end
section
namespace Go.Proofs.YtegkojnngdlfaaaGreat
open Go Go.Lx
open Go.Sx (vcIf)
def idl (wt : Int) (bg : Bool) (dO : Int) : Nat := if wt ≠ 0 then 14 else if bg = false then 4 else if dO ≠ 0 then 12 else 0
end Go.Proofs.YtegkojnngdlfaaaGreat
end
section
namespace Go.Proofs.YtegkojnngdlfaaaGreat
open Go Go.Lx
open Go.Sx (vcIf)
end Go.Proofs.YtegkojnngdlfaaaGreat
end
section
namespace Go.Proofs.YtegkojnngdlfaaaGreat
open Go Go.Lx
open Go.Sx (vcIf)
abbrev msA (xs : List PV) : Res := .arr 28 8 xs
abbrev gqR (c1 c2 c3 c4 c5 c6 nd fr hd sq wt tk dg db de dr dO dv : Int) (n1 n2 : Nat) (bg : Bool) (n3 : Nat) (lo hi : List UInt8) (o4 n4 n5 n6 : Nat) (ep sv : Int) (x1 x2 x3 x4 x5 x6 : List PV) : List Res :=
  [.st 63 [.p (.int .i64 c1), .p (.int .i64 c2), .p (.int .i64 c3), .p (.int .i64 c4), .p (.int .i64 c5), .p (.int .i64 c6), .p (.int .i64 nd), .p (.int .i64 fr), .p (.int .i64 hd), .p (.int .i64 sq), .p (.int .i64 wt), .p (.int .i64 tk),
    .p (.int .i64 dg), .p (.int .i64 db), .p (.int .i64 de), .p (.int .i64 dr), .p (.int .i64 dO), .p (.int .i64 dv), .vw 1 4 0 n1 none, .vw 2 3 0 n2 none, .p (.bool bg), .vw 3 2 0 n3 none, .p (.str lo), .p (.str hi), .vw 4 1 o4 n4 none, .vw 5 2 0 n5 none, .vw 6 8 0 n6 none, .p (.int .i64 ep), .p (.int .i64 sv)],
   .arr 81 4 x1, .arr 25 3 x2, .arr 38 2 x3, .arr 3 1 x4, .arr 84 2 x5, msA x6]
theorem cloneMg_spec (c1 c2 c3 c4 c5 c6 nd fr hd qn wt tk dg db de dr dO dv : Int) (n1 n2 : Nat) (bg : Bool) (n3 : Nat) (lo hi : List UInt8) (o4 n4 n5 n : Nat) (ep sv : Int) (x1 x2 x3 x4 x5 xs : List PV) (us : List PV) (hus : us = (xs.drop 0).take n) (hul : us.length = n) (hw : Wf 8 us) (hn : n * 80 ≤ 140737488355328) :
    FnL Tryz.prog 33 [.vw 6 8 0 n none] (gqR c1 c2 c3 c4 c5 c6 nd fr hd qn wt tk dg db de dr dO dv n1 n2 bg n3 lo hi o4 n4 n5 n ep sv x1 x2 x3 x4 x5 xs) fun v own => v = .vw 7 8 0 n none ∧ own = (gqR c1 c2 c3 c4 c5 c6 nd fr hd qn wt tk dg db de dr dO dv n1 n2 bg n3 lo hi o4 n4 n5 n ep sv x1 x2 x3 x4 x5 xs) ++ [msA us] := by
  refine fn_of_vc eOk fOk fo33 Tryz.func33 rfl rfl rfl fun B hB => ?_
  intro _ _ _ _ _ _ _ _ _ _ _ _ _ _ _ _ _ _ _ _ _ _ _ _ _ _ _ _ _ _ _ _ _ _ _ _ _ _ _ _ _ ret hret
  cbv
  intro b hb
  cbv
  cases b with
  | true =>
    have h0 := hb rfl
    have hu0 : us = [] := List.length_eq_zero_iff.1 (by omega)
    cbv
    refine hret _ (RetEv.convC (Conv.hollow 2 28 8 (by decide) rfl) (RetEv.ret eOk rfl ⟨?_, ?_⟩))
    · rw [h0]; rfl
    · rw [hu0]
  | false =>
    cbv
    refine ⟨true, ?_⟩
    cbv
    refine .inl ⟨(), rfl, rfl, ?_, ?_, ?_, ?_⟩
    · show Wf 8 ((xs.drop 0).take n)
      rw [← hus]; exact hw
    · show 0 + ((xs.drop 0).take n).length ≤ maxLen
      rw [← hus, hul]; unfold maxLen; omega
    · show (0 + ((xs.drop 0).take n).length) * 80 ≤ _
      rw [← hus, hul]; omega
    intro ws n' hu hn'
    replace hu : ws = [] ++ (xs.drop 0).take n := hu
    replace hn' : n' = 0 + ((xs.drop 0).take n).length := hn'
    rw [← hus] at hu hn'
    rw [List.nil_append] at hu
    obtain rfl : n' = n := by omega
    subst hu
    cbv
    exact hret _ (RetEv.ret eOk rfl ⟨rfl, rfl⟩)
theorem gqT {own : List Res} {js : List Nat} {i0 i1 i2 i3 i4 i5 i6 : Nat} {c1 c2 c3 c4 c5 c6 nd fr hd qn wt tk dg db de dr dO dv : Int} {n1 n2 : Nat} {bg : Bool} {n3 : Nat} {lo hi : List UInt8} {o4 n4 n5 n6 : Nat} {ep sv : Int} {x1 x2 x3 x4 x5 x6 : List PV}
    (h1 : js[1]? = some i1) (h2 : js[2]? = some i2) (h3 : js[3]? = some i3) (h4 : js[4]? = some i4) (h5 : js[5]? = some i5) (h6 : js[6]? = some i6)
    (g0 : own[i0]? = some (.st 63 [.p (.int .i64 c1), .p (.int .i64 c2), .p (.int .i64 c3), .p (.int .i64 c4), .p (.int .i64 c5), .p (.int .i64 c6), .p (.int .i64 nd), .p (.int .i64 fr), .p (.int .i64 hd), .p (.int .i64 qn), .p (.int .i64 wt), .p (.int .i64 tk),
    .p (.int .i64 dg), .p (.int .i64 db), .p (.int .i64 de), .p (.int .i64 dr), .p (.int .i64 dO), .p (.int .i64 dv), .vw i1 4 0 n1 none, .vw i2 3 0 n2 none, .p (.bool bg), .vw i3 2 0 n3 none, .p (.str lo), .p (.str hi), .vw i4 1 o4 n4 none, .vw i5 2 0 n5 none, .vw i6 8 0 n6 none, .p (.int .i64 ep), .p (.int .i64 sv)]))
    (g1 : own[i1]? = some (.arr 81 4 x1)) (g2 : own[i2]? = some (.arr 25 3 x2)) (g3 : own[i3]? = some (.arr 38 2 x3)) (g4 : own[i4]? = some (.arr 3 1 x4)) (g5 : own[i5]? = some (.arr 84 2 x5)) (g6 : own[i6]? = some (msA x6)) :
    TrO own js [] [i0, i1, i2, i3, i4, i5, i6] (gqR c1 c2 c3 c4 c5 c6 nd fr hd qn wt tk dg db de dr dO dv n1 n2 bg n3 lo hi o4 n4 n5 n6 ep sv x1 x2 x3 x4 x5 x6) :=
  ⟨⟨_, g0, .st _ _ _ (.cons (.p _) (.cons (.p _) (.cons (.p _) (.cons (.p _) (.cons (.p _) (.cons (.p _) (.cons (.p _) (.cons (.p _) (.cons (.p _) (.cons (.p _) (.cons (.p _) (.cons (.p _) (.cons (.p _) (.cons (.p _) (.cons (.p _) (.cons (.p _) (.cons (.p _) (.cons (.p _)
    (.cons (.vw 1 i1 4 0 n1 none h1) (.cons (.vw 2 i2 3 0 n2 none h2) (.cons (.p _) (.cons (.vw 3 i3 2 0 n3 none h3) (.cons (.p _) (.cons (.p _) (.cons (.vw 4 i4 1 o4 n4 none h4) (.cons (.vw 5 i5 2 0 n5 none h5) (.cons (.vw 6 i6 8 0 n6 none h6) (.cons (.p _) (.cons (.p _) .nil)))))))))))))))))))))))))))))⟩,
    ⟨_, g1, .arr _ _ _⟩, ⟨_, g2, .arr _ _ _⟩, ⟨_, g3, .arr _ _ _⟩, ⟨_, g4, .arr _ _ _⟩, ⟨_, g5, .arr _ _ _⟩, ⟨_, g6, .arr _ _ _⟩, trivial⟩
theorem gqSend_spec (c1 c2 c3 c4 c5 c6 nd fr hd qn qm wt tk dg db de dr dO dv : Int) (n1 n2 : Nat) (bg : Bool) (n3 : Nat) (lo hi : List UInt8) (o4 n4 n5 n6 : Nat) (ep sv : Int) (x1 x2 x3 x4 x5 x6 : List PV) (hqn : 0 ≤ qn ∧ qn < 9223372036854775807) (hqm : qm = qn + 1)
    (w to k0 f0 t0 e a0 b c : Int) (bd : List PV) :
    FnL Tryz.prog 18 [.own 0 0, .p (.int .i64 w), .p (.int .i64 to), .p (msP k0 f0 t0 e a0 b c (.sl bd))] (gqR c1 c2 c3 c4 c5 c6 nd fr hd qn wt tk dg db de dr dO dv n1 n2 bg n3 lo hi o4 n4 n5 n6 ep sv x1 x2 x3 x4 x5 x6) fun v own => ∃ zs, zs = [msP 1 nd to e qm b c (.sl bd)] ∧
      v = .p (.sl zs) ∧ own = gqR c1 c2 c3 c4 c5 c6 nd fr hd qm w 0 dg db de dr dO dv n1 n2 bg n3 lo hi o4 n4 n5 1 ep sv x1 x2 x3 x4 x5 zs := by
  have hcl := cloneMg_spec c1 c2 c3 c4 c5 c6 nd fr hd qm w 0 dg db de dr dO dv n1 n2 bg n3 lo hi o4 n4 n5 1 ep sv x1 x2 x3 x4 x5 [msP 1 nd to e qm b c (.sl bd)] [msP 1 nd to e qm b c (.sl bd)] rfl rfl (fun x hx => by simp only [List.mem_cons, List.not_mem_nil, or_false] at hx; rw [hx]; exact ⟨rfl, fun u hu => by simp [PV.cells] at hu; rcases hu with rfl | rfl | rfl | rfl | rfl | rfl | rfl | rfl <;> rfl⟩) (by decide)
  refine fn_of_vc eOk fOk fo18 Tryz.func18 rfl rfl rfl fun B hB => ?_
  intro add _ _ _ _ _ _ _ _ _ _ _ _ _ _ _ _ _ _ _ _ _ _ hA _ _ sl _ _ _ _ _ _ _ _ _ _ _ hcall _ hcode ret hret
  have hadd : add .i64 qn 1 = qm := by rw [hA.add, IntWalk.i64_in _ (by omega), hqm]
  cbv
  rw [hadd]
  refine hcode _ _ _ (CodeEv.drawT eOk fOk (by kernel_rfl) (Xof 8 [7]) (.rd 0 (.rd 1 (.rd 2 (.rd 3 (.rd 4 (.rd 5 (.rd 6 (.rd 7 (.rd 8 (.so 9 (.acts (.cons 10 (.so 11 (.acts (.cons 12 (.so 13 (.acts (.cons 14 (.so 15 (.acts (.cons 16 (.done) (.nil)))) (.nil)))) (.nil)))) (.nil))))))))))))) (by kernel_rfl) (by kernel_rfl) ?_)
  intro _ _ _ _ _ _ _ _ _ _ _ _ _ _ _ _ _ _ _ _ _ _ _ _ _ _ _ _ _ _ _ _ _ _ _ _ _ _ _ _ _ _ hq2
  cbv
  refine hq2 _ ?_
  cbv
  refine hcode _ _ _ (CodeEv.drawT eOk fOk (by kernel_rfl) (Xof 8 [0]) (.rd 0 (.rd 1 (.rd 2 (.rd 3 (.rd 4 (.rd 6 (.rd 7 (.acts (.cons 5 (.acts (.cons 8 (.so 9 (.so 10 (.acts (.cons 11 (.so 12 (.so 13 (.acts (.cons 14 (.done) (.nil))))) (.nil))))) (.nil))) (.cons 8 (.rd 9 (.rd 10 (.acts (.cons 5 (.acts (.cons 11 (.so 12 (.so 13 (.acts (.cons 14 (.done) (.nil))))) (.nil))) (.cons 11 (.acts (.cons 5 (.so 12 (.so 13 (.acts (.cons 14 (.done) (.nil))))) (.nil))) (.nil)))))) (.nil))))))))))) (by kernel_rfl) (by kernel_rfl) ?_)
  intro _ _ _ _ _ _ _ _ _ _ _ _ _ _ _ _ _ _ _ _ _ _ _ _ _ _ _ _ _ _ _ _ _ _ _ _ _ _ _ _ _ _ hq2
  cbv
  refine ⟨?_, ?_, ?_⟩
  · refine ⟨true, ?_⟩
    cbv
    refine hq2 _ ?_
    cbv
    refine hcall _ _ _ _ _ (CallEv.lend [0, 1, 2, 3, 4, 5, 8] hcl rfl (.cons (.vw 6 8 8 0 1 none rfl) .nil) (gqT rfl rfl rfl rfl rfl rfl rfl rfl rfl rfl rfl rfl rfl) ?_)
    rintro _ _ ⟨rfl, rfl⟩
    cbv
    exact hret _ (RetEv.convW ((Conv.freeze 9 rfl (by rw [hB]; exact Nat.le_of_ble_eq_true rfl)).weak.trans (ConvW.pack [0, 1, 2, 3, 4, 5, 8] hB rfl)) (RetEv.ret eOk rfl ⟨_, rfl, rfl, rfl⟩))
  · refine ⟨true, ?_⟩
    cbv
    refine hq2 _ ?_
    cbv
    refine hcall _ _ _ _ _ (CallEv.lend [0, 1, 2, 3, 4, 5, 8] hcl rfl (.cons (.vw 6 8 8 0 1 none rfl) .nil) (gqT rfl rfl rfl rfl rfl rfl rfl rfl rfl rfl rfl rfl rfl) ?_)
    rintro _ _ ⟨rfl, rfl⟩
    cbv
    exact hret _ (RetEv.convW ((Conv.freeze 9 rfl (by rw [hB]; exact Nat.le_of_ble_eq_true rfl)).weak.trans (ConvW.pack [0, 1, 2, 3, 4, 5, 8] hB rfl)) (RetEv.ret eOk rfl ⟨_, rfl, rfl, rfl⟩))
  · refine ⟨true, ?_⟩
    cbv
    refine hq2 _ ?_
    cbv
    refine hcall _ _ _ _ _ (CallEv.lend [0, 1, 2, 3, 4, 5, 8] hcl rfl (.cons (.vw 6 8 8 0 1 none rfl) .nil) (gqT rfl rfl rfl rfl rfl rfl rfl rfl rfl rfl rfl rfl rfl) ?_)
    rintro _ _ ⟨rfl, rfl⟩
    cbv
    exact hret _ (RetEv.convW ((Conv.freeze 9 rfl (by rw [hB]; exact Nat.le_of_ble_eq_true rfl)).weak.trans (ConvW.pack [0, 1, 2, 3, 4, 5, 8] hB rfl)) (RetEv.ret eOk rfl ⟨_, rfl, rfl, rfl⟩))
end Go.Proofs.YtegkojnngdlfaaaGreat
end
section
namespace Go.Proofs.YtegkojnngdlfaaaGreat
open Go Go.Lx
open Go.Sx (vcIf)
theorem gqIdle_spec (c1 c2 c3 c4 c5 c6 nd fr hd qn wt tk dg db de dr dO dv : Int) (n1 n2 : Nat) (bg : Bool) (n3 : Nat) (lo hi : List UInt8) (o4 n4 n5 n6 : Nat) (ep sv : Int) (x1 x2 x3 x4 x5 x6 : List PV) :
    FnL Tryz.prog 19 [.own 0 0] (gqR c1 c2 c3 c4 c5 c6 nd fr hd qn wt tk dg db de dr dO dv n1 n2 bg n3 lo hi o4 n4 n5 n6 ep sv x1 x2 x3 x4 x5 x6) fun v own => ∃ e : Nat, e = idl wt bg dO ∧ v = .p (.int .i64 (Int.ofNat e)) ∧ own = (gqR c1 c2 c3 c4 c5 c6 nd fr hd qn wt tk dg db de dr dO dv n1 n2 bg n3 lo hi o4 n4 n5 n6 ep sv x1 x2 x3 x4 x5 x6) := by
  obtain ⟨E, hE⟩ : ∃ E, E = idl wt bg dO := ⟨_, rfl⟩
  rw [← hE]
  unfold idl at hE
  refine fn_of_vc eOk fOk fo19 Tryz.func19 rfl rfl rfl fun B hB => ?_
  intro _ _ _ _ _ _ _ _ _ _ _ _ _ _ _ _ _ _ _ _ _ _ _ hA _ _ _ _ _ _ _ _ _ _ hL _ _ _ _ _ _ ret hret
  cbv
  by_cases h1 : wt = 0
  rotate_left
  · rw [if_pos h1] at hE
    repeat (first | (refine vcIf.yes ?_ ?_; (focus (simp [smW hA hL, h1]; done)); cbv) | (refine vcIf.no ?_ ?_; (focus (simp [smW hA hL, h1]; done)); cbv))
    exact hret _ (RetEv.ret eOk rfl ⟨14, hE.symm, rfl, rfl⟩)
  rw [if_neg (fun c => c h1)] at hE
  cases bg with
  | false =>
    rw [if_pos rfl] at hE
    repeat (first | (refine vcIf.yes ?_ ?_; (focus (simp [smW hA hL, h1]; done)); cbv) | (refine vcIf.no ?_ ?_; (focus (simp [smW hA hL, h1]; done)); cbv))
    exact hret _ (RetEv.ret eOk rfl ⟨4, hE.symm, rfl, rfl⟩)
  | true =>
    rw [if_neg (by decide)] at hE
    by_cases h2 : dO = 0
    · rw [if_neg (fun c => c h2)] at hE
      repeat (first | (refine vcIf.yes ?_ ?_; (focus (simp [smW hA hL, h1, h2]; done)); cbv) | (refine vcIf.no ?_ ?_; (focus (simp [smW hA hL, h1, h2]; done)); cbv))
      exact hret _ (RetEv.ret eOk rfl ⟨0, hE.symm, rfl, rfl⟩)
    · rw [if_pos h2] at hE
      repeat (first | (refine vcIf.yes ?_ ?_; (focus (simp [smW hA hL, h1, h2]; done)); cbv) | (refine vcIf.no ?_ ?_; (focus (simp [smW hA hL, h1, h2]; done)); cbv))
      exact hret _ (RetEv.ret eOk rfl ⟨12, hE.symm, rfl, rfl⟩)
theorem gqBegin_err (c1 c2 c3 c4 c5 c6 nd fr hd qn wt tk dg db de dr dO dv : Int) (n1 n2 : Nat) (bg : Bool) (n3 : Nat) (lo hi : List UInt8) (o4 n4 n5 n6 : Nat) (ep sv : Int) (x1 x2 x3 x4 x5 x6 : List PV) (h : wt ≠ 0 ∨ bg = true ∧ dO = 0) :
    FnL Tryz.prog 6 [.own 0 0] (gqR c1 c2 c3 c4 c5 c6 nd fr hd qn wt tk dg db de dr dO dv n1 n2 bg n3 lo hi o4 n4 n5 n6 ep sv x1 x2 x3 x4 x5 x6) fun v own => ∃ e : Nat, e = (if wt ≠ 0 then 14 else 9) ∧ v = .p (.tup [.nils, .int .i64 (Int.ofNat e)]) ∧ own = (gqR c1 c2 c3 c4 c5 c6 nd fr hd qn wt tk dg db de dr dO dv n1 n2 bg n3 lo hi o4 n4 n5 n6 ep sv x1 x2 x3 x4 x5 x6) := by
  refine fn_of_vc eOk fOk fo6 Tryz.func6 rfl rfl rfl fun B hB => ?_
  intro _ _ _ _ _ _ _ _ _ _ _ _ _ _ _ _ _ _ _ _ _ _ _ hA _ _ _ _ _ _ _ _ _ _ hL _ _ _ _ _ _ ret hret
  cbv
  by_cases h1 : wt = 0
  · obtain ⟨rfl, h2⟩ := h.resolve_left (fun c => c h1)
    repeat (first | (refine vcIf.yes ?_ ?_; (focus (simp [smW hA hL, h1, h2]; done)); cbv) | (refine vcIf.no ?_ ?_; (focus (simp [smW hA hL, h1, h2]; done)); cbv))
    exact hret _ (RetEv.ret eOk rfl ⟨9, by rw [if_neg (fun c => c h1)], rfl, rfl⟩)
  · repeat (first | (refine vcIf.yes ?_ ?_; (focus (simp [smW hA hL, h1]; done)); cbv) | (refine vcIf.no ?_ ?_; (focus (simp [smW hA hL, h1]; done)); cbv))
    exact hret _ (RetEv.ret eOk rfl ⟨14, by rw [if_pos h1], rfl, rfl⟩)
end Go.Proofs.YtegkojnngdlfaaaGreat
end
section
namespace Go.Proofs.YtegkojnngdlfaaaGreat
open Go Go.Lx
open Go.Sx (vcIf)
def cgE (wt : Int) (bg : Bool) (dO : Int) (n2 : Nat) (ch : Chg) : Nat := if idl wt bg dO ≠ 0 then idl wt bg dO else if chk ch ≠ 0 then chk ch else if 48 ≤ n2 then 10 else 0
theorem gqChange_spec (c1 c2 c3 c4 c5 c6 nd fr hd qn wt tk dg db de dr dO dv : Int) (n1 n2 : Nat) (bg : Bool) (n3 : Nat) (lo hi : List UInt8) (o4 n4 n5 n6 : Nat) (ep sv : Int) (x1 x2 x3 x4 x5 x6 : List PV) (hx2 : n2 = x2.length) (ch : Chg) (hf : ch.fit) :
    FnL Tryz.prog 10 [.own 0 0, .p (.agg [.int .i64 ch.kind, .str ch.key, .str ch.val])] (gqR c1 c2 c3 c4 c5 c6 nd fr hd qn wt tk dg db de dr dO dv n1 n2 bg n3 lo hi o4 n4 n5 n6 ep sv x1 x2 x3 x4 x5 x6) fun v own => ∃ e : Nat, e = cgE wt bg dO n2 ch ∧ v = .p (.int .i64 (Int.ofNat e)) ∧
      ((e ≠ 0 ∧ own = gqR c1 c2 c3 c4 c5 c6 nd fr hd qn wt tk dg db de dr dO dv n1 n2 bg n3 lo hi o4 n4 n5 n6 ep sv x1 x2 x3 x4 x5 x6) ∨ (e = 0 ∧ ∃ ws m, ws = x2 ++ [.agg [.int .i64 ch.kind, .str ch.key, .str ch.val]] ∧ m = n2 + 1 ∧ own = gqR c1 c2 c3 c4 c5 c6 nd fr hd qn wt tk dg db de dr dO dv n1 m bg n3 lo hi o4 n4 n5 n6 ep sv x1 ws x3 x4 x5 x6)) := by
  obtain ⟨E, hE⟩ : ∃ E, E = cgE wt bg dO n2 ch := ⟨_, rfl⟩
  rw [← hE]
  unfold cgE at hE
  have hid := gqIdle_spec c1 c2 c3 c4 c5 c6 nd fr hd qn wt tk dg db de dr dO dv n1 n2 bg n3 lo hi o4 n4 n5 n6 ep sv x1 x2 x3 x4 x5 x6
  obtain ⟨I, hI⟩ : ∃ I, I = idl wt bg dO := ⟨_, rfl⟩
  rw [← hI] at hid hE
  have hck := check_spec ch
  obtain ⟨C, hC⟩ : ∃ C, C = chk ch := ⟨_, rfl⟩
  rw [← hC] at hck hE
  obtain ⟨ck, ky, vl⟩ := ch
  simp only at hck ⊢
  clear hf hC
  refine fn_of_vc eOk fOk fo10 Tryz.func10 rfl rfl rfl fun B hB => ?_
  intro _ _ _ _ _ _ _ _ _ _ _ _ _ _ _ _ _ _ _ _ _ _ _ hA _ _ _ _ _ _ _ _ _ _ hL _ _ _ hcall _ hcode ret hret
  cbv
  refine hcall _ _ _ _ _ (CallEv.lend [0, 1, 2, 3, 4, 5, 6] hid rfl (.cons (.own 0 0 0 rfl) .nil) (gqT rfl rfl rfl rfl rfl rfl rfl rfl rfl rfl rfl rfl rfl) ?_)
  rintro _ _ ⟨e, he, rfl, rfl⟩
  cbv
  by_cases h0 : e = 0
  rotate_left
  · rw [if_pos (by omega)] at hE
    repeat (first | (refine vcIf.yes ?_ ?_; (focus (simp [smW hA hL, h0]; done)); cbv) | (refine vcIf.no ?_ ?_; (focus (simp [smW hA hL, h0]; done)); cbv))
    exact hret _ (RetEv.convW (ConvW.pack [0, 1, 2, 3, 4, 5, 6] hB rfl) (RetEv.ret eOk rfl ⟨e, by omega, rfl, .inl ⟨h0, rfl⟩⟩))
  rw [if_neg (by omega)] at hE
  repeat (first | (refine vcIf.yes ?_ ?_; (focus (simp [smW hA hL, h0]; done)); cbv) | (refine vcIf.no ?_ ?_; (focus (simp [smW hA hL, h0]; done)); cbv))
  refine hcall _ _ _ _ _ (CallEv.same hck rfl ?_)
  rintro _ _ ⟨e1, he1, rfl, rfl⟩
  cbv
  by_cases h1 : e1 = 0
  rotate_left
  · rw [if_pos (by omega)] at hE
    repeat (first | (refine vcIf.yes ?_ ?_; (focus (simp [smW hA hL, h1]; done)); cbv) | (refine vcIf.no ?_ ?_; (focus (simp [smW hA hL, h1]; done)); cbv))
    exact hret _ (RetEv.convW (ConvW.pack [0, 1, 2, 3, 4, 5, 6] hB rfl) (RetEv.ret eOk rfl ⟨e1, by omega, rfl, .inl ⟨h1, rfl⟩⟩))
  rw [if_neg (by omega)] at hE
  repeat (first | (refine vcIf.yes ?_ ?_; (focus (simp [smW hA hL, h1]; done)); cbv) | (refine vcIf.no ?_ ?_; (focus (simp [smW hA hL, h1]; done)); cbv))
  by_cases h2 : 48 ≤ n2
  · rw [if_pos h2] at hE
    refine vcIf.yes (by rw [hA.le, hA.ofNat]; exact decide_eq_true (by omega)) ?_
    cbv
    exact hret _ (RetEv.convW (ConvW.pack [0, 1, 2, 3, 4, 5, 6] hB rfl) (RetEv.ret eOk rfl ⟨10, hE.symm, rfl, .inl ⟨by decide, rfl⟩⟩))
  rw [if_neg h2] at hE
  refine vcIf.no (by rw [hA.le, hA.ofNat]; exact decide_eq_false (by omega)) ?_
  cbv
  refine hcode _ _ _ (CodeEv.drawT eOk fOk (by kernel_rfl) (Xof 8 [0, 2]) (.rd 0 (.rd 1 (.rd 2 (.rd 3 (.rd 4 (.rd 6 (.acts (.cons 5 (.acts (.cons 7 (.acts (.cons 8 (.so 9 (.so 10 (.so 11 (.acts (.cons 12 (.done) (.nil)))))) (.nil))) (.nil))) (.cons 7 (.so 5 (.acts (.cons 8 (.so 9 (.so 10 (.so 11 (.acts (.cons 12 (.done) (.nil)))))) (.nil)))) (.nil)))))))))) (by kernel_rfl) (by kernel_rfl) ?_)
  intro _ _ _ _ _ _ _ _ _ _ _ _ _ _ _ _ _ _ _ _ _ _ _ _ _ _ _ _ _ _ _ _ _ _ _ _ _ _ _ _ _ _ hq2
  cbv
  refine ⟨?_, ?_⟩
  · refine ⟨false, ?_⟩
    cbv
    refine .inl ⟨(), rfl, hx2, ?_, ?_, ?_, fun ws m hws hm => ?_⟩
    · intro y hy
      simp [Sq.get] at hy
      rw [hy]; exact ⟨rfl, fun u hu => by simp [PV.cells] at hu; rcases hu with rfl | rfl | rfl <;> rfl⟩
    · show n2 + 1 ≤ maxLen
      unfold maxLen; omega
    · show (n2 + 1) * 40 ≤ _
      omega
    cbv
    refine hq2 _ ?_
    cbv
    exact hret _ (RetEv.convW (ConvW.pack [0, 1, 2, 3, 4, 5, 6] hB rfl) (RetEv.ret eOk rfl ⟨0, hE.symm, rfl, .inr ⟨rfl, ws, m, hws, hm, rfl⟩⟩))
  · refine ⟨false, ?_⟩
    cbv
    refine .inl ⟨(), rfl, hx2, ?_, ?_, ?_, fun ws m hws hm => ?_⟩
    · intro y hy
      simp [Sq.get] at hy
      rw [hy]; exact ⟨rfl, fun u hu => by simp [PV.cells] at hu; rcases hu with rfl | rfl | rfl <;> rfl⟩
    · show n2 + 1 ≤ maxLen
      unfold maxLen; omega
    · show (n2 + 1) * 40 ≤ _
      omega
    cbv
    refine hq2 _ ?_
    cbv
    exact hret _ (RetEv.convW (ConvW.pack [0, 1, 2, 3, 4, 5, 6] hB rfl) (RetEv.ret eOk rfl ⟨0, hE.symm, rfl, .inr ⟨rfl, ws, m, hws, hm, rfl⟩⟩))
end Go.Proofs.YtegkojnngdlfaaaGreat
end
