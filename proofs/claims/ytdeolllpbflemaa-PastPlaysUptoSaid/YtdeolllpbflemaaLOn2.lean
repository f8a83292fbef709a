/- slices.Delete of pairs, in their own row. Conditions: on sizes. -/
import Derived.Test.YtdeolllpbflemaaLOn1
import Derived.Test.YtdeolllpbflemaaLY8
set_option maxRecDepth 100000
set_option maxHeartbeats 8000000
set_option linter.unusedSimpArgs false
set_option linter.unusedVariables false
namespace Go.Proofs.Ytdeolllpbflemaa
open Go Go.Lx
open Go.Sx (vcIf)

theorem del_list (xs ys ws zs : List PV) (K n i j n1 : Nat) (hK : xs.length = K) (hn : n ≤ K) (hij : i ≤ j) (hjn : j ≤ n) (hw : Wf 2 xs) (z0 : PV) (hz0 : z0.wf 2)
    (hy : ys = (xs.drop j).take (n - j)) (h1 : n1 = i + ys.length) (hws : ws = xs.take i ++ (ys ++ xs.drop (i + ys.length))) (m : Nat) (hm : m = n - n1) (hzs : zs = ws.take n1 ++ (List.replicate m z0 ++ ws.drop (n1 + m))) :
    n1 = n - (j - i) ∧ n1 ≤ n ∧ ws.length = K ∧ zs.length = K ∧ Wf 2 zs ∧ zs.take n1 = xs.take i ++ (xs.drop j).take (n - j) := by
  have hyl : ys.length = n - j := by rw [hy]; simp; omega
  have hwl : ws.length = K := by rw [hws]; simp; omega
  have hww : Wf 2 ws := by rw [hws, hy]; exact hw.take.append (hw.drop.take.append hw.drop)
  have hn1 : n1 = n - (j - i) := by omega
  refine ⟨hn1, by omega, hwl, by rw [hzs]; simp; omega, ?_, ?_⟩
  · rw [hzs]
    exact hww.take.append (Wf.append (fun x hx => by rw [List.eq_of_mem_replicate hx]; exact hz0) hww.drop)
  · rw [hzs, List.take_append_of_le_length (by simp; omega), List.take_take, Nat.min_self, hws, ← List.append_assoc, List.take_append_of_le_length (by simp; omega), List.take_of_length_le (by simp; omega), hy]

theorem delP_spec (xs : List PV) (K n i j : Nat) (hK : xs.length = K) (hn : n ≤ K) (hij : i ≤ j) (hjn : j ≤ n) (hw : Wf 2 xs) (hs : n < 281474976710656) :
    FnL Try.prog 59 [.vw 0 2 0 n (some K), .p (.int .i64 (Int.ofNat i)), .p (.int .i64 (Int.ofNat j))] [.arr 45 2 xs]
      fun v own => ∃ n' xs', v = .vw 0 2 0 n' (some K) ∧ own = [.arr 45 2 xs'] ∧ n' = n - (j - i) ∧ xs'.length = K ∧ Wf 2 xs' ∧ xs'.take n' = xs.take i ++ (xs.drop j).take (n - j) := by
  have hsame : i = j → xs.take n = xs.take i ++ (xs.drop j).take (n - j) := fun h => by
    subst h
    rw [← List.take_add]
    congr 1; omega
  refine fn_of_vc eOk fOk fo59 Try.func59 rfl rfl rfl fun B hB => ?_
  intro add sub mul quo rem band bor bxor bclr shl shr ieq ilt ile seq slt beq bnot orb bcond iwrap iof ssz hA cat sq sl imin imax smin smax len slen u8 hL op hop call hcall code hcode ret hret
  cbv
  refine ⟨i, j, n, rfl, rfl, hA.ofNat n, hij, hjn, by omega, (fun c h => by cases h; omega), fun o1 n1 c1 ho1 hn1 hc1 => ?_⟩
  cbv
  by_cases he : i = j
  · have hsame := hsame he
    refine vcIf.yes (by rw [hA.eq]; exact decide_eq_true (by rw [he])) ?_
    cbv
    exact hret _ (RetEv.ret eOk rfl ⟨n, xs, rfl, rfl, by omega, hK, hw, hsame⟩)
  · refine vcIf.no (by rw [hA.eq]; exact decide_eq_false (fun c => he (Int.ofNat.inj c))) ?_
    cbv
    refine hcode _ _ _ (CodeEv.drawT eOk fOk (by kernel_rfl) (Xof 1 [0]) (.rd 0 (.rd 1 (.rd 2 (.rd 3 (.rd 4 (.rd 5 (.acts (.cons 6 (.so 7 .done) .nil)))))))) (by kernel_rfl) (by kernel_rfl) ?_)
    intro add2 sub2 mul2 quo2 rem2 band2 bor2 bxor2 bclr2 shl2 shr2 ieq2 ilt2 ile2 seq2 slt2 beq2 bnot2 orb2 bcond2 iwrap2 iof2 ssz2 hA2 cat2 sq2 sl2 imin2 imax2 smin2 smax2 len2 slen2 u82 hL2 op2 hop2 call2 hcall2 code2 hcode2 q2 hq2
    cbv
    refine ⟨0, i, rfl, rfl, Nat.zero_le _, by omega, (fun c h => by cases h; omega), fun o2 n2 ho2 hn2 => ?_⟩
    obtain rfl : 0 = o2 := by omega
    obtain rfl : i = n2 := by omega
    cbv
    refine ⟨j, n, rfl, rfl, hjn, by omega, (fun c h => by cases h; omega), fun o3 n3 ho3 hn3 => ?_⟩
    obtain rfl : j = o3 := by omega
    cbv
    refine Exists.elim (show ∃ ys, ys = (xs.drop j).take n3 from ⟨_, rfl⟩) fun ys hys => ?_
    refine hop2 _ _ _ _ (OpEv.appendIn eOk (ys := ys) rfl rfl rfl rfl rfl rfl rfl rfl rfl rfl (by rw [hys]; rfl) (by rw [hys]; exact hw.drop.take) ?_ ?_ fun m1 ws hm1 hws => ?_)
    · rw [hys]; simp; omega
    · omega
    have hyl : ys.length = n - j := by rw [hys]; simp; omega
    have hwl : ws.length = K := by rw [hws]; simp; omega
    cbv
    refine hq2 _ ?_
    cbv
    refine ⟨m1, n, hA.ofNat m1, hA.ofNat n, by omega, by omega, (fun c h => by cases h; omega), fun o4 n4 ho4 hn4 => ?_⟩
    obtain rfl : m1 = o4 := by omega
    cbv
    refine hop _ _ _ _ (OpEv.clear eOk rfl rfl rfl rfl rfl rfl rfl (Pr.wf ⟨[], []⟩) rfl rfl rfl fun zs hzs => ?_)
    have key := del_list xs ys ws zs K n i j m1 hK hn hij hjn hw _ (Pr.wf ⟨[], []⟩) (by rw [hys, hn3]) hm1 (by rw [hws]; simp) n4 hn4 hzs
    obtain ⟨g1, g2, g3, g4, g5, g6⟩ := key
    cbv
    exact hret _ (RetEv.ret eOk rfl ⟨m1, zs, rfl, rfl, g1, g4, g5, g6⟩)
end Go.Proofs.Ytdeolllpbflemaa
