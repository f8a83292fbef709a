/- Lists of numbers: laid, split; the document's answers. Conditions: on sizes. -/
import Derived.Test.YtnigonhkfpnodaaLCode5
set_option maxRecDepth 100000
set_option maxHeartbeats 4000000
set_option linter.unusedSimpArgs false
set_option linter.unusedVariables false
namespace Go.Proofs.Ytnigonhkfpnodaa
open Go Go.Lx
open Go.Sx (vcIf)

theorem ints_spec (l l' : List Int) (hn : l.length < 9223372036854775807) :
    FnL Try.prog 41 [.p (.sl (iP l)), .p (.sl (iP l'))] [] fun z own => z = .p (.bool (decide (l = l'))) ∧ own = [] := by
  obtain ⟨xs, hxs⟩ : ∃ xs, xs = iP l := ⟨_, rfl⟩
  obtain ⟨ys, hys⟩ : ∃ ys, ys = iP l' := ⟨_, rfl⟩
  have hx : ∀ (i : Nat) (z : Int), l[i]? = some z → xs[i]? = some (.int .i64 z) := fun i z h => by rw [hxs]; exact iP_get h
  have hy : ∀ (i : Nat) (z : Int), l'[i]? = some z → ys[i]? = some (.int .i64 z) := fun i z h => by rw [hys]; exact iP_get h
  have hlx : xs.length = l.length := by rw [hxs, iP_length]
  have hly : ys.length = l'.length := by rw [hys, iP_length]
  rw [← hxs, ← hys]
  refine fn_of_vc eOk fOk fo41 Try.func41 rfl rfl rfl fun B hB => ?_
  intro add sub mul quo rem band bor bxor bclr shl shr ieq ilt ile seq slt beq bnot orb bcond iwrap iof ssz hA cat sq sl imin imax smin smax len slen u8 hL op hop call hcall code hcode ret hret
  cbv
  by_cases hnn : l.length = l'.length
  · refine vcIf.no (by simp [hA.not, hA.eq, hL.len, hlx, hly, hnn]) ?_
    cbv
    refine hcode _ _ _ (CodeEv.loop eOk fOk (ι := Nat) (fun i => [(0, .p (.sl xs)), (1, .p (.sl ys)), (5, .p (.int .i64 (Int.ofNat i)))]) (fun i => []) (fun i => i ≤ l.length ∧ l.take i = l'.take i) (fun i => l.length - i) 0 ?_ ?_)
    · exact ⟨⟨rfl, rfl, rfl, trivial⟩, rfl, Nat.zero_le _, rfl⟩
    rintro k ⟨h1, h2⟩ rd hrd
    intro add1 sub1 mul1 quo1 rem1 band1 bor1 bxor1 bclr1 shl1 shr1 ieq1 ilt1 ile1 seq1 slt1 beq1 bnot1 orb1 bcond1 iwrap1 iof1 ssz1 hA1 cat1 sq1 sl1 imin1 imax1 smin1 smax1 len1 slen1 u81 hL1 op1 hop1 call1 hcall1 code1 hcode1
    cbv
    by_cases hk : k < l.length
    · refine vcIf.yes (by rw [hA1.lt, hL1.len, hlx]; exact dlt hk) ?_
      cbv
      refine hcode1 _ _ _ (CodeEv.drawA eOk fOk (by kernel_rfl) noX (by kernel_rfl) (by kernel_rfl) (by kernel_rfl) ?_)
      intro add2 sub2 mul2 quo2 rem2 band2 bor2 bxor2 bclr2 shl2 shr2 ieq2 ilt2 ile2 seq2 slt2 beq2 bnot2 orb2 bcond2 iwrap2 iof2 ssz2 hA2 cat2 sq2 sl2 imin2 imax2 smin2 smax2 len2 slen2 u82 hL2 op2 hop2 call2 hcall2 code2 hcode2 q2 hq2
      cbv
      obtain ⟨x, ex⟩ := get_of_lt hk
      obtain ⟨y, ey⟩ := get_of_lt (show k < l'.length by omega)
      refine ⟨k, .int .i64 x, rfl, hx k x ex, rfl, ?_⟩
      cbv
      refine ⟨k, .int .i64 y, rfl, hy k y ey, rfl, ?_⟩
      cbv
      refine hq2 _ ?_
      cbv
      have ht : (l.take (k + 1) = l'.take (k + 1)) ↔ x = y := by
        rw [List.take_add_one, List.take_add_one, ex, ey, h2]; simp
      by_cases hxy : x = y
      · refine vcIf.no (by simp [hA2.not, hA2.eq, hxy]) ?_
        cbv
        refine hrd _ ⟨k + 1, [], ?_, ⟨by omega, ht.2 hxy⟩, rfl, ⟨rfl, rfl, ?_, trivial⟩, rfl, rfl, rfl, ?_⟩
        · show l.length - (k + 1) < l.length - k
          omega
        · show some (V.p (.int .i64 (add1 .i64 (Int.ofNat k) 1))) = _
          rw [hA1.add, IntWalk.i64_in _ (by simp only [Int.ofNat_eq_natCast]; omega)]; rfl
        · rw [hB]; exact Nat.le_refl _
      · refine vcIf.yes (by simp [hA2.not, hA2.eq, hxy]) ?_
        cbv
        refine hret _ (RetEv.ret eOk rfl ⟨?_, rfl⟩)
        show V.p (.bool false) = _
        have : l ≠ l' := fun h => hxy (ht.1 (by rw [h]))
        simp [this]
    · refine vcIf.no (by rw [hA1.lt, hL1.len, hlx]; exact dlt' hk) ?_
      cbv
      refine hret _ (RetEv.ret eOk rfl ⟨?_, rfl⟩)
      show V.p (.bool true) = _
      have : l = l' := by
        have e := h2
        rwa [List.take_of_length_le (by omega), List.take_of_length_le (by omega)] at e
      simp [this]
  · refine vcIf.yes (by simp [hA.not, hA.eq, hL.len, hlx, hly, hnn]; omega) ?_
    cbv
    refine hret _ (RetEv.ret eOk rfl ⟨?_, rfl⟩)
    show V.p (.bool false) = _
    have : l ≠ l' := fun h => hnn (by rw [h])
    simp [this]

/-- So many numbers, that bytes are: the error, or all of them. -/
def spl (l : List UInt8) (c : Int) : List Int × Nat :=
  if c < 0 ∨ 4096 < c then ([], 1) else
  match rdNs c.toNat l 0 with
  | (ns, l', e) => if e ≠ 0 then ([], e) else if l' ≠ [] then ([], 2) else (ns, 0)
def splR (r : List Int × Nat) (z : V) (own : List Res) : Prop := ∃ (ns : List Int) (zs : List PV) (e : Nat), (ns, e) = r ∧ zs = iP ns ∧ (z = .p (.tup [.sl zs, .int .i64 (e : Int)]) ∨ (zs = [] ∧ z = .p (.tup [.nils, .int .i64 (e : Int)])))

end Go.Proofs.Ytnigonhkfpnodaa
