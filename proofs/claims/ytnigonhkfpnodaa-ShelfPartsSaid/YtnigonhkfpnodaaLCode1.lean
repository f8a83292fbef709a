/- What package code's functions do: put, PutNum, Num, and the document's answers. Conditions: on sizes. -/
import Derived.Test.YtnigonhkfpnodaaLEnv
set_option maxRecDepth 100000
set_option maxHeartbeats 4000000
set_option linter.unusedSimpArgs false
set_option linter.unusedVariables false
namespace Go.Proofs.Ytnigonhkfpnodaa
open Go Go.Lx
open Go.Sx (vcIf)

theorem put_spec (xs : List PV) (m x : Nat) (hm : xs.length = m) (hx : x < 9223372036854775808) (hs : m + 10 ≤ 140737488355328) :
    FnL Try.prog 98 [.vw 0 1 0 m none, .p (.int .i64 (x : Int))] [.arr 5 1 xs] fun z own => ∃ m' ys, m' = m + (enc x).length ∧ ys = xs ++ bP (enc x) ∧ z = .vw 0 1 0 m' none ∧ own = [.arr 5 1 ys] := by
  refine fn_of_vc eOk fOk fo98 Try.func98 rfl rfl rfl fun B hB => ?_
  intro add sub mul quo rem band bor bxor bclr shl shr ieq ilt ile seq slt beq bnot orb bcond iwrap iof ssz hA cat sq sl imin imax smin smax len slen u8 hL op hop call hcall code hcode ret hret
  cbv
  refine hcode _ _ _ (CodeEv.loop eOk fOk (ι := Nat × Nat × List PV) (fun i => [(0, .vw 0 1 0 i.1 none), (1, .p (.int .i64 (Int.ofNat i.2.1)))]) (fun i => [.arr 5 1 i.2.2])
    (fun i => ∃ pre, enc x = pre ++ enc i.2.1 ∧ i.1 = m + pre.length ∧ i.2.2 = xs ++ bP pre ∧ i.2.1 < 9223372036854775808 ∧ pre.length + (enc i.2.1).length ≤ 10) (fun i => i.2.1) (m, x, xs) ?_ ?_)
  · exact ⟨⟨rfl, rfl, trivial⟩, rfl, [], rfl, rfl, by simp [bP], hx, by have := enc_len9 hx; simp; omega⟩
  rintro ⟨n, y, ys⟩ ⟨pre, h1, h2, h3, h4, h5⟩ rd hrd
  simp only at h1 h2 h3 h4 h5
  have hyl : ys.length = n := by rw [h3, h2]; simp [bP_length, hm]
  have hpos := enc_pos y
  intro add1 sub1 mul1 quo1 rem1 band1 bor1 bxor1 bclr1 shl1 shr1 ieq1 ilt1 ile1 seq1 slt1 beq1 bnot1 orb1 bcond1 iwrap1 iof1 ssz1 hA1 cat1 sq1 sl1 imin1 imax1 smin1 smax1 len1 slen1 u81 hL1 op1 hop1 call1 hcall1 code1 hcode1
  cbv
  by_cases hy : y < 128
  · refine vcIf.no (by rw [hA1.le]; simp; omega) ?_
    cbv
    refine ⟨false, ?_⟩
    cbv
    refine .inl ⟨(), rfl, hyl.symm, Wf.one (PV.wf1 rfl), ?_, ?_, ?_⟩
    · show n + 1 ≤ maxLen
      unfold maxLen; omega
    · show (n + 1) * 1 ≤ _
      omega
    intro zs n' hz hn'
    simp only [Sq.get] at hz hn'
    cbv
    refine hret _ (RetEv.ret eOk rfl ⟨n', zs, ?_, ?_, rfl, rfl⟩)
    · rw [hn', h1, enc_lo hy, h2]; simp; omega
    · rw [hz, h1, enc_lo hy, h3, hA.wrap, wrap_u8, bP_append]
      simp [bP]
  · refine vcIf.yes (by rw [hA1.le]; simp; omega) ?_
    have hpos2 := enc_pos (y / 128)
    rw [enc_hi hy] at h1 h5
    simp only [List.length_cons] at h5
    cbv
    refine ⟨false, ?_⟩
    cbv
    refine .inl ⟨(), rfl, hyl.symm, Wf.one (PV.wf1 rfl), ?_, ?_, ?_⟩
    · show n + 1 ≤ maxLen
      unfold maxLen; omega
    · show (n + 1) * 1 ≤ _
      omega
    intro zs n' hz hn'
    simp only [Sq.get] at hz hn'
    cbv
    refine hrd _ ⟨(n', y / 128, zs), [], ?_, ⟨pre ++ [UInt8.ofNat (y % 128 + 128)], ?_, ?_, ?_, ?_, ?_⟩, rfl, ⟨rfl, ?_, trivial⟩, rfl, rfl, rfl, ?_⟩
    · simp only; omega
    · simp only [h1]; simp
    · rw [hn', h2]; simp; omega
    · rw [hz, h3, hA1.or, hA1.wrap, wrap_u8, bP_append, or128 (y % 256) (by omega)]
      simp [bP]; omega
    · simp only; omega
    · simp; omega
    · show some (V.p (.int .i64 (shr1 .i64 (Int.ofNat y) 7))) = some (V.p (.int .i64 ((y / 128 : Nat) : Int)))
      rw [hA1.shr, shr7]
    · rw [hB]; exact Nat.le_refl _
end Go.Proofs.Ytnigonhkfpnodaa
