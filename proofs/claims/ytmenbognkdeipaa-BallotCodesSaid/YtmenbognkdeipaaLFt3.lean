/- The document's changes laid. Conditions: on sizes. -/
import Derived.Test.YtmenbognkdeipaaLFt2
set_option maxRecDepth 100000
set_option maxHeartbeats 4000000
set_option linter.unusedSimpArgs false
set_option linter.unusedVariables false
namespace Go.Proofs.Ytmenbognkdeipaa
open Go Go.Lx
open Go.Sx (vcIf)

theorem rchgsRow_spec (l : List Chg) (hl : chks l = 0) (hf : ∀ c ∈ l, c.fit) (zs : List PV) (hzs : zs = cP l) (n : Nat) (xs : List PV) (hxl : xs.length = n) (hs : n + 200 * (l.length + 1) ≤ 140737488355328) :
    FnL Try.prog 71 [.vw 0 1 0 n none, .p (.sl zs)] [wrA xs] fun v own => ∃ (n' : Nat) (ys : List PV), ys = xs ++ bP (encCs l) ∧ n' = ys.length ∧ n' ≤ n + 200 * (l.length + 1) ∧ v = .vw 0 1 0 n' none ∧ own = [wrA ys] := by
  have hzl : zs.length = l.length := by rw [hzs, cP_length]
  obtain ⟨N, hN⟩ : ∃ N, N = l.length := ⟨_, rfl⟩
  have hencl : encCs l = enc N ++ l.flatMap encC := by rw [hN]; rfl
  rw [← hN] at hzl hs ⊢
  have hput0 := rput_spec xs n N hxl (by omega) (by omega)
  have hen0 := enc_len9 (show N < 9223372036854775808 by omega)
  refine fn_of_vc eOk fOk fo71 Try.func71 rfl rfl rfl fun B hB => ?_
  intro add sub mul quo rem band bor bxor bclr shl shr ieq ilt ile seq slt beq bnot orb bcond iwrap iof ssz hA cat sq sl imin imax smin smax len slen u8 hL op hop call hcall code hcode ret hret
  have hlen : len zs = Int.ofNat N := by rw [hL.len, hzl]; rfl
  cbv
  rw [hlen]
  refine hcall _ _ _ _ _ (CallEv.lend [0] hput0 rfl (.cons (.vw 0 0 1 0 n none rfl) (.cons (.p _) .nil)) ⟨⟨_, rfl, .arr _ _ _⟩, trivial⟩ ?_)
  rintro _ _ ⟨m0, us0, hm0, hus0, rfl, rfl⟩
  cbv
  refine hcode _ _ _ (CodeEv.loop eOk fOk (ι := Nat × Nat × List PV) (fun s => [(0, .vw 0 1 0 s.2.1 none), (1, .p (.sl zs)), (5, .p (.int .i64 (Int.ofNat s.1)))])
    (fun s => [wrA s.2.2]) (fun s => s.1 ≤ N ∧ s.2.2.length = s.2.1 ∧ s.2.1 ≤ n + 9 + 180 * s.1 ∧ s.2.2 = xs ++ bP (enc N ++ (l.take s.1).flatMap encC)) (fun s => N - s.1) (0, m0, us0) ?_ ?_)
  · exact ⟨⟨rfl, rfl, rfl, trivial⟩, rfl, Nat.zero_le _, by simp only; rw [hus0, List.length_append, bP_length]; omega, by simp only; omega, by simp [hus0]⟩
  rintro ⟨i, m, us⟩ ⟨h1, h2, h3, h5⟩ rd hrd
  simp only at h1 h2 h3 h5
  intro add1 sub1 mul1 quo1 rem1 band1 bor1 bxor1 bclr1 shl1 shr1 ieq1 ilt1 ile1 seq1 slt1 beq1 bnot1 orb1 bcond1 iwrap1 iof1 ssz1 hA1 cat1 sq1 sl1 imin1 imax1 smin1 smax1 len1 slen1 u81 hL1 op1 hop1 call1 hcall1 code1 hcode1
  have hadd1 : i < N → add1 .i64 (Int.ofNat i) 1 = Int.ofNat (i + 1) := fun _ => by rw [hA1.add, IntWalk.i64_in _ (by simp only [Int.ofNat_eq_natCast]; omega)]; rfl
  cbv
  by_cases hi : i < N
  · obtain ⟨c, hc⟩ := get_of_lt (show i < l.length by omega)
    have hcm := List.mem_of_getElem? hc
    have hzz : zs[i]? = some (.agg [.int .i64 c.kind, .str c.key, .str c.val]) := by rw [hzs]; exact cP_get hc
    have hck := chk_ok (chks_mem hl c hcm)
    have hcf := hf c hcm
    have htk : l.take (i + 1) = l.take i ++ [c] := by rw [List.take_add_one, hc]; rfl
    have hce : xs ++ bP (enc N ++ (l.take (i + 1)).flatMap encC) = us ++ bP (enc c.kind.toNat ++ (enct c.key ++ enct c.val)) := by
      rw [htk, h5, List.flatMap_append, ← List.append_assoc, bP_append (enc N ++ List.flatMap encC (List.take i l)), List.append_assoc]; simp [encC]
    obtain ⟨k, ky, vl⟩ := c
    simp only at hzz hck hce
    obtain ⟨y, hy⟩ : ∃ y : Nat, k = Int.ofNat y := ⟨k.toNat, by simp only [Int.ofNat_eq_natCast]; omega⟩
    subst hy
    have hyl : y ≤ 3 := by simp only [Int.ofNat_eq_natCast] at hck; omega
    have hput := rput_spec us m y h2 (by omega) (by omega)
    have hen := enc_len9 (show y < 9223372036854775808 by omega)
    have ht1 : ∀ (m1 : Nat) (us1 : List PV), m1 ≤ m + 9 → us1.length = m1 → _ := fun m1 us1 w1 w2 => rputText_spec ky m1 us1 w2 (by omega)
    have ht2 : ∀ (m1 : Nat) (us1 : List PV), m1 ≤ m + 35 → us1.length = m1 → _ := fun m1 us1 w1 w2 => rputText_spec vl m1 us1 w2 (by omega)
    refine vcIf.yes (by first | (simp [hA1.not, hA1.eq, hA1.lt, hA1.le, hA1.cond, hA1.beq, hA1.orb, hL1.len, hL1.slen, hL1.sq, hi, hzl]; done) | (simp only [hi, hzl]; simp [hA1.not, hA1.eq, hA1.lt, hA1.le, hA1.cond, hA1.beq, hA1.orb, hL1.len, hL1.slen, hL1.sq, hi, hzl]; done) | (simp [hA1.not, hA1.eq, hA1.lt, hA1.le, hA1.cond, hA1.beq, hA1.orb, hL1.len, hL1.slen, hL1.sq, hi, hzl]; omega) | (simp only [hi, hzl]; simp [hA1.not, hA1.eq, hA1.lt, hA1.le, hA1.cond, hA1.beq, hA1.orb, hL1.len, hL1.slen, hL1.sq, hi, hzl]; omega)) ?_
    cbv
    refine hcode1 _ _ _ (CodeEv.drawT eOk fOk (by kernel_rfl) (Xof 3 [0]) (.rd 0 (.rd 1 (.rd 2 (.rd 3 (.rd 4 (.rd 5 (.rd 7 (.rd 8 (.rd 9 (.rd 10 (.rd 11 (.rd 13 (.rd 14 (.rd 15 (.rd 16 (.rd 17 (.acts (.cons 6 (.acts (.cons 12 (.acts (.cons 18 (.so 19 (.done)) (.nil))) (.nil))) (.nil))))))))))))))))))) (by kernel_rfl) (by kernel_rfl) ?_)
    intro add2 sub2 mul2 quo2 rem2 band2 bor2 bxor2 bclr2 shl2 shr2 ieq2 ilt2 ile2 seq2 slt2 beq2 bnot2 orb2 bcond2 iwrap2 iof2 ssz2 hA2 cat2 sq2 sl2 imin2 imax2 smin2 smax2 len2 slen2 u82 hL2 op2 hop2 call2 hcall2 code2 hcode2 q2 hq2
    cbv
    refine ⟨i, _, rfl, hzz, rfl, ?_⟩
    cbv
    refine ⟨i, _, rfl, hzz, rfl, ?_⟩
    cbv
    refine ⟨i, _, rfl, hzz, rfl, ?_⟩
    cbv
    refine hcall2 _ _ _ _ _ (CallEv.lend [0] hput rfl (.cons (.vw 0 0 1 0 m none rfl) (.cons (.p _) .nil)) ⟨⟨_, rfl, .arr _ _ _⟩, trivial⟩ ?_)
    rintro _ _ ⟨m1, us1, hm1, hus1, rfl, rfl⟩
    have ht1' := ht1 m1 us1 (by omega) (by rw [hus1, List.length_append, bP_length]; omega)
    cbv
    refine hcall2 _ _ _ _ _ (CallEv.lend [0] ht1' rfl (.cons (.vw 0 0 1 0 m1 none rfl) (.cons (.p _) .nil)) ⟨⟨_, rfl, .arr _ _ _⟩, trivial⟩ ?_)
    rintro _ _ ⟨m2, us2, hus2, hm2, hb2, rfl, rfl⟩
    have ht2' := ht2 m2 us2 (by omega) hm2.symm
    cbv
    refine hcall2 _ _ _ _ _ (CallEv.lend [0] ht2' rfl (.cons (.vw 0 0 1 0 m2 none rfl) (.cons (.p _) .nil)) ⟨⟨_, rfl, .arr _ _ _⟩, trivial⟩ ?_)
    rintro _ _ ⟨m3, us3, hus3, hm3, hb3, rfl, rfl⟩
    cbv
    refine hq2 _ ?_
    cbv
    refine hrd _ ⟨(i + 1, m3, us3), [], ?_, ⟨hi, hm3.symm, ?_, ?_⟩, rfl, ⟨rfl, rfl, ?_, trivial⟩, rfl, rfl, rfl, ?_⟩
    · simp only; omega
    · simp only; omega
    · simp only; rw [hce, hus3, hus2, hus1]; simp [bP_append]
    · show some (V.p (.int .i64 _)) = _
      rw [hadd1 hi]
    · rw [hB]; exact Nat.le_refl _
  · refine vcIf.no (by first | (simp [hA1.not, hA1.eq, hA1.lt, hA1.le, hA1.cond, hA1.beq, hA1.orb, hL1.len, hL1.slen, hL1.sq, hi, hzl]; done) | (simp only [hi, hzl]; simp [hA1.not, hA1.eq, hA1.lt, hA1.le, hA1.cond, hA1.beq, hA1.orb, hL1.len, hL1.slen, hL1.sq, hi, hzl]; done) | (simp [hA1.not, hA1.eq, hA1.lt, hA1.le, hA1.cond, hA1.beq, hA1.orb, hL1.len, hL1.slen, hL1.sq, hi, hzl]; omega) | (simp only [hi, hzl]; simp [hA1.not, hA1.eq, hA1.lt, hA1.le, hA1.cond, hA1.beq, hA1.orb, hL1.len, hL1.slen, hL1.sq, hi, hzl]; omega)) ?_
    cbv
    rw [List.take_of_length_le (by omega)] at h5
    refine hret _ (RetEv.ret eOk rfl ⟨m, us, by rw [h5, hencl], h2.symm, by omega, rfl, rfl⟩)
end Go.Proofs.Ytmenbognkdeipaa
