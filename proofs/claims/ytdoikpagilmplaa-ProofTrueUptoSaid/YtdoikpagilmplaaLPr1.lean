/- Ledgers: sound or not; the document's too. Conditions: on sizes. -/
import Derived.Test.YtdoikpagilmplaaLCh1
set_option maxRecDepth 100000
set_option maxHeartbeats 8000000
set_option linter.unusedSimpArgs false
set_option linter.unusedVariables false
namespace Go.Proofs.Ytdoikpagilmplaa
open Go Go.Lx
open Go.Sx (vcIf)

structure Bt where
  prev : Int
  ver : Int
  known : Int
  ch : List Chg
def Bt.v (b : Bt) : PV := .agg [.int .i64 b.prev, .int .i64 b.ver, .int .i64 b.known, .sl (cP b.ch)]
def btP (l : List Bt) : List PV := l.map Bt.v
theorem btP_length (l : List Bt) : (btP l).length = l.length := List.length_map _
theorem btP_get {l : List Bt} {i : Nat} {b : Bt} (h : l[i]? = some b) : (btP l)[i]? = some (.agg [.int .i64 b.prev, .int .i64 b.ver, .int .i64 b.known, .sl (cP b.ch)]) := by unfold btP; rw [List.getElem?_map, h]; rfl
theorem Bt.wf (b : Bt) : b.v.wf 4 := ⟨rfl, fun u hu => by simp [Bt.v, PV.cells] at hu; rcases hu with rfl | rfl | rfl | rfl <;> rfl⟩
def Bt.fit (b : Bt) : Prop := (∀ c ∈ b.ch, c.fit) ∧ b.ch.length < 9223372036854775807 ∧ -9223372036854775808 ≤ b.ver ∧ b.ver ≤ 9223372036854775807
/-- A batch that stands where it may. -/
def bgood (l : List Bt) (j : Nat) : Prop := ∀ b, l[j]? = some b → 0 ≤ b.ver ∧ chks b.ch = 0 ∧ ∀ a, 0 < j → l[j - 1]? = some a → a.ver < b.ver
def lsnd (l : List Bt) : Prop := ∀ j, j < l.length → bgood l j
theorem lsnd_next {l : List Bt} {i : Nat} (h : ∀ q, q < i → bgood l q) (hi : bgood l i) : ∀ q, q < i + 1 → bgood l q := fun q hq => by
  rcases Nat.lt_succ_iff_lt_or_eq.1 hq with c | c
  · exact h q c
  · rw [c]; exact hi

theorem check22_spec (l : List Bt) (hl : l.length < 281474976710656) (hf : ∀ b ∈ l, b.fit) (zs : List PV) (hzs : zs = btP l) :
    FnL Try.prog 26 [.p (.sl zs)] [] fun v own => ∃ e : Int, ((e = 0 ∧ lsnd l) ∨ (e = 2 ∧ ¬ lsnd l)) ∧ v = .p (.int .i64 e) ∧ own = [] := by
  have hzl : zs.length = l.length := by rw [hzs, btP_length]
  obtain ⟨N, hN⟩ : ∃ N, N = l.length := ⟨_, rfl⟩
  rw [← hN] at hzl hl
  refine FnL.flat (R := fun v own => ∃ e : Int, ((e = 0 ∧ lsnd l) ∨ (e = 2 ∧ ¬ lsnd l)) ∧ v = .p (.int .i64 e)) ?_ (by rintro _ _ ⟨b, h, rfl⟩; exact ⟨_, _, rfl, .refl _, b, h, rfl, rfl⟩)
  refine fn_of_vc eOk fOk fo26 Try.func26 rfl rfl rfl fun B hB => ?_
  intro add sub mul quo rem band bor bxor bclr shl shr ieq ilt ile seq slt beq bnot orb bcond iwrap iof ssz hA cat sq sl imin imax smin smax len slen u8 hL op hop call hcall code hcode ret hret
  have hlen : len zs = Int.ofNat N := by rw [hL.len, hzl]; rfl
  cbv
  rw [hlen]
  refine hcode _ _ _ (CodeEv.loop eOk fOk (ι := Nat) (fun s => [(0, .p (.sl zs)), (5, .p (.sl zs)), (6, .p (.int .i64 (Int.ofNat N))), (7, .p (.int .i64 (Int.ofNat s)))])
    (fun s => []) (fun s => s ≤ N ∧ ∀ q, q < s → bgood l q) (fun s => N - s) 0 ?_ ?_)
  · exact ⟨(by repeat (first | exact trivial | refine And.intro rfl ?_)), rfl, Nat.zero_le _, fun q h => absurd h (Nat.not_lt_zero q)⟩
  rintro i ⟨k1, k2⟩ rd hrd
  by_cases hi : i < N
  · refine Exists.elim (get_of_lt (show i < l.length by omega)) fun b hb => ?_
    have hbf := hf b (List.mem_of_getElem? hb)
    have bad : ¬ (0 ≤ b.ver ∧ chks b.ch = 0 ∧ ∀ a, 0 < i → l[i - 1]? = some a → a.ver < b.ver) → ¬ lsnd l := fun h c => h (c i (by omega) b hb)
    have good : (0 ≤ b.ver ∧ chks b.ch = 0 ∧ ∀ a, 0 < i → l[i - 1]? = some a → a.ver < b.ver) → bgood l i := fun h b' hb' => by rw [hb] at hb'; cases hb'; exact h
    have hzi : zs[i]? = some (.agg [.int .i64 b.prev, .int .i64 b.ver, .int .i64 b.known, .sl (cP b.ch)]) := by rw [hzs]; exact btP_get hb
    obtain ⟨bp, bv, bk, bc⟩ := b
    simp only at hzi bad good
    have hall := all_spec bc hbf.2.1 (cP bc) rfl
    refine Exists.elim (show ∃ cs, cs = cP bc from ⟨_, rfl⟩) fun cs hcs => ?_
    rw [← hcs] at hzi hall
    intro add1 sub1 mul1 quo1 rem1 band1 bor1 bxor1 bclr1 shl1 shr1 ieq1 ilt1 ile1 seq1 slt1 beq1 bnot1 orb1 bcond1 iwrap1 iof1 ssz1 hA1 cat1 sq1 sl1 imin1 imax1 smin1 smax1 len1 slen1 u81 hL1 op1 hop1 call1 hcall1 code1 hcode1
    have hadd1 : add1 .i64 (Int.ofNat i) 1 = Int.ofNat (i + 1) := by rw [hA1.add, IntWalk.i64_in _ (by simp only [Int.ofNat_eq_natCast]; omega)]; rfl
    cbv
    refine vcIf.yes (by first | (simp [hA1.not, hA1.eq, hA1.lt, hA1.le, hA1.cond, hA1.beq, hA1.orb, hL1.len, hL1.slen, hL1.sq, hi]; done) | (simp only [hi]; simp [hA1.not, hA1.eq, hA1.lt, hA1.le, hA1.cond, hA1.beq, hA1.orb, hL1.len, hL1.slen, hL1.sq, hi]; done) | (simp [hA1.not, hA1.eq, hA1.lt, hA1.le, hA1.cond, hA1.beq, hA1.orb, hL1.len, hL1.slen, hL1.sq, hi]; omega) | (simp only [hi]; simp [hA1.not, hA1.eq, hA1.lt, hA1.le, hA1.cond, hA1.beq, hA1.orb, hL1.len, hL1.slen, hL1.sq, hi]; omega)) ?_
    cbv
    refine ⟨i, _, rfl, hzi, rfl, ?_⟩
    cbv
    refine hcode1 _ _ _ (CodeEv.drawT eOk fOk (by kernel_rfl) noX (.so 0 (.so 1 (.so 2 (.so 3 (.so 4 (.so 5 (.acts (.cons 6 (.so 7 (.so 8 (.so 9 (.so 10 (.so 11 (.so 12 (.rd 13 (.rd 14 (.rd 15 (.so 16 (.so 17 (.so 18 (.so 19 (.so 20 (.so 21 (.so 22 (.so 23 (.done)))))))))))))))))) (.nil))))))))) (by kernel_rfl) (by kernel_rfl) ?_)
    intro add2 sub2 mul2 quo2 rem2 band2 bor2 bxor2 bclr2 shl2 shr2 ieq2 ilt2 ile2 seq2 slt2 beq2 bnot2 orb2 bcond2 iwrap2 iof2 ssz2 hA2 cat2 sq2 sl2 imin2 imax2 smin2 smax2 len2 slen2 u82 hL2 op2 hop2 call2 hcall2 code2 hcode2 q2 hq2
    cbv
    by_cases h0 : bv < 0
    · have hf := bad (fun c => by omega)
      refine vcIf.yes (by first | (simp [hA2.not, hA2.eq, hA2.lt, hA2.le, hA2.cond, hA2.beq, hA2.orb, hL2.len, hL2.slen, hL2.sq, h0]; done) | (simp only [h0]; simp [hA2.not, hA2.eq, hA2.lt, hA2.le, hA2.cond, hA2.beq, hA2.orb, hL2.len, hL2.slen, hL2.sq, h0]; done) | (simp [hA2.not, hA2.eq, hA2.lt, hA2.le, hA2.cond, hA2.beq, hA2.orb, hL2.len, hL2.slen, hL2.sq, h0]; omega) | (simp only [h0]; simp [hA2.not, hA2.eq, hA2.lt, hA2.le, hA2.cond, hA2.beq, hA2.orb, hL2.len, hL2.slen, hL2.sq, h0]; omega)) ?_
      cbv
      refine hq2 _ ?_
      cbv
      exact hret _ (RetEv.ret eOk rfl ⟨2, .inr ⟨rfl, hf⟩, rfl⟩)
    refine vcIf.no (by first | (simp [hA2.not, hA2.eq, hA2.lt, hA2.le, hA2.cond, hA2.beq, hA2.orb, hL2.len, hL2.slen, hL2.sq, h0]; done) | (simp only [h0]; simp [hA2.not, hA2.eq, hA2.lt, hA2.le, hA2.cond, hA2.beq, hA2.orb, hL2.len, hL2.slen, hL2.sq, h0]; done) | (simp [hA2.not, hA2.eq, hA2.lt, hA2.le, hA2.cond, hA2.beq, hA2.orb, hL2.len, hL2.slen, hL2.sq, h0]; omega) | (simp only [h0]; simp [hA2.not, hA2.eq, hA2.lt, hA2.le, hA2.cond, hA2.beq, hA2.orb, hL2.len, hL2.slen, hL2.sq, h0]; omega)) ?_
    cbv
    refine hcall2 _ _ _ _ _ (CallEv.same hall rfl ?_)
    rintro _ _ ⟨e, he, rfl, rfl⟩
    cbv
    by_cases h1 : e = 0
    · refine vcIf.no (by first | (simp [hA2.not, hA2.eq, hA2.lt, hA2.le, hA2.cond, hA2.beq, hA2.orb, hL2.len, hL2.slen, hL2.sq, h1]; done) | (simp only [h1]; simp [hA2.not, hA2.eq, hA2.lt, hA2.le, hA2.cond, hA2.beq, hA2.orb, hL2.len, hL2.slen, hL2.sq, h1]; done) | (simp [hA2.not, hA2.eq, hA2.lt, hA2.le, hA2.cond, hA2.beq, hA2.orb, hL2.len, hL2.slen, hL2.sq, h1]; omega) | (simp only [h1]; simp [hA2.not, hA2.eq, hA2.lt, hA2.le, hA2.cond, hA2.beq, hA2.orb, hL2.len, hL2.slen, hL2.sq, h1]; omega)) ?_
      cbv
      by_cases hi0 : 0 < i
      · refine Exists.elim (get_of_lt (show i - 1 < l.length by omega)) fun a hai => ?_
        have hza : zs[i - 1]? = some (.agg [.int .i64 a.prev, .int .i64 a.ver, .int .i64 a.known, .sl (cP a.ch)]) := by rw [hzs]; exact btP_get hai
        have ha1 : ∀ c, 0 < i → l[i - 1]? = some c → c = a := fun c _ hc => Option.some.inj (hc.symm.trans hai)
        have good2 : a.ver < bv → bgood l i := fun h => good ⟨by omega, by omega, fun c q hc => by rw [ha1 c q hc]; exact h⟩
        have bad2 : ¬ a.ver < bv → ¬ lsnd l := fun h => bad fun c => h (c.2.2 a hi0 hai)
        obtain ⟨ap, av, ak, ac⟩ := a
        simp only at hza good2 bad2
        refine Exists.elim (show ∃ j, j = i - 1 from ⟨_, rfl⟩) fun j hj => ?_
        rw [← hj] at hza
        have hsub : sub2 .i64 (Int.ofNat i) 1 = Int.ofNat j := by rw [hA2.sub, IntWalk.i64_in _ (by simp only [Int.ofNat_eq_natCast]; omega), hj]; simp only [Int.ofNat_eq_natCast]; omega
        refine vcIf.yes (by first | (simp [hA2.not, hA2.eq, hA2.lt, hA2.le, hA2.cond, hA2.beq, hA2.orb, hL2.len, hL2.slen, hL2.sq, hi0]; done) | (simp only [hi0]; simp [hA2.not, hA2.eq, hA2.lt, hA2.le, hA2.cond, hA2.beq, hA2.orb, hL2.len, hL2.slen, hL2.sq, hi0]; done) | (simp [hA2.not, hA2.eq, hA2.lt, hA2.le, hA2.cond, hA2.beq, hA2.orb, hL2.len, hL2.slen, hL2.sq, hi0]; omega) | (simp only [hi0]; simp [hA2.not, hA2.eq, hA2.lt, hA2.le, hA2.cond, hA2.beq, hA2.orb, hL2.len, hL2.slen, hL2.sq, hi0]; omega)) ?_
        cbv
        refine ⟨j, _, hsub, hza, rfl, ?_⟩
        cbv
        refine hq2 _ ?_
        cbv
        by_cases hab : av < bv
        · have hgood := good2 hab
          have hba : ¬ bv ≤ av := by omega
          refine vcIf.no (by first | (simp [hA2.not, hA2.eq, hA2.lt, hA2.le, hA2.cond, hA2.beq, hA2.orb, hL2.len, hL2.slen, hL2.sq, cond, hba]; done) | (simp only [cond, hba]; simp [hA2.not, hA2.eq, hA2.lt, hA2.le, hA2.cond, hA2.beq, hA2.orb, hL2.len, hL2.slen, hL2.sq, cond, hba]; done) | (simp [hA2.not, hA2.eq, hA2.lt, hA2.le, hA2.cond, hA2.beq, hA2.orb, hL2.len, hL2.slen, hL2.sq, cond, hba]; omega) | (simp only [cond, hba]; simp [hA2.not, hA2.eq, hA2.lt, hA2.le, hA2.cond, hA2.beq, hA2.orb, hL2.len, hL2.slen, hL2.sq, cond, hba]; omega)) ?_
          cbv
          refine hrd _ ⟨i + 1, _, ?_, ⟨hi, lsnd_next k2 hgood⟩, rfl, ⟨rfl, rfl, rfl, ?_, trivial⟩, rfl, rfl, rfl, ?_⟩
          · show N - (i + 1) < N - i
            omega
          · show some (V.p (.int .i64 _)) = _
            rw [hadd1]
          · rw [hB]; exact Nat.zero_le _
        · have hf := bad2 hab
          have hba : bv ≤ av := by omega
          refine vcIf.yes (by first | (simp [hA2.not, hA2.eq, hA2.lt, hA2.le, hA2.cond, hA2.beq, hA2.orb, hL2.len, hL2.slen, hL2.sq, cond, hba]; done) | (simp only [cond, hba]; simp [hA2.not, hA2.eq, hA2.lt, hA2.le, hA2.cond, hA2.beq, hA2.orb, hL2.len, hL2.slen, hL2.sq, cond, hba]; done) | (simp [hA2.not, hA2.eq, hA2.lt, hA2.le, hA2.cond, hA2.beq, hA2.orb, hL2.len, hL2.slen, hL2.sq, cond, hba]; omega) | (simp only [cond, hba]; simp [hA2.not, hA2.eq, hA2.lt, hA2.le, hA2.cond, hA2.beq, hA2.orb, hL2.len, hL2.slen, hL2.sq, cond, hba]; omega)) ?_
          cbv
          exact hret _ (RetEv.ret eOk rfl ⟨2, .inr ⟨rfl, hf⟩, rfl⟩)
      · have hgood := good ⟨by omega, by omega, fun a h => absurd h hi0⟩
        refine vcIf.no (by first | (simp [hA2.not, hA2.eq, hA2.lt, hA2.le, hA2.cond, hA2.beq, hA2.orb, hL2.len, hL2.slen, hL2.sq, hi0]; done) | (simp only [hi0]; simp [hA2.not, hA2.eq, hA2.lt, hA2.le, hA2.cond, hA2.beq, hA2.orb, hL2.len, hL2.slen, hL2.sq, hi0]; done) | (simp [hA2.not, hA2.eq, hA2.lt, hA2.le, hA2.cond, hA2.beq, hA2.orb, hL2.len, hL2.slen, hL2.sq, hi0]; omega) | (simp only [hi0]; simp [hA2.not, hA2.eq, hA2.lt, hA2.le, hA2.cond, hA2.beq, hA2.orb, hL2.len, hL2.slen, hL2.sq, hi0]; omega)) ?_
        cbv
        refine hq2 _ ?_
        cbv
        refine vcIf.no (by first | (simp [hA2.not, hA2.eq, hA2.lt, hA2.le, hA2.cond, hA2.beq, hA2.orb, hL2.len, hL2.slen, hL2.sq, cond]; done) | (simp only [cond]; simp [hA2.not, hA2.eq, hA2.lt, hA2.le, hA2.cond, hA2.beq, hA2.orb, hL2.len, hL2.slen, hL2.sq, cond]; done) | (simp [hA2.not, hA2.eq, hA2.lt, hA2.le, hA2.cond, hA2.beq, hA2.orb, hL2.len, hL2.slen, hL2.sq, cond]; omega) | (simp only [cond]; simp [hA2.not, hA2.eq, hA2.lt, hA2.le, hA2.cond, hA2.beq, hA2.orb, hL2.len, hL2.slen, hL2.sq, cond]; omega)) ?_
        cbv
        refine hrd _ ⟨i + 1, _, ?_, ⟨hi, lsnd_next k2 hgood⟩, rfl, ⟨rfl, rfl, rfl, ?_, trivial⟩, rfl, rfl, rfl, ?_⟩
        · show N - (i + 1) < N - i
          omega
        · show some (V.p (.int .i64 _)) = _
          rw [hadd1]
        · rw [hB]; exact Nat.zero_le _
    · have hf := bad (fun c => by omega)
      refine vcIf.yes (by first | (simp [hA2.not, hA2.eq, hA2.lt, hA2.le, hA2.cond, hA2.beq, hA2.orb, hL2.len, hL2.slen, hL2.sq, h1]; done) | (simp only [h1]; simp [hA2.not, hA2.eq, hA2.lt, hA2.le, hA2.cond, hA2.beq, hA2.orb, hL2.len, hL2.slen, hL2.sq, h1]; done) | (simp [hA2.not, hA2.eq, hA2.lt, hA2.le, hA2.cond, hA2.beq, hA2.orb, hL2.len, hL2.slen, hL2.sq, h1]; omega) | (simp only [h1]; simp [hA2.not, hA2.eq, hA2.lt, hA2.le, hA2.cond, hA2.beq, hA2.orb, hL2.len, hL2.slen, hL2.sq, h1]; omega)) ?_
      cbv
      refine hq2 _ ?_
      cbv
      exact hret _ (RetEv.ret eOk rfl ⟨2, .inr ⟨rfl, hf⟩, rfl⟩)
  · intro add1 sub1 mul1 quo1 rem1 band1 bor1 bxor1 bclr1 shl1 shr1 ieq1 ilt1 ile1 seq1 slt1 beq1 bnot1 orb1 bcond1 iwrap1 iof1 ssz1 hA1 cat1 sq1 sl1 imin1 imax1 smin1 smax1 len1 slen1 u81 hL1 op1 hop1 call1 hcall1 code1 hcode1
    cbv
    refine vcIf.no (by first | (simp [hA1.not, hA1.eq, hA1.lt, hA1.le, hA1.cond, hA1.beq, hA1.orb, hL1.len, hL1.slen, hL1.sq, hi]; done) | (simp only [hi]; simp [hA1.not, hA1.eq, hA1.lt, hA1.le, hA1.cond, hA1.beq, hA1.orb, hL1.len, hL1.slen, hL1.sq, hi]; done) | (simp [hA1.not, hA1.eq, hA1.lt, hA1.le, hA1.cond, hA1.beq, hA1.orb, hL1.len, hL1.slen, hL1.sq, hi]; omega) | (simp only [hi]; simp [hA1.not, hA1.eq, hA1.lt, hA1.le, hA1.cond, hA1.beq, hA1.orb, hL1.len, hL1.slen, hL1.sq, hi]; omega)) ?_
    cbv
    exact hret _ (RetEv.ret eOk rfl ⟨0, .inl ⟨rfl, fun j hj => k2 j (by omega)⟩, rfl⟩)

theorem rsnd22_spec (l : List Bt) (hl : l.length < 281474976710656) (hf : ∀ b ∈ l, b.fit) (zs : List PV) (hzs : zs = btP l) :
    FnL Try.prog 12 [.p (.sl zs)] [] fun v own => ∃ R : Bool, (R = true ↔ lsnd l) ∧ v = .p (.bool R) ∧ own = [] := by
  have hzl : zs.length = l.length := by rw [hzs, btP_length]
  obtain ⟨N, hN⟩ : ∃ N, N = l.length := ⟨_, rfl⟩
  rw [← hN] at hzl hl
  refine FnL.flat (R := fun v own => ∃ R : Bool, (R = true ↔ lsnd l) ∧ v = .p (.bool R)) ?_ (by rintro _ _ ⟨b, h, rfl⟩; exact ⟨_, _, rfl, .refl _, b, h, rfl, rfl⟩)
  have hno : ¬ lsnd l → (false = true ↔ lsnd l) := fun h => ⟨fun c => (by cases c), fun c => absurd c h⟩
  refine fn_of_vc eOk fOk fo12 Try.func12 rfl rfl rfl fun B hB => ?_
  intro add sub mul quo rem band bor bxor bclr shl shr ieq ilt ile seq slt beq bnot orb bcond iwrap iof ssz hA cat sq sl imin imax smin smax len slen u8 hL op hop call hcall code hcode ret hret
  cbv
  refine hcode _ _ _ (CodeEv.loop eOk fOk (ι := Nat) (fun s => [(0, .p (.sl zs)), (3, .p (.int .i64 (Int.ofNat s)))])
    (fun s => []) (fun s => s ≤ N ∧ ∀ q, q < s → bgood l q) (fun s => N - s) 0 ?_ ?_)
  · exact ⟨(by repeat (first | exact trivial | refine And.intro rfl ?_)), rfl, Nat.zero_le _, fun q h => absurd h (Nat.not_lt_zero q)⟩
  rintro i ⟨k1, k2⟩ rd hrd
  by_cases hi : i < N
  · refine Exists.elim (get_of_lt (show i < l.length by omega)) fun b hb => ?_
    have hbf := hf b (List.mem_of_getElem? hb)
    have bad : ¬ (0 ≤ b.ver ∧ chks b.ch = 0 ∧ ∀ a, 0 < i → l[i - 1]? = some a → a.ver < b.ver) → (false = true ↔ lsnd l) := fun h => hno fun c => h (c i (by omega) b hb)
    have good : (0 ≤ b.ver ∧ chks b.ch = 0 ∧ ∀ a, 0 < i → l[i - 1]? = some a → a.ver < b.ver) → bgood l i := fun h b' hb' => by rw [hb] at hb'; cases hb'; exact h
    have hzi : zs[i]? = some (.agg [.int .i64 b.prev, .int .i64 b.ver, .int .i64 b.known, .sl (cP b.ch)]) := by rw [hzs]; exact btP_get hb
    obtain ⟨bp, bv, bk, bc⟩ := b
    simp only at hzi bad good
    have hall := rall_spec bc hbf.2.1 (cP bc) rfl
    refine Exists.elim (show ∃ cs, cs = cP bc from ⟨_, rfl⟩) fun cs hcs => ?_
    rw [← hcs] at hzi hall
    by_cases hi0 : 0 < i
    · refine Exists.elim (get_of_lt (show i - 1 < l.length by omega)) fun a hai => ?_
      have hza : zs[i - 1]? = some (.agg [.int .i64 a.prev, .int .i64 a.ver, .int .i64 a.known, .sl (cP a.ch)]) := by rw [hzs]; exact btP_get hai
      have ha1 : ∀ c, 0 < i → l[i - 1]? = some c → c = a := fun c _ hc => Option.some.inj (hc.symm.trans hai)
      have good2 : 0 ≤ bv → chks bc = 0 → a.ver < bv → bgood l i := fun g1 g2 h => good ⟨g1, g2, fun c q hc => by rw [ha1 c q hc]; exact h⟩
      have bad2 : ¬ a.ver < bv → (false = true ↔ lsnd l) := fun h => bad fun c => h (c.2.2 a hi0 hai)
      obtain ⟨ap, av, ak, ac⟩ := a
      simp only at hza good2 bad2
      refine Exists.elim (show ∃ j, j = i - 1 from ⟨_, rfl⟩) fun j hj => ?_
      rw [← hj] at hza
      intro add1 sub1 mul1 quo1 rem1 band1 bor1 bxor1 bclr1 shl1 shr1 ieq1 ilt1 ile1 seq1 slt1 beq1 bnot1 orb1 bcond1 iwrap1 iof1 ssz1 hA1 cat1 sq1 sl1 imin1 imax1 smin1 smax1 len1 slen1 u81 hL1 op1 hop1 call1 hcall1 code1 hcode1
      have hadd1 : add1 .i64 (Int.ofNat i) 1 = Int.ofNat (i + 1) := by rw [hA1.add, IntWalk.i64_in _ (by simp only [Int.ofNat_eq_natCast]; omega)]; rfl
      have e0 : len1 zs = Int.ofNat N := by rw [hL1.len, hzl]; rfl
      cbv
      refine vcIf.yes (by first | (simp [hA1.not, hA1.eq, hA1.lt, hA1.le, hA1.cond, hA1.beq, hA1.orb, hL1.len, hL1.slen, hL1.sq, e0, hi]; done) | (simp only [e0, hi]; simp [hA1.not, hA1.eq, hA1.lt, hA1.le, hA1.cond, hA1.beq, hA1.orb, hL1.len, hL1.slen, hL1.sq, e0, hi]; done) | (simp [hA1.not, hA1.eq, hA1.lt, hA1.le, hA1.cond, hA1.beq, hA1.orb, hL1.len, hL1.slen, hL1.sq, e0, hi]; omega) | (simp only [e0, hi]; simp [hA1.not, hA1.eq, hA1.lt, hA1.le, hA1.cond, hA1.beq, hA1.orb, hL1.len, hL1.slen, hL1.sq, e0, hi]; omega)) ?_
      cbv
      refine hcode1 _ _ _ (CodeEv.drawT eOk fOk (by kernel_rfl) noX (.rd 0 (.so 1 (.so 2 (.so 3 (.so 4 (.so 5 (.so 6 (.so 7 (.so 8 (.so 9 (.rd 10 (.rd 11 (.rd 12 (.rd 13 (.rd 14 (.rd 15 (.so 16 (.so 17 (.so 18 (.so 19 (.so 20 (.so 21 (.so 22 (.so 23 (.so 24 (.rd 25 (.so 26 (.so 27 (.so 28 (.so 29 (.acts (.cons 30 (.so 31 (.so 32 (.done))) (.nil))))))))))))))))))))))))))))))))) (by kernel_rfl) (by kernel_rfl) ?_)
      intro add2 sub2 mul2 quo2 rem2 band2 bor2 bxor2 bclr2 shl2 shr2 ieq2 ilt2 ile2 seq2 slt2 beq2 bnot2 orb2 bcond2 iwrap2 iof2 ssz2 hA2 cat2 sq2 sl2 imin2 imax2 smin2 smax2 len2 slen2 u82 hL2 op2 hop2 call2 hcall2 code2 hcode2 q2 hq2
      have hsub : sub2 .i64 (Int.ofNat i) 1 = Int.ofNat j := by rw [hA2.sub, IntWalk.i64_in _ (by simp only [Int.ofNat_eq_natCast]; omega), hj]; simp only [Int.ofNat_eq_natCast]; omega
      cbv
      refine ⟨i, _, rfl, hzi, rfl, ?_⟩
      cbv
      by_cases h0 : bv < 0
      · have hf := bad (fun c => by omega)
        refine vcIf.yes (by first | (simp [hA2.not, hA2.eq, hA2.lt, hA2.le, hA2.cond, hA2.beq, hA2.orb, hL2.len, hL2.slen, hL2.sq, h0]; done) | (simp only [h0]; simp [hA2.not, hA2.eq, hA2.lt, hA2.le, hA2.cond, hA2.beq, hA2.orb, hL2.len, hL2.slen, hL2.sq, h0]; done) | (simp [hA2.not, hA2.eq, hA2.lt, hA2.le, hA2.cond, hA2.beq, hA2.orb, hL2.len, hL2.slen, hL2.sq, h0]; omega) | (simp only [h0]; simp [hA2.not, hA2.eq, hA2.lt, hA2.le, hA2.cond, hA2.beq, hA2.orb, hL2.len, hL2.slen, hL2.sq, h0]; omega)) ?_
        cbv
        refine hq2 _ ?_
        cbv
        exact hret _ (RetEv.ret eOk rfl ⟨false, hf, rfl⟩)
      refine vcIf.no (by first | (simp [hA2.not, hA2.eq, hA2.lt, hA2.le, hA2.cond, hA2.beq, hA2.orb, hL2.len, hL2.slen, hL2.sq, h0]; done) | (simp only [h0]; simp [hA2.not, hA2.eq, hA2.lt, hA2.le, hA2.cond, hA2.beq, hA2.orb, hL2.len, hL2.slen, hL2.sq, h0]; done) | (simp [hA2.not, hA2.eq, hA2.lt, hA2.le, hA2.cond, hA2.beq, hA2.orb, hL2.len, hL2.slen, hL2.sq, h0]; omega) | (simp only [h0]; simp [hA2.not, hA2.eq, hA2.lt, hA2.le, hA2.cond, hA2.beq, hA2.orb, hL2.len, hL2.slen, hL2.sq, h0]; omega)) ?_
      cbv
      refine vcIf.yes (by first | (simp [hA2.not, hA2.eq, hA2.lt, hA2.le, hA2.cond, hA2.beq, hA2.orb, hL2.len, hL2.slen, hL2.sq, hi0]; done) | (simp only [hi0]; simp [hA2.not, hA2.eq, hA2.lt, hA2.le, hA2.cond, hA2.beq, hA2.orb, hL2.len, hL2.slen, hL2.sq, hi0]; done) | (simp [hA2.not, hA2.eq, hA2.lt, hA2.le, hA2.cond, hA2.beq, hA2.orb, hL2.len, hL2.slen, hL2.sq, hi0]; omega) | (simp only [hi0]; simp [hA2.not, hA2.eq, hA2.lt, hA2.le, hA2.cond, hA2.beq, hA2.orb, hL2.len, hL2.slen, hL2.sq, hi0]; omega)) ?_
      cbv
      refine ⟨i, _, rfl, hzi, rfl, ?_⟩
      cbv
      refine ⟨j, _, hsub, hza, rfl, ?_⟩
      cbv
      by_cases hab : av < bv
      · have hba : ¬ bv ≤ av := by omega
        refine vcIf.no (by first | (simp [hA2.not, hA2.eq, hA2.lt, hA2.le, hA2.cond, hA2.beq, hA2.orb, hL2.len, hL2.slen, hL2.sq, cond, hba]; done) | (simp only [cond, hba]; simp [hA2.not, hA2.eq, hA2.lt, hA2.le, hA2.cond, hA2.beq, hA2.orb, hL2.len, hL2.slen, hL2.sq, cond, hba]; done) | (simp [hA2.not, hA2.eq, hA2.lt, hA2.le, hA2.cond, hA2.beq, hA2.orb, hL2.len, hL2.slen, hL2.sq, cond, hba]; omega) | (simp only [cond, hba]; simp [hA2.not, hA2.eq, hA2.lt, hA2.le, hA2.cond, hA2.beq, hA2.orb, hL2.len, hL2.slen, hL2.sq, cond, hba]; omega)) ?_
        cbv
        refine ⟨i, _, rfl, hzi, rfl, ?_⟩
        cbv
        refine hcall2 _ _ _ _ _ (CallEv.same hall rfl ?_)
        rintro _ _ ⟨e, he, rfl, rfl⟩
        cbv
        refine hq2 _ ?_
        cbv
        by_cases h1 : e = 0
        · have hgood := good2 (by omega) (by omega) hab
          refine vcIf.no (by first | (simp [hA2.not, hA2.eq, hA2.lt, hA2.le, hA2.cond, hA2.beq, hA2.orb, hL2.len, hL2.slen, hL2.sq, cond, h1]; done) | (simp only [cond, h1]; simp [hA2.not, hA2.eq, hA2.lt, hA2.le, hA2.cond, hA2.beq, hA2.orb, hL2.len, hL2.slen, hL2.sq, cond, h1]; done) | (simp [hA2.not, hA2.eq, hA2.lt, hA2.le, hA2.cond, hA2.beq, hA2.orb, hL2.len, hL2.slen, hL2.sq, cond, h1]; omega) | (simp only [cond, h1]; simp [hA2.not, hA2.eq, hA2.lt, hA2.le, hA2.cond, hA2.beq, hA2.orb, hL2.len, hL2.slen, hL2.sq, cond, h1]; omega)) ?_
          cbv
          refine hrd _ ⟨i + 1, [], ?_, ⟨hi, lsnd_next k2 hgood⟩, rfl, ⟨rfl, ?_, trivial⟩, rfl, rfl, rfl, ?_⟩
          · show N - (i + 1) < N - i
            omega
          · show some (V.p (.int .i64 _)) = _
            rw [hadd1]
          · rw [hB]; exact Nat.le_refl _
        · have hf := bad (fun c => by omega)
          refine vcIf.yes (by first | (simp [hA2.not, hA2.eq, hA2.lt, hA2.le, hA2.cond, hA2.beq, hA2.orb, hL2.len, hL2.slen, hL2.sq, cond, h1]; done) | (simp only [cond, h1]; simp [hA2.not, hA2.eq, hA2.lt, hA2.le, hA2.cond, hA2.beq, hA2.orb, hL2.len, hL2.slen, hL2.sq, cond, h1]; done) | (simp [hA2.not, hA2.eq, hA2.lt, hA2.le, hA2.cond, hA2.beq, hA2.orb, hL2.len, hL2.slen, hL2.sq, cond, h1]; omega) | (simp only [cond, h1]; simp [hA2.not, hA2.eq, hA2.lt, hA2.le, hA2.cond, hA2.beq, hA2.orb, hL2.len, hL2.slen, hL2.sq, cond, h1]; omega)) ?_
          cbv
          exact hret _ (RetEv.ret eOk rfl ⟨false, hf, rfl⟩)
      · have hf := bad2 hab
        have hba : bv ≤ av := by omega
        refine vcIf.yes (by first | (simp [hA2.not, hA2.eq, hA2.lt, hA2.le, hA2.cond, hA2.beq, hA2.orb, hL2.len, hL2.slen, hL2.sq, cond, hba]; done) | (simp only [cond, hba]; simp [hA2.not, hA2.eq, hA2.lt, hA2.le, hA2.cond, hA2.beq, hA2.orb, hL2.len, hL2.slen, hL2.sq, cond, hba]; done) | (simp [hA2.not, hA2.eq, hA2.lt, hA2.le, hA2.cond, hA2.beq, hA2.orb, hL2.len, hL2.slen, hL2.sq, cond, hba]; omega) | (simp only [cond, hba]; simp [hA2.not, hA2.eq, hA2.lt, hA2.le, hA2.cond, hA2.beq, hA2.orb, hL2.len, hL2.slen, hL2.sq, cond, hba]; omega)) ?_
        cbv
        refine hq2 _ ?_
        cbv
        exact hret _ (RetEv.ret eOk rfl ⟨false, hf, rfl⟩)
    · intro add1 sub1 mul1 quo1 rem1 band1 bor1 bxor1 bclr1 shl1 shr1 ieq1 ilt1 ile1 seq1 slt1 beq1 bnot1 orb1 bcond1 iwrap1 iof1 ssz1 hA1 cat1 sq1 sl1 imin1 imax1 smin1 smax1 len1 slen1 u81 hL1 op1 hop1 call1 hcall1 code1 hcode1
      have hadd1 : add1 .i64 (Int.ofNat i) 1 = Int.ofNat (i + 1) := by rw [hA1.add, IntWalk.i64_in _ (by simp only [Int.ofNat_eq_natCast]; omega)]; rfl
      have e0 : len1 zs = Int.ofNat N := by rw [hL1.len, hzl]; rfl
      cbv
      refine vcIf.yes (by first | (simp [hA1.not, hA1.eq, hA1.lt, hA1.le, hA1.cond, hA1.beq, hA1.orb, hL1.len, hL1.slen, hL1.sq, e0, hi]; done) | (simp only [e0, hi]; simp [hA1.not, hA1.eq, hA1.lt, hA1.le, hA1.cond, hA1.beq, hA1.orb, hL1.len, hL1.slen, hL1.sq, e0, hi]; done) | (simp [hA1.not, hA1.eq, hA1.lt, hA1.le, hA1.cond, hA1.beq, hA1.orb, hL1.len, hL1.slen, hL1.sq, e0, hi]; omega) | (simp only [e0, hi]; simp [hA1.not, hA1.eq, hA1.lt, hA1.le, hA1.cond, hA1.beq, hA1.orb, hL1.len, hL1.slen, hL1.sq, e0, hi]; omega)) ?_
      cbv
      refine hcode1 _ _ _ (CodeEv.drawT eOk fOk (by kernel_rfl) noX (.rd 0 (.so 1 (.so 2 (.so 3 (.so 4 (.so 5 (.so 6 (.so 7 (.so 8 (.so 9 (.rd 10 (.rd 11 (.rd 12 (.rd 13 (.rd 14 (.rd 15 (.so 16 (.so 17 (.so 18 (.so 19 (.so 20 (.so 21 (.so 22 (.so 23 (.so 24 (.rd 25 (.so 26 (.so 27 (.so 28 (.so 29 (.acts (.cons 30 (.so 31 (.so 32 (.done))) (.nil))))))))))))))))))))))))))))))))) (by kernel_rfl) (by kernel_rfl) ?_)
      intro add2 sub2 mul2 quo2 rem2 band2 bor2 bxor2 bclr2 shl2 shr2 ieq2 ilt2 ile2 seq2 slt2 beq2 bnot2 orb2 bcond2 iwrap2 iof2 ssz2 hA2 cat2 sq2 sl2 imin2 imax2 smin2 smax2 len2 slen2 u82 hL2 op2 hop2 call2 hcall2 code2 hcode2 q2 hq2
      cbv
      refine ⟨i, _, rfl, hzi, rfl, ?_⟩
      cbv
      by_cases h0 : bv < 0
      · have hf := bad (fun c => by omega)
        refine vcIf.yes (by first | (simp [hA2.not, hA2.eq, hA2.lt, hA2.le, hA2.cond, hA2.beq, hA2.orb, hL2.len, hL2.slen, hL2.sq, h0]; done) | (simp only [h0]; simp [hA2.not, hA2.eq, hA2.lt, hA2.le, hA2.cond, hA2.beq, hA2.orb, hL2.len, hL2.slen, hL2.sq, h0]; done) | (simp [hA2.not, hA2.eq, hA2.lt, hA2.le, hA2.cond, hA2.beq, hA2.orb, hL2.len, hL2.slen, hL2.sq, h0]; omega) | (simp only [h0]; simp [hA2.not, hA2.eq, hA2.lt, hA2.le, hA2.cond, hA2.beq, hA2.orb, hL2.len, hL2.slen, hL2.sq, h0]; omega)) ?_
        cbv
        refine hq2 _ ?_
        cbv
        exact hret _ (RetEv.ret eOk rfl ⟨false, hf, rfl⟩)
      refine vcIf.no (by first | (simp [hA2.not, hA2.eq, hA2.lt, hA2.le, hA2.cond, hA2.beq, hA2.orb, hL2.len, hL2.slen, hL2.sq, h0]; done) | (simp only [h0]; simp [hA2.not, hA2.eq, hA2.lt, hA2.le, hA2.cond, hA2.beq, hA2.orb, hL2.len, hL2.slen, hL2.sq, h0]; done) | (simp [hA2.not, hA2.eq, hA2.lt, hA2.le, hA2.cond, hA2.beq, hA2.orb, hL2.len, hL2.slen, hL2.sq, h0]; omega) | (simp only [h0]; simp [hA2.not, hA2.eq, hA2.lt, hA2.le, hA2.cond, hA2.beq, hA2.orb, hL2.len, hL2.slen, hL2.sq, h0]; omega)) ?_
      cbv
      refine vcIf.no (by first | (simp [hA2.not, hA2.eq, hA2.lt, hA2.le, hA2.cond, hA2.beq, hA2.orb, hL2.len, hL2.slen, hL2.sq, hi0]; done) | (simp only [hi0]; simp [hA2.not, hA2.eq, hA2.lt, hA2.le, hA2.cond, hA2.beq, hA2.orb, hL2.len, hL2.slen, hL2.sq, hi0]; done) | (simp [hA2.not, hA2.eq, hA2.lt, hA2.le, hA2.cond, hA2.beq, hA2.orb, hL2.len, hL2.slen, hL2.sq, hi0]; omega) | (simp only [hi0]; simp [hA2.not, hA2.eq, hA2.lt, hA2.le, hA2.cond, hA2.beq, hA2.orb, hL2.len, hL2.slen, hL2.sq, hi0]; omega)) ?_
      cbv
      refine vcIf.no (by first | (simp [hA2.not, hA2.eq, hA2.lt, hA2.le, hA2.cond, hA2.beq, hA2.orb, hL2.len, hL2.slen, hL2.sq, cond]; done) | (simp only [cond]; simp [hA2.not, hA2.eq, hA2.lt, hA2.le, hA2.cond, hA2.beq, hA2.orb, hL2.len, hL2.slen, hL2.sq, cond]; done) | (simp [hA2.not, hA2.eq, hA2.lt, hA2.le, hA2.cond, hA2.beq, hA2.orb, hL2.len, hL2.slen, hL2.sq, cond]; omega) | (simp only [cond]; simp [hA2.not, hA2.eq, hA2.lt, hA2.le, hA2.cond, hA2.beq, hA2.orb, hL2.len, hL2.slen, hL2.sq, cond]; omega)) ?_
      cbv
      refine ⟨i, _, rfl, hzi, rfl, ?_⟩
      cbv
      refine hcall2 _ _ _ _ _ (CallEv.same hall rfl ?_)
      rintro _ _ ⟨e, he, rfl, rfl⟩
      cbv
      refine hq2 _ ?_
      cbv
      by_cases h1 : e = 0
      · have hgood := good ⟨by omega, by omega, fun a h => absurd h hi0⟩
        refine vcIf.no (by first | (simp [hA2.not, hA2.eq, hA2.lt, hA2.le, hA2.cond, hA2.beq, hA2.orb, hL2.len, hL2.slen, hL2.sq, cond, h1]; done) | (simp only [cond, h1]; simp [hA2.not, hA2.eq, hA2.lt, hA2.le, hA2.cond, hA2.beq, hA2.orb, hL2.len, hL2.slen, hL2.sq, cond, h1]; done) | (simp [hA2.not, hA2.eq, hA2.lt, hA2.le, hA2.cond, hA2.beq, hA2.orb, hL2.len, hL2.slen, hL2.sq, cond, h1]; omega) | (simp only [cond, h1]; simp [hA2.not, hA2.eq, hA2.lt, hA2.le, hA2.cond, hA2.beq, hA2.orb, hL2.len, hL2.slen, hL2.sq, cond, h1]; omega)) ?_
        cbv
        refine hrd _ ⟨i + 1, [], ?_, ⟨hi, lsnd_next k2 hgood⟩, rfl, ⟨rfl, ?_, trivial⟩, rfl, rfl, rfl, ?_⟩
        · show N - (i + 1) < N - i
          omega
        · show some (V.p (.int .i64 _)) = _
          rw [hadd1]
        · rw [hB]; exact Nat.le_refl _
      · have hf := bad (fun c => by omega)
        refine vcIf.yes (by first | (simp [hA2.not, hA2.eq, hA2.lt, hA2.le, hA2.cond, hA2.beq, hA2.orb, hL2.len, hL2.slen, hL2.sq, cond, h1]; done) | (simp only [cond, h1]; simp [hA2.not, hA2.eq, hA2.lt, hA2.le, hA2.cond, hA2.beq, hA2.orb, hL2.len, hL2.slen, hL2.sq, cond, h1]; done) | (simp [hA2.not, hA2.eq, hA2.lt, hA2.le, hA2.cond, hA2.beq, hA2.orb, hL2.len, hL2.slen, hL2.sq, cond, h1]; omega) | (simp only [cond, h1]; simp [hA2.not, hA2.eq, hA2.lt, hA2.le, hA2.cond, hA2.beq, hA2.orb, hL2.len, hL2.slen, hL2.sq, cond, h1]; omega)) ?_
        cbv
        exact hret _ (RetEv.ret eOk rfl ⟨false, hf, rfl⟩)
  · have hall : (true = true ↔ lsnd l) := ⟨fun _ j hj => k2 j (by omega), fun _ => rfl⟩
    intro add1 sub1 mul1 quo1 rem1 band1 bor1 bxor1 bclr1 shl1 shr1 ieq1 ilt1 ile1 seq1 slt1 beq1 bnot1 orb1 bcond1 iwrap1 iof1 ssz1 hA1 cat1 sq1 sl1 imin1 imax1 smin1 smax1 len1 slen1 u81 hL1 op1 hop1 call1 hcall1 code1 hcode1
    have e0 : len1 zs = Int.ofNat N := by rw [hL1.len, hzl]; rfl
    cbv
    refine vcIf.no (by first | (simp [hA1.not, hA1.eq, hA1.lt, hA1.le, hA1.cond, hA1.beq, hA1.orb, hL1.len, hL1.slen, hL1.sq, e0, hi]; done) | (simp only [e0, hi]; simp [hA1.not, hA1.eq, hA1.lt, hA1.le, hA1.cond, hA1.beq, hA1.orb, hL1.len, hL1.slen, hL1.sq, e0, hi]; done) | (simp [hA1.not, hA1.eq, hA1.lt, hA1.le, hA1.cond, hA1.beq, hA1.orb, hL1.len, hL1.slen, hL1.sq, e0, hi]; omega) | (simp only [e0, hi]; simp [hA1.not, hA1.eq, hA1.lt, hA1.le, hA1.cond, hA1.beq, hA1.orb, hL1.len, hL1.slen, hL1.sq, e0, hi]; omega)) ?_
    cbv
    exact hret _ (RetEv.ret eOk rfl ⟨true, hall, rfl⟩)
end Go.Proofs.Ytdoikpagilmplaa
