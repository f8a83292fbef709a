/- From and Add of a Past. Conditions: on sizes. -/
import Derived.Test.YtdeolllpbflemaaLPa4
set_option maxRecDepth 100000
set_option maxHeartbeats 16000000
set_option linter.unusedSimpArgs false
set_option linter.unusedVariables false
namespace Go.Proofs.Ytdeolllpbflemaa
open Go Go.Lx
open Go.Sx (vcIf)

theorem from_spec (v : Int) (ps : List Pr) (hn : ps.length * 32 ≤ 140737488355328) (hb : ∀ p ∈ ps, p.fit) (zs : List PV) (hzs : zs = prP ps) :
    FnL Try.prog 19 [.p (.int .i64 v), .p (.sl zs)] [] fun r own => (v < 0 ∧ r = .p (.tup [.nilp, .int .i64 1]) ∧ own = []) ∨ (¬ v < 0 ∧ sndP ps = false ∧ r = .p (.tup [.nilp, .int .i64 2]) ∧ own = []) ∨
      (¬ v < 0 ∧ sndP ps = true ∧ ∃ ws, ws = zs ∧ r = .tup [.own 0 0, .p (.int .i64 0)] ∧ own = [psS v v v ws 0, psA []]) := by
  have hsn := soundP_spec ps (by omega) hb zs hzs
  have hcl := clonePr_spec ps hn zs hzs
  obtain ⟨S, hS⟩ : ∃ S, S = sndP ps := ⟨_, rfl⟩
  rw [← hS] at hsn ⊢
  refine fn_of_vc eOk fOk fo19 Try.func19 rfl rfl rfl fun B hB => ?_
  intro add sub mul quo rem band bor bxor bclr shl shr ieq ilt ile seq slt beq bnot orb bcond iwrap iof ssz hA cat sq sl imin imax smin smax len slen u8 hL op hop call hcall code hcode ret hret
  cbv
  by_cases h0 : v < 0
  · refine vcIf.yes (by first | (simp [hA.not, hA.eq, hA.lt, hA.le, hA.cond, hA.beq, hA.orb, hL.len, hL.slen, hL.sq, h0]; done) | (simp only [h0]; simp [hA.not, hA.eq, hA.lt, hA.le, hA.cond, hA.beq, hA.orb, hL.len, hL.slen, hL.sq, h0]; done) | (simp [hA.not, hA.eq, hA.lt, hA.le, hA.cond, hA.beq, hA.orb, hL.len, hL.slen, hL.sq, h0]; omega) | (simp only [h0]; simp [hA.not, hA.eq, hA.lt, hA.le, hA.cond, hA.beq, hA.orb, hL.len, hL.slen, hL.sq, h0]; omega)) ?_
    cbv
    exact hret _ (RetEv.ret eOk rfl (.inl ⟨h0, rfl, rfl⟩))
  refine vcIf.no (by first | (simp [hA.not, hA.eq, hA.lt, hA.le, hA.cond, hA.beq, hA.orb, hL.len, hL.slen, hL.sq, h0]; done) | (simp only [h0]; simp [hA.not, hA.eq, hA.lt, hA.le, hA.cond, hA.beq, hA.orb, hL.len, hL.slen, hL.sq, h0]; done) | (simp [hA.not, hA.eq, hA.lt, hA.le, hA.cond, hA.beq, hA.orb, hL.len, hL.slen, hL.sq, h0]; omega) | (simp only [h0]; simp [hA.not, hA.eq, hA.lt, hA.le, hA.cond, hA.beq, hA.orb, hL.len, hL.slen, hL.sq, h0]; omega)) ?_
  cbv
  refine hcall _ _ _ _ _ (CallEv.same hsn rfl ?_)
  rintro _ _ ⟨rfl, rfl⟩
  cbv
  cases S with
  | false =>
    have hnot : bnot false = true := by rw [hA.not]; rfl
    refine vcIf.yes hnot ?_
    cbv
    exact hret _ (RetEv.ret eOk rfl (.inr (.inl ⟨h0, rfl, rfl, rfl⟩)))
  | true =>
    have hnot : bnot true = false := by rw [hA.not]; rfl
    refine vcIf.no hnot ?_
    cbv
    refine hcall _ _ _ _ _ (CallEv.same hcl rfl ?_)
    rintro _ _ ⟨K, n, xs, rfl, rfl, hx⟩
    have hxz : (xs.drop 0).take n = zs := by rw [List.drop_zero, hx.2.2.2.2, hzs]
    cbv
    refine hret _ (RetEv.convW ((Conv.freeze 0 rfl (by rw [hB]; exact Nat.zero_le _)).weak.trans ((Conv.hollowC 1 2 69 2 (by decide) rfl rfl).weak.trans (ConvW.pack [1, 2] hB rfl))) (RetEv.ret eOk rfl (.inr (.inr ⟨h0, rfl, (xs.drop 0).take n, hxz, rfl, rfl⟩))))

/-- A Past that was lent. -/
theorem psL {own : List Res} {js : List Nat} {i j n : Nat} {a f l : Int} {zs xs : List PV} (hi : js[0]? = some i) (hj : js[1]? = some j) (h1 : own[i]? = some (.st 64 [.p (.int .i64 a), .p (.sl zs), .vw j 2 0 n none, .p (.int .i64 f), .p (.int .i64 l)]))
    (h2 : own[j]? = some (psA xs)) : TrO own js [] [i, j] [psS a f l zs n, psA xs] :=
  ⟨⟨_, h1, .st _ _ _ (.cons (.p _) (.cons (.p _) (.cons (.vw 1 j 2 0 n none hj) (.cons (.p _) (.cons (.p _) .nil)))))⟩, ⟨_, h2, .arr _ _ _⟩, trivial⟩
/-- .. and one that is shown. -/
theorem psT {own : List Res} {bs js : List Nat} {i j n : Nat} {a f l : Int} {zs xs : List PV} (hi : i ∈ bs) (hj : j ∈ bs) (h1 : own[i]? = some (.st 64 [.p (.int .i64 a), .p (.sl zs), .vw j 2 0 n none, .p (.int .i64 f), .p (.int .i64 l)]))
    (h2 : own[j]? = some (psA xs)) (ys : List PV) (hy : ys = (xs.drop 0).take n) : Tr own js bs (.own i 0) (psI a f l zs ys) := by
  refine .bown i 0 _ _ [.p (.int .i64 a), .p (.sl zs), .p (.sl ys), .p (.int .i64 f), .p (.int .i64 l)] [.int .i64 a, .sl zs, .sl ys, .int .i64 f, .int .i64 l] hi h1 rfl (fun q hq => ?_) rfl ?_
  · simp only [List.mem_cons, List.not_mem_nil, or_false] at hq
    rcases hq with rfl | rfl | rfl | rfl | rfl <;> rfl
  · intro k c p hc hp
    match k, hc, hp with
    | 0, hc, hp => simp at hc hp; subst hc hp; exact .p _
    | 1, hc, hp => simp at hc hp; subst hc hp; exact .p _
    | 2, hc, hp => simp at hc hp; subst hc hp; exact .bvw j 2 0 n none _ _ xs ys hj h2 hy
    | 3, hc, hp => simp at hc hp; subst hc hp; exact .p _
    | 4, hc, hp => simp at hc hp; subst hc hp; exact .p _
    | k + 5, hc, hp => simp at hc

theorem add_nil (v : Int) (cs : List PV) : FnL Try.prog 12 [.p .nilp, .p (.int .i64 v), .p (.sl cs)] [] fun r own => r = .p (.int .i64 1) ∧ own = [] := by
  refine fn_of_vc eOk fOk fo12 Try.func12 rfl rfl rfl fun B hB => ?_
  intro add sub mul quo rem band bor bxor bclr shl shr ieq ilt ile seq slt beq bnot orb bcond iwrap iof ssz hA cat sq sl imin imax smin smax len slen u8 hL op hop call hcall code hcode ret hret
  cbv
  exact hret _ (RetEv.ret eOk rfl ⟨rfl, rfl⟩)
/-- The error of a batch that is added. -/
def adE (l v : Int) (ch : List Chg) : Nat := if v ≤ l then 9 else chks ch
theorem add_spec (a f l v : Int) (ch : List Chg) (hn : ch.length * 40 ≤ 140737488355328) (zs xs : List PV) (n : Nat) (hx : n = xs.length) (hm : (n + 1) * 32 ≤ 140737488355328) (cs : List PV) (hcs : cs = cP ch) :
    FnL Try.prog 12 [.own 0 0, .p (.int .i64 v), .p (.sl cs)] [psS a f l zs n, psA xs] fun r own => ∃ e : Nat, e = adE l v ch ∧ r = .p (.int .i64 (Int.ofNat e)) ∧
      ((e ≠ 0 ∧ own = [psS a f l zs n, psA xs]) ∨ (e = 0 ∧ ∃ ws m, m = n + 1 ∧ ws = xs ++ [.agg [.int .i64 v, .sl cs]] ∧ own = [psS a f v zs m, psA ws])) := by
  obtain ⟨E, hE⟩ : ∃ E, E = adE l v ch := ⟨_, rfl⟩
  rw [← hE]
  unfold adE at hE
  have hal := all_spec ch (by omega) cs hcs
  have hcl := cloneC_spec ch hn cs hcs
  obtain ⟨C, hC⟩ : ∃ C, C = chks ch := ⟨_, rfl⟩
  rw [← hC] at hE hal
  refine fn_of_vc eOk fOk fo12 Try.func12 rfl rfl rfl fun B hB => ?_
  intro add sub mul quo rem band bor bxor bclr shl shr ieq ilt ile seq slt beq bnot orb bcond iwrap iof ssz hA cat sq sl imin imax smin smax len slen u8 hL op hop call hcall code hcode ret hret
  cbv
  by_cases h0 : v ≤ l
  · rw [if_pos h0] at hE
    refine vcIf.yes (by first | (simp [hA.not, hA.eq, hA.lt, hA.le, hA.cond, hA.beq, hA.orb, hL.len, hL.slen, hL.sq, h0]; done) | (simp only [h0]; simp [hA.not, hA.eq, hA.lt, hA.le, hA.cond, hA.beq, hA.orb, hL.len, hL.slen, hL.sq, h0]; done) | (simp [hA.not, hA.eq, hA.lt, hA.le, hA.cond, hA.beq, hA.orb, hL.len, hL.slen, hL.sq, h0]; omega) | (simp only [h0]; simp [hA.not, hA.eq, hA.lt, hA.le, hA.cond, hA.beq, hA.orb, hL.len, hL.slen, hL.sq, h0]; omega)) ?_
    cbv
    exact hret _ (RetEv.ret eOk rfl ⟨E, rfl, by rw [hE]; rfl, .inl ⟨by rw [hE]; decide, rfl⟩⟩)
  rw [if_neg h0] at hE
  refine vcIf.no (by first | (simp [hA.not, hA.eq, hA.lt, hA.le, hA.cond, hA.beq, hA.orb, hL.len, hL.slen, hL.sq, h0]; done) | (simp only [h0]; simp [hA.not, hA.eq, hA.lt, hA.le, hA.cond, hA.beq, hA.orb, hL.len, hL.slen, hL.sq, h0]; done) | (simp [hA.not, hA.eq, hA.lt, hA.le, hA.cond, hA.beq, hA.orb, hL.len, hL.slen, hL.sq, h0]; omega) | (simp only [h0]; simp [hA.not, hA.eq, hA.lt, hA.le, hA.cond, hA.beq, hA.orb, hL.len, hL.slen, hL.sq, h0]; omega)) ?_
  cbv
  refine hcall _ _ _ _ _ (CallEv.pure hal (.cons (.p _) .nil) ?_)
  rintro _ _ ⟨e, he, rfl, rfl⟩
  cbv
  by_cases h1 : e = 0
  · refine vcIf.no (by first | (simp [hA.not, hA.eq, hA.lt, hA.le, hA.cond, hA.beq, hA.orb, hL.len, hL.slen, hL.sq, h1]; done) | (simp only [h1]; simp [hA.not, hA.eq, hA.lt, hA.le, hA.cond, hA.beq, hA.orb, hL.len, hL.slen, hL.sq, h1]; done) | (simp [hA.not, hA.eq, hA.lt, hA.le, hA.cond, hA.beq, hA.orb, hL.len, hL.slen, hL.sq, h1]; omega) | (simp only [h1]; simp [hA.not, hA.eq, hA.lt, hA.le, hA.cond, hA.beq, hA.orb, hL.len, hL.slen, hL.sq, h1]; omega)) ?_
    cbv
    refine hcode _ _ _ (CodeEv.drawT eOk fOk (by kernel_rfl) (Xof 0 []) (.rd 0 (.rd 1 (.rd 2 (.rd 3 (.rd 5 (.rd 6 (.acts (.cons 4 (.acts (.cons 7 (.so 8 (.acts (.cons 9 (.acts (.cons 10 (.so 11 (.so 12 (.acts (.cons 13 (.done) (.nil))))) (.nil))) (.nil)))) (.nil))) (.cons 7 (.rd 8 (.acts (.cons 4 (.acts (.cons 9 (.acts (.cons 10 (.so 11 (.so 12 (.acts (.cons 13 (.done) (.nil))))) (.nil))) (.nil))) (.cons 9 (.so 4 (.acts (.cons 10 (.so 11 (.so 12 (.acts (.cons 13 (.done) (.nil))))) (.nil)))) (.nil))))) (.nil)))))))))) (by kernel_rfl) (by kernel_rfl) ?_)
    intro add2 sub2 mul2 quo2 rem2 band2 bor2 bxor2 bclr2 shl2 shr2 ieq2 ilt2 ile2 seq2 slt2 beq2 bnot2 orb2 bcond2 iwrap2 iof2 ssz2 hA2 cat2 sq2 sl2 imin2 imax2 smin2 smax2 len2 slen2 u82 hL2 op2 hop2 call2 hcall2 code2 hcode2 q2 hq2
    cbv
    refine ⟨?_, ?_⟩
    · refine hcall2 _ _ _ _ _ (CallEv.pure hcl (.cons (.p _) .nil) ?_)
      rintro _ _ ⟨rfl, rfl⟩
      cbv
      refine ⟨false, ?_⟩
      cbv
      refine .inl ⟨(), rfl, hx, ?_, ?_, ?_, fun ws m hws hm' => ?_⟩
      · intro y hy
        simp [Sq.get] at hy
        rw [hy]; exact ⟨rfl, fun u hu => by simp [PV.cells] at hu; rcases hu with rfl | rfl <;> rfl⟩
      · show n + 1 ≤ maxLen
        unfold maxLen; omega
      · show (n + 1) * 32 ≤ _
        exact hm
      cbv
      refine hq2 _ ?_
      cbv
      exact hret _ (RetEv.ret eOk rfl ⟨0, by omega, rfl, .inr ⟨rfl, ws, m, hm', hws, rfl⟩⟩)
    · refine hcall2 _ _ _ _ _ (CallEv.pure hcl (.cons (.p _) .nil) ?_)
      rintro _ _ ⟨rfl, rfl⟩
      cbv
      refine ⟨⟨false, ?_⟩, false, ?_⟩
      · cbv
        refine .inl ⟨(), rfl, hx, ?_, ?_, ?_, fun ws m hws hm' => ?_⟩
        · intro y hy
          simp [Sq.get] at hy
          rw [hy]; exact ⟨rfl, fun u hu => by simp [PV.cells] at hu; rcases hu with rfl | rfl <;> rfl⟩
        · show n + 1 ≤ maxLen
          unfold maxLen; omega
        · show (n + 1) * 32 ≤ _
          exact hm
        cbv
        refine hq2 _ ?_
        cbv
        exact hret _ (RetEv.ret eOk rfl ⟨0, by omega, rfl, .inr ⟨rfl, ws, m, hm', hws, rfl⟩⟩)
      · cbv
        refine .inl ⟨(), rfl, hx, ?_, ?_, ?_, fun ws m hws hm' => ?_⟩
        · intro y hy
          simp [Sq.get] at hy
          rw [hy]; exact ⟨rfl, fun u hu => by simp [PV.cells] at hu; rcases hu with rfl | rfl <;> rfl⟩
        · show n + 1 ≤ maxLen
          unfold maxLen; omega
        · show (n + 1) * 32 ≤ _
          exact hm
        cbv
        refine hq2 _ ?_
        cbv
        exact hret _ (RetEv.ret eOk rfl ⟨0, by omega, rfl, .inr ⟨rfl, ws, m, hm', hws, rfl⟩⟩)
  · refine vcIf.yes (by first | (simp [hA.not, hA.eq, hA.lt, hA.le, hA.cond, hA.beq, hA.orb, hL.len, hL.slen, hL.sq, h1]; done) | (simp only [h1]; simp [hA.not, hA.eq, hA.lt, hA.le, hA.cond, hA.beq, hA.orb, hL.len, hL.slen, hL.sq, h1]; done) | (simp [hA.not, hA.eq, hA.lt, hA.le, hA.cond, hA.beq, hA.orb, hL.len, hL.slen, hL.sq, h1]; omega) | (simp only [h1]; simp [hA.not, hA.eq, hA.lt, hA.le, hA.cond, hA.beq, hA.orb, hL.len, hL.slen, hL.sq, h1]; omega)) ?_
    cbv
    exact hret _ (RetEv.ret eOk rfl ⟨e, by rw [he, hE], rfl, .inl ⟨h1, rfl⟩⟩)
end Go.Proofs.Ytdeolllpbflemaa
