/- Back and Forget of a Past; no Past. Conditions: on sizes, and that the changes are such. -/
import Derived.Test.YtdeolllpbflemaaLPa6
set_option maxRecDepth 100000
set_option maxHeartbeats 16000000
set_option linter.unusedSimpArgs false
set_option linter.unusedVariables false
namespace Go.Proofs.Ytdeolllpbflemaa
open Go Go.Lx
open Go.Sx (vcIf)

theorem get_nil (k : List UInt8) (v : Int) : FnL Try.prog 16 [.p .nilp, .p (.str k), .p (.int .i64 v)] [] fun r own => r = .p (.tup [.str [], .bool false, .int .i64 1]) ∧ own = [] := by
  refine FnL.flat (R := fun r own => r = .p (.tup [.str [], .bool false, .int .i64 1])) ?_ (by rintro _ _ rfl; exact ⟨_, _, rfl, .refl _, rfl, rfl⟩)
  refine fn_of_vc eOk fOk fo16 Try.func16 rfl rfl rfl fun B hB => ?_
  intro add sub mul quo rem band bor bxor bclr shl shr ieq ilt ile seq slt beq bnot orb bcond iwrap iof ssz hA cat sq sl imin imax smin smax len slen u8 hL op hop call hcall code hcode ret hret
  cbv
  refine hcall _ _ _ _ _ (CallEv.pure (known_nil v) (.cons (.p _) (.cons (.p _) .nil)) ?_)
  rintro _ _ ⟨rfl, rfl⟩
  cbv
  refine vcIf.yes (by first | (simp [hA.not, hA.eq, hA.lt, hA.le, hA.cond, hA.beq, hA.orb, hL.len, hL.slen, hL.sq]; done) | (simp [hA.not, hA.eq, hA.lt, hA.le, hA.cond, hA.beq, hA.orb, hL.len, hL.slen, hL.sq]; omega)) ?_
  cbv
  exact hret _ (RetEv.ret eOk rfl rfl)
theorem list_nil (lo hi : List UInt8) (v m : Int) : FnL Try.prog 14 [.p .nilp, .p (.agg [.str lo, .str hi]), .p (.int .i64 v), .p (.int .i64 m)] [] fun r own => r = .p (.tup [.nils, .int .i64 1]) ∧ own = [] := by
  refine FnL.flat (R := fun r own => r = .p (.tup [.nils, .int .i64 1])) ?_ (by rintro _ _ rfl; exact ⟨_, _, rfl, .refl _, rfl, rfl⟩)
  refine fn_of_vc eOk fOk fo14 Try.func14 rfl rfl rfl fun B hB => ?_
  intro add sub mul quo rem band bor bxor bclr shl shr ieq ilt ile seq slt beq bnot orb bcond iwrap iof ssz hA cat sq sl imin imax smin smax len slen u8 hL op hop call hcall code hcode ret hret
  cbv
  refine hcall _ _ _ _ _ (CallEv.pure (known_nil v) (.cons (.p _) (.cons (.p _) .nil)) ?_)
  rintro _ _ ⟨rfl, rfl⟩
  cbv
  refine vcIf.yes (by first | (simp [hA.not, hA.eq, hA.lt, hA.le, hA.cond, hA.beq, hA.orb, hL.len, hL.slen, hL.sq]; done) | (simp [hA.not, hA.eq, hA.lt, hA.le, hA.cond, hA.beq, hA.orb, hL.len, hL.slen, hL.sq]; omega)) ?_
  cbv
  exact hret _ (RetEv.ret eOk rfl rfl)
theorem forget_nil (v : Int) : FnL Try.prog 18 [.p .nilp, .p (.int .i64 v)] [] fun r own => r = .p (.int .i64 1) ∧ own = [] := by
  refine fn_of_vc eOk fOk fo18 Try.func18 rfl rfl rfl fun B hB => ?_
  intro add sub mul quo rem band bor bxor bclr shl shr ieq ilt ile seq slt beq bnot orb bcond iwrap iof ssz hA cat sq sl imin imax smin smax len slen u8 hL op hop call hcall code hcode ret hret
  cbv
  exact hret _ (RetEv.ret eOk rfl ⟨rfl, rfl⟩)
theorem back_nil (v : Int) : FnL Try.prog 17 [.p .nilp, .p (.int .i64 v)] [] fun r own => r = .p (.int .i64 1) ∧ own = [] := by
  refine fn_of_vc eOk fOk fo17 Try.func17 rfl rfl rfl fun B hB => ?_
  intro add sub mul quo rem band bor bxor bclr shl shr ieq ilt ile seq slt beq bnot orb bcond iwrap iof ssz hA cat sq sl imin imax smin smax len slen u8 hL op hop call hcall code hcode ret hret
  cbv
  refine hcall _ _ _ _ _ (CallEv.same (known_nil v) rfl ?_)
  rintro _ _ ⟨rfl, rfl⟩
  cbv
  refine vcIf.yes (by first | (simp [hA.not, hA.eq, hA.lt, hA.le, hA.cond, hA.beq, hA.orb, hL.len, hL.slen, hL.sq]; done) | (simp [hA.not, hA.eq, hA.lt, hA.le, hA.cond, hA.beq, hA.orb, hL.len, hL.slen, hL.sq]; omega)) ?_
  cbv
  exact hret _ (RetEv.ret eOk rfl ⟨rfl, rfl⟩)

theorem back_spec (a f l v : Int) (ls : List Lay) (hn : ls.length < 281474976710656) (zs xs : List PV) (hxs : xs = layP ls) (n : Nat) (hn0 : n = ls.length) :
    FnL Try.prog 17 [.own 0 0, .p (.int .i64 v)] [psS a f l zs n, psA xs] fun r own => ∃ e : Nat, e = knw f l v ∧ r = .p (.int .i64 (Int.ofNat e)) ∧
      ((e ≠ 0 ∧ own = [psS a f l zs n, psA xs]) ∨ (e = 0 ∧ ∃ ws m, m = upto ls v ∧ ws = layP (ls.take m) ∧ own = [psS a f v zs m, psA ws])) := by
  have hxl : xs.length = n := by rw [hxs, layP_length, hn0]
  obtain ⟨ys, hys⟩ : ∃ ys, ys = xs := ⟨_, rfl⟩
  have hy : ys = (xs.drop 0).take n := by rw [hys, List.drop_zero, ← hxl, List.take_length]
  obtain ⟨E, hE⟩ : ∃ E, E = knw f l v := ⟨_, rfl⟩
  have hkn := known_spec a f l v zs ys
  rw [← hE] at hkn ⊢
  have hup := upto_spec a f l v zs ls hn ys (by rw [hys, hxs])
  obtain ⟨N, hN⟩ : ∃ N, N = upto ls v := ⟨_, rfl⟩
  have hNl : N ≤ n := by rw [hN, hn0]; exact upto_le v ls
  rw [← hN] at hup ⊢
  have hxt : xs.take N = layP (ls.take N) := by rw [hxs, layP_take]
  refine fn_of_vc eOk fOk fo17 Try.func17 rfl rfl rfl fun B hB => ?_
  intro add sub mul quo rem band bor bxor bclr shl shr ieq ilt ile seq slt beq bnot orb bcond iwrap iof ssz hA cat sq sl imin imax smin smax len slen u8 hL op hop call hcall code hcode ret hret
  cbv
  refine hcall _ _ _ _ _ (CallEv.shown [] [0, 1] hkn rfl (.cons (psT (by decide) (by decide) rfl rfl ys hy) (.cons (.p _) .nil)) trivial ?_)
  rintro _ _ ⟨e, he, rfl, rfl⟩
  refine ⟨.p _ (.int _ _), (by intro r hr; cases hr), ?_⟩
  cbv
  by_cases h0 : e = 0
  rotate_left
  · refine vcIf.yes (by first | (simp [hA.not, hA.eq, hA.lt, hA.le, hA.cond, hA.beq, hA.orb, hL.len, hL.slen, hL.sq, h0]; done) | (simp only [h0]; simp [hA.not, hA.eq, hA.lt, hA.le, hA.cond, hA.beq, hA.orb, hL.len, hL.slen, hL.sq, h0]; done) | (simp [hA.not, hA.eq, hA.lt, hA.le, hA.cond, hA.beq, hA.orb, hL.len, hL.slen, hL.sq, h0]; omega) | (simp only [h0]; simp [hA.not, hA.eq, hA.lt, hA.le, hA.cond, hA.beq, hA.orb, hL.len, hL.slen, hL.sq, h0]; omega)) ?_
    cbv
    exact hret _ (RetEv.ret eOk rfl ⟨e, he, rfl, .inl ⟨h0, rfl⟩⟩)
  refine vcIf.no (by first | (simp [hA.not, hA.eq, hA.lt, hA.le, hA.cond, hA.beq, hA.orb, hL.len, hL.slen, hL.sq, h0]; done) | (simp only [h0]; simp [hA.not, hA.eq, hA.lt, hA.le, hA.cond, hA.beq, hA.orb, hL.len, hL.slen, hL.sq, h0]; done) | (simp [hA.not, hA.eq, hA.lt, hA.le, hA.cond, hA.beq, hA.orb, hL.len, hL.slen, hL.sq, h0]; omega) | (simp only [h0]; simp [hA.not, hA.eq, hA.lt, hA.le, hA.cond, hA.beq, hA.orb, hL.len, hL.slen, hL.sq, h0]; omega)) ?_
  cbv
  refine hcode _ _ _ (CodeEv.drawT eOk fOk (by kernel_rfl) (Xof 0 []) (.rd 0 (.rd 1 (.rd 2 (.rd 3 (.rd 5 (.rd 6 (.rd 8 (.rd 9 (.acts (.cons 4 (.acts (.cons 7 (.acts (.cons 10 (.so 11 (.so 12 (.so 13 (.acts (.cons 14 (.done) (.nil)))))) (.nil))) (.nil))) (.cons 7 (.acts (.cons 4 (.acts (.cons 10 (.so 11 (.so 12 (.so 13 (.acts (.cons 14 (.done) (.nil)))))) (.nil))) (.cons 10 (.so 4 (.so 11 (.so 12 (.so 13 (.acts (.cons 14 (.done) (.nil))))))) (.nil)))) (.nil)))))))))))) (by kernel_rfl) (by kernel_rfl) ?_)
  intro add2 sub2 mul2 quo2 rem2 band2 bor2 bxor2 bclr2 shl2 shr2 ieq2 ilt2 ile2 seq2 slt2 beq2 bnot2 orb2 bcond2 iwrap2 iof2 ssz2 hA2 cat2 sq2 sl2 imin2 imax2 smin2 smax2 len2 slen2 u82 hL2 op2 hop2 call2 hcall2 code2 hcode2 q2 hq2
  cbv
  refine ⟨?_, ?_⟩
  · refine hcall2 _ _ _ _ _ (CallEv.shown [] [0, 1] hup rfl (.cons (psT (by decide) (by decide) rfl rfl ys hy) (.cons (.p _) .nil)) trivial ?_)
    rintro _ _ ⟨e1, he1, rfl, rfl⟩
    refine ⟨.p _ (.int _ _), (by intro r hr; cases hr), ?_⟩
    replace he1 := (he1).symm
    subst he1
    cbv
    refine hcall2 _ _ _ _ _ (CallEv.shown [] [0, 1] hup rfl (.cons (psT (by decide) (by decide) rfl rfl ys hy) (.cons (.p _) .nil)) trivial ?_)
    rintro _ _ ⟨e2, he2, rfl, rfl⟩
    refine ⟨.p _ (.int _ _), (by intro r hr; cases hr), ?_⟩
    replace he2 := (he2).symm
    subst he2
    cbv
    refine ⟨0, N, N, rfl, rfl, rfl, Nat.zero_le _, Nat.le_refl _, by omega, (fun c h => by cases h), fun o1 m1 c1 ho hm hc => ?_⟩
    obtain rfl : 0 = o1 := by omega
    obtain rfl : N = m1 := by omega
    obtain rfl : N = c1 := by omega
    cbv
    refine hq2 _ ?_
    cbv
    exact hret _ (RetEv.convW (ConvW.trimC 0 2 1 rfl rfl rfl rfl (by decide)) (RetEv.ret eOk rfl ⟨0, by omega, rfl, .inr ⟨rfl, xs.take N, N, rfl, hxt, rfl⟩⟩))
  · refine hcall2 _ _ _ _ _ (CallEv.shown [] [0, 1] hup rfl (.cons (psT (by decide) (by decide) rfl rfl ys hy) (.cons (.p _) .nil)) trivial ?_)
    rintro _ _ ⟨e1, he1, rfl, rfl⟩
    refine ⟨.p _ (.int _ _), (by intro r hr; cases hr), ?_⟩
    replace he1 := (he1).symm
    subst he1
    cbv
    refine ⟨?_, ?_⟩
    · refine hcall2 _ _ _ _ _ (CallEv.shown [] [0, 1] hup rfl (.cons (psT (by decide) (by decide) rfl rfl ys hy) (.cons (.p _) .nil)) trivial ?_)
      rintro _ _ ⟨e2, he2, rfl, rfl⟩
      refine ⟨.p _ (.int _ _), (by intro r hr; cases hr), ?_⟩
      replace he2 := (he2).symm
      subst he2
      cbv
      refine ⟨0, N, N, rfl, rfl, rfl, Nat.zero_le _, Nat.le_refl _, by omega, (fun c h => by cases h), fun o1 m1 c1 ho hm hc => ?_⟩
      obtain rfl : 0 = o1 := by omega
      obtain rfl : N = m1 := by omega
      obtain rfl : N = c1 := by omega
      cbv
      refine hq2 _ ?_
      cbv
      exact hret _ (RetEv.convW (ConvW.trimC 0 2 1 rfl rfl rfl rfl (by decide)) (RetEv.ret eOk rfl ⟨0, by omega, rfl, .inr ⟨rfl, xs.take N, N, rfl, hxt, rfl⟩⟩))
    · refine hcall2 _ _ _ _ _ (CallEv.shown [] [0, 1] hup rfl (.cons (psT (by decide) (by decide) rfl rfl ys hy) (.cons (.p _) .nil)) trivial ?_)
      rintro _ _ ⟨e2, he2, rfl, rfl⟩
      refine ⟨.p _ (.int _ _), (by intro r hr; cases hr), ?_⟩
      replace he2 := (he2).symm
      subst he2
      cbv
      refine ⟨0, N, N, rfl, rfl, rfl, Nat.zero_le _, Nat.le_refl _, by omega, (fun c h => by cases h), fun o1 m1 c1 ho hm hc => ?_⟩
      obtain rfl : 0 = o1 := by omega
      obtain rfl : N = m1 := by omega
      obtain rfl : N = c1 := by omega
      cbv
      refine hq2 _ ?_
      cbv
      exact hret _ (RetEv.convW (ConvW.trimC 0 2 1 rfl rfl rfl rfl (by decide)) (RetEv.ret eOk rfl ⟨0, by omega, rfl, .inr ⟨rfl, xs.take N, N, rfl, hxt, rfl⟩⟩))

/-- What a call of Forget answers. -/
def fgE (l v : Int) : Nat := if l < v then 8 else 0
abbrev psS2 (a f l : Int) (zs : List PV) (n : Nat) : Res := .st 64 [.p (.int .i64 a), .p (.sl zs), .vw 2 2 0 n none, .p (.int .i64 f), .p (.int .i64 l)]
theorem forget_spec (a f l v : Int) (ps : List Pr) (hps : Srt ps) (ls : List Lay) (M : Nat) (hM : ∀ l ∈ ls, l.ch.length ≤ M) (hck : ∀ l ∈ ls, chks l.ch = 0) (hsz : (ps.length + ls.length * M + 1) * 32 ≤ 140737488355328) (hn : ls.length * 32 ≤ 140737488355328)
    (zs : List PV) (hzs : zs = prP ps) (xs : List PV) (hxs : xs = layP ls) (n : Nat) (hn0 : n = ls.length) :
    FnL Try.prog 18 [.own 0 0, .p (.int .i64 v)] [psS a f l zs n, psA xs] fun r own => ∃ e : Nat, e = fgE l v ∧ r = .p (.int .i64 (Int.ofNat e)) ∧
      (((e ≠ 0 ∨ v ≤ f) ∧ own = [psS a f l zs n, psA xs]) ∨ (e = 0 ∧ ¬ v ≤ f ∧ ∃ us ws m, us = prP (whole ps ls v) ∧ m = ls.length - upto ls v ∧ ws = layP (ls.drop (upto ls v)) ∧ own = [psS2 v v l us m, psA xs, psA ws])) := by
  have hxl : xs.length = n := by rw [hxs, layP_length, hn0]
  obtain ⟨ys, hys⟩ : ∃ ys, ys = xs := ⟨_, rfl⟩
  have hy : ys = (xs.drop 0).take n := by rw [hys, List.drop_zero, ← hxl, List.take_length]
  have hwo := wholeO_spec a f l v ps hps ls M hM hck hsz (by omega) zs hzs xs hxs n hn0
  have hup := upto_spec a f l v zs ls (by omega) ys (by rw [hys, hxs])
  obtain ⟨N, hN⟩ : ∃ N, N = upto ls v := ⟨_, rfl⟩
  have hNl : N ≤ n := by rw [hN, hn0]; exact upto_le v ls
  rw [← hN] at hup ⊢
  obtain ⟨W, hW⟩ : ∃ W, W = whole ps ls v := ⟨_, rfl⟩
  rw [← hW] at hwo ⊢
  obtain ⟨us, hus⟩ : ∃ us, us = xs.drop N := ⟨_, rfl⟩
  have hul : us.length = n - N := by rw [hus, List.length_drop, hxl]
  obtain ⟨q, hq⟩ : ∃ q, q = n - N := ⟨_, rfl⟩
  rw [← hq] at hul
  have hus2 : us = (xs.drop N).take q := by rw [← hus, ← hul, List.take_length]
  have husw : us = layP (ls.drop N) := by rw [hus, hxs, layP_drop]
  have hcl := cloneL_spec xs N q us hus2 hul (by rw [husw]; exact layP_wf _) (by omega)
  rw [← hn0]
  refine fn_of_vc eOk fOk fo18 Try.func18 rfl rfl rfl fun B hB => ?_
  intro add sub mul quo rem band bor bxor bclr shl shr ieq ilt ile seq slt beq bnot orb bcond iwrap iof ssz hA cat sq sl imin imax smin smax len slen u8 hL op hop call hcall code hcode ret hret
  cbv
  by_cases h0 : l < v
  · refine vcIf.yes (by first | (simp [hA.not, hA.eq, hA.lt, hA.le, hA.cond, hA.beq, hA.orb, hL.len, hL.slen, hL.sq, h0]; done) | (simp only [h0]; simp [hA.not, hA.eq, hA.lt, hA.le, hA.cond, hA.beq, hA.orb, hL.len, hL.slen, hL.sq, h0]; done) | (simp [hA.not, hA.eq, hA.lt, hA.le, hA.cond, hA.beq, hA.orb, hL.len, hL.slen, hL.sq, h0]; omega) | (simp only [h0]; simp [hA.not, hA.eq, hA.lt, hA.le, hA.cond, hA.beq, hA.orb, hL.len, hL.slen, hL.sq, h0]; omega)) ?_
    cbv
    exact hret _ (RetEv.ret eOk rfl ⟨8, by unfold fgE; rw [if_pos h0], rfl, .inl ⟨.inl (by decide), rfl⟩⟩)
  have hfg : fgE l v = 0 := by unfold fgE; rw [if_neg h0]
  refine vcIf.no (by first | (simp [hA.not, hA.eq, hA.lt, hA.le, hA.cond, hA.beq, hA.orb, hL.len, hL.slen, hL.sq, h0]; done) | (simp only [h0]; simp [hA.not, hA.eq, hA.lt, hA.le, hA.cond, hA.beq, hA.orb, hL.len, hL.slen, hL.sq, h0]; done) | (simp [hA.not, hA.eq, hA.lt, hA.le, hA.cond, hA.beq, hA.orb, hL.len, hL.slen, hL.sq, h0]; omega) | (simp only [h0]; simp [hA.not, hA.eq, hA.lt, hA.le, hA.cond, hA.beq, hA.orb, hL.len, hL.slen, hL.sq, h0]; omega)) ?_
  cbv
  by_cases h1 : v ≤ f
  · refine vcIf.yes (by first | (simp [hA.not, hA.eq, hA.lt, hA.le, hA.cond, hA.beq, hA.orb, hL.len, hL.slen, hL.sq, h1]; done) | (simp only [h1]; simp [hA.not, hA.eq, hA.lt, hA.le, hA.cond, hA.beq, hA.orb, hL.len, hL.slen, hL.sq, h1]; done) | (simp [hA.not, hA.eq, hA.lt, hA.le, hA.cond, hA.beq, hA.orb, hL.len, hL.slen, hL.sq, h1]; omega) | (simp only [h1]; simp [hA.not, hA.eq, hA.lt, hA.le, hA.cond, hA.beq, hA.orb, hL.len, hL.slen, hL.sq, h1]; omega)) ?_
    cbv
    exact hret _ (RetEv.ret eOk rfl ⟨0, hfg.symm, rfl, .inl ⟨.inr h1, rfl⟩⟩)
  refine vcIf.no (by first | (simp [hA.not, hA.eq, hA.lt, hA.le, hA.cond, hA.beq, hA.orb, hL.len, hL.slen, hL.sq, h1]; done) | (simp only [h1]; simp [hA.not, hA.eq, hA.lt, hA.le, hA.cond, hA.beq, hA.orb, hL.len, hL.slen, hL.sq, h1]; done) | (simp [hA.not, hA.eq, hA.lt, hA.le, hA.cond, hA.beq, hA.orb, hL.len, hL.slen, hL.sq, h1]; omega) | (simp only [h1]; simp [hA.not, hA.eq, hA.lt, hA.le, hA.cond, hA.beq, hA.orb, hL.len, hL.slen, hL.sq, h1]; omega)) ?_
  cbv
  refine hcall _ _ _ _ _ (CallEv.lend [0, 1] hwo rfl (.cons (.own 0 0 0 rfl) (.cons (.p _) .nil)) (psL rfl rfl rfl rfl) ?_)
  rintro _ _ ⟨K, m0, ws, rfl, rfl, hw⟩
  have hwg : (ws.drop 0).take m0 = prP W := by rw [List.drop_zero, hw.2.2.2.2]
  cbv
  refine hcall _ _ _ _ _ (CallEv.shown [] [0, 1] hup rfl (.cons (psT (by decide) (by decide) rfl rfl ys hy) (.cons (.p _) .nil)) trivial ?_)
  rintro _ _ ⟨e, he, rfl, rfl⟩
  refine ⟨.p _ (.int _ _), (by intro r hr; cases hr), ?_⟩
  replace he := he.symm
  subst he
  cbv
  refine ⟨N, n, rfl, rfl, hNl, by omega, (fun c h => by cases h), fun o1 m1 ho hm => ?_⟩
  obtain rfl : N = o1 := by omega
  obtain rfl : q = m1 := by omega
  cbv
  refine hcall _ _ _ _ _ (CallEv.lend [1] hcl rfl (.cons (.vw 0 1 2 N q none rfl) .nil) ⟨⟨_, rfl, .arr _ _ _⟩, trivial⟩ ?_)
  rintro _ _ ⟨rfl, rfl⟩
  cbv
  exact hret _ (RetEv.convW ((Conv.freeze 2 rfl (by rw [hB]; exact (show 2 ≤ 2 by decide))).weak.trans (ConvW.pack [0, 1, 3] hB rfl)) (RetEv.ret eOk rfl ⟨0, hfg.symm, rfl, .inr ⟨rfl, h1, (ws.drop 0).take m0, us, q, hwg, hq, husw, rfl⟩⟩))
end Go.Proofs.Ytdeolllpbflemaa
