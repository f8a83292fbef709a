/- LPa3, LPa4, LPa5 together. Conditions: on sizes. -/
import Derived.Test.YtnigonhkfpnodaaLPam
set_option maxRecDepth 100000
set_option maxHeartbeats 16000000
set_option linter.unusedSimpArgs false
set_option linter.unusedVariables false
section
namespace Go.Proofs.Ytnigonhkfpnodaa
open Go Go.Lx
open Go.Sx (vcIf)

/-! ### The last change that meets a key -/
theorem eff_miss {k : List UInt8} {o : Option (List UInt8)} {c : Chg} (h : hs (spn c) k = false) : eff k o c = o := by
  unfold eff
  split
  · rename_i h1
    rw [if_neg]
    intro e
    have := (hs_spn (c := c) (by omega) k).2 e
    rw [h] at this; cases this
  · rw [if_neg (by rw [h]; decide)]
theorem eff_hit {k : List UInt8} {o : Option (List UInt8)} {c : Chg} (h : hs (spn c) k = true) : eff k o c = if c.kind = 1 then some c.val else none := by
  unfold eff
  by_cases h1 : c.kind = 1
  · rw [if_pos h1, if_pos h1, if_pos ((hs_spn (c := c) (by omega) k).1 h)]
  · rw [if_neg h1, if_neg h1, if_pos h]
theorem lk_ones (k : List UInt8) : ∀ (cs : List Chg) {ps : List Pr}, Srt ps → lk (ones ps cs) k = cs.foldl (eff k) (lk ps k)
  | [], _, _ => rfl
  | c :: r, ps, h => by
    obtain ⟨h1, h2⟩ := one_ok c ps h
    have := lk_ones k r h1
    rw [h2] at this
    exact this
theorem eff_misses (k : List UInt8) : ∀ (cs : List Chg) (o : Option (List UInt8)), (∀ c ∈ cs, hs (spn c) k = false) → cs.foldl (eff k) o = o
  | [], _, _ => rfl
  | c :: r, o, h => by
    rw [List.foldl_cons, eff_miss (h c (by simp))]
    exact eff_misses k r o fun d hd => h d (by simp [hd])
def chgs (ls : List Lay) : List Chg := ls.flatMap (·.ch)
theorem lays_ones : ∀ (ls : List Lay) (ps : List Pr), lays ps ls = ones ps (chgs ls)
  | [], _ => rfl
  | l :: r, ps => by
    have e : chgs (l :: r) = l.ch ++ chgs r := rfl
    rw [e, show ones ps (l.ch ++ chgs r) = ones (ones ps l.ch) (chgs r) from List.foldl_append]
    exact lays_ones r (ones ps l.ch)
/-- None of these meets the key. -/
def miss (k : List UInt8) (cs : List Chg) (from' : Nat) : Prop := ∀ (i : Nat) (c : Chg), from' ≤ i → cs[i]? = some c → hs (spn c) k = false
def missL (k : List UInt8) (ls : List Lay) (from' N : Nat) : Prop := ∀ (i : Nat) (l : Lay), from' ≤ i → i < N → ls[i]? = some l → miss k l.ch 0
theorem miss_drop {k : List UInt8} {cs : List Chg} {j : Nat} (h : miss k cs j) : ∀ c ∈ cs.drop j, hs (spn c) k = false := fun c hc => by
  obtain ⟨i, hi⟩ := List.mem_iff_getElem?.1 hc
  rw [List.getElem?_drop] at hi
  exact h (j + i) c (by omega) hi
theorem missL_drop {k : List UInt8} {ls : List Lay} {i N : Nat} (h : missL k ls i N) : ∀ c ∈ chgs ((ls.take N).drop i), hs (spn c) k = false := fun c hc => by
  obtain ⟨l, hl, hc⟩ := List.mem_flatMap.1 hc
  obtain ⟨q, hq⟩ := List.mem_iff_getElem?.1 hl
  rw [List.getElem?_drop] at hq
  have hlt : i + q < N := by
    have := (List.getElem?_eq_some_iff.1 hq).1
    rw [List.length_take] at this; omega
  rw [List.getElem?_take_of_lt hlt] at hq
  obtain ⟨j, hj⟩ := List.mem_iff_getElem?.1 hc
  exact h (i + q) l (by omega) hlt hq j c (Nat.zero_le _) hj
theorem lk_miss {k : List UInt8} {ls : List Lay} {N : Nat} {ps : List Pr} (hs' : Srt ps) (h : missL k ls 0 N) : lk (lays ps (ls.take N)) k = lk ps k := by
  rw [lays_ones, lk_ones k _ hs']
  exact eff_misses k _ _ (by have := missL_drop h; rwa [List.drop_zero] at this)
theorem lk_hit {k : List UInt8} {ls : List Lay} {N i j : Nat} {l : Lay} {c : Chg} {ps : List Pr} (hs' : Srt ps) (hi : i < N) (hl : ls[i]? = some l) (h1 : missL k ls (i + 1) N) (hc : l.ch[j]? = some c) (h2 : miss k l.ch (j + 1)) (hh : hs (spn c) k = true) :
    lk (lays ps (ls.take N)) k = if c.kind = 1 then some c.val else none := by
  have e1 : ls.take N = (ls.take N).take i ++ (l :: (ls.take N).drop (i + 1)) := by
    have hlt : i < (ls.take N).length := by rw [List.length_take]; have := (List.getElem?_eq_some_iff.1 hl).1; omega
    have h3 : (ls.take N)[i]? = some l := by rw [List.getElem?_take_of_lt hi]; exact hl
    conv => lhs; rw [← List.take_append_drop i (ls.take N), List.drop_eq_getElem_cons hlt]
    rw [List.getElem?_eq_getElem hlt] at h3; cases h3; rfl
  have e2 : l.ch = l.ch.take j ++ (c :: l.ch.drop (j + 1)) := by
    have hlt := (List.getElem?_eq_some_iff.1 hc).1
    conv => lhs; rw [← List.take_append_drop j l.ch, List.drop_eq_getElem_cons hlt]
    rw [List.getElem?_eq_getElem hlt] at hc; cases hc; rfl
  rw [lays_ones, lk_ones k _ hs', e1]
  rw [show chgs ((ls.take N).take i ++ (l :: (ls.take N).drop (i + 1))) = chgs ((ls.take N).take i) ++ (l.ch ++ chgs ((ls.take N).drop (i + 1))) from List.flatMap_append, List.foldl_append, List.foldl_append]
  rw [eff_misses k _ _ (missL_drop h1), e2, List.foldl_append, List.foldl_cons, eff_misses k _ _ (miss_drop h2), eff_hit hh]
theorem lk_at {k : List UInt8} : ∀ {ps : List Pr} {i : Nat} {p : Pr}, (∀ (j : Nat) (q : Pr), j < i → ps[j]? = some q → q.key ≠ k) → ps[i]? = some p → p.key = k → lk ps k = some p.val
  | a :: r, i, p, h1, h2, h3 => by
    cases i with
    | zero => simp at h2; subst h2; simp [lk, h3]
    | succ i =>
      have h4 := h1 0 a (by omega) rfl
      have := lk_at (ps := r) (i := i) (p := p) (fun j q hj hq => h1 (j + 1) q (by omega) (by simpa using hq)) (by simpa using h2) h3
      simp [lk, h4, this]

theorem backwardLay_spec (zs : List PV) : FnL Try.prog 94 [.p (.sl zs)] [] fun r own => r = .fn 117 [.own 0 0] ∧ own = [.st 144 [.p (.sl zs)]] := by
  refine fn_of_vc eOk fOk fo94 Try.func94 rfl rfl rfl fun B hB => ?_
  intro add sub mul quo rem band bor bxor bclr shl shr ieq ilt ile seq slt beq bnot orb bcond iwrap iof ssz hA cat sq sl imin imax smin smax len slen u8 hL op hop call hcall code hcode ret hret
  cbv
  refine hop _ _ _ _ (OpEv.const rfl ?_)
  cbv
  exact hret _ (RetEv.ret eOk rfl ⟨rfl, rfl⟩)
theorem backwardChg_spec (zs : List PV) : FnL Try.prog 96 [.p (.sl zs)] [] fun r own => r = .fn 120 [.own 0 0] ∧ own = [.st 56 [.p (.sl zs)]] := by
  refine fn_of_vc eOk fOk fo96 Try.func96 rfl rfl rfl fun B hB => ?_
  intro add sub mul quo rem band bor bxor bclr shl shr ieq ilt ile seq slt beq bnot orb bcond iwrap iof ssz hA cat sq sl imin imax smin smax len slen u8 hL op hop call hcall code hcode ret hret
  cbv
  refine hop _ _ _ _ (OpEv.const rfl ?_)
  cbv
  exact hret _ (RetEv.ret eOk rfl ⟨rfl, rfl⟩)

theorem get_spec (a f l v : Int) (ps : List Pr) (hps : Srt ps) (hpn : ps.length < 281474976710656) (ls : List Lay) (hfit : ∀ b ∈ ls, b.ch.length < 281474976710656 ∧ ∀ c ∈ b.ch, c.fit) (hn : ls.length < 281474976710656) (key : List UInt8)
    (zs : List PV) (hzs : zs = prP ps) (ys : List PV) (hys : ys = layP ls) :
    FnL Try.prog 54 [psI a f l zs ys, .p (.str key), .p (.int .i64 v)] [] fun r own => ∃ (s : List UInt8) (b : Bool) (e : Nat),
      ((knw f l v ≠ 0 ∧ s = [] ∧ b = false ∧ e = knw f l v) ∨ (knw f l v = 0 ∧ e = 0 ∧ s = (lk (whole ps ls v) key).getD [] ∧ b = (lk (whole ps ls v) key).isSome)) ∧ r = .p (.tup [.str s, .bool b, .int .i64 (Int.ofNat e)]) ∧ own = [] := by
  obtain ⟨E, hE⟩ : ∃ E, E = knw f l v := ⟨_, rfl⟩
  have hkn := known_spec a f l v zs ys
  rw [← hE] at hkn ⊢
  have hup := upto_spec a f l v zs ls hn ys hys
  obtain ⟨N, hN⟩ : ∃ N, N = upto ls v := ⟨_, rfl⟩
  have hNl : N ≤ ls.length := by rw [hN]; exact upto_le v ls
  have hNy : N ≤ ys.length := by rw [hys, layP_length]; exact hNl
  have hyc : ∀ y : PV, y ∈ ys → y.cells.length = 2 := fun y hy => by rw [hys] at hy; exact (layP_wf ls y hy).1
  obtain ⟨us, hus⟩ : ∃ us, us = ys.take N := ⟨_, rfl⟩
  have hul : us.length = N := by rw [hus, List.length_take]; omega
  have hush : us = layP (ls.take N) := by rw [hus, hys, layP_take]
  have hshape := layP_shape hush
  have hwh : whole ps ls v = lays ps (ls.take N) := by rw [hN]; rfl
  rw [hwh]
  rw [← hN] at hup
  obtain ⟨O, hO⟩ : ∃ O, O = lk (lays ps (ls.take N)) key := ⟨_, rfl⟩
  rw [← hO]
  have hbl := backwardLay_spec us
  obtain ⟨PN, hPN⟩ : ∃ PN, PN = ps.length := ⟨_, rfl⟩
  have hzl : zs.length = PN := by rw [hzs, prP_length, hPN]
  rw [← hPN] at hpn
  refine FnL.flat (R := fun r own => ∃ (s : List UInt8) (b : Bool) (e : Nat), ((E ≠ 0 ∧ s = [] ∧ b = false ∧ e = E) ∨ (E = 0 ∧ e = 0 ∧ s = O.getD [] ∧ b = O.isSome)) ∧ r = .p (.tup [.str s, .bool b, .int .i64 (Int.ofNat e)])) ?_ (by rintro _ _ ⟨s, b, e, h, rfl⟩; exact ⟨_, _, rfl, .refl _, s, b, e, h, rfl, rfl⟩)
  refine fnM_of_vc eOk fOk fo54 Try.func54 rfl rfl rfl fun B hB hBd hBm => ?_
  intro add sub mul quo rem band bor bxor bclr shl shr ieq ilt ile seq slt beq bnot orb bcond iwrap iof ssz hA cat sq sl imin imax smin smax len slen u8 hL op hop call hcall code hcode ret hret
  cbv
  refine hcall _ _ _ _ _ (CallEv.pure hkn (.cons (.imm _ _ _) (.cons (.p _) .nil)) ?_)
  rintro _ _ ⟨e, he, rfl, rfl⟩
  cbv
  by_cases h0 : E = 0
  · have he0 : e = 0 := by omega
    refine vcIf.no (by first | (simp [hA.not, hA.eq, hA.lt, hA.le, hA.cond, hA.beq, hA.orb, hL.len, hL.slen, hL.sq, he0]; done) | (simp only [he0]; simp [hA.not, hA.eq, hA.lt, hA.le, hA.cond, hA.beq, hA.orb, hL.len, hL.slen, hL.sq, he0]; done) | (simp [hA.not, hA.eq, hA.lt, hA.le, hA.cond, hA.beq, hA.orb, hL.len, hL.slen, hL.sq, he0]; omega) | (simp only [he0]; simp [hA.not, hA.eq, hA.lt, hA.le, hA.cond, hA.beq, hA.orb, hL.len, hL.slen, hL.sq, he0]; omega)) ?_
    cbv
    refine hcode _ _ _ (CodeEv.drawA eOk fOk (by kernel_rfl) noX (by kernel_rfl) (by kernel_rfl) (by kernel_rfl) ?_)
    intro add2 sub2 mul2 quo2 rem2 band2 bor2 bxor2 bclr2 shl2 shr2 ieq2 ilt2 ile2 seq2 slt2 beq2 bnot2 orb2 bcond2 iwrap2 iof2 ssz2 hA2 cat2 sq2 sl2 imin2 imax2 smin2 smax2 len2 slen2 u82 hL2 op2 hop2 call2 hcall2 code2 hcode2 q2 hq2
    cbv
    refine hcall2 _ _ _ _ _ (CallEv.pure hup (.cons (.imm _ _ _) (.cons (.p _) .nil)) ?_)
    rintro _ _ ⟨e2, he2, rfl, rfl⟩
    cbv
    refine ⟨0, e2, ys.length, rfl, rfl, rfl, Nat.zero_le _, (by omega), Nat.le_refl _, hyc, fun u hu => ?_⟩
    have hu : u = us := by rw [hu, hus, he2]; rfl
    subst hu
    cbv
    refine hcall2 _ _ _ _ _ (CallEv.same hbl rfl ?_)
    rintro _ _ ⟨rfl, rfl⟩
    cbv
    refine hq2 _ ?_
    cbv
    refine hcode _ _ _ (CodeEv.back eOk fOk (fun _ => hBm) backLay_ok (j := 4) rfl rfl (by rw [hB]; exact Nat.zero_le _) hshape (show 31 < 70 by decide) (show 32 < 70 by decide)
      [(0, psI a f l zs ys), (4, .own 0 0), (6, .own 1 0), (7, .own 2 0), (8, .own 3 0)]
      [.st 9 [.p (.str key)], .st 9 [.p (.str [])], .st 4 [.p (.bool false)], .st 30 [.p (.int .i64 0)], .dead] rfl (by repeat (first | exact trivial | refine And.intro rfl ?_)) rfl
      (fun k => missL key ls (N - k) N) (fun i b h1 h2 => by omega)
      (κ := List UInt8 × Bool) (fun r => [.st 9 [.p (.str key)], .st 9 [.p (.str r.1)], .st 4 [.p (.bool r.2)], .st 30 [.p (.int .i64 0)], .dead]) (fun r => r.1 = O.getD [] ∧ r.2 = O.isSome) ?_ ?_ ?_)
    · intro k x hIv hk hx B1 hB1 hr1 nxt hnxt
      obtain ⟨i, hi⟩ : ∃ i, i = u.length - 1 - k := ⟨_, rfl⟩
      rw [← hi] at hx
      have hiN : i < N := by omega
      have hki : N - k = i + 1 := by omega
      have hki2 : N - (k + 1) = i := by omega
      rw [← hi]
      have hIv : missL key ls (i + 1) N := by rw [← hki]; exact hIv
      rw [hus, List.getElem?_take_of_lt hiN, hys] at hx
      refine Exists.elim (get_of_lt (show i < ls.length by omega)) fun b hb => ?_
      rw [layP_get hb] at hx
      obtain rfl := (Option.some.inj hx).symm
      obtain ⟨hbn, hbf⟩ := hfit b (List.mem_of_getElem? hb)
      obtain ⟨bv, bc⟩ := b
      simp only at hbn hbf
      refine Exists.elim (show ∃ cs, cs = cP bc from ⟨_, rfl⟩) fun cs hcs => ?_
      refine Exists.elim (show ∃ C, C = bc.length from ⟨_, rfl⟩) fun C hC => ?_
      have hcl : cs.length = C := by rw [hcs, cP_length, hC]
      have hsh2 : ∀ (i : Nat) (z : PV), cs[i]? = some z → z.isAgg = true ∧ z.cells.length = 3 := fun i z hz => by
        rw [hcs] at hz; unfold cP at hz; rw [List.getElem?_map] at hz
        cases hl : bc[i]? with
        | none => rw [hl] at hz; cases hz
        | some c => rw [hl] at hz; cases hz; exact ⟨rfl, rfl⟩
      have hbl2 := backwardChg_spec cs
      simp only
      rw [← hcs]
      have hnext : miss key bc 0 → missL key ls (N - (k + 1)) N := fun h => by
        rw [hki2]
        intro q b hq1 hq2 hqb
        rcases Nat.eq_or_lt_of_le hq1 with c | c
        · subst c; rw [hb] at hqb; cases hqb; exact h
        · exact hIv q b c hq2 hqb
      have hhit : ∀ (j : Nat) (c : Chg), bc[j]? = some c → miss key bc (j + 1) → hs (spn c) key = true → O = if c.kind = 1 then some c.val else none := fun j c h1 h2 h3 => by
        rw [hO]; exact lk_hit hps hiN hb hIv h1 h2 h3
      clear hx hup hbl hkn
      intro add3 sub3 mul3 quo3 rem3 band3 bor3 bxor3 bclr3 shl3 shr3 ieq3 ilt3 ile3 seq3 slt3 beq3 bnot3 orb3 bcond3 iwrap3 iof3 ssz3 hA3 cat3 sq3 sl3 imin3 imax3 smin3 smax3 len3 slen3 u83 hL3 op3 hop3 call3 hcall3 code3 hcode3
      cbv
      refine hnxt _ fun B2 hB2 hr2 rd hrd out hout => ?_
      intro add4 sub4 mul4 quo4 rem4 band4 bor4 bxor4 bclr4 shl4 shr4 ieq4 ilt4 ile4 seq4 slt4 beq4 bnot4 orb4 bcond4 iwrap4 iof4 ssz4 hA4 cat4 sq4 sl4 imin4 imax4 smin4 smax4 len4 slen4 u84 hL4 op4 hop4 call4 hcall4 code4 hcode4
      cbv
      refine hcall4 _ _ _ _ _ (CallEv.same hbl2 rfl ?_)
      rintro _ _ ⟨rfl, rfl⟩
      cbv
      refine hcode4 _ _ _ (CodeEv.back eOk fOk (fun h => absurd h hr2) backChg_ok (j := 6) rfl rfl (by rw [hB2]; exact (show 5 ≤ 6 by decide)) hsh2 (show 36 < 70 by decide) (show 37 < 70 by decide)
        [(0, psI a f l zs ys), (4, .own 0 0), (6, .own 1 0), (7, .own 2 0), (8, .own 3 0)]
        [.st 9 [.p (.str key)], .st 9 [.p (.str [])], .st 4 [.p (.bool false)], .st 30 [.p (.int .i64 0)], .dead, .st 155 [.p (.int .i64 bv), .p (.sl cs)], .dead] rfl (by repeat (first | exact trivial | refine And.intro rfl ?_)) rfl
        (fun k => miss key bc (C - k)) (fun i b h1 h2 => absurd (List.getElem?_eq_some_iff.1 h2).1 (by omega))
        (κ := List UInt8 × Bool) (fun r => [.st 9 [.p (.str key)], .st 9 [.p (.str r.1)], .st 4 [.p (.bool r.2)], .st 30 [.p (.int .i64 0)], .dead, .st 155 [.p (.int .i64 bv), .p (.sl cs)], .dead]) (fun r => r.1 = O.getD [] ∧ r.2 = O.isSome) ?_ ?_ ?_)
      · intro k2 x2 hIv2 hk2 hx2 B3 hB3 hr3 nxt2 hnxt2
        obtain ⟨j, hj⟩ : ∃ j, j = cs.length - 1 - k2 := ⟨_, rfl⟩
        rw [← hj] at hx2
        have hjC : j < C := by omega
        have hkj : C - k2 = j + 1 := by omega
        have hkj2 : C - (k2 + 1) = j := by omega
        rw [← hj]
        have hIv2 : miss key bc (j + 1) := by rw [← hkj]; exact hIv2
        refine Exists.elim (get_of_lt (show j < bc.length by omega)) fun c hc => ?_
        rw [hcs, cP_get hc] at hx2
        obtain rfl := (Option.some.inj hx2).symm
        have hcf := hbf c (List.mem_of_getElem? hc)
        have hhit := hhit j c hc hIv2
        have hsp := chSpan_spec c.kind c.key c.val hcf.1
        have hkp := kept_spec c.kind c.key c.val
        have hnext2 : hs (spn c) key = false → miss key bc (C - (k2 + 1)) := fun h => by
          rw [hkj2]
          intro q d hq hqd
          rcases Nat.eq_or_lt_of_le hq with c' | c'
          · subst c'; rw [hc] at hqd; cases hqd; exact h
          · exact hIv2 q d c' hqd
        have hvl := hcf.2.1
        obtain ⟨ck, cy, cv⟩ := c
        simp only at hhit hsp hkp hvl hnext2
        refine Exists.elim (show ∃ m, m = spn ⟨ck, cy, cv⟩ from ⟨_, rfl⟩) fun m hm => ?_
        rw [← hm] at hsp hhit hnext2
        have hha := has_spec m.lo m.hi key
        obtain ⟨mlo, mhi⟩ := m
        simp only at hsp hha
        clear hx2 hbl2
        intro add5 sub5 mul5 quo5 rem5 band5 bor5 bxor5 bclr5 shl5 shr5 ieq5 ilt5 ile5 seq5 slt5 beq5 bnot5 orb5 bcond5 iwrap5 iof5 ssz5 hA5 cat5 sq5 sl5 imin5 imax5 smin5 smax5 len5 slen5 u85 hL5 op5 hop5 call5 hcall5 code5 hcode5
        cbv
        refine hnxt2 _ fun B4 hB4 hr4 rd2 hrd2 out2 hout2 => ?_
        intro add6 sub6 mul6 quo6 rem6 band6 bor6 bxor6 bclr6 shl6 shr6 ieq6 ilt6 ile6 seq6 slt6 beq6 bnot6 orb6 bcond6 iwrap6 iof6 ssz6 hA6 cat6 sq6 sl6 imin6 imax6 smin6 smax6 len6 slen6 u86 hL6 op6 hop6 call6 hcall6 code6 hcode6
        cbv
        refine hcode6 _ _ _ (CodeEv.drawA eOk fOk (by kernel_rfl) noX (by kernel_rfl) (by kernel_rfl) (by kernel_rfl) ?_)
        intro add7 sub7 mul7 quo7 rem7 band7 bor7 bxor7 bclr7 shl7 shr7 ieq7 ilt7 ile7 seq7 slt7 beq7 bnot7 orb7 bcond7 iwrap7 iof7 ssz7 hA7 cat7 sq7 sl7 imin7 imax7 smin7 smax7 len7 slen7 u87 hL7 op7 hop7 call7 hcall7 code7 hcode7 q7 hq7
        cbv
        refine hcall7 _ _ _ _ _ (CallEv.same hsp rfl ?_)
        rintro _ _ ⟨m', hm', rfl, rfl⟩
        subst hm'
        cbv
        refine hcall7 _ _ _ _ _ (CallEv.same hha rfl ?_)
        rintro _ _ ⟨hb', hhb, rfl, rfl⟩
        cbv
        refine hq7 _ ?_
        cbv
        cases hb' with
        | true =>
          have hO2 := hhit hhb.symm
          cbv
          refine hcode6 _ _ _ (CodeEv.drawA eOk fOk (by kernel_rfl) (Xof 8 [1, 2, 3]) (by kernel_rfl) (by kernel_rfl) (by kernel_rfl) ?_)
          have hkv : O.isSome = decide (ck = 1) ∧ ∀ (e : Nat) (w : List UInt8), e = (if ck = 1 then 1 else 0) → w = (cv.drop 0).take (cv.length * e - 0) → w = O.getD [] := by
            rw [hO2]
            by_cases h1 : ck = 1
            · simp only [h1, if_pos]
              exact ⟨rfl, fun e w he hw => by subst he; rw [hw]; simp⟩
            · simp only [h1, if_false]
              exact ⟨rfl, fun e w he hw => by subst he; rw [hw]; simp⟩
          have hel : ∀ e : Nat, e = (if ck = 1 then 1 else 0) → cv.length * e ≤ cv.length := fun e he => by
            subst he; split <;> simp
          intro add8 sub8 mul8 quo8 rem8 band8 bor8 bxor8 bclr8 shl8 shr8 ieq8 ilt8 ile8 seq8 slt8 beq8 bnot8 orb8 bcond8 iwrap8 iof8 ssz8 hA8 cat8 sq8 sl8 imin8 imax8 smin8 smax8 len8 slen8 u88 hL8 op8 hop8 call8 hcall8 code8 hcode8 q8 hq8
          cbv
          refine hcall8 _ _ _ _ _ (CallEv.same hkp rfl ?_)
          rintro _ _ ⟨e3, he3, rfl, rfl⟩
          have hel := hel e3 he3
          have hmul : mul8 .i64 (slen8 cv) (Int.ofNat e3) = Int.ofNat (cv.length * e3) := by
            have e1 : (Int.ofNat cv.length) * (Int.ofNat e3) = Int.ofNat (cv.length * e3) := by simp
            rw [hA8.mul, hL8.slen]
            show IntKind.i64.wrap (Int.ofNat cv.length * Int.ofNat e3) = _
            rw [e1, IntWalk.i64_in _ (by simp only [Int.ofNat_eq_natCast]; omega)]
          cbv
          refine ⟨0, cv.length * e3, rfl, hmul, Nat.zero_le _, hel, fun w hw => ?_⟩
          cbv
          refine hq8 _ ?_
          cbv
          exact hout2 _ (w, ieq8 ck 1) ⟨hkv.2 e3 w he3 hw, by rw [hkv.1, hA8.eq]; rfl⟩ ⟨_, rfl, rfl⟩ (Nat.le_refl _)
        | false =>
          have hnx := hnext2 hhb.symm
          cbv
          exact hrd2 _ ⟨_, rfl, rfl⟩ hnx
      · intro hIv2
        have hnx := hnext (by rw [hcl, Nat.sub_self] at hIv2; exact hIv2)
        cbv
        exact hrd _ ⟨_, rfl, rfl⟩ hnx
      · rintro ⟨s, b⟩ ⟨h1, h2⟩
        cbv
        exact hout _ (s, b) ⟨h1, h2⟩ ⟨_, rfl, rfl⟩ (Nat.le_refl _)
    · intro hIv
      have hO3 : O = lk ps key := by rw [hO]; exact lk_miss hps (by rw [hul, Nat.sub_self] at hIv; exact hIv)
      cbv
      refine hcode _ _ _ (CodeEv.loop eOk fOk (ι := Nat) (fun s => [(4, .own 0 0), (6, .own 1 0), (7, .own 2 0), (8, .own 3 0), (57, .p (.sl zs)), (58, .p (.int .i64 (Int.ofNat PN))), (59, .p (.int .i64 (Int.ofNat s)))])
        (fun s => [.st 9 [.p (.str key)], .st 9 [.p (.str [])], .st 4 [.p (.bool false)], .st 30 [.p (.int .i64 0)], .dead]) (fun s => s ≤ PN ∧ ∀ (j : Nat) (q : Pr), j < s → ps[j]? = some q → q.key ≠ key) (fun s => PN - s) 0 ?_ ?_)
      · refine ⟨⟨rfl, rfl, rfl, rfl, rfl, ?_, rfl, trivial⟩, rfl, Nat.zero_le _, fun j q h => absurd h (Nat.not_lt_zero j)⟩
        show some (V.p (.int .i64 (len zs))) = _
        rw [hL.len, hzl]; rfl
      rintro i ⟨k1, k2⟩ rd hrd
      by_cases hi : i < PN
      · refine Exists.elim (get_of_lt (show i < ps.length by omega)) fun p hp => ?_
        have hzi : zs[i]? = some (.agg [.str p.key, .str p.val]) := by rw [hzs]; unfold prP; rw [List.getElem?_map, hp]; rfl
        have hnx : p.key ≠ key → ∀ (j : Nat) (q : Pr), j < i + 1 → ps[j]? = some q → q.key ≠ key := fun h j q hj hq => by
          rcases Nat.lt_succ_iff_lt_or_eq.1 hj with c | c
          · exact k2 j q c hq
          · subst c; rw [hp] at hq; cases hq; exact h
        have hfd : p.key = key → O = some p.val := fun h => by rw [hO3]; exact lk_at k2 hp h
        obtain ⟨pk, pv⟩ := p
        simp only at hzi hnx hfd
        intro add3 sub3 mul3 quo3 rem3 band3 bor3 bxor3 bclr3 shl3 shr3 ieq3 ilt3 ile3 seq3 slt3 beq3 bnot3 orb3 bcond3 iwrap3 iof3 ssz3 hA3 cat3 sq3 sl3 imin3 imax3 smin3 smax3 len3 slen3 u83 hL3 op3 hop3 call3 hcall3 code3 hcode3
        have hadd : add3 .i64 (Int.ofNat i) 1 = Int.ofNat (i + 1) := by rw [hA3.add, IntWalk.i64_in _ (by simp only [Int.ofNat_eq_natCast]; omega)]; rfl
        cbv
        refine vcIf.yes (by first | (simp [hA3.not, hA3.eq, hA3.lt, hA3.le, hA3.cond, hA3.beq, hA3.orb, hL3.len, hL3.slen, hL3.sq, hi]; done) | (simp only [hi]; simp [hA3.not, hA3.eq, hA3.lt, hA3.le, hA3.cond, hA3.beq, hA3.orb, hL3.len, hL3.slen, hL3.sq, hi]; done) | (simp [hA3.not, hA3.eq, hA3.lt, hA3.le, hA3.cond, hA3.beq, hA3.orb, hL3.len, hL3.slen, hL3.sq, hi]; omega) | (simp only [hi]; simp [hA3.not, hA3.eq, hA3.lt, hA3.le, hA3.cond, hA3.beq, hA3.orb, hL3.len, hL3.slen, hL3.sq, hi]; omega)) ?_
        cbv
        refine ⟨i, _, rfl, hzi, rfl, ?_⟩
        cbv
        by_cases hk : pk = key
        · have hO4 := hfd hk
          refine vcIf.yes (by rw [hL3.sq]; exact decide_eq_true hk) ?_
          cbv
          exact hret _ (RetEv.ret eOk rfl ⟨pv, true, 0, .inr ⟨h0, rfl, by rw [hO4]; rfl, by rw [hO4]; rfl⟩, rfl⟩)
        · have hnx := hnx hk
          refine vcIf.no (by rw [hL3.sq]; exact decide_eq_false hk) ?_
          cbv
          refine hrd _ ⟨i + 1, _, ?_, ⟨hi, hnx⟩, rfl, ⟨rfl, rfl, rfl, rfl, rfl, rfl, ?_, trivial⟩, rfl, rfl, rfl, ?_⟩
          · show PN - (i + 1) < PN - i
            omega
          · show some (V.p (.int .i64 _)) = _
            rw [hadd]
          · rw [hB]; exact Nat.zero_le _
      · have hO4 : O = none := by rw [hO3]; exact lk_none fun q hq => by obtain ⟨j, hj⟩ := List.mem_iff_getElem?.1 hq; exact k2 j q (by have := (List.getElem?_eq_some_iff.1 hj).1; omega) hj
        intro add3 sub3 mul3 quo3 rem3 band3 bor3 bxor3 bclr3 shl3 shr3 ieq3 ilt3 ile3 seq3 slt3 beq3 bnot3 orb3 bcond3 iwrap3 iof3 ssz3 hA3 cat3 sq3 sl3 imin3 imax3 smin3 smax3 len3 slen3 u83 hL3 op3 hop3 call3 hcall3 code3 hcode3
        cbv
        refine vcIf.no (by first | (simp [hA3.not, hA3.eq, hA3.lt, hA3.le, hA3.cond, hA3.beq, hA3.orb, hL3.len, hL3.slen, hL3.sq, hi]; done) | (simp only [hi]; simp [hA3.not, hA3.eq, hA3.lt, hA3.le, hA3.cond, hA3.beq, hA3.orb, hL3.len, hL3.slen, hL3.sq, hi]; done) | (simp [hA3.not, hA3.eq, hA3.lt, hA3.le, hA3.cond, hA3.beq, hA3.orb, hL3.len, hL3.slen, hL3.sq, hi]; omega) | (simp only [hi]; simp [hA3.not, hA3.eq, hA3.lt, hA3.le, hA3.cond, hA3.beq, hA3.orb, hL3.len, hL3.slen, hL3.sq, hi]; omega)) ?_
        cbv
        exact hret _ (RetEv.ret eOk rfl ⟨[], false, 0, .inr ⟨h0, rfl, by rw [hO4]; rfl, by rw [hO4]; rfl⟩, rfl⟩)
    · rintro ⟨s, b⟩ ⟨h1, h2⟩
      cbv
      exact hret _ (RetEv.ret eOk rfl ⟨s, b, 0, .inr ⟨h0, rfl, h1, h2⟩, rfl⟩)
  · have he0 : ¬ e = 0 := by omega
    refine vcIf.yes (by first | (simp [hA.not, hA.eq, hA.lt, hA.le, hA.cond, hA.beq, hA.orb, hL.len, hL.slen, hL.sq, he0]; done) | (simp only [he0]; simp [hA.not, hA.eq, hA.lt, hA.le, hA.cond, hA.beq, hA.orb, hL.len, hL.slen, hL.sq, he0]; done) | (simp [hA.not, hA.eq, hA.lt, hA.le, hA.cond, hA.beq, hA.orb, hL.len, hL.slen, hL.sq, he0]; omega) | (simp only [he0]; simp [hA.not, hA.eq, hA.lt, hA.le, hA.cond, hA.beq, hA.orb, hL.len, hL.slen, hL.sq, he0]; omega)) ?_
    cbv
    exact hret _ (RetEv.ret eOk rfl ⟨_, _, e, .inl ⟨h0, rfl, rfl, he⟩, rfl⟩)
end Go.Proofs.Ytnigonhkfpnodaa
end
section
namespace Go.Proofs.Ytnigonhkfpnodaa
open Go Go.Lx
open Go.Sx (vcIf)

theorem cloneC_spec (l : List Chg) (hn : l.length * 40 ≤ 140737488355328) (zs : List PV) (hzs : zs = cP l) :
    FnL Try.prog 88 [.p (.sl zs)] [] fun v own => v = .p (.sl zs) ∧ own = [] := by
  refine FnL.flat (R := fun v own => ∃ x, v = .p x ∧ PW x (.sl zs)) ?_ (by rintro _ _ ⟨x, rfl, h⟩; exact ⟨_, _, rfl, h, rfl, rfl⟩)
  obtain ⟨n, hnn⟩ : ∃ n, n = l.length := ⟨_, rfl⟩
  have hl : zs.length = n := by rw [hzs, cP_length, hnn]
  have hw : Wf 3 zs := by rw [hzs]; exact cP_wf l
  rw [← hnn] at hn
  refine fn_of_vc eOk fOk fo88 Try.func88 rfl rfl rfl fun B hB => ?_
  intro add sub mul quo rem band bor bxor bclr shl shr ieq ilt ile seq slt beq bnot orb bcond iwrap iof ssz hA cat sq sl imin imax smin smax len slen u8 hL op hop call hcall code hcode ret hret
  cbv
  intro b hb
  cbv
  cases b with
  | true =>
    have h0 := hb rfl
    cbv
    exact hret _ (RetEv.ret eOk rfl ⟨_, rfl, by rw [h0]; exact PW.nils⟩)
  | false =>
    cbv
    refine ⟨true, ?_⟩
    cbv
    refine .inl ⟨(), rfl, rfl, hw, ?_, ?_, ?_⟩
    · show 0 + zs.length ≤ maxLen
      unfold maxLen; omega
    · show (0 + zs.length) * 40 ≤ _
      omega
    intro us n' hu hn'
    replace hu : us = [] ++ zs := hu
    replace hn' : n' = 0 + zs.length := hn'
    have e1 : (us.drop 0).take n' = zs := by rw [hu, hn', List.drop_zero, List.nil_append, Nat.zero_add, List.take_length]
    cbv
    refine hret _ (RetEv.retF eOk rfl 0 rfl (by rw [hB]; exact Nat.zero_le _) ⟨.sl ((us.drop 0).take n'), rfl, ?_⟩)
    rw [e1]; exact PW.refl _
theorem cloneL_spec (xs : List PV) (off n : Nat) (us : List PV) (hus : us = (xs.drop off).take n) (hul : us.length = n) (hw : Wf 2 us) (hn : n * 32 ≤ 140737488355328) :
    FnL Try.prog 101 [.vw 0 2 off n none] [psA xs] fun v own => v = .vw 1 2 0 n none ∧ own = [psA xs, psA us] := by
  refine fn_of_vc eOk fOk fo101 Try.func101 rfl rfl rfl fun B hB => ?_
  intro add sub mul quo rem band bor bxor bclr shl shr ieq ilt ile seq slt beq bnot orb bcond iwrap iof ssz hA cat sq sl imin imax smin smax len slen u8 hL op hop call hcall code hcode ret hret
  cbv
  intro b hb
  cbv
  cases b with
  | true =>
    have h0 := hb rfl
    have hu0 : us = [] := List.length_eq_zero_iff.1 (by omega)
    cbv
    refine hret _ (RetEv.convC (Conv.hollow 2 155 2 (by decide) rfl) (RetEv.ret eOk rfl ⟨?_, ?_⟩))
    · rw [h0]; rfl
    · rw [hu0]; rfl
  | false =>
    cbv
    refine ⟨true, ?_⟩
    cbv
    refine .inl ⟨(), rfl, rfl, ?_, ?_, ?_, ?_⟩
    · show Wf 2 ((xs.drop off).take n)
      rw [← hus]; exact hw
    · show 0 + ((xs.drop off).take n).length ≤ maxLen
      rw [← hus, hul]; unfold maxLen; omega
    · show (0 + ((xs.drop off).take n).length) * 32 ≤ _
      rw [← hus, hul]; omega
    intro ws n' hu hn'
    replace hu : ws = [] ++ (xs.drop off).take n := hu
    replace hn' : n' = 0 + ((xs.drop off).take n).length := hn'
    rw [← hus] at hu hn'
    rw [List.nil_append] at hu
    obtain rfl : n' = n := by omega
    subst hu
    cbv
    exact hret _ (RetEv.ret eOk rfl ⟨rfl, rfl⟩)
theorem ends_spec (a f l : Int) (zs ys : List PV) : FnL Try.prog 49 [psI a f l zs ys] [] fun r own => r = .p (.tup [.int .i64 f, .int .i64 l]) ∧ own = [] := by
  refine FnL.flat (R := fun r own => r = .p (.tup [.int .i64 f, .int .i64 l])) ?_ (by rintro _ _ rfl; exact ⟨_, _, rfl, .refl _, rfl, rfl⟩)
  refine fn_of_vc eOk fOk fo49 Try.func49 rfl rfl rfl fun B hB => ?_
  intro add sub mul quo rem band bor bxor bclr shl shr ieq ilt ile seq slt beq bnot orb bcond iwrap iof ssz hA cat sq sl imin imax smin smax len slen u8 hL op hop call hcall code hcode ret hret
  cbv
  refine hcode _ _ _ (CodeEv.drawA eOk fOk (by kernel_rfl) noX (by kernel_rfl) (by kernel_rfl) (by kernel_rfl) ?_)
  intro add2 sub2 mul2 quo2 rem2 band2 bor2 bxor2 bclr2 shl2 shr2 ieq2 ilt2 ile2 seq2 slt2 beq2 bnot2 orb2 bcond2 iwrap2 iof2 ssz2 hA2 cat2 sq2 sl2 imin2 imax2 smin2 smax2 len2 slen2 u82 hL2 op2 hop2 call2 hcall2 code2 hcode2 q2 hq2
  cbv
  refine hq2 _ ?_
  cbv
  exact hret _ (RetEv.ret eOk rfl rfl)
theorem ends_nil : FnL Try.prog 49 [.p .nilp] [] fun r own => r = .p (.tup [.int .i64 0, .int .i64 0]) ∧ own = [] := by
  refine fn_of_vc eOk fOk fo49 Try.func49 rfl rfl rfl fun B hB => ?_
  intro add sub mul quo rem band bor bxor bclr shl shr ieq ilt ile seq slt beq bnot orb bcond iwrap iof ssz hA cat sq sl imin imax smin smax len slen u8 hL op hop call hcall code hcode ret hret
  cbv
  exact hret _ (RetEv.ret eOk rfl ⟨rfl, rfl⟩)
theorem soundP_spec (ps : List Pr) (hn : ps.length < 281474976710656) (hb : ∀ p ∈ ps, p.fit) (zs : List PV) (hzs : zs = prP ps) :
    FnL Try.prog 111 [.p (.sl zs)] [] fun v own => v = .p (.bool (sndP ps)) ∧ own = [] := by
  obtain ⟨R, hR⟩ : ∃ R, R = sndP ps := ⟨_, rfl⟩
  rw [← hR]
  refine FnL.flat (R := fun v own => v = .p (.bool R)) ?_ (by rintro _ _ rfl; exact ⟨_, _, rfl, .refl _, rfl, rfl⟩)
  obtain ⟨N, hN⟩ : ∃ n, n = ps.length := ⟨_, rfl⟩
  have hzl : zs.length = N := by rw [hzs, prP_length, hN]
  refine fn_of_vc eOk fOk fo111 Try.func111 rfl rfl rfl fun B hB => ?_
  intro add sub mul quo rem band bor bxor bclr shl shr ieq ilt ile seq slt beq bnot orb bcond iwrap iof ssz hA cat sq sl imin imax smin smax len slen u8 hL op hop call hcall code hcode ret hret
  have hlen : len zs = Int.ofNat N := by rw [hL.len, hzl]; rfl
  cbv
  refine hcode _ _ _ (CodeEv.loop eOk fOk (ι := Nat) (fun s => [(0, .p (.sl zs)), (5, .p (.sl zs)), (6, .p (.int .i64 (Int.ofNat N))), (7, .p (.int .i64 (Int.ofNat s)))])
    (fun s => []) (fun s => s ≤ N ∧ ∀ q, q < s → gP ps q = true) (fun s => N - s) 0 ?_ ?_)
  · refine ⟨⟨rfl, rfl, ?_, rfl, trivial⟩, rfl, Nat.zero_le _, fun q h => absurd h (Nat.not_lt_zero q)⟩
    show some (V.p (.int .i64 (len zs))) = _
    rw [hlen]
  rintro i ⟨k1, k2⟩ rd hrd
  by_cases hi : i < N
  · refine Exists.elim (get_of_lt (show i < ps.length by omega)) fun p hpi => ?_
    have hbl := hb p (List.mem_of_getElem? hpi)
    have bad := fun h => hR.trans (sndP_bad hpi h)
    have good := (gP_some hpi).2
    have hzi : zs[i]? = some (.agg [.str p.key, .str p.val]) := by rw [hzs]; exact prP_get hpi
    obtain ⟨ky, vl⟩ := p
    simp only at hzi bad good
    refine Exists.elim (show ∃ n, n = ky.length from ⟨_, rfl⟩) fun n hnn => ?_
    refine Exists.elim (show ∃ n, n = vl.length from ⟨_, rfl⟩) fun m hmm => ?_
    rw [← hnn, ← hmm] at bad good
    intro add1 sub1 mul1 quo1 rem1 band1 bor1 bxor1 bclr1 shl1 shr1 ieq1 ilt1 ile1 seq1 slt1 beq1 bnot1 orb1 bcond1 iwrap1 iof1 ssz1 hA1 cat1 sq1 sl1 imin1 imax1 smin1 smax1 len1 slen1 u81 hL1 op1 hop1 call1 hcall1 code1 hcode1
    have hadd1 : add1 .i64 (Int.ofNat i) 1 = Int.ofNat (i + 1) := by rw [hA1.add, IntWalk.i64_in _ (by simp only [Int.ofNat_eq_natCast]; omega)]; rfl
    cbv
    refine vcIf.yes (by first | (simp [hA1.not, hA1.eq, hA1.lt, hA1.le, hA1.cond, hA1.beq, hA1.orb, hL1.len, hL1.slen, hL1.sq, hi]; done) | (simp only [hi]; simp [hA1.not, hA1.eq, hA1.lt, hA1.le, hA1.cond, hA1.beq, hA1.orb, hL1.len, hL1.slen, hL1.sq, hi]; done) | (simp [hA1.not, hA1.eq, hA1.lt, hA1.le, hA1.cond, hA1.beq, hA1.orb, hL1.len, hL1.slen, hL1.sq, hi]; omega) | (simp only [hi]; simp [hA1.not, hA1.eq, hA1.lt, hA1.le, hA1.cond, hA1.beq, hA1.orb, hL1.len, hL1.slen, hL1.sq, hi]; omega)) ?_
    cbv
    refine ⟨i, _, rfl, hzi, rfl, ?_⟩
    cbv
    refine hcode1 _ _ _ (CodeEv.drawT eOk fOk (by kernel_rfl) noX (.so 0 (.so 1 (.so 2 (.so 3 (.so 4 (.so 5 (.so 6 (.so 7 (.so 8 (.so 9 (.so 10 (.so 11 (.so 12 (.so 13 (.rd 14 (.rd 15 (.rd 16 (.so 17 (.so 18 (.so 19 (.so 20 (.so 21 (.so 22 (.so 23 (.so 24 (.done)))))))))))))))))))))))))) (by kernel_rfl) (by kernel_rfl) ?_)
    intro add2 sub2 mul2 quo2 rem2 band2 bor2 bxor2 bclr2 shl2 shr2 ieq2 ilt2 ile2 seq2 slt2 beq2 bnot2 orb2 bcond2 iwrap2 iof2 ssz2 hA2 cat2 sq2 sl2 imin2 imax2 smin2 smax2 len2 slen2 u82 hL2 op2 hop2 call2 hcall2 code2 hcode2 q2 hq2
    have e1 : slen2 ky = Int.ofNat n := by rw [hL2.slen, hnn]; rfl
    have e2 : slen2 vl = Int.ofNat m := by rw [hL2.slen, hmm]; rfl
    cbv
    by_cases h0 : 16 < n
    · have hf := bad (by omega)
      refine vcIf.yes (by first | (simp [hA2.not, hA2.eq, hA2.lt, hA2.le, hA2.cond, hA2.beq, hA2.orb, hL2.len, hL2.slen, hL2.sq, e1, h0]; done) | (simp only [e1, h0]; simp [hA2.not, hA2.eq, hA2.lt, hA2.le, hA2.cond, hA2.beq, hA2.orb, hL2.len, hL2.slen, hL2.sq, e1, h0]; done) | (simp [hA2.not, hA2.eq, hA2.lt, hA2.le, hA2.cond, hA2.beq, hA2.orb, hL2.len, hL2.slen, hL2.sq, e1, h0]; omega) | (simp only [e1, h0]; simp [hA2.not, hA2.eq, hA2.lt, hA2.le, hA2.cond, hA2.beq, hA2.orb, hL2.len, hL2.slen, hL2.sq, e1, h0]; omega)) ?_
      cbv
      refine hq2 _ ?_
      cbv
      exact hret _ (RetEv.ret eOk rfl (by rw [hf]; rfl))
    refine vcIf.no (by first | (simp [hA2.not, hA2.eq, hA2.lt, hA2.le, hA2.cond, hA2.beq, hA2.orb, hL2.len, hL2.slen, hL2.sq, e1, h0]; done) | (simp only [e1, h0]; simp [hA2.not, hA2.eq, hA2.lt, hA2.le, hA2.cond, hA2.beq, hA2.orb, hL2.len, hL2.slen, hL2.sq, e1, h0]; done) | (simp [hA2.not, hA2.eq, hA2.lt, hA2.le, hA2.cond, hA2.beq, hA2.orb, hL2.len, hL2.slen, hL2.sq, e1, h0]; omega) | (simp only [e1, h0]; simp [hA2.not, hA2.eq, hA2.lt, hA2.le, hA2.cond, hA2.beq, hA2.orb, hL2.len, hL2.slen, hL2.sq, e1, h0]; omega)) ?_
    cbv
    by_cases h16 : 64 < m
    · have hf := bad (by omega)
      refine vcIf.yes (by first | (simp [hA2.not, hA2.eq, hA2.lt, hA2.le, hA2.cond, hA2.beq, hA2.orb, hL2.len, hL2.slen, hL2.sq, e2, h16]; done) | (simp only [e2, h16]; simp [hA2.not, hA2.eq, hA2.lt, hA2.le, hA2.cond, hA2.beq, hA2.orb, hL2.len, hL2.slen, hL2.sq, e2, h16]; done) | (simp [hA2.not, hA2.eq, hA2.lt, hA2.le, hA2.cond, hA2.beq, hA2.orb, hL2.len, hL2.slen, hL2.sq, e2, h16]; omega) | (simp only [e2, h16]; simp [hA2.not, hA2.eq, hA2.lt, hA2.le, hA2.cond, hA2.beq, hA2.orb, hL2.len, hL2.slen, hL2.sq, e2, h16]; omega)) ?_
      cbv
      refine hq2 _ ?_
      cbv
      exact hret _ (RetEv.ret eOk rfl (by rw [hf]; rfl))
    refine vcIf.no (by first | (simp [hA2.not, hA2.eq, hA2.lt, hA2.le, hA2.cond, hA2.beq, hA2.orb, hL2.len, hL2.slen, hL2.sq, e2, h16]; done) | (simp only [e2, h16]; simp [hA2.not, hA2.eq, hA2.lt, hA2.le, hA2.cond, hA2.beq, hA2.orb, hL2.len, hL2.slen, hL2.sq, e2, h16]; done) | (simp [hA2.not, hA2.eq, hA2.lt, hA2.le, hA2.cond, hA2.beq, hA2.orb, hL2.len, hL2.slen, hL2.sq, e2, h16]; omega) | (simp only [e2, h16]; simp [hA2.not, hA2.eq, hA2.lt, hA2.le, hA2.cond, hA2.beq, hA2.orb, hL2.len, hL2.slen, hL2.sq, e2, h16]; omega)) ?_
    cbv
    by_cases hi0 : 0 < i
    · refine Exists.elim (get_of_lt (show i - 1 < ps.length by omega)) fun a hai => ?_
      have hza : zs[i - 1]? = some (.agg [.str a.key, .str a.val]) := by rw [hzs]; exact prP_get hai
      have hga : ps.getD (i - 1) ⟨[], []⟩ = a := by rw [List.getD_eq_getElem?_getD, hai]; rfl
      rw [hga] at bad good
      obtain ⟨ak, av⟩ := a
      simp only at hza bad good
      refine Exists.elim (show ∃ j, j = i - 1 from ⟨_, rfl⟩) fun j hj => ?_
      rw [← hj] at hza
      have hsub : sub2 .i64 (Int.ofNat i) 1 = Int.ofNat j := by rw [hA2.sub, IntWalk.i64_in _ (by simp only [Int.ofNat_eq_natCast]; omega), hj]; simp only [Int.ofNat_eq_natCast]; omega
      have hle : orb2 (sl2 ky ak) (sq2 ky ak) = !(bl ak ky) := by rw [hA2.orb, hL2.sl, hL2.sq, ← bl_gt ky ak]; simp
      refine vcIf.yes (by first | (simp [hA2.not, hA2.eq, hA2.lt, hA2.le, hA2.cond, hA2.beq, hA2.orb, hL2.len, hL2.slen, hL2.sq, hi0]; done) | (simp only [hi0]; simp [hA2.not, hA2.eq, hA2.lt, hA2.le, hA2.cond, hA2.beq, hA2.orb, hL2.len, hL2.slen, hL2.sq, hi0]; done) | (simp [hA2.not, hA2.eq, hA2.lt, hA2.le, hA2.cond, hA2.beq, hA2.orb, hL2.len, hL2.slen, hL2.sq, hi0]; omega) | (simp only [hi0]; simp [hA2.not, hA2.eq, hA2.lt, hA2.le, hA2.cond, hA2.beq, hA2.orb, hL2.len, hL2.slen, hL2.sq, hi0]; omega)) ?_
      cbv
      refine ⟨j, _, hsub, hza, rfl, ?_⟩
      cbv
      refine hq2 _ ?_
      cbv
      by_cases hab : bl ak ky = true
      · have hgood := good ⟨by omega, by omega, .inr hab⟩
        refine vcIf.no (by rw [hle, show Op.bytesLess ak ky = true from hab]; simp [hA2.cond, cond]) ?_
        cbv
        refine hrd _ ⟨i + 1, _, ?_, ⟨hi, ?_⟩, rfl, ⟨rfl, rfl, rfl, ?_, trivial⟩, rfl, rfl, rfl, ?_⟩
        · show N - (i + 1) < N - i
          omega
        · intro q hq
          rcases Nat.lt_succ_iff_lt_or_eq.1 hq with c | c
          · exact k2 q c
          · rw [c]; exact hgood
        · show some (V.p (.int .i64 _)) = _
          rw [hadd1]
        · rw [hB]; exact Nat.le_refl _
      · have hf := bad (fun c => by rcases c.2.2 with c | c; omega; exact hab c)
        refine vcIf.yes (by rw [hle, show Op.bytesLess ak ky = false from Bool.eq_false_iff.2 hab]; simp [hA2.cond, cond]) ?_
        cbv
        exact hret _ (RetEv.ret eOk rfl (by rw [hf]; rfl))
    · have hgood := good ⟨by omega, by omega, .inl (by omega)⟩
      refine vcIf.no (by first | (simp [hA2.not, hA2.eq, hA2.lt, hA2.le, hA2.cond, hA2.beq, hA2.orb, hL2.len, hL2.slen, hL2.sq, hi0]; done) | (simp only [hi0]; simp [hA2.not, hA2.eq, hA2.lt, hA2.le, hA2.cond, hA2.beq, hA2.orb, hL2.len, hL2.slen, hL2.sq, hi0]; done) | (simp [hA2.not, hA2.eq, hA2.lt, hA2.le, hA2.cond, hA2.beq, hA2.orb, hL2.len, hL2.slen, hL2.sq, hi0]; omega) | (simp only [hi0]; simp [hA2.not, hA2.eq, hA2.lt, hA2.le, hA2.cond, hA2.beq, hA2.orb, hL2.len, hL2.slen, hL2.sq, hi0]; omega)) ?_
      cbv
      refine hq2 _ ?_
      cbv
      refine vcIf.no (by first | (simp [hA2.not, hA2.eq, hA2.lt, hA2.le, hA2.cond, hA2.beq, hA2.orb, hL2.len, hL2.slen, hL2.sq]; done) | (simp [hA2.not, hA2.eq, hA2.lt, hA2.le, hA2.cond, hA2.beq, hA2.orb, hL2.len, hL2.slen, hL2.sq]; omega)) ?_
      cbv
      refine hrd _ ⟨i + 1, _, ?_, ⟨hi, ?_⟩, rfl, ⟨rfl, rfl, rfl, ?_, trivial⟩, rfl, rfl, rfl, ?_⟩
      · show N - (i + 1) < N - i
        omega
      · intro q hq
        rcases Nat.lt_succ_iff_lt_or_eq.1 hq with c | c
        · exact k2 q c
        · rw [c]; exact hgood
      · show some (V.p (.int .i64 _)) = _
        rw [hadd1]
      · rw [hB]; exact Nat.le_refl _
  · have hin : i = N := by omega
    have hR2 : R = true := by
      rw [hR, sndP, ← hN]
      exact decide_eq_true fun q hq => k2 q (by omega)
    intro add1 sub1 mul1 quo1 rem1 band1 bor1 bxor1 bclr1 shl1 shr1 ieq1 ilt1 ile1 seq1 slt1 beq1 bnot1 orb1 bcond1 iwrap1 iof1 ssz1 hA1 cat1 sq1 sl1 imin1 imax1 smin1 smax1 len1 slen1 u81 hL1 op1 hop1 call1 hcall1 code1 hcode1
    cbv
    refine vcIf.no (by first | (simp [hA1.not, hA1.eq, hA1.lt, hA1.le, hA1.cond, hA1.beq, hA1.orb, hL1.len, hL1.slen, hL1.sq, hi]; done) | (simp only [hi]; simp [hA1.not, hA1.eq, hA1.lt, hA1.le, hA1.cond, hA1.beq, hA1.orb, hL1.len, hL1.slen, hL1.sq, hi]; done) | (simp [hA1.not, hA1.eq, hA1.lt, hA1.le, hA1.cond, hA1.beq, hA1.orb, hL1.len, hL1.slen, hL1.sq, hi]; omega) | (simp only [hi]; simp [hA1.not, hA1.eq, hA1.lt, hA1.le, hA1.cond, hA1.beq, hA1.orb, hL1.len, hL1.slen, hL1.sq, hi]; omega)) ?_
    cbv
    exact hret _ (RetEv.ret eOk rfl (by rw [hR2]; rfl))
end Go.Proofs.Ytnigonhkfpnodaa
end
section
namespace Go.Proofs.Ytnigonhkfpnodaa
open Go Go.Lx
open Go.Sx (vcIf)

theorem from_spec (v : Int) (ps : List Pr) (hn : ps.length * 32 ≤ 140737488355328) (hb : ∀ p ∈ ps, p.fit) (zs : List PV) (hzs : zs = prP ps) :
    FnL Try.prog 83 [.p (.int .i64 v), .p (.sl zs)] [] fun r own => (v < 0 ∧ r = .p (.tup [.nilp, .int .i64 1]) ∧ own = []) ∨ (¬ v < 0 ∧ sndP ps = false ∧ r = .p (.tup [.nilp, .int .i64 2]) ∧ own = []) ∨
      (¬ v < 0 ∧ sndP ps = true ∧ ∃ ws, ws = zs ∧ r = .tup [.own 0 0, .p (.int .i64 0)] ∧ own = [psS v v v ws 0, psA []]) := by
  have hsn := soundP_spec ps (by omega) hb zs hzs
  have hcl := clonePr_spec ps hn zs hzs
  obtain ⟨S, hS⟩ : ∃ S, S = sndP ps := ⟨_, rfl⟩
  rw [← hS] at hsn ⊢
  refine fn_of_vc eOk fOk fo83 Try.func83 rfl rfl rfl fun B hB => ?_
  intro add sub mul quo rem band bor bxor bclr shl shr ieq ilt ile seq slt beq bnot orb bcond iwrap iof ssz hA cat sq sl imin imax smin smax len slen u8 hL op hop call hcall code hcode ret hret
  cbv
  by_cases h0 : v < 0
  · refine vcIf.yes (by first | (simp [hA.not, hA.eq, hA.lt, hA.le, hA.cond, hA.beq, hA.orb, hL.len, hL.slen, hL.sq, h0]; done) | (simp only [h0]; simp [hA.not, hA.eq, hA.lt, hA.le, hA.cond, hA.beq, hA.orb, hL.len, hL.slen, hL.sq, h0]; done) | (simp [hA.not, hA.eq, hA.lt, hA.le, hA.cond, hA.beq, hA.orb, hL.len, hL.slen, hL.sq, h0]; omega) | (simp only [h0]; simp [hA.not, hA.eq, hA.lt, hA.le, hA.cond, hA.beq, hA.orb, hL.len, hL.slen, hL.sq, h0]; omega)) ?_
    cbv
    exact hret _ (RetEv.ret eOk rfl (.inl ⟨h0, rfl, rfl⟩))
  refine vcIf.no (by first | (simp [hA.not, hA.eq, hA.lt, hA.le, hA.cond, hA.beq, hA.orb, hL.len, hL.slen, hL.sq, h0]; done) | (simp only [h0]; simp [hA.not, hA.eq, hA.lt, hA.le, hA.cond, hA.beq, hA.orb, hL.len, hL.slen, hL.sq, h0]; done) | (simp [hA.not, hA.eq, hA.lt, hA.le, hA.cond, hA.beq, hA.orb, hL.len, hL.slen, hL.sq, h0]; omega) | (simp only [h0]; simp [hA.not, hA.eq, hA.lt, hA.le, hA.cond, hA.beq, hA.orb, hL.len, hL.slen, hL.sq, h0]; omega)) ?_
  cbv
  refine hcall _ _ _ _ _ (CallEv.same hsn rfl ?_)
  rintro _ _ ⟨rfl, rfl⟩
  cbv
  cases S with
  | false =>
    have hnot : bnot false = true := by rw [hA.not]; rfl
    refine vcIf.yes hnot ?_
    cbv
    exact hret _ (RetEv.ret eOk rfl (.inr (.inl ⟨h0, rfl, rfl, rfl⟩)))
  | true =>
    have hnot : bnot true = false := by rw [hA.not]; rfl
    refine vcIf.no hnot ?_
    cbv
    refine hcall _ _ _ _ _ (CallEv.same hcl rfl ?_)
    rintro _ _ ⟨K, n, xs, rfl, rfl, hx⟩
    have hxz : (xs.drop 0).take n = zs := by rw [List.drop_zero, hx.2.2.2.2, hzs]
    cbv
    refine hret _ (RetEv.convW ((Conv.freeze 0 rfl (by rw [hB]; exact Nat.zero_le _)).weak.trans ((Conv.hollowC 1 2 155 2 (by decide) rfl rfl).weak.trans (ConvW.pack [1, 2] hB rfl))) (RetEv.ret eOk rfl (.inr (.inr ⟨h0, rfl, (xs.drop 0).take n, hxz, rfl, rfl⟩))))

/-- A Past that was lent. -/
theorem psL {own : List Res} {js : List Nat} {i j n : Nat} {a f l : Int} {zs xs : List PV} (hi : js[0]? = some i) (hj : js[1]? = some j) (h1 : own[i]? = some (.st 146 [.p (.int .i64 a), .p (.sl zs), .vw j 2 0 n none, .p (.int .i64 f), .p (.int .i64 l)]))
    (h2 : own[j]? = some (psA xs)) : TrO own js [] [i, j] [psS a f l zs n, psA xs] :=
  ⟨⟨_, h1, .st _ _ _ (.cons (.p _) (.cons (.p _) (.cons (.vw 1 j 2 0 n none hj) (.cons (.p _) (.cons (.p _) .nil)))))⟩, ⟨_, h2, .arr _ _ _⟩, trivial⟩
/-- .. and one that is shown. -/
theorem psT {own : List Res} {bs js : List Nat} {i j n : Nat} {a f l : Int} {zs xs : List PV} (hi : i ∈ bs) (hj : j ∈ bs) (h1 : own[i]? = some (.st 146 [.p (.int .i64 a), .p (.sl zs), .vw j 2 0 n none, .p (.int .i64 f), .p (.int .i64 l)]))
    (h2 : own[j]? = some (psA xs)) (ys : List PV) (hy : ys = (xs.drop 0).take n) : Tr own js bs (.own i 0) (psI a f l zs ys) := by
  refine .bown i 0 _ _ [.p (.int .i64 a), .p (.sl zs), .p (.sl ys), .p (.int .i64 f), .p (.int .i64 l)] [.int .i64 a, .sl zs, .sl ys, .int .i64 f, .int .i64 l] hi h1 rfl (fun q hq => ?_) rfl ?_
  · simp only [List.mem_cons, List.not_mem_nil, or_false] at hq
    rcases hq with rfl | rfl | rfl | rfl | rfl <;> rfl
  · intro k c p hc hp
    match k, hc, hp with
    | 0, hc, hp => simp at hc hp; subst hc hp; exact .p _
    | 1, hc, hp => simp at hc hp; subst hc hp; exact .p _
    | 2, hc, hp => simp at hc hp; subst hc hp; exact .bvw j 2 0 n none _ _ xs ys hj h2 hy
    | 3, hc, hp => simp at hc hp; subst hc hp; exact .p _
    | 4, hc, hp => simp at hc hp; subst hc hp; exact .p _
    | k + 5, hc, hp => simp at hc

theorem padd_nil (v : Int) (cs : List PV) : FnL Try.prog 51 [.p .nilp, .p (.int .i64 v), .p (.sl cs)] [] fun r own => r = .p (.int .i64 1) ∧ own = [] := by
  refine fn_of_vc eOk fOk fo51 Try.func51 rfl rfl rfl fun B hB => ?_
  intro add sub mul quo rem band bor bxor bclr shl shr ieq ilt ile seq slt beq bnot orb bcond iwrap iof ssz hA cat sq sl imin imax smin smax len slen u8 hL op hop call hcall code hcode ret hret
  cbv
  exact hret _ (RetEv.ret eOk rfl ⟨rfl, rfl⟩)
/-- The error of a batch that is added. -/
def adE (l v : Int) (ch : List Chg) : Nat := if v ≤ l then 9 else chks ch
theorem padd_spec (a f l v : Int) (ch : List Chg) (hn : ch.length * 40 ≤ 140737488355328) (zs xs : List PV) (n : Nat) (hx : n = xs.length) (hm : (n + 1) * 32 ≤ 140737488355328) (cs : List PV) (hcs : cs = cP ch) :
    FnL Try.prog 51 [.own 0 0, .p (.int .i64 v), .p (.sl cs)] [psS a f l zs n, psA xs] fun r own => ∃ e : Nat, e = adE l v ch ∧ r = .p (.int .i64 (Int.ofNat e)) ∧
      ((e ≠ 0 ∧ own = [psS a f l zs n, psA xs]) ∨ (e = 0 ∧ ∃ ws m, m = n + 1 ∧ ws = xs ++ [.agg [.int .i64 v, .sl cs]] ∧ own = [psS a f v zs m, psA ws])) := by
  obtain ⟨E, hE⟩ : ∃ E, E = adE l v ch := ⟨_, rfl⟩
  rw [← hE]
  unfold adE at hE
  have hal := all_spec ch (by omega) cs hcs
  have hcl := cloneC_spec ch hn cs hcs
  obtain ⟨C, hC⟩ : ∃ C, C = chks ch := ⟨_, rfl⟩
  rw [← hC] at hE hal
  refine fn_of_vc eOk fOk fo51 Try.func51 rfl rfl rfl fun B hB => ?_
  intro add sub mul quo rem band bor bxor bclr shl shr ieq ilt ile seq slt beq bnot orb bcond iwrap iof ssz hA cat sq sl imin imax smin smax len slen u8 hL op hop call hcall code hcode ret hret
  cbv
  by_cases h0 : v ≤ l
  · rw [if_pos h0] at hE
    refine vcIf.yes (by first | (simp [hA.not, hA.eq, hA.lt, hA.le, hA.cond, hA.beq, hA.orb, hL.len, hL.slen, hL.sq, h0]; done) | (simp only [h0]; simp [hA.not, hA.eq, hA.lt, hA.le, hA.cond, hA.beq, hA.orb, hL.len, hL.slen, hL.sq, h0]; done) | (simp [hA.not, hA.eq, hA.lt, hA.le, hA.cond, hA.beq, hA.orb, hL.len, hL.slen, hL.sq, h0]; omega) | (simp only [h0]; simp [hA.not, hA.eq, hA.lt, hA.le, hA.cond, hA.beq, hA.orb, hL.len, hL.slen, hL.sq, h0]; omega)) ?_
    cbv
    exact hret _ (RetEv.ret eOk rfl ⟨E, rfl, by rw [hE]; rfl, .inl ⟨by rw [hE]; decide, rfl⟩⟩)
  rw [if_neg h0] at hE
  refine vcIf.no (by first | (simp [hA.not, hA.eq, hA.lt, hA.le, hA.cond, hA.beq, hA.orb, hL.len, hL.slen, hL.sq, h0]; done) | (simp only [h0]; simp [hA.not, hA.eq, hA.lt, hA.le, hA.cond, hA.beq, hA.orb, hL.len, hL.slen, hL.sq, h0]; done) | (simp [hA.not, hA.eq, hA.lt, hA.le, hA.cond, hA.beq, hA.orb, hL.len, hL.slen, hL.sq, h0]; omega) | (simp only [h0]; simp [hA.not, hA.eq, hA.lt, hA.le, hA.cond, hA.beq, hA.orb, hL.len, hL.slen, hL.sq, h0]; omega)) ?_
  cbv
  refine hcall _ _ _ _ _ (CallEv.pure hal (.cons (.p _) .nil) ?_)
  rintro _ _ ⟨e, he, rfl, rfl⟩
  cbv
  by_cases h1 : e = 0
  · refine vcIf.no (by first | (simp [hA.not, hA.eq, hA.lt, hA.le, hA.cond, hA.beq, hA.orb, hL.len, hL.slen, hL.sq, h1]; done) | (simp only [h1]; simp [hA.not, hA.eq, hA.lt, hA.le, hA.cond, hA.beq, hA.orb, hL.len, hL.slen, hL.sq, h1]; done) | (simp [hA.not, hA.eq, hA.lt, hA.le, hA.cond, hA.beq, hA.orb, hL.len, hL.slen, hL.sq, h1]; omega) | (simp only [h1]; simp [hA.not, hA.eq, hA.lt, hA.le, hA.cond, hA.beq, hA.orb, hL.len, hL.slen, hL.sq, h1]; omega)) ?_
    cbv
    refine hcode _ _ _ (CodeEv.drawT eOk fOk (by kernel_rfl) (Xof 0 []) (.rd 0 (.rd 1 (.rd 2 (.rd 3 (.rd 5 (.rd 6 (.acts (.cons 4 (.acts (.cons 7 (.so 8 (.acts (.cons 9 (.acts (.cons 10 (.so 11 (.so 12 (.acts (.cons 13 (.done) (.nil))))) (.nil))) (.nil)))) (.nil))) (.cons 7 (.rd 8 (.acts (.cons 4 (.acts (.cons 9 (.acts (.cons 10 (.so 11 (.so 12 (.acts (.cons 13 (.done) (.nil))))) (.nil))) (.nil))) (.cons 9 (.so 4 (.acts (.cons 10 (.so 11 (.so 12 (.acts (.cons 13 (.done) (.nil))))) (.nil)))) (.nil))))) (.nil)))))))))) (by kernel_rfl) (by kernel_rfl) ?_)
    intro add2 sub2 mul2 quo2 rem2 band2 bor2 bxor2 bclr2 shl2 shr2 ieq2 ilt2 ile2 seq2 slt2 beq2 bnot2 orb2 bcond2 iwrap2 iof2 ssz2 hA2 cat2 sq2 sl2 imin2 imax2 smin2 smax2 len2 slen2 u82 hL2 op2 hop2 call2 hcall2 code2 hcode2 q2 hq2
    cbv
    refine ⟨?_, ?_⟩
    · refine hcall2 _ _ _ _ _ (CallEv.pure hcl (.cons (.p _) .nil) ?_)
      rintro _ _ ⟨rfl, rfl⟩
      cbv
      refine ⟨false, ?_⟩
      cbv
      refine .inl ⟨(), rfl, hx, ?_, ?_, ?_, fun ws m hws hm' => ?_⟩
      · intro y hy
        simp [Sq.get] at hy
        rw [hy]; exact ⟨rfl, fun u hu => by simp [PV.cells] at hu; rcases hu with rfl | rfl <;> rfl⟩
      · show n + 1 ≤ maxLen
        unfold maxLen; omega
      · show (n + 1) * 32 ≤ _
        exact hm
      cbv
      refine hq2 _ ?_
      cbv
      exact hret _ (RetEv.ret eOk rfl ⟨0, by omega, rfl, .inr ⟨rfl, ws, m, hm', hws, rfl⟩⟩)
    · refine hcall2 _ _ _ _ _ (CallEv.pure hcl (.cons (.p _) .nil) ?_)
      rintro _ _ ⟨rfl, rfl⟩
      cbv
      refine ⟨⟨false, ?_⟩, false, ?_⟩
      · cbv
        refine .inl ⟨(), rfl, hx, ?_, ?_, ?_, fun ws m hws hm' => ?_⟩
        · intro y hy
          simp [Sq.get] at hy
          rw [hy]; exact ⟨rfl, fun u hu => by simp [PV.cells] at hu; rcases hu with rfl | rfl <;> rfl⟩
        · show n + 1 ≤ maxLen
          unfold maxLen; omega
        · show (n + 1) * 32 ≤ _
          exact hm
        cbv
        refine hq2 _ ?_
        cbv
        exact hret _ (RetEv.ret eOk rfl ⟨0, by omega, rfl, .inr ⟨rfl, ws, m, hm', hws, rfl⟩⟩)
      · cbv
        refine .inl ⟨(), rfl, hx, ?_, ?_, ?_, fun ws m hws hm' => ?_⟩
        · intro y hy
          simp [Sq.get] at hy
          rw [hy]; exact ⟨rfl, fun u hu => by simp [PV.cells] at hu; rcases hu with rfl | rfl <;> rfl⟩
        · show n + 1 ≤ maxLen
          unfold maxLen; omega
        · show (n + 1) * 32 ≤ _
          exact hm
        cbv
        refine hq2 _ ?_
        cbv
        exact hret _ (RetEv.ret eOk rfl ⟨0, by omega, rfl, .inr ⟨rfl, ws, m, hm', hws, rfl⟩⟩)
  · refine vcIf.yes (by first | (simp [hA.not, hA.eq, hA.lt, hA.le, hA.cond, hA.beq, hA.orb, hL.len, hL.slen, hL.sq, h1]; done) | (simp only [h1]; simp [hA.not, hA.eq, hA.lt, hA.le, hA.cond, hA.beq, hA.orb, hL.len, hL.slen, hL.sq, h1]; done) | (simp [hA.not, hA.eq, hA.lt, hA.le, hA.cond, hA.beq, hA.orb, hL.len, hL.slen, hL.sq, h1]; omega) | (simp only [h1]; simp [hA.not, hA.eq, hA.lt, hA.le, hA.cond, hA.beq, hA.orb, hL.len, hL.slen, hL.sq, h1]; omega)) ?_
    cbv
    exact hret _ (RetEv.ret eOk rfl ⟨e, by rw [he, hE], rfl, .inl ⟨h1, rfl⟩⟩)
end Go.Proofs.Ytnigonhkfpnodaa
end
