/- List of a Past, its result a row of its own. Conditions: on sizes, and that the changes are such. -/
import Derived.Test.YtdeolllpbflemaaLPa8
import Derived.Test.YtdeolllpbflemaaLY10
set_option maxRecDepth 100000
set_option maxHeartbeats 16000000
set_option linter.unusedSimpArgs false
set_option linter.unusedVariables false
namespace Go.Proofs.Ytdeolllpbflemaa
open Go Go.Lx
open Go.Sx (vcIf)

theorem listO_spec (a f l v : Int) (lo hi : List UInt8) (most : Int) (ps : List Pr) (hps : Srt ps) (ls : List Lay) (M : Nat) (hM : ∀ l ∈ ls, l.ch.length ≤ M) (hck : ∀ l ∈ ls, chks l.ch = 0) (hsz : (ps.length + ls.length * M + 1) * 32 ≤ 140737488355328) (hn : ls.length < 281474976710656)
    (zs : List PV) (hzs : zs = prP ps) (ys : List PV) (hys : ys = layP ls) :
    FnL Try.prog 14 [psI a f l zs ys, .p (.agg [.str lo, .str hi]), .p (.int .i64 v), .p (.int .i64 most)] [] fun r own => ∃ (e : Nat) (us : List PV) (m : Nat), m = us.length ∧
      ((knw f l v ≠ 0 ∧ e = knw f l v ∧ us = []) ∨ (knw f l v = 0 ∧ most < 0 ∧ e = 1 ∧ us = []) ∨ (knw f l v = 0 ∧ ¬ most < 0 ∧ e = 0 ∧ us = prP (((whole ps ls v).filter fun p => hs ⟨lo, hi⟩ p.key).take most.toNat))) ∧
      r = .tup [.vw 0 2 0 m none, .p (.int .i64 (Int.ofNat e))] ∧ own = [.arr 45 2 us] := by
  obtain ⟨E, hE⟩ : ∃ E, E = knw f l v := ⟨_, rfl⟩
  have hkn := known_spec a f l v zs ys
  rw [← hE] at hkn ⊢
  have hwo := whole_spec a f l v ps hps ls M hM hck hsz hn zs hzs ys hys
  have hwl := lays_take_len hps hM (upto_le v ls)
  have hmul : upto ls v * M ≤ ls.length * M := Nat.mul_le_mul_right _ (upto_le v ls)
  obtain ⟨W, hW⟩ : ∃ W, W = whole ps ls v := ⟨_, rfl⟩
  rw [show lays ps (ls.take (upto ls v)) = W from hW.symm] at hwl
  rw [← hW] at hwo ⊢
  have hWb : W.length < 140737488355328 := by omega
  refine fn_of_vc eOk fOk fo14 Try.func14 rfl rfl rfl fun B hB => ?_
  intro add sub mul quo rem band bor bxor bclr shl shr ieq ilt ile seq slt beq bnot orb bcond iwrap iof ssz hA cat sq sl imin imax smin smax len slen u8 hL op hop call hcall code hcode ret hret
  cbv
  refine hcall _ _ _ _ _ (CallEv.pure hkn (.cons (.imm _ _ _) (.cons (.p _) .nil)) ?_)
  rintro _ _ ⟨e, he, rfl, rfl⟩
  cbv
  by_cases h0 : e = 0
  rotate_left
  · refine vcIf.yes (by first | (simp [hA.not, hA.eq, hA.lt, hA.le, hA.cond, hA.beq, hA.orb, hL.len, hL.slen, hL.sq, h0]; done) | (simp only [h0]; simp [hA.not, hA.eq, hA.lt, hA.le, hA.cond, hA.beq, hA.orb, hL.len, hL.slen, hL.sq, h0]; done) | (simp [hA.not, hA.eq, hA.lt, hA.le, hA.cond, hA.beq, hA.orb, hL.len, hL.slen, hL.sq, h0]; omega) | (simp only [h0]; simp [hA.not, hA.eq, hA.lt, hA.le, hA.cond, hA.beq, hA.orb, hL.len, hL.slen, hL.sq, h0]; omega)) ?_
    cbv
    exact hret _ (RetEv.convW ((Conv.hollow 8 45 2 (by decide) rfl).weak.trans (ConvW.pack [1] hB rfl)) (RetEv.ret eOk rfl ⟨e, [], 0, rfl, .inl ⟨by omega, he, rfl⟩, rfl, rfl⟩))
  refine vcIf.no (by first | (simp [hA.not, hA.eq, hA.lt, hA.le, hA.cond, hA.beq, hA.orb, hL.len, hL.slen, hL.sq, h0]; done) | (simp only [h0]; simp [hA.not, hA.eq, hA.lt, hA.le, hA.cond, hA.beq, hA.orb, hL.len, hL.slen, hL.sq, h0]; done) | (simp [hA.not, hA.eq, hA.lt, hA.le, hA.cond, hA.beq, hA.orb, hL.len, hL.slen, hL.sq, h0]; omega) | (simp only [h0]; simp [hA.not, hA.eq, hA.lt, hA.le, hA.cond, hA.beq, hA.orb, hL.len, hL.slen, hL.sq, h0]; omega)) ?_
  cbv
  by_cases h1 : most < 0
  · refine vcIf.yes (by first | (simp [hA.not, hA.eq, hA.lt, hA.le, hA.cond, hA.beq, hA.orb, hL.len, hL.slen, hL.sq, h1]; done) | (simp only [h1]; simp [hA.not, hA.eq, hA.lt, hA.le, hA.cond, hA.beq, hA.orb, hL.len, hL.slen, hL.sq, h1]; done) | (simp [hA.not, hA.eq, hA.lt, hA.le, hA.cond, hA.beq, hA.orb, hL.len, hL.slen, hL.sq, h1]; omega) | (simp only [h1]; simp [hA.not, hA.eq, hA.lt, hA.le, hA.cond, hA.beq, hA.orb, hL.len, hL.slen, hL.sq, h1]; omega)) ?_
    cbv
    exact hret _ (RetEv.convW ((Conv.hollow 8 45 2 (by decide) rfl).weak.trans (ConvW.pack [1] hB rfl)) (RetEv.ret eOk rfl ⟨1, [], 0, rfl, .inr (.inl ⟨by omega, h1, rfl, rfl⟩), rfl, rfl⟩))
  refine vcIf.no (by first | (simp [hA.not, hA.eq, hA.lt, hA.le, hA.cond, hA.beq, hA.orb, hL.len, hL.slen, hL.sq, h1]; done) | (simp only [h1]; simp [hA.not, hA.eq, hA.lt, hA.le, hA.cond, hA.beq, hA.orb, hL.len, hL.slen, hL.sq, h1]; done) | (simp [hA.not, hA.eq, hA.lt, hA.le, hA.cond, hA.beq, hA.orb, hL.len, hL.slen, hL.sq, h1]; omega) | (simp only [h1]; simp [hA.not, hA.eq, hA.lt, hA.le, hA.cond, hA.beq, hA.orb, hL.len, hL.slen, hL.sq, h1]; omega)) ?_
  cbv
  refine hcall _ _ _ _ _ (CallEv.pure hwo (.cons (.imm _ _ _) (.cons (.p _) .nil)) ?_)
  rintro _ _ ⟨K, n, xs, rfl, rfl, hx⟩
  have hnW : n = W.length := hx.2.1
  have hdl := delfSp_spec W xs K n hx (by omega) 35 (.str lo) (.str hi) (by intro q hq; simp only [List.mem_cons, List.not_mem_nil, or_false] at hq; rcases hq with rfl | rfl <;> rfl) (fun p => !(hs ⟨lo, hi⟩ p.key)) (fun p => ldel1_spec lo hi p.key p.val)
  cbv
  refine hcall _ _ _ _ _ (CallEv.lend [1, 0] hdl rfl (.cons (.vw 0 1 2 0 n (some K) rfl) (.cons (.fn _ _ _ rfl (TrL.cons (.own 1 0 0 rfl) .nil).2) .nil)) ⟨⟨_, rfl, .arr _ _ _⟩, ⟨_, rfl, .st _ _ _ (.cons (.p _) (.cons (.p _) .nil))⟩, trivial⟩ ?_)
  rintro _ _ ⟨m, ws, rfl, rfl, hw⟩
  obtain ⟨c, hc⟩ : ∃ c, c = min most.toNat m := ⟨_, rfl⟩
  have hcm : c ≤ m := by omega
  have hcp := clipPr_spec ws K m _ hw c hcm
  have hwm := hw.2.1
  have hwK := hw.2.2.1
  have hwl := hw.1
  have hgood : ((ws.drop 0).take c) = prP ((W.filter fun p => hs ⟨lo, hi⟩ p.key).take most.toNat) := by
    have h2 : (W.filter fun p => !(!(hs ⟨lo, hi⟩ p.key))) = W.filter fun p => hs ⟨lo, hi⟩ p.key := by simp
    rw [h2] at hw hwm
    have h3 := hw.2.2.2.2
    have h4 : (ws.drop 0).take c = (ws.take m).take c := by rw [List.drop_zero, List.take_take, Nat.min_eq_left hcm]
    rw [h4, h3, show prP (W.filter fun p => hs ⟨lo, hi⟩ p.key) = (W.filter fun p => hs ⟨lo, hi⟩ p.key).map Pr.v from rfl, ← List.map_take]
    show prP _ = _
    rw [show (W.filter fun p => hs ⟨lo, hi⟩ p.key).take c = (W.filter fun p => hs ⟨lo, hi⟩ p.key).take most.toNat from ?_]
    rcases Nat.le_total most.toNat m with h5 | h5
    · rw [show c = most.toNat by omega]
    · rw [show c = m by omega, List.take_of_length_le (by omega), List.take_of_length_le (by omega)]
  have hmin : imin most (iof m) = Int.ofNat c := by
    have h5 : iof m = Int.ofNat m := hA.ofNat m
    rw [h5, hL.imin]
    simp only [Int.ofNat_eq_natCast]
    split <;> omega
  cbv
  refine ⟨0, c, rfl, hmin, Nat.zero_le _, by omega, (fun q h => by cases h; omega), fun o1 m1 ho hm' => ?_⟩
  obtain rfl : 0 = o1 := by omega
  obtain rfl : c = m1 := by omega
  cbv
  refine hcall _ _ _ _ _ (CallEv.lend [1] hcp rfl (.cons (.vw 0 1 2 0 c (some K) rfl) .nil) ⟨⟨_, rfl, .arr _ _ _⟩, trivial⟩ ?_)
  rintro _ _ ⟨rfl, rfl⟩
  cbv
  refine hret _ (RetEv.convW ((ConvW.trimS 8 1 rfl rfl rfl (show 8 < 32 by decide)).trans (ConvW.pack [1] hB rfl)) (RetEv.ret eOk rfl ⟨0, ws.take c, c, ?_, .inr (.inr ⟨by omega, h1, rfl, by rw [← hgood, List.drop_zero]⟩), rfl, rfl⟩))
  rw [List.length_take]; omega
theorem chks_append : ∀ (a b : List Chg), chks a = 0 → chks (a ++ b) = chks b
  | [], _, _ => rfl
  | c :: r, b, h => by
    have h1 : chk c = 0 ∧ chks r = 0 := by
      unfold chks at h
      split at h
      · rename_i h1; exact absurd h h1
      · rename_i h1; exact ⟨by omega, h⟩
    have h2 := chks_append r b h1.2
    rw [List.cons_append]
    show (if chk c ≠ 0 then chk c else chks (r ++ b)) = _
    rw [if_neg (by omega)]
    exact h2
theorem cP_append (a b : List Chg) : cP (a ++ b) = cP a ++ cP b := List.map_append
theorem lsub {a f l v : Int} {zs : List PV} {xs : List PV} {n : Nat} (h : n = xs.length) : xs = (xs.drop 0).take n := by rw [List.drop_zero, h, List.take_length]
theorem prP_Flat (l : List Pr) : ∀ x ∈ prP l, PV.Flat x := fun x hx => by
  obtain ⟨p, _, rfl⟩ := List.mem_map.1 hx
  refine .agg _ fun c hc => ?_
  simp only [List.mem_cons, List.not_mem_nil, or_false] at hc
  rcases hc with rfl | rfl <;> exact .str _
theorem flat_list {us : List PV} {T : TypeId} (h : us = [] ∨ ∃ l, us = prP l) {m e : Nat} : V.Flat (.tup [.vw 0 2 0 m none, .p (.int .i64 (Int.ofNat e))]) ∧ ∀ r ∈ [Res.arr T 2 us], Res.Flat r := by
  refine ⟨.tup _ fun c hc => ?_, fun r hr => ?_⟩
  · simp only [List.mem_cons, List.not_mem_nil, or_false] at hc
    rcases hc with rfl | rfl
    · exact .vw _ _ _ _ _
    · exact .p _ (.int _ _)
  · simp only [List.mem_cons, List.not_mem_nil, or_false] at hr
    subst hr
    rcases h with rfl | ⟨l, rfl⟩
    · intro x hx; cases hx
    · exact prP_Flat l
theorem flat_l1 {m e : Nat} : V.Flat (.tup [.vw 0 2 0 m none, .p (.int .i64 (Int.ofNat e))]) := (flat_list (us := []) (T := 0) (.inl rfl)).1
theorem flat_l2 {us : List PV} {T : TypeId} {l : List Pr} (h : us = prP l) : ∀ r ∈ [Res.arr T 2 us], Res.Flat r := (flat_list (m := 0) (e := 0) (.inr ⟨l, h⟩)).2
/-- What a list shows. -/
def lst (ps : List Pr) (s : Spn) (most : Int) : List Pr := (ps.filter fun p => hs s p.key).take most.toNat

def liE (f l v most : Int) : Nat := if knw f l v ≠ 0 then knw f l v else if most < 0 then 1 else 0
def liP (f l : Int) (ps : List Pr) (ls : List Lay) (v : Int) (s : Spn) (most : Int) : List Pr := if knw f l v = 0 ∧ ¬ most < 0 then lst (whole ps ls v) s most else []
theorem listW_spec (a f l v : Int) (lo hi : List UInt8) (most : Int) (ps : List Pr) (hps : Srt ps) (ls : List Lay) (M : Nat) (hM : ∀ l ∈ ls, l.ch.length ≤ M) (hck : ∀ l ∈ ls, chks l.ch = 0) (hsz : (ps.length + ls.length * M + 1) * 32 ≤ 140737488355328) (hn : ls.length < 281474976710656)
    (zs : List PV) (hzs : zs = prP ps) (ys : List PV) (hys : ys = layP ls) :
    FnL Try.prog 14 [psI a f l zs ys, .p (.agg [.str lo, .str hi]), .p (.int .i64 v), .p (.int .i64 most)] [] fun r own => ∃ (e : Nat) (us : List PV) (m : Nat), e = liE f l v most ∧ us = prP (liP f l ps ls v ⟨lo, hi⟩ most) ∧ m = us.length ∧
      r = .tup [.vw 0 2 0 m none, .p (.int .i64 (Int.ofNat e))] ∧ own = [.arr 45 2 us] :=
  (listO_spec a f l v lo hi most ps hps ls M hM hck hsz hn zs hzs ys hys).mono fun r own ⟨e, us, m, h1, h2, h3, h4⟩ => by
    refine ⟨e, us, m, ?_, ?_, h1, h3, h4⟩
    · unfold liE
      rcases h2 with ⟨a1, a2, _⟩ | ⟨a1, a2, a3, _⟩ | ⟨a1, a2, a3, _⟩
      · rw [if_pos a1, a2]
      · rw [if_neg (by omega), if_pos a2, a3]
      · rw [if_neg (by omega), if_neg a2, a3]
    · unfold liP
      rcases h2 with ⟨a1, _, a2⟩ | ⟨a1, a2, _, a3⟩ | ⟨a1, a2, _, a3⟩
      · rw [if_neg (fun c => a1 c.1), a2]; rfl
      · rw [if_neg (fun c => c.2 a2), a3]; rfl
      · rw [if_pos ⟨a1, a2⟩, a3]; rfl
def gtE (f l v : Int) : Nat := knw f l v
def gtO (f l : Int) (ps : List Pr) (ls : List Lay) (v : Int) (k : List UInt8) : Option (List UInt8) := if knw f l v = 0 then lk (whole ps ls v) k else none
theorem getW_spec (a f l v : Int) (ps : List Pr) (hps : Srt ps) (hpn : ps.length < 281474976710656) (ls : List Lay) (hfit : ∀ b ∈ ls, b.ch.length < 281474976710656 ∧ ∀ c ∈ b.ch, c.fit) (hn : ls.length < 281474976710656) (key : List UInt8)
    (zs : List PV) (hzs : zs = prP ps) (ys : List PV) (hys : ys = layP ls) :
    FnL Try.prog 16 [psI a f l zs ys, .p (.str key), .p (.int .i64 v)] [] fun r own => ∃ (s : List UInt8) (b : Bool) (e : Nat), e = knw f l v ∧ s = (gtO f l ps ls v key).getD [] ∧ b = (gtO f l ps ls v key).isSome ∧
      r = .p (.tup [.str s, .bool b, .int .i64 (Int.ofNat e)]) ∧ own = [] :=
  (get_spec a f l v ps hps hpn ls hfit hn key zs hzs ys hys).mono fun r own ⟨s, b, e, h2, h3, h4⟩ => by
    unfold gtO
    rcases h2 with ⟨a1, a2, a3, a4⟩ | ⟨a1, a2, a3, a4⟩
    · rw [if_neg a1]; exact ⟨s, b, e, a4, a2, a3, h3, h4⟩
    · rw [if_pos a1]; exact ⟨s, b, e, by omega, a3, a4, h3, h4⟩
end Go.Proofs.Ytdeolllpbflemaa
