/- Clone, DeleteFunc and Equal of pairs. Conditions: on sizes. -/
import Derived.Test.YtdoikpagilmplaaLPi1
set_option maxRecDepth 100000
set_option maxHeartbeats 16000000
set_option linter.unusedSimpArgs false
set_option linter.unusedVariables false
namespace Go.Lx
/-- A box shown as settled. -/
theorem Tr.box {own : List Res} {js bs : List Nat} {i off : Nat} {T : TypeId} {qs : List PV} (hb : i ∈ bs) (ho : own[i]? = some (.st T (qs.map .p))) (h1 : ∀ q ∈ qs, q.one = true) : Tr own js bs (.own i off) (.imm qs.length (.agg qs) off) :=
  .bown i off T _ _ qs hb ho rfl h1 rfl fun k c p hc hp => by
    rw [hc] at hp; cases hp
    rw [List.getElem?_map] at hc
    cases hq : qs[k]? with
    | none => rw [hq] at hc; cases hc
    | some q => rw [hq] at hc; cases hc; exact .p _
end Go.Lx
namespace Go.Proofs.Ytdoikpagilmplaa
open Go Go.Lx
open Go.Sx (vcIf)

theorem prP_wf (ps : List Pr) : Wf 2 (prP ps) := fun x hx => by
  obtain ⟨p, _, rfl⟩ := List.mem_map.1 hx; exact p.wf
theorem prP_append (a b : List Pr) : prP (a ++ b) = prP a ++ prP b := List.map_append
theorem clonePr_spec (ps : List Pr) (hn : ps.length * 32 ≤ 140737488355328) (zs : List PV) (hzs : zs = prP ps) :
    FnL Try.prog 50 [.p (.sl zs)] [] fun v own => ∃ K n xs, v = .vw 0 2 0 n (some K) ∧ own = [.arr 41 2 xs] ∧ RowP xs K n ps := by
  have hzl : zs.length = ps.length := by rw [hzs, prP_length]
  have hw : Wf 2 zs := by rw [hzs]; exact prP_wf ps
  have hps0 : zs = [] → ps = [] := fun h => by rw [h] at hzl; exact List.length_eq_zero_iff.1 hzl.symm
  obtain ⟨N, hN⟩ : ∃ N, N = ps.length := ⟨_, rfl⟩
  rw [← hN] at hzl hn
  refine fn_of_vc eOk fOk fo50 Try.func50 rfl rfl rfl fun B hB => ?_
  intro add sub mul quo rem band bor bxor bclr shl shr ieq ilt ile seq slt beq bnot orb bcond iwrap iof ssz hA cat sq sl imin imax smin smax len slen u8 hL op hop call hcall code hcode ret hret
  cbv
  intro b hb
  cbv
  cases b with
  | true =>
    have h0 := hps0 (hb rfl)
    cbv
    refine hret _ (RetEv.convW (Conv.hollowK 2 41 2 (by decide) (.inl rfl)).weak (RetEv.ret eOk rfl ⟨0, 0, [], rfl, rfl, ?_⟩))
    rw [h0]; exact RowP.nil
  | false =>
    cbv
    refine ⟨.room, ?_⟩
    cbv
    by_cases h0 : N = 0
    · refine hop _ _ _ _ (OpEv.appendIn eOk (ys := zs) rfl rfl rfl rfl rfl rfl rfl rfl rfl rfl rfl hw (by show 0 + 0 + zs.length ≤ 0; omega) (Nat.zero_le _) fun m ws hm hws => ?_)
      have hz0 := List.length_eq_zero_iff.1 (show zs.length = 0 by omega)
      have hp0 := hps0 hz0
      cbv
      refine hret _ (RetEv.ret eOk rfl ⟨0, m, ws, rfl, rfl, ?_⟩)
      rw [hp0, hws, hm, hz0]; exact RowP.nil
    · refine hop _ _ _ _ (OpEv.appendFull eOk (ys := zs) rfl rfl rfl rfl rfl rfl rfl rfl rfl rfl rfl rfl rfl (Pr.wf ⟨[], []⟩) (by decide) hw (by omega) (by unfold maxLen; omega) ?_ fun K' m ws hm hK1 hK2 hws => ?_)
      · show (0 + zs.length) * 32 ≤ _
        omega
      have hmN : m = N := by omega
      cbv
      have hws2 : ws = zs ++ List.replicate (K' - m) (Pr.v ⟨[], []⟩) := hws
      refine hret _ (RetEv.convW (ConvW.pack [1] hB rfl) (RetEv.ret eOk rfl ⟨K', m, ws, rfl, rfl, ?_, ?_, hK1, ?_, ?_⟩))
      · rw [hws2]; simp; omega
      · omega
      · rw [hws2]; exact Wf.append hw fun x hx => by rw [List.eq_of_mem_replicate hx]; exact Pr.wf _
      · rw [hws2, List.take_append_of_le_length (by omega), List.take_of_length_le (by omega), hzs]

/-- The closure of right's DeleteFunc. -/
theorem rdel1_spec (lo hi ky vl : List UInt8) (a q : PV) : FnL Try.prog 52 [.p (.agg [.str ky, .str vl]), .imm 4 (.agg [.str lo, .str hi, a, q]) 0] []
    fun v own => ∃ b, b = !(hs ⟨lo, hi⟩ ky) ∧ v = .p (.bool b) ∧ own = [] := by
  refine FnL.flat (R := fun v own => ∃ b, b = !(hs ⟨lo, hi⟩ ky) ∧ v = .p (.bool b)) ?_ (by rintro _ _ ⟨b, h, rfl⟩; exact ⟨_, _, rfl, .refl _, b, h, rfl, rfl⟩)
  have hh := has_spec lo hi ky
  obtain ⟨R, hR⟩ : ∃ R, R = hs ⟨lo, hi⟩ ky := ⟨_, rfl⟩
  rw [← hR] at hh ⊢
  refine fn_of_vc eOk fOk fo52 Try.func52 rfl rfl rfl fun B hB => ?_
  intro add sub mul quo rem band bor bxor bclr shl shr ieq ilt ile seq slt beq bnot orb bcond iwrap iof ssz hA cat sq sl imin imax smin smax len slen u8 hL op hop call hcall code hcode ret hret
  cbv
  refine hcall _ _ _ _ _ (CallEv.same hh rfl ?_)
  rintro _ _ ⟨b, rfl, rfl, rfl⟩
  cbv
  exact hret _ (RetEv.ret eOk rfl ⟨_, hA.not b, rfl⟩)

/-- What a row is while pairs are deleted from it: the kept ones first, the others behind j as they were. -/
def DelSt (xs0 xs : List PV) (K : Nat) (ps : List Pr) (p : Pr → Bool) (i j : Nat) : Prop :=
  xs.length = K ∧ Wf 2 xs ∧ i = ((ps.take j).filter fun a => !(p a)).length ∧ xs.take i = prP ((ps.take j).filter fun a => !(p a)) ∧ ∀ q, j ≤ q → xs[q]? = xs0[q]?
theorem filter_take_le (ps : List Pr) (f : Pr → Bool) (j : Nat) : ((ps.take j).filter f).length ≤ j := by
  have h1 := List.length_filter_le f (ps.take j)
  have h2 : (ps.take j).length ≤ j := by rw [List.length_take]; exact Nat.min_le_left _ _
  omega
theorem DelSt.le {xs0 xs : List PV} {K i j : Nat} {ps : List Pr} {p : Pr → Bool} (h : DelSt xs0 xs K ps p i j) : i ≤ j := by rw [h.2.2.1]; exact filter_take_le _ _ _
theorem DelSt.keep {xs0 xs ws : List PV} {K i j : Nat} {ps : List Pr} {p : Pr → Bool} {a : Pr} (h : DelSt xs0 xs K ps p i j) (ha : ps[j]? = some a) (hp : p a = false) (hK : j < K) (hws : ws = xs.set i a.v) : DelSt xs0 ws K ps p (i + 1) (j + 1) := by
  have hle := h.le
  obtain ⟨h1, h2, h3, h4, h5⟩ := h
  have ht : (ps.take (j + 1)).filter (fun a => !(p a)) = (ps.take j).filter (fun a => !(p a)) ++ [a] := by
    rw [List.take_add_one, ha, List.filter_append]; simp [hp]
  refine ⟨by rw [hws, List.length_set, h1], ?_, by rw [ht, List.length_append, ← h3]; rfl, ?_, fun q hq => ?_⟩
  · rw [hws]; intro x hxm
    rcases List.mem_or_eq_of_mem_set hxm with c | c
    · exact h2 x c
    · rw [c]; exact a.wf
  · rw [ht, prP_append, hws, List.take_add_one, List.take_set_of_le (by omega), h4, List.getElem?_set_self (by omega)]; rfl
  · rw [hws, List.getElem?_set_ne (by omega)]; exact h5 q (by omega)
theorem DelSt.skip {xs0 xs : List PV} {K i j : Nat} {ps : List Pr} {p : Pr → Bool} {a : Pr} (h : DelSt xs0 xs K ps p i j) (ha : ps[j]? = some a) (hp : p a = true) : DelSt xs0 xs K ps p i (j + 1) := by
  obtain ⟨h1, h2, h3, h4, h5⟩ := h
  have ht : (ps.take (j + 1)).filter (fun a => !(p a)) = (ps.take j).filter (fun a => !(p a)) := by
    rw [List.take_add_one, ha, List.filter_append]; simp [hp]
  exact ⟨h1, h2, by rw [ht]; exact h3, by rw [ht]; exact h4, fun q hq => h5 q (by omega)⟩
/-- The start behind the first that goes. -/
theorem DelSt.first {xs0 : List PV} {K n i : Nat} {ps : List Pr} {p : Pr → Bool} {a : Pr} (hx : RowP xs0 K n ps) (ha : ps[i]? = some a) (hp : p a = true) (hlt : ∀ j, j < i → ∀ b, ps[j]? = some b → p b = false) : DelSt xs0 xs0 K ps p i (i + 1) := by
  have hil := (List.getElem?_eq_some_iff.1 ha).1
  have ht0 : (ps.take i).filter (fun a => !(p a)) = ps.take i := List.filter_eq_self.2 fun b hb => by
    obtain ⟨q, hq⟩ := List.mem_iff_getElem?.1 hb
    rw [List.getElem?_take] at hq
    split at hq
    · rw [hlt q (by assumption) b hq]; rfl
    · cases hq
  have ht : (ps.take (i + 1)).filter (fun a => !(p a)) = ps.take i := by
    rw [List.take_add_one, ha, List.filter_append, ht0]; simp [hp]
  have h2 := hx.2.1
  exact ⟨hx.1, hx.2.2.2.1, by rw [ht, List.length_take]; omega, by rw [ht]; exact hx.tk i (by omega), fun q _ => rfl⟩
theorem DelSt.last {xs0 xs ws : List PV} {K n i m : Nat} {ps : List Pr} {p : Pr → Bool} (hx : RowP xs0 K n ps) (h : DelSt xs0 xs K ps p i n) (hm : i + m = n) (hws : ws = xs.take i ++ (List.replicate m (Pr.v ⟨[], []⟩) ++ xs.drop (i + m))) : RowP ws K i (ps.filter fun a => !(p a)) := by
  obtain ⟨h1, h2, h3, h4, h5⟩ := h
  have hn := hx.2.1
  have hnK := hx.2.2.1
  have hpt : ps.take n = ps := List.take_of_length_le (by omega)
  rw [hpt] at h3 h4
  have h6 := List.length_filter_le (fun a => !(p a)) ps
  refine ⟨by rw [hws]; simp; omega, h3, by omega, ?_, ?_⟩
  · rw [hws]; exact h2.take.append (Wf.append (fun x hx => by rw [List.eq_of_mem_replicate hx]; exact Pr.wf _) h2.drop)
  · rw [hws, List.take_append_of_le_length (by simp; omega), List.take_take, Nat.min_self, h4]

theorem delfPr_spec (ps : List Pr) (xs : List PV) (K n : Nat) (hx : RowP xs K n ps) (hn : n < 140737488355328) (f : FuncId) (b0 b1 b2 b3 : PV) (hbo : ∀ q ∈ [b0, b1, b2, b3], q.one = true) (p : Pr → Bool)
    (hf : ∀ a : Pr, FnL Try.prog f [.p (.agg [.str a.key, .str a.val]), .imm 4 (.agg [b0, b1, b2, b3]) 0] [] fun v own => ∃ b, b = p a ∧ v = .p (.bool b) ∧ own = []) :
    FnL Try.prog 51 [.vw 0 2 0 n (some K), .fn f [.own 1 0]] [.arr 41 2 xs, .st 43 [.p b0, .p b1, .p b2, .p b3]]
      fun v own => ∃ n' xs', v = .vw 0 2 0 n' (some K) ∧ own = [.arr 41 2 xs', .st 43 [.p b0, .p b1, .p b2, .p b3]] ∧ RowP xs' K n' (ps.filter fun a => !(p a)) := by
  have hps := hx.2.1
  have hxt := hx.2.2.2.2
  obtain ⟨zs, hzs⟩ : ∃ zs, zs = prP ps := ⟨_, rfl⟩
  have hzl : zs.length = n := by rw [hzs, prP_length, hps]
  have hzx : zs = (xs.drop 0).take n := by rw [hzs, List.drop_zero, hxt]
  have hget : ∀ (i : Nat) (z : PV), zs[i]? = some z → ∃ a : Pr, ps[i]? = some a ∧ z = a.v := fun i z h => by
    rw [hzs] at h; unfold prP at h; rw [List.getElem?_map] at h
    cases hp : ps[i]? with
    | none => rw [hp] at h; cases h
    | some a => rw [hp] at h; cases h; exact ⟨a, rfl, rfl⟩
  have hidx := prSIdx zs n hzl (by omega) (fun i z h => by obtain ⟨a, _, rfl⟩ := hget i z h; exact ⟨rfl, rfl⟩) f b0 b1 b2 b3 (fun i => match ps[i]? with | some a => p a | none => false) (fun i z h => by
    obtain ⟨a, ha, rfl⟩ := hget i z h
    rw [ha]; exact hf a)
  have hT : ∀ us, TrL [.arr 41 2 us, .st 43 [.p b0, .p b1, .p b2, .p b3]] [] [0, 1] [.own 1 0] [.imm 4 (.agg [b0, b1, b2, b3]) 0] := fun us => .cons (Tr.box (qs := [b0, b1, b2, b3]) (by decide) rfl hbo) .nil
  have hT1 : ∀ us, TrL [.arr 41 2 us, .st 43 [.p b0, .p b1, .p b2, .p b3]] [] [1] [.own 1 0] [.imm 4 (.agg [b0, b1, b2, b3]) 0] := fun us => .cons (Tr.box (qs := [b0, b1, b2, b3]) (by decide) rfl hbo) .nil
  refine fn_of_vc eOk fOk fo51 Try.func51 rfl rfl rfl fun B hB => ?_
  intro add sub mul quo rem band bor bxor bclr shl shr ieq ilt ile seq slt beq bnot orb bcond iwrap iof ssz hA cat sq sl imin imax smin smax len slen u8 hL op hop call hcall code hcode ret hret
  cbv
  refine hcall _ _ _ _ _ (CallEv.shown [] [0, 1] hidx rfl (.cons (.bvw 0 2 0 n (some K) _ 2 xs zs (by decide) rfl hzx) (.cons (.fn _ _ _ (hT xs).1 (hT xs).2) .nil)) trivial ?_)
  rintro _ _ ⟨k, hk, rfl, rfl⟩
  refine ⟨.p _ (.int _ _), (by intro r hr; cases hr), ?_⟩
  have hnone : k = -1 → RowP xs K n (ps.filter fun a => !(p a)) := fun h => by
    have hall : ∀ j, j < n → (match ps[j]? with | some a => p a | none => false) = false := by
      rcases hk with c | ⟨i, _, h2, _⟩
      · exact c.2
      · rw [h] at h2; simp only [Int.ofNat_eq_natCast] at h2; omega
    rw [List.filter_eq_self.2 fun a ha => ?_]
    · exact hx
    · obtain ⟨q, hq⟩ := List.mem_iff_getElem?.1 ha
      have := hall q (by rw [hps]; exact (List.getElem?_eq_some_iff.1 hq).1)
      rw [hq] at this; simp only at this; rw [this]; rfl
  cbv
  by_cases hk0 : k = -1
  · have key := hnone hk0
    refine vcIf.yes (by first | (simp [hA.not, hA.eq, hA.lt, hA.le, hA.cond, hA.beq, hA.orb, hL.len, hL.slen, hL.sq, hk0]; done) | (simp only [hk0]; simp [hA.not, hA.eq, hA.lt, hA.le, hA.cond, hA.beq, hA.orb, hL.len, hL.slen, hL.sq, hk0]; done) | (simp [hA.not, hA.eq, hA.lt, hA.le, hA.cond, hA.beq, hA.orb, hL.len, hL.slen, hL.sq, hk0]; omega) | (simp only [hk0]; simp [hA.not, hA.eq, hA.lt, hA.le, hA.cond, hA.beq, hA.orb, hL.len, hL.slen, hL.sq, hk0]; omega)) ?_
    cbv
    exact hret _ (RetEv.ret eOk rfl ⟨n, xs, rfl, rfl, key⟩)
  have hk2 : ∃ i : Nat, i < n ∧ k = Int.ofNat i ∧ (match ps[i]? with | some a => p a | none => false) = true ∧ ∀ j, j < i → (match ps[j]? with | some a => p a | none => false) = false := by
    rcases hk with c | c
    · exact absurd c.1 hk0
    · exact c
  refine Exists.elim hk2 fun i0 hi0 => ?_
  refine Exists.elim (get_of_lt (show i0 < ps.length by omega)) fun a0 ha0 => ?_
  have hst := DelSt.first hx ha0 (p := p) (by have := hi0.2.2.1; rw [ha0] at this; exact this) (fun j hj b hb => by have := hi0.2.2.2 j hj; rw [hb] at this; exact this)
  have hi0n := hi0.1
  have hki := hi0.2.1
  refine Exists.elim (show ∃ j0, j0 = i0 + 1 from ⟨_, rfl⟩) fun j0 hj0 => ?_
  rw [← hj0] at hst
  have hadd : add .i64 k 1 = Int.ofNat j0 := by rw [hki, hA.add, IntWalk.i64_in _ (by simp only [Int.ofNat_eq_natCast]; omega), hj0]; rfl
  clear hk hk2 hi0
  refine vcIf.no (by first | (simp [hA.not, hA.eq, hA.lt, hA.le, hA.cond, hA.beq, hA.orb, hL.len, hL.slen, hL.sq, hk0]; done) | (simp only [hk0]; simp [hA.not, hA.eq, hA.lt, hA.le, hA.cond, hA.beq, hA.orb, hL.len, hL.slen, hL.sq, hk0]; done) | (simp [hA.not, hA.eq, hA.lt, hA.le, hA.cond, hA.beq, hA.orb, hL.len, hL.slen, hL.sq, hk0]; omega) | (simp only [hk0]; simp [hA.not, hA.eq, hA.lt, hA.le, hA.cond, hA.beq, hA.orb, hL.len, hL.slen, hL.sq, hk0]; omega)) ?_
  cbv
  rw [hadd, hki]
  refine hcode _ _ _ (CodeEv.loop eOk fOk (ι := Nat × Nat × List PV) (fun s => [(0, .vw 0 2 0 n (some K)), (1, .fn f [.own 1 0]), (5, .p (.int .i64 (Int.ofNat s.1))), (6, .p (.int .i64 (Int.ofNat s.2.1)))])
    (fun s => [.arr 41 2 s.2.2, .st 43 [.p b0, .p b1, .p b2, .p b3]]) (fun s => s.1 < s.2.1 ∧ s.2.1 ≤ n ∧ DelSt xs s.2.2 K ps p s.1 s.2.1) (fun s => n - s.2.1) (i0, j0, xs) ?_ ?_)
  · exact ⟨(by repeat (first | exact trivial | refine And.intro rfl ?_)), rfl, by simp only; omega, by simp only; omega, hst⟩
  rintro ⟨i, j, us⟩ ⟨k1, k2, k3⟩ rd hrd
  simp only at k1 k2 k3
  by_cases hj : j < n
  · refine Exists.elim (get_of_lt (show j < ps.length by omega)) fun a ha => ?_
    have huj : us[j]? = some (.agg [.str a.key, .str a.val]) := by
      rw [k3.2.2.2.2 j (Nat.le_refl _)]
      have h1 : (xs.take n)[j]? = some a.v := by rw [hxt]; unfold prP; rw [List.getElem?_map, ha]; rfl
      rwa [List.getElem?_take_of_lt hj] at h1
    have hul : us.length = K := k3.1
    have hfa := hf a
    have hkeep := fun (h : p a = false) (ws : List PV) => k3.keep ha h (by have := hx.2.2.1; omega) (ws := ws)
    have hskip := fun (h : p a = true) => k3.skip ha h
    have hnK := hx.2.2.1
    refine Exists.elim (show ∃ b, b = p a from ⟨_, rfl⟩) fun pb hpb => ?_
    rw [← hpb] at hfa hkeep hskip
    obtain ⟨ak, av⟩ := a
    simp only at huj hfa
    intro add1 sub1 mul1 quo1 rem1 band1 bor1 bxor1 bclr1 shl1 shr1 ieq1 ilt1 ile1 seq1 slt1 beq1 bnot1 orb1 bcond1 iwrap1 iof1 ssz1 hA1 cat1 sq1 sl1 imin1 imax1 smin1 smax1 len1 slen1 u81 hL1 op1 hop1 call1 hcall1 code1 hcode1
    have haj : add1 .i64 (Int.ofNat j) 1 = Int.ofNat (j + 1) := by rw [hA1.add, IntWalk.i64_in _ (by simp only [Int.ofNat_eq_natCast]; omega)]; rfl
    have hai : add1 .i64 (Int.ofNat i) 1 = Int.ofNat (i + 1) := by rw [hA1.add, IntWalk.i64_in _ (by simp only [Int.ofNat_eq_natCast]; omega)]; rfl
    have hnn : iof1 n = Int.ofNat n := hA1.ofNat n
    cbv
    refine vcIf.yes (by first | (simp [hA1.not, hA1.eq, hA1.lt, hA1.le, hA1.cond, hA1.beq, hA1.orb, hL1.len, hL1.slen, hL1.sq, hnn, hj]; done) | (simp only [hnn, hj]; simp [hA1.not, hA1.eq, hA1.lt, hA1.le, hA1.cond, hA1.beq, hA1.orb, hL1.len, hL1.slen, hL1.sq, hnn, hj]; done) | (simp [hA1.not, hA1.eq, hA1.lt, hA1.le, hA1.cond, hA1.beq, hA1.orb, hL1.len, hL1.slen, hL1.sq, hnn, hj]; omega) | (simp only [hnn, hj]; simp [hA1.not, hA1.eq, hA1.lt, hA1.le, hA1.cond, hA1.beq, hA1.orb, hL1.len, hL1.slen, hL1.sq, hnn, hj]; omega)) ?_
    cbv
    refine ⟨j, rfl, hj, fun q hq => ?_⟩
    have hq : q = j := by omega
    have guq : us[q]? = some (.agg [.str ak, .str av]) := by rw [hq]; exact huj
    cbv
    refine ⟨_, guq, ?_⟩
    cbv
    refine hcall1 _ _ _ _ _ (CallEv.shown [] [1] hfa rfl (.cons (.p _) (.cons (Tr.box (qs := [b0, b1, b2, b3]) (by decide) rfl hbo) .nil)) trivial ?_)
    rintro _ _ ⟨b, hb, rfl, rfl⟩
    refine ⟨.p _ (.bool _), (by intro r hr; cases hr), ?_⟩
    cbv
    by_cases hbb : b = true
    · have hs := hskip (by rw [← hb]; exact hbb)
      refine vcIf.no (by first | (simp [hA1.not, hA1.eq, hA1.lt, hA1.le, hA1.cond, hA1.beq, hA1.orb, hL1.len, hL1.slen, hL1.sq, hbb]; done) | (simp only [hbb]; simp [hA1.not, hA1.eq, hA1.lt, hA1.le, hA1.cond, hA1.beq, hA1.orb, hL1.len, hL1.slen, hL1.sq, hbb]; done) | (simp [hA1.not, hA1.eq, hA1.lt, hA1.le, hA1.cond, hA1.beq, hA1.orb, hL1.len, hL1.slen, hL1.sq, hbb]; omega) | (simp only [hbb]; simp [hA1.not, hA1.eq, hA1.lt, hA1.le, hA1.cond, hA1.beq, hA1.orb, hL1.len, hL1.slen, hL1.sq, hbb]; omega)) ?_
      cbv
      refine hrd _ ⟨(i, j + 1, us), _, ?_, ⟨?_, hj, hs⟩, rfl, ⟨rfl, rfl, rfl, ?_, trivial⟩, rfl, rfl, rfl, ?_⟩
      · show n - (j + 1) < n - j
        omega
      · simp only; omega
      · show some (V.p (.int .i64 _)) = _
        rw [haj]
      · rw [hB]; exact Nat.le_refl _
    · have hkp := hkeep (by rw [← hb]; exact Bool.eq_false_iff.2 hbb)
      have hbb := Bool.eq_false_iff.2 hbb
      refine vcIf.yes (by first | (simp [hA1.not, hA1.eq, hA1.lt, hA1.le, hA1.cond, hA1.beq, hA1.orb, hL1.len, hL1.slen, hL1.sq, hbb]; done) | (simp only [hbb]; simp [hA1.not, hA1.eq, hA1.lt, hA1.le, hA1.cond, hA1.beq, hA1.orb, hL1.len, hL1.slen, hL1.sq, hbb]; done) | (simp [hA1.not, hA1.eq, hA1.lt, hA1.le, hA1.cond, hA1.beq, hA1.orb, hL1.len, hL1.slen, hL1.sq, hbb]; omega) | (simp only [hbb]; simp [hA1.not, hA1.eq, hA1.lt, hA1.le, hA1.cond, hA1.beq, hA1.orb, hL1.len, hL1.slen, hL1.sq, hbb]; omega)) ?_
      cbv
      refine ⟨i, rfl, by omega, fun d hd => ?_⟩
      have hd : d = i := by omega
      refine Exists.elim (get_of_lt (show d < us.length by omega)) fun z hz => ?_
      cbv
      refine ⟨z, hz, Pr.wf ⟨ak, av⟩, fun ws hws => ?_⟩
      have hkp := hkp ws (by rw [hws, hd]; rfl)
      cbv
      refine hrd _ ⟨(i + 1, j + 1, ws), _, ?_, ⟨?_, hj, hkp⟩, rfl, ⟨rfl, rfl, ?_, ?_, trivial⟩, rfl, rfl, rfl, ?_⟩
      · show n - (j + 1) < n - j
        omega
      · simp only; omega
      · show some (V.p (.int .i64 _)) = _
        rw [hai]
      · show some (V.p (.int .i64 _)) = _
        rw [haj]
      · rw [hB]; exact Nat.le_refl _
  · intro add1 sub1 mul1 quo1 rem1 band1 bor1 bxor1 bclr1 shl1 shr1 ieq1 ilt1 ile1 seq1 slt1 beq1 bnot1 orb1 bcond1 iwrap1 iof1 ssz1 hA1 cat1 sq1 sl1 imin1 imax1 smin1 smax1 len1 slen1 u81 hL1 op1 hop1 call1 hcall1 code1 hcode1
    have hnn : iof1 n = Int.ofNat n := hA1.ofNat n
    cbv
    refine vcIf.no (by first | (simp [hA1.not, hA1.eq, hA1.lt, hA1.le, hA1.cond, hA1.beq, hA1.orb, hL1.len, hL1.slen, hL1.sq, hnn, hj]; done) | (simp only [hnn, hj]; simp [hA1.not, hA1.eq, hA1.lt, hA1.le, hA1.cond, hA1.beq, hA1.orb, hL1.len, hL1.slen, hL1.sq, hnn, hj]; done) | (simp [hA1.not, hA1.eq, hA1.lt, hA1.le, hA1.cond, hA1.beq, hA1.orb, hL1.len, hL1.slen, hL1.sq, hnn, hj]; omega) | (simp only [hnn, hj]; simp [hA1.not, hA1.eq, hA1.lt, hA1.le, hA1.cond, hA1.beq, hA1.orb, hL1.len, hL1.slen, hL1.sq, hnn, hj]; omega)) ?_
    cbv
    refine ⟨i, n, rfl, rfl, by omega, by have := hx.2.2.1; have := k3.1; omega, (fun c h => by cases h; have := hx.2.2.1; omega), fun o1 m1 ho1 hm1 => ?_⟩
    have hii : o1 = i := by omega
    cbv
    refine hop _ _ _ _ (OpEv.clear eOk rfl rfl rfl rfl rfl rfl rfl (Pr.wf ⟨[], []⟩) rfl rfl rfl fun ws hws => ?_)
    have key := DelSt.last hx (show DelSt xs us K ps p i n by rw [show n = j by omega]; exact k3) (show i + m1 = n by omega) (ws := ws) (by rw [hws, hii]; rfl)
    cbv
    refine ⟨0, i, rfl, rfl, Nat.zero_le _, by have := key.1; have := key.2.2.1; omega, (fun c h => by cases h; have := key.1; have := key.2.2.1; omega), fun o2 m2 ho2 hm2 => ?_⟩
    obtain rfl : 0 = o2 := by omega
    obtain rfl : i = m2 := by omega
    cbv
    exact hret _ (RetEv.ret eOk rfl ⟨i, ws, rfl, rfl, key⟩)

theorem eqPr_spec (a b : List Pr) (hn : a.length < 281474976710656) (hn2 : b.length < 281474976710656) (R : Bool) (hR : R = true ↔ a = b) (zs ys : List PV) (hzs : zs = prP a) (hys : ys = prP b) :
    FnL Try.prog 54 [.p (.sl zs), .p (.sl ys)] [] fun v own => v = .p (.bool R) ∧ own = [] := by
  refine FnL.flat (R := fun v own => v = .p (.bool R)) ?_ (by rintro _ _ rfl; exact ⟨_, _, rfl, .refl _, rfl, rfl⟩)
  obtain ⟨N, hN⟩ : ∃ n, n = a.length := ⟨_, rfl⟩
  obtain ⟨M, hM⟩ : ∃ n, n = b.length := ⟨_, rfl⟩
  have hzl : zs.length = N := by rw [hzs, prP_length, hN]
  have hyl : ys.length = M := by rw [hys, prP_length, hM]
  have hfalse : a ≠ b → R = false := fun h => Bool.eq_false_iff.2 fun c => h (hR.1 c)
  by_cases hNM : N = M
  · refine fn_of_vc eOk fOk fo54 Try.func54 rfl rfl rfl fun B hB => ?_
    intro add sub mul quo rem band bor bxor bclr shl shr ieq ilt ile seq slt beq bnot orb bcond iwrap iof ssz hA cat sq sl imin imax smin smax len slen u8 hL op hop call hcall code hcode ret hret
    have e1 : len zs = Int.ofNat N := by rw [hL.len, hzl]; rfl
    have e2 : len ys = Int.ofNat N := by rw [hL.len, hyl, hNM]; rfl
    cbv
    refine vcIf.no (by first | (simp [hA.not, hA.eq, hA.lt, hA.le, hA.cond, hA.beq, hA.orb, hL.len, hL.slen, hL.sq, e1, e2]; done) | (simp only [e1, e2]; simp [hA.not, hA.eq, hA.lt, hA.le, hA.cond, hA.beq, hA.orb, hL.len, hL.slen, hL.sq, e1, e2]; done) | (simp [hA.not, hA.eq, hA.lt, hA.le, hA.cond, hA.beq, hA.orb, hL.len, hL.slen, hL.sq, e1, e2]; omega) | (simp only [e1, e2]; simp [hA.not, hA.eq, hA.lt, hA.le, hA.cond, hA.beq, hA.orb, hL.len, hL.slen, hL.sq, e1, e2]; omega)) ?_
    cbv
    rw [e1]
    refine hcode _ _ _ (CodeEv.loop eOk fOk (ι := Nat) (fun q => [(0, .p (.sl zs)), (1, .p (.sl ys)), (12, .p (.int .i64 (Int.ofNat N))), (13, .p (.int .i64 (Int.ofNat q)))])
      (fun q => []) (fun q => q ≤ N ∧ ∀ r, r < q → a[r]? = b[r]?) (fun q => N - q) 0 ?_ ?_)
    · exact ⟨(by repeat (first | exact trivial | refine And.intro rfl ?_)), rfl, Nat.zero_le _, fun r h => absurd h (Nat.not_lt_zero r)⟩
    rintro i ⟨k1, k2⟩ rd hrd
    by_cases hi : i < N
    · refine Exists.elim (get_of_lt (show i < a.length by omega)) fun p hp => ?_
      refine Exists.elim (get_of_lt (show i < b.length by omega)) fun q hq => ?_
      have hzi : zs[i]? = some (.agg [.str p.key, .str p.val]) := by rw [hzs]; exact prP_get hp
      have hyi : ys[i]? = some (.agg [.str q.key, .str q.val]) := by rw [hys]; exact prP_get hq
      obtain ⟨pk, pv⟩ := p
      obtain ⟨qk, qv⟩ := q
      simp only at hzi hyi
      have hpq : a[i]? = b[i]? ↔ (pk = qk ∧ pv = qv) := by rw [hp, hq]; simp
      refine Exists.elim (show ∃ t : Bool, t = true ↔ (pk = qk ∧ pv = qv) from ⟨decide (pk = qk ∧ pv = qv), decide_eq_true_iff⟩) fun t ht => ?_
      have hE := prEqB pk pv qk qv ht
      intro add1 sub1 mul1 quo1 rem1 band1 bor1 bxor1 bclr1 shl1 shr1 ieq1 ilt1 ile1 seq1 slt1 beq1 bnot1 orb1 bcond1 iwrap1 iof1 ssz1 hA1 cat1 sq1 sl1 imin1 imax1 smin1 smax1 len1 slen1 u81 hL1 op1 hop1 call1 hcall1 code1 hcode1
      have e3 : len1 zs = Int.ofNat N := by rw [hL1.len, hzl]; rfl
      have hadd1 : add1 .i64 (Int.ofNat i) 1 = Int.ofNat (i + 1) := by rw [hA1.add, IntWalk.i64_in _ (by simp only [Int.ofNat_eq_natCast]; omega)]; rfl
      cbv
      refine vcIf.yes (by first | (simp [hA1.not, hA1.eq, hA1.lt, hA1.le, hA1.cond, hA1.beq, hA1.orb, hL1.len, hL1.slen, hL1.sq, hi]; done) | (simp only [hi]; simp [hA1.not, hA1.eq, hA1.lt, hA1.le, hA1.cond, hA1.beq, hA1.orb, hL1.len, hL1.slen, hL1.sq, hi]; done) | (simp [hA1.not, hA1.eq, hA1.lt, hA1.le, hA1.cond, hA1.beq, hA1.orb, hL1.len, hL1.slen, hL1.sq, hi]; omega) | (simp only [hi]; simp [hA1.not, hA1.eq, hA1.lt, hA1.le, hA1.cond, hA1.beq, hA1.orb, hL1.len, hL1.slen, hL1.sq, hi]; omega)) ?_
      cbv
      refine hcode1 _ _ _ (CodeEv.drawT eOk fOk (by kernel_rfl) noX (.rd 0 (.rd 1 (.rd 2 (.rd 3 (.rd 4 (.rd 5 (.rd 6 (.so 7 (.acts (.cons 8 (.done) (.nil))))))))))) (by kernel_rfl) (by kernel_rfl) ?_)
      intro add2 sub2 mul2 quo2 rem2 band2 bor2 bxor2 bclr2 shl2 shr2 ieq2 ilt2 ile2 seq2 slt2 beq2 bnot2 orb2 bcond2 iwrap2 iof2 ssz2 hA2 cat2 sq2 sl2 imin2 imax2 smin2 smax2 len2 slen2 u82 hL2 op2 hop2 call2 hcall2 code2 hcode2 q2 hq2
      cbv
      refine ⟨i, _, rfl, hzi, rfl, ?_⟩
      cbv
      refine ⟨i, _, rfl, hyi, rfl, ?_⟩
      cbv
      refine hop2 _ _ _ _ (OpEv.aggNe (b := t) rfl rfl rfl (by kernel_rfl) (by kernel_rfl) (by kernel_rfl) hE ?_)
      cbv
      refine hq2 _ ?_
      cbv
      by_cases htt : t = true
      · have hgood := hpq.2 (ht.1 htt)
        refine vcIf.no (by rw [htt]) ?_
        cbv
        refine hrd _ ⟨i + 1, _, ?_, ⟨hi, ?_⟩, rfl, ⟨rfl, rfl, rfl, ?_, trivial⟩, rfl, rfl, rfl, ?_⟩
        · show N - (i + 1) < N - i
          omega
        · intro r hr
          rcases Nat.lt_succ_iff_lt_or_eq.1 hr with c | c
          · exact k2 r c
          · rw [c]; exact hgood
        · show some (V.p (.int .i64 _)) = _
          rw [hadd1]
        · rw [hB]; exact Nat.zero_le _
      · have hf := hfalse fun c => htt (ht.2 (hpq.1 (by rw [c])))
        refine vcIf.yes (by rw [Bool.eq_false_iff.2 htt]) ?_
        cbv
        exact hret _ (RetEv.ret eOk rfl (by rw [hf]; rfl))
    · have hRt : R = true := hR.2 (List.ext_getElem? fun r => by
        by_cases hr : r < N
        · exact k2 r (by omega)
        · rw [List.getElem?_eq_none (by omega), List.getElem?_eq_none (by omega)])
      intro add1 sub1 mul1 quo1 rem1 band1 bor1 bxor1 bclr1 shl1 shr1 ieq1 ilt1 ile1 seq1 slt1 beq1 bnot1 orb1 bcond1 iwrap1 iof1 ssz1 hA1 cat1 sq1 sl1 imin1 imax1 smin1 smax1 len1 slen1 u81 hL1 op1 hop1 call1 hcall1 code1 hcode1
      have e3 : len1 zs = Int.ofNat N := by rw [hL1.len, hzl]; rfl
      cbv
      refine vcIf.no (by first | (simp [hA1.not, hA1.eq, hA1.lt, hA1.le, hA1.cond, hA1.beq, hA1.orb, hL1.len, hL1.slen, hL1.sq, hi]; done) | (simp only [hi]; simp [hA1.not, hA1.eq, hA1.lt, hA1.le, hA1.cond, hA1.beq, hA1.orb, hL1.len, hL1.slen, hL1.sq, hi]; done) | (simp [hA1.not, hA1.eq, hA1.lt, hA1.le, hA1.cond, hA1.beq, hA1.orb, hL1.len, hL1.slen, hL1.sq, hi]; omega) | (simp only [hi]; simp [hA1.not, hA1.eq, hA1.lt, hA1.le, hA1.cond, hA1.beq, hA1.orb, hL1.len, hL1.slen, hL1.sq, hi]; omega)) ?_
      cbv
      exact hret _ (RetEv.ret eOk rfl (by rw [hRt]; rfl))
  · have hf := hfalse fun c => hNM (by rw [hN, hM, c])
    refine fn_of_vc eOk fOk fo54 Try.func54 rfl rfl rfl fun B hB => ?_
    intro add sub mul quo rem band bor bxor bclr shl shr ieq ilt ile seq slt beq bnot orb bcond iwrap iof ssz hA cat sq sl imin imax smin smax len slen u8 hL op hop call hcall code hcode ret hret
    have e1 : len zs = Int.ofNat N := by rw [hL.len, hzl]; rfl
    have e2 : len ys = Int.ofNat M := by rw [hL.len, hyl]; rfl
    have hne : ¬ ((N : Int) = (M : Int)) := by omega
    cbv
    refine vcIf.yes (by rw [e1, e2, hA.not, hA.eq]; simp only [Int.ofNat_eq_natCast]; simp [hne]) ?_
    cbv
    exact hret _ (RetEv.ret eOk rfl (by rw [hf]; rfl))
end Go.Proofs.Ytdoikpagilmplaa
