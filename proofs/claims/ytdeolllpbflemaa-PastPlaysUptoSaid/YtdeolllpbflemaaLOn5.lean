/- change.One in its own row: the plain One. Conditions: on sizes, and that the pairs are in order. -/
import Derived.Test.YtdeolllpbflemaaLOn3
import Derived.Test.YtdeolllpbflemaaLOn4
set_option maxRecDepth 100000
set_option maxHeartbeats 16000000
set_option linter.unusedSimpArgs false
set_option linter.unusedVariables false
namespace Go.Proofs.Ytdeolllpbflemaa
open Go Go.Lx
open Go.Sx (vcIf)

/-- A row whose first n elements are pairs. -/
def RowP (xs : List PV) (K n : Nat) (ps : List Pr) : Prop := xs.length = K ∧ n = ps.length ∧ n ≤ K ∧ Wf 2 xs ∧ xs.take n = prP ps
theorem RowP.tk {xs : List PV} {K n : Nat} {ps : List Pr} (h : RowP xs K n ps) (i : Nat) (hi : i ≤ n) : xs.take i = prP (ps.take i) := by
  have := h.2.2.2.2
  rw [show prP (ps.take i) = (prP ps).take i from (by unfold prP; rw [List.map_take]), ← this, List.take_take, Nat.min_eq_left hi]
theorem RowP.dk {xs : List PV} {K n : Nat} {ps : List Pr} (h : RowP xs K n ps) (i : Nat) : (xs.drop i).take (n - i) = prP (ps.drop i) := by
  have := h.2.2.2.2
  rw [show prP (ps.drop i) = (prP ps).drop i from (by unfold prP; rw [List.map_drop]), ← this, List.drop_take]
theorem RowP.del {xs xs' : List PV} {K n i j n' : Nat} {ps qs : List Pr} (h : RowP xs K n ps) (hij : i ≤ j) (hj : j ≤ n) (hq : qs = ps.take i ++ ps.drop j) (hn' : n' = n - (j - i)) (hl : xs'.length = K) (hw : Wf 2 xs') (ht : xs'.take n' = xs.take i ++ (xs.drop j).take (n - j)) : RowP xs' K n' qs := by
  have h2 := h.2.1
  have h3 := h.2.2.1
  refine ⟨hl, by rw [hq]; simp; omega, by omega, hw, ?_⟩
  rw [ht, h.tk i (by omega), h.dk j, hq]; unfold prP; rw [List.map_append]
theorem RowP.ins {xs xs' : List PV} {K n i K' : Nat} {ps qs : List Pr} {p : Pr} (h : RowP xs K n ps) (hi : i ≤ n) (hq : qs = ps.take i ++ p :: ps.drop i) (hl : xs'.length = K') (hn : n + 1 ≤ K') (hw : Wf 2 xs') (ht : xs'.take (n + 1) = xs.take i ++ p.v :: (xs.drop i).take (n - i)) : RowP xs' K' (n + 1) qs := by
  have h2 := h.2.1
  refine ⟨hl, by rw [hq]; simp; omega, hn, hw, ?_⟩
  rw [ht, h.tk i hi, h.dk i, hq]; unfold prP; rw [List.map_append, List.map_cons]
theorem RowP.upd {xs xs' : List PV} {K n i : Nat} {ps qs : List Pr} {p : Pr} (h : RowP xs K n ps) (hi : i < n) (hq : qs = ps.set i p) (hx : xs' = xs.set i p.v) : RowP xs' K n qs := by
  obtain ⟨h1, h2, h3, h4, h5⟩ := h
  refine ⟨by rw [hx, List.length_set, h1], by rw [hq, List.length_set, h2], h3, ?_, ?_⟩
  · rw [hx]; intro x hxm
    rcases List.mem_or_eq_of_mem_set hxm with c | c
    · exact h4 x c
    · rw [c]; exact p.wf
  · rw [hx, hq, List.take_set, h5]; unfold prP; rw [List.map_set]

theorem oneP_spec (ps : List Pr) (hs : Srt ps) (c : Chg) (hkd : c.kind = 1 ∨ c.kind = 2 ∨ c.kind = 3) (xs : List PV) (K n : Nat) (hx : RowP xs K n ps) (hsz : (n + 1) * 32 ≤ 140737488355328) :
    FnL Try.prog 51 [.vw 0 2 0 n (some K), .p (.agg [.int .i64 c.kind, .str c.key, .str c.val])] [.arr 45 2 xs]
      fun v own => ∃ K' n' xs', v = .vw 0 2 0 n' (some K') ∧ own = [.arr 45 2 xs'] ∧ RowP xs' K' n' (one ps c) := by
  have hnl : n = ps.length := hx.2.1
  have hf1 := find_spec ps hs (by omega) c.key (prP ps) rfl
  have hf2 := find_spec ps hs (by omega) c.val (prP ps) rfl
  have hx1 := hx.2.2.2.2
  have hxK := hx.1
  have hnK := hx.2.2.1
  have hxw := hx.2.2.2.1
  have p2 := fun (h : c.kind = 2) (i : Nat) (b : Pr) => one_clear_there hs c h (i := i) (b := b)
  have p2n := fun (h : c.kind = 2) (i : Nat) => one_clear_not hs c h (i := i)
  have p3 := fun (h : c.kind = 3) (i k : Nat) => one_wipe (ps := ps) c h (i := i) (k := k)
  have p1 := fun (h : c.kind = 1) (i : Nat) (hp : Pos ps c.key i) (b : Pr) => one_put_there hs c h hp (b := b)
  have p1n := fun (h : c.kind = 1) (i : Nat) => one_put_new hs c h (i := i)
  obtain ⟨R, hR⟩ : ∃ R, R = one ps c := ⟨_, rfl⟩
  rw [← hR] at p2 p2n p3 p1 p1n ⊢
  obtain ⟨kd, ky, vl⟩ := c
  simp only at hkd hf1 hf2 p2 p2n p3 p1 p1n
  obtain ⟨zs, hzs⟩ : ∃ zs, zs = prP ps := ⟨_, rfl⟩
  rw [← hzs] at hf1 hf2
  have hzx : zs = (xs.drop 0).take n := by rw [hzs, List.drop_zero, hx1]
  refine fn_of_vc eOk fOk fo51 Try.func51 rfl rfl rfl fun B hB => ?_
  intro add sub mul quo rem band bor bxor bclr shl shr ieq ilt ile seq slt beq bnot orb bcond iwrap iof ssz hA cat sq sl imin imax smin smax len slen u8 hL op hop call hcall code hcode ret hret
  cbv
  refine hcall _ _ _ _ _ (CallEv.shown [] [0] hf1 rfl (.cons (.bvw 0 2 0 n (some K) _ 2 xs zs (by decide) rfl hzx) (.cons (.p _) .nil)) trivial ?_)
  rintro _ _ ⟨i, t, hpos, ht, rfl, rfl⟩
  refine ⟨.p _ (.tup _ (by intro c hc; simp at hc; rcases hc with rfl | rfl; exact .int _ _; exact .bool _)), (by intro r hr; cases hr), ?_⟩
  have hil : i ≤ n := by have := hpos.1; omega
  have p2 := fun h b => p2 h i b
  have p2n := fun h => p2n h i hpos
  have p1 := fun h b => p1 h i hpos b
  have p1n := fun h => p1n h i hpos
  have hii : t = true → i < n := fun h => by obtain ⟨p, h1, _⟩ := ht.1 h; have := (List.getElem?_eq_some_iff.1 h1).1; omega
  cbv
  by_cases h3 : kd = 3
  · have p3 := p3 h3
    refine vcIf.yes (by first | (simp [hA.not, hA.eq, hA.lt, hA.le, hA.cond, hA.beq, hA.orb, hL.len, hL.slen, hL.sq, h3]; done) | (simp only [h3]; simp [hA.not, hA.eq, hA.lt, hA.le, hA.cond, hA.beq, hA.orb, hL.len, hL.slen, hL.sq, h3]; done) | (simp [hA.not, hA.eq, hA.lt, hA.le, hA.cond, hA.beq, hA.orb, hL.len, hL.slen, hL.sq, h3]; omega) | (simp only [h3]; simp [hA.not, hA.eq, hA.lt, hA.le, hA.cond, hA.beq, hA.orb, hL.len, hL.slen, hL.sq, h3]; omega)) ?_
    cbv
    refine hcall _ _ _ _ _ (CallEv.shown [] [0] hf2 rfl (.cons (.bvw 0 2 0 n (some K) _ 2 xs zs (by decide) rfl hzx) (.cons (.p _) .nil)) trivial ?_)
    rintro _ _ ⟨k, t', hpos', ht', rfl, rfl⟩
    refine ⟨.p _ (.tup _ (by intro c hc; simp at hc; rcases hc with rfl | rfl; exact .int _ _; exact .bool _)), (by intro r hr; cases hr), ?_⟩
    have hkl : k ≤ n := by have := hpos'.1; omega
    have p3 := p3 i k hpos hpos'
    obtain ⟨m, hm⟩ : ∃ m, m = max i k := ⟨_, rfl⟩
    rw [← hm] at p3
    have hmx : imax (Int.ofNat i) (Int.ofNat k) = Int.ofNat m := by rw [hL.imax, hm]; simp only [Int.ofNat_eq_natCast]; split <;> omega
    have hdel := delP_spec xs K n i m hxK hnK (by omega) (by omega) hxw (by omega)
    cbv
    rw [hmx]
    refine hcall _ _ _ _ _ (CallEv.lend [0] hdel rfl (.cons (.vw 0 0 2 0 n (some K) rfl) (.cons (.p _) (.cons (.p _) .nil))) ⟨⟨_, rfl, .arr _ _ _⟩, trivial⟩ ?_)
    rintro _ _ ⟨n', xs', rfl, rfl, g1, g2, g3, g4⟩
    have key := hx.del (by omega) (by omega) p3 g1 g2 g3 g4
    cbv
    exact hret _ (RetEv.convW (ConvW.pack [0] hB rfl) (RetEv.ret eOk rfl ⟨K, n', xs', rfl, rfl, key⟩))
  by_cases h2 : kd = 2
  · have p2 := p2 h2
    have p2n := p2n h2
    refine vcIf.no (by first | (simp [hA.not, hA.eq, hA.lt, hA.le, hA.cond, hA.beq, hA.orb, hL.len, hL.slen, hL.sq, h3]; done) | (simp only [h3]; simp [hA.not, hA.eq, hA.lt, hA.le, hA.cond, hA.beq, hA.orb, hL.len, hL.slen, hL.sq, h3]; done) | (simp [hA.not, hA.eq, hA.lt, hA.le, hA.cond, hA.beq, hA.orb, hL.len, hL.slen, hL.sq, h3]; omega) | (simp only [h3]; simp [hA.not, hA.eq, hA.lt, hA.le, hA.cond, hA.beq, hA.orb, hL.len, hL.slen, hL.sq, h3]; omega)) ?_
    cbv
    refine vcIf.yes (by first | (simp [hA.not, hA.eq, hA.lt, hA.le, hA.cond, hA.beq, hA.orb, hL.len, hL.slen, hL.sq, h2]; done) | (simp only [h2]; simp [hA.not, hA.eq, hA.lt, hA.le, hA.cond, hA.beq, hA.orb, hL.len, hL.slen, hL.sq, h2]; done) | (simp [hA.not, hA.eq, hA.lt, hA.le, hA.cond, hA.beq, hA.orb, hL.len, hL.slen, hL.sq, h2]; omega) | (simp only [h2]; simp [hA.not, hA.eq, hA.lt, hA.le, hA.cond, hA.beq, hA.orb, hL.len, hL.slen, hL.sq, h2]; omega)) ?_
    cbv
    by_cases htt : t = true
    · refine Exists.elim (ht.1 htt) fun b hb => ?_
      have p2 := p2 b hb.1 hb.2
      have hin := hii htt
      refine Exists.elim (show ∃ j, j = i + 1 from ⟨_, rfl⟩) fun j hj => ?_
      have hdel := delP_spec xs K n i j hxK hnK (by omega) (by omega) hxw (by omega)
      have hadd : add .i64 (Int.ofNat i) 1 = Int.ofNat j := by rw [hA.add, IntWalk.i64_in _ (by simp only [Int.ofNat_eq_natCast]; omega), hj]; rfl
      rw [← hj] at p2
      refine vcIf.yes htt ?_
      cbv
      rw [hadd]
      refine hcall _ _ _ _ _ (CallEv.lend [0] hdel rfl (.cons (.vw 0 0 2 0 n (some K) rfl) (.cons (.p _) (.cons (.p _) .nil))) ⟨⟨_, rfl, .arr _ _ _⟩, trivial⟩ ?_)
      rintro _ _ ⟨n', xs', rfl, rfl, g1, g2, g3, g4⟩
      have key := hx.del (by omega) (by omega) p2 g1 g2 g3 g4
      cbv
      exact hret _ (RetEv.convW (ConvW.pack [0] hB rfl) (RetEv.ret eOk rfl ⟨K, n', xs', rfl, rfl, key⟩))
    · have p2n := p2n fun c => htt (ht.2 c)
      refine vcIf.no (Bool.eq_false_iff.2 htt) ?_
      cbv
      exact hret _ (RetEv.convW (ConvW.pack [0] hB rfl) (RetEv.ret eOk rfl ⟨K, n, xs, rfl, rfl, by rw [p2n]; exact hx⟩))
  have h1 : kd = 1 := by omega
  have p1 := p1 h1
  have p1n := p1n h1
  refine vcIf.no (by first | (simp [hA.not, hA.eq, hA.lt, hA.le, hA.cond, hA.beq, hA.orb, hL.len, hL.slen, hL.sq, h3]; done) | (simp only [h3]; simp [hA.not, hA.eq, hA.lt, hA.le, hA.cond, hA.beq, hA.orb, hL.len, hL.slen, hL.sq, h3]; done) | (simp [hA.not, hA.eq, hA.lt, hA.le, hA.cond, hA.beq, hA.orb, hL.len, hL.slen, hL.sq, h3]; omega) | (simp only [h3]; simp [hA.not, hA.eq, hA.lt, hA.le, hA.cond, hA.beq, hA.orb, hL.len, hL.slen, hL.sq, h3]; omega)) ?_
  cbv
  refine vcIf.no (by first | (simp [hA.not, hA.eq, hA.lt, hA.le, hA.cond, hA.beq, hA.orb, hL.len, hL.slen, hL.sq, h2]; done) | (simp only [h2]; simp [hA.not, hA.eq, hA.lt, hA.le, hA.cond, hA.beq, hA.orb, hL.len, hL.slen, hL.sq, h2]; done) | (simp [hA.not, hA.eq, hA.lt, hA.le, hA.cond, hA.beq, hA.orb, hL.len, hL.slen, hL.sq, h2]; omega) | (simp only [h2]; simp [hA.not, hA.eq, hA.lt, hA.le, hA.cond, hA.beq, hA.orb, hL.len, hL.slen, hL.sq, h2]; omega)) ?_
  cbv
  by_cases htt : t = true
  · refine Exists.elim (ht.1 htt) fun b hb => ?_
    have p1 := p1 b hb.1 hb.2
    have hin := hii htt
    have hxi : xs[i]? = some (.agg [.str b.key, .str b.val]) := by
      have h1 : (xs.take n)[i]? = some b.v := by rw [hx1]; unfold prP; rw [List.getElem?_map, hb.1]; rfl
      rwa [List.getElem?_take_of_lt hin] at h1
    have hbk := hb.2
    obtain ⟨bk, bv⟩ := b
    simp only at hxi hbk
    refine vcIf.yes htt ?_
    cbv
    refine ⟨i, rfl, hin, fun d hd => ?_⟩
    have hd : d = i := by omega
    have gc : xs[d]? = some (.agg [.str bk, .str bv]) := by rw [hd]; exact hxi
    cbv
    refine ⟨_, gc, PV.wf1 rfl, Nat.le_of_ble_eq_true rfl, fun ws hws => ?_⟩
    have key := hx.upd hin p1 (show ws = xs.set i (Pr.v ⟨ky, vl⟩) by rw [hws, hd, hbk]; rfl)
    cbv
    exact hret _ (RetEv.convW (ConvW.pack [0] hB rfl) (RetEv.ret eOk rfl ⟨K, n, ws, rfl, rfl, key⟩))
  · have p1n := p1n fun c => htt (ht.2 c)
    refine vcIf.no (Bool.eq_false_iff.2 htt) ?_
    cbv
    refine ⟨true, ?_⟩
    cbv
    refine hcall _ _ _ _ _ (CallEv.lend [0, 2] (insP_spec xs K n i hxK hnK hil hxw hsz ⟨ky, vl⟩ [.agg [.str ky, .str vl]] rfl) rfl (.cons (.vw 0 0 2 0 n (some K) rfl) (.cons (.p _) (.cons (.vw 1 2 2 0 1 none rfl) .nil))) ⟨⟨_, rfl, .arr _ _ _⟩, ⟨_, rfl, .arr _ _ _⟩, trivial⟩ ?_)
    rintro _ _ ⟨K', xs', rfl, rfl, g1, g2, g3, g4⟩
    have key := hx.ins hil p1n g1 g2 g3 g4
    refine Exists.elim (show ∃ m, m = n + 1 from ⟨_, rfl⟩) fun m hm => ?_
    rw [← hm] at key ⊢
    cbv
    exact hret _ (RetEv.convW (ConvW.pack [0] hB rfl) (RetEv.ret eOk rfl ⟨K', m, xs', rfl, rfl, key⟩))
end Go.Proofs.Ytdeolllpbflemaa
