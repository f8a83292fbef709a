/- PastJoins. Conditions: on sizes. -/
import Derived.Test.YtdeolllpbflemaaLPa9
set_option maxRecDepth 100000
set_option maxHeartbeats 32000000
set_option linter.unusedSimpArgs false
set_option linter.unusedVariables false
namespace Go.Proofs.Ytdeolllpbflemaa
open Go Go.Lx
open Go.Sx (vcIf)

theorem pastJoins_spec (a b : List Chg) (ha : a.length * 40 ≤ 67108864) (hb : b.length * 40 ≤ 67108864) (hfa : ∀ c ∈ a, c.fit) (hfb : ∀ c ∈ b, c.fit) (lo hi key : List UInt8) :
    FnL Try.prog 4 [.p (.sl (cP a)), .p (.sl (cP b)), .p (.agg [.str lo, .str hi]), .p (.str key)] [] fun r own => r = .p (.bool true) ∧ own = [] := by
  refine FnL.flat (R := fun r own => r = .p (.bool true)) ?_ (by rintro _ _ rfl; exact ⟨_, _, rfl, .refl _, rfl, rfl⟩)
  obtain ⟨ca, hca⟩ : ∃ ca, ca = cP a := ⟨_, rfl⟩
  obtain ⟨cb, hcb⟩ : ∃ cb, cb = cP b := ⟨_, rfl⟩
  obtain ⟨na, hna⟩ : ∃ na, na = a.length := ⟨_, rfl⟩
  obtain ⟨nb, hnb⟩ : ∃ nb, nb = b.length := ⟨_, rfl⟩
  have hal : ca.length = na := by rw [hca, cP_length, hna]
  have hbl : cb.length = nb := by rw [hcb, cP_length, hnb]
  rw [← hca, ← hcb]
  have hA1 := add_spec 0 0 0 4 a (by omega) [] [] 0 rfl (by decide) ca hca
  refine fn_of_vc eOk fOk fo4 Try.func4 rfl rfl rfl fun B hB => ?_
  intro add sub mul quo rem band bor bxor bclr shl shr ieq ilt ile seq slt beq bnot orb bcond iwrap iof ssz hA cat sq sl imin imax smin smax len slen u8 hL op hop call hcall code hcode ret hret
  cbv
  refine hcall _ _ _ _ _ (CallEv.same pastNew_spec rfl ?_)
  rintro _ _ ⟨rfl, rfl⟩
  cbv
  refine hcall _ _ _ _ _ (CallEv.pure pastNew_spec .nil ?_)
  rintro _ _ ⟨rfl, rfl⟩
  cbv
  refine hcall _ _ _ _ _ (CallEv.pure awakeP_spec .nil ?_)
  rintro _ _ ⟨rfl, rfl⟩
  cbv
  repeat (first | (refine vcIf.yes ?_ ?_; (focus (simp [hA.not, hA.eq, hA.lt, hA.le, hA.cond, hA.beq, hA.orb, hL.len, hL.slen, hL.sq]; done)); cbv) | (refine vcIf.no ?_ ?_; (focus (simp [hA.not, hA.eq, hA.lt, hA.le, hA.cond, hA.beq, hA.orb, hL.len, hL.slen, hL.sq]; done)); cbv) | fail)
  refine hcall _ _ _ _ _ (CallEv.lend [1, 2] hA1 rfl (.cons (.own 0 1 0 rfl) (.cons (.p _) (.cons (.p _) .nil))) (psL rfl rfl rfl rfl) ?_)
  rintro _ _ ⟨e1, he1, rfl, ⟨hne, rfl⟩ | ⟨rfl, ws1, m1, hm1, hws1, rfl⟩⟩
  · have hne' : ¬ (e1 : Int) = 0 := by omega
    cbv
    repeat (first | (refine vcIf.yes ?_ ?_; (focus (simp [hA.not, hA.eq, hA.lt, hA.le, hA.cond, hA.beq, hA.orb, hL.len, hL.slen, hL.sq, hne, hne']; done)); cbv) | (refine vcIf.no ?_ ?_; (focus (simp [hA.not, hA.eq, hA.lt, hA.le, hA.cond, hA.beq, hA.orb, hL.len, hL.slen, hL.sq, hne, hne']; done)); cbv) | fail)
    refine hcall _ _ _ _ _ (CallEv.pure awakeP_spec .nil ?_)
    rintro _ _ ⟨rfl, rfl⟩
    cbv
    exact hret _ (RetEv.ret eOk rfl (by simp [hA.not, hA.eq, hA.lt, hA.le, hA.cond, hA.beq, hA.orb, hL.len, hL.slen, hL.sq, oneOf]))
  obtain rfl : 1 = m1 := hm1.symm
  have hk1 : chks a = 0 := by unfold adE at he1; rw [if_neg (by decide)] at he1; exact he1.symm
  clear he1
  have hA2 := add_spec 0 0 4 8 b (by omega) [] ws1 1 (by rw [hws1]; rfl) (by decide) cb hcb
  cbv
  repeat (first | (refine vcIf.yes ?_ ?_; (focus (simp [hA.not, hA.eq, hA.lt, hA.le, hA.cond, hA.beq, hA.orb, hL.len, hL.slen, hL.sq]; done)); cbv) | (refine vcIf.no ?_ ?_; (focus (simp [hA.not, hA.eq, hA.lt, hA.le, hA.cond, hA.beq, hA.orb, hL.len, hL.slen, hL.sq]; done)); cbv) | fail)
  refine hcall _ _ _ _ _ (CallEv.lend [1, 2] hA2 rfl (.cons (.own 0 1 0 rfl) (.cons (.p _) (.cons (.p _) .nil))) (psL rfl rfl rfl rfl) ?_)
  rintro _ _ ⟨e2, he2, rfl, ⟨hne, rfl⟩ | ⟨rfl, ws2, m2, hm2, hws2, rfl⟩⟩
  · have hne' : ¬ (e2 : Int) = 0 := by omega
    cbv
    repeat (first | (refine vcIf.yes ?_ ?_; (focus (simp [hA.not, hA.eq, hA.lt, hA.le, hA.cond, hA.beq, hA.orb, hL.len, hL.slen, hL.sq, hne, hne']; done)); cbv) | (refine vcIf.no ?_ ?_; (focus (simp [hA.not, hA.eq, hA.lt, hA.le, hA.cond, hA.beq, hA.orb, hL.len, hL.slen, hL.sq, hne, hne']; done)); cbv) | fail)
    refine hcall _ _ _ _ _ (CallEv.pure awakeP_spec .nil ?_)
    rintro _ _ ⟨rfl, rfl⟩
    cbv
    exact hret _ (RetEv.ret eOk rfl (by simp [hA.not, hA.eq, hA.lt, hA.le, hA.cond, hA.beq, hA.orb, hL.len, hL.slen, hL.sq, oneOf]))
  obtain rfl : 2 = m2 := hm2.symm
  have hk2 : chks b = 0 := by unfold adE at he2; rw [if_neg (by decide)] at he2; exact he2.symm
  clear he2
  have hwa : Wf 3 ca := by rw [hca]; exact cP_wf a
  have hwb : Wf 3 cb := by rw [hcb]; exact cP_wf b
  cbv
  repeat (first | (refine vcIf.yes ?_ ?_; (focus (simp [hA.not, hA.eq, hA.lt, hA.le, hA.cond, hA.beq, hA.orb, hL.len, hL.slen, hL.sq]; done)); cbv) | (refine vcIf.no ?_ ?_; (focus (simp [hA.not, hA.eq, hA.lt, hA.le, hA.cond, hA.beq, hA.orb, hL.len, hL.slen, hL.sq]; done)); cbv) | fail)
  refine ⟨true, ?_⟩
  cbv
  repeat (first | (refine vcIf.yes ?_ ?_; (focus (simp [hA.not, hA.eq, hA.lt, hA.le, hA.cond, hA.beq, hA.orb, hL.len, hL.slen, hL.sq]; done)); cbv) | (refine vcIf.no ?_ ?_; (focus (simp [hA.not, hA.eq, hA.lt, hA.le, hA.cond, hA.beq, hA.orb, hL.len, hL.slen, hL.sq]; done)); cbv) | fail)
  refine .inl ⟨(), rfl, rfl, hwa, ?_, ?_, fun us0 n0 hu0 hn0 => ?_⟩
  · show 0 + ca.length ≤ maxLen
    unfold maxLen; omega
  · show (0 + ca.length) * 40 ≤ _
    omega
  replace hu0 : us0 = [] ++ ca := hu0
  replace hn0 : n0 = 0 + ca.length := hn0
  obtain rfl : na = n0 := by omega
  rw [List.nil_append] at hu0
  subst hu0
  cbv
  repeat (first | (refine vcIf.yes ?_ ?_; (focus (simp [hA.not, hA.eq, hA.lt, hA.le, hA.cond, hA.beq, hA.orb, hL.len, hL.slen, hL.sq]; done)); cbv) | (refine vcIf.no ?_ ?_; (focus (simp [hA.not, hA.eq, hA.lt, hA.le, hA.cond, hA.beq, hA.orb, hL.len, hL.slen, hL.sq]; done)); cbv) | fail)
  refine .inl ⟨(), rfl, hal.symm, hwb, ?_, ?_, fun us1 n1 hu1 hn1 => ?_⟩
  · show na + cb.length ≤ maxLen
    unfold maxLen; omega
  · show (na + cb.length) * 40 ≤ _
    omega
  replace hu1 : us1 = us0 ++ cb := hu1
  replace hn1 : n1 = na + cb.length := hn1
  have hch : us0 ++ cb = cP (a ++ b) := by rw [cP_append, hca, hcb]
  have hus1 : us1 = cP (a ++ b) := by rw [hu1, hch]
  have hul : us1.length = n1 := by rw [hu1, hn1, List.length_append, hal]
  have hA3 := fun (cs : List PV) (h : cs = cP (a ++ b)) => add_spec 0 0 0 8 (a ++ b) (by rw [List.length_append]; omega) [] [] 0 rfl (by decide) cs h
  cbv
  repeat (first | (refine vcIf.yes ?_ ?_; (focus (simp [hA.not, hA.eq, hA.lt, hA.le, hA.cond, hA.beq, hA.orb, hL.len, hL.slen, hL.sq]; done)); cbv) | (refine vcIf.no ?_ ?_; (focus (simp [hA.not, hA.eq, hA.lt, hA.le, hA.cond, hA.beq, hA.orb, hL.len, hL.slen, hL.sq]; done)); cbv) | fail)
  refine hcall _ _ _ _ _ (CallEv.freezeG 5 rfl (by rw [hB]; exact Nat.zero_le _) fun g hg => CallEv.lend [3, 4] (hA3 (g 0 n1) (by rw [hg, List.drop_zero, ← hul, List.take_length, hus1])) rfl (.cons (.own 0 3 0 rfl) (.cons (.p _) (.cons (.p _) .nil))) (psL rfl rfl rfl rfl) ?_)
  rintro _ _ ⟨e3, he3, rfl, hc3⟩
  have hk3 : e3 = 0 := by
    rw [he3]; unfold adE; rw [if_neg (by decide), chks_append a b hk1, hk2]
  rcases hc3 with ⟨hne, _⟩ | ⟨_, ws3, m3, hm3, hws3, rfl⟩
  · exact absurd hk3 hne
  subst hk3
  obtain rfl : 1 = m3 := hm3.symm
  clear he3
  have hp2 : ws2 = layP [⟨4, a⟩, ⟨8, b⟩] := by rw [hws2, hws1, hca, hcb]; rfl
  have hq3 : ws3 = layP [⟨8, a ++ b⟩] := by rw [hws3, hg, List.drop_zero, ← hul, List.take_length, hus1]; rfl
  clear hws1 hws2 hws3
  have hxs2 : ws2 = (ws2.drop 0).take 2 := by rw [hp2]; rfl
  have hxs3 : ws3 = (ws3.drop 0).take 1 := by rw [hq3]; rfl
  have hMa : a.length ≤ 1677721 := by omega
  have hMb : b.length ≤ 1677721 := by omega
  have hab : (a ++ b).length ≤ 3355442 := by rw [List.length_append]; omega
  have hL1 := listW_spec 0 0 8 8 lo hi 1000 [] List.Pairwise.nil [⟨4, a⟩, ⟨8, b⟩] 1677721 (by intro l hl; simp only [List.mem_cons, List.not_mem_nil, or_false] at hl; rcases hl with rfl | rfl; exact hMa; exact hMb) (by intro l hl; simp only [List.mem_cons, List.not_mem_nil, or_false] at hl; rcases hl with rfl | rfl; exact hk1; exact hk2) (by simp) (by simp) [] rfl ws2 hp2
  have hL2 := fun v => listW_spec 0 0 8 v lo hi 1000 [] List.Pairwise.nil [⟨8, a ++ b⟩] 3355442 (by intro l hl; simp only [List.mem_cons, List.not_mem_nil, or_false] at hl; rcases hl with rfl; exact hab) (by intro l hl; simp only [List.mem_cons, List.not_mem_nil, or_false] at hl; rcases hl with rfl; exact (chks_append a b hk1).trans hk2) (by simp) (by simp) [] rfl ws3 hq3
  have hG1 := getW_spec 0 0 8 8 [] List.Pairwise.nil (by decide) [⟨4, a⟩, ⟨8, b⟩] (by intro l hl; simp only [List.mem_cons, List.not_mem_nil, or_false] at hl; rcases hl with rfl | rfl; exact ⟨Nat.lt_of_le_of_lt hMa (by decide), hfa⟩; exact ⟨Nat.lt_of_le_of_lt hMb (by decide), hfb⟩) (by simp) key [] rfl ws2 hp2
  have hG2 := getW_spec 0 0 8 8 [] List.Pairwise.nil (by decide) [⟨8, a ++ b⟩] (by intro l hl; simp only [List.mem_cons, List.not_mem_nil, or_false] at hl; rcases hl with rfl; exact ⟨Nat.lt_of_le_of_lt hab (by decide), fun c hc => (List.mem_append.1 hc).elim (hfa c) (hfb c)⟩) (by simp) key [] rfl ws3 hq3
  have hE1 : liE 0 8 8 1000 = 0 := by decide
  have hE2 : liE 0 8 7 1000 = 0 := by decide
  have hE3 : knw 0 8 8 = 0 := by decide
  have hW : whole [] [⟨4, a⟩, ⟨8, b⟩] 8 = whole [] [⟨8, a ++ b⟩] 8 := by
    show ones (ones [] a) b = ones [] (a ++ b)
    exact List.foldl_append.symm
  have hX : liP 0 8 [] [⟨4, a⟩, ⟨8, b⟩] 8 ⟨lo, hi⟩ 1000 = liP 0 8 [] [⟨8, a ++ b⟩] 8 ⟨lo, hi⟩ 1000 := by unfold liP; rw [hW]
  have hY : liP 0 8 [] [⟨8, a ++ b⟩] 7 ⟨lo, hi⟩ 1000 = [] := by unfold liP; split <;> rfl
  have hO : gtO 0 8 [] [⟨4, a⟩, ⟨8, b⟩] 8 key = gtO 0 8 [] [⟨8, a ++ b⟩] 8 key := by unfold gtO; rw [hW]
  have hnx : (liP 0 8 [] [⟨8, a ++ b⟩] 8 ⟨lo, hi⟩ 1000).length < 281474976710656 := by
    unfold liP lst
    split
    · refine Nat.lt_of_le_of_lt (List.length_take_le _ _) (by decide)
    · simp
  obtain ⟨X, hXe⟩ : ∃ X, X = liP 0 8 [] [⟨8, a ++ b⟩] 8 ⟨lo, hi⟩ 1000 := ⟨_, rfl⟩
  obtain ⟨O, hOe⟩ : ∃ O, O = gtO 0 8 [] [⟨8, a ++ b⟩] 8 key := ⟨_, rfl⟩
  have hL3 := hL2 7
  replace hL2 := hL2 8
  rw [hX, hE1, ← hXe] at hL1
  rw [hE1, ← hXe] at hL2
  rw [hE2, hY] at hL3
  rw [hO, hE3, ← hOe] at hG1
  rw [hE3, ← hOe] at hG2
  rw [← hXe] at hnx
  clear hX hY hO hXe hOe hW hE1 hE2 hE3 hp2 hq3
  cbv
  repeat (first | (refine vcIf.yes ?_ ?_; (focus (simp [hA.not, hA.eq, hA.lt, hA.le, hA.cond, hA.beq, hA.orb, hL.len, hL.slen, hL.sq]; done)); cbv) | (refine vcIf.no ?_ ?_; (focus (simp [hA.not, hA.eq, hA.lt, hA.le, hA.cond, hA.beq, hA.orb, hL.len, hL.slen, hL.sq]; done)); cbv) | fail)
  refine hcall _ _ _ _ _ (CallEv.frzR (CallEv.shown [] [1, 2] hL1 rfl (.cons (psT (by decide) (by decide) rfl rfl _ hxs2) (.cons (.p _) (.cons (.p _) (.cons (.p _) .nil)))) trivial ?_))
  rintro _ _ ⟨x1, u1, k1, hx1, hu1', hk1', rfl, rfl⟩
  subst hx1
  refine ⟨flat_l1, flat_l2 hu1', 6, _, _, _, rfl, (by rw [hB]; exact Nat.zero_le _), fun g1 hg1 => ?_⟩
  have hz1 : g1 0 k1 = prP X := by rw [hg1, List.drop_zero, hk1', List.take_length, hu1']
  cbv
  refine hcall _ _ _ _ _ (CallEv.frzR (CallEv.shown [] [3, 4] hL2 rfl (.cons (psT (by decide) (by decide) rfl rfl _ hxs3) (.cons (.p _) (.cons (.p _) (.cons (.p _) .nil)))) trivial ?_))
  rintro _ _ ⟨x2, u2, k2, hx2, hu2', hk2', rfl, rfl⟩
  subst hx2
  refine ⟨flat_l1, flat_l2 hu2', 7, _, _, _, rfl, (by rw [hB]; exact Nat.zero_le _), fun g2 hg2 => ?_⟩
  have hz2 : g2 0 k2 = prP X := by rw [hg2, List.drop_zero, hk2', List.take_length, hu2']
  cbv
  refine hcall _ _ _ _ _ (CallEv.shown [] [1, 2] hG1 rfl (.cons (psT (by decide) (by decide) rfl rfl _ hxs2) (.cons (.p _) (.cons (.p _) .nil))) trivial ?_)
  rintro _ _ ⟨s1, b1, x3, hx3, hs1, hb1, rfl, rfl⟩
  subst hx3
  refine ⟨flat_get _ _ _, (by intro r hr; cases hr), ?_⟩
  cbv
  refine hcall _ _ _ _ _ (CallEv.shown [] [3, 4] hG2 rfl (.cons (psT (by decide) (by decide) rfl rfl _ hxs3) (.cons (.p _) (.cons (.p _) .nil))) trivial ?_)
  rintro _ _ ⟨s2, b2, x4, hx4, hs2, hb2, rfl, rfl⟩
  subst hx4
  refine ⟨flat_get _ _ _, (by intro r hr; cases hr), ?_⟩
  obtain rfl : s1 = s2 := hs1.trans hs2.symm
  obtain rfl : b1 = b2 := hb1.trans hb2.symm
  clear hs1 hs2 hb1 hb2
  cbv
  refine hcall _ _ _ _ _ (CallEv.frzR (CallEv.shown [] [3, 4] hL3 rfl (.cons (psT (by decide) (by decide) rfl rfl _ hxs3) (.cons (.p _) (.cons (.p _) (.cons (.p _) .nil)))) trivial ?_))
  rintro _ _ ⟨x5, u3, k3, hx5, hu3', hk3', rfl, rfl⟩
  subst hx5
  refine ⟨flat_l1, flat_l2 hu3', 8, _, _, _, rfl, (by rw [hB]; exact Nat.zero_le _), fun g3 hg3 => ?_⟩
  have hz3 : g3 0 k3 = [] := by rw [hg3, List.drop_zero, hk3', List.take_length, hu3']; rfl
  have hpr := rPairs_spec X X hnx hnx true ⟨fun _ => rfl, fun _ => rfl⟩ (g1 0 k1) (g2 0 k2) hz1 hz2
  have hl3 : len (g3 0 k3) = 0 := by rw [hL.len, hz3]; rfl
  have hsq : sq s1 s1 = true := by rw [hL.sq]; exact decide_eq_true rfl
  have hbq : beq b1 b1 = true := by rw [hA.beq]; cases b1 <;> rfl
  cbv
  repeat (first | (refine vcIf.yes ?_ ?_; (focus (simp [hA.not, hA.eq, hA.lt, hA.le, hA.cond, hA.beq, hA.orb, hL.len, hL.slen, hL.sq]; done)); cbv) | (refine vcIf.no ?_ ?_; (focus (simp [hA.not, hA.eq, hA.lt, hA.le, hA.cond, hA.beq, hA.orb, hL.len, hL.slen, hL.sq]; done)); cbv) | fail)
  refine hcall _ _ _ _ _ (CallEv.same hpr rfl ?_)
  rintro _ _ ⟨rfl, rfl⟩
  cbv
  repeat (first | (refine vcIf.yes ?_ ?_; (focus (simp [hA.not, hA.eq, hA.lt, hA.le, hA.cond, hA.beq, hA.orb, hL.len, hL.slen, hL.sq, hsq, hbq]; done)); cbv) | (refine vcIf.no ?_ ?_; (focus (simp [hA.not, hA.eq, hA.lt, hA.le, hA.cond, hA.beq, hA.orb, hL.len, hL.slen, hL.sq, hsq, hbq]; done)); cbv) | fail)
  rw [hl3]

  exact hret _ (RetEv.ret eOk rfl (by simp [hA.not, hA.eq, hA.lt, hA.le, hA.cond, hA.beq, hA.orb, hL.len, hL.slen, hL.sq, oneOf, hsq, hbq, hl3]))
end Go.Proofs.Ytdeolllpbflemaa
