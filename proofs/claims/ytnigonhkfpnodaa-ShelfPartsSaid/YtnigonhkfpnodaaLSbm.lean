/- LSb1 together. Conditions: on sizes. -/
import Derived.Test.YtnigonhkfpnodaaLSam
import Derived.Test.YtnigonhkfpnodaaLY3
set_option maxRecDepth 100000
set_option maxHeartbeats 16000000
set_option linter.unusedSimpArgs false
set_option linter.unusedVariables false
section
namespace Go.Proofs.Ytnigonhkfpnodaa
open Go Go.Lx
open Go.Sx (vcIf)

abbrev zz3 : List UInt8 := [255, 255, 255]
/-- The spans, and what their shelves show. -/
def prt (at' : List UInt8) : List Spn := [⟨[], zz3⟩, ⟨[], at'⟩, ⟨at', zz3⟩]
theorem prt_ok {at' : List UInt8} (h0 : at' ≠ []) (h1 : bl at' zz3 = true) (h2 : at'.length ≤ 16) : ∀ s ∈ prt at', Op.bytesLess s.lo s.hi = true ∧ s.lo.length ≤ 17 ∧ s.hi.length ≤ 17 := by
  intro s hs
  simp only [prt, List.mem_cons, List.not_mem_nil, or_false] at hs
  rcases hs with rfl | rfl | rfl
  · exact ⟨rfl, by decide, by decide⟩
  · refine ⟨?_, Nat.zero_le _, by simp only; omega⟩
    cases at' with
    | nil => exact absurd rfl h0
    | cons x r => rfl
  · exact ⟨h1, by simp only; omega, (by decide : zz3.length ≤ 17)⟩
theorem ones_len1 (s : Spn) {l : List Chg} (hl : l.length ≤ 1000) : (ones [] (cutL s l)).length ≤ 1000 := by
  have h2 := cutL_len s l
  have h3 := lays_take_len (ps := []) (ls := [⟨5, cutL s l⟩]) (M := 1000) srt_nil (fun q hq => by simp only [List.mem_cons, List.not_mem_nil, or_false] at hq; rw [hq]; simp only; omega) (i := 1) (Nat.le_refl 1)
  have h4 : lays [] ([⟨5, cutL s l⟩].take 1) = ones [] (cutL s l) := rfl
  rw [h4] at h3
  simp at h3; omega
theorem pcs_len (al s : Spn) {l : List Chg} (hl : l.length ≤ 1000) : (pcs al s l).length ≤ 1000 := Nat.le_trans (List.length_filter_le _ _) (ones_len1 s hl)
theorem li_pcs {s : Spn} {l : List Chg} (hl : l.length ≤ 1000) : liP 0 5 [] [⟨5, cutL s l⟩] 5 (mt ⟨[], zz3⟩ s) 10000 = pcs ⟨[], zz3⟩ s l := by
  have h1 := pcs_len ⟨[], zz3⟩ s hl
  unfold liP lst
  rw [if_pos (by decide), show whole [] [⟨5, cutL s l⟩] 5 = ones [] (cutL s l) from rfl]
  unfold pcs at h1 ⊢
  exact List.take_of_length_le (Nat.le_trans h1 (by decide))
theorem shelfParts_spec (l : List Chg) (hf : ∀ c ∈ l, c.fit) (hn : l.length * 40 ≤ 140737488351232) (at' : List UInt8) :
    FnL Try.prog 6 [.p (.sl (cP l)), .p (.str at')] [] fun r own => r = .p (.bool true) ∧ own = [] := by
  refine FnL.flat (R := fun r own => r = .p (.bool true)) ?_ (by rintro _ _ rfl; exact ⟨_, _, rfl, .refl _, rfl, rfl⟩)
  obtain ⟨cs, hcs⟩ : ∃ cs, cs = cP l := ⟨_, rfl⟩
  obtain ⟨N, hN⟩ : ∃ N, N = l.length := ⟨_, rfl⟩
  have hcl : cs.length = N := by rw [hcs, cP_length, hN]
  rw [← hcs]
  have hAl := rall_spec l (by omega) cs hcs
  have hnew := tapeNew_spec 1000 (by decide) (by decide)
  obtain ⟨ln, hln⟩ : ∃ ln, ln = at'.length := ⟨_, rfl⟩
  obtain ⟨zt, hzt⟩ : ∃ zt : List UInt8, zt = [255, 255, 255] := ⟨_, rfl⟩
  refine fn_of_vc eOk fOk fo6 Try.func6 rfl rfl rfl fun B hB => ?_
  intro add sub mul quo rem band bor bxor bclr shl shr ieq ilt ile seq slt beq bnot orb bcond iwrap iof ssz hA cat sq sl imin imax smin smax len slen u8 hL op hop call hcall code hcode ret hret
  have hlc : len cs = Int.ofNat N := by rw [hL.len, hcl]; rfl
  have hla : slen at' = Int.ofNat ln := by rw [hL.slen, ← hln]; rfl
  cbv
  refine hcall _ _ _ _ _ (CallEv.pure awake18_spec .nil ?_)
  rintro _ _ ⟨rfl, rfl⟩
  cbv
  repeat (first | (refine vcIf.yes ?_ ?_; (focus (simp [hA.not, hA.eq, hA.lt, hA.le, hA.cond, hA.beq, hA.orb, hL.len, hL.slen, hL.sq]; done)); cbv) | (refine vcIf.no ?_ ?_; (focus (simp [hA.not, hA.eq, hA.lt, hA.le, hA.cond, hA.beq, hA.orb, hL.len, hL.slen, hL.sq]; done)); cbv) | fail)
  by_cases q0 : at' = []
  · have hs0 : sq at' [] = true := by rw [hL.sq]; exact decide_eq_true q0
    refine vcIf.yes (by first | (simp [hA.not, hA.eq, hA.lt, hA.le, hA.cond, hA.beq, hA.orb, hL.len, hL.slen, hL.sq, hs0]; done) | (simp only [hs0]; simp [hA.not, hA.eq, hA.lt, hA.le, hA.cond, hA.beq, hA.orb, hL.len, hL.slen, hL.sq, hs0]; done) | (simp [hA.not, hA.eq, hA.lt, hA.le, hA.cond, hA.beq, hA.orb, hL.len, hL.slen, hL.sq, hs0]; omega) | (simp only [hs0]; simp [hA.not, hA.eq, hA.lt, hA.le, hA.cond, hA.beq, hA.orb, hL.len, hL.slen, hL.sq, hs0]; omega)) ?_
    cbv
    repeat (first | (refine vcIf.yes ?_ ?_; (focus (simp [hA.not, hA.eq, hA.lt, hA.le, hA.cond, hA.beq, hA.orb, hL.len, hL.slen, hL.sq]; done)); cbv) | (refine vcIf.no ?_ ?_; (focus (simp [hA.not, hA.eq, hA.lt, hA.le, hA.cond, hA.beq, hA.orb, hL.len, hL.slen, hL.sq]; done)); cbv) | fail)
    refine hcall _ _ _ _ _ (CallEv.pure awake18_spec .nil ?_)
    rintro _ _ ⟨rfl, rfl⟩
    cbv
    exact hret _ (RetEv.ret eOk rfl (by simp [hA.not, hA.eq, hA.lt, hA.le, hA.cond, hA.beq, hA.orb, hL.len, hL.slen, hL.sq, oneOf]))
  have hs0 : sq at' [] = false := by rw [hL.sq]; exact decide_eq_false q0
  refine vcIf.no (by first | (simp [hA.not, hA.eq, hA.lt, hA.le, hA.cond, hA.beq, hA.orb, hL.len, hL.slen, hL.sq, hs0]; done) | (simp only [hs0]; simp [hA.not, hA.eq, hA.lt, hA.le, hA.cond, hA.beq, hA.orb, hL.len, hL.slen, hL.sq, hs0]; done) | (simp [hA.not, hA.eq, hA.lt, hA.le, hA.cond, hA.beq, hA.orb, hL.len, hL.slen, hL.sq, hs0]; omega) | (simp only [hs0]; simp [hA.not, hA.eq, hA.lt, hA.le, hA.cond, hA.beq, hA.orb, hL.len, hL.slen, hL.sq, hs0]; omega)) ?_
  cbv
  by_cases q1 : Op.bytesLess at' [255, 255, 255] = true
  rotate_left
  · have hs1 : sl at' [255, 255, 255] = false := by rw [hL.sl]; exact Bool.eq_false_iff.2 q1
    refine vcIf.yes (by first | (simp [hA.not, hA.eq, hA.lt, hA.le, hA.cond, hA.beq, hA.orb, hL.len, hL.slen, hL.sq, hs1]; done) | (simp only [hs1]; simp [hA.not, hA.eq, hA.lt, hA.le, hA.cond, hA.beq, hA.orb, hL.len, hL.slen, hL.sq, hs1]; done) | (simp [hA.not, hA.eq, hA.lt, hA.le, hA.cond, hA.beq, hA.orb, hL.len, hL.slen, hL.sq, hs1]; omega) | (simp only [hs1]; simp [hA.not, hA.eq, hA.lt, hA.le, hA.cond, hA.beq, hA.orb, hL.len, hL.slen, hL.sq, hs1]; omega)) ?_
    cbv
    repeat (first | (refine vcIf.yes ?_ ?_; (focus (simp [hA.not, hA.eq, hA.lt, hA.le, hA.cond, hA.beq, hA.orb, hL.len, hL.slen, hL.sq]; done)); cbv) | (refine vcIf.no ?_ ?_; (focus (simp [hA.not, hA.eq, hA.lt, hA.le, hA.cond, hA.beq, hA.orb, hL.len, hL.slen, hL.sq]; done)); cbv) | fail)
    refine hcall _ _ _ _ _ (CallEv.pure awake18_spec .nil ?_)
    rintro _ _ ⟨rfl, rfl⟩
    cbv
    exact hret _ (RetEv.ret eOk rfl (by simp [hA.not, hA.eq, hA.lt, hA.le, hA.cond, hA.beq, hA.orb, hL.len, hL.slen, hL.sq, oneOf]))
  have hs1 : sl at' [255, 255, 255] = true := by rw [hL.sl]; exact q1
  refine vcIf.no (by first | (simp [hA.not, hA.eq, hA.lt, hA.le, hA.cond, hA.beq, hA.orb, hL.len, hL.slen, hL.sq, hs1]; done) | (simp only [hs1]; simp [hA.not, hA.eq, hA.lt, hA.le, hA.cond, hA.beq, hA.orb, hL.len, hL.slen, hL.sq, hs1]; done) | (simp [hA.not, hA.eq, hA.lt, hA.le, hA.cond, hA.beq, hA.orb, hL.len, hL.slen, hL.sq, hs1]; omega) | (simp only [hs1]; simp [hA.not, hA.eq, hA.lt, hA.le, hA.cond, hA.beq, hA.orb, hL.len, hL.slen, hL.sq, hs1]; omega)) ?_
  cbv
  by_cases h2 : 16 < ln
  · refine vcIf.yes (by first | (simp [hA.not, hA.eq, hA.lt, hA.le, hA.cond, hA.beq, hA.orb, hL.len, hL.slen, hL.sq, hla, h2]; done) | (simp only [hla, h2]; simp [hA.not, hA.eq, hA.lt, hA.le, hA.cond, hA.beq, hA.orb, hL.len, hL.slen, hL.sq, hla, h2]; done) | (simp [hA.not, hA.eq, hA.lt, hA.le, hA.cond, hA.beq, hA.orb, hL.len, hL.slen, hL.sq, hla, h2]; omega) | (simp only [hla, h2]; simp [hA.not, hA.eq, hA.lt, hA.le, hA.cond, hA.beq, hA.orb, hL.len, hL.slen, hL.sq, hla, h2]; omega)) ?_
    cbv
    repeat (first | (refine vcIf.yes ?_ ?_; (focus (simp [hA.not, hA.eq, hA.lt, hA.le, hA.cond, hA.beq, hA.orb, hL.len, hL.slen, hL.sq]; done)); cbv) | (refine vcIf.no ?_ ?_; (focus (simp [hA.not, hA.eq, hA.lt, hA.le, hA.cond, hA.beq, hA.orb, hL.len, hL.slen, hL.sq]; done)); cbv) | fail)
    refine hcall _ _ _ _ _ (CallEv.pure awake18_spec .nil ?_)
    rintro _ _ ⟨rfl, rfl⟩
    cbv
    exact hret _ (RetEv.ret eOk rfl (by simp [hA.not, hA.eq, hA.lt, hA.le, hA.cond, hA.beq, hA.orb, hL.len, hL.slen, hL.sq, oneOf]))
  refine vcIf.no (by first | (simp [hA.not, hA.eq, hA.lt, hA.le, hA.cond, hA.beq, hA.orb, hL.len, hL.slen, hL.sq, hla, h2]; done) | (simp only [hla, h2]; simp [hA.not, hA.eq, hA.lt, hA.le, hA.cond, hA.beq, hA.orb, hL.len, hL.slen, hL.sq, hla, h2]; done) | (simp [hA.not, hA.eq, hA.lt, hA.le, hA.cond, hA.beq, hA.orb, hL.len, hL.slen, hL.sq, hla, h2]; omega) | (simp only [hla, h2]; simp [hA.not, hA.eq, hA.lt, hA.le, hA.cond, hA.beq, hA.orb, hL.len, hL.slen, hL.sq, hla, h2]; omega)) ?_
  cbv
  refine hcall _ _ _ _ _ (CallEv.same hAl rfl ?_)
  rintro _ _ ⟨e1, he1, rfl, rfl⟩
  cbv
  by_cases h1 : e1 = 0
  rotate_left
  · repeat (first | (refine vcIf.yes ?_ ?_; (focus (simp [hA.not, hA.eq, hA.lt, hA.le, hA.cond, hA.beq, hA.orb, hL.len, hL.slen, hL.sq, h1]; done)); cbv) | (refine vcIf.no ?_ ?_; (focus (simp [hA.not, hA.eq, hA.lt, hA.le, hA.cond, hA.beq, hA.orb, hL.len, hL.slen, hL.sq, h1]; done)); cbv) | fail)
    refine hcall _ _ _ _ _ (CallEv.pure awake18_spec .nil ?_)
    rintro _ _ ⟨rfl, rfl⟩
    cbv
    exact hret _ (RetEv.ret eOk rfl (by simp [hA.not, hA.eq, hA.lt, hA.le, hA.cond, hA.beq, hA.orb, hL.len, hL.slen, hL.sq, oneOf]))
  repeat (first | (refine vcIf.yes ?_ ?_; (focus (simp [hA.not, hA.eq, hA.lt, hA.le, hA.cond, hA.beq, hA.orb, hL.len, hL.slen, hL.sq, h1]; done)); cbv) | (refine vcIf.no ?_ ?_; (focus (simp [hA.not, hA.eq, hA.lt, hA.le, hA.cond, hA.beq, hA.orb, hL.len, hL.slen, hL.sq, h1]; done)); cbv) | fail)
  by_cases h3 : 1000 < N
  · refine vcIf.yes (by first | (simp [hA.not, hA.eq, hA.lt, hA.le, hA.cond, hA.beq, hA.orb, hL.len, hL.slen, hL.sq, hlc, h3]; done) | (simp only [hlc, h3]; simp [hA.not, hA.eq, hA.lt, hA.le, hA.cond, hA.beq, hA.orb, hL.len, hL.slen, hL.sq, hlc, h3]; done) | (simp [hA.not, hA.eq, hA.lt, hA.le, hA.cond, hA.beq, hA.orb, hL.len, hL.slen, hL.sq, hlc, h3]; omega) | (simp only [hlc, h3]; simp [hA.not, hA.eq, hA.lt, hA.le, hA.cond, hA.beq, hA.orb, hL.len, hL.slen, hL.sq, hlc, h3]; omega)) ?_
    cbv
    repeat (first | (refine vcIf.yes ?_ ?_; (focus (simp [hA.not, hA.eq, hA.lt, hA.le, hA.cond, hA.beq, hA.orb, hL.len, hL.slen, hL.sq]; done)); cbv) | (refine vcIf.no ?_ ?_; (focus (simp [hA.not, hA.eq, hA.lt, hA.le, hA.cond, hA.beq, hA.orb, hL.len, hL.slen, hL.sq]; done)); cbv) | fail)
    refine hcall _ _ _ _ _ (CallEv.pure awake18_spec .nil ?_)
    rintro _ _ ⟨rfl, rfl⟩
    cbv
    exact hret _ (RetEv.ret eOk rfl (by simp [hA.not, hA.eq, hA.lt, hA.le, hA.cond, hA.beq, hA.orb, hL.len, hL.slen, hL.sq, oneOf]))
  have hl1 : l.length ≤ 1000 := by omega
  have hkl : chks l = 0 := by omega
  have hpt := prt_ok q0 q1 (by omega)
  have fb : Bat.fit ⟨0, 5, 0, l⟩ := fit_of (by decide) (by decide) hf hl1
  refine vcIf.no (by first | (simp [hA.not, hA.eq, hA.lt, hA.le, hA.cond, hA.beq, hA.orb, hL.len, hL.slen, hL.sq, hlc, h3]; done) | (simp only [hlc, h3]; simp [hA.not, hA.eq, hA.lt, hA.le, hA.cond, hA.beq, hA.orb, hL.len, hL.slen, hL.sq, hlc, h3]; done) | (simp [hA.not, hA.eq, hA.lt, hA.le, hA.cond, hA.beq, hA.orb, hL.len, hL.slen, hL.sq, hlc, h3]; omega) | (simp only [hlc, h3]; simp [hA.not, hA.eq, hA.lt, hA.le, hA.cond, hA.beq, hA.orb, hL.len, hL.slen, hL.sq, hlc, h3]; omega)) ?_
  cbv
  refine ⟨false, ?_⟩
  cbv
  obtain ⟨sps, hsps⟩ : ∃ sps, sps = pP (prt at') := ⟨_, rfl⟩
  obtain ⟨G, hG⟩ : ∃ G : Spn → PV, G = fun s => PV.sl (prP (pcs ⟨[], zz3⟩ s l)) := ⟨_, rfl⟩
  refine hcode _ _ _ (CodeEv.conv (Conv.hollow 7 68 1 (by decide) rfl) (CodeEv.loop eOk fOk (ι := Nat × List PV) (fun q => [(0, .p (.sl cs)), (1, .p (.str at')), (5, .own 0 0), (6, .p (.sl sps)), (7, .vw 1 1 0 q.1 none), (8, .p (.int .i64 (Int.ofNat q.1)))])
    (fun q => [.st 58 [.p (.str []), .p (.str [255, 255, 255])], .arr 68 1 q.2]) (fun q => q.1 ≤ 3 ∧ q.2 = ((prt at').take q.1).map G) (fun q => 3 - q.1) (0, []) ?_ ?_))
  · exact ⟨⟨rfl, rfl, rfl, by rw [hsps]; rfl, rfl, rfl, trivial⟩, rfl, Nat.zero_le _, rfl⟩
  rintro ⟨i, us⟩ ⟨hi, hus⟩ rd hrd
  simp only at hi hus
  intro add1 sub1 mul1 quo1 rem1 band1 bor1 bxor1 bclr1 shl1 shr1 ieq1 ilt1 ile1 seq1 slt1 beq1 bnot1 orb1 bcond1 iwrap1 iof1 ssz1 hA1 cat1 sq1 sl1 imin1 imax1 smin1 smax1 len1 slen1 u81 hL1 op1 hop1 call1 hcall1 code1 hcode1
  have hadd1 : i < 3 → add1 .i64 (Int.ofNat i) 1 = Int.ofNat (i + 1) := fun _ => by rw [hA1.add, IntWalk.i64_in _ (by simp only [Int.ofNat_eq_natCast]; omega)]; rfl
  cbv
  by_cases hi3 : i < 3
  · obtain ⟨⟨lo, hi'⟩, hget⟩ := get_of_lt (show i < (prt at').length from hi3)
    have hzz : sps[i]? = some (.agg [.str lo, .str hi']) := by rw [hsps, pP, List.getElem?_map, hget]; rfl
    obtain ⟨p1, p2, p3⟩ := hpt _ (List.mem_of_getElem? hget)
    simp only at p1 p2 p3
    have hul : us.length = i := by rw [hus, List.length_map, List.length_take]; show min i 3 = i; omega
    have htk : (prt at').take (i + 1) = (prt at').take i ++ [⟨lo, hi'⟩] := by rw [List.take_add_one, hget]; rfl
    have hopn := shOpen0_spec lo hi' p1 p2 p3 1000 (by decide)
    obtain ⟨t1, u1⟩ := tk_ok (sp := ⟨lo, hi'⟩) (l := 0) (x := 0) (y := 5) (ch := l) p2 p3 (by decide) (by decide) hl1 hkl
    replace t1 : tkE ⟨lo, hi'⟩ 0 ⟨0, 5, 0, l⟩ = 0 := t1
    have hcn : (cutL ⟨lo, hi'⟩ l).length ≤ 1000 := Nat.le_trans (cutL_len _ l) hl1
    refine vcIf.yes (by first | (simp [hA1.not, hA1.eq, hA1.lt, hA1.le, hA1.cond, hA1.beq, hA1.orb, hL1.len, hL1.slen, hL1.sq, hi3]; done) | (simp only [hi3]; simp [hA1.not, hA1.eq, hA1.lt, hA1.le, hA1.cond, hA1.beq, hA1.orb, hL1.len, hL1.slen, hL1.sq, hi3]; done) | (simp [hA1.not, hA1.eq, hA1.lt, hA1.le, hA1.cond, hA1.beq, hA1.orb, hL1.len, hL1.slen, hL1.sq, hi3]; omega) | (simp only [hi3]; simp [hA1.not, hA1.eq, hA1.lt, hA1.le, hA1.cond, hA1.beq, hA1.orb, hL1.len, hL1.slen, hL1.sq, hi3]; omega)) ?_
    cbv
    refine hcall1 _ _ _ _ _ (CallEv.same hnew rfl ?_)
    rintro _ _ (⟨h, rfl, rfl⟩ | ⟨h, rfl, rfl⟩)
    · omega
    cbv
    refine ⟨i, _, rfl, hzz, rfl, ?_⟩
    cbv
    refine hcall1 _ _ _ _ _ (CallEv.lend [2, 3] hopn rfl (.cons (.own 0 2 0 rfl) (.cons (.p _) .nil)) (tpL rfl rfl rfl rfl) ?_)
    rintro _ _ ⟨n, su, ro, af, d, xs, m, dn, rs, hb, rfl, rfl⟩
    have T := shTake_spec (n := n) (su := su) (ro := ro) (af := af) (d := d) (xs := xs) (m := m) (dn := dn) (rs := rs) 0 0 0 [] 0 [] rfl (by decide) lo hi' (by omega) (by omega) ⟨0, 5, 0, l⟩ fb (by simp only; omega) (by simp only; rw [u1]; omega) cs hcs
    rw [t1, u1] at T
    simp only at T
    cbv
    repeat (first | (refine vcIf.yes ?_ ?_; (focus (simp [hA1.not, hA1.eq, hA1.lt, hA1.le, hA1.cond, hA1.beq, hA1.orb, hL1.len, hL1.slen, hL1.sq]; done)); cbv) | (refine vcIf.no ?_ ?_; (focus (simp [hA1.not, hA1.eq, hA1.lt, hA1.le, hA1.cond, hA1.beq, hA1.orb, hL1.len, hL1.slen, hL1.sq]; done)); cbv) | fail)
    refine hcall1 _ _ _ _ _ (CallEv.lend [2, 3, 4, 5, 6, 7, 8] T rfl (.cons (.own 6 8 0 rfl) (.cons (.p _) .nil)) (shL rfl rfl rfl rfl rfl rfl rfl rfl rfl rfl rfl rfl rfl) ?_)
    rintro _ _ ⟨e, he, rfl, ⟨hx, _⟩ | ⟨_, _, ws1, k1, hk1, hws1, rfl⟩⟩
    · rcases hx with h | h
      · exact absurd he h
      · exact absurd h (by decide)
    obtain rfl : e = 0 := he
    obtain rfl : 1 = k1 := hk1.symm
    replace hws1 : ws1 = layP [⟨5, cutL ⟨lo, hi'⟩ l⟩] := hws1
    have hli := shList_spec (n := n) (su := su) (ro := ro) (af := af) (d := d) (xs := xs) (m := m) (dn := dn) (rs := rs) 0 0 5 [] srt_nil [⟨5, cutL ⟨lo, hi'⟩ l⟩] 1000 (fun q hq => by simp only [List.mem_cons, List.not_mem_nil, or_false] at hq; rw [hq]; exact hcn) (fun q hq => by simp only [List.mem_cons, List.not_mem_nil, or_false] at hq; rw [hq]; exact cutL_chks p2 p3 hkl) (by simp) (by simp) [] rfl 1 ws1 hws1 rfl lo hi' [] [255, 255, 255] 5 10000
    rw [show liE 0 5 5 10000 = 0 by decide, li_pcs (s := ⟨lo, hi'⟩) hl1] at hli
    cbv
    repeat (first | (refine vcIf.yes ?_ ?_; (focus (simp [hA1.not, hA1.eq, hA1.lt, hA1.le, hA1.cond, hA1.beq, hA1.orb, hL1.len, hL1.slen, hL1.sq]; done)); cbv) | (refine vcIf.no ?_ ?_; (focus (simp [hA1.not, hA1.eq, hA1.lt, hA1.le, hA1.cond, hA1.beq, hA1.orb, hL1.len, hL1.slen, hL1.sq]; done)); cbv) | fail)
    refine hcall1 _ _ _ _ _ (CallEv.frzR (CallEv.lend [2, 3, 4, 5, 6, 7, 8] hli rfl (.cons (.own 6 8 0 rfl) (.cons (.p _) (.cons (.p _) (.cons (.p _) .nil)))) (shL rfl rfl rfl rfl rfl rfl rfl rfl rfl rfl rfl rfl rfl) ?_))
    rintro _ _ ⟨e, us2, z2, he, hus2, hz2, rfl, rfl⟩
    refine ⟨9, _, _, _, rfl, (by rw [hB]; exact Nat.zero_le _), fun g hg => ?_⟩
    have hgz : PV.sl (g 0 z2) = G ⟨lo, hi'⟩ := by rw [hg, List.drop_zero, hz2, List.take_length, hus2, hG]
    obtain rfl : e = 0 := he
    cbv
    repeat (first | (refine vcIf.yes ?_ ?_; (focus (simp [hA1.not, hA1.eq, hA1.lt, hA1.le, hA1.cond, hA1.beq, hA1.orb, hL1.len, hL1.slen, hL1.sq]; done)); cbv) | (refine vcIf.no ?_ ?_; (focus (simp [hA1.not, hA1.eq, hA1.lt, hA1.le, hA1.cond, hA1.beq, hA1.orb, hL1.len, hL1.slen, hL1.sq]; done)); cbv) | fail)
    refine ⟨false, ?_⟩
    cbv
    refine .inl ⟨(), rfl, ?_, ?_, ?_, ?_, fun us1 n1 hu1 hn1 => ?_⟩
    · exact hul.symm
    · intro y hy
      simp [Sq.get] at hy
      rw [hy]; exact PV.wf1 rfl
    · show i + 1 ≤ maxLen
      unfold maxLen; omega
    · show (i + 1) * 24 ≤ _
      omega
    replace hu1 : us1 = us ++ [.sl (g 0 z2)] := hu1
    obtain rfl : i + 1 = n1 := hn1.symm
    have hus1 : us1 = ((prt at').take (i + 1)).map G := by rw [hu1, htk, List.map_append, hus, hgz]; rfl
    cbv
    refine hrd _ ⟨(i + 1, us1), _, ?_, ⟨hi3, hus1⟩, rfl, ⟨rfl, rfl, rfl, rfl, rfl, ?_, trivial⟩, rfl, rfl, rfl, ?_⟩
    · simp only; omega
    · show some (V.p (.int .i64 _)) = _
      rw [hadd1 hi3]
    · rw [hB]; exact Nat.zero_le _
  · obtain rfl : i = 3 := by omega
    obtain ⟨PA, hPA⟩ : ∃ x, x = pcs ⟨[], zz3⟩ ⟨[], zz3⟩ l := ⟨_, rfl⟩
    obtain ⟨PB, hPB⟩ : ∃ x, x = pcs ⟨[], zz3⟩ ⟨[], at'⟩ l := ⟨_, rfl⟩
    obtain ⟨PC, hPC⟩ : ∃ x, x = pcs ⟨[], zz3⟩ ⟨at', zz3⟩ l := ⟨_, rfl⟩
    have hABC : PA = PB ++ PC := by rw [hPA, hPB, hPC]; exact pcs_two zz3 at' l
    have nA : PA.length ≤ 1000 := by rw [hPA]; exact pcs_len _ _ hl1
    have nB : PB.length ≤ 1000 := by rw [hPB]; exact pcs_len _ _ hl1
    have nC : PC.length ≤ 1000 := by rw [hPC]; exact pcs_len _ _ hl1
    obtain ⟨za, hza⟩ : ∃ z, z = prP PA := ⟨_, rfl⟩
    obtain ⟨zb, hzb⟩ : ∃ z, z = prP PB := ⟨_, rfl⟩
    obtain ⟨zc, hzc⟩ : ∃ z, z = prP PC := ⟨_, rfl⟩
    have hus' : us = [.sl za, .sl zb, .sl zc] := by rw [hus, hG, hza, hzb, hzc, hPA, hPB, hPC]; rfl
    have g0 : us[0]? = some (.sl za) := by rw [hus']; rfl
    have g1 : us[1]? = some (.sl zb) := by rw [hus']; rfl
    have g2 : us[2]? = some (.sl zc) := by rw [hus']; rfl
    have lB : zb.length = PB.length := by rw [hzb, prP_length]
    have lC : zc.length = PC.length := by rw [hzc, prP_length]
    have wB : Wf 2 zb := by rw [hzb]; exact prP_wf PB
    have wC : Wf 2 zc := by rw [hzc]; exact prP_wf PC
    have hpr := rPairs_spec PA (PB ++ PC) (by omega) (by rw [List.length_append]; omega) true ⟨fun _ => hABC, fun _ => rfl⟩ za
    have hbc : zb ++ zc = prP (PB ++ PC) := by rw [hzb, hzc, prP_append]
    obtain ⟨kb, hkb⟩ : ∃ k, k = zb.length := ⟨_, rfl⟩
    clear hG hus hus' hPA hPB hPC
    refine vcIf.no (by first | (simp [hA1.not, hA1.eq, hA1.lt, hA1.le, hA1.cond, hA1.beq, hA1.orb, hL1.len, hL1.slen, hL1.sq, hi3]; done) | (simp only [hi3]; simp [hA1.not, hA1.eq, hA1.lt, hA1.le, hA1.cond, hA1.beq, hA1.orb, hL1.len, hL1.slen, hL1.sq, hi3]; done) | (simp [hA1.not, hA1.eq, hA1.lt, hA1.le, hA1.cond, hA1.beq, hA1.orb, hL1.len, hL1.slen, hL1.sq, hi3]; omega) | (simp only [hi3]; simp [hA1.not, hA1.eq, hA1.lt, hA1.le, hA1.cond, hA1.beq, hA1.orb, hL1.len, hL1.slen, hL1.sq, hi3]; omega)) ?_
    cbv
    refine hcode _ _ _ (CodeEv.drawT eOk fOk (by kernel_rfl) (Xof 2 []) (.rd 0 (.rd 1 (.rd 2 (.rd 4 (.rd 5 (.rd 6 (.rd 8 (.rd 9 (.rd 10 (.acts (.cons 3 (.acts (.cons 7 (.acts (.cons 11 (.acts (.cons 12 (.so 13 (.done)) (.nil))) (.nil))) (.nil))) (.nil)))))))))))) (by kernel_rfl) (by kernel_rfl) ?_)
    intro add2 sub2 mul2 quo2 rem2 band2 bor2 bxor2 bclr2 shl2 shr2 ieq2 ilt2 ile2 seq2 slt2 beq2 bnot2 orb2 bcond2 iwrap2 iof2 ssz2 hA2 cat2 sq2 sl2 imin2 imax2 smin2 smax2 len2 slen2 u82 hL2 op2 hop2 call2 hcall2 code2 hcode2 q2 hq2
    cbv
    refine ⟨0, rfl, by decide, fun q hq => ?_⟩
    obtain rfl : q = 0 := hq
    cbv
    refine ⟨_, g0, ?_⟩
    cbv
    refine ⟨1, rfl, by decide, fun q hq => ?_⟩
    obtain rfl : q = 1 := hq
    cbv
    refine ⟨_, g1, ?_⟩
    cbv
    refine ⟨2, rfl, by decide, fun q hq => ?_⟩
    obtain rfl : q = 2 := hq
    cbv
    refine ⟨_, g2, ?_⟩
    cbv
    refine ⟨true, ?_⟩
    cbv
    refine .inl ⟨(), rfl, rfl, wB, ?_, ?_, fun us0 n0 hu0 hn0 => ?_⟩
    · show 0 + zb.length ≤ maxLen
      unfold maxLen; omega
    · show (0 + zb.length) * 32 ≤ _
      omega
    replace hu0 : us0 = [] ++ zb := hu0
    replace hn0 : n0 = 0 + zb.length := hn0
    obtain rfl : kb = n0 := by omega
    rw [List.nil_append] at hu0
    subst hu0
    cbv
    refine .inl ⟨(), rfl, ?_, wC, ?_, ?_, fun us1 n1 hu1 hn1 => ?_⟩
    · exact hkb
    · show kb + zc.length ≤ maxLen
      unfold maxLen; omega
    · show (kb + zc.length) * 32 ≤ _
      omega
    replace hu1 : us1 = us0 ++ zc := hu1
    replace hn1 : n1 = kb + zc.length := hn1
    have hul : us1.length = n1 := by rw [hu1, hn1, List.length_append, hkb]
    cbv
    refine hcall2 _ _ _ _ _ (CallEv.freezeG 2 rfl (by rw [hB]; exact Nat.zero_le _) fun g hg => CallEv.same (hpr (g 0 n1) hza (by rw [hg, List.drop_zero, ← hul, List.take_length, hu1, hbc])) rfl ?_)
    rintro _ _ ⟨rfl, rfl⟩
    cbv
    refine hq2 _ ?_
    cbv
    exact hret _ (RetEv.ret eOk rfl rfl)
end Go.Proofs.Ytnigonhkfpnodaa
end
