/- In which piece a key is: the program's answer and the document's. Conditions: on sizes. -/
import Derived.Test.YtknhlbohjiphgaaLSh2
set_option maxRecDepth 100000
set_option maxHeartbeats 8000000
set_option linter.unusedSimpArgs false
set_option linter.unusedVariables false
namespace Go.Proofs.Ytknhlbohjiphgaa
open Go Go.Lx
open Go.Sx (vcIf)

theorem snd_mono {bs : BL} (h : sndB bs = true) : ∀ (d p : Nat) (a b : List UInt8), bs[p]? = some a → bs[p + d + 1]? = some b → bl a b = true
  | 0, p, a, b, ha, hb => by
    have h := (of_decide_eq_true h).2 (p + 1) (List.getElem?_eq_some_iff.1 hb).1
    rcases ((gB_some hb).1 h).2.2 with c | c
    · omega
    · rw [Nat.add_sub_cancel, Nat.add_zero, List.getD_eq_getElem?_getD, ha] at c; exact c
  | d + 1, p, a, b, ha, hb => by
    have hlt := (List.getElem?_eq_some_iff.1 hb).1
    obtain ⟨m, hm⟩ := get_of_lt (show p + d + 1 < bs.length by omega)
    exact bl_trans (snd_mono h d p a m ha hm) (snd_mono h 0 (p + d + 1) m b hm (by rw [← hb]; rfl))
theorem snd_lt {bs : BL} (h : sndB bs = true) {p q : Nat} {a b : List UInt8} (ha : bs[p]? = some a) (hb : bs[q]? = some b) (hpq : p < q) : bl a b = true :=
  snd_mono h (q - p - 1) p a b ha (by rw [show p + (q - p - 1) + 1 = q by omega]; exact hb)
/-- How many bounds are not above a key, before the first that is. -/
def wh : BL → List UInt8 → Nat
  | [], _ => 0
  | b :: r, k => if bl k b = true then 0 else wh r k + 1
theorem wh_le : ∀ (bs : BL) (k : List UInt8), wh bs k ≤ bs.length
  | [], _ => Nat.le_refl _
  | b :: r, k => by
    unfold wh; split
    · exact Nat.zero_le _
    · simp only [List.length_cons]; have := wh_le r k; omega
theorem wh_eq : ∀ (n : Nat) (bs : BL) (k : List UInt8), n ≤ bs.length → (∀ q b, q < n → bs[q]? = some b → bl k b = false) → (∀ b, bs[n]? = some b → bl k b = true) → wh bs k = n
  | 0, [], k, _, _, _ => rfl
  | 0, b :: r, k, _, _, h => by unfold wh; rw [if_pos (h b rfl)]
  | n + 1, [], k, h, _, _ => by simp at h
  | n + 1, b :: r, k, h1, h2, h3 => by
    unfold wh
    rw [if_neg (by rw [h2 0 b (Nat.succ_pos n) rfl]; decide), wh_eq n r k (by simpa using h1) (fun q c hq hc => h2 (q + 1) c (by omega) hc) (fun c hc => h3 c hc)]
theorem wh_of {bs : BL} (hs : sndB bs = true) {k : List UInt8} {i : Nat} (hi : i ≤ bs.length) (h1 : ∀ q b, q < i → bs[q]? = some b → bl b k = true) (h2 : ∀ q b, i ≤ q → bs[q]? = some b → bl b k = false) :
    wh bs k = if bs[i]? = some k then i + 1 else i := by
  split
  · rename_i h
    refine wh_eq (i + 1) bs k (List.getElem?_eq_some_iff.1 h).1 (fun q b hq hb => ?_) (fun b hb => snd_lt hs h hb (Nat.lt_succ_self i))
    rcases Nat.lt_succ_iff_lt_or_eq.1 hq with c | c
    · exact bl_asymm (h1 q b c hb)
    · rw [c, h] at hb; cases hb; exact bl_irrefl k
  · rename_i h
    refine wh_eq i bs k hi (fun q b hq hb => bl_asymm (h1 q b hq hb)) (fun b hb => ?_)
    have := h2 i b (Nat.le_refl _) hb
    rcases bl_tri b k with c | c | c
    · rw [this] at c; cases c
    · rw [c] at hb; exact absurd hb h
    · exact c

theorem cNan_spec (a : List UInt8) : FnL Try.prog 48 [.p (.str a)] [] fun v own => v = .p (.bool false) ∧ own = [] := by
  refine FnL.flat (R := fun v own => v = .p (.bool false)) ?_ (by rintro _ _ rfl; exact ⟨_, _, rfl, .refl _, rfl, rfl⟩)
  refine fn_of_vc eOk fOk fo48 Try.func48 rfl rfl rfl fun B hB => ?_
  intro add sub mul quo rem band bor bxor bclr shl shr ieq ilt ile seq slt beq bnot orb bcond iwrap iof ssz hA cat sq sl imin imax smin smax len slen u8 hL op hop call hcall code hcode ret hret
  cbv
  refine hret _ (RetEv.ret eOk rfl ?_)
  show V.p (.bool (bnot (sq a a))) = _
  rw [hA.not, hL.sq]; simp
theorem sNan_spec (a : List UInt8) : FnL Try.prog 39 [.p (.str a)] [] fun v own => v = .p (.bool false) ∧ own = [] := by
  refine FnL.flat (R := fun v own => v = .p (.bool false)) ?_ (by rintro _ _ rfl; exact ⟨_, _, rfl, .refl _, rfl, rfl⟩)
  refine fn_of_vc eOk fOk fo39 Try.func39 rfl rfl rfl fun B hB => ?_
  intro add sub mul quo rem band bor bxor bclr shl shr ieq ilt ile seq slt beq bnot orb bcond iwrap iof ssz hA cat sq sl imin imax smin smax len slen u8 hL op hop call hcall code hcode ret hret
  cbv
  refine hret _ (RetEv.ret eOk rfl ?_)
  show V.p (.bool (bnot (sq a a))) = _
  rw [hA.not, hL.sq]; simp
theorem less_spec (a b : List UInt8) : FnL Try.prog 38 [.p (.str a), .p (.str b)] [] fun v own => v = .p (.bool (bl a b)) ∧ own = [] := by
  refine FnL.flat (R := fun v own => v = .p (.bool (bl a b))) ?_ (by rintro _ _ rfl; exact ⟨_, _, rfl, .refl _, rfl, rfl⟩)
  refine fn_of_vc eOk fOk fo38 Try.func38 rfl rfl rfl fun B hB => ?_
  intro add sub mul quo rem band bor bxor bclr shl shr ieq ilt ile seq slt beq bnot orb bcond iwrap iof ssz hA cat sq sl imin imax smin smax len slen u8 hL op hop call hcall code hcode ret hret
  cbv
  refine hcall _ _ _ _ _ (CallEv.same (cNan_spec a) rfl ?_)
  rintro _ _ ⟨rfl, rfl⟩
  cbv
  refine hret _ (RetEv.ret eOk rfl ?_)
  show V.p (.bool (bcond false true (sl a b))) = _
  rw [hA.cond, hL.sl]; rfl

theorem bs_spec (bs : BL) (hs : sndB bs = true) (key : List UInt8) (zs : List PV) (hzs : zs = sP bs) :
    FnL Try.prog 27 [.p (.sl zs), .p (.str key)] [] fun v own => ∃ (i : Nat) (t : Bool), wh bs key = (if t = true then i + 1 else i) ∧ i ≤ bs.length ∧ v = .p (.tup [.int .i64 (Int.ofNat i), .bool t]) ∧ own = [] := by
  refine FnL.flat (R := fun v own => ∃ (i : Nat) (t : Bool), wh bs key = (if t = true then i + 1 else i) ∧ i ≤ bs.length ∧ v = .p (.tup [.int .i64 (Int.ofNat i), .bool t])) ?_ (by rintro _ _ ⟨i, t, h, h', rfl⟩; exact ⟨_, _, rfl, .refl _, i, t, h, h', rfl, rfl⟩)
  have hN8 : bs.length < 8 := (of_decide_eq_true hs).1
  obtain ⟨N, hN⟩ : ∃ n, n = bs.length := ⟨_, rfl⟩
  have hzl : zs.length = N := by rw [hzs, sP_length, hN]
  rw [← hN] at hN8
  have hres := fun i h1 h2 h3 => wh_of hs (k := key) (i := i) h1 h2 h3
  rw [← hN] at hres ⊢
  refine fn_of_vc eOk fOk fo27 Try.func27 rfl rfl rfl fun B hB => ?_
  intro add sub mul quo rem band bor bxor bclr shl shr ieq ilt ile seq slt beq bnot orb bcond iwrap iof ssz hA cat sq sl imin imax smin smax len slen u8 hL op hop call hcall code hcode ret hret
  have hlen : len zs = Int.ofNat N := by rw [hL.len, hzl]; rfl
  cbv
  rw [hlen]
  refine hcode _ _ _ (CodeEv.loop eOk fOk (ι := Nat × Nat) (fun s => [(0, .p (.sl zs)), (1, .p (.str key)), (6, .p (.int .i64 (Int.ofNat N))), (7, .p (.int .i64 (Int.ofNat s.1))), (8, .p (.int .i64 (Int.ofNat s.2)))])
    (fun s => []) (fun s => s.1 ≤ s.2 ∧ s.2 ≤ N ∧ (∀ q b, q < s.1 → bs[q]? = some b → bl b key = true) ∧ (∀ q b, s.2 ≤ q → bs[q]? = some b → bl b key = false)) (fun s => s.2 - s.1) (0, N) ?_ ?_)
  · exact ⟨(by repeat (first | exact trivial | refine And.intro rfl ?_)), rfl, Nat.zero_le _, Nat.le_refl _, fun q b h => absurd h (Nat.not_lt_zero q), fun q b h hb => by have := (List.getElem?_eq_some_iff.1 hb).1; simp only at h; omega⟩
  rintro ⟨i, j⟩ ⟨k1, k2, k3, k4⟩ rd hrd
  simp only at k1 k2 k3 k4
  by_cases hi : i < j
  · refine Exists.elim (show ∃ h, h = (i + j) / 2 from ⟨_, rfl⟩) fun h hh => ?_
    refine Exists.elim (get_of_lt (show h < bs.length by omega)) fun b hb => ?_
    have hzh : zs[h]? = some (.str b) := by rw [hzs]; exact sP_get hb
    have hle := less_spec b key
    refine Exists.elim (show ∃ t, t = bl b key from ⟨_, rfl⟩) fun t ht => ?_
    rw [← ht] at hle
    intro add1 sub1 mul1 quo1 rem1 band1 bor1 bxor1 bclr1 shl1 shr1 ieq1 ilt1 ile1 seq1 slt1 beq1 bnot1 orb1 bcond1 iwrap1 iof1 ssz1 hA1 cat1 sq1 sl1 imin1 imax1 smin1 smax1 len1 slen1 u81 hL1 op1 hop1 call1 hcall1 code1 hcode1
    have f1 : add1 .i64 (Int.ofNat i) (Int.ofNat j) = Int.ofNat (i + j) := by rw [hA1.add, IntWalk.i64_in _ (by simp only [Int.ofNat_eq_natCast]; omega)]; rfl
    have f2 : iwrap1 .u64 (Int.ofNat (i + j)) = Int.ofNat (i + j) := by rw [hA1.wrap, IntKind.wrap_u64]; simp only [Int.ofNat_eq_natCast]; omega
    have f3 : shr1 .u64 (Int.ofNat (i + j)) 1 = Int.ofNat h := by
      rw [hA1.shr, show (min 1 IntKind.u64.bits) = 1 from rfl, show (2 : Int) ^ 1 = 2 from rfl, Int.fdiv_eq_ediv_of_nonneg _ (by decide), hh]; rfl
    have f4 : iwrap1 .i64 (Int.ofNat h) = Int.ofNat h := by rw [hA1.wrap, IntWalk.i64_in _ (by simp only [Int.ofNat_eq_natCast]; omega)]
    have f5 : iwrap1 .i64 (shr1 .u64 (iwrap1 .u64 (add1 .i64 (Int.ofNat i) (Int.ofNat j))) 1) = Int.ofNat h := by rw [f1, f2, f3, f4]
    have f6 : add1 .i64 (Int.ofNat h) 1 = Int.ofNat (h + 1) := by rw [hA1.add, IntWalk.i64_in _ (by simp only [Int.ofNat_eq_natCast]; omega)]; rfl
    clear f1 f2 f3 f4
    cbv
    refine vcIf.yes (by first | (simp [hA1.not, hA1.eq, hA1.lt, hA1.le, hA1.cond, hA1.beq, hA1.orb, hL1.len, hL1.slen, hL1.sq, hi]; done) | (simp only [hi]; simp [hA1.not, hA1.eq, hA1.lt, hA1.le, hA1.cond, hA1.beq, hA1.orb, hL1.len, hL1.slen, hL1.sq, hi]; done) | (simp [hA1.not, hA1.eq, hA1.lt, hA1.le, hA1.cond, hA1.beq, hA1.orb, hL1.len, hL1.slen, hL1.sq, hi]; omega) | (simp only [hi]; simp [hA1.not, hA1.eq, hA1.lt, hA1.le, hA1.cond, hA1.beq, hA1.orb, hL1.len, hL1.slen, hL1.sq, hi]; omega)) ?_
    cbv
    refine ⟨h, _, f5, hzh, rfl, ?_⟩
    cbv
    refine hcall1 _ _ _ _ _ (CallEv.same hle rfl ?_)
    rintro _ _ ⟨rfl, rfl⟩
    cbv
    by_cases htt : t = true
    · have htb := ht.symm.trans htt
      refine vcIf.yes htt ?_
      cbv
      refine hrd _ ⟨(h + 1, j), [], ?_, ⟨?_, k2, ?_, k4⟩, rfl, ⟨rfl, rfl, rfl, ?_, rfl, trivial⟩, rfl, rfl, rfl, ?_⟩
      · simp only; omega
      · simp only; omega
      · intro q c hq hc
        rcases Nat.lt_succ_iff_lt_or_eq.1 hq with e | e
        · exact bl_trans (snd_lt hs hc hb e) htb
        · rw [e, hb] at hc; cases hc; exact htb
      · show some (V.p (.int .i64 _)) = _
        rw [f5, f6]
      · rw [hB]; exact Nat.le_refl _
    · have htb : Op.bytesLess b key = false := ht.symm.trans (Bool.eq_false_iff.2 htt)
      refine vcIf.no (Bool.eq_false_iff.2 htt) ?_
      cbv
      refine hrd _ ⟨(i, h), [], ?_, ⟨?_, ?_, k3, ?_⟩, rfl, ⟨rfl, rfl, rfl, rfl, ?_, trivial⟩, rfl, rfl, rfl, ?_⟩
      · simp only; omega
      · simp only; omega
      · simp only; omega
      · intro q c hq hc
        simp only at hq
        rcases Nat.lt_or_eq_of_le hq with e | e
        · refine Bool.eq_false_iff.2 fun d => ?_
          have : Op.bytesLess b key = true := bl_trans (snd_lt hs hb hc e) d
          exact absurd (htb.symm.trans this) (by decide)
        · rw [← e, hb] at hc; cases hc; exact htb
      · show some (V.p (.int .i64 _)) = _
        rw [f5]
      · rw [hB]; exact Nat.le_refl _
  · have hij : j = i := by omega
    rw [hij] at k4
    have hres := hres i (by omega) k3 k4
    by_cases hiN : i < N
    · refine Exists.elim (get_of_lt (show i < bs.length by omega)) fun b hb => ?_
      have hzi : zs[i]? = some (.str b) := by rw [hzs]; exact sP_get hb
      rw [hb] at hres
      have hn1 := sNan_spec b
      intro add1 sub1 mul1 quo1 rem1 band1 bor1 bxor1 bclr1 shl1 shr1 ieq1 ilt1 ile1 seq1 slt1 beq1 bnot1 orb1 bcond1 iwrap1 iof1 ssz1 hA1 cat1 sq1 sl1 imin1 imax1 smin1 smax1 len1 slen1 u81 hL1 op1 hop1 call1 hcall1 code1 hcode1
      cbv
      refine vcIf.no (by first | (simp [hA1.not, hA1.eq, hA1.lt, hA1.le, hA1.cond, hA1.beq, hA1.orb, hL1.len, hL1.slen, hL1.sq, hi]; done) | (simp only [hi]; simp [hA1.not, hA1.eq, hA1.lt, hA1.le, hA1.cond, hA1.beq, hA1.orb, hL1.len, hL1.slen, hL1.sq, hi]; done) | (simp [hA1.not, hA1.eq, hA1.lt, hA1.le, hA1.cond, hA1.beq, hA1.orb, hL1.len, hL1.slen, hL1.sq, hi]; omega) | (simp only [hi]; simp [hA1.not, hA1.eq, hA1.lt, hA1.le, hA1.cond, hA1.beq, hA1.orb, hL1.len, hL1.slen, hL1.sq, hi]; omega)) ?_
      cbv
      refine vcIf.yes (by first | (simp [hA.not, hA.eq, hA.lt, hA.le, hA.cond, hA.beq, hA.orb, hL.len, hL.slen, hL.sq, hiN]; done) | (simp only [hiN]; simp [hA.not, hA.eq, hA.lt, hA.le, hA.cond, hA.beq, hA.orb, hL.len, hL.slen, hL.sq, hiN]; done) | (simp [hA.not, hA.eq, hA.lt, hA.le, hA.cond, hA.beq, hA.orb, hL.len, hL.slen, hL.sq, hiN]; omega) | (simp only [hiN]; simp [hA.not, hA.eq, hA.lt, hA.le, hA.cond, hA.beq, hA.orb, hL.len, hL.slen, hL.sq, hiN]; omega)) ?_
      cbv
      refine ⟨i, _, rfl, hzi, rfl, ?_⟩
      cbv
      by_cases hbk : b = key
      · refine vcIf.yes (by rw [hL.sq]; exact decide_eq_true hbk) ?_
        cbv
        refine hret _ (RetEv.ret eOk rfl ⟨i, true, ?_, by omega, ?_⟩)
        · rw [hres, if_pos (by rw [hbk]), if_pos rfl]
        · simp [oneOf, hA.cond, cond]; rfl
      · refine vcIf.no (by rw [hL.sq]; exact decide_eq_false hbk) ?_
        cbv
        refine ⟨i, _, rfl, hzi, rfl, ?_⟩
        cbv
        refine hcall _ _ _ _ _ (CallEv.same hn1 rfl ?_)
        rintro _ _ ⟨rfl, rfl⟩
        cbv
        refine hret _ (RetEv.ret eOk rfl ⟨i, false, ?_, by omega, ?_⟩)
        · rw [hres, if_neg (by simpa using hbk), if_neg (by decide)]
        · simp [oneOf, hA.cond, cond]; rfl
    · have hres0 : bs[i]? = none := List.getElem?_eq_none (by omega)
      rw [hres0] at hres
      intro add1 sub1 mul1 quo1 rem1 band1 bor1 bxor1 bclr1 shl1 shr1 ieq1 ilt1 ile1 seq1 slt1 beq1 bnot1 orb1 bcond1 iwrap1 iof1 ssz1 hA1 cat1 sq1 sl1 imin1 imax1 smin1 smax1 len1 slen1 u81 hL1 op1 hop1 call1 hcall1 code1 hcode1
      cbv
      refine vcIf.no (by first | (simp [hA1.not, hA1.eq, hA1.lt, hA1.le, hA1.cond, hA1.beq, hA1.orb, hL1.len, hL1.slen, hL1.sq, hi]; done) | (simp only [hi]; simp [hA1.not, hA1.eq, hA1.lt, hA1.le, hA1.cond, hA1.beq, hA1.orb, hL1.len, hL1.slen, hL1.sq, hi]; done) | (simp [hA1.not, hA1.eq, hA1.lt, hA1.le, hA1.cond, hA1.beq, hA1.orb, hL1.len, hL1.slen, hL1.sq, hi]; omega) | (simp only [hi]; simp [hA1.not, hA1.eq, hA1.lt, hA1.le, hA1.cond, hA1.beq, hA1.orb, hL1.len, hL1.slen, hL1.sq, hi]; omega)) ?_
      cbv
      refine vcIf.no (by first | (simp [hA.not, hA.eq, hA.lt, hA.le, hA.cond, hA.beq, hA.orb, hL.len, hL.slen, hL.sq, hiN]; done) | (simp only [hiN]; simp [hA.not, hA.eq, hA.lt, hA.le, hA.cond, hA.beq, hA.orb, hL.len, hL.slen, hL.sq, hiN]; done) | (simp [hA.not, hA.eq, hA.lt, hA.le, hA.cond, hA.beq, hA.orb, hL.len, hL.slen, hL.sq, hiN]; omega) | (simp only [hiN]; simp [hA.not, hA.eq, hA.lt, hA.le, hA.cond, hA.beq, hA.orb, hL.len, hL.slen, hL.sq, hiN]; omega)) ?_
      cbv
      refine hret _ (RetEv.ret eOk rfl ⟨i, false, ?_, by omega, ?_⟩)
      · rw [hres]; simp
      · simp [oneOf, hA.cond, cond]; rfl

theorem which_spec (bs : BL) (hn : bs.length < 281474976710656) (hb : ∀ b ∈ bs, b.length < 281474976710656) (key : List UInt8) (zs : List PV) (hzs : zs = sP bs) :
    FnL Try.prog 10 [.p (.sl zs), .p (.str key)] [] fun v own => ∃ (n e : Nat), n = (if sndB bs = true then wh bs key else 0) ∧ e = (if sndB bs = true then 0 else 2) ∧ v = .p (.tup [.int .i64 (Int.ofNat n), .int .i64 (Int.ofNat e)]) ∧ own = [] := by
  refine FnL.flat (R := fun v own => ∃ (n e : Nat), n = (if sndB bs = true then wh bs key else 0) ∧ e = (if sndB bs = true then 0 else 2) ∧ v = .p (.tup [.int .i64 (Int.ofNat n), .int .i64 (Int.ofNat e)])) ?_ (by rintro _ _ ⟨n, e, h, h', rfl⟩; exact ⟨_, _, rfl, .refl _, n, e, h, h', rfl, rfl⟩)
  have hsd := sound_spec bs hn hb zs hzs
  have hbs := fun h => bs_spec bs h key zs hzs
  have h8 : 8 ≤ bs.length → sndB bs = false := fun h => decide_eq_false fun c => by omega
  have h9 : sndB bs = true → bs.length < 8 := fun h => (of_decide_eq_true h).1
  obtain ⟨N, hN⟩ : ∃ n, n = bs.length := ⟨_, rfl⟩
  have hzl : zs.length = N := by rw [hzs, sP_length, hN]
  obtain ⟨S, hS⟩ : ∃ S, S = sndB bs := ⟨_, rfl⟩
  rw [← hS] at hsd hbs h8 h9 ⊢
  rw [← hN] at h8 hbs h9
  refine fn_of_vc eOk fOk fo10 Try.func10 rfl rfl rfl fun B hB => ?_
  intro add sub mul quo rem band bor bxor bclr shl shr ieq ilt ile seq slt beq bnot orb bcond iwrap iof ssz hA cat sq sl imin imax smin smax len slen u8 hL op hop call hcall code hcode ret hret
  have hlen : len zs = Int.ofNat N := by rw [hL.len, hzl]; rfl
  cbv
  by_cases hN8 : 8 ≤ N
  · have hf := h8 hN8
    refine vcIf.yes (by first | (simp [hA.not, hA.eq, hA.lt, hA.le, hA.cond, hA.beq, hA.orb, hL.len, hL.slen, hL.sq, hlen, hN8]; done) | (simp only [hlen, hN8]; simp [hA.not, hA.eq, hA.lt, hA.le, hA.cond, hA.beq, hA.orb, hL.len, hL.slen, hL.sq, hlen, hN8]; done) | (simp [hA.not, hA.eq, hA.lt, hA.le, hA.cond, hA.beq, hA.orb, hL.len, hL.slen, hL.sq, hlen, hN8]; omega) | (simp only [hlen, hN8]; simp [hA.not, hA.eq, hA.lt, hA.le, hA.cond, hA.beq, hA.orb, hL.len, hL.slen, hL.sq, hlen, hN8]; omega)) ?_
    cbv
    exact hret _ (RetEv.ret eOk rfl ⟨0, 2, by rw [hf]; rfl, by rw [hf]; rfl, rfl⟩)
  refine vcIf.no (by first | (simp [hA.not, hA.eq, hA.lt, hA.le, hA.cond, hA.beq, hA.orb, hL.len, hL.slen, hL.sq, hlen, hN8]; done) | (simp only [hlen, hN8]; simp [hA.not, hA.eq, hA.lt, hA.le, hA.cond, hA.beq, hA.orb, hL.len, hL.slen, hL.sq, hlen, hN8]; done) | (simp [hA.not, hA.eq, hA.lt, hA.le, hA.cond, hA.beq, hA.orb, hL.len, hL.slen, hL.sq, hlen, hN8]; omega) | (simp only [hlen, hN8]; simp [hA.not, hA.eq, hA.lt, hA.le, hA.cond, hA.beq, hA.orb, hL.len, hL.slen, hL.sq, hlen, hN8]; omega)) ?_
  cbv
  refine hcall _ _ _ _ _ (CallEv.same hsd rfl ?_)
  rintro _ _ ⟨rfl, rfl⟩
  cbv
  by_cases hSS : S = true
  · refine vcIf.no (by first | (simp [hA.not, hA.eq, hA.lt, hA.le, hA.cond, hA.beq, hA.orb, hL.len, hL.slen, hL.sq, hSS]; done) | (simp only [hSS]; simp [hA.not, hA.eq, hA.lt, hA.le, hA.cond, hA.beq, hA.orb, hL.len, hL.slen, hL.sq, hSS]; done) | (simp [hA.not, hA.eq, hA.lt, hA.le, hA.cond, hA.beq, hA.orb, hL.len, hL.slen, hL.sq, hSS]; omega) | (simp only [hSS]; simp [hA.not, hA.eq, hA.lt, hA.le, hA.cond, hA.beq, hA.orb, hL.len, hL.slen, hL.sq, hSS]; omega)) ?_
    cbv
    refine hcall _ _ _ _ _ (CallEv.same (hbs hSS) rfl ?_)
    rintro _ _ ⟨i, t, ht, hi, rfl, rfl⟩
    cbv
    by_cases htt : t = true
    · refine vcIf.yes htt ?_
      cbv
      refine hret _ (RetEv.ret eOk rfl ⟨i + 1, 0, by rw [hSS, ht, htt]; rfl, by rw [hSS]; rfl, ?_⟩)
      have := h9 hSS
      show V.p (.tup [.int .i64 (add .i64 (Int.ofNat i) 1), _]) = _
      rw [hA.add, IntWalk.i64_in _ (by simp only [Int.ofNat_eq_natCast]; omega)]; rfl
    · refine vcIf.no (Bool.eq_false_iff.2 htt) ?_
      cbv
      exact hret _ (RetEv.ret eOk rfl ⟨i, 0, by rw [hSS, ht, Bool.eq_false_iff.2 htt]; rfl, by rw [hSS]; rfl, rfl⟩)
  · have hf := Bool.eq_false_iff.2 hSS
    refine vcIf.yes (by first | (simp [hA.not, hA.eq, hA.lt, hA.le, hA.cond, hA.beq, hA.orb, hL.len, hL.slen, hL.sq, hf]; done) | (simp only [hf]; simp [hA.not, hA.eq, hA.lt, hA.le, hA.cond, hA.beq, hA.orb, hL.len, hL.slen, hL.sq, hf]; done) | (simp [hA.not, hA.eq, hA.lt, hA.le, hA.cond, hA.beq, hA.orb, hL.len, hL.slen, hL.sq, hf]; omega) | (simp only [hf]; simp [hA.not, hA.eq, hA.lt, hA.le, hA.cond, hA.beq, hA.orb, hL.len, hL.slen, hL.sq, hf]; omega)) ?_
    cbv
    exact hret _ (RetEv.ret eOk rfl ⟨0, 2, by rw [hf]; rfl, by rw [hf]; rfl, rfl⟩)
end Go.Proofs.Ytknhlbohjiphgaa
