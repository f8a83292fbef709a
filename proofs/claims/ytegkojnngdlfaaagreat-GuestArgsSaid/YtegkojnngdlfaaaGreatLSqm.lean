/- LSh1, LSh2, LSh3, LHx, LFv1, LFv2, LSq1, LSq2, LSq3 together. Conditions: on sizes. -/
import Derived.Test.YtegkojnngdlfaaaGreatLEnv
import Derived.Test.YtegkojnngdlfaaaGreatLCh1
set_option maxRecDepth 100000
set_option maxHeartbeats 8000000
set_option linter.unusedSimpArgs false
set_option linter.unusedVariables false
namespace Go.Proofs.YtegkojnngdlfaaaGreat
section
open Go Go.Lx
open Go.Sx (vcIf)

abbrev BL := List (List UInt8)
def bsP (bs : BL) : List PV := bs.map .str
theorem sP_length (bs : BL) : (bsP bs).length = bs.length := List.length_map _
theorem sP_get {bs : BL} {i : Nat} {b : List UInt8} (h : bs[i]? = some b) : (bsP bs)[i]? = some (.str b) := by unfold bsP; rw [List.getElem?_map, h]; rfl
def gB (bs : BL) (i : Nat) : Bool :=
  match bs[i]? with
  | none => true
  | some b => decide (1 ≤ b.length ∧ b.length ≤ 16 ∧ (i = 0 ∨ bl (bs.getD (i - 1) []) b = true))
theorem gB_some {bs : BL} {i : Nat} {b : List UInt8} (h : bs[i]? = some b) : gB bs i = true ↔ (1 ≤ b.length ∧ b.length ≤ 16 ∧ (i = 0 ∨ bl (bs.getD (i - 1) []) b = true)) := by
  unfold gB; rw [h]; exact decide_eq_true_iff
def sndB (bs : BL) : Bool := decide (bs.length < 8 ∧ ∀ i, i < bs.length → gB bs i = true)
theorem snd_bad {bs : BL} {i : Nat} {b : List UInt8} (h : bs[i]? = some b) (hn : ¬ (1 ≤ b.length ∧ b.length ≤ 16 ∧ (i = 0 ∨ bl (bs.getD (i - 1) []) b = true))) : sndB bs = false := by
  unfold sndB
  refine decide_eq_false fun c => hn ((gB_some h).1 (c.2 i (List.getElem?_eq_some_iff.1 h).1))

theorem sound_spec (bs : BL) (hn : bs.length < 281474976710656) (hb : ∀ b ∈ bs, b.length < 281474976710656) (zs : List PV) (hzs : zs = bsP bs) :
    FnL Tryz.prog 44 [.p (.sl zs)] [] fun v own => v = .p (.bool (sndB bs)) ∧ own = [] := by
  obtain ⟨R, hR⟩ : ∃ R, R = sndB bs := ⟨_, rfl⟩
  rw [← hR]
  refine FnL.flat (R := fun v own => v = .p (.bool R)) ?_ (by rintro _ _ rfl; exact ⟨_, _, rfl, .refl _, rfl, rfl⟩)
  obtain ⟨N, hN⟩ : ∃ n, n = bs.length := ⟨_, rfl⟩
  have hzl : zs.length = N := by rw [hzs, sP_length, hN]
  refine fn_of_vc eOk fOk fo44 Tryz.func44 rfl rfl rfl fun B hB => ?_
  intro add sub mul quo rem band bor bxor bclr shl shr ieq ilt ile seq slt beq bnot orb bcond iwrap iof ssz hA cat sq sl imin imax smin smax len slen u8 hL op hop call hcall code hcode ret hret
  have hlen : len zs = Int.ofNat N := by rw [hL.len, hzl]; rfl
  cbv
  rw [hlen]
  refine hcode _ _ _ (CodeEv.loop eOk fOk (ι := Nat) (fun s => [(0, .p (.sl zs)), (5, .p (.sl zs)), (6, .p (.int .i64 (Int.ofNat N))), (7, .p (.int .i64 (Int.ofNat s)))])
    (fun s => []) (fun s => s ≤ N ∧ ∀ q, q < s → gB bs q = true) (fun s => N - s) 0 ?_ ?_)
  · exact ⟨(by repeat (first | exact trivial | refine And.intro rfl ?_)), rfl, Nat.zero_le _, fun q h => absurd h (Nat.not_lt_zero q)⟩
  rintro i ⟨k1, k2⟩ rd hrd
  by_cases hi : i < N
  · refine Exists.elim (get_of_lt (show i < bs.length by omega)) fun b hbi => ?_
    have hzi : zs[i]? = some (.str b) := by rw [hzs]; exact sP_get hbi
    have hbl := hb b (List.mem_of_getElem? hbi)
    have bad := fun h => hR.trans (snd_bad hbi h)
    have good := (gB_some hbi).2
    refine Exists.elim (show ∃ n, n = b.length from ⟨_, rfl⟩) fun n hnn => ?_
    rw [← hnn] at bad good
    intro add1 sub1 mul1 quo1 rem1 band1 bor1 bxor1 bclr1 shl1 shr1 ieq1 ilt1 ile1 seq1 slt1 beq1 bnot1 orb1 bcond1 iwrap1 iof1 ssz1 hA1 cat1 sq1 sl1 imin1 imax1 smin1 smax1 len1 slen1 u81 hL1 op1 hop1 call1 hcall1 code1 hcode1
    have e1 : slen1 b = Int.ofNat n := by rw [hL1.slen, hnn]; rfl
    have e2 : sq1 b [] = decide (n = 0) := by
      rw [hL1.sq, hnn]; cases b <;> simp
    have hadd1 : add1 .i64 (Int.ofNat i) 1 = Int.ofNat (i + 1) := by rw [hA1.add, IntWalk.i64_in _ (by simp only [Int.ofNat_eq_natCast]; omega)]; rfl
    cbv
    refine vcIf.yes (by first | (simp [hA1.not, hA1.eq, hA1.lt, hA1.le, hA1.cond, hA1.beq, hA1.orb, hL1.len, hL1.slen, hL1.sq, hi]; done) | (simp only [hi]; simp [hA1.not, hA1.eq, hA1.lt, hA1.le, hA1.cond, hA1.beq, hA1.orb, hL1.len, hL1.slen, hL1.sq, hi]; done) | (simp [hA1.not, hA1.eq, hA1.lt, hA1.le, hA1.cond, hA1.beq, hA1.orb, hL1.len, hL1.slen, hL1.sq, hi]; omega) | (simp only [hi]; simp [hA1.not, hA1.eq, hA1.lt, hA1.le, hA1.cond, hA1.beq, hA1.orb, hL1.len, hL1.slen, hL1.sq, hi]; omega)) ?_
    cbv
    refine ⟨i, _, rfl, hzi, rfl, ?_⟩
    cbv
    by_cases h0 : n = 0
    · have hf := bad (by omega)
      refine vcIf.yes (by rw [e2]; exact decide_eq_true h0) ?_
      cbv
      exact hret _ (RetEv.ret eOk rfl (by rw [hf]; rfl))
    refine vcIf.no (by rw [e2]; exact decide_eq_false h0) ?_
    cbv
    by_cases h16 : 16 < n
    · have hf := bad (by omega)
      refine vcIf.yes (by first | (simp [hA1.not, hA1.eq, hA1.lt, hA1.le, hA1.cond, hA1.beq, hA1.orb, hL1.len, hL1.slen, hL1.sq, e1, h16]; done) | (simp only [e1, h16]; simp [hA1.not, hA1.eq, hA1.lt, hA1.le, hA1.cond, hA1.beq, hA1.orb, hL1.len, hL1.slen, hL1.sq, e1, h16]; done) | (simp [hA1.not, hA1.eq, hA1.lt, hA1.le, hA1.cond, hA1.beq, hA1.orb, hL1.len, hL1.slen, hL1.sq, e1, h16]; omega) | (simp only [e1, h16]; simp [hA1.not, hA1.eq, hA1.lt, hA1.le, hA1.cond, hA1.beq, hA1.orb, hL1.len, hL1.slen, hL1.sq, e1, h16]; omega)) ?_
      cbv
      exact hret _ (RetEv.ret eOk rfl (by rw [hf]; rfl))
    refine vcIf.no (by first | (simp [hA1.not, hA1.eq, hA1.lt, hA1.le, hA1.cond, hA1.beq, hA1.orb, hL1.len, hL1.slen, hL1.sq, e1, h16]; done) | (simp only [e1, h16]; simp [hA1.not, hA1.eq, hA1.lt, hA1.le, hA1.cond, hA1.beq, hA1.orb, hL1.len, hL1.slen, hL1.sq, e1, h16]; done) | (simp [hA1.not, hA1.eq, hA1.lt, hA1.le, hA1.cond, hA1.beq, hA1.orb, hL1.len, hL1.slen, hL1.sq, e1, h16]; omega) | (simp only [e1, h16]; simp [hA1.not, hA1.eq, hA1.lt, hA1.le, hA1.cond, hA1.beq, hA1.orb, hL1.len, hL1.slen, hL1.sq, e1, h16]; omega)) ?_
    cbv
    by_cases hi0 : 0 < i
    · refine Exists.elim (get_of_lt (show i - 1 < bs.length by omega)) fun a hai => ?_
      have hza : zs[i - 1]? = some (.str a) := by rw [hzs]; exact sP_get hai
      have hga : bs.getD (i - 1) [] = a := by rw [List.getD_eq_getElem?_getD, hai]; rfl
      refine Exists.elim (show ∃ j, j = i - 1 from ⟨_, rfl⟩) fun j hj => ?_
      rw [hga] at bad good
      rw [← hj] at hza
      have hsub : sub1 .i64 (Int.ofNat i) 1 = Int.ofNat j := by rw [hA1.sub, IntWalk.i64_in _ (by simp only [Int.ofNat_eq_natCast]; omega), hj]; simp only [Int.ofNat_eq_natCast]; omega
      have hle : orb1 (sl1 b a) (sq1 b a) = !(bl a b) := by rw [hA1.orb, hL1.sl, hL1.sq, ← bl_gt b a]; simp
      refine vcIf.yes (by first | (simp [hA1.not, hA1.eq, hA1.lt, hA1.le, hA1.cond, hA1.beq, hA1.orb, hL1.len, hL1.slen, hL1.sq, hi0]; done) | (simp only [hi0]; simp [hA1.not, hA1.eq, hA1.lt, hA1.le, hA1.cond, hA1.beq, hA1.orb, hL1.len, hL1.slen, hL1.sq, hi0]; done) | (simp [hA1.not, hA1.eq, hA1.lt, hA1.le, hA1.cond, hA1.beq, hA1.orb, hL1.len, hL1.slen, hL1.sq, hi0]; omega) | (simp only [hi0]; simp [hA1.not, hA1.eq, hA1.lt, hA1.le, hA1.cond, hA1.beq, hA1.orb, hL1.len, hL1.slen, hL1.sq, hi0]; omega)) ?_
      cbv
      refine ⟨j, _, hsub, hza, rfl, ?_⟩
      cbv
      by_cases hab : bl a b = true
      · have hgood := good ⟨by omega, by omega, .inr hab⟩
        refine vcIf.no (by rw [hle, show Op.bytesLess a b = true from hab]; simp [hA1.cond, cond]) ?_
        cbv
        refine hrd _ ⟨i + 1, [], ?_, ⟨hi, ?_⟩, rfl, ⟨rfl, rfl, rfl, ?_, trivial⟩, rfl, rfl, rfl, ?_⟩
        · show N - (i + 1) < N - i
          omega
        · intro q hq
          rcases Nat.lt_succ_iff_lt_or_eq.1 hq with c | c
          · exact k2 q c
          · rw [c]; exact hgood
        · show some (V.p (.int .i64 _)) = _
          rw [hadd1]
        · rw [hB]; exact Nat.le_refl _
      · have hf := bad (fun c => by rcases c.2.2 with c | c; omega; exact hab c)
        refine vcIf.yes (by rw [hle, show Op.bytesLess a b = false from Bool.eq_false_iff.2 hab]; simp [hA1.cond, cond]) ?_
        cbv
        exact hret _ (RetEv.ret eOk rfl (by rw [hf]; rfl))
    · have hgood := good ⟨by omega, by omega, .inl (by omega)⟩
      refine vcIf.no (by first | (simp [hA1.not, hA1.eq, hA1.lt, hA1.le, hA1.cond, hA1.beq, hA1.orb, hL1.len, hL1.slen, hL1.sq, hi0]; done) | (simp only [hi0]; simp [hA1.not, hA1.eq, hA1.lt, hA1.le, hA1.cond, hA1.beq, hA1.orb, hL1.len, hL1.slen, hL1.sq, hi0]; done) | (simp [hA1.not, hA1.eq, hA1.lt, hA1.le, hA1.cond, hA1.beq, hA1.orb, hL1.len, hL1.slen, hL1.sq, hi0]; omega) | (simp only [hi0]; simp [hA1.not, hA1.eq, hA1.lt, hA1.le, hA1.cond, hA1.beq, hA1.orb, hL1.len, hL1.slen, hL1.sq, hi0]; omega)) ?_
      cbv
      refine vcIf.no (by first | (simp [hA1.not, hA1.eq, hA1.lt, hA1.le, hA1.cond, hA1.beq, hA1.orb, hL1.len, hL1.slen, hL1.sq]; done) | (simp [hA1.not, hA1.eq, hA1.lt, hA1.le, hA1.cond, hA1.beq, hA1.orb, hL1.len, hL1.slen, hL1.sq]; omega)) ?_
      cbv
      refine hrd _ ⟨i + 1, [], ?_, ⟨hi, ?_⟩, rfl, ⟨rfl, rfl, rfl, ?_, trivial⟩, rfl, rfl, rfl, ?_⟩
      · show N - (i + 1) < N - i
        omega
      · intro q hq
        rcases Nat.lt_succ_iff_lt_or_eq.1 hq with c | c
        · exact k2 q c
        · rw [c]; exact hgood
      · show some (V.p (.int .i64 _)) = _
        rw [hadd1]
      · rw [hB]; exact Nat.le_refl _
  · have hin : i = N := by omega
    have hR2 : R = decide (N < 8) := by
      rw [hR, sndB, ← hN]
      by_cases h : N < 8
      · rw [decide_eq_true h]; exact decide_eq_true ⟨h, fun q hq => k2 q (by omega)⟩
      · rw [decide_eq_false h]; exact decide_eq_false fun c => h c.1
    intro add1 sub1 mul1 quo1 rem1 band1 bor1 bxor1 bclr1 shl1 shr1 ieq1 ilt1 ile1 seq1 slt1 beq1 bnot1 orb1 bcond1 iwrap1 iof1 ssz1 hA1 cat1 sq1 sl1 imin1 imax1 smin1 smax1 len1 slen1 u81 hL1 op1 hop1 call1 hcall1 code1 hcode1
    cbv
    refine vcIf.no (by first | (simp [hA1.not, hA1.eq, hA1.lt, hA1.le, hA1.cond, hA1.beq, hA1.orb, hL1.len, hL1.slen, hL1.sq, hi]; done) | (simp only [hi]; simp [hA1.not, hA1.eq, hA1.lt, hA1.le, hA1.cond, hA1.beq, hA1.orb, hL1.len, hL1.slen, hL1.sq, hi]; done) | (simp [hA1.not, hA1.eq, hA1.lt, hA1.le, hA1.cond, hA1.beq, hA1.orb, hL1.len, hL1.slen, hL1.sq, hi]; omega) | (simp only [hi]; simp [hA1.not, hA1.eq, hA1.lt, hA1.le, hA1.cond, hA1.beq, hA1.orb, hL1.len, hL1.slen, hL1.sq, hi]; omega)) ?_
    cbv
    refine hret _ (RetEv.ret eOk rfl ?_)
    show V.p (.bool (ilt (len zs) 8)) = _
    rw [hA.lt, hlen, hR2, show decide (Int.ofNat N < 8) = decide (N < 8) from decide_eq_decide.2 (by simp only [Int.ofNat_eq_natCast]; omega)]
end
section
open Go Go.Lx
open Go.Sx (vcIf)

end
section
open Go Go.Lx
open Go.Sx (vcIf)

theorem snd_mono {bs : BL} (h : sndB bs = true) : ∀ (d p : Nat) (a b : List UInt8), bs[p]? = some a → bs[p + d + 1]? = some b → bl a b = true
  | 0, p, a, b, ha, hb => by
    have h := (of_decide_eq_true h).2 (p + 1) (List.getElem?_eq_some_iff.1 hb).1
    rcases ((gB_some hb).1 h).2.2 with c | c
    · omega
    · rw [Nat.add_sub_cancel, Nat.add_zero, List.getD_eq_getElem?_getD, ha] at c; exact c
  | d + 1, p, a, b, ha, hb => by
    have hlt := (List.getElem?_eq_some_iff.1 hb).1
    obtain ⟨m, hm⟩ := get_of_lt (show p + d + 1 < bs.length by omega)
    exact bl_trans (snd_mono h d p a m ha hm) (snd_mono h 0 (p + d + 1) m b hm (by rw [← hb]; rfl))
theorem snd_lt {bs : BL} (h : sndB bs = true) {p q : Nat} {a b : List UInt8} (ha : bs[p]? = some a) (hb : bs[q]? = some b) (hpq : p < q) : bl a b = true :=
  snd_mono h (q - p - 1) p a b ha (by rw [show p + (q - p - 1) + 1 = q by omega]; exact hb)
/-- How many bounds are not above a key, before the first that is. -/
def wh : BL → List UInt8 → Nat
  | [], _ => 0
  | b :: r, k => if bl k b = true then 0 else wh r k + 1
theorem wh_le : ∀ (bs : BL) (k : List UInt8), wh bs k ≤ bs.length
  | [], _ => Nat.le_refl _
  | b :: r, k => by
    unfold wh; split
    · exact Nat.zero_le _
    · simp only [List.length_cons]; have := wh_le r k; omega
theorem wh_eq : ∀ (n : Nat) (bs : BL) (k : List UInt8), n ≤ bs.length → (∀ q b, q < n → bs[q]? = some b → bl k b = false) → (∀ b, bs[n]? = some b → bl k b = true) → wh bs k = n
  | 0, [], k, _, _, _ => rfl
  | 0, b :: r, k, _, _, h => by unfold wh; rw [if_pos (h b rfl)]
  | n + 1, [], k, h, _, _ => by simp at h
  | n + 1, b :: r, k, h1, h2, h3 => by
    unfold wh
    rw [if_neg (by rw [h2 0 b (Nat.succ_pos n) rfl]; decide), wh_eq n r k (by simpa using h1) (fun q c hq hc => h2 (q + 1) c (by omega) hc) (fun c hc => h3 c hc)]
theorem wh_of {bs : BL} (hs : sndB bs = true) {k : List UInt8} {i : Nat} (hi : i ≤ bs.length) (h1 : ∀ q b, q < i → bs[q]? = some b → bl b k = true) (h2 : ∀ q b, i ≤ q → bs[q]? = some b → bl b k = false) :
    wh bs k = if bs[i]? = some k then i + 1 else i := by
  split
  · rename_i h
    refine wh_eq (i + 1) bs k (List.getElem?_eq_some_iff.1 h).1 (fun q b hq hb => ?_) (fun b hb => snd_lt hs h hb (Nat.lt_succ_self i))
    rcases Nat.lt_succ_iff_lt_or_eq.1 hq with c | c
    · exact bl_asymm (h1 q b c hb)
    · rw [c, h] at hb; cases hb; exact bl_irrefl k
  · rename_i h
    refine wh_eq i bs k hi (fun q b hq hb => bl_asymm (h1 q b hq hb)) (fun b hb => ?_)
    have := h2 i b (Nat.le_refl _) hb
    rcases bl_tri b k with c | c | c
    · rw [this] at c; cases c
    · rw [c] at hb; exact absurd hb h
    · exact c

theorem cNan_spec (a : List UInt8) : FnL Tryz.prog 116 [.p (.str a)] [] fun v own => v = .p (.bool false) ∧ own = [] := by
  refine FnL.flat (R := fun v own => v = .p (.bool false)) ?_ (by rintro _ _ rfl; exact ⟨_, _, rfl, .refl _, rfl, rfl⟩)
  refine fn_of_vc eOk fOk fo116 Tryz.func116 rfl rfl rfl fun B hB => ?_
  intro add sub mul quo rem band bor bxor bclr shl shr ieq ilt ile seq slt beq bnot orb bcond iwrap iof ssz hA cat sq sl imin imax smin smax len slen u8 hL op hop call hcall code hcode ret hret
  cbv
  refine hret _ (RetEv.ret eOk rfl ?_)
  show V.p (.bool (bnot (sq a a))) = _
  rw [hA.not, hL.sq]; simp
end
section
open Go Go.Lx
open Go.Sx (vcIf)

theorem rhas_spec (lo hi key : List UInt8) : FnL Tryz.prog 71 [.p (.agg [.str lo, .str hi]), .p (.str key)] [] fun v own => v = .p (.bool (!(bl key lo) && bl key hi)) ∧ own = [] := by
  obtain ⟨R, hR⟩ : ∃ R, R = (!(bl key lo) && bl key hi) := ⟨_, rfl⟩
  rw [← hR]
  refine FnL.flat (R := fun v own => v = .p (.bool R)) ?_ (by rintro _ _ rfl; exact ⟨_, _, rfl, .refl _, rfl, rfl⟩)
  refine fn_of_vc eOk fOk fo71 Tryz.func71 rfl rfl rfl fun B hB => ?_
  intro add sub mul quo rem band bor bxor bclr shl shr ieq ilt ile seq slt beq bnot orb bcond iwrap iof ssz hA cat sq sl imin imax smin smax len slen u8 hL op hop call hcall code hcode ret hret
  cbv
  by_cases h : Op.bytesLess key lo = true
  · have hf : R = false := by rw [hR, h]; rfl
    refine vcIf.no (by rw [hA.not, hL.sl, h]; rfl) ?_
    cbv
    refine hret _ (RetEv.ret eOk rfl ?_)
    rw [hf]
    rfl
  · have h := Bool.eq_false_iff.2 h
    have hf : R = Op.bytesLess key hi := by rw [hR, h]; rfl
    refine vcIf.yes (by rw [hA.not, hL.sl, h]; rfl) ?_
    cbv
    refine hret _ (RetEv.ret eOk rfl ?_)
    rw [hf]
    show V.p (.bool (bcond true (sl key hi) false)) = _
    rw [hA.cond, hL.sl]; rfl
end
section
open Go Go.Lx
open Go.Sx (vcIf)

structure Spn where
  lo : List UInt8
  hi : List UInt8
def Spn.v (c : Spn) : PV := .agg [.str c.lo, .str c.hi]
def pP (l : List Spn) : List PV := l.map Spn.v
theorem pP_length (l : List Spn) : (pP l).length = l.length := List.length_map _
theorem pP_get {l : List Spn} {i : Nat} {c : Spn} (h : l[i]? = some c) : (pP l)[i]? = some (.agg [.str c.lo, .str c.hi]) := by unfold pP; rw [List.getElem?_map, h]; rfl
theorem Spn.wf (c : Spn) : c.v.wf 2 := ⟨rfl, fun u hu => by simp [Spn.v, PV.cells] at hu; rcases hu with rfl | rfl <;> rfl⟩
/-- A span that is too long, or runs backward. -/
def Spn.bad (c : Spn) : Bool := decide (17 < c.lo.length ∨ 17 < c.hi.length ∨ Op.bytesLess c.hi c.lo = true)
structure Tx where
  r : Int
  sp : List Spn
  ch : List Chg
def Tx.v (s : Tx) : PV := .agg [.int .i64 s.r, .sl (pP s.sp), .sl (cP s.ch)]
def Tx.okB (s : Tx) : Bool := decide (0 ≤ s.r ∧ s.sp.length ≤ 24 ∧ s.ch.length ≤ 24 ∧ chks s.ch = 0 ∧ s.sp.any Spn.bad = false)
theorem Tx.ok_iff (s : Tx) : s.okB = true ↔ (0 ≤ s.r ∧ s.sp.length ≤ 24 ∧ s.ch.length ≤ 24 ∧ chks s.ch = 0 ∧ s.sp.any Spn.bad = false) := by unfold Tx.okB; rw [decide_eq_true_eq]
def Tx.fit (s : Tx) : Prop := (-9223372036854775808 ≤ s.r ∧ s.r ≤ 9223372036854775807) ∧ (∀ c ∈ s.ch, c.fit) ∧ s.sp.length < 9223372036854775807 ∧ s.ch.length < 9223372036854775807

theorem frTxn1_spec (c : Spn) : FnL Tryz.prog 83 [.p (.agg [.str c.lo, .str c.hi])] [] fun v own => ∃ b, b = c.bad ∧ v = .p (.bool b) ∧ own = [] := by
  refine FnL.flat (R := fun v own => ∃ b, b = c.bad ∧ v = .p (.bool b)) ?_ (by rintro _ _ ⟨b, h, rfl⟩; exact ⟨_, _, rfl, .refl _, b, h, rfl, rfl⟩)
  obtain ⟨lo, hi⟩ := c
  obtain ⟨R, hR⟩ : ∃ R, R = Spn.bad ⟨lo, hi⟩ := ⟨_, rfl⟩
  rw [← hR]
  have hR2 : R = true ↔ (17 < lo.length ∨ 17 < hi.length ∨ Op.bytesLess hi lo = true) := by rw [hR]; unfold Spn.bad; rw [decide_eq_true_eq]
  obtain ⟨kn, hkn⟩ : ∃ n, n = lo.length := ⟨_, rfl⟩
  obtain ⟨vn, hvn⟩ : ∃ n, n = hi.length := ⟨_, rfl⟩
  rw [← hkn, ← hvn] at hR2
  have hmax : ∀ {imax : Int → Int → Int}, (∀ a b, imax a b = if b > a then b else a) → (17 < imax (Int.ofNat kn) (Int.ofNat vn) ↔ (17 < kn ∨ 17 < vn)) := fun h => by
    rw [h]; simp only [Int.ofNat_eq_natCast]; split <;> omega
  refine fn_of_vc eOk fOk fo83 Tryz.func83 rfl rfl rfl fun B hB => ?_
  intro add sub mul quo rem band bor bxor bclr shl shr ieq ilt ile seq slt beq bnot orb bcond iwrap iof ssz hA cat sq sl imin imax smin smax len slen u8 hL op hop call hcall code hcode ret hret
  have hk : slen lo = Int.ofNat kn := by rw [hL.slen, hkn]; rfl
  have hv : slen hi = Int.ofNat vn := by rw [hL.slen, hvn]; rfl
  have hm := hmax hL.imax
  cbv
  rw [hk, hv]
  obtain ⟨mx, hmx⟩ : ∃ m, m = imax (Int.ofNat kn) (Int.ofNat vn) := ⟨_, rfl⟩
  rw [← hmx] at hm ⊢
  by_cases h1 : 17 < mx
  · refine vcIf.yes (by rw [hA.lt]; exact decide_eq_true h1) ?_
    cbv
    repeat (first | (refine vcIf.yes ?_ ?_; (focus (simp [hA.not, hA.eq, hA.lt, hA.le, hA.cond, hA.beq, hA.orb, hL.len, hL.slen, hL.sq]; done)); cbv) | (refine vcIf.no ?_ ?_; (focus (simp [hA.not, hA.eq, hA.lt, hA.le, hA.cond, hA.beq, hA.orb, hL.len, hL.slen, hL.sq]; done)); cbv) | fail)
    exact hret _ (RetEv.ret eOk rfl ⟨true, (hR2.2 (by have := hm.1 h1; omega)).symm, rfl⟩)
  refine vcIf.no (by rw [hA.lt]; exact decide_eq_false h1) ?_
  cbv
  have hb : Op.bytesLess hi lo = R := by
    rw [Bool.eq_iff_iff, hR2]
    have := fun c => h1 (hm.2 c)
    exact ⟨fun h => .inr (.inr h), fun h => by rcases h with h | h | h; exact absurd (.inl h) this; exact absurd (.inr h) this; exact h⟩
  refine hret _ (RetEv.ret eOk rfl ⟨_, hb, ?_⟩)
  show V.p (.bool (bcond false true (bnot (orb (sl lo hi) (sq lo hi))))) = _
  rw [hA.cond, hA.not, hA.orb, hL.sl, hL.sq]
  exact congrArg (fun x => V.p (.bool x)) (bl_gt lo hi)

theorem idxSpns_spec (l : List Spn) (hl : l.length < 9223372036854775807) (zs : List PV) (hzs : zs = pP l) (f : FuncId) (p : Spn → Bool) (hf : ∀ z : Spn, FnL Tryz.prog f [.p (.agg [.str z.lo, .str z.hi])] [] fun v own => ∃ b, b = p z ∧ v = .p (.bool b) ∧ own = []) :
    FnL Tryz.prog 84 [.p (.sl zs), .p (.fn f)] [] fun v own => ∃ k : Int, (0 ≤ k ↔ l.any p = true) ∧ v = .p (.int .i64 k) ∧ own = [] := by
  have hzl : zs.length = l.length := by rw [hzs, pP_length]
  obtain ⟨N, hN⟩ : ∃ N, N = l.length := ⟨_, rfl⟩
  rw [← hN] at hzl hl
  refine fn_of_vc eOk fOk fo84 Tryz.func84 rfl rfl rfl fun B hB => ?_
  intro add sub mul quo rem band bor bxor bclr shl shr ieq ilt ile seq slt beq bnot orb bcond iwrap iof ssz hA cat sq sl imin imax smin smax len slen u8 hL op hop call hcall code hcode ret hret
  have hlen : len zs = Int.ofNat N := by rw [hL.len, hzl]; rfl
  cbv
  rw [hlen]
  refine hcode _ _ _ (CodeEv.loop eOk fOk (ι := Nat) (fun s => [(0, .p (.sl zs)), (1, .p (.fn f)), (7, .p (.int .i64 (Int.ofNat N))), (8, .p (.int .i64 (Int.ofNat s)))])
    (fun s => []) (fun s => s ≤ N ∧ (l.take s).any p = false) (fun s => N - s) 0 ?_ ?_)
  · exact ⟨⟨rfl, rfl, rfl, rfl, trivial⟩, rfl, Nat.zero_le _, rfl⟩
  rintro i ⟨h1, h2⟩ rd hrd
  intro add1 sub1 mul1 quo1 rem1 band1 bor1 bxor1 bclr1 shl1 shr1 ieq1 ilt1 ile1 seq1 slt1 beq1 bnot1 orb1 bcond1 iwrap1 iof1 ssz1 hA1 cat1 sq1 sl1 imin1 imax1 smin1 smax1 len1 slen1 u81 hL1 op1 hop1 call1 hcall1 code1 hcode1
  have hadd1 : i < N → add1 .i64 (Int.ofNat i) 1 = Int.ofNat (i + 1) := fun _ => by rw [hA1.add, IntWalk.i64_in _ (by simp only [Int.ofNat_eq_natCast]; omega)]; rfl
  cbv
  by_cases hi : i < N
  · obtain ⟨z, hz⟩ := get_of_lt (show i < l.length by omega)
    have hzz : zs[i]? = some (.agg [.str z.lo, .str z.hi]) := by rw [hzs]; exact pP_get hz
    have htk : l.take (i + 1) = l.take i ++ [z] := by rw [List.take_add_one, hz]; rfl
    have hfz := hf z
    obtain ⟨P, hP⟩ : ∃ P, P = p z := ⟨_, rfl⟩
    rw [← hP] at hfz
    obtain ⟨zlo, hzlo⟩ : ∃ x, x = z.lo := ⟨_, rfl⟩
    obtain ⟨zhi, hzhi⟩ : ∃ x, x = z.hi := ⟨_, rfl⟩
    rw [← hzlo, ← hzhi] at hfz hzz
    refine vcIf.yes (by first | (simp [hA1.not, hA1.eq, hA1.lt, hA1.le, hA1.cond, hA1.beq, hA1.orb, hL1.len, hL1.slen, hL1.sq, hi]; done) | (simp only [hi]; simp [hA1.not, hA1.eq, hA1.lt, hA1.le, hA1.cond, hA1.beq, hA1.orb, hL1.len, hL1.slen, hL1.sq, hi]; done) | (simp [hA1.not, hA1.eq, hA1.lt, hA1.le, hA1.cond, hA1.beq, hA1.orb, hL1.len, hL1.slen, hL1.sq, hi]; omega) | (simp only [hi]; simp [hA1.not, hA1.eq, hA1.lt, hA1.le, hA1.cond, hA1.beq, hA1.orb, hL1.len, hL1.slen, hL1.sq, hi]; omega)) ?_
    cbv
    refine ⟨i, _, rfl, hzz, rfl, ?_⟩
    cbv
    refine hcall1 _ _ _ _ _ (CallEv.same hfz rfl ?_)
    rintro _ _ ⟨b, hb, rfl, rfl⟩
    rw [hP] at hb
    cbv
    cases b with
    | true =>
      cbv
      refine hret _ (RetEv.ret eOk rfl ⟨_, ⟨fun _ => List.any_eq_true.2 ⟨z, List.mem_of_getElem? hz, hb.symm⟩, fun _ => ?_⟩, rfl, rfl⟩)
      exact Int.natCast_nonneg i
    | false =>
      cbv
      refine hrd _ ⟨i + 1, [], ?_, ⟨hi, ?_⟩, rfl, ⟨rfl, rfl, rfl, ?_, trivial⟩, rfl, rfl, rfl, ?_⟩
      · show N - (i + 1) < N - i
        omega
      · rw [htk, List.any_append, h2]; simp [← hb]
      · show some (V.p (.int .i64 _)) = _
        rw [hadd1 hi]
      · rw [hB]; exact Nat.zero_le _
  · refine vcIf.no (by first | (simp [hA1.not, hA1.eq, hA1.lt, hA1.le, hA1.cond, hA1.beq, hA1.orb, hL1.len, hL1.slen, hL1.sq, hi]; done) | (simp only [hi]; simp [hA1.not, hA1.eq, hA1.lt, hA1.le, hA1.cond, hA1.beq, hA1.orb, hL1.len, hL1.slen, hL1.sq, hi]; done) | (simp [hA1.not, hA1.eq, hA1.lt, hA1.le, hA1.cond, hA1.beq, hA1.orb, hL1.len, hL1.slen, hL1.sq, hi]; omega) | (simp only [hi]; simp [hA1.not, hA1.eq, hA1.lt, hA1.le, hA1.cond, hA1.beq, hA1.orb, hL1.len, hL1.slen, hL1.sq, hi]; omega)) ?_
    cbv
    rw [List.take_of_length_le (by omega)] at h2
    exact hret _ (RetEv.ret eOk rfl ⟨-1, ⟨fun c => absurd c (by decide), fun c => by rw [h2] at c; cases c⟩, rfl, rfl⟩)
theorem hasSpns_spec (l : List Spn) (hl : l.length < 9223372036854775807) (zs : List PV) (hzs : zs = pP l) (f : FuncId) (p : Spn → Bool) (hf : ∀ z : Spn, FnL Tryz.prog f [.p (.agg [.str z.lo, .str z.hi])] [] fun v own => ∃ b, b = p z ∧ v = .p (.bool b) ∧ own = []) :
    FnL Tryz.prog 54 [.p (.sl zs), .p (.fn f)] [] fun v own => ∃ b, b = l.any p ∧ v = .p (.bool b) ∧ own = [] := by
  have hi := idxSpns_spec l hl zs hzs f p hf
  refine fn_of_vc eOk fOk fo54 Tryz.func54 rfl rfl rfl fun B hB => ?_
  intro add sub mul quo rem band bor bxor bclr shl shr ieq ilt ile seq slt beq bnot orb bcond iwrap iof ssz hA cat sq sl imin imax smin smax len slen u8 hL op hop call hcall code hcode ret hret
  cbv
  refine hcall _ _ _ _ _ (CallEv.same hi rfl ?_)
  rintro _ _ ⟨k, hk, rfl, rfl⟩
  cbv
  refine hret _ (RetEv.ret eOk rfl ⟨_, rfl, ?_, rfl⟩)
  show V.p (.bool (ile 0 k)) = _
  rw [hA.le]
  congr 2
  rw [Bool.eq_iff_iff, decide_eq_true_eq]; exact hk

theorem frTxn_spec' (s : Tx) (hs1 : s.sp.length < 9223372036854775807) (hs2 : s.ch.length < 9223372036854775807) (xs zs : List PV) (hxs : xs = pP s.sp) (hzs : zs = cP s.ch) :
    FnL Tryz.prog 50 [.p (.agg [.int .i64 s.r, .sl xs, .sl zs])] [] fun v own => ∃ b, b = s.okB ∧ v = .p (.bool b) ∧ own = [] := by
  refine FnL.flat (R := fun v own => ∃ b, b = s.okB ∧ v = .p (.bool b)) ?_ (by rintro _ _ ⟨b, h, rfl⟩; exact ⟨_, _, rfl, .refl _, b, h, rfl, rfl⟩)
  have hR2 := s.ok_iff
  obtain ⟨R, hR⟩ : ∃ R, R = s.okB := ⟨_, rfl⟩
  rw [← hR] at hR2 ⊢
  clear hR
  obtain ⟨r, sp, ch⟩ := s
  simp only at hs1 hs2 hxs hzs hR2 ⊢
  have hxl : xs.length = sp.length := by rw [hxs, pP_length]
  have hzl : zs.length = ch.length := by rw [hzs, cP_length]
  have hc := all_spec ch hs2 zs hzs
  have hp := hasSpns_spec sp hs1 xs hxs _ _ frTxn1_spec
  obtain ⟨N, hN⟩ : ∃ N, N = ch.length := ⟨_, rfl⟩
  obtain ⟨M, hM⟩ : ∃ M, M = sp.length := ⟨_, rfl⟩
  rw [← hN] at hzl hR2
  rw [← hM] at hxl hR2
  refine fn_of_vc eOk fOk fo50 Tryz.func50 rfl rfl rfl fun B hB => ?_
  intro add sub mul quo rem band bor bxor bclr shl shr ieq ilt ile seq slt beq bnot orb bcond iwrap iof ssz hA cat sq sl imin imax smin smax len slen u8 hL op hop call hcall code hcode ret hret
  have hlx : len xs = Int.ofNat M := by rw [hL.len, hxl]; rfl
  have hlz : len zs = Int.ofNat N := by rw [hL.len, hzl]; rfl
  cbv
  by_cases h1 : 0 ≤ r
  rotate_left
  · have : R = false := by rw [Bool.eq_false_iff]; exact fun c => h1 (hR2.1 c).1
    refine vcIf.no (by first | (simp [hA.not, hA.eq, hA.lt, hA.le, hA.cond, hA.beq, hA.orb, hL.len, hL.slen, hL.sq, h1]; done) | (simp only [h1]; simp [hA.not, hA.eq, hA.lt, hA.le, hA.cond, hA.beq, hA.orb, hL.len, hL.slen, hL.sq, h1]; done) | (simp [hA.not, hA.eq, hA.lt, hA.le, hA.cond, hA.beq, hA.orb, hL.len, hL.slen, hL.sq, h1]; omega) | (simp only [h1]; simp [hA.not, hA.eq, hA.lt, hA.le, hA.cond, hA.beq, hA.orb, hL.len, hL.slen, hL.sq, h1]; omega)) ?_
    cbv
    repeat (first | (refine vcIf.yes ?_ ?_; (focus (simp [hA.not, hA.eq, hA.lt, hA.le, hA.cond, hA.beq, hA.orb, hL.len, hL.slen, hL.sq]; done)); cbv) | (refine vcIf.no ?_ ?_; (focus (simp [hA.not, hA.eq, hA.lt, hA.le, hA.cond, hA.beq, hA.orb, hL.len, hL.slen, hL.sq]; done)); cbv) | fail)
    exact hret _ (RetEv.ret eOk rfl ⟨false, this.symm, rfl⟩)
  refine vcIf.yes (by first | (simp [hA.not, hA.eq, hA.lt, hA.le, hA.cond, hA.beq, hA.orb, hL.len, hL.slen, hL.sq, h1]; done) | (simp only [h1]; simp [hA.not, hA.eq, hA.lt, hA.le, hA.cond, hA.beq, hA.orb, hL.len, hL.slen, hL.sq, h1]; done) | (simp [hA.not, hA.eq, hA.lt, hA.le, hA.cond, hA.beq, hA.orb, hL.len, hL.slen, hL.sq, h1]; omega) | (simp only [h1]; simp [hA.not, hA.eq, hA.lt, hA.le, hA.cond, hA.beq, hA.orb, hL.len, hL.slen, hL.sq, h1]; omega)) ?_
  cbv
  by_cases h2 : M ≤ 24
  rotate_left
  · have : R = false := by rw [Bool.eq_false_iff]; exact fun c => h2 (hR2.1 c).2.1
    refine vcIf.no (by first | (simp [hA.not, hA.eq, hA.lt, hA.le, hA.cond, hA.beq, hA.orb, hL.len, hL.slen, hL.sq, hlx, h2]; done) | (simp only [hlx, h2]; simp [hA.not, hA.eq, hA.lt, hA.le, hA.cond, hA.beq, hA.orb, hL.len, hL.slen, hL.sq, hlx, h2]; done) | (simp [hA.not, hA.eq, hA.lt, hA.le, hA.cond, hA.beq, hA.orb, hL.len, hL.slen, hL.sq, hlx, h2]; omega) | (simp only [hlx, h2]; simp [hA.not, hA.eq, hA.lt, hA.le, hA.cond, hA.beq, hA.orb, hL.len, hL.slen, hL.sq, hlx, h2]; omega)) ?_
    cbv
    repeat (first | (refine vcIf.yes ?_ ?_; (focus (simp [hA.not, hA.eq, hA.lt, hA.le, hA.cond, hA.beq, hA.orb, hL.len, hL.slen, hL.sq]; done)); cbv) | (refine vcIf.no ?_ ?_; (focus (simp [hA.not, hA.eq, hA.lt, hA.le, hA.cond, hA.beq, hA.orb, hL.len, hL.slen, hL.sq]; done)); cbv) | fail)
    exact hret _ (RetEv.ret eOk rfl ⟨false, this.symm, rfl⟩)
  refine vcIf.yes (by first | (simp [hA.not, hA.eq, hA.lt, hA.le, hA.cond, hA.beq, hA.orb, hL.len, hL.slen, hL.sq, hlx, h2]; done) | (simp only [hlx, h2]; simp [hA.not, hA.eq, hA.lt, hA.le, hA.cond, hA.beq, hA.orb, hL.len, hL.slen, hL.sq, hlx, h2]; done) | (simp [hA.not, hA.eq, hA.lt, hA.le, hA.cond, hA.beq, hA.orb, hL.len, hL.slen, hL.sq, hlx, h2]; omega) | (simp only [hlx, h2]; simp [hA.not, hA.eq, hA.lt, hA.le, hA.cond, hA.beq, hA.orb, hL.len, hL.slen, hL.sq, hlx, h2]; omega)) ?_
  cbv
  by_cases h3 : N ≤ 24
  rotate_left
  · have : R = false := by rw [Bool.eq_false_iff]; exact fun c => h3 (hR2.1 c).2.2.1
    refine vcIf.no (by first | (simp [hA.not, hA.eq, hA.lt, hA.le, hA.cond, hA.beq, hA.orb, hL.len, hL.slen, hL.sq, hlz, h3]; done) | (simp only [hlz, h3]; simp [hA.not, hA.eq, hA.lt, hA.le, hA.cond, hA.beq, hA.orb, hL.len, hL.slen, hL.sq, hlz, h3]; done) | (simp [hA.not, hA.eq, hA.lt, hA.le, hA.cond, hA.beq, hA.orb, hL.len, hL.slen, hL.sq, hlz, h3]; omega) | (simp only [hlz, h3]; simp [hA.not, hA.eq, hA.lt, hA.le, hA.cond, hA.beq, hA.orb, hL.len, hL.slen, hL.sq, hlz, h3]; omega)) ?_
    cbv
    repeat (first | (refine vcIf.yes ?_ ?_; (focus (simp [hA.not, hA.eq, hA.lt, hA.le, hA.cond, hA.beq, hA.orb, hL.len, hL.slen, hL.sq]; done)); cbv) | (refine vcIf.no ?_ ?_; (focus (simp [hA.not, hA.eq, hA.lt, hA.le, hA.cond, hA.beq, hA.orb, hL.len, hL.slen, hL.sq]; done)); cbv) | fail)
    exact hret _ (RetEv.ret eOk rfl ⟨false, this.symm, rfl⟩)
  refine vcIf.yes (by first | (simp [hA.not, hA.eq, hA.lt, hA.le, hA.cond, hA.beq, hA.orb, hL.len, hL.slen, hL.sq, hlz, h3]; done) | (simp only [hlz, h3]; simp [hA.not, hA.eq, hA.lt, hA.le, hA.cond, hA.beq, hA.orb, hL.len, hL.slen, hL.sq, hlz, h3]; done) | (simp [hA.not, hA.eq, hA.lt, hA.le, hA.cond, hA.beq, hA.orb, hL.len, hL.slen, hL.sq, hlz, h3]; omega) | (simp only [hlz, h3]; simp [hA.not, hA.eq, hA.lt, hA.le, hA.cond, hA.beq, hA.orb, hL.len, hL.slen, hL.sq, hlz, h3]; omega)) ?_
  cbv
  refine hcall _ _ _ _ _ (CallEv.same hc rfl ?_)
  rintro _ _ ⟨e, he, rfl, rfl⟩
  cbv
  by_cases h4 : e = 0
  rotate_left
  · have : R = false := by rw [Bool.eq_false_iff]; exact fun c => h4 (he.trans (hR2.1 c).2.2.2.1)
    refine vcIf.no (by first | (simp [hA.not, hA.eq, hA.lt, hA.le, hA.cond, hA.beq, hA.orb, hL.len, hL.slen, hL.sq, h4]; done) | (simp only [h4]; simp [hA.not, hA.eq, hA.lt, hA.le, hA.cond, hA.beq, hA.orb, hL.len, hL.slen, hL.sq, h4]; done) | (simp [hA.not, hA.eq, hA.lt, hA.le, hA.cond, hA.beq, hA.orb, hL.len, hL.slen, hL.sq, h4]; omega) | (simp only [h4]; simp [hA.not, hA.eq, hA.lt, hA.le, hA.cond, hA.beq, hA.orb, hL.len, hL.slen, hL.sq, h4]; omega)) ?_
    cbv
    repeat (first | (refine vcIf.yes ?_ ?_; (focus (simp [hA.not, hA.eq, hA.lt, hA.le, hA.cond, hA.beq, hA.orb, hL.len, hL.slen, hL.sq]; done)); cbv) | (refine vcIf.no ?_ ?_; (focus (simp [hA.not, hA.eq, hA.lt, hA.le, hA.cond, hA.beq, hA.orb, hL.len, hL.slen, hL.sq]; done)); cbv) | fail)
    exact hret _ (RetEv.ret eOk rfl ⟨false, this.symm, rfl⟩)
  refine vcIf.yes (by first | (simp [hA.not, hA.eq, hA.lt, hA.le, hA.cond, hA.beq, hA.orb, hL.len, hL.slen, hL.sq, h4]; done) | (simp only [h4]; simp [hA.not, hA.eq, hA.lt, hA.le, hA.cond, hA.beq, hA.orb, hL.len, hL.slen, hL.sq, h4]; done) | (simp [hA.not, hA.eq, hA.lt, hA.le, hA.cond, hA.beq, hA.orb, hL.len, hL.slen, hL.sq, h4]; omega) | (simp only [h4]; simp [hA.not, hA.eq, hA.lt, hA.le, hA.cond, hA.beq, hA.orb, hL.len, hL.slen, hL.sq, h4]; omega)) ?_
  cbv
  refine hcall _ _ _ _ _ (CallEv.same hp rfl ?_)
  rintro _ _ ⟨b, hb, rfl, rfl⟩
  have hbR : (!b) = R := by
    rw [Bool.eq_iff_iff, hR2, hb, Bool.not_eq_true']
    exact ⟨fun h => ⟨h1, h2, h3, he.symm.trans h4, h⟩, fun h => h.2.2.2.2⟩
  cbv
  refine hret _ (RetEv.ret eOk rfl ⟨_, hbR, ?_⟩)
  show V.p (.bool (bcond true (bnot b) false)) = _
  rw [hA.cond, hA.not]; rfl
theorem frTxn_spec (s : Tx) (hs : s.fit) (xs zs : List PV) (hxs : xs = pP s.sp) (hzs : zs = cP s.ch) :
    FnL Tryz.prog 50 [.p (.agg [.int .i64 s.r, .sl xs, .sl zs])] [] fun v own => ∃ b, b = s.okB ∧ v = .p (.bool b) ∧ own = [] := frTxn_spec' s hs.2.2.1 hs.2.2.2 xs zs hxs hzs
end
section
open Go Go.Lx
open Go.Sx (vcIf)

theorem rTxn_spec' (s : Tx) (hs1 : s.sp.length < 9223372036854775807) (hs2 : s.ch.length < 9223372036854775807) (xs zs : List PV) (hxs : xs = pP s.sp) (hzs : zs = cP s.ch) :
    FnL Tryz.prog 75 [.p (.agg [.int .i64 s.r, .sl xs, .sl zs])] [] fun v own => ∃ b, b = s.okB ∧ v = .p (.bool b) ∧ own = [] := by
  refine FnL.flat (R := fun v own => ∃ b, b = s.okB ∧ v = .p (.bool b)) ?_ (by rintro _ _ ⟨b, h, rfl⟩; exact ⟨_, _, rfl, .refl _, b, h, rfl, rfl⟩)
  have hR2 := s.ok_iff
  obtain ⟨R, hR⟩ : ∃ R, R = s.okB := ⟨_, rfl⟩
  rw [← hR] at hR2 ⊢
  clear hR
  obtain ⟨r, sp, ch⟩ := s
  simp only at hs1 hs2 hxs hzs hR2 ⊢
  have hxl : xs.length = sp.length := by rw [hxs, pP_length]
  have hzl : zs.length = ch.length := by rw [hzs, cP_length]
  have hc := rall_spec ch hs2 zs hzs
  obtain ⟨N, hN⟩ : ∃ N, N = ch.length := ⟨_, rfl⟩
  obtain ⟨M, hM⟩ : ∃ M, M = sp.length := ⟨_, rfl⟩
  rw [← hN] at hzl hR2
  rw [← hM] at hxl hR2 hs1
  refine fn_of_vc eOk fOk fo75 Tryz.func75 rfl rfl rfl fun B hB => ?_
  intro add sub mul quo rem band bor bxor bclr shl shr ieq ilt ile seq slt beq bnot orb bcond iwrap iof ssz hA cat sq sl imin imax smin smax len slen u8 hL op hop call hcall code hcode ret hret
  have hlx : len xs = Int.ofNat M := by rw [hL.len, hxl]; rfl
  have hlz : len zs = Int.ofNat N := by rw [hL.len, hzl]; rfl
  cbv
  by_cases h1 : 0 ≤ r
  rotate_left
  · have : R = false := by rw [Bool.eq_false_iff]; exact fun c => h1 (hR2.1 c).1
    refine vcIf.yes (by first | (simp [hA.not, hA.eq, hA.lt, hA.le, hA.cond, hA.beq, hA.orb, hL.len, hL.slen, hL.sq, h1]; done) | (simp only [h1]; simp [hA.not, hA.eq, hA.lt, hA.le, hA.cond, hA.beq, hA.orb, hL.len, hL.slen, hL.sq, h1]; done) | (simp [hA.not, hA.eq, hA.lt, hA.le, hA.cond, hA.beq, hA.orb, hL.len, hL.slen, hL.sq, h1]; omega) | (simp only [h1]; simp [hA.not, hA.eq, hA.lt, hA.le, hA.cond, hA.beq, hA.orb, hL.len, hL.slen, hL.sq, h1]; omega)) ?_
    cbv
    repeat (first | (refine vcIf.yes ?_ ?_; (focus (simp [hA.not, hA.eq, hA.lt, hA.le, hA.cond, hA.beq, hA.orb, hL.len, hL.slen, hL.sq]; done)); cbv) | (refine vcIf.no ?_ ?_; (focus (simp [hA.not, hA.eq, hA.lt, hA.le, hA.cond, hA.beq, hA.orb, hL.len, hL.slen, hL.sq]; done)); cbv) | fail)
    exact hret _ (RetEv.ret eOk rfl ⟨false, this.symm, rfl⟩)
  refine vcIf.no (by first | (simp [hA.not, hA.eq, hA.lt, hA.le, hA.cond, hA.beq, hA.orb, hL.len, hL.slen, hL.sq, h1]; done) | (simp only [h1]; simp [hA.not, hA.eq, hA.lt, hA.le, hA.cond, hA.beq, hA.orb, hL.len, hL.slen, hL.sq, h1]; done) | (simp [hA.not, hA.eq, hA.lt, hA.le, hA.cond, hA.beq, hA.orb, hL.len, hL.slen, hL.sq, h1]; omega) | (simp only [h1]; simp [hA.not, hA.eq, hA.lt, hA.le, hA.cond, hA.beq, hA.orb, hL.len, hL.slen, hL.sq, h1]; omega)) ?_
  cbv
  by_cases h2 : M ≤ 24
  rotate_left
  · have : R = false := by rw [Bool.eq_false_iff]; exact fun c => h2 (hR2.1 c).2.1
    refine vcIf.yes (by first | (simp [hA.not, hA.eq, hA.lt, hA.le, hA.cond, hA.beq, hA.orb, hL.len, hL.slen, hL.sq, hlx, h2]; done) | (simp only [hlx, h2]; simp [hA.not, hA.eq, hA.lt, hA.le, hA.cond, hA.beq, hA.orb, hL.len, hL.slen, hL.sq, hlx, h2]; done) | (simp [hA.not, hA.eq, hA.lt, hA.le, hA.cond, hA.beq, hA.orb, hL.len, hL.slen, hL.sq, hlx, h2]; omega) | (simp only [hlx, h2]; simp [hA.not, hA.eq, hA.lt, hA.le, hA.cond, hA.beq, hA.orb, hL.len, hL.slen, hL.sq, hlx, h2]; omega)) ?_
    cbv
    repeat (first | (refine vcIf.yes ?_ ?_; (focus (simp [hA.not, hA.eq, hA.lt, hA.le, hA.cond, hA.beq, hA.orb, hL.len, hL.slen, hL.sq]; done)); cbv) | (refine vcIf.no ?_ ?_; (focus (simp [hA.not, hA.eq, hA.lt, hA.le, hA.cond, hA.beq, hA.orb, hL.len, hL.slen, hL.sq]; done)); cbv) | fail)
    exact hret _ (RetEv.ret eOk rfl ⟨false, this.symm, rfl⟩)
  refine vcIf.no (by first | (simp [hA.not, hA.eq, hA.lt, hA.le, hA.cond, hA.beq, hA.orb, hL.len, hL.slen, hL.sq, hlx, h2]; done) | (simp only [hlx, h2]; simp [hA.not, hA.eq, hA.lt, hA.le, hA.cond, hA.beq, hA.orb, hL.len, hL.slen, hL.sq, hlx, h2]; done) | (simp [hA.not, hA.eq, hA.lt, hA.le, hA.cond, hA.beq, hA.orb, hL.len, hL.slen, hL.sq, hlx, h2]; omega) | (simp only [hlx, h2]; simp [hA.not, hA.eq, hA.lt, hA.le, hA.cond, hA.beq, hA.orb, hL.len, hL.slen, hL.sq, hlx, h2]; omega)) ?_
  cbv
  by_cases h3 : N ≤ 24
  rotate_left
  · have : R = false := by rw [Bool.eq_false_iff]; exact fun c => h3 (hR2.1 c).2.2.1
    refine vcIf.yes (by first | (simp [hA.not, hA.eq, hA.lt, hA.le, hA.cond, hA.beq, hA.orb, hL.len, hL.slen, hL.sq, hlz, h3]; done) | (simp only [hlz, h3]; simp [hA.not, hA.eq, hA.lt, hA.le, hA.cond, hA.beq, hA.orb, hL.len, hL.slen, hL.sq, hlz, h3]; done) | (simp [hA.not, hA.eq, hA.lt, hA.le, hA.cond, hA.beq, hA.orb, hL.len, hL.slen, hL.sq, hlz, h3]; omega) | (simp only [hlz, h3]; simp [hA.not, hA.eq, hA.lt, hA.le, hA.cond, hA.beq, hA.orb, hL.len, hL.slen, hL.sq, hlz, h3]; omega)) ?_
    cbv
    repeat (first | (refine vcIf.yes ?_ ?_; (focus (simp [hA.not, hA.eq, hA.lt, hA.le, hA.cond, hA.beq, hA.orb, hL.len, hL.slen, hL.sq]; done)); cbv) | (refine vcIf.no ?_ ?_; (focus (simp [hA.not, hA.eq, hA.lt, hA.le, hA.cond, hA.beq, hA.orb, hL.len, hL.slen, hL.sq]; done)); cbv) | fail)
    exact hret _ (RetEv.ret eOk rfl ⟨false, this.symm, rfl⟩)
  refine vcIf.no (by first | (simp [hA.not, hA.eq, hA.lt, hA.le, hA.cond, hA.beq, hA.orb, hL.len, hL.slen, hL.sq, hlz, h3]; done) | (simp only [hlz, h3]; simp [hA.not, hA.eq, hA.lt, hA.le, hA.cond, hA.beq, hA.orb, hL.len, hL.slen, hL.sq, hlz, h3]; done) | (simp [hA.not, hA.eq, hA.lt, hA.le, hA.cond, hA.beq, hA.orb, hL.len, hL.slen, hL.sq, hlz, h3]; omega) | (simp only [hlz, h3]; simp [hA.not, hA.eq, hA.lt, hA.le, hA.cond, hA.beq, hA.orb, hL.len, hL.slen, hL.sq, hlz, h3]; omega)) ?_
  cbv
  refine hcall _ _ _ _ _ (CallEv.same hc rfl ?_)
  rintro _ _ ⟨e, he, rfl, rfl⟩
  cbv
  by_cases h4 : e = 0
  rotate_left
  · have : R = false := by rw [Bool.eq_false_iff]; exact fun c => h4 (he.trans (hR2.1 c).2.2.2.1)
    refine vcIf.yes (by first | (simp [hA.not, hA.eq, hA.lt, hA.le, hA.cond, hA.beq, hA.orb, hL.len, hL.slen, hL.sq, h4]; done) | (simp only [h4]; simp [hA.not, hA.eq, hA.lt, hA.le, hA.cond, hA.beq, hA.orb, hL.len, hL.slen, hL.sq, h4]; done) | (simp [hA.not, hA.eq, hA.lt, hA.le, hA.cond, hA.beq, hA.orb, hL.len, hL.slen, hL.sq, h4]; omega) | (simp only [h4]; simp [hA.not, hA.eq, hA.lt, hA.le, hA.cond, hA.beq, hA.orb, hL.len, hL.slen, hL.sq, h4]; omega)) ?_
    cbv
    repeat (first | (refine vcIf.yes ?_ ?_; (focus (simp [hA.not, hA.eq, hA.lt, hA.le, hA.cond, hA.beq, hA.orb, hL.len, hL.slen, hL.sq]; done)); cbv) | (refine vcIf.no ?_ ?_; (focus (simp [hA.not, hA.eq, hA.lt, hA.le, hA.cond, hA.beq, hA.orb, hL.len, hL.slen, hL.sq]; done)); cbv) | fail)
    exact hret _ (RetEv.ret eOk rfl ⟨false, this.symm, rfl⟩)
  refine vcIf.no (by first | (simp [hA.not, hA.eq, hA.lt, hA.le, hA.cond, hA.beq, hA.orb, hL.len, hL.slen, hL.sq, h4]; done) | (simp only [h4]; simp [hA.not, hA.eq, hA.lt, hA.le, hA.cond, hA.beq, hA.orb, hL.len, hL.slen, hL.sq, h4]; done) | (simp [hA.not, hA.eq, hA.lt, hA.le, hA.cond, hA.beq, hA.orb, hL.len, hL.slen, hL.sq, h4]; omega) | (simp only [h4]; simp [hA.not, hA.eq, hA.lt, hA.le, hA.cond, hA.beq, hA.orb, hL.len, hL.slen, hL.sq, h4]; omega)) ?_
  cbv
  refine hcode _ _ _ (CodeEv.loop eOk fOk (ι := Nat) (fun s => [(1, .own 0 0), (3, .p (.int .i64 (Int.ofNat s)))])
    (fun s => [.st 74 [.p (.int .i64 r), .p (.sl xs), .p (.sl zs)]]) (fun s => s ≤ M ∧ (sp.take s).any Spn.bad = false) (fun s => M - s) 0 ?_ ?_)
  · exact ⟨(by repeat (first | exact trivial | refine And.intro rfl ?_)), rfl, Nat.zero_le _, rfl⟩
  rintro i ⟨k1, k2⟩ rd hrd
  intro add1 sub1 mul1 quo1 rem1 band1 bor1 bxor1 bclr1 shl1 shr1 ieq1 ilt1 ile1 seq1 slt1 beq1 bnot1 orb1 bcond1 iwrap1 iof1 ssz1 hA1 cat1 sq1 sl1 imin1 imax1 smin1 smax1 len1 slen1 u81 hL1 op1 hop1 call1 hcall1 code1 hcode1
  have hlx1 : len1 xs = Int.ofNat M := by rw [hL1.len, hxl]; rfl
  have hadd1 : i < M → add1 .i64 (Int.ofNat i) 1 = Int.ofNat (i + 1) := fun _ => by rw [hA1.add, IntWalk.i64_in _ (by simp only [Int.ofNat_eq_natCast]; omega)]; rfl
  cbv
  by_cases hi : i < M
  · obtain ⟨c, hc⟩ := get_of_lt (show i < sp.length by omega)
    have hzz : xs[i]? = some (.agg [.str c.lo, .str c.hi]) := by rw [hxs]; exact pP_get hc
    have htk : sp.take (i + 1) = sp.take i ++ [c] := by rw [List.take_add_one, hc]; rfl
    have hcb : c.bad = true → false = R := fun h => by
      cases R with
      | false => rfl
      | true => have := List.any_eq_false.1 (hR2.1 rfl).2.2.2.2 c (List.mem_of_getElem? hc); exact absurd h this
    have hcg : c.bad = false → (sp.take (i + 1)).any Spn.bad = false := fun h => by rw [htk, List.any_append, k2]; simp [h]
    have hbad : c.bad = true ↔ (17 < c.lo.length ∨ 17 < c.hi.length ∨ Op.bytesLess c.hi c.lo = true) := by unfold Spn.bad; rw [decide_eq_true_eq]
    obtain ⟨C, hC⟩ : ∃ C, C = c.bad := ⟨_, rfl⟩
    rw [← hC] at hcb hcg hbad
    clear hC htk hc
    obtain ⟨lo, hi'⟩ := c
    simp only at hzz hbad
    obtain ⟨kn, hkn⟩ : ∃ n, n = lo.length := ⟨_, rfl⟩
    obtain ⟨vn, hvn⟩ : ∃ n, n = hi'.length := ⟨_, rfl⟩
    rw [← hkn, ← hvn] at hbad
    refine vcIf.yes (by first | (simp [hA1.not, hA1.eq, hA1.lt, hA1.le, hA1.cond, hA1.beq, hA1.orb, hL1.len, hL1.slen, hL1.sq, hi, hlx1]; done) | (simp only [hi, hlx1]; simp [hA1.not, hA1.eq, hA1.lt, hA1.le, hA1.cond, hA1.beq, hA1.orb, hL1.len, hL1.slen, hL1.sq, hi, hlx1]; done) | (simp [hA1.not, hA1.eq, hA1.lt, hA1.le, hA1.cond, hA1.beq, hA1.orb, hL1.len, hL1.slen, hL1.sq, hi, hlx1]; omega) | (simp only [hi, hlx1]; simp [hA1.not, hA1.eq, hA1.lt, hA1.le, hA1.cond, hA1.beq, hA1.orb, hL1.len, hL1.slen, hL1.sq, hi, hlx1]; omega)) ?_
    cbv
    refine hcode1 _ _ _ (CodeEv.drawT eOk fOk (by kernel_rfl) noX (.rd 0 (.rd 1 (.so 2 (.so 3 (.so 4 (.so 5 (.so 6 (.so 7 (.so 8 (.rd 9 (.rd 10 (.so 11 (.so 12 (.so 13 (.so 14 (.so 15 (.so 16 (.so 17 (.so 18 (.rd 19 (.rd 20 (.rd 21 (.rd 22 (.rd 23 (.rd 24 (.rd 25 (.rd 26 (.so 27 (.so 28 (.so 29 (.so 30 (.so 31 (.so 32 (.done)))))))))))))))))))))))))))))))))) (by kernel_rfl) (by kernel_rfl) ?_)
    intro add2 sub2 mul2 quo2 rem2 band2 bor2 bxor2 bclr2 shl2 shr2 ieq2 ilt2 ile2 seq2 slt2 beq2 bnot2 orb2 bcond2 iwrap2 iof2 ssz2 hA2 cat2 sq2 sl2 imin2 imax2 smin2 smax2 len2 slen2 u82 hL2 op2 hop2 call2 hcall2 code2 hcode2 q2 hq2
    have hk2 : slen2 lo = Int.ofNat kn := by rw [hL2.slen, hkn]; rfl
    have hv2 : slen2 hi' = Int.ofNat vn := by rw [hL2.slen, hvn]; rfl
    cbv
    refine ⟨i, _, rfl, hzz, rfl, ?_⟩
    cbv
    by_cases c1 : 17 < kn
    · refine vcIf.yes (by first | (simp [hA2.not, hA2.eq, hA2.lt, hA2.le, hA2.cond, hA2.beq, hA2.orb, hL2.len, hL2.slen, hL2.sq, hk2, c1]; done) | (simp only [hk2, c1]; simp [hA2.not, hA2.eq, hA2.lt, hA2.le, hA2.cond, hA2.beq, hA2.orb, hL2.len, hL2.slen, hL2.sq, hk2, c1]; done) | (simp [hA2.not, hA2.eq, hA2.lt, hA2.le, hA2.cond, hA2.beq, hA2.orb, hL2.len, hL2.slen, hL2.sq, hk2, c1]; omega) | (simp only [hk2, c1]; simp [hA2.not, hA2.eq, hA2.lt, hA2.le, hA2.cond, hA2.beq, hA2.orb, hL2.len, hL2.slen, hL2.sq, hk2, c1]; omega)) ?_
      cbv
      repeat (first | (refine vcIf.yes ?_ ?_; (focus (simp [hA2.not, hA2.eq, hA2.lt, hA2.le, hA2.cond, hA2.beq, hA2.orb, hL2.len, hL2.slen, hL2.sq]; done)); cbv) | (refine vcIf.no ?_ ?_; (focus (simp [hA2.not, hA2.eq, hA2.lt, hA2.le, hA2.cond, hA2.beq, hA2.orb, hL2.len, hL2.slen, hL2.sq]; done)); cbv) | fail)
      refine hq2 _ ?_
      cbv
      repeat (first | (refine vcIf.yes ?_ ?_; (focus (simp [hA1.not, hA1.eq, hA1.lt, hA1.le, hA1.cond, hA1.beq, hA1.orb, hL1.len, hL1.slen, hL1.sq]; done)); cbv) | (refine vcIf.no ?_ ?_; (focus (simp [hA1.not, hA1.eq, hA1.lt, hA1.le, hA1.cond, hA1.beq, hA1.orb, hL1.len, hL1.slen, hL1.sq]; done)); cbv) | fail)
      exact hret _ (RetEv.ret eOk rfl ⟨false, hcb (hbad.2 (.inl c1)), rfl⟩)
    refine vcIf.no (by first | (simp [hA2.not, hA2.eq, hA2.lt, hA2.le, hA2.cond, hA2.beq, hA2.orb, hL2.len, hL2.slen, hL2.sq, hk2, c1]; done) | (simp only [hk2, c1]; simp [hA2.not, hA2.eq, hA2.lt, hA2.le, hA2.cond, hA2.beq, hA2.orb, hL2.len, hL2.slen, hL2.sq, hk2, c1]; done) | (simp [hA2.not, hA2.eq, hA2.lt, hA2.le, hA2.cond, hA2.beq, hA2.orb, hL2.len, hL2.slen, hL2.sq, hk2, c1]; omega) | (simp only [hk2, c1]; simp [hA2.not, hA2.eq, hA2.lt, hA2.le, hA2.cond, hA2.beq, hA2.orb, hL2.len, hL2.slen, hL2.sq, hk2, c1]; omega)) ?_
    cbv
    refine ⟨i, _, rfl, hzz, rfl, ?_⟩
    cbv
    by_cases c2 : 17 < vn
    · refine vcIf.yes (by first | (simp [hA2.not, hA2.eq, hA2.lt, hA2.le, hA2.cond, hA2.beq, hA2.orb, hL2.len, hL2.slen, hL2.sq, hv2, c2]; done) | (simp only [hv2, c2]; simp [hA2.not, hA2.eq, hA2.lt, hA2.le, hA2.cond, hA2.beq, hA2.orb, hL2.len, hL2.slen, hL2.sq, hv2, c2]; done) | (simp [hA2.not, hA2.eq, hA2.lt, hA2.le, hA2.cond, hA2.beq, hA2.orb, hL2.len, hL2.slen, hL2.sq, hv2, c2]; omega) | (simp only [hv2, c2]; simp [hA2.not, hA2.eq, hA2.lt, hA2.le, hA2.cond, hA2.beq, hA2.orb, hL2.len, hL2.slen, hL2.sq, hv2, c2]; omega)) ?_
      cbv
      repeat (first | (refine vcIf.yes ?_ ?_; (focus (simp [hA2.not, hA2.eq, hA2.lt, hA2.le, hA2.cond, hA2.beq, hA2.orb, hL2.len, hL2.slen, hL2.sq]; done)); cbv) | (refine vcIf.no ?_ ?_; (focus (simp [hA2.not, hA2.eq, hA2.lt, hA2.le, hA2.cond, hA2.beq, hA2.orb, hL2.len, hL2.slen, hL2.sq]; done)); cbv) | fail)
      refine hq2 _ ?_
      cbv
      repeat (first | (refine vcIf.yes ?_ ?_; (focus (simp [hA1.not, hA1.eq, hA1.lt, hA1.le, hA1.cond, hA1.beq, hA1.orb, hL1.len, hL1.slen, hL1.sq]; done)); cbv) | (refine vcIf.no ?_ ?_; (focus (simp [hA1.not, hA1.eq, hA1.lt, hA1.le, hA1.cond, hA1.beq, hA1.orb, hL1.len, hL1.slen, hL1.sq]; done)); cbv) | fail)
      exact hret _ (RetEv.ret eOk rfl ⟨false, hcb (hbad.2 (.inr (.inl c2))), rfl⟩)
    refine vcIf.no (by first | (simp [hA2.not, hA2.eq, hA2.lt, hA2.le, hA2.cond, hA2.beq, hA2.orb, hL2.len, hL2.slen, hL2.sq, hv2, c2]; done) | (simp only [hv2, c2]; simp [hA2.not, hA2.eq, hA2.lt, hA2.le, hA2.cond, hA2.beq, hA2.orb, hL2.len, hL2.slen, hL2.sq, hv2, c2]; done) | (simp [hA2.not, hA2.eq, hA2.lt, hA2.le, hA2.cond, hA2.beq, hA2.orb, hL2.len, hL2.slen, hL2.sq, hv2, c2]; omega) | (simp only [hv2, c2]; simp [hA2.not, hA2.eq, hA2.lt, hA2.le, hA2.cond, hA2.beq, hA2.orb, hL2.len, hL2.slen, hL2.sq, hv2, c2]; omega)) ?_
    cbv
    refine ⟨i, _, rfl, hzz, rfl, ?_⟩
    cbv
    refine ⟨i, _, rfl, hzz, rfl, ?_⟩
    cbv
    refine hq2 _ ?_
    cbv
    have hev : bcond2 false true (bnot2 (orb2 (sl2 lo hi') (sq2 lo hi'))) = Op.bytesLess hi' lo := by
      rw [hA2.cond, hA2.not, hA2.orb, hL2.sl, hL2.sq]
      exact bl_gt lo hi'
    by_cases c3 : Op.bytesLess hi' lo = true
    · refine vcIf.yes (hev.trans c3) ?_
      cbv
      exact hret _ (RetEv.ret eOk rfl ⟨false, hcb (hbad.2 (.inr (.inr c3))), rfl⟩)
    refine vcIf.no (hev.trans (by simpa using c3)) ?_
    cbv
    refine hrd _ ⟨i + 1, [], ?_, ⟨hi, ?_⟩, rfl, ⟨rfl, ?_, trivial⟩, rfl, rfl, rfl, ?_⟩
    · show M - (i + 1) < M - i
      omega
    · refine hcg (Bool.eq_false_iff.2 fun h => ?_)
      rcases hbad.1 h with h | h | h
      · exact c1 h
      · exact c2 h
      · exact c3 h
    · show some (V.p (.int .i64 _)) = _
      rw [hadd1 hi]
    · rw [hB]; exact Nat.zero_le _
  · refine vcIf.no (by first | (simp [hA1.not, hA1.eq, hA1.lt, hA1.le, hA1.cond, hA1.beq, hA1.orb, hL1.len, hL1.slen, hL1.sq, hi, hlx1]; done) | (simp only [hi, hlx1]; simp [hA1.not, hA1.eq, hA1.lt, hA1.le, hA1.cond, hA1.beq, hA1.orb, hL1.len, hL1.slen, hL1.sq, hi, hlx1]; done) | (simp [hA1.not, hA1.eq, hA1.lt, hA1.le, hA1.cond, hA1.beq, hA1.orb, hL1.len, hL1.slen, hL1.sq, hi, hlx1]; omega) | (simp only [hi, hlx1]; simp [hA1.not, hA1.eq, hA1.lt, hA1.le, hA1.cond, hA1.beq, hA1.orb, hL1.len, hL1.slen, hL1.sq, hi, hlx1]; omega)) ?_
    cbv
    rw [List.take_of_length_le (by omega)] at k2
    exact hret _ (RetEv.ret eOk rfl ⟨true, (hR2.2 ⟨h1, h2, h3, he.symm.trans h4, k2⟩).symm, rfl⟩)
theorem rTxn_spec (s : Tx) (hs : s.fit) (xs zs : List PV) (hxs : xs = pP s.sp) (hzs : zs = cP s.ch) :
    FnL Tryz.prog 75 [.p (.agg [.int .i64 s.r, .sl xs, .sl zs])] [] fun v own => ∃ b, b = s.okB ∧ v = .p (.bool b) ∧ own = [] := rTxn_spec' s hs.2.2.1 hs.2.2.2 xs zs hxs hzs
end
section
open Go Go.Lx
open Go.Sx (vcIf)

def smx (a b : List UInt8) : List UInt8 := if Op.bytesLess a b then b else a
def smn (a b : List UInt8) : List UInt8 := if Op.bytesLess b a then b else a
theorem smn_eq (a b : List UInt8) : (if Op.bytesLess a b || decide (a = b) then a else b) = smn a b := by
  have := bl_gt a b
  unfold smn
  rw [← show (!(Op.bytesLess a b || decide (a = b))) = Op.bytesLess b a from this]
  by_cases h : (Op.bytesLess a b || decide (a = b)) = true <;> simp [h]
theorem gt2 (a c : List UInt8) : (!(Op.bytesLess c a || decide (c = a))) = Op.bytesLess a c := bl_gt c a
def mt (s t : Spn) : Spn := if Op.bytesLess (smx s.lo t.lo) (smn s.hi t.hi) then ⟨smx s.lo t.lo, smn s.hi t.hi⟩ else ⟨[], []⟩
def spn (c : Chg) : Spn := if c.kind = 3 then ⟨c.key, c.val⟩ else ⟨c.key, c.key ++ [0]⟩
def hs (s : Spn) (k : List UInt8) : Bool := !(bl k s.lo) && bl k s.hi

theorem empty_spec (lo hi : List UInt8) : FnL Tryz.prog 22 [.p (.agg [.str lo, .str hi])] [] fun v own => ∃ b, b = !(Op.bytesLess lo hi) ∧ v = .p (.bool b) ∧ own = [] := by
  refine FnL.flat (R := fun v own => ∃ b, b = !(Op.bytesLess lo hi) ∧ v = .p (.bool b)) ?_ (by rintro _ _ ⟨b, h, rfl⟩; exact ⟨_, _, rfl, .refl _, b, h, rfl, rfl⟩)
  refine fn_of_vc eOk fOk fo22 Tryz.func22 rfl rfl rfl fun B hB => ?_
  intro add sub mul quo rem band bor bxor bclr shl shr ieq ilt ile seq slt beq bnot orb bcond iwrap iof ssz hA cat sq sl imin imax smin smax len slen u8 hL op hop call hcall code hcode ret hret
  cbv
  refine hret _ (RetEv.ret eOk rfl ⟨_, ?_, rfl⟩)
  show bnot (sl lo hi) = _
  rw [hA.not, hL.sl]
theorem has_spec (lo hi key : List UInt8) : FnL Tryz.prog 79 [.p (.agg [.str lo, .str hi]), .p (.str key)] [] fun v own => ∃ b, b = hs ⟨lo, hi⟩ key ∧ v = .p (.bool b) ∧ own = [] := by
  obtain ⟨R, hR⟩ : ∃ R, R = hs ⟨lo, hi⟩ key := ⟨_, rfl⟩
  rw [← hR]
  unfold hs at hR
  simp only at hR
  refine FnL.flat (R := fun v own => ∃ b, b = R ∧ v = .p (.bool b)) ?_ (by rintro _ _ ⟨b, h, rfl⟩; exact ⟨_, _, rfl, .refl _, b, h, rfl, rfl⟩)
  refine fn_of_vc eOk fOk fo79 Tryz.func79 rfl rfl rfl fun B hB => ?_
  intro add sub mul quo rem band bor bxor bclr shl shr ieq ilt ile seq slt beq bnot orb bcond iwrap iof ssz hA cat sq sl imin imax smin smax len slen u8 hL op hop call hcall code hcode ret hret
  cbv
  by_cases h : Op.bytesLess key lo = true
  · have hf : R = false := by rw [hR, h]; rfl
    refine vcIf.no (by rw [hA.not, hL.sl, h]; rfl) ?_
    cbv
    exact hret _ (RetEv.ret eOk rfl ⟨false, hf.symm, rfl⟩)
  · have h := Bool.eq_false_iff.2 h
    have hf : R = Op.bytesLess key hi := by rw [hR, h]; rfl
    refine vcIf.yes (by rw [hA.not, hL.sl, h]; rfl) ?_
    cbv
    refine hret _ (RetEv.ret eOk rfl ⟨_, ?_, rfl⟩)
    show bcond true (sl key hi) false = _
    rw [hA.cond, hL.sl, hf]; rfl
theorem next_spec (key : List UInt8) (hk : key.length < 9223372036854775807) : FnL Tryz.prog 70 [.p (.str key)] [] fun v own => ∃ k, k = key ++ [0] ∧ v = .p (.str k) ∧ own = [] := by
  refine FnL.flat (R := fun v own => ∃ k, k = key ++ [0] ∧ v = .p (.str k)) ?_ (by rintro _ _ ⟨b, h, rfl⟩; exact ⟨_, _, rfl, .refl _, b, h, rfl, rfl⟩)
  obtain ⟨n, hn⟩ : ∃ n, n = key.length := ⟨_, rfl⟩
  have hn1 : n + 1 ≤ 9223372036854775807 := by omega
  refine fn_of_vc eOk fOk fo70 Tryz.func70 rfl rfl rfl fun B hB => ?_
  intro add sub mul quo rem band bor bxor bclr shl shr ieq ilt ile seq slt beq bnot orb bcond iwrap iof ssz hA cat sq sl imin imax smin smax len slen u8 hL op hop call hcall code hcode ret hret
  cbv
  refine ⟨(), by rw [← hn]; exact hn1, ?_⟩
  cbv
  refine hret _ (RetEv.ret eOk rfl ⟨_, ?_, rfl⟩)
  exact hL.cat _ _

theorem meet_spec (a b c d : List UInt8) : FnL Tryz.prog 23 [.p (.agg [.str a, .str b]), .p (.agg [.str c, .str d])] [] fun v own => ∃ m, m = mt ⟨a, b⟩ ⟨c, d⟩ ∧ v = .p (.agg [.str m.lo, .str m.hi]) ∧ own = [] := by
  obtain ⟨⟨lo, hi⟩, hm⟩ : ∃ m, m = mt ⟨a, b⟩ ⟨c, d⟩ := ⟨_, rfl⟩
  rw [← hm]
  unfold mt at hm
  simp only at hm
  have h1 : Op.bytesLess (smx a c) (smn b d) = true → lo = smx a c ∧ hi = smn b d := fun h => by rw [if_pos h] at hm; exact Spn.mk.inj hm
  have h2 : ¬ Op.bytesLess (smx a c) (smn b d) = true → lo = [] ∧ hi = [] := fun h => by rw [if_neg h] at hm; exact Spn.mk.inj hm
  clear hm
  refine FnL.flat (R := fun v own => v = .p (.agg [.str lo, .str hi])) ?_ (by rintro _ _ rfl; exact ⟨_, _, rfl, .refl _, ⟨lo, hi⟩, rfl, rfl, rfl⟩)
  refine fn_of_vc eOk fOk fo23 Tryz.func23 rfl rfl rfl fun B hB => ?_
  intro add sub mul quo rem band bor bxor bclr shl shr ieq ilt ile seq slt beq bnot orb bcond iwrap iof ssz hA cat sq sl imin imax smin smax len slen u8 hL op hop call hcall code hcode ret hret
  have e1 : smax a c = smx a c := hL.smax a c
  have e2 : smin b d = smn b d := (hL.smin b d).trans (smn_eq b d)
  cbv
  refine hcall _ _ _ _ _ (CallEv.same (empty_spec (smax a c) (smin b d)) rfl ?_)
  rintro _ _ ⟨t, ht, rfl, rfl⟩
  rw [e1, e2] at ht
  cbv
  by_cases htt : t = true
  · obtain ⟨g1, g2⟩ := h2 (by rw [htt] at ht; intro c; rw [c] at ht; cases ht)
    refine vcIf.yes htt ?_
    cbv
    exact hret _ (RetEv.ret eOk rfl (by rw [g1, g2]; rfl))
  · have htt := Bool.eq_false_iff.2 htt
    obtain ⟨g1, g2⟩ := h1 (by rw [htt] at ht; simpa using ht.symm)
    refine vcIf.no htt ?_
    cbv
    exact hret _ (RetEv.ret eOk rfl (by rw [g1, g2, ← e1, ← e2]; rfl))
theorem rmeet_spec (a b c d : List UInt8) : FnL Tryz.prog 64 [.p (.agg [.str a, .str b]), .p (.agg [.str c, .str d])] [] fun v own => ∃ m, m = mt ⟨a, b⟩ ⟨c, d⟩ ∧ v = .p (.agg [.str m.lo, .str m.hi]) ∧ own = [] := by
  obtain ⟨⟨lo, hi⟩, hm⟩ : ∃ m, m = mt ⟨a, b⟩ ⟨c, d⟩ := ⟨_, rfl⟩
  rw [← hm]
  unfold mt at hm
  simp only at hm
  refine FnL.flat (R := fun v own => v = .p (.agg [.str lo, .str hi])) ?_ (by rintro _ _ rfl; exact ⟨_, _, rfl, .refl _, ⟨lo, hi⟩, rfl, rfl, rfl⟩)
  refine fn_of_vc eOk fOk fo64 Tryz.func64 rfl rfl rfl fun B hB => ?_
  by_cases h1 : Op.bytesLess a c = true
  · have q1 : smx a c = c := if_pos h1
    rw [q1] at hm
    by_cases h2 : Op.bytesLess d b = true
    · have q2 : smn b d = d := if_pos h2
      rw [q2] at hm
      intro add sub mul quo rem band bor bxor bclr shl shr ieq ilt ile seq slt beq bnot orb bcond iwrap iof ssz hA cat sq sl imin imax smin smax len slen u8 hL op hop call hcall code hcode ret hret
      cbv
      refine vcIf.yes (by rw [hA.not, hA.orb, hL.sl, hL.sq, gt2]; exact h1) ?_
      cbv
      refine vcIf.yes (by rw [hL.sl]; exact h2) ?_
      cbv
      by_cases h3 : Op.bytesLess c d = true
      · rw [if_pos h3] at hm
        obtain ⟨g1, g2⟩ := Spn.mk.inj hm
        refine vcIf.no (by rw [hA.not, hL.sl, h3]; rfl) ?_
        cbv
        exact hret _ (RetEv.ret eOk rfl (by rw [g1, g2]; rfl))
      · rw [if_neg h3] at hm
        obtain ⟨g1, g2⟩ := Spn.mk.inj hm
        have h3 := Bool.eq_false_iff.2 h3
        refine vcIf.yes (by rw [hA.not, hL.sl, h3]; rfl) ?_
        cbv
        exact hret _ (RetEv.ret eOk rfl (by rw [g1, g2]; rfl))
    · have q2 : smn b d = b := if_neg h2
      rw [q2] at hm
      have h2 := Bool.eq_false_iff.2 h2
      intro add sub mul quo rem band bor bxor bclr shl shr ieq ilt ile seq slt beq bnot orb bcond iwrap iof ssz hA cat sq sl imin imax smin smax len slen u8 hL op hop call hcall code hcode ret hret
      cbv
      refine vcIf.yes (by rw [hA.not, hA.orb, hL.sl, hL.sq, gt2]; exact h1) ?_
      cbv
      refine vcIf.no (by rw [hL.sl]; exact h2) ?_
      cbv
      by_cases h3 : Op.bytesLess c b = true
      · rw [if_pos h3] at hm
        obtain ⟨g1, g2⟩ := Spn.mk.inj hm
        refine vcIf.no (by rw [hA.not, hL.sl, h3]; rfl) ?_
        cbv
        exact hret _ (RetEv.ret eOk rfl (by rw [g1, g2]; rfl))
      · rw [if_neg h3] at hm
        obtain ⟨g1, g2⟩ := Spn.mk.inj hm
        have h3 := Bool.eq_false_iff.2 h3
        refine vcIf.yes (by rw [hA.not, hL.sl, h3]; rfl) ?_
        cbv
        exact hret _ (RetEv.ret eOk rfl (by rw [g1, g2]; rfl))
  · have q1 : smx a c = a := if_neg h1
    rw [q1] at hm
    have h1 := Bool.eq_false_iff.2 h1
    by_cases h2 : Op.bytesLess d b = true
    · have q2 : smn b d = d := if_pos h2
      rw [q2] at hm
      intro add sub mul quo rem band bor bxor bclr shl shr ieq ilt ile seq slt beq bnot orb bcond iwrap iof ssz hA cat sq sl imin imax smin smax len slen u8 hL op hop call hcall code hcode ret hret
      cbv
      refine vcIf.no (by rw [hA.not, hA.orb, hL.sl, hL.sq, gt2]; exact h1) ?_
      cbv
      refine vcIf.yes (by rw [hL.sl]; exact h2) ?_
      cbv
      by_cases h3 : Op.bytesLess a d = true
      · rw [if_pos h3] at hm
        obtain ⟨g1, g2⟩ := Spn.mk.inj hm
        refine vcIf.no (by rw [hA.not, hL.sl, h3]; rfl) ?_
        cbv
        exact hret _ (RetEv.ret eOk rfl (by rw [g1, g2]; rfl))
      · rw [if_neg h3] at hm
        obtain ⟨g1, g2⟩ := Spn.mk.inj hm
        have h3 := Bool.eq_false_iff.2 h3
        refine vcIf.yes (by rw [hA.not, hL.sl, h3]; rfl) ?_
        cbv
        exact hret _ (RetEv.ret eOk rfl (by rw [g1, g2]; rfl))
    · have q2 : smn b d = b := if_neg h2
      rw [q2] at hm
      have h2 := Bool.eq_false_iff.2 h2
      intro add sub mul quo rem band bor bxor bclr shl shr ieq ilt ile seq slt beq bnot orb bcond iwrap iof ssz hA cat sq sl imin imax smin smax len slen u8 hL op hop call hcall code hcode ret hret
      cbv
      refine vcIf.no (by rw [hA.not, hA.orb, hL.sl, hL.sq, gt2]; exact h1) ?_
      cbv
      refine vcIf.no (by rw [hL.sl]; exact h2) ?_
      cbv
      by_cases h3 : Op.bytesLess a b = true
      · rw [if_pos h3] at hm
        obtain ⟨g1, g2⟩ := Spn.mk.inj hm
        refine vcIf.no (by rw [hA.not, hL.sl, h3]; rfl) ?_
        cbv
        exact hret _ (RetEv.ret eOk rfl (by rw [g1, g2]; rfl))
      · rw [if_neg h3] at hm
        obtain ⟨g1, g2⟩ := Spn.mk.inj hm
        have h3 := Bool.eq_false_iff.2 h3
        refine vcIf.yes (by rw [hA.not, hL.sl, h3]; rfl) ?_
        cbv
        exact hret _ (RetEv.ret eOk rfl (by rw [g1, g2]; rfl))
end
section
open Go Go.Lx
open Go.Sx (vcIf)

theorem chSpan_spec (k : Int) (ky vl : List UInt8) (hk : ky.length < 140737488355328) : FnL Tryz.prog 78 [.p (.agg [.int .i64 k, .str ky, .str vl])] [] fun v own => ∃ m, m = spn ⟨k, ky, vl⟩ ∧ v = .p (.agg [.str m.lo, .str m.hi]) ∧ own = [] := by
  obtain ⟨⟨lo, hi⟩, hm⟩ : ∃ m, m = spn ⟨k, ky, vl⟩ := ⟨_, rfl⟩
  rw [← hm]
  unfold spn at hm
  simp only at hm
  refine FnL.flat (R := fun v own => v = .p (.agg [.str lo, .str hi])) ?_ (by rintro _ _ rfl; exact ⟨_, _, rfl, .refl _, ⟨lo, hi⟩, rfl, rfl, rfl⟩)
  have hnx := next_spec ky (by omega)
  refine fn_of_vc eOk fOk fo78 Tryz.func78 rfl rfl rfl fun B hB => ?_
  by_cases h3 : k = 3
  · rw [if_pos h3] at hm
    obtain ⟨g1, g2⟩ := Spn.mk.inj hm
    intro add sub mul quo rem band bor bxor bclr shl shr ieq ilt ile seq slt beq bnot orb bcond iwrap iof ssz hA cat sq sl imin imax smin smax len slen u8 hL op hop call hcall code hcode ret hret
    cbv
    refine vcIf.yes (by first | (simp [hA.not, hA.eq, hA.lt, hA.le, hA.cond, hA.beq, hA.orb, hL.len, hL.slen, hL.sq, h3]; done) | (simp only [h3]; simp [hA.not, hA.eq, hA.lt, hA.le, hA.cond, hA.beq, hA.orb, hL.len, hL.slen, hL.sq, h3]; done) | (simp [hA.not, hA.eq, hA.lt, hA.le, hA.cond, hA.beq, hA.orb, hL.len, hL.slen, hL.sq, h3]; omega) | (simp only [h3]; simp [hA.not, hA.eq, hA.lt, hA.le, hA.cond, hA.beq, hA.orb, hL.len, hL.slen, hL.sq, h3]; omega)) ?_
    cbv
    exact hret _ (RetEv.ret eOk rfl (by rw [g1, g2]; rfl))
  · rw [if_neg h3] at hm
    obtain ⟨g1, g2⟩ := Spn.mk.inj hm
    intro add sub mul quo rem band bor bxor bclr shl shr ieq ilt ile seq slt beq bnot orb bcond iwrap iof ssz hA cat sq sl imin imax smin smax len slen u8 hL op hop call hcall code hcode ret hret
    cbv
    refine vcIf.no (by first | (simp [hA.not, hA.eq, hA.lt, hA.le, hA.cond, hA.beq, hA.orb, hL.len, hL.slen, hL.sq, h3]; done) | (simp only [h3]; simp [hA.not, hA.eq, hA.lt, hA.le, hA.cond, hA.beq, hA.orb, hL.len, hL.slen, hL.sq, h3]; done) | (simp [hA.not, hA.eq, hA.lt, hA.le, hA.cond, hA.beq, hA.orb, hL.len, hL.slen, hL.sq, h3]; omega) | (simp only [h3]; simp [hA.not, hA.eq, hA.lt, hA.le, hA.cond, hA.beq, hA.orb, hL.len, hL.slen, hL.sq, h3]; omega)) ?_
    cbv
    refine hcode _ _ _ (CodeEv.drawA eOk fOk (by kernel_rfl) (Xof 1 [1]) (by kernel_rfl) (by kernel_rfl) (by kernel_rfl) ?_)
    intro add1 sub1 mul1 quo1 rem1 band1 bor1 bxor1 bclr1 shl1 shr1 ieq1 ilt1 ile1 seq1 slt1 beq1 bnot1 orb1 bcond1 iwrap1 iof1 ssz1 hA1 cat1 sq1 sl1 imin1 imax1 smin1 smax1 len1 slen1 u81 hL1 op1 hop1 call1 hcall1 code1 hcode1 q1 hq1
    cbv
    refine hcall1 _ _ _ _ _ (CallEv.same hnx rfl ?_)
    rintro _ _ ⟨nk, hnk, rfl, rfl⟩
    cbv
    refine hq1 _ ?_
    cbv
    exact hret _ (RetEv.ret eOk rfl (by rw [g1, g2, hnk]; rfl))
theorem rSpan_spec (k : Int) (ky vl : List UInt8) (hk : ky.length < 140737488355328) : FnL Tryz.prog 91 [.p (.agg [.int .i64 k, .str ky, .str vl])] [] fun v own => ∃ m, m = spn ⟨k, ky, vl⟩ ∧ v = .p (.agg [.str m.lo, .str m.hi]) ∧ own = [] := by
  obtain ⟨⟨lo, hi⟩, hm⟩ : ∃ m, m = spn ⟨k, ky, vl⟩ := ⟨_, rfl⟩
  rw [← hm]
  unfold spn at hm
  simp only at hm
  obtain ⟨n, hn⟩ : ∃ n, n = ky.length := ⟨_, rfl⟩
  have hn1 : n + 1 ≤ 9223372036854775807 := by omega
  refine FnL.flat (R := fun v own => v = .p (.agg [.str lo, .str hi])) ?_ (by rintro _ _ rfl; exact ⟨_, _, rfl, .refl _, ⟨lo, hi⟩, rfl, rfl, rfl⟩)
  refine fn_of_vc eOk fOk fo91 Tryz.func91 rfl rfl rfl fun B hB => ?_
  by_cases h3 : k = 3
  · rw [if_pos h3] at hm
    obtain ⟨g1, g2⟩ := Spn.mk.inj hm
    intro add sub mul quo rem band bor bxor bclr shl shr ieq ilt ile seq slt beq bnot orb bcond iwrap iof ssz hA cat sq sl imin imax smin smax len slen u8 hL op hop call hcall code hcode ret hret
    cbv
    refine vcIf.yes (by first | (simp [hA.not, hA.eq, hA.lt, hA.le, hA.cond, hA.beq, hA.orb, hL.len, hL.slen, hL.sq, h3]; done) | (simp only [h3]; simp [hA.not, hA.eq, hA.lt, hA.le, hA.cond, hA.beq, hA.orb, hL.len, hL.slen, hL.sq, h3]; done) | (simp [hA.not, hA.eq, hA.lt, hA.le, hA.cond, hA.beq, hA.orb, hL.len, hL.slen, hL.sq, h3]; omega) | (simp only [h3]; simp [hA.not, hA.eq, hA.lt, hA.le, hA.cond, hA.beq, hA.orb, hL.len, hL.slen, hL.sq, h3]; omega)) ?_
    cbv
    exact hret _ (RetEv.ret eOk rfl (by rw [g1, g2]; rfl))
  · rw [if_neg h3] at hm
    obtain ⟨g1, g2⟩ := Spn.mk.inj hm
    intro add sub mul quo rem band bor bxor bclr shl shr ieq ilt ile seq slt beq bnot orb bcond iwrap iof ssz hA cat sq sl imin imax smin smax len slen u8 hL op hop call hcall code hcode ret hret
    have hcat : cat ky [0] = ky ++ [0] := hL.cat _ _
    cbv
    refine vcIf.no (by first | (simp [hA.not, hA.eq, hA.lt, hA.le, hA.cond, hA.beq, hA.orb, hL.len, hL.slen, hL.sq, h3]; done) | (simp only [h3]; simp [hA.not, hA.eq, hA.lt, hA.le, hA.cond, hA.beq, hA.orb, hL.len, hL.slen, hL.sq, h3]; done) | (simp [hA.not, hA.eq, hA.lt, hA.le, hA.cond, hA.beq, hA.orb, hL.len, hL.slen, hL.sq, h3]; omega) | (simp only [h3]; simp [hA.not, hA.eq, hA.lt, hA.le, hA.cond, hA.beq, hA.orb, hL.len, hL.slen, hL.sq, h3]; omega)) ?_
    cbv
    refine ⟨(), by rw [← hn]; exact hn1, ?_⟩
    cbv
    exact hret _ (RetEv.ret eOk rfl (by rw [g1, g2, ← hcat]; rfl))

def cut1 (s : Spn) (c : Chg) : List Chg :=
  if c.kind = 3 then (if Op.bytesLess (mt s (spn c)).lo (mt s (spn c)).hi then [⟨3, (mt s (spn c)).lo, (mt s (spn c)).hi⟩] else []) else if hs s c.key then [c] else []
def cutL (s : Spn) (l : List Chg) : List Chg := l.flatMap (cut1 s)
theorem cutL_next (s : Spn) {l : List Chg} {i : Nat} {c : Chg} (h : l[i]? = some c) : cutL s (l.take (i + 1)) = cutL s (l.take i) ++ cut1 s c := by
  rw [List.take_add_one, h, cutL, List.flatMap_append]; simp [cutL]
theorem cut1_len (s : Spn) (c : Chg) : (cut1 s c).length ≤ 1 := by
  unfold cut1; split
  · split <;> simp
  · split <;> simp
theorem cutL_len (s : Spn) : ∀ l, (cutL s l).length ≤ l.length
  | [] => Nat.le_refl _
  | c :: l => by
    have := cutL_len s l
    have h1 := cut1_len s c
    simp only [cutL, List.flatMap_cons, List.length_append, List.length_cons] at this ⊢
    omega

end
section
open Go Go.Lx
open Go.Sx (vcIf)

/-- The error of a cut: the changes' first, or a span too long. -/
def cutE (s : Spn) (l : List Chg) : Nat := if chks l = 0 then (if 17 < s.lo.length ∨ 17 < s.hi.length then 6 else 0) else chks l
def cutR (s : Spn) (l : List Chg) : List Chg := if cutE s l = 0 then cutL s l else []

theorem chCut_spec (s : Spn) (hs1 : s.lo.length < 140737488355328) (hs2 : s.hi.length < 140737488355328) (l : List Chg) (hf : ∀ c ∈ l, c.fit) (hn : l.length * 40 ≤ 140737488355328) (zs : List PV) (hzs : zs = cP l) :
    FnL Tryz.prog 46 [.p (.agg [.str s.lo, .str s.hi]), .p (.sl zs)] [] fun v own => v = .p (.tup [.sl (cP (cutR s l)), .int .i64 (Int.ofNat (cutE s l))]) ∧ own = [] := by
  obtain ⟨R, hR⟩ : ∃ R, R = cP (cutR s l) := ⟨_, rfl⟩
  obtain ⟨e, he⟩ : ∃ e, e = cutE s l := ⟨_, rfl⟩
  rw [← hR, ← he]
  refine FnL.flat (R := fun v own => ∃ x, v = .p (.tup [x, .int .i64 (Int.ofNat e)]) ∧ PW x (.sl R)) ?_ (by
    rintro _ _ ⟨x, rfl, h⟩; exact ⟨_, .tup [.sl R, .int .i64 (Int.ofNat e)], rfl, .tup ⟨h, .refl _, trivial⟩, rfl, rfl⟩)
  obtain ⟨N, hN⟩ : ∃ n, n = l.length := ⟨_, rfl⟩
  have hzl : zs.length = N := by rw [hzs, cP_length, hN]
  have hall := all_spec l (by omega) zs hzs
  obtain ⟨C, hC⟩ : ∃ C, C = chks l := ⟨_, rfl⟩
  rw [← hC] at hall
  obtain ⟨sa, hsa⟩ : ∃ x, x = s.lo := ⟨_, rfl⟩
  obtain ⟨sb, hsb⟩ : ∃ x, x = s.hi := ⟨_, rfl⟩
  obtain ⟨na, hna⟩ : ∃ x, x = sa.length := ⟨_, rfl⟩
  obtain ⟨nb, hnb⟩ : ∃ x, x = sb.length := ⟨_, rfl⟩
  have hse : s = ⟨sa, sb⟩ := by rw [hsa, hsb]
  have he0 : C ≠ 0 → e = C := fun h => by rw [he, cutE, ← hC, if_neg h]
  have he1 : C = 0 → (17 < na ∨ 17 < nb) → e = 6 := fun h h' => by rw [he, cutE, ← hC, if_pos h, ← hsa, ← hsb, ← hna, ← hnb, if_pos h']
  have he2 : C = 0 → ¬ (17 < na ∨ 17 < nb) → e = 0 := fun h h' => by rw [he, cutE, ← hC, if_pos h, ← hsa, ← hsb, ← hna, ← hnb, if_neg h']
  have hR0 : e ≠ 0 → R = [] := fun h => by rw [hR, cutR, if_neg (by rw [← he]; exact h)]; rfl
  have hR1 : e = 0 → R = cP (cutL s l) := fun h => by rw [hR, cutR, if_pos (by rw [← he]; exact h)]
  have hnab : na < 140737488355328 ∧ nb < 140737488355328 := by rw [hna, hnb, hsa, hsb]; exact ⟨hs1, hs2⟩
  rw [← hsa, ← hsb]
  refine fn_of_vc eOk fOk fo46 Tryz.func46 rfl rfl rfl fun B hB => ?_
  intro add sub mul quo rem band bor bxor bclr shl shr ieq ilt ile seq slt beq bnot orb bcond iwrap iof ssz hA cat sq sl imin imax smin smax len slen u8 hL op hop call hcall code hcode ret hret
  have hlen : len zs = Int.ofNat N := by rw [hL.len, hzl]; rfl
  have hmx : imax (slen sa) (slen sb) = Int.ofNat (max na nb) := by
    rw [hL.imax, hL.slen, hL.slen, ← hna, ← hnb]; simp only [Int.ofNat_eq_natCast]; split <;> omega
  obtain ⟨mx, hmxe⟩ : ∃ m, m = max na nb := ⟨_, rfl⟩
  rw [← hmxe] at hmx
  have hmx2 : 17 < mx ↔ (17 < na ∨ 17 < nb) := by omega
  clear hmxe
  cbv
  refine hcall _ _ _ _ _ (CallEv.same hall rfl ?_)
  rintro _ _ ⟨c0, hc0, rfl, rfl⟩
  cbv
  by_cases hCC : c0 = 0
  · have hC0 : C = 0 := by omega
    refine vcIf.no (by first | (simp [hA.not, hA.eq, hA.lt, hA.le, hA.cond, hA.beq, hA.orb, hL.len, hL.slen, hL.sq, hCC]; done) | (simp only [hCC]; simp [hA.not, hA.eq, hA.lt, hA.le, hA.cond, hA.beq, hA.orb, hL.len, hL.slen, hL.sq, hCC]; done) | (simp [hA.not, hA.eq, hA.lt, hA.le, hA.cond, hA.beq, hA.orb, hL.len, hL.slen, hL.sq, hCC]; omega) | (simp only [hCC]; simp [hA.not, hA.eq, hA.lt, hA.le, hA.cond, hA.beq, hA.orb, hL.len, hL.slen, hL.sq, hCC]; omega)) ?_
    cbv
    by_cases h17 : 17 < mx
    · have hfe := he1 hC0 (hmx2.1 h17)
      refine vcIf.yes (by first | (simp [hA.not, hA.eq, hA.lt, hA.le, hA.cond, hA.beq, hA.orb, hL.len, hL.slen, hL.sq, hmx, h17]; done) | (simp only [hmx, h17]; simp [hA.not, hA.eq, hA.lt, hA.le, hA.cond, hA.beq, hA.orb, hL.len, hL.slen, hL.sq, hmx, h17]; done) | (simp [hA.not, hA.eq, hA.lt, hA.le, hA.cond, hA.beq, hA.orb, hL.len, hL.slen, hL.sq, hmx, h17]; omega) | (simp only [hmx, h17]; simp [hA.not, hA.eq, hA.lt, hA.le, hA.cond, hA.beq, hA.orb, hL.len, hL.slen, hL.sq, hmx, h17]; omega)) ?_
      cbv
      exact hret _ (RetEv.ret eOk rfl ⟨.nils, by rw [hfe]; rfl, by rw [hR0 (by rw [hfe]; decide)]; exact .nils⟩)
    have hfe := he2 hC0 (fun c => h17 (hmx2.2 c))
    have hR1 := hR1 hfe
    refine vcIf.no (by first | (simp [hA.not, hA.eq, hA.lt, hA.le, hA.cond, hA.beq, hA.orb, hL.len, hL.slen, hL.sq, hmx, h17]; done) | (simp only [hmx, h17]; simp [hA.not, hA.eq, hA.lt, hA.le, hA.cond, hA.beq, hA.orb, hL.len, hL.slen, hL.sq, hmx, h17]; done) | (simp [hA.not, hA.eq, hA.lt, hA.le, hA.cond, hA.beq, hA.orb, hL.len, hL.slen, hL.sq, hmx, h17]; omega) | (simp only [hmx, h17]; simp [hA.not, hA.eq, hA.lt, hA.le, hA.cond, hA.beq, hA.orb, hL.len, hL.slen, hL.sq, hmx, h17]; omega)) ?_
    cbv
    rw [hlen]
    refine hcode _ _ _ (CodeEv.conv (Conv.hollow 7 25 3 (by decide) rfl) (CodeEv.loop eOk fOk (ι := Nat × Nat × List PV) (fun q => [(2, .own 0 0), (7, .vw 1 3 0 q.2.1 none), (24, .p (.sl zs)), (25, .p (.int .i64 (Int.ofNat N))), (26, .p (.int .i64 (Int.ofNat q.1)))])
      (fun q => [.st 38 [.p (.str sa), .p (.str sb)], .arr 25 3 q.2.2]) (fun q => q.1 ≤ N ∧ q.2.1 ≤ q.1 ∧ q.2.2.length = q.2.1 ∧ q.2.2 = cP (cutL s (l.take q.1))) (fun q => N - q.1) (0, 0, []) ?_ ?_))
    · exact ⟨(by repeat (first | exact trivial | refine And.intro rfl ?_)), rfl, Nat.zero_le _, Nat.le_refl _, rfl, rfl⟩
    rintro ⟨i, k, us⟩ ⟨k1, k2, k3, k4⟩ rd hrd
    simp only at k1 k2 k3 k4
    by_cases hi : i < N
    · refine Exists.elim (get_of_lt (show i < l.length by omega)) fun c hc => ?_
      obtain ⟨kd, ky, vl⟩ := c
      have hzi : zs[i]? = some (.agg [.int .i64 kd, .str ky, .str vl]) := by rw [hzs]; exact cP_get hc
      have hcf := (hf _ (List.mem_of_getElem? hc)).1
      simp only at hcf
      have hsp := chSpan_spec kd ky vl hcf
      have hmt := meet_spec sa sb (spn ⟨kd, ky, vl⟩).lo (spn ⟨kd, ky, vl⟩).hi
      have hhas := has_spec sa sb ky
      have hnx := cutL_next s hc
      have hc1 : kd = 3 → cut1 s ⟨kd, ky, vl⟩ = if Op.bytesLess (mt ⟨sa, sb⟩ (spn ⟨kd, ky, vl⟩)).lo (mt ⟨sa, sb⟩ (spn ⟨kd, ky, vl⟩)).hi then [⟨3, (mt ⟨sa, sb⟩ (spn ⟨kd, ky, vl⟩)).lo, (mt ⟨sa, sb⟩ (spn ⟨kd, ky, vl⟩)).hi⟩] else [] := fun h => by rw [cut1, if_pos h, hse]
      have hc2 : kd ≠ 3 → cut1 s ⟨kd, ky, vl⟩ = if hs ⟨sa, sb⟩ ky then [⟨kd, ky, vl⟩] else [] := fun h => by rw [cut1, if_neg h, hse]
      refine Exists.elim (show ∃ b, b = hs ⟨sa, sb⟩ ky from ⟨_, rfl⟩) fun b hb => ?_
      rw [← hb] at hc2 hhas
      refine Exists.elim (show ∃ x, x = spn ⟨kd, ky, vl⟩ from ⟨_, rfl⟩) fun p hp => ?_
      rw [← hp] at hsp hmt hc1
      clear hp
      obtain ⟨pl, ph⟩ := p
      refine Exists.elim (show ∃ x, x = mt ⟨sa, sb⟩ ⟨pl, ph⟩ from ⟨_, rfl⟩) fun m hm => ?_
      rw [← hm] at hmt hc1
      clear hm
      obtain ⟨ml, mh⟩ := m
      simp only at hsp hmt hc1
      have hem := empty_spec ml mh
      intro add1 sub1 mul1 quo1 rem1 band1 bor1 bxor1 bclr1 shl1 shr1 ieq1 ilt1 ile1 seq1 slt1 beq1 bnot1 orb1 bcond1 iwrap1 iof1 ssz1 hA1 cat1 sq1 sl1 imin1 imax1 smin1 smax1 len1 slen1 u81 hL1 op1 hop1 call1 hcall1 code1 hcode1
      have hadd1 : add1 .i64 (Int.ofNat i) 1 = Int.ofNat (i + 1) := by rw [hA1.add, IntWalk.i64_in _ (by simp only [Int.ofNat_eq_natCast]; omega)]; rfl
      cbv
      refine vcIf.yes (by first | (simp [hA1.not, hA1.eq, hA1.lt, hA1.le, hA1.cond, hA1.beq, hA1.orb, hL1.len, hL1.slen, hL1.sq, hi]; done) | (simp only [hi]; simp [hA1.not, hA1.eq, hA1.lt, hA1.le, hA1.cond, hA1.beq, hA1.orb, hL1.len, hL1.slen, hL1.sq, hi]; done) | (simp [hA1.not, hA1.eq, hA1.lt, hA1.le, hA1.cond, hA1.beq, hA1.orb, hL1.len, hL1.slen, hL1.sq, hi]; omega) | (simp only [hi]; simp [hA1.not, hA1.eq, hA1.lt, hA1.le, hA1.cond, hA1.beq, hA1.orb, hL1.len, hL1.slen, hL1.sq, hi]; omega)) ?_
      cbv
      refine ⟨i, _, rfl, hzi, rfl, ?_⟩
      cbv
      by_cases h3 : kd = 3
      · have hc1 := hc1 h3
        refine vcIf.yes (by first | (simp [hA1.not, hA1.eq, hA1.lt, hA1.le, hA1.cond, hA1.beq, hA1.orb, hL1.len, hL1.slen, hL1.sq, h3]; done) | (simp only [h3]; simp [hA1.not, hA1.eq, hA1.lt, hA1.le, hA1.cond, hA1.beq, hA1.orb, hL1.len, hL1.slen, hL1.sq, h3]; done) | (simp [hA1.not, hA1.eq, hA1.lt, hA1.le, hA1.cond, hA1.beq, hA1.orb, hL1.len, hL1.slen, hL1.sq, h3]; omega) | (simp only [h3]; simp [hA1.not, hA1.eq, hA1.lt, hA1.le, hA1.cond, hA1.beq, hA1.orb, hL1.len, hL1.slen, hL1.sq, h3]; omega)) ?_
        cbv
        refine hcode1 _ _ _ (CodeEv.drawT eOk fOk (by kernel_rfl) (Xof 3 []) (.rd 0 (.rd 1 (.acts (.cons 2 (.acts (.cons 3 (.acts (.cons 4 (.acts (.cons 5 (.done) (.nil))) (.nil))) (.cons 4 (.acts (.cons 3 (.acts (.cons 5 (.done) (.nil))) (.nil))) (.nil)))) (.cons 4 (.acts (.cons 2 (.acts (.cons 3 (.acts (.cons 5 (.done) (.nil))) (.nil))) (.nil))) (.nil)))))) (by kernel_rfl) (by kernel_rfl) ?_)
        intro add2 sub2 mul2 quo2 rem2 band2 bor2 bxor2 bclr2 shl2 shr2 ieq2 ilt2 ile2 seq2 slt2 beq2 bnot2 orb2 bcond2 iwrap2 iof2 ssz2 hA2 cat2 sq2 sl2 imin2 imax2 smin2 smax2 len2 slen2 u82 hL2 op2 hop2 call2 hcall2 code2 hcode2 q2 hq2
        cbv
        refine ⟨?_, ?_⟩
        · refine hcall2 _ _ _ _ _ (CallEv.same hsp rfl ?_)
          rintro _ _ ⟨_, rfl, rfl, rfl⟩
          cbv
          refine ⟨?_, ?_⟩
          · refine hcall2 _ _ _ _ _ (CallEv.same hmt rfl ?_)
            rintro _ _ ⟨_, rfl, rfl, rfl⟩
            cbv
            refine hq2 _ ?_
            cbv
            refine hcall1 _ _ _ _ _ (CallEv.same hem rfl ?_)
            rintro _ _ ⟨b2, hb2, rfl, rfl⟩
            cbv
            by_cases hlt : b2 = true
            · rw [if_neg (by intro c; rw [hlt, c] at hb2; cases hb2)] at hc1
              refine vcIf.yes (by first | (simp [hA1.not, hA1.eq, hA1.lt, hA1.le, hA1.cond, hA1.beq, hA1.orb, hL1.len, hL1.slen, hL1.sq, hlt]; done) | (simp only [hlt]; simp [hA1.not, hA1.eq, hA1.lt, hA1.le, hA1.cond, hA1.beq, hA1.orb, hL1.len, hL1.slen, hL1.sq, hlt]; done) | (simp [hA1.not, hA1.eq, hA1.lt, hA1.le, hA1.cond, hA1.beq, hA1.orb, hL1.len, hL1.slen, hL1.sq, hlt]; omega) | (simp only [hlt]; simp [hA1.not, hA1.eq, hA1.lt, hA1.le, hA1.cond, hA1.beq, hA1.orb, hL1.len, hL1.slen, hL1.sq, hlt]; omega)) ?_
              cbv
              refine hrd _ ⟨(i + 1, k, us), _, ?_, ⟨by simp only; omega, ?_, ?_, ?_⟩, rfl, ⟨rfl, rfl, rfl, rfl, ?_, trivial⟩, rfl, rfl, rfl, ?_⟩
              · simp only; omega
              · simp only; omega
              · exact k3
              · simp only; rw [hnx, hc1, k4]; simp
              · show some (V.p (.int .i64 _)) = _
                rw [hadd1]
              · rw [hB]; exact Nat.zero_le _
            · have hlt := Bool.eq_false_iff.2 hlt
              rw [if_pos (by rw [hlt] at hb2; simpa using hb2.symm)] at hc1
              refine vcIf.no (by first | (simp [hA1.not, hA1.eq, hA1.lt, hA1.le, hA1.cond, hA1.beq, hA1.orb, hL1.len, hL1.slen, hL1.sq, hlt]; done) | (simp only [hlt]; simp [hA1.not, hA1.eq, hA1.lt, hA1.le, hA1.cond, hA1.beq, hA1.orb, hL1.len, hL1.slen, hL1.sq, hlt]; done) | (simp [hA1.not, hA1.eq, hA1.lt, hA1.le, hA1.cond, hA1.beq, hA1.orb, hL1.len, hL1.slen, hL1.sq, hlt]; omega) | (simp only [hlt]; simp [hA1.not, hA1.eq, hA1.lt, hA1.le, hA1.cond, hA1.beq, hA1.orb, hL1.len, hL1.slen, hL1.sq, hlt]; omega)) ?_
              cbv
              refine hcode1 _ _ _ (CodeEv.drawA eOk fOk (by kernel_rfl) (Xof 4 [2]) (by kernel_rfl) (by kernel_rfl) (by kernel_rfl) ?_)
              intro add3 sub3 mul3 quo3 rem3 band3 bor3 bxor3 bclr3 shl3 shr3 ieq3 ilt3 ile3 seq3 slt3 beq3 bnot3 orb3 bcond3 iwrap3 iof3 ssz3 hA3 cat3 sq3 sl3 imin3 imax3 smin3 smax3 len3 slen3 u83 hL3 op3 hop3 call3 hcall3 code3 hcode3 q3 hq3
              cbv
              refine hq3 _ ?_
              cbv
              refine vcIf.yes (by first | (simp [hA1.not, hA1.eq, hA1.lt, hA1.le, hA1.cond, hA1.beq, hA1.orb, hL1.len, hL1.slen, hL1.sq, h3]; done) | (simp only [h3]; simp [hA1.not, hA1.eq, hA1.lt, hA1.le, hA1.cond, hA1.beq, hA1.orb, hL1.len, hL1.slen, hL1.sq, h3]; done) | (simp [hA1.not, hA1.eq, hA1.lt, hA1.le, hA1.cond, hA1.beq, hA1.orb, hL1.len, hL1.slen, hL1.sq, h3]; omega) | (simp only [h3]; simp [hA1.not, hA1.eq, hA1.lt, hA1.le, hA1.cond, hA1.beq, hA1.orb, hL1.len, hL1.slen, hL1.sq, h3]; omega)) ?_
              cbv
              refine ⟨false, ?_⟩
              cbv
              refine .inl ⟨(), rfl, k3.symm, Wf.one (Chg.wf ⟨kd, ml, mh⟩), ?_, ?_, ?_⟩
              · show k + 1 ≤ maxLen
                unfold maxLen; omega
              · show (k + 1) * 40 ≤ _
                omega
              intro us' n' hu hn'
              replace hu : us' = us ++ [Chg.v ⟨kd, ml, mh⟩] := hu
              replace hn' : n' = k + 1 := hn'
              cbv
              refine hrd _ ⟨(i + 1, n', us'), _, ?_, ⟨by simp only; omega, ?_, ?_, ?_⟩, rfl, ⟨rfl, rfl, rfl, rfl, ?_, trivial⟩, rfl, rfl, rfl, ?_⟩
              · simp only; omega
              · simp only; omega
              · simp only; rw [hu, hn', List.length_append, k3]; rfl
              · simp only; rw [hnx, hc1, hu, k4, h3]; simp [cP]
              · show some (V.p (.int .i64 _)) = _
                rw [hadd1]
              · rw [hB]; exact Nat.zero_le _
          · refine hcall2 _ _ _ _ _ (CallEv.same hmt rfl ?_)
            rintro _ _ ⟨_, rfl, rfl, rfl⟩
            cbv
            refine hq2 _ ?_
            cbv
            refine hcall1 _ _ _ _ _ (CallEv.same hem rfl ?_)
            rintro _ _ ⟨b2, hb2, rfl, rfl⟩
            cbv
            by_cases hlt : b2 = true
            · rw [if_neg (by intro c; rw [hlt, c] at hb2; cases hb2)] at hc1
              refine vcIf.yes (by first | (simp [hA1.not, hA1.eq, hA1.lt, hA1.le, hA1.cond, hA1.beq, hA1.orb, hL1.len, hL1.slen, hL1.sq, hlt]; done) | (simp only [hlt]; simp [hA1.not, hA1.eq, hA1.lt, hA1.le, hA1.cond, hA1.beq, hA1.orb, hL1.len, hL1.slen, hL1.sq, hlt]; done) | (simp [hA1.not, hA1.eq, hA1.lt, hA1.le, hA1.cond, hA1.beq, hA1.orb, hL1.len, hL1.slen, hL1.sq, hlt]; omega) | (simp only [hlt]; simp [hA1.not, hA1.eq, hA1.lt, hA1.le, hA1.cond, hA1.beq, hA1.orb, hL1.len, hL1.slen, hL1.sq, hlt]; omega)) ?_
              cbv
              refine hrd _ ⟨(i + 1, k, us), _, ?_, ⟨by simp only; omega, ?_, ?_, ?_⟩, rfl, ⟨rfl, rfl, rfl, rfl, ?_, trivial⟩, rfl, rfl, rfl, ?_⟩
              · simp only; omega
              · simp only; omega
              · exact k3
              · simp only; rw [hnx, hc1, k4]; simp
              · show some (V.p (.int .i64 _)) = _
                rw [hadd1]
              · rw [hB]; exact Nat.zero_le _
            · have hlt := Bool.eq_false_iff.2 hlt
              rw [if_pos (by rw [hlt] at hb2; simpa using hb2.symm)] at hc1
              refine vcIf.no (by first | (simp [hA1.not, hA1.eq, hA1.lt, hA1.le, hA1.cond, hA1.beq, hA1.orb, hL1.len, hL1.slen, hL1.sq, hlt]; done) | (simp only [hlt]; simp [hA1.not, hA1.eq, hA1.lt, hA1.le, hA1.cond, hA1.beq, hA1.orb, hL1.len, hL1.slen, hL1.sq, hlt]; done) | (simp [hA1.not, hA1.eq, hA1.lt, hA1.le, hA1.cond, hA1.beq, hA1.orb, hL1.len, hL1.slen, hL1.sq, hlt]; omega) | (simp only [hlt]; simp [hA1.not, hA1.eq, hA1.lt, hA1.le, hA1.cond, hA1.beq, hA1.orb, hL1.len, hL1.slen, hL1.sq, hlt]; omega)) ?_
              cbv
              refine hcode1 _ _ _ (CodeEv.drawA eOk fOk (by kernel_rfl) (Xof 4 [2]) (by kernel_rfl) (by kernel_rfl) (by kernel_rfl) ?_)
              intro add3 sub3 mul3 quo3 rem3 band3 bor3 bxor3 bclr3 shl3 shr3 ieq3 ilt3 ile3 seq3 slt3 beq3 bnot3 orb3 bcond3 iwrap3 iof3 ssz3 hA3 cat3 sq3 sl3 imin3 imax3 smin3 smax3 len3 slen3 u83 hL3 op3 hop3 call3 hcall3 code3 hcode3 q3 hq3
              cbv
              refine hq3 _ ?_
              cbv
              refine vcIf.yes (by first | (simp [hA1.not, hA1.eq, hA1.lt, hA1.le, hA1.cond, hA1.beq, hA1.orb, hL1.len, hL1.slen, hL1.sq, h3]; done) | (simp only [h3]; simp [hA1.not, hA1.eq, hA1.lt, hA1.le, hA1.cond, hA1.beq, hA1.orb, hL1.len, hL1.slen, hL1.sq, h3]; done) | (simp [hA1.not, hA1.eq, hA1.lt, hA1.le, hA1.cond, hA1.beq, hA1.orb, hL1.len, hL1.slen, hL1.sq, h3]; omega) | (simp only [h3]; simp [hA1.not, hA1.eq, hA1.lt, hA1.le, hA1.cond, hA1.beq, hA1.orb, hL1.len, hL1.slen, hL1.sq, h3]; omega)) ?_
              cbv
              refine ⟨false, ?_⟩
              cbv
              refine .inl ⟨(), rfl, k3.symm, Wf.one (Chg.wf ⟨kd, ml, mh⟩), ?_, ?_, ?_⟩
              · show k + 1 ≤ maxLen
                unfold maxLen; omega
              · show (k + 1) * 40 ≤ _
                omega
              intro us' n' hu hn'
              replace hu : us' = us ++ [Chg.v ⟨kd, ml, mh⟩] := hu
              replace hn' : n' = k + 1 := hn'
              cbv
              refine hrd _ ⟨(i + 1, n', us'), _, ?_, ⟨by simp only; omega, ?_, ?_, ?_⟩, rfl, ⟨rfl, rfl, rfl, rfl, ?_, trivial⟩, rfl, rfl, rfl, ?_⟩
              · simp only; omega
              · simp only; omega
              · simp only; rw [hu, hn', List.length_append, k3]; rfl
              · simp only; rw [hnx, hc1, hu, k4, h3]; simp [cP]
              · show some (V.p (.int .i64 _)) = _
                rw [hadd1]
              · rw [hB]; exact Nat.zero_le _
        · refine hcall2 _ _ _ _ _ (CallEv.same hsp rfl ?_)
          rintro _ _ ⟨_, rfl, rfl, rfl⟩
          cbv
          refine hcall2 _ _ _ _ _ (CallEv.same hmt rfl ?_)
          rintro _ _ ⟨_, rfl, rfl, rfl⟩
          cbv
          refine hq2 _ ?_
          cbv
          refine hcall1 _ _ _ _ _ (CallEv.same hem rfl ?_)
          rintro _ _ ⟨b2, hb2, rfl, rfl⟩
          cbv
          by_cases hlt : b2 = true
          · rw [if_neg (by intro c; rw [hlt, c] at hb2; cases hb2)] at hc1
            refine vcIf.yes (by first | (simp [hA1.not, hA1.eq, hA1.lt, hA1.le, hA1.cond, hA1.beq, hA1.orb, hL1.len, hL1.slen, hL1.sq, hlt]; done) | (simp only [hlt]; simp [hA1.not, hA1.eq, hA1.lt, hA1.le, hA1.cond, hA1.beq, hA1.orb, hL1.len, hL1.slen, hL1.sq, hlt]; done) | (simp [hA1.not, hA1.eq, hA1.lt, hA1.le, hA1.cond, hA1.beq, hA1.orb, hL1.len, hL1.slen, hL1.sq, hlt]; omega) | (simp only [hlt]; simp [hA1.not, hA1.eq, hA1.lt, hA1.le, hA1.cond, hA1.beq, hA1.orb, hL1.len, hL1.slen, hL1.sq, hlt]; omega)) ?_
            cbv
            refine hrd _ ⟨(i + 1, k, us), _, ?_, ⟨by simp only; omega, ?_, ?_, ?_⟩, rfl, ⟨rfl, rfl, rfl, rfl, ?_, trivial⟩, rfl, rfl, rfl, ?_⟩
            · simp only; omega
            · simp only; omega
            · exact k3
            · simp only; rw [hnx, hc1, k4]; simp
            · show some (V.p (.int .i64 _)) = _
              rw [hadd1]
            · rw [hB]; exact Nat.zero_le _
          · have hlt := Bool.eq_false_iff.2 hlt
            rw [if_pos (by rw [hlt] at hb2; simpa using hb2.symm)] at hc1
            refine vcIf.no (by first | (simp [hA1.not, hA1.eq, hA1.lt, hA1.le, hA1.cond, hA1.beq, hA1.orb, hL1.len, hL1.slen, hL1.sq, hlt]; done) | (simp only [hlt]; simp [hA1.not, hA1.eq, hA1.lt, hA1.le, hA1.cond, hA1.beq, hA1.orb, hL1.len, hL1.slen, hL1.sq, hlt]; done) | (simp [hA1.not, hA1.eq, hA1.lt, hA1.le, hA1.cond, hA1.beq, hA1.orb, hL1.len, hL1.slen, hL1.sq, hlt]; omega) | (simp only [hlt]; simp [hA1.not, hA1.eq, hA1.lt, hA1.le, hA1.cond, hA1.beq, hA1.orb, hL1.len, hL1.slen, hL1.sq, hlt]; omega)) ?_
            cbv
            refine hcode1 _ _ _ (CodeEv.drawA eOk fOk (by kernel_rfl) (Xof 4 [2]) (by kernel_rfl) (by kernel_rfl) (by kernel_rfl) ?_)
            intro add3 sub3 mul3 quo3 rem3 band3 bor3 bxor3 bclr3 shl3 shr3 ieq3 ilt3 ile3 seq3 slt3 beq3 bnot3 orb3 bcond3 iwrap3 iof3 ssz3 hA3 cat3 sq3 sl3 imin3 imax3 smin3 smax3 len3 slen3 u83 hL3 op3 hop3 call3 hcall3 code3 hcode3 q3 hq3
            cbv
            refine hq3 _ ?_
            cbv
            refine vcIf.yes (by first | (simp [hA1.not, hA1.eq, hA1.lt, hA1.le, hA1.cond, hA1.beq, hA1.orb, hL1.len, hL1.slen, hL1.sq, h3]; done) | (simp only [h3]; simp [hA1.not, hA1.eq, hA1.lt, hA1.le, hA1.cond, hA1.beq, hA1.orb, hL1.len, hL1.slen, hL1.sq, h3]; done) | (simp [hA1.not, hA1.eq, hA1.lt, hA1.le, hA1.cond, hA1.beq, hA1.orb, hL1.len, hL1.slen, hL1.sq, h3]; omega) | (simp only [h3]; simp [hA1.not, hA1.eq, hA1.lt, hA1.le, hA1.cond, hA1.beq, hA1.orb, hL1.len, hL1.slen, hL1.sq, h3]; omega)) ?_
            cbv
            refine ⟨false, ?_⟩
            cbv
            refine .inl ⟨(), rfl, k3.symm, Wf.one (Chg.wf ⟨kd, ml, mh⟩), ?_, ?_, ?_⟩
            · show k + 1 ≤ maxLen
              unfold maxLen; omega
            · show (k + 1) * 40 ≤ _
              omega
            intro us' n' hu hn'
            replace hu : us' = us ++ [Chg.v ⟨kd, ml, mh⟩] := hu
            replace hn' : n' = k + 1 := hn'
            cbv
            refine hrd _ ⟨(i + 1, n', us'), _, ?_, ⟨by simp only; omega, ?_, ?_, ?_⟩, rfl, ⟨rfl, rfl, rfl, rfl, ?_, trivial⟩, rfl, rfl, rfl, ?_⟩
            · simp only; omega
            · simp only; omega
            · simp only; rw [hu, hn', List.length_append, k3]; rfl
            · simp only; rw [hnx, hc1, hu, k4, h3]; simp [cP]
            · show some (V.p (.int .i64 _)) = _
              rw [hadd1]
            · rw [hB]; exact Nat.zero_le _
      · have hc2 := hc2 h3
        refine vcIf.no (by first | (simp [hA1.not, hA1.eq, hA1.lt, hA1.le, hA1.cond, hA1.beq, hA1.orb, hL1.len, hL1.slen, hL1.sq, h3]; done) | (simp only [h3]; simp [hA1.not, hA1.eq, hA1.lt, hA1.le, hA1.cond, hA1.beq, hA1.orb, hL1.len, hL1.slen, hL1.sq, h3]; done) | (simp [hA1.not, hA1.eq, hA1.lt, hA1.le, hA1.cond, hA1.beq, hA1.orb, hL1.len, hL1.slen, hL1.sq, h3]; omega) | (simp only [h3]; simp [hA1.not, hA1.eq, hA1.lt, hA1.le, hA1.cond, hA1.beq, hA1.orb, hL1.len, hL1.slen, hL1.sq, h3]; omega)) ?_
        cbv
        refine vcIf.no (by first | (simp [hA1.not, hA1.eq, hA1.lt, hA1.le, hA1.cond, hA1.beq, hA1.orb, hL1.len, hL1.slen, hL1.sq, h3]; done) | (simp only [h3]; simp [hA1.not, hA1.eq, hA1.lt, hA1.le, hA1.cond, hA1.beq, hA1.orb, hL1.len, hL1.slen, hL1.sq, h3]; done) | (simp [hA1.not, hA1.eq, hA1.lt, hA1.le, hA1.cond, hA1.beq, hA1.orb, hL1.len, hL1.slen, hL1.sq, h3]; omega) | (simp only [h3]; simp [hA1.not, hA1.eq, hA1.lt, hA1.le, hA1.cond, hA1.beq, hA1.orb, hL1.len, hL1.slen, hL1.sq, h3]; omega)) ?_
        cbv
        refine hcall1 _ _ _ _ _ (CallEv.same hhas rfl ?_)
        rintro _ _ ⟨b2, hb2, rfl, rfl⟩
        cbv
        by_cases hbb : b2 = true
        · rw [if_pos (hb2.symm.trans hbb)] at hc2
          refine vcIf.yes (by first | (simp [hA1.not, hA1.eq, hA1.lt, hA1.le, hA1.cond, hA1.beq, hA1.orb, hL1.len, hL1.slen, hL1.sq, hbb]; done) | (simp only [hbb]; simp [hA1.not, hA1.eq, hA1.lt, hA1.le, hA1.cond, hA1.beq, hA1.orb, hL1.len, hL1.slen, hL1.sq, hbb]; done) | (simp [hA1.not, hA1.eq, hA1.lt, hA1.le, hA1.cond, hA1.beq, hA1.orb, hL1.len, hL1.slen, hL1.sq, hbb]; omega) | (simp only [hbb]; simp [hA1.not, hA1.eq, hA1.lt, hA1.le, hA1.cond, hA1.beq, hA1.orb, hL1.len, hL1.slen, hL1.sq, hbb]; omega)) ?_
          cbv
          refine ⟨false, ?_⟩
          cbv
          refine .inl ⟨(), rfl, k3.symm, Wf.one (Chg.wf ⟨kd, ky, vl⟩), ?_, ?_, ?_⟩
          · show k + 1 ≤ maxLen
            unfold maxLen; omega
          · show (k + 1) * 40 ≤ _
            omega
          intro us' n' hu hn'
          replace hu : us' = us ++ [Chg.v ⟨kd, ky, vl⟩] := hu
          replace hn' : n' = k + 1 := hn'
          cbv
          refine hrd _ ⟨(i + 1, n', us'), _, ?_, ⟨by simp only; omega, ?_, ?_, ?_⟩, rfl, ⟨rfl, rfl, rfl, rfl, ?_, trivial⟩, rfl, rfl, rfl, ?_⟩
          · simp only; omega
          · simp only; omega
          · simp only; rw [hu, hn', List.length_append, k3]; rfl
          · simp only; rw [hnx, hc2, hu, k4]; simp [cP]
          · show some (V.p (.int .i64 _)) = _
            rw [hadd1]
          · rw [hB]; exact Nat.zero_le _
        · rw [if_neg (by rw [← hb2]; exact hbb)] at hc2
          refine vcIf.no (by first | (simp [hA1.not, hA1.eq, hA1.lt, hA1.le, hA1.cond, hA1.beq, hA1.orb, hL1.len, hL1.slen, hL1.sq, hbb]; done) | (simp only [hbb]; simp [hA1.not, hA1.eq, hA1.lt, hA1.le, hA1.cond, hA1.beq, hA1.orb, hL1.len, hL1.slen, hL1.sq, hbb]; done) | (simp [hA1.not, hA1.eq, hA1.lt, hA1.le, hA1.cond, hA1.beq, hA1.orb, hL1.len, hL1.slen, hL1.sq, hbb]; omega) | (simp only [hbb]; simp [hA1.not, hA1.eq, hA1.lt, hA1.le, hA1.cond, hA1.beq, hA1.orb, hL1.len, hL1.slen, hL1.sq, hbb]; omega)) ?_
          cbv
          refine hrd _ ⟨(i + 1, k, us), _, ?_, ⟨by simp only; omega, ?_, ?_, ?_⟩, rfl, ⟨rfl, rfl, rfl, rfl, ?_, trivial⟩, rfl, rfl, rfl, ?_⟩
          · simp only; omega
          · simp only; omega
          · exact k3
          · simp only; rw [hnx, hc2, k4]; simp
          · show some (V.p (.int .i64 _)) = _
            rw [hadd1]
          · rw [hB]; exact Nat.zero_le _
    · have hin : i = N := by omega
      rw [List.take_of_length_le (by omega)] at k4
      have hR : R = us := hR1.trans k4.symm
      intro add1 sub1 mul1 quo1 rem1 band1 bor1 bxor1 bclr1 shl1 shr1 ieq1 ilt1 ile1 seq1 slt1 beq1 bnot1 orb1 bcond1 iwrap1 iof1 ssz1 hA1 cat1 sq1 sl1 imin1 imax1 smin1 smax1 len1 slen1 u81 hL1 op1 hop1 call1 hcall1 code1 hcode1
      cbv
      refine vcIf.no (by first | (simp [hA1.not, hA1.eq, hA1.lt, hA1.le, hA1.cond, hA1.beq, hA1.orb, hL1.len, hL1.slen, hL1.sq, hi]; done) | (simp only [hi]; simp [hA1.not, hA1.eq, hA1.lt, hA1.le, hA1.cond, hA1.beq, hA1.orb, hL1.len, hL1.slen, hL1.sq, hi]; done) | (simp [hA1.not, hA1.eq, hA1.lt, hA1.le, hA1.cond, hA1.beq, hA1.orb, hL1.len, hL1.slen, hL1.sq, hi]; omega) | (simp only [hi]; simp [hA1.not, hA1.eq, hA1.lt, hA1.le, hA1.cond, hA1.beq, hA1.orb, hL1.len, hL1.slen, hL1.sq, hi]; omega)) ?_
      cbv
      refine hret _ (RetEv.retF eOk rfl 1 rfl (by rw [hB]; exact Nat.zero_le _) ⟨.sl us, ?_, by rw [hR]; exact .refl _⟩)
      rw [hfe]
      show V.p (.tup [.sl ((us.drop 0).take k), .int .i64 0]) = _
      rw [frz_full k3]
      rfl
  · have hfe := he0 (by omega)
    have hCe : e = c0 := hfe.trans hc0.symm
    refine vcIf.yes (by first | (simp [hA.not, hA.eq, hA.lt, hA.le, hA.cond, hA.beq, hA.orb, hL.len, hL.slen, hL.sq, hCC]; done) | (simp only [hCC]; simp [hA.not, hA.eq, hA.lt, hA.le, hA.cond, hA.beq, hA.orb, hL.len, hL.slen, hL.sq, hCC]; done) | (simp [hA.not, hA.eq, hA.lt, hA.le, hA.cond, hA.beq, hA.orb, hL.len, hL.slen, hL.sq, hCC]; omega) | (simp only [hCC]; simp [hA.not, hA.eq, hA.lt, hA.le, hA.cond, hA.beq, hA.orb, hL.len, hL.slen, hL.sq, hCC]; omega)) ?_
    cbv
    exact hret _ (RetEv.ret eOk rfl ⟨.nils, by rw [hCe]; rfl, by rw [hR0 (by rw [hCe]; exact hCC)]; exact .nils⟩)
end
end Go.Proofs.YtegkojnngdlfaaaGreat
