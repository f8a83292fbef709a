/- What ShardsWhich, ShardsPiece and ShardsOne answer. Conditions: on sizes. -/
import Derived.Test.YtknhlbohjiphgaaLSh4
set_option maxRecDepth 100000
set_option maxHeartbeats 8000000
set_option linter.unusedSimpArgs false
set_option linter.unusedVariables false
namespace Go.Proofs.Ytknhlbohjiphgaa
open Go Go.Lx
open Go.Sx (vcIf)

theorem wh_before : ∀ (bs : BL) (k : List UInt8) (q : Nat) (b : List UInt8), q < wh bs k → bs[q]? = some b → bl k b = false
  | [], k, q, b, h, _ => by simp [wh] at h
  | c :: r, k, q, b, h, hb => by
    unfold wh at h
    split at h
    · omega
    · rename_i hc
      cases q with
      | zero => simp at hb; subst hb; exact Bool.eq_false_iff.2 hc
      | succ q => exact wh_before r k q b (by omega) hb
theorem wh_at : ∀ (bs : BL) (k : List UInt8) (b : List UInt8), bs[wh bs k]? = some b → bl k b = true
  | [], k, b, h => by simp [wh] at h
  | c :: r, k, b, h => by
    unfold wh at h
    split at h
    · rename_i hc; simp at h; subst h; exact hc
    · exact wh_at r k b h
theorem bl_top : ∀ (m : Nat) (k : List UInt8), k.length < m → bl k (List.replicate m 255) = true
  | 0, k, h => by omega
  | m + 1, [], h => rfl
  | m + 1, x :: k, h => by
    have ih := bl_top m k (by simpa using h)
    rw [List.replicate_succ]
    have e1 : bl (x :: k) (255 :: List.replicate m 255) = (decide (x < 255) || (x == 255 && bl k (List.replicate m 255))) := rfl
    rw [e1, ih]
    by_cases h : x = 255
    · subst h; rfl
    · have : x < 255 := by
        have h1 := x.toNat_lt
        have h2 : x.toNat ≠ 255 := fun c => h (UInt8.toNat_inj.1 c)
        exact UInt8.lt_iff_toNat_lt.2 (show x.toNat < 255 by omega)
      simp [this]
theorem one_law {bs : BL} (hs : sndB bs = true) (k : List UInt8) (hk : k.length ≤ 16) (i : Nat) (hi : i ≤ bs.length) : (!(bl k (pcLo bs i)) && bl k (pcHi bs i)) = decide (i = wh bs k) := by
  have hwl := wh_le bs k
  rcases Nat.lt_trichotomy i (wh bs k) with h | h | h
  · obtain ⟨b, hb⟩ := get_of_lt (show i < bs.length by omega)
    have h1 : pcHi bs i = b := by rw [pcHi, if_pos (by omega), List.getD_eq_getElem?_getD, hb]; rfl
    rw [h1, wh_before bs k i b h hb, decide_eq_false (by omega)]; simp
  · have h2 : bl k (pcHi bs i) = true := by
      by_cases hn : i < bs.length
      · obtain ⟨b, hb⟩ := get_of_lt hn
        have h1 : pcHi bs i = b := by rw [pcHi, if_pos (by omega), List.getD_eq_getElem?_getD, hb]; rfl
        rw [h1]; exact wh_at bs k b (by rw [← h]; exact hb)
      · rw [pcHi, if_neg hn]; exact bl_top 17 k (by omega)
    have h3 : bl k (pcLo bs i) = false := by
      by_cases hn : 0 < i
      · obtain ⟨b, hb⟩ := get_of_lt (show i - 1 < bs.length by omega)
        have h1 : pcLo bs i = b := by rw [pcLo, if_pos hn, List.getD_eq_getElem?_getD, hb]; rfl
        rw [h1]; exact wh_before bs k (i - 1) b (by omega) hb
      · rw [pcLo, if_neg hn]; exact bl_nil k
    rw [h2, h3, decide_eq_true h]; rfl
  · obtain ⟨b, hb⟩ := get_of_lt (show i - 1 < bs.length by omega)
    obtain ⟨c, hc⟩ := get_of_lt (show wh bs k < bs.length by omega)
    have h1 : pcLo bs i = b := by rw [pcLo, if_pos (by omega), List.getD_eq_getElem?_getD, hb]; rfl
    have h2 := wh_at bs k c hc
    have h3 : bl k b = true := by
      rcases Nat.lt_or_eq_of_le (show wh bs k ≤ i - 1 by omega) with e | e
      · exact bl_trans h2 (snd_lt hs hc hb e)
      · rw [← e, hc] at hb; cases hb; exact h2
    rw [h1, h3, decide_eq_false (by omega)]; rfl

theorem spnEq (a b c d : List UInt8) : eqF Try.prog [PV.str a, PV.str b] [PV.str c, PV.str d] (Try.prog.fieldsOf 31).toList = some (decide (a = c) && (decide (b = d) && true)) := by kernel_rfl

theorem shardsWhich (bs : BL) (hn : bs.length < 281474976710656) (hb : ∀ b ∈ bs, b.length < 281474976710656) (key : List UInt8) :
    FnL Try.prog 3 [.p (.sl (sP bs)), .p (.str key)] [] fun z own => z = .p (.bool true) := by
  obtain ⟨zs, hzs⟩ : ∃ x, x = sP bs := ⟨_, rfl⟩
  rw [← hzs]
  have h1 := which_spec bs hn hb key zs hzs
  have h2 := rsound_spec bs hn hb zs hzs
  have h3 := rwhich_spec bs hn key zs hzs
  obtain ⟨S, hS⟩ : ∃ S, S = sndB bs := ⟨_, rfl⟩
  obtain ⟨w, hw⟩ : ∃ w, w = wh bs key := ⟨_, rfl⟩
  rw [← hS, ← hw] at h1
  rw [← hS] at h2
  rw [← hw] at h3
  refine fn_of_vc eOk fOk fo3 Try.func3 rfl rfl rfl fun B hB => ?_
  intro add sub mul quo rem band bor bxor bclr shl shr ieq ilt ile seq slt beq bnot orb bcond iwrap iof ssz hA cat sq sl imin imax smin smax len slen u8 hL op hop call hcall code hcode ret hret
  cbv
  refine hcall _ _ _ _ _ (CallEv.same h1 rfl ?_)
  rintro _ _ ⟨n, e, q1, q2, rfl, rfl⟩
  cbv
  refine hcall _ _ _ _ _ (CallEv.same h2 rfl ?_)
  rintro _ _ ⟨rfl, rfl⟩
  cbv
  by_cases hSS : S = true
  · rw [hSS, if_pos rfl] at q1 q2
    refine vcIf.no (by first | (simp [hA.not, hA.eq, hA.lt, hA.le, hA.cond, hA.beq, hA.orb, hL.len, hL.slen, hL.sq, hSS]; done) | (simp only [hSS]; simp [hA.not, hA.eq, hA.lt, hA.le, hA.cond, hA.beq, hA.orb, hL.len, hL.slen, hL.sq, hSS]; done) | (simp [hA.not, hA.eq, hA.lt, hA.le, hA.cond, hA.beq, hA.orb, hL.len, hL.slen, hL.sq, hSS]; omega) | (simp only [hSS]; simp [hA.not, hA.eq, hA.lt, hA.le, hA.cond, hA.beq, hA.orb, hL.len, hL.slen, hL.sq, hSS]; omega)) ?_
    cbv
    refine hcall _ _ _ _ _ (CallEv.same awake12_spec rfl ?_)
    rintro _ _ ⟨rfl, rfl⟩
    cbv
    repeat (first | (refine vcIf.yes ?_ ?_; (focus (simp [hA.not, hA.eq, hA.lt, hA.le, hA.cond, hA.beq, hA.orb, hL.len, hL.slen, hL.sq, q2]; done)); cbv) | (refine vcIf.no ?_ ?_; (focus (simp [hA.not, hA.eq, hA.lt, hA.le, hA.cond, hA.beq, hA.orb, hL.len, hL.slen, hL.sq, q2]; done)); cbv) | fail)
    refine hcall _ _ _ _ _ (CallEv.same h3 rfl ?_)
    rintro _ _ ⟨n', q3, rfl, rfl⟩
    cbv
    exact hret _ (RetEv.ret eOk rfl (by simp [hA.not, hA.eq, hA.lt, hA.le, hA.cond, hA.beq, hA.orb, hL.len, hL.slen, hL.sq, oneOf, q1, q2, q3]))
  · rw [if_neg hSS] at q1 q2
    have hSS := Bool.eq_false_iff.2 hSS
    refine vcIf.yes (by first | (simp [hA.not, hA.eq, hA.lt, hA.le, hA.cond, hA.beq, hA.orb, hL.len, hL.slen, hL.sq, hSS]; done) | (simp only [hSS]; simp [hA.not, hA.eq, hA.lt, hA.le, hA.cond, hA.beq, hA.orb, hL.len, hL.slen, hL.sq, hSS]; done) | (simp [hA.not, hA.eq, hA.lt, hA.le, hA.cond, hA.beq, hA.orb, hL.len, hL.slen, hL.sq, hSS]; omega) | (simp only [hSS]; simp [hA.not, hA.eq, hA.lt, hA.le, hA.cond, hA.beq, hA.orb, hL.len, hL.slen, hL.sq, hSS]; omega)) ?_
    cbv
    refine hcall _ _ _ _ _ (CallEv.same awake12_spec rfl ?_)
    rintro _ _ ⟨rfl, rfl⟩
    cbv
    repeat (first | (refine vcIf.yes ?_ ?_; (focus (simp [hA.not, hA.eq, hA.lt, hA.le, hA.cond, hA.beq, hA.orb, hL.len, hL.slen, hL.sq, q2]; done)); cbv) | (refine vcIf.no ?_ ?_; (focus (simp [hA.not, hA.eq, hA.lt, hA.le, hA.cond, hA.beq, hA.orb, hL.len, hL.slen, hL.sq, q2]; done)); cbv) | fail)
    exact hret _ (RetEv.ret eOk rfl (by simp [hA.not, hA.eq, hA.lt, hA.le, hA.cond, hA.beq, hA.orb, hL.len, hL.slen, hL.sq, oneOf, q1, q2]))

theorem shardsPiece (bs : BL) (hn : bs.length < 281474976710656) (hb : ∀ b ∈ bs, b.length < 281474976710656) (n : Int) :
    FnL Try.prog 4 [.p (.sl (sP bs)), .p (.int .i64 n)] [] fun z own => z = .p (.bool true) := by
  obtain ⟨zs, hzs⟩ : ∃ x, x = sP bs := ⟨_, rfl⟩
  rw [← hzs]
  have h1 := pieceT_spec bs hn hb n zs hzs
  have h2 := rsound_spec bs hn hb zs hzs
  have h3 := fun h => rpiece_spec bs hn n.toNat h zs hzs
  obtain ⟨N, hN⟩ : ∃ n, n = bs.length := ⟨_, rfl⟩
  have hzl : zs.length = N := by rw [hzs, sP_length, hN]
  obtain ⟨S, hS⟩ : ∃ S, S = sndB bs := ⟨_, rfl⟩
  obtain ⟨lo, hlo⟩ : ∃ x, x = pieceLo bs n := ⟨_, rfl⟩
  obtain ⟨hi, hhi⟩ : ∃ x, x = pieceHi bs n := ⟨_, rfl⟩
  obtain ⟨e, he⟩ : ∃ x, x = pieceE bs n := ⟨_, rfl⟩
  have hlo0 : e ≠ 0 → lo = [] := fun h => by rw [hlo, pieceLo, if_neg (by rw [← he]; exact h)]
  have hhi0 : e ≠ 0 → hi = [] := fun h => by rw [hhi, pieceHi, if_neg (by rw [← he]; exact h)]
  have hlo1 : e = 0 → lo = pcLo bs n.toNat := fun h => by rw [hlo, pieceLo, if_pos (by rw [← he]; exact h)]
  have hhi1 : e = 0 → hi = pcHi bs n.toNat := fun h => by rw [hhi, pieceHi, if_pos (by rw [← he]; exact h)]
  have g0 : S = false → e = 2 := fun h => by rw [he, pieceE, ← hS, h]; rfl
  have g1 : S = true → n < 0 → e = 1 := fun h h' => by rw [he, pieceE, ← hS, h, if_pos rfl, if_neg (by omega)]
  have g2 : S = true → Int.ofNat N < n → e = 1 := fun h h' => by rw [he, pieceE, ← hS, h, if_pos rfl, if_neg (by simp only [Int.ofNat_eq_natCast] at h'; omega)]
  have g3 : S = true → ¬ n < 0 → ¬ Int.ofNat N < n → e = 0 ∧ n.toNat ≤ N ∧ Int.ofNat n.toNat = n := fun h h1 h2 => by
    simp only [Int.ofNat_eq_natCast] at h2
    exact ⟨by rw [he, pieceE, ← hS, h, if_pos rfl, if_pos (by omega)], by omega, Int.toNat_of_nonneg (by omega)⟩
  rw [← hlo, ← hhi, ← he] at h1
  rw [← hS] at h2
  rw [← hN] at h3
  have heq := fun (a b c d : List UInt8) => spnEq a b c d
  refine fn_of_vc eOk fOk fo4 Try.func4 rfl rfl rfl fun B hB => ?_
  intro add sub mul quo rem band bor bxor bclr shl shr ieq ilt ile seq slt beq bnot orb bcond iwrap iof ssz hA cat sq sl imin imax smin smax len slen u8 hL op hop call hcall code hcode ret hret
  have hlen : len zs = Int.ofNat N := by rw [hL.len, hzl]; rfl
  cbv
  refine hcall _ _ _ _ _ (CallEv.same h1 rfl ?_)
  rintro _ _ ⟨rfl, rfl⟩
  cbv
  refine hcall _ _ _ _ _ (CallEv.same h2 rfl ?_)
  rintro _ _ ⟨rfl, rfl⟩
  cbv
  by_cases hSS : S = true
  · refine vcIf.no (by first | (simp [hA.not, hA.eq, hA.lt, hA.le, hA.cond, hA.beq, hA.orb, hL.len, hL.slen, hL.sq, hSS]; done) | (simp only [hSS]; simp [hA.not, hA.eq, hA.lt, hA.le, hA.cond, hA.beq, hA.orb, hL.len, hL.slen, hL.sq, hSS]; done) | (simp [hA.not, hA.eq, hA.lt, hA.le, hA.cond, hA.beq, hA.orb, hL.len, hL.slen, hL.sq, hSS]; omega) | (simp only [hSS]; simp [hA.not, hA.eq, hA.lt, hA.le, hA.cond, hA.beq, hA.orb, hL.len, hL.slen, hL.sq, hSS]; omega)) ?_
    cbv
    by_cases hn0 : n < 0
    · have hf := g1 hSS hn0
      have hf1 := hlo0 (by omega)
      have hf2 := hhi0 (by omega)
      refine vcIf.yes (by first | (simp [hA.not, hA.eq, hA.lt, hA.le, hA.cond, hA.beq, hA.orb, hL.len, hL.slen, hL.sq, hn0]; done) | (simp only [hn0]; simp [hA.not, hA.eq, hA.lt, hA.le, hA.cond, hA.beq, hA.orb, hL.len, hL.slen, hL.sq, hn0]; done) | (simp [hA.not, hA.eq, hA.lt, hA.le, hA.cond, hA.beq, hA.orb, hL.len, hL.slen, hL.sq, hn0]; omega) | (simp only [hn0]; simp [hA.not, hA.eq, hA.lt, hA.le, hA.cond, hA.beq, hA.orb, hL.len, hL.slen, hL.sq, hn0]; omega)) ?_
      cbv
      refine hcall _ _ _ _ _ (CallEv.same awake12_spec rfl ?_)
      rintro _ _ ⟨rfl, rfl⟩
      cbv
      repeat (first | (refine vcIf.yes ?_ ?_; (focus (simp [hA.not, hA.eq, hA.lt, hA.le, hA.cond, hA.beq, hA.orb, hL.len, hL.slen, hL.sq, hf]; done)); cbv) | (refine vcIf.no ?_ ?_; (focus (simp [hA.not, hA.eq, hA.lt, hA.le, hA.cond, hA.beq, hA.orb, hL.len, hL.slen, hL.sq, hf]; done)); cbv) | fail)
      refine hop _ _ _ _ (OpEv.aggEq (b := true) rfl rfl rfl (by kernel_rfl) (by kernel_rfl) (by kernel_rfl) ((spnEq lo hi [] []).trans (by rw [hf1, hf2]; rfl)) ?_)
      cbv
      exact hret _ (RetEv.ret eOk rfl (by simp [hA.not, hA.eq, hA.lt, hA.le, hA.cond, hA.beq, hA.orb, hL.len, hL.slen, hL.sq, oneOf, hf]))
    refine vcIf.no (by first | (simp [hA.not, hA.eq, hA.lt, hA.le, hA.cond, hA.beq, hA.orb, hL.len, hL.slen, hL.sq, hn0]; done) | (simp only [hn0]; simp [hA.not, hA.eq, hA.lt, hA.le, hA.cond, hA.beq, hA.orb, hL.len, hL.slen, hL.sq, hn0]; done) | (simp [hA.not, hA.eq, hA.lt, hA.le, hA.cond, hA.beq, hA.orb, hL.len, hL.slen, hL.sq, hn0]; omega) | (simp only [hn0]; simp [hA.not, hA.eq, hA.lt, hA.le, hA.cond, hA.beq, hA.orb, hL.len, hL.slen, hL.sq, hn0]; omega)) ?_
    cbv
    by_cases hnN : Int.ofNat N < n
    · have hf := g2 hSS hnN
      have hf1 := hlo0 (by omega)
      have hf2 := hhi0 (by omega)
      refine vcIf.yes (by first | (simp [hA.not, hA.eq, hA.lt, hA.le, hA.cond, hA.beq, hA.orb, hL.len, hL.slen, hL.sq, hlen, hnN]; done) | (simp only [hlen, hnN]; simp [hA.not, hA.eq, hA.lt, hA.le, hA.cond, hA.beq, hA.orb, hL.len, hL.slen, hL.sq, hlen, hnN]; done) | (simp [hA.not, hA.eq, hA.lt, hA.le, hA.cond, hA.beq, hA.orb, hL.len, hL.slen, hL.sq, hlen, hnN]; omega) | (simp only [hlen, hnN]; simp [hA.not, hA.eq, hA.lt, hA.le, hA.cond, hA.beq, hA.orb, hL.len, hL.slen, hL.sq, hlen, hnN]; omega)) ?_
      cbv
      refine hcall _ _ _ _ _ (CallEv.same awake12_spec rfl ?_)
      rintro _ _ ⟨rfl, rfl⟩
      cbv
      repeat (first | (refine vcIf.yes ?_ ?_; (focus (simp [hA.not, hA.eq, hA.lt, hA.le, hA.cond, hA.beq, hA.orb, hL.len, hL.slen, hL.sq, hf]; done)); cbv) | (refine vcIf.no ?_ ?_; (focus (simp [hA.not, hA.eq, hA.lt, hA.le, hA.cond, hA.beq, hA.orb, hL.len, hL.slen, hL.sq, hf]; done)); cbv) | fail)
      refine hop _ _ _ _ (OpEv.aggEq (b := true) rfl rfl rfl (by kernel_rfl) (by kernel_rfl) (by kernel_rfl) ((spnEq lo hi [] []).trans (by rw [hf1, hf2]; rfl)) ?_)
      cbv
      exact hret _ (RetEv.ret eOk rfl (by simp [hA.not, hA.eq, hA.lt, hA.le, hA.cond, hA.beq, hA.orb, hL.len, hL.slen, hL.sq, oneOf, hf]))
    obtain ⟨hf, hf2, hf3⟩ := g3 hSS hn0 hnN
    have h3 := h3 hf2
    rw [← hlo1 hf, ← hhi1 hf, hf3] at h3
    refine vcIf.no (by first | (simp [hA.not, hA.eq, hA.lt, hA.le, hA.cond, hA.beq, hA.orb, hL.len, hL.slen, hL.sq, hlen, hnN]; done) | (simp only [hlen, hnN]; simp [hA.not, hA.eq, hA.lt, hA.le, hA.cond, hA.beq, hA.orb, hL.len, hL.slen, hL.sq, hlen, hnN]; done) | (simp [hA.not, hA.eq, hA.lt, hA.le, hA.cond, hA.beq, hA.orb, hL.len, hL.slen, hL.sq, hlen, hnN]; omega) | (simp only [hlen, hnN]; simp [hA.not, hA.eq, hA.lt, hA.le, hA.cond, hA.beq, hA.orb, hL.len, hL.slen, hL.sq, hlen, hnN]; omega)) ?_
    cbv
    refine hcode _ _ _ (CodeEv.drawT eOk fOk (by kernel_rfl) noX (.acts (.cons 0 (.so 1 (.so 2 (.so 3 (.so 4 (.so 5 (.rd 6 (.rd 7 (.so 8 (.acts (.cons 9 (.acts (.cons 10 (.so 11 (.so 12 (.done))) (.nil))) (.nil))))))))))) (.nil))) (by kernel_rfl) (by kernel_rfl) ?_)
    intro add1 sub1 mul1 quo1 rem1 band1 bor1 bxor1 bclr1 shl1 shr1 ieq1 ilt1 ile1 seq1 slt1 beq1 bnot1 orb1 bcond1 iwrap1 iof1 ssz1 hA1 cat1 sq1 sl1 imin1 imax1 smin1 smax1 len1 slen1 u81 hL1 op1 hop1 call1 hcall1 code1 hcode1 q1 hq1
    cbv
    refine hcall1 _ _ _ _ _ (CallEv.same awake12_spec rfl ?_)
    rintro _ _ ⟨rfl, rfl⟩
    cbv
    refine vcIf.yes (by first | (simp [hA1.not, hA1.eq, hA1.lt, hA1.le, hA1.cond, hA1.beq, hA1.orb, hL1.len, hL1.slen, hL1.sq, hf]; done) | (simp only [hf]; simp [hA1.not, hA1.eq, hA1.lt, hA1.le, hA1.cond, hA1.beq, hA1.orb, hL1.len, hL1.slen, hL1.sq, hf]; done) | (simp [hA1.not, hA1.eq, hA1.lt, hA1.le, hA1.cond, hA1.beq, hA1.orb, hL1.len, hL1.slen, hL1.sq, hf]; omega) | (simp only [hf]; simp [hA1.not, hA1.eq, hA1.lt, hA1.le, hA1.cond, hA1.beq, hA1.orb, hL1.len, hL1.slen, hL1.sq, hf]; omega)) ?_
    cbv
    refine hcall1 _ _ _ _ _ (CallEv.same h3 rfl ?_)
    rintro _ _ ⟨rfl, rfl⟩
    cbv
    refine hop1 _ _ _ _ (OpEv.aggEq (b := true) rfl rfl rfl (by kernel_rfl) (by kernel_rfl) (by kernel_rfl) ((spnEq lo hi lo hi).trans (by simp)) ?_)
    cbv
    refine hq1 _ ?_
    cbv
    exact hret _ (RetEv.ret eOk rfl (by simp [hA1.not, hA1.eq, hA1.lt, hA1.le, hA1.cond, hA1.beq, hA1.orb, hL1.len, hL1.slen, hL1.sq, oneOf]))
  · have hf := g0 (Bool.eq_false_iff.2 hSS)
    have hSS := Bool.eq_false_iff.2 hSS
    have hf1 := hlo0 (by omega)
    have hf2 := hhi0 (by omega)
    refine vcIf.yes (by first | (simp [hA.not, hA.eq, hA.lt, hA.le, hA.cond, hA.beq, hA.orb, hL.len, hL.slen, hL.sq, hSS]; done) | (simp only [hSS]; simp [hA.not, hA.eq, hA.lt, hA.le, hA.cond, hA.beq, hA.orb, hL.len, hL.slen, hL.sq, hSS]; done) | (simp [hA.not, hA.eq, hA.lt, hA.le, hA.cond, hA.beq, hA.orb, hL.len, hL.slen, hL.sq, hSS]; omega) | (simp only [hSS]; simp [hA.not, hA.eq, hA.lt, hA.le, hA.cond, hA.beq, hA.orb, hL.len, hL.slen, hL.sq, hSS]; omega)) ?_
    cbv
    refine hcall _ _ _ _ _ (CallEv.same awake12_spec rfl ?_)
    rintro _ _ ⟨rfl, rfl⟩
    cbv
    repeat (first | (refine vcIf.yes ?_ ?_; (focus (simp [hA.not, hA.eq, hA.lt, hA.le, hA.cond, hA.beq, hA.orb, hL.len, hL.slen, hL.sq, hf]; done)); cbv) | (refine vcIf.no ?_ ?_; (focus (simp [hA.not, hA.eq, hA.lt, hA.le, hA.cond, hA.beq, hA.orb, hL.len, hL.slen, hL.sq, hf]; done)); cbv) | fail)
    refine hop _ _ _ _ (OpEv.aggEq (b := true) rfl rfl rfl (by kernel_rfl) (by kernel_rfl) (by kernel_rfl) ((spnEq lo hi [] []).trans (by rw [hf1, hf2]; rfl)) ?_)
    cbv
    exact hret _ (RetEv.ret eOk rfl (by simp [hA.not, hA.eq, hA.lt, hA.le, hA.cond, hA.beq, hA.orb, hL.len, hL.slen, hL.sq, oneOf, hf]))

theorem shardsOne (bs : BL) (hn : bs.length < 281474976710656) (hb : ∀ b ∈ bs, b.length < 281474976710656) (key : List UInt8) (hkey : key.length < 281474976710656) :
    FnL Try.prog 5 [.p (.sl (sP bs)), .p (.str key)] [] fun z own => z = .p (.bool true) := by
  obtain ⟨zs, hzs⟩ : ∃ x, x = sP bs := ⟨_, rfl⟩
  rw [← hzs]
  have h1 := which_spec bs hn hb key zs hzs
  have h2 := fun i => pieceT_spec bs hn hb (Int.ofNat i) zs hzs
  obtain ⟨N, hN⟩ : ∃ n, n = bs.length := ⟨_, rfl⟩
  have hzl : zs.length = N := by rw [hzs, sP_length, hN]
  obtain ⟨K, hK⟩ : ∃ n, n = key.length := ⟨_, rfl⟩
  have hlaw := fun (h : sndB bs = true) (hk : K ≤ 16) (i : Nat) (hi : i ≤ N) => one_law h key (by omega) i (by omega)
  have hpe : ∀ i, sndB bs = true → i ≤ N → pieceE bs (Int.ofNat i) = 0 := fun i h hi => by
    rw [pieceE, if_pos h, if_pos]; simp only [Int.ofNat_eq_natCast]; omega
  have hpl : ∀ i, sndB bs = true → i ≤ N → pieceLo bs (Int.ofNat i) = pcLo bs i := fun i h hi => by rw [pieceLo, if_pos (hpe i h hi)]; rfl
  have hph : ∀ i, sndB bs = true → i ≤ N → pieceHi bs (Int.ofNat i) = pcHi bs i := fun i h hi => by rw [pieceHi, if_pos (hpe i h hi)]; rfl
  obtain ⟨S, hS⟩ : ∃ S, S = sndB bs := ⟨_, rfl⟩
  obtain ⟨w, hw⟩ : ∃ w, w = wh bs key := ⟨_, rfl⟩
  rw [← hw] at hlaw
  rw [← hS, ← hw] at h1
  rw [← hS] at hlaw hpe hpl hph
  refine fn_of_vc eOk fOk fo5 Try.func5 rfl rfl rfl fun B hB => ?_
  intro add sub mul quo rem band bor bxor bclr shl shr ieq ilt ile seq slt beq bnot orb bcond iwrap iof ssz hA cat sq sl imin imax smin smax len slen u8 hL op hop call hcall code hcode ret hret
  have hkl : slen key = Int.ofNat K := by rw [hL.slen, hK]; rfl
  cbv
  refine hcall _ _ _ _ _ (CallEv.same h1 rfl ?_)
  rintro _ _ ⟨n, e, q1, q2, rfl, rfl⟩
  cbv
  refine hcall _ _ _ _ _ (CallEv.same awake12_spec rfl ?_)
  rintro _ _ ⟨rfl, rfl⟩
  cbv
  repeat (first | (refine vcIf.yes ?_ ?_; (focus (simp [hA.not, hA.eq, hA.lt, hA.le, hA.cond, hA.beq, hA.orb, hL.len, hL.slen, hL.sq]; done)); cbv) | (refine vcIf.no ?_ ?_; (focus (simp [hA.not, hA.eq, hA.lt, hA.le, hA.cond, hA.beq, hA.orb, hL.len, hL.slen, hL.sq]; done)); cbv) | fail)
  by_cases hSS : S = true
  · rw [hSS, if_pos rfl] at q1 q2
    refine vcIf.no (by first | (simp [hA.not, hA.eq, hA.lt, hA.le, hA.cond, hA.beq, hA.orb, hL.len, hL.slen, hL.sq, q2]; done) | (simp only [q2]; simp [hA.not, hA.eq, hA.lt, hA.le, hA.cond, hA.beq, hA.orb, hL.len, hL.slen, hL.sq, q2]; done) | (simp [hA.not, hA.eq, hA.lt, hA.le, hA.cond, hA.beq, hA.orb, hL.len, hL.slen, hL.sq, q2]; omega) | (simp only [q2]; simp [hA.not, hA.eq, hA.lt, hA.le, hA.cond, hA.beq, hA.orb, hL.len, hL.slen, hL.sq, q2]; omega)) ?_
    cbv
    by_cases hK16 : 16 < K
    · refine vcIf.yes (by first | (simp [hA.not, hA.eq, hA.lt, hA.le, hA.cond, hA.beq, hA.orb, hL.len, hL.slen, hL.sq, hkl, hK16]; done) | (simp only [hkl, hK16]; simp [hA.not, hA.eq, hA.lt, hA.le, hA.cond, hA.beq, hA.orb, hL.len, hL.slen, hL.sq, hkl, hK16]; done) | (simp [hA.not, hA.eq, hA.lt, hA.le, hA.cond, hA.beq, hA.orb, hL.len, hL.slen, hL.sq, hkl, hK16]; omega) | (simp only [hkl, hK16]; simp [hA.not, hA.eq, hA.lt, hA.le, hA.cond, hA.beq, hA.orb, hL.len, hL.slen, hL.sq, hkl, hK16]; omega)) ?_
      cbv
      refine hcall _ _ _ _ _ (CallEv.same awake12_spec rfl ?_)
      rintro _ _ ⟨rfl, rfl⟩
      cbv
      exact hret _ (RetEv.ret eOk rfl rfl)
    refine vcIf.no (by first | (simp [hA.not, hA.eq, hA.lt, hA.le, hA.cond, hA.beq, hA.orb, hL.len, hL.slen, hL.sq, hkl, hK16]; done) | (simp only [hkl, hK16]; simp [hA.not, hA.eq, hA.lt, hA.le, hA.cond, hA.beq, hA.orb, hL.len, hL.slen, hL.sq, hkl, hK16]; done) | (simp [hA.not, hA.eq, hA.lt, hA.le, hA.cond, hA.beq, hA.orb, hL.len, hL.slen, hL.sq, hkl, hK16]; omega) | (simp only [hkl, hK16]; simp [hA.not, hA.eq, hA.lt, hA.le, hA.cond, hA.beq, hA.orb, hL.len, hL.slen, hL.sq, hkl, hK16]; omega)) ?_
    cbv
    refine hcode _ _ _ (CodeEv.loop eOk fOk (ι := Nat) (fun s => [(0, .p (.sl zs)), (1, .p (.str key)), (5, .p (.int .i64 (Int.ofNat n))), (7, .p (.int .i64 (Int.ofNat s)))])
      (fun s => []) (fun s => s ≤ N + 1) (fun s => N + 1 - s) 0 ?_ ?_)
    · exact ⟨(by repeat (first | exact trivial | refine And.intro rfl ?_)), rfl, Nat.zero_le _⟩
    rintro i k1 rd hrd
    by_cases hi : i ≤ N
    · have h2 := h2 i
      rw [hpe i hSS hi, hpl i hSS hi, hph i hSS hi] at h2
      have h3 := rhas_spec (pcLo bs i) (pcHi bs i) key
      rw [hlaw hSS (by omega) i hi] at h3
      refine Exists.elim (show ∃ b, b = pcLo bs i from ⟨_, rfl⟩) fun lo hlo => ?_
      refine Exists.elim (show ∃ b, b = pcHi bs i from ⟨_, rfl⟩) fun hii hhi => ?_
      refine Exists.elim (show ∃ b, b = decide (i = w) from ⟨_, rfl⟩) fun b hb => ?_
      rw [← hlo, ← hhi] at h2 h3
      rw [← hb] at h3
      clear hlo hhi
      intro add1 sub1 mul1 quo1 rem1 band1 bor1 bxor1 bclr1 shl1 shr1 ieq1 ilt1 ile1 seq1 slt1 beq1 bnot1 orb1 bcond1 iwrap1 iof1 ssz1 hA1 cat1 sq1 sl1 imin1 imax1 smin1 smax1 len1 slen1 u81 hL1 op1 hop1 call1 hcall1 code1 hcode1
      have e0 : len1 zs = Int.ofNat N := by rw [hL1.len, hzl]; rfl
      have hadd1 : add1 .i64 (Int.ofNat i) 1 = Int.ofNat (i + 1) := by rw [hA1.add, IntWalk.i64_in _ (by simp only [Int.ofNat_eq_natCast]; omega)]; rfl
      have hbe : ieq1 (Int.ofNat i) (Int.ofNat n) = b := by
        rw [hA1.eq, hb, q1]
        simp only [Int.ofNat_eq_natCast]
        by_cases h : i = w
        · simp [h]
        · have : ¬ ((i : Int) = (w : Int)) := by omega
          simp [h, this]
      cbv
      refine vcIf.yes (by first | (simp [hA1.not, hA1.eq, hA1.lt, hA1.le, hA1.cond, hA1.beq, hA1.orb, hL1.len, hL1.slen, hL1.sq, e0, hi]; done) | (simp only [e0, hi]; simp [hA1.not, hA1.eq, hA1.lt, hA1.le, hA1.cond, hA1.beq, hA1.orb, hL1.len, hL1.slen, hL1.sq, e0, hi]; done) | (simp [hA1.not, hA1.eq, hA1.lt, hA1.le, hA1.cond, hA1.beq, hA1.orb, hL1.len, hL1.slen, hL1.sq, e0, hi]; omega) | (simp only [e0, hi]; simp [hA1.not, hA1.eq, hA1.lt, hA1.le, hA1.cond, hA1.beq, hA1.orb, hL1.len, hL1.slen, hL1.sq, e0, hi]; omega)) ?_
      cbv
      refine hcall1 _ _ _ _ _ (CallEv.same h2 rfl ?_)
      rintro _ _ ⟨rfl, rfl⟩
      cbv
      repeat (first | (refine vcIf.yes ?_ ?_; (focus (simp [hA1.not, hA1.eq, hA1.lt, hA1.le, hA1.cond, hA1.beq, hA1.orb, hL1.len, hL1.slen, hL1.sq]; done)); cbv) | (refine vcIf.no ?_ ?_; (focus (simp [hA1.not, hA1.eq, hA1.lt, hA1.le, hA1.cond, hA1.beq, hA1.orb, hL1.len, hL1.slen, hL1.sq]; done)); cbv) | fail)
      refine hcall1 _ _ _ _ _ (CallEv.same h3 rfl ?_)
      rintro _ _ ⟨rfl, rfl⟩
      cbv
      refine vcIf.no (by first | (simp [hA1.not, hA1.eq, hA1.lt, hA1.le, hA1.cond, hA1.beq, hA1.orb, hL1.len, hL1.slen, hL1.sq, hbe]; done) | (simp only [hbe]; simp [hA1.not, hA1.eq, hA1.lt, hA1.le, hA1.cond, hA1.beq, hA1.orb, hL1.len, hL1.slen, hL1.sq, hbe]; done) | (simp [hA1.not, hA1.eq, hA1.lt, hA1.le, hA1.cond, hA1.beq, hA1.orb, hL1.len, hL1.slen, hL1.sq, hbe]; omega) | (simp only [hbe]; simp [hA1.not, hA1.eq, hA1.lt, hA1.le, hA1.cond, hA1.beq, hA1.orb, hL1.len, hL1.slen, hL1.sq, hbe]; omega)) ?_
      cbv
      refine hrd _ ⟨i + 1, _, ?_, by omega, rfl, ⟨rfl, rfl, rfl, ?_, trivial⟩, rfl, rfl, rfl, ?_⟩
      · show N + 1 - (i + 1) < N + 1 - i
        omega
      · show some (V.p (.int .i64 _)) = _
        rw [hadd1]
      · rw [hB]; exact Nat.zero_le _
    · intro add1 sub1 mul1 quo1 rem1 band1 bor1 bxor1 bclr1 shl1 shr1 ieq1 ilt1 ile1 seq1 slt1 beq1 bnot1 orb1 bcond1 iwrap1 iof1 ssz1 hA1 cat1 sq1 sl1 imin1 imax1 smin1 smax1 len1 slen1 u81 hL1 op1 hop1 call1 hcall1 code1 hcode1
      have e0 : len1 zs = Int.ofNat N := by rw [hL1.len, hzl]; rfl
      cbv
      refine vcIf.no (by first | (simp [hA1.not, hA1.eq, hA1.lt, hA1.le, hA1.cond, hA1.beq, hA1.orb, hL1.len, hL1.slen, hL1.sq, e0, hi]; done) | (simp only [e0, hi]; simp [hA1.not, hA1.eq, hA1.lt, hA1.le, hA1.cond, hA1.beq, hA1.orb, hL1.len, hL1.slen, hL1.sq, e0, hi]; done) | (simp [hA1.not, hA1.eq, hA1.lt, hA1.le, hA1.cond, hA1.beq, hA1.orb, hL1.len, hL1.slen, hL1.sq, e0, hi]; omega) | (simp only [e0, hi]; simp [hA1.not, hA1.eq, hA1.lt, hA1.le, hA1.cond, hA1.beq, hA1.orb, hL1.len, hL1.slen, hL1.sq, e0, hi]; omega)) ?_
      cbv
      exact hret _ (RetEv.ret eOk rfl rfl)
  · rw [if_neg hSS] at q1 q2
    refine vcIf.yes (by first | (simp [hA.not, hA.eq, hA.lt, hA.le, hA.cond, hA.beq, hA.orb, hL.len, hL.slen, hL.sq, q2]; done) | (simp only [q2]; simp [hA.not, hA.eq, hA.lt, hA.le, hA.cond, hA.beq, hA.orb, hL.len, hL.slen, hL.sq, q2]; done) | (simp [hA.not, hA.eq, hA.lt, hA.le, hA.cond, hA.beq, hA.orb, hL.len, hL.slen, hL.sq, q2]; omega) | (simp only [q2]; simp [hA.not, hA.eq, hA.lt, hA.le, hA.cond, hA.beq, hA.orb, hL.len, hL.slen, hL.sq, q2]; omega)) ?_
    cbv
    refine hcall _ _ _ _ _ (CallEv.same awake12_spec rfl ?_)
    rintro _ _ ⟨rfl, rfl⟩
    cbv
    exact hret _ (RetEv.ret eOk rfl rfl)
end Go.Proofs.Ytknhlbohjiphgaa
