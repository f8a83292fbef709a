/- In which piece a key is: the program's answer and the document's. Conditions: on sizes. -/
import Derived.Test.YtdeolllpbflemaaLSh2
set_option maxRecDepth 100000
set_option maxHeartbeats 8000000
set_option linter.unusedSimpArgs false
set_option linter.unusedVariables false
namespace Go.Proofs.Ytdeolllpbflemaa
open Go Go.Lx
open Go.Sx (vcIf)

theorem snd_mono {bs : BL} (h : sndB bs = true) : ∀ (d p : Nat) (a b : List UInt8), bs[p]? = some a → bs[p + d + 1]? = some b → bl a b = true
  | 0, p, a, b, ha, hb => by
    have h := (of_decide_eq_true h).2 (p + 1) (List.getElem?_eq_some_iff.1 hb).1
    rcases ((gB_some hb).1 h).2.2 with c | c
    · omega
    · rw [Nat.add_sub_cancel, Nat.add_zero, List.getD_eq_getElem?_getD, ha] at c; exact c
  | d + 1, p, a, b, ha, hb => by
    have hlt := (List.getElem?_eq_some_iff.1 hb).1
    obtain ⟨m, hm⟩ := get_of_lt (show p + d + 1 < bs.length by omega)
    exact bl_trans (snd_mono h d p a m ha hm) (snd_mono h 0 (p + d + 1) m b hm (by rw [← hb]; rfl))
theorem snd_lt {bs : BL} (h : sndB bs = true) {p q : Nat} {a b : List UInt8} (ha : bs[p]? = some a) (hb : bs[q]? = some b) (hpq : p < q) : bl a b = true :=
  snd_mono h (q - p - 1) p a b ha (by rw [show p + (q - p - 1) + 1 = q by omega]; exact hb)
/-- How many bounds are not above a key, before the first that is. -/
def wh : BL → List UInt8 → Nat
  | [], _ => 0
  | b :: r, k => if bl k b = true then 0 else wh r k + 1
theorem wh_le : ∀ (bs : BL) (k : List UInt8), wh bs k ≤ bs.length
  | [], _ => Nat.le_refl _
  | b :: r, k => by
    unfold wh; split
    · exact Nat.zero_le _
    · simp only [List.length_cons]; have := wh_le r k; omega
theorem wh_eq : ∀ (n : Nat) (bs : BL) (k : List UInt8), n ≤ bs.length → (∀ q b, q < n → bs[q]? = some b → bl k b = false) → (∀ b, bs[n]? = some b → bl k b = true) → wh bs k = n
  | 0, [], k, _, _, _ => rfl
  | 0, b :: r, k, _, _, h => by unfold wh; rw [if_pos (h b rfl)]
  | n + 1, [], k, h, _, _ => by simp at h
  | n + 1, b :: r, k, h1, h2, h3 => by
    unfold wh
    rw [if_neg (by rw [h2 0 b (Nat.succ_pos n) rfl]; decide), wh_eq n r k (by simpa using h1) (fun q c hq hc => h2 (q + 1) c (by omega) hc) (fun c hc => h3 c hc)]
theorem wh_of {bs : BL} (hs : sndB bs = true) {k : List UInt8} {i : Nat} (hi : i ≤ bs.length) (h1 : ∀ q b, q < i → bs[q]? = some b → bl b k = true) (h2 : ∀ q b, i ≤ q → bs[q]? = some b → bl b k = false) :
    wh bs k = if bs[i]? = some k then i + 1 else i := by
  split
  · rename_i h
    refine wh_eq (i + 1) bs k (List.getElem?_eq_some_iff.1 h).1 (fun q b hq hb => ?_) (fun b hb => snd_lt hs h hb (Nat.lt_succ_self i))
    rcases Nat.lt_succ_iff_lt_or_eq.1 hq with c | c
    · exact bl_asymm (h1 q b c hb)
    · rw [c, h] at hb; cases hb; exact bl_irrefl k
  · rename_i h
    refine wh_eq i bs k hi (fun q b hq hb => bl_asymm (h1 q b hq hb)) (fun b hb => ?_)
    have := h2 i b (Nat.le_refl _) hb
    rcases bl_tri b k with c | c | c
    · rw [this] at c; cases c
    · rw [c] at hb; exact absurd hb h
    · exact c

theorem cNan_spec (a : List UInt8) : FnL Try.prog 66 [.p (.str a)] [] fun v own => v = .p (.bool false) ∧ own = [] := by
  refine FnL.flat (R := fun v own => v = .p (.bool false)) ?_ (by rintro _ _ rfl; exact ⟨_, _, rfl, .refl _, rfl, rfl⟩)
  refine fn_of_vc eOk fOk fo66 Try.func66 rfl rfl rfl fun B hB => ?_
  intro add sub mul quo rem band bor bxor bclr shl shr ieq ilt ile seq slt beq bnot orb bcond iwrap iof ssz hA cat sq sl imin imax smin smax len slen u8 hL op hop call hcall code hcode ret hret
  cbv
  refine hret _ (RetEv.ret eOk rfl ?_)
  show V.p (.bool (bnot (sq a a))) = _
  rw [hA.not, hL.sq]; simp
end Go.Proofs.Ytdeolllpbflemaa
