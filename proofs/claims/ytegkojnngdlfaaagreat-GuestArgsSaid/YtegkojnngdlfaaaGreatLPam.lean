/- LPa1, LPi4, LPi3, LPd3, LPa2 together. Conditions: on sizes. -/
import Derived.Test.YtegkojnngdlfaaaGreatLPrm
import Derived.Test.YtegkojnngdlfaaaGreatLBk1
import Derived.Test.YtegkojnngdlfaaaGreatLY9
set_option maxRecDepth 100000
set_option maxHeartbeats 16000000
set_option linter.unusedSimpArgs false
set_option linter.unusedVariables false
section
namespace Go.Proofs.YtegkojnngdlfaaaGreat
open Go Go.Lx
open Go.Sx (vcIf)

structure Lay where
  ver : Int
  ch : List Chg
def Lay.v (l : Lay) : PV := .agg [.int .i64 l.ver, .sl (cP l.ch)]
def layP (l : List Lay) : List PV := l.map Lay.v
theorem layP_length (l : List Lay) : (layP l).length = l.length := List.length_map _
theorem layP_get {l : List Lay} {i : Nat} {b : Lay} (h : l[i]? = some b) : (layP l)[i]? = some (.agg [.int .i64 b.ver, .sl (cP b.ch)]) := by unfold layP; rw [List.getElem?_map, h]; rfl
theorem Lay.wf (l : Lay) : l.v.wf 2 := ⟨rfl, fun u hu => by
  simp only [Lay.v, PV.cells, List.mem_cons, List.not_mem_nil, or_false] at hu
  rcases hu with rfl | rfl <;> rfl⟩
theorem layP_wf (ls : List Lay) : Wf 2 (layP ls) := fun x hx => by
  obtain ⟨p, _, rfl⟩ := List.mem_map.1 hx; exact p.wf
theorem layP_append (a b : List Lay) : layP (a ++ b) = layP a ++ layP b := List.map_append
theorem layP_take (a : List Lay) (n : Nat) : layP (a.take n) = (layP a).take n := List.map_take
theorem layP_drop (a : List Lay) (n : Nat) : layP (a.drop n) = (layP a).drop n := List.map_drop
theorem layP_shape {ls : List Lay} {zs : List PV} (h : zs = layP ls) (i : Nat) (z : PV) (hz : zs[i]? = some z) : z.isAgg = true ∧ z.cells.length = 2 := by
  rw [h] at hz; unfold layP at hz; rw [List.getElem?_map] at hz
  cases hl : ls[i]? with
  | none => rw [hl] at hz; cases hz
  | some l => rw [hl] at hz; cases hz; exact ⟨rfl, rfl⟩

/-- How many layers are not above a version. -/
def upto : List Lay → Int → Nat
  | [], _ => 0
  | l :: r, v => if v < l.ver then 0 else upto r v + 1
theorem upto_le (v : Int) : ∀ ls, upto ls v ≤ ls.length
  | [] => Nat.le_refl _
  | l :: r => by
    unfold upto; split
    · omega
    · have := upto_le v r; simp only [List.length_cons]; omega
theorem upto_below (v : Int) : ∀ (ls : List Lay) (i : Nat) (l : Lay), i < upto ls v → ls[i]? = some l → l.ver ≤ v
  | a :: r, i, l, h, hl => by
    unfold upto at h; split at h
    · omega
    · cases i with
      | zero => simp at hl; subst hl; omega
      | succ i => exact upto_below v r i l (by omega) (by simpa using hl)
theorem upto_at (v : Int) : ∀ (ls : List Lay) (l : Lay), ls[upto ls v]? = some l → v < l.ver
  | a :: r, l, hl => by
    unfold upto at hl; split at hl
    · simp at hl; subst hl; assumption
    · exact upto_at v r l (by simpa using hl)
theorem upto_eq (v : Int) {ls : List Lay} {k : Nat} (hk : k ≤ ls.length) (h1 : ∀ (i : Nat) (l : Lay), i < k → ls[i]? = some l → l.ver ≤ v) (h2 : ∀ l, ls[k]? = some l → v < l.ver) : upto ls v = k := by
  rcases Nat.lt_trichotomy (upto ls v) k with h | h | h
  · obtain ⟨l, hl⟩ := get_of_lt (show upto ls v < ls.length by omega)
    have := upto_at v ls l hl
    have := h1 _ l h hl
    omega
  · exact h
  · obtain ⟨l, hl⟩ := get_of_lt (show k < ls.length by have := upto_le v ls; omega)
    have := upto_below v ls k l h hl
    have := h2 l hl
    omega

structure Ps where
  at' : Int
  pairs : List Pr
  ls : List Lay
  first : Int
  last : Int
/-- A Past, shown as settled. -/
abbrev psI (a f l : Int) (zs ys : List PV) : V := .imm 5 (.agg [.int .i64 a, .sl zs, .sl ys, .int .i64 f, .int .i64 l]) 0
def knw (f l v : Int) : Nat := if v < f then 7 else if l < v then 8 else 0

def kept (c : Chg) : Nat := if c.kind = 1 then 1 else 0
end Go.Proofs.YtegkojnngdlfaaaGreat
end
section
namespace Go.Proofs.YtegkojnngdlfaaaGreat
open Go Go.Lx
open Go.Sx (vcIf)

end Go.Proofs.YtegkojnngdlfaaaGreat
end
section
namespace Go.Proofs.YtegkojnngdlfaaaGreat
open Go Go.Lx
open Go.Sx (vcIf)

end Go.Proofs.YtegkojnngdlfaaaGreat
end
section
namespace Go.Proofs.YtegkojnngdlfaaaGreat
open Go Go.Lx
open Go.Sx (vcIf)

end Go.Proofs.YtegkojnngdlfaaaGreat
end
section
namespace Go.Proofs.YtegkojnngdlfaaaGreat
open Go Go.Lx
open Go.Sx (vcIf)

/-- What layers make of pairs. -/
def lays (ps : List Pr) (ls : List Lay) : List Pr := ls.foldl (fun ps l => ones ps l.ch) ps
def whole (ps : List Pr) (ls : List Lay) (v : Int) : List Pr := lays ps (ls.take (upto ls v))
theorem lays_next (ps : List Pr) {ls : List Lay} {k : Nat} {l : Lay} (h : ls[k]? = some l) : lays ps (ls.take (k + 1)) = ones (lays ps (ls.take k)) l.ch := by
  unfold lays; rw [List.take_add_one, h, List.foldl_append]; rfl
theorem lays_srt : ∀ (ls : List Lay) {ps : List Pr}, Srt ps → Srt (lays ps ls)
  | [], _, h => h
  | l :: r, _, h => lays_srt r (ones_srt h l.ch)
theorem lays_len {M : Nat} : ∀ (ls : List Lay) {ps : List Pr}, Srt ps → (∀ l ∈ ls, l.ch.length ≤ M) → (lays ps ls).length ≤ ps.length + ls.length * M
  | [], _, _, _ => by simp [lays]
  | l :: r, ps, h, hM => by
    have h1 := lays_len r (ones_srt h l.ch) (fun c hc => hM c (by simp [hc]))
    have h2 := ones_len h l.ch
    have h3 := hM l (by simp)
    have e : lays ps (l :: r) = lays (ones ps l.ch) r := rfl
    rw [e]
    simp only [List.length_cons, Nat.add_mul]
    omega
theorem lays_take_len {ls : List Lay} {M : Nat} {ps : List Pr} (hs : Srt ps) (hM : ∀ l ∈ ls, l.ch.length ≤ M) {i : Nat} (hi : i ≤ ls.length) : (lays ps (ls.take i)).length ≤ ps.length + i * M := by
  have := lays_len (M := M) (ls.take i) hs (fun b hb => hM b (List.mem_of_mem_take hb))
  rwa [List.length_take, Nat.min_eq_left hi] at this

theorem bnd_le {n a K : Nat} (h : n ≤ a) (hk : (a + 1) * 32 ≤ K) : (n + 1) * 32 ≤ K := Nat.le_trans (Nat.mul_le_mul_right _ (Nat.succ_le_succ h)) hk
theorem bnd_le0 {n a b K : Nat} (hk : (n + a + 1) * 32 ≤ K) : n * 32 ≤ K := Nat.le_trans (Nat.mul_le_mul_right _ (by omega)) hk

end Go.Proofs.YtegkojnngdlfaaaGreat
end
