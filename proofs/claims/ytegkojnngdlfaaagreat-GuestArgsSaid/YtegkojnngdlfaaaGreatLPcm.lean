/- LPa6, LPa7, LPa8, LPa9 together. Conditions: on sizes. -/
import Derived.Test.YtegkojnngdlfaaaGreatLPbm
import Derived.Test.YtegkojnngdlfaaaGreatLY10
set_option maxRecDepth 100000
set_option maxHeartbeats 16000000
set_option linter.unusedSimpArgs false
set_option linter.unusedVariables false
section
namespace Go.Proofs.YtegkojnngdlfaaaGreat
open Go Go.Lx
open Go.Sx (vcIf)

end Go.Proofs.YtegkojnngdlfaaaGreat
end
section
namespace Go.Proofs.YtegkojnngdlfaaaGreat
open Go Go.Lx
open Go.Sx (vcIf)

/-- What a call of Forget answers. -/
def fgE (l v : Int) : Nat := if l < v then 8 else 0
end Go.Proofs.YtegkojnngdlfaaaGreat
end
section
namespace Go.Proofs.YtegkojnngdlfaaaGreat
open Go Go.Lx
open Go.Sx (vcIf)

theorem flat_get (s : List UInt8) (b : Bool) (e : Int) : V.Flat (.p (.tup [.str s, .bool b, .int .i64 e])) := .p _ (.tup _ fun c hc => by
  simp only [List.mem_cons, List.not_mem_nil, or_false] at hc
  rcases hc with rfl | rfl | rfl <;> constructor)
def awC : Chg := ⟨1, [97], [49]⟩
theorem aw_get5 : lk (whole [] [⟨5, [awC]⟩] 5) [97] = some [49] := by decide
theorem aw_get4 : lk (whole [] [⟨5, [awC]⟩] 4) [97] = none := by decide
end Go.Proofs.YtegkojnngdlfaaaGreat
end
section
namespace Go.Proofs.YtegkojnngdlfaaaGreat
open Go Go.Lx
open Go.Sx (vcIf)

theorem chks_append : ∀ (a b : List Chg), chks a = 0 → chks (a ++ b) = chks b
  | [], _, _ => rfl
  | c :: r, b, h => by
    have h1 : chk c = 0 ∧ chks r = 0 := by
      unfold chks at h
      split at h
      · rename_i h1; exact absurd h h1
      · rename_i h1; exact ⟨by omega, h⟩
    have h2 := chks_append r b h1.2
    rw [List.cons_append]
    show (if chk c ≠ 0 then chk c else chks (r ++ b)) = _
    rw [if_neg (by omega)]
    exact h2
theorem cP_append (a b : List Chg) : cP (a ++ b) = cP a ++ cP b := List.map_append
theorem lsub {a f l v : Int} {zs : List PV} {xs : List PV} {n : Nat} (h : n = xs.length) : xs = (xs.drop 0).take n := by rw [List.drop_zero, h, List.take_length]
theorem prP_Flat (l : List Pr) : ∀ x ∈ prP l, PV.Flat x := fun x hx => by
  obtain ⟨p, _, rfl⟩ := List.mem_map.1 hx
  refine .agg _ fun c hc => ?_
  simp only [List.mem_cons, List.not_mem_nil, or_false] at hc
  rcases hc with rfl | rfl <;> exact .str _
theorem flat_list {us : List PV} {T : TypeId} (h : us = [] ∨ ∃ l, us = prP l) {m e : Nat} : V.Flat (.tup [.vw 0 2 0 m none, .p (.int .i64 (Int.ofNat e))]) ∧ ∀ r ∈ [Res.arr T 2 us], Res.Flat r := by
  refine ⟨.tup _ fun c hc => ?_, fun r hr => ?_⟩
  · simp only [List.mem_cons, List.not_mem_nil, or_false] at hc
    rcases hc with rfl | rfl
    · exact .vw _ _ _ _ _
    · exact .p _ (.int _ _)
  · simp only [List.mem_cons, List.not_mem_nil, or_false] at hr
    subst hr
    rcases h with rfl | ⟨l, rfl⟩
    · intro x hx; cases hx
    · exact prP_Flat l
theorem flat_l1 {m e : Nat} : V.Flat (.tup [.vw 0 2 0 m none, .p (.int .i64 (Int.ofNat e))]) := (flat_list (us := []) (T := 0) (.inl rfl)).1
theorem flat_l2 {us : List PV} {T : TypeId} {l : List Pr} (h : us = prP l) : ∀ r ∈ [Res.arr T 2 us], Res.Flat r := (flat_list (m := 0) (e := 0) (.inr ⟨l, h⟩)).2
/-- What a list shows. -/
def lst (ps : List Pr) (s : Spn) (most : Int) : List Pr := (ps.filter fun p => hs s p.key).take most.toNat

def liE (f l v most : Int) : Nat := if knw f l v ≠ 0 then knw f l v else if most < 0 then 1 else 0
def liP (f l : Int) (ps : List Pr) (ls : List Lay) (v : Int) (s : Spn) (most : Int) : List Pr := if knw f l v = 0 ∧ ¬ most < 0 then lst (whole ps ls v) s most else []
def gtE (f l v : Int) : Nat := knw f l v
def gtO (f l : Int) (ps : List Pr) (ls : List Lay) (v : Int) (k : List UInt8) : Option (List UInt8) := if knw f l v = 0 then lk (whole ps ls v) k else none
end Go.Proofs.YtegkojnngdlfaaaGreat
end
