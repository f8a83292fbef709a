/- BallotOnce: whatever is asked of councils, no two states are taken by majorities. Conditions: on sizes. -/
import Derived.Test.YtdbagbklhchbkaaLPx3
set_option maxRecDepth 100000
set_option maxHeartbeats 400000000
set_option linter.unusedSimpArgs false
set_option linter.unusedVariables false
namespace Go.Proofs.Ytdbagbklhchbkaa
open Go Go.Lx
open Go.Sx (vcIf)

def cellsO (b n : Nat) : Nat → List V
  | 0 => [.p .nils, .p .nils, .p .nils, .p .nils, .p .nils, .p .nils]
  | 1 => [.vw b 1 0 n none, .p .nils, .p .nils, .p .nils, .p .nils, .p .nils]
  | 2 => [.vw b 1 0 n none, .vw (b + 1) 1 0 n none, .p .nils, .p .nils, .p .nils, .p .nils]
  | 3 => [.vw b 1 0 n none, .vw (b + 1) 1 0 n none, .vw (b + 2) 1 0 n none, .p .nils, .p .nils, .p .nils]
  | 4 => [.vw b 1 0 n none, .vw (b + 1) 1 0 n none, .vw (b + 2) 1 0 n none, .vw (b + 3) 1 0 n none, .p .nils, .p .nils]
  | 5 => [.vw b 1 0 n none, .vw (b + 1) 1 0 n none, .vw (b + 2) 1 0 n none, .vw (b + 3) 1 0 n none, .vw (b + 4) 1 0 n none, .p .nils]
  | _ => [.vw b 1 0 n none, .vw (b + 1) 1 0 n none, .vw (b + 2) 1 0 n none, .vw (b + 3) 1 0 n none, .vw (b + 4) 1 0 n none, .vw (b + 5) 1 0 n none]
def rowsO (Z : List PV) : Nat → List Res
  | 0 => []
  | i + 1 => .arr 4 1 Z :: rowsO Z i
abbrev V0 (n : Nat) : List PV := List.replicate n (nvP 0 0 0 0 0 0)
abbrev nilO : List V := [.p .nils, .p .nils, .p .nils, .p .nils, .p .nils, .p .nils]
def ownA (vp ms Z : List PV) (n i : Nat) : List Res := [.arr 31 8 vp, .st 37 nilO, .arr 29 4 ms, .st 47 (cellsO 4 n i)] ++ rowsO Z i
def ownB (vp ms Z : List PV) (n i : Nat) : List Res := [.arr 31 8 vp, .st 37 nilO, .arr 29 4 ms, .st 47 (cellsO 4 n 6)] ++ rowsO Z 6 ++ [.st 29 [.p (.int .i64 0), .p (.int .i64 0), .p (.int .i64 0), .p .nils], .st 47 (cellsO 12 n i)] ++ rowsO Z i
abbrev frA (sp : List PV) (n i : Nat) : List (Nat × V) := [(1, .p (.sl sp)), (4, .p (.bool false)), (5, .p (.int .i64 (Int.ofNat n))), (6, .vw 0 8 0 n none), (7, .vw 1 1 0 6 none), (8, .vw 2 4 0 6 none), (9, .vw 3 1 0 6 none), (10, .p (.int .i64 (Int.ofNat i)))]
abbrev frB (sp : List PV) (n i : Nat) : List (Nat × V) := [(1, .p (.sl sp)), (4, .p (.bool false)), (5, .p (.int .i64 (Int.ofNat n))), (6, .vw 0 8 0 n none), (7, .vw 1 1 0 6 none), (8, .vw 2 4 0 6 none), (9, .vw 3 1 0 6 none), (11, .own 10 0), (12, .vw 11 1 0 6 none), (13, .p (.int .i64 (Int.ofNat i)))]
abbrev frC (sp : List PV) (n i : Nat) : List (Nat × V) := [(1, .p (.sl sp)), (4, .p (.bool false)), (5, .p (.int .i64 (Int.ofNat n))), (6, .vw 0 8 0 n none), (7, .vw 1 1 0 6 none), (8, .vw 2 4 0 6 none), (9, .vw 3 1 0 6 none), (11, .own 10 0), (12, .vw 11 1 0 6 none), (14, .p (.int .i64 (Int.ofNat i)))]
def ownC (n : Nat) (x : Ix) : List Res := [.arr 31 8 x.vp, .st 37 [.vw 18 8 0 (x.L 0) none, .vw 19 8 0 (x.L 1) none, .vw 20 8 0 (x.L 2) none, .vw 21 8 0 (x.L 3) none, .vw 22 8 0 (x.L 4) none, .vw 23 8 0 (x.L 5) none], .arr 29 4 x.ms,
  .st 47 [.vw 4 1 0 n none, .vw 5 1 0 n none, .vw 6 1 0 n none, .vw 7 1 0 n none, .vw 8 1 0 n none, .vw 9 1 0 n none], .arr 4 1 (x.A 0), .arr 4 1 (x.A 1), .arr 4 1 (x.A 2), .arr 4 1 (x.A 3), .arr 4 1 (x.A 4), .arr 4 1 (x.A 5),
  .st 29 [.p (.int .i64 x.ch), .p (.int .i64 x.ch), .p (.int .i64 0), .p .nils], .st 47 [.vw 12 1 0 n none, .vw 13 1 0 n none, .vw 14 1 0 n none, .vw 15 1 0 n none, .vw 16 1 0 n none, .vw 17 1 0 n none],
  .arr 4 1 (x.K 0), .arr 4 1 (x.K 1), .arr 4 1 (x.K 2), .arr 4 1 (x.K 3), .arr 4 1 (x.K 4), .arr 4 1 (x.K 5), .arr 31 8 (x.T 0), .arr 31 8 (x.T 1), .arr 31 8 (x.T 2), .arr 31 8 (x.T 3), .arr 31 8 (x.T 4), .arr 31 8 (x.T 5)]
structure Sp where
  what : Int
  council : Int
  ballot : Int
def Sp.v (x : Sp) : PV := .agg [.int .i64 x.what, .int .i64 x.council, .int .i64 x.ballot]
def ix0 (n : Nat) (Z ms : List PV) : Ix := ⟨0, Px.zero, List.replicate n zeroN, V0 n, ms, fun _ => Z, fun _ => Z, fun _ => [], fun _ => [], fun _ => 0, 0⟩
theorem ix0_rel (n : Nat) {Z ms : List PV} (hZ : Z = List.replicate n (.bool false)) (hM : ms = List.replicate 6 (nsP 0 0)) : Rel n (ix0 n Z ms) := by
  subst hZ hM
  refine ⟨Px.Ok.zero n, by simp [ix0], by show List.replicate n (nvP 0 0 0 0 0 0) = (List.replicate n zeroN).map Nv.v; rw [List.map_replicate]; rfl, fun c hc => ⟨zeroN, by show (List.replicate n zeroN)[c]? = _; rw [List.getElem?_replicate, if_pos hc], rfl, rfl, rfl, rfl, rfl, rfl⟩,
    by simp [ix0], fun k hk => ?_, fun k _ => ⟨by simp [ix0], fun c hc => ?_⟩, fun k _ => ⟨by simp [ix0], fun c hc => ?_⟩, fun k _ => rfl, fun k _ => rfl, fun k _ => rfl, rfl⟩
  · show (List.replicate 6 (nsP 0 0))[k]? = some (nsP 0 0); rw [List.getElem?_replicate, if_pos hk]
  · show (List.replicate n (PV.bool false))[c]? = some (.bool false); rw [List.getElem?_replicate, if_pos hc]
  · show (List.replicate n (PV.bool false))[c]? = some (.bool false); rw [List.getElem?_replicate, if_pos hc]
abbrev frK (sp : List PV) (n i k c : Nat) : List (Nat × V) := [(1, .p (.sl sp)), (4, .p (.bool false)), (5, .p (.int .i64 (Int.ofNat n))), (6, .vw 0 8 0 n none), (7, .vw 1 1 0 6 none), (8, .vw 2 4 0 6 none), (9, .vw 3 1 0 6 none), (11, .own 10 0), (12, .vw 11 1 0 6 none), (14, .p (.int .i64 (Int.ofNat i))),
  (15, .p (.int .i64 (Int.ofNat k))), (16, .p (.int .i64 (Int.ofNat c))), (17, .own 24 0), (18, .own 25 0)]
abbrev frT (sp : List PV) (n i k c : Nat) : List (Nat × V) := [(1, .p (.sl sp)), (4, .p (.bool false)), (5, .p (.int .i64 (Int.ofNat n))), (6, .vw 0 8 0 n none), (7, .vw 1 1 0 6 none), (8, .vw 2 4 0 6 none), (9, .vw 3 1 0 6 none), (11, .own 10 0), (12, .vw 11 1 0 6 none), (14, .p (.int .i64 (Int.ofNat i))),
  (15, .p (.int .i64 (Int.ofNat k))), (16, .p (.int .i64 (Int.ofNat c))), (17, .own 24 0), (20, .own 25 0)]
abbrev vowC (pn pd an ad g e : Int) : List V := [.p (.int .i64 pn), .p (.int .i64 pd), .p (.int .i64 an), .p (.int .i64 ad), .p (.int .i64 g), .p (.int .i64 e), .p (.int .i64 0), .p .nils]
theorem flat_ns (g e : Int) : V.Flat (.p (nsP g e)) := .p _ (.agg _ (by intro c hc; simp at hc; rcases hc with rfl | rfl | rfl | rfl <;> constructor))
def loopsOf : Code → List Code
  | .seq a b => loopsOf a ++ loopsOf b
  | .block _ c => loopsOf c
  | .loop c => c :: loopsOf c
  | .cond _ a b => loopsOf a ++ loopsOf b
  | _ => []
/-- The loop over the steps. -/
def onceBody (f : Func) : Code := (loopsOf (f.body.getD .skip)).getD 2 .skip
/-- A number as one from 0 to below m. -/
def idx (z : Int) (m : Nat) : Nat := (if z.tmod m < 0 then z.tmod m + m else z.tmod m).toNat
theorem idx_lt (z : Int) {m : Nat} (h : 0 < m) : idx z m < m := by
  unfold idx
  have h1 := Int.tmod_lt_of_pos z (show (0 : Int) < m by omega)
  have h0 : -(m : Int) < z.tmod m := by
    rcases Int.le_total 0 z with h | h
    · have := Int.tmod_nonneg (m : Int) h; omega
    · have h2 := Int.tmod_nonneg (a := -z) m (by omega)
      have h3 := Int.tmod_lt_of_pos (-z) (show (0 : Int) < m by omega)
      rw [Int.neg_tmod] at h2 h3
      omega
  split <;> omega
theorem idx_spec (z : Int) (m : Nat) (M : Int) (hM : M = Int.ofNat m) (hm : 0 < m) (hb : m ≤ 1000) : FnL Try.prog 25 [.p (.int .i64 z), .p (.int .i64 M)] [] fun v own => ∃ r : Nat, r = idx z m ∧ v = .p (.int .i64 (Int.ofNat r)) ∧ own = [] := by
  refine (index_spec z M (by rw [hM]; show (0 : Int) < (m : Int); omega) (by rw [hM]; show (m : Int) ≤ 1000; omega)).mono ?_
  rintro _ _ ⟨r, hr, rfl, rfl⟩
  refine ⟨r, ?_, rfl, rfl⟩
  unfold idx
  rw [hM] at hr
  exact (Int.toNat_natCast r).symm.trans (congrArg Int.toNat hr)
end Go.Proofs.Ytdbagbklhchbkaa
