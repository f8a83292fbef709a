/- A rule for the calculus: the cut of a slice. No conditions. -/
import Derived.Test.YtdbagbklhchbkaaSx12
set_option linter.unusedSimpArgs false
set_option linter.unusedVariables false
namespace Go.Sx
open Go

def BoundIs (fr : List (Nat × V)) (o : Option Operand) (d v : Nat) : Prop :=
  match o with
  | none => v = d
  | some x => ∃ kk z, ev fr x = some (.v (.int kk z)) ∧ z = (v : Int)

theorem BoundIs.at {fr : List (Nat × V)} {x : Operand} {d v : Nat} {kk : IntKind} {z : Int} (h : ev fr x = some (.v (.int kk z))) (hz : z = (v : Int)) : BoundIs fr (some x) d v := ⟨kk, z, h, hz⟩

theorem SlV.cut {H : Hp} {size : Nat} {a : Option Addr} {n c : Nat} {xs : List Value} (S : SlV H size a n c xs) {l h : Nat} (h1 : l ≤ h) (h2 : h ≤ n) :
    SlV H size (if c = l then a else a.map (·.add (l * size))) (h - l) (c - l) ((xs.drop l).take (h - l)) := by
  have hc := S.cap
  have hlen := S.len
  refine ⟨?_, by simp; omega, fun hn => ?_, by omega⟩
  · rcases S.sl with rfl | ⟨b, off, rfl, hx⟩
    · left; simp
    · by_cases hlh : l = h
      · left; subst hlh; simp
      · right
        rw [if_neg (by omega)]
        refine ⟨b, off + l * size, by simp only [Option.map_some, addr_add], fun i x hi => ?_⟩
        have hx2 : xs[l + i]? = some x := by
          rw [List.getElem?_take] at hi
          split at hi
          · rwa [List.getElem?_drop] at hi
          · cases hi
        have := hx _ _ hx2
        rwa [Nat.add_mul, ← Nat.add_assoc] at this
  · have ha : a = Option.none := by
      split at hn
      · exact hn
      · rcases a with _ | x
        · rfl
        · simp at hn
    have := S.nil ha
    omega

theorem PEv.slice {B : Base} {P : Program} {E : TEnv} (hE : TOk P E) {o : Oper} {st : St} {k : V → Prop} {t e : TypeId} {x : Operand} {lo hi : Option Operand} {ti te : TI} {a : Option Addr} {n c l h : Nat} {xs : List Value}
    (ho : o.op = .slice t x lo hi none) (hx : ev st.fr x = some (.v (.slice a n c))) (ht : E.get t = some ti) (hk : ti.kd = .slice e) (he : E.get e = some te)
    (S : SlV st.H te.size a n c xs) (hlo : BoundIs st.fr lo 0 l) (hhi : BoundIs st.fr hi n h) (h1 : l ≤ h) (h2 : h ≤ n)
    (hf : ∀ a' n' c', n' = h - l → SlV st.H te.size a' n' c' ((xs.drop l).take (h - l)) → k (.v (.slice a' n' c'))) : PEv B P o st k := by
  intro ρ F ac w hI
  obtain ⟨inf, d, his⟩ := hE.get ht
  obtain ⟨inf', d', his'⟩ := hE.get he
  have hd := kd_slice his hk
  subst hd
  have hcap := S.cap
  have hc := S.cut h1 h2
  refine ⟨.v (.slice (if c = l then a else a.map (·.add (l * te.size))) (h - l) (c - l)), fun w' _ => ?_, trivial, hf _ _ _ rfl hc⟩
  simp only [execOp, ho]
  refine run_v ?_
  have e1 : ac.eval x = .slice a n c := (hI.ev hx).1
  rw [e1]
  have hb : ∀ kh (z : Int), z = (h : Int) → (Instr.sliceBound (.int kh z) c .sliceAcap).run P w' = .ok h w' := by
    rintro kh z rfl
    rw [run_sliceBound w' kh _ c _ (by omega) (by omega)]; simp
  cases lo with
  | none =>
    have hl0 : l = 0 := hlo
    subst hl0
    cases hi with
    | none =>
      have hh : h = n := hhi
      subst hh
      simp [Instr.sliceAt, Instr.slice, run_underlying his.und, Instr.sliceBounds, Is.run_sizeOf his', Sem.run_bind, Result.andThen_ok, V.den]
    | some y =>
      obtain ⟨kh, z, hz1, hz2⟩ := hhi
      have e2 : ac.eval y = .int kh z := (hI.ev hz1).1
      simp [Instr.sliceAt, Instr.slice, run_underlying his.und, Instr.sliceBounds, Is.run_sizeOf his', e2, hb kh z hz2, Sem.run_bind, Result.andThen_ok, V.den]
  | some q =>
    obtain ⟨kl, y, hy1, hy2⟩ := hlo
    have e3 : ac.eval q = .int kl y := (hI.ev hy1).1
    have hb2 : ∀ m code, l ≤ m → (Instr.sliceBound (.int kl y) m code).run P w' = .ok l w' := by
      intro m code hm
      subst hy2
      rw [run_sliceBound w' kl _ m _ (by omega) (by omega)]; simp
    cases hi with
    | none =>
      have hh : h = n := hhi
      subst hh
      simp [Instr.sliceAt, Instr.slice, run_underlying his.und, Instr.sliceBounds, Is.run_sizeOf his', e3, hb2 _ _ h1, Sem.run_bind, Result.andThen_ok, V.den]
    | some z =>
      obtain ⟨kh, z', hz1, hz2⟩ := hhi
      have e2 : ac.eval z = .int kh z' := (hI.ev hz1).1
      simp [Instr.sliceAt, Instr.slice, run_underlying his.und, Instr.sliceBounds, Is.run_sizeOf his', e2, e3, hb kh z' hz2, hb2 _ _ h1, Sem.run_bind, Result.andThen_ok, V.den]
end Go.Sx
