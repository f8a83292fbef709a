/- The simplest facts of a Past; no Past. Conditions: none. -/
import Derived.Test.YtdeolllpbflemaaLPa7
set_option maxRecDepth 100000
set_option maxHeartbeats 16000000
set_option linter.unusedSimpArgs false
set_option linter.unusedVariables false
namespace Go.Proofs.Ytdeolllpbflemaa
open Go Go.Lx
open Go.Sx (vcIf)

theorem flat_get (s : List UInt8) (b : Bool) (e : Int) : V.Flat (.p (.tup [.str s, .bool b, .int .i64 e])) := .p _ (.tup _ fun c hc => by
  simp only [List.mem_cons, List.not_mem_nil, or_false] at hc
  rcases hc with rfl | rfl | rfl <;> constructor)
def awC : Chg := ⟨1, [97], [49]⟩
theorem aw_get5 : lk (whole [] [⟨5, [awC]⟩] 5) [97] = some [49] := by decide
theorem aw_get4 : lk (whole [] [⟨5, [awC]⟩] 4) [97] = none := by decide
theorem awakeP_spec : FnL Try.prog 11 [] [] fun r own => r = .p (.bool true) ∧ own = [] := by
  refine FnL.flat (R := fun r own => r = .p (.bool true)) ?_ (by rintro _ _ rfl; exact ⟨_, _, rfl, .refl _, rfl, rfl⟩)
  have hadd := add_spec 0 0 0 5 [awC] (by decide) [] [] 0 rfl (by decide) (cP [awC]) rfl
  have hg5 := get_spec 0 0 5 5 [] List.Pairwise.nil (by decide) [⟨5, [awC]⟩] (by
    intro b hb
    simp only [List.mem_cons, List.not_mem_nil, or_false] at hb
    subst hb
    refine ⟨by decide, fun c hc => ?_⟩
    simp only [List.mem_cons, List.not_mem_nil, or_false] at hc
    subst hc
    exact ⟨by decide, by decide, by decide, by decide⟩) (by decide) [97] [] rfl (layP [⟨5, [awC]⟩]) rfl
  have hg4 := get_spec 0 0 5 4 [] List.Pairwise.nil (by decide) [⟨5, [awC]⟩] (by
    intro b hb
    simp only [List.mem_cons, List.not_mem_nil, or_false] at hb
    subst hb
    refine ⟨by decide, fun c hc => ?_⟩
    simp only [List.mem_cons, List.not_mem_nil, or_false] at hc
    subst hc
    exact ⟨by decide, by decide, by decide, by decide⟩) (by decide) [97] [] rfl (layP [⟨5, [awC]⟩]) rfl
  rw [aw_get5] at hg5
  rw [aw_get4] at hg4
  refine fn_of_vc eOk fOk fo11 Try.func11 rfl rfl rfl fun B hB => ?_
  intro add sub mul quo rem band bor bxor bclr shl shr ieq ilt ile seq slt beq bnot orb bcond iwrap iof ssz hA cat sq sl imin imax smin smax len slen u8 hL op hop call hcall code hcode ret hret
  cbv
  refine hcall _ _ _ _ _ (CallEv.same pastNew_spec rfl ?_)
  rintro _ _ ⟨rfl, rfl⟩
  cbv
  refine ⟨false, ?_⟩
  cbv
  refine hcall _ _ _ _ _ (CallEv.lend [0, 1] hadd rfl (.cons (.own 0 0 0 rfl) (.cons (.p _) (.cons (.p _) .nil))) (psL rfl rfl rfl rfl) ?_)
  rintro _ _ ⟨e, he, rfl, ⟨h1, rfl⟩ | ⟨h1, ws, m, hm, hws, rfl⟩⟩
  · exact absurd he.symm (by rw [show adE 0 5 [awC] = 0 by decide]; exact fun c => h1 c.symm)
  obtain rfl : 1 = m := hm.symm
  subst h1
  cbv
  refine vcIf.no (by first | (simp [hA.not, hA.eq, hA.lt, hA.le, hA.cond, hA.beq, hA.orb, hL.len, hL.slen, hL.sq]; done) | (simp [hA.not, hA.eq, hA.lt, hA.le, hA.cond, hA.beq, hA.orb, hL.len, hL.slen, hL.sq]; omega)) ?_
  cbv
  refine hcall _ _ _ _ _ (CallEv.shown [] [0, 1] hg5 rfl (.cons (psT (by decide) (by decide) rfl rfl _ (by rw [hws]; rfl)) (.cons (.p _) (.cons (.p _) .nil))) trivial ?_)
  rintro _ _ ⟨s5, b5, e5, h5, rfl, rfl⟩
  obtain ⟨rfl, rfl, rfl⟩ : e5 = 0 ∧ s5 = [49] ∧ b5 = true := by
    rcases h5 with h | ⟨_, h1, h2, h3⟩
    · exact absurd h.1 (by decide)
    · exact ⟨h1, h2, h3⟩
  refine ⟨flat_get _ _ _, (by intro r hr; cases hr), ?_⟩
  cbv
  refine hcall _ _ _ _ _ (CallEv.shown [] [0, 1] hg4 rfl (.cons (psT (by decide) (by decide) rfl rfl _ (by rw [hws]; rfl)) (.cons (.p _) (.cons (.p _) .nil))) trivial ?_)
  rintro _ _ ⟨s4, b4, e4, h4, rfl, rfl⟩
  obtain ⟨rfl, rfl, rfl⟩ : e4 = 0 ∧ s4 = [] ∧ b4 = false := by
    rcases h4 with h | ⟨_, h1, h2, h3⟩
    · exact absurd h.1 (by decide)
    · exact ⟨h1, h2, h3⟩
  refine ⟨flat_get _ _ _, (by intro r hr; cases hr), ?_⟩
  cbv
  repeat (first | (refine vcIf.yes ?_ ?_; (focus (simp [hA.not, hA.eq, hA.lt, hA.le, hA.cond, hA.beq, hA.orb, hL.len, hL.slen, hL.sq]; done)); cbv) | (refine vcIf.no ?_ ?_; (focus (simp [hA.not, hA.eq, hA.lt, hA.le, hA.cond, hA.beq, hA.orb, hL.len, hL.slen, hL.sq]; done)); cbv) | fail)
  exact hret _ (RetEv.ret eOk rfl (by simp [hA.not, hA.eq, hA.lt, hA.le, hA.cond, hA.beq, hA.orb, hL.len, hL.slen, hL.sq, oneOf, hL.sq]))
theorem pastNone_spec (n : Int) (key lo hi : List UInt8) (cs : List PV) : FnL Try.prog 8 [.p (.int .i64 n), .p (.str key), .p (.agg [.str lo, .str hi]), .p (.sl cs)] [] fun r own => r = .p (.bool true) ∧ own = [] := by
  refine FnL.flat (R := fun r own => r = .p (.bool true)) ?_ (by rintro _ _ rfl; exact ⟨_, _, rfl, .refl _, rfl, rfl⟩)
  refine fn_of_vc eOk fOk fo8 Try.func8 rfl rfl rfl fun B hB => ?_
  intro add sub mul quo rem band bor bxor bclr shl shr ieq ilt ile seq slt beq bnot orb bcond iwrap iof ssz hA cat sq sl imin imax smin smax len slen u8 hL op hop call hcall code hcode ret hret
  cbv
  refine hcall _ _ _ _ _ (CallEv.same (get_nil key n) rfl ?_)
  rintro _ _ ⟨rfl, rfl⟩
  cbv
  refine hcall _ _ _ _ _ (CallEv.pure (list_nil lo hi n n) (.cons (.p _) (.cons (.p _) (.cons (.p _) (.cons (.p _) .nil)))) ?_)
  rintro _ _ ⟨rfl, rfl⟩
  cbv
  refine hcall _ _ _ _ _ (CallEv.pure ends_nil (.cons (.p _) .nil) ?_)
  rintro _ _ ⟨rfl, rfl⟩
  cbv
  refine hcall _ _ _ _ _ (CallEv.pure awakeP_spec .nil ?_)
  rintro _ _ ⟨rfl, rfl⟩
  cbv
  repeat (first | (refine vcIf.yes ?_ ?_; (focus (simp [hA.not, hA.eq, hA.lt, hA.le, hA.cond, hA.beq, hA.orb, hL.len, hL.slen, hL.sq]; done)); cbv) | (refine vcIf.no ?_ ?_; (focus (simp [hA.not, hA.eq, hA.lt, hA.le, hA.cond, hA.beq, hA.orb, hL.len, hL.slen, hL.sq]; done)); cbv) | fail)
  refine hcall _ _ _ _ _ (CallEv.same (add_nil n cs) rfl ?_)
  rintro _ _ ⟨rfl, rfl⟩
  cbv
  repeat (first | (refine vcIf.yes ?_ ?_; (focus (simp [hA.not, hA.eq, hA.lt, hA.le, hA.cond, hA.beq, hA.orb, hL.len, hL.slen, hL.sq]; done)); cbv) | (refine vcIf.no ?_ ?_; (focus (simp [hA.not, hA.eq, hA.lt, hA.le, hA.cond, hA.beq, hA.orb, hL.len, hL.slen, hL.sq]; done)); cbv) | fail)
  refine hcall _ _ _ _ _ (CallEv.same (forget_nil n) rfl ?_)
  rintro _ _ ⟨rfl, rfl⟩
  cbv
  repeat (first | (refine vcIf.yes ?_ ?_; (focus (simp [hA.not, hA.eq, hA.lt, hA.le, hA.cond, hA.beq, hA.orb, hL.len, hL.slen, hL.sq]; done)); cbv) | (refine vcIf.no ?_ ?_; (focus (simp [hA.not, hA.eq, hA.lt, hA.le, hA.cond, hA.beq, hA.orb, hL.len, hL.slen, hL.sq]; done)); cbv) | fail)
  refine hcall _ _ _ _ _ (CallEv.same (back_nil n) rfl ?_)
  rintro _ _ ⟨rfl, rfl⟩
  cbv
  repeat (first | (refine vcIf.yes ?_ ?_; (focus (simp [hA.not, hA.eq, hA.lt, hA.le, hA.cond, hA.beq, hA.orb, hL.len, hL.slen, hL.sq]; done)); cbv) | (refine vcIf.no ?_ ?_; (focus (simp [hA.not, hA.eq, hA.lt, hA.le, hA.cond, hA.beq, hA.orb, hL.len, hL.slen, hL.sq]; done)); cbv) | fail)

  exact hret _ (RetEv.ret eOk rfl (by simp [hA.not, hA.eq, hA.lt, hA.le, hA.cond, hA.beq, hA.orb, hL.len, hL.slen, hL.sq, oneOf]))
end Go.Proofs.Ytdeolllpbflemaa
