/- ProofClear. Conditions: on sizes. -/
import Derived.Test.YtdoikpagilmplaaLPc6
import Derived.Test.YtdoikpagilmplaaLPr8
set_option maxRecDepth 100000
set_option maxHeartbeats 16000000
set_option linter.unusedSimpArgs false
set_option linter.unusedVariables false
namespace Go.Proofs.Ytdoikpagilmplaa
open Go Go.Lx
open Go.Sx (vcIf)

theorem proofClear (l : List Bt) (hl : l.length < 281474976710656) (hf : ∀ b ∈ l, b.fit) (hcl : ∀ b ∈ l, b.ch.length < 281474976710656) (ds : List Dd) (hdl : ds.length < 281474976710656) (hdf : ∀ d ∈ ds, d.fit) :
    FnL Try.prog 8 [.p (.sl (btP l)), .p (.sl (ddP ds))] [] fun z own => z = .p (.bool true) ∧ own = [] := by
  refine FnL.flat (R := fun z own => z = .p (.bool true)) ?_ (fun v own' h => ⟨_, _, h, .refl _, rfl, rfl⟩)
  obtain ⟨zs, hzs⟩ : ∃ zs, zs = btP l := ⟨_, rfl⟩
  obtain ⟨ys, hys⟩ : ∃ ys, ys = ddP ds := ⟨_, rfl⟩
  have h1 := clear22_spec l hl hf hcl ds hdl hdf zs ys hzs hys
  have h2 := rsnd22_spec l hl hf zs hzs
  have h3 := rclear_spec l hl hf hcl ds hdl hdf zs ys hzs hys
  rw [← hzs, ← hys]
  by_cases hs : lsnd l
  · refine fn_of_vc eOk fOk fo8 Try.func8 rfl rfl rfl fun B hB => ?_
    intro add sub mul quo rem band bor bxor bclr shl shr ieq ilt ile seq slt beq bnot orb bcond iwrap iof ssz hA cat sq sl imin imax smin smax len slen u8 hL op hop call hcall code hcode ret hret
    cbv
    refine hcall _ _ _ _ _ (CallEv.same h1 rfl ?_)
    rintro _ _ ⟨n, e, hne, rfl, rfl⟩
    obtain ⟨he, hn⟩ : e = 0 ∧ isFst (cbad l ds) ds.length n := by
      rcases hne with c | c
      · exact c.2
      · exact absurd hs c.1
    subst he
    cbv
    refine hcall _ _ _ _ _ (CallEv.same h2 rfl ?_)
    rintro _ _ ⟨R, hR, rfl, rfl⟩
    obtain rfl : R = true := hR.2 hs
    cbv
    refine vcIf.no (by first | (simp [hA.not, hA.eq, hA.lt, hA.le, hA.cond, hA.beq, hA.orb, hL.len, hL.slen, hL.sq]; done) | (simp [hA.not, hA.eq, hA.lt, hA.le, hA.cond, hA.beq, hA.orb, hL.len, hL.slen, hL.sq]; omega)) ?_
    cbv
    refine hcall _ _ _ _ _ (CallEv.same awake22_spec rfl ?_)
    rintro _ _ ⟨rfl, rfl⟩
    cbv
    repeat (first | (refine vcIf.yes ?_ ?_; (focus (simp [hA.not, hA.eq, hA.lt, hA.le, hA.cond, hA.beq, hA.orb, hL.len, hL.slen, hL.sq]; done)); cbv) | (refine vcIf.no ?_ ?_; (focus (simp [hA.not, hA.eq, hA.lt, hA.le, hA.cond, hA.beq, hA.orb, hL.len, hL.slen, hL.sq]; done)); cbv) | fail)
    refine hcall _ _ _ _ _ (CallEv.same h3 rfl ?_)
    rintro _ _ ⟨m, hm, rfl, rfl⟩
    obtain rfl := hn.uniq hm
    cbv
    exact hret _ (RetEv.ret eOk rfl (by simp [hA.not, hA.eq, hA.lt, hA.le, hA.cond, hA.beq, hA.orb, hL.len, hL.slen, hL.sq, oneOf]))
  · refine fn_of_vc eOk fOk fo8 Try.func8 rfl rfl rfl fun B hB => ?_
    intro add sub mul quo rem band bor bxor bclr shl shr ieq ilt ile seq slt beq bnot orb bcond iwrap iof ssz hA cat sq sl imin imax smin smax len slen u8 hL op hop call hcall code hcode ret hret
    cbv
    refine hcall _ _ _ _ _ (CallEv.same h1 rfl ?_)
    rintro _ _ ⟨n, e, hne, rfl, rfl⟩
    obtain ⟨he, hn⟩ : e = 2 ∧ n = 0 := by
      rcases hne with c | c
      · exact absurd c.1 hs
      · exact c.2
    subst he hn
    cbv
    refine hcall _ _ _ _ _ (CallEv.same h2 rfl ?_)
    rintro _ _ ⟨R, hR, rfl, rfl⟩
    obtain rfl : R = false := Bool.eq_false_iff.2 fun c => hs (hR.1 c)
    cbv
    refine vcIf.yes (by first | (simp [hA.not, hA.eq, hA.lt, hA.le, hA.cond, hA.beq, hA.orb, hL.len, hL.slen, hL.sq]; done) | (simp [hA.not, hA.eq, hA.lt, hA.le, hA.cond, hA.beq, hA.orb, hL.len, hL.slen, hL.sq]; omega)) ?_
    cbv
    refine hcall _ _ _ _ _ (CallEv.same awake22_spec rfl ?_)
    rintro _ _ ⟨rfl, rfl⟩
    cbv
    repeat (first | (refine vcIf.yes ?_ ?_; (focus (simp [hA.not, hA.eq, hA.lt, hA.le, hA.cond, hA.beq, hA.orb, hL.len, hL.slen, hL.sq]; done)); cbv) | (refine vcIf.no ?_ ?_; (focus (simp [hA.not, hA.eq, hA.lt, hA.le, hA.cond, hA.beq, hA.orb, hL.len, hL.slen, hL.sq]; done)); cbv) | fail)
    exact hret _ (RetEv.ret eOk rfl (by simp [hA.not, hA.eq, hA.lt, hA.le, hA.cond, hA.beq, hA.orb, hL.len, hL.slen, hL.sq, oneOf]))
end Go.Proofs.Ytdoikpagilmplaa
