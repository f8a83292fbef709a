/- ProofOrders. Conditions: on sizes. -/
import Derived.Test.YtdoikpagilmplaaLPo2
import Derived.Test.YtdoikpagilmplaaLPr8
set_option maxRecDepth 100000
set_option maxHeartbeats 16000000
set_option linter.unusedSimpArgs false
set_option linter.unusedVariables false
namespace Go.Proofs.Ytdoikpagilmplaa
open Go Go.Lx
open Go.Sx (vcIf)

theorem proofOrders (ds : List Dd) (hdl : ds.length < 281474976710656) :
    FnL Try.prog 6 [.p (.sl (ddP ds))] [] fun z own => z = .p (.bool true) ∧ own = [] := by
  refine FnL.flat (R := fun z own => z = .p (.bool true)) ?_ (fun v own' h => ⟨_, _, h, .refl _, rfl, rfl⟩)
  obtain ⟨ys, hys⟩ : ∃ ys, ys = ddP ds := ⟨_, rfl⟩
  obtain ⟨N, hN⟩ : ∃ N, N = ds.length := ⟨_, rfl⟩
  have hyl : ys.length = N := by rw [hys, ddP_length, hN]
  have hcw : ∀ y : PV, y ∈ ys → y.cells.length = 8 := fun y hy => by
    rw [hys] at hy; obtain ⟨d, _, rfl⟩ := List.mem_map.1 hy; rfl
  rw [← hys]
  by_cases h : 100 < N
  · have h1 := orders_spec (ds.take 100) (by rw [List.length_take]; omega) (ddP (ds.take 100)) rfl
    have h2 := rorders_spec (ds.take 100) (by rw [List.length_take]; omega) (ddP (ds.take 100)) rfl
    have hl : 100 ≤ ys.length := by omega
    have hcut : ddP (ds.take 100) = List.take 100 ys := by rw [hys]; unfold ddP; rw [List.map_take]
    rw [hcut] at h1 h2
    refine fn_of_vc eOk fOk fo6 Try.func6 rfl rfl rfl fun B hB => ?_
    intro add sub mul quo rem band bor bxor bclr shl shr ieq ilt ile seq slt beq bnot orb bcond iwrap iof ssz hA cat sq sl imin imax smin smax len slen u8 hL op hop call hcall code hcode ret hret
    have hlen : len ys = Int.ofNat N := by rw [hL.len, hyl]; rfl
    cbv
    refine vcIf.yes (by first | (simp [hA.not, hA.eq, hA.lt, hA.le, hA.cond, hA.beq, hA.orb, hL.len, hL.slen, hL.sq, hlen, h]; done) | (simp only [hlen, h]; simp [hA.not, hA.eq, hA.lt, hA.le, hA.cond, hA.beq, hA.orb, hL.len, hL.slen, hL.sq, hlen, h]; done) | (simp [hA.not, hA.eq, hA.lt, hA.le, hA.cond, hA.beq, hA.orb, hL.len, hL.slen, hL.sq, hlen, h]; omega) | (simp only [hlen, h]; simp [hA.not, hA.eq, hA.lt, hA.le, hA.cond, hA.beq, hA.orb, hL.len, hL.slen, hL.sq, hlen, h]; omega)) ?_
    cbv
    refine ⟨0, 100, ys.length, rfl, rfl, rfl, Nat.zero_le _, hl, Nat.le_refl _, hcw, fun u hu => ?_⟩
    have hu : u = List.take 100 ys := hu
    cbv
    refine hcall _ _ _ _ _ (CallEv.same awake22_spec rfl ?_)
    rintro _ _ ⟨rfl, rfl⟩
    cbv
    repeat (first | (refine vcIf.yes ?_ ?_; (focus (simp [hA.not, hA.eq, hA.lt, hA.le, hA.cond, hA.beq, hA.orb, hL.len, hL.slen, hL.sq]; done)); cbv) | (refine vcIf.no ?_ ?_; (focus (simp [hA.not, hA.eq, hA.lt, hA.le, hA.cond, hA.beq, hA.orb, hL.len, hL.slen, hL.sq]; done)); cbv) | fail)
    refine hcall _ _ _ _ _ (CallEv.same (by rw [hu]; exact h1) rfl ?_)
    rintro _ _ ⟨n, hn, rfl, rfl⟩
    cbv
    refine hcall _ _ _ _ _ (CallEv.same (by rw [hu]; exact h2) rfl ?_)
    rintro _ _ ⟨m, hm, rfl, rfl⟩
    obtain rfl := hn.uniq hm
    cbv
    exact hret _ (RetEv.ret eOk rfl (by simp [hA.not, hA.eq, hA.lt, hA.le, hA.cond, hA.beq, hA.orb, hL.len, hL.slen, hL.sq, oneOf]))
  · have h1 := orders_spec ds hdl ys hys
    have h2 := rorders_spec ds hdl ys hys
    refine fn_of_vc eOk fOk fo6 Try.func6 rfl rfl rfl fun B hB => ?_
    intro add sub mul quo rem band bor bxor bclr shl shr ieq ilt ile seq slt beq bnot orb bcond iwrap iof ssz hA cat sq sl imin imax smin smax len slen u8 hL op hop call hcall code hcode ret hret
    have hlen : len ys = Int.ofNat N := by rw [hL.len, hyl]; rfl
    cbv
    refine vcIf.no (by first | (simp [hA.not, hA.eq, hA.lt, hA.le, hA.cond, hA.beq, hA.orb, hL.len, hL.slen, hL.sq, hlen, h]; done) | (simp only [hlen, h]; simp [hA.not, hA.eq, hA.lt, hA.le, hA.cond, hA.beq, hA.orb, hL.len, hL.slen, hL.sq, hlen, h]; done) | (simp [hA.not, hA.eq, hA.lt, hA.le, hA.cond, hA.beq, hA.orb, hL.len, hL.slen, hL.sq, hlen, h]; omega) | (simp only [hlen, h]; simp [hA.not, hA.eq, hA.lt, hA.le, hA.cond, hA.beq, hA.orb, hL.len, hL.slen, hL.sq, hlen, h]; omega)) ?_
    cbv
    refine hcall _ _ _ _ _ (CallEv.same awake22_spec rfl ?_)
    rintro _ _ ⟨rfl, rfl⟩
    cbv
    repeat (first | (refine vcIf.yes ?_ ?_; (focus (simp [hA.not, hA.eq, hA.lt, hA.le, hA.cond, hA.beq, hA.orb, hL.len, hL.slen, hL.sq]; done)); cbv) | (refine vcIf.no ?_ ?_; (focus (simp [hA.not, hA.eq, hA.lt, hA.le, hA.cond, hA.beq, hA.orb, hL.len, hL.slen, hL.sq]; done)); cbv) | fail)
    refine hcall _ _ _ _ _ (CallEv.same h1 rfl ?_)
    rintro _ _ ⟨n, hn, rfl, rfl⟩
    cbv
    refine hcall _ _ _ _ _ (CallEv.same h2 rfl ?_)
    rintro _ _ ⟨m, hm, rfl, rfl⟩
    obtain rfl := hn.uniq hm
    cbv
    exact hret _ (RetEv.ret eOk rfl (by simp [hA.not, hA.eq, hA.lt, hA.le, hA.cond, hA.beq, hA.orb, hL.len, hL.slen, hL.sq, oneOf]))
end Go.Proofs.Ytdoikpagilmplaa
