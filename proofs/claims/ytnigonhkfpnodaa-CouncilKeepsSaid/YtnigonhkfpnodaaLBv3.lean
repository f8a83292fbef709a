/- Vows read. Conditions: on sizes. -/
import Derived.Test.YtnigonhkfpnodaaLBv2
import Derived.Test.YtnigonhkfpnodaaLSp1
set_option maxRecDepth 100000
set_option maxHeartbeats 4000000
set_option linter.unusedSimpArgs false
set_option linter.unusedVariables false
namespace Go.Proofs.Ytnigonhkfpnodaa
open Go Go.Lx
open Go.Sx (vcIf)

def Vw4.zero : Vw4 := ⟨0, 0, 0, 0, Stt.zero⟩
def VwIs (w : Vw4) (x : PV) : Prop := ∃ zs, zs = iP w.s.ch ∧ x = .agg [.int .i64 w.pn, .int .i64 w.pd, .int .i64 w.an, .int .i64 w.ad, .int .i64 w.s.gen, .int .i64 w.s.epoch, .int .i64 w.s.recv, .sl zs]
def gVw (l : List UInt8) : Vw4 × Nat :=
  match rdN l 0 with
  | (a, l, e) => match rdN l e with
    | (b, l, e) => match rdN l e with
      | (c, l, e) => match rdN l e with
        | (d, l, e) => if e ≠ 0 then (Vw4.zero, 2) else match gSt l with
          | (s, e) => if e = 0 ∧ Vw4.okB ⟨a, b, c, d, s⟩ = true then (⟨a, b, c, d, s⟩, 0) else (Vw4.zero, 2)
theorem gVw_of {l l1 l2 l3 l4 : List UInt8} {e1 e2 e3 e4 n1 n2 n3 n4 : Nat} (h1 : (n1, l1, e1) = rdN l 0) (h2 : (n2, l2, e2) = rdN l1 e1) (h3 : (n3, l3, e3) = rdN l2 e2) (h4 : (n4, l4, e4) = rdN l3 e3) :
    (e4 ≠ 0 → gVw l = (Vw4.zero, 2)) ∧ (e4 = 0 → ∀ s e, (s, e) = gSt l4 → gVw l = if e = 0 ∧ Vw4.okB ⟨n1, n2, n3, n4, s⟩ = true then (⟨n1, n2, n3, n4, s⟩, 0) else (Vw4.zero, 2)) := by
  have hg : gVw l = if e4 ≠ 0 then (Vw4.zero, 2) else match gSt l4 with
          | (s, e) => if e = 0 ∧ Vw4.okB ⟨n1, n2, n3, n4, s⟩ = true then (⟨n1, n2, n3, n4, s⟩, 0) else (Vw4.zero, 2) := by
    unfold gVw; rw [← h1]; simp only; rw [← h2]; simp only; rw [← h3]; simp only; rw [← h4]
  refine ⟨fun h => by rw [hg, if_pos h], fun h s e hs => by rw [hg, if_neg (by simpa using h), ← hs]⟩
def vw0 : V := .p (.tup [.agg [.int .i64 0, .int .i64 0, .int .i64 0, .int .i64 0, .int .i64 0, .int .i64 0, .int .i64 0, .nils], .int .i64 2])
def vwR (r : Vw4 × Nat) (v : V) (own : List Res) : Prop := ∃ (s : Vw4) (e : Nat) (x : PV), (s, e) = r ∧ VwIs s x ∧ v = .p (.tup [x, .int .i64 (Int.ofNat e)]) ∧ own = []
theorem vwR.of {f : FuncId} {args : List V} {r : Vw4 × Nat} (h : FnL Try.prog f args [] fun v own => r = (Vw4.zero, 2) ∧ v = vw0 ∨ ∃ (w : Vw4) (x : PV), r = (w, 0) ∧ VwIs w x ∧ v = .p (.tup [x, .int .i64 0])) :
    FnL Try.prog f args [] (vwR r) := by
  refine h.flat ?_
  rintro _ _ (⟨rfl, rfl⟩ | ⟨s, x, rfl, hz, rfl⟩)
  · exact ⟨_, .tup [.agg [.int .i64 0, .int .i64 0, .int .i64 0, .int .i64 0, .int .i64 0, .int .i64 0, .int .i64 0, .sl []], .int .i64 2], rfl, PW.tup ⟨PW.agg ⟨.refl _, .refl _, .refl _, .refl _, .refl _, .refl _, .refl _, PW.nils, trivial⟩, .refl _, trivial⟩, Vw4.zero, 2, _, rfl, ⟨[], rfl, rfl⟩, rfl, rfl⟩
  · exact ⟨_, _, rfl, .refl _, s, 0, x, rfl, hz, rfl, rfl⟩

theorem blDecode_spec (l : List UInt8) (xs : List PV) (hxs : xs = bP l) : FnL Try.prog 39 [.p (.sl xs)] [] (vwR (gVw l)) := by
  refine vwR.of ?_
  have hnr := newReader_spec xs
  refine fn_of_vc eOk fOk fo39 Try.func39 rfl rfl rfl fun B hB => ?_
  intro add sub mul quo rem band bor bxor bclr shl shr ieq ilt ile seq slt beq bnot orb bcond iwrap iof ssz hA cat sq sl imin imax smin smax len slen u8 hL op hop call hcall code hcode ret hret
  cbv
  refine hcall _ _ _ _ _ (CallEv.same hnr rfl ?_)
  rintro _ _ ⟨rfl, rfl⟩
  cbv
  have hN1 := rdNumV l 0 xs hxs
  refine hcall _ _ _ _ _ (CallEv.lend [1] hN1 rfl (.cons (.own 0 1 0 rfl) .nil) (rdL rfl) ?_)
  rintro _ _ ⟨n1, l1, e1, z1, h1, g1, rfl, rfl⟩
  cbv
  have hN2 := rdNumV l1 e1 z1 g1
  refine hcall _ _ _ _ _ (CallEv.lend [1] hN2 rfl (.cons (.own 0 1 0 rfl) .nil) (rdL rfl) ?_)
  rintro _ _ ⟨n2, l2, e2, z2, h2, g2, rfl, rfl⟩
  cbv
  have hN3 := rdNumV l2 e2 z2 g2
  refine hcall _ _ _ _ _ (CallEv.lend [1] hN3 rfl (.cons (.own 0 1 0 rfl) .nil) (rdL rfl) ?_)
  rintro _ _ ⟨n3, l3, e3, z3, h3, g3, rfl, rfl⟩
  cbv
  have hN4 := rdNumV l3 e3 z3 g3
  refine hcall _ _ _ _ _ (CallEv.lend [1] hN4 rfl (.cons (.own 0 1 0 rfl) .nil) (rdL rfl) ?_)
  rintro _ _ ⟨n4, l4, e4, z4, h4, g4, rfl, rfl⟩
  cbv
  have hE := rdError_spec z4 e4
  have hRe := rdRest_spec e4 z4
  obtain ⟨gv1, gv2⟩ := gVw_of h1 h2 h3 h4
  refine hcall _ _ _ _ _ (CallEv.lend [1] hE rfl (.cons (.own 0 1 0 rfl) .nil) (rdL rfl) ?_)
  rintro _ _ ⟨rfl, rfl⟩
  cbv
  by_cases q4 : e4 = 0
  rotate_left
  · have hgv := gv1 q4
    refine vcIf.yes (by first | (simp [hA.not, hA.eq, hA.lt, hA.le, hA.cond, hA.beq, hA.orb, hL.len, hL.slen, hL.sq, q4]; done) | (simp only [q4]; simp [hA.not, hA.eq, hA.lt, hA.le, hA.cond, hA.beq, hA.orb, hL.len, hL.slen, hL.sq, q4]; done) | (simp [hA.not, hA.eq, hA.lt, hA.le, hA.cond, hA.beq, hA.orb, hL.len, hL.slen, hL.sq, q4]; omega) | (simp only [q4]; simp [hA.not, hA.eq, hA.lt, hA.le, hA.cond, hA.beq, hA.orb, hL.len, hL.slen, hL.sq, q4]; omega)) ?_
    cbv
    exact hret _ (RetEv.ret eOk rfl (.inl ⟨hgv, rfl⟩))
  replace gv2 := gv2 q4
  have hgs := frGetState_spec l4 z4 g4
  refine vcIf.no (by first | (simp [hA.not, hA.eq, hA.lt, hA.le, hA.cond, hA.beq, hA.orb, hL.len, hL.slen, hL.sq, q4]; done) | (simp only [q4]; simp [hA.not, hA.eq, hA.lt, hA.le, hA.cond, hA.beq, hA.orb, hL.len, hL.slen, hL.sq, q4]; done) | (simp [hA.not, hA.eq, hA.lt, hA.le, hA.cond, hA.beq, hA.orb, hL.len, hL.slen, hL.sq, q4]; omega) | (simp only [q4]; simp [hA.not, hA.eq, hA.lt, hA.le, hA.cond, hA.beq, hA.orb, hL.len, hL.slen, hL.sq, q4]; omega)) ?_
  cbv
  refine hcall _ _ _ _ _ (CallEv.lend [1] hRe rfl (.cons (.own 0 1 0 rfl) .nil) (rdL rfl) ?_)
  rintro _ _ ⟨rfl, rfl⟩
  cbv
  refine hcall _ _ _ _ _ (CallEv.same hgs rfl ?_)
  rintro _ _ ⟨s, e5, x, h5, hx, rfl, rfl⟩
  have hgv := gv2 s e5 h5
  have hsok := (gSt_ok h5).1
  obtain ⟨cs, hcs, rfl⟩ := hx
  obtain ⟨w, hw⟩ : ∃ w : Vw4, w = ⟨n1, n2, n3, n4, s⟩ := ⟨_, rfl⟩
  rw [← hw] at hgv
  have hso := blSound_spec w (by rw [hw]; simp only; omega) cs (by rw [hw]; exact hcs)
  rw [hw] at hso
  simp only at hso
  rw [← hw] at hso
  have hwi : VwIs w (.agg [.int .i64 n1, .int .i64 n2, .int .i64 n3, .int .i64 n4, .int .i64 s.gen, .int .i64 s.epoch, .int .i64 s.recv, .sl cs]) := ⟨cs, by rw [hw]; exact hcs, by rw [hw]⟩
  clear hw
  cbv
  by_cases q5 : e5 = 0
  rotate_left
  · rw [if_neg (fun c => q5 c.1)] at hgv
    refine vcIf.yes (by first | (simp [hA.not, hA.eq, hA.lt, hA.le, hA.cond, hA.beq, hA.orb, hL.len, hL.slen, hL.sq, q5]; done) | (simp only [q5]; simp [hA.not, hA.eq, hA.lt, hA.le, hA.cond, hA.beq, hA.orb, hL.len, hL.slen, hL.sq, q5]; done) | (simp [hA.not, hA.eq, hA.lt, hA.le, hA.cond, hA.beq, hA.orb, hL.len, hL.slen, hL.sq, q5]; omega) | (simp only [q5]; simp [hA.not, hA.eq, hA.lt, hA.le, hA.cond, hA.beq, hA.orb, hL.len, hL.slen, hL.sq, q5]; omega)) ?_
    cbv
    repeat (first | (refine vcIf.yes ?_ ?_; (focus (simp [hA.not, hA.eq, hA.lt, hA.le, hA.cond, hA.beq, hA.orb, hL.len, hL.slen, hL.sq]; done)); cbv) | (refine vcIf.no ?_ ?_; (focus (simp [hA.not, hA.eq, hA.lt, hA.le, hA.cond, hA.beq, hA.orb, hL.len, hL.slen, hL.sq]; done)); cbv) | fail)
    exact hret _ (RetEv.ret eOk rfl (.inl ⟨hgv, rfl⟩))
  refine vcIf.no (by first | (simp [hA.not, hA.eq, hA.lt, hA.le, hA.cond, hA.beq, hA.orb, hL.len, hL.slen, hL.sq, q5]; done) | (simp only [q5]; simp [hA.not, hA.eq, hA.lt, hA.le, hA.cond, hA.beq, hA.orb, hL.len, hL.slen, hL.sq, q5]; done) | (simp [hA.not, hA.eq, hA.lt, hA.le, hA.cond, hA.beq, hA.orb, hL.len, hL.slen, hL.sq, q5]; omega) | (simp only [q5]; simp [hA.not, hA.eq, hA.lt, hA.le, hA.cond, hA.beq, hA.orb, hL.len, hL.slen, hL.sq, q5]; omega)) ?_
  cbv
  refine hcall _ _ _ _ _ (CallEv.same hso rfl ?_)
  rintro _ _ ⟨b, hb, rfl, rfl⟩
  rw [← hb] at hgv
  cbv
  cases b with
  | false =>
    rw [if_neg (fun c => by cases c.2)] at hgv
    repeat (first | (refine vcIf.yes ?_ ?_; (focus (simp [hA.not, hA.eq, hA.lt, hA.le, hA.cond, hA.beq, hA.orb, hL.len, hL.slen, hL.sq]; done)); cbv) | (refine vcIf.no ?_ ?_; (focus (simp [hA.not, hA.eq, hA.lt, hA.le, hA.cond, hA.beq, hA.orb, hL.len, hL.slen, hL.sq]; done)); cbv) | fail)
    exact hret _ (RetEv.ret eOk rfl (.inl ⟨hgv, rfl⟩))
  | true =>
    rw [if_pos ⟨q5, rfl⟩] at hgv
    repeat (first | (refine vcIf.yes ?_ ?_; (focus (simp [hA.not, hA.eq, hA.lt, hA.le, hA.cond, hA.beq, hA.orb, hL.len, hL.slen, hL.sq]; done)); cbv) | (refine vcIf.no ?_ ?_; (focus (simp [hA.not, hA.eq, hA.lt, hA.le, hA.cond, hA.beq, hA.orb, hL.len, hL.slen, hL.sq]; done)); cbv) | fail)
    exact hret _ (RetEv.ret eOk rfl (.inr ⟨w, _, hgv, hwi, rfl⟩))
end Go.Proofs.Ytnigonhkfpnodaa
