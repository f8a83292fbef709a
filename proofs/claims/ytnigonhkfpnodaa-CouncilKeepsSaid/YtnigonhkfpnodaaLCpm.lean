/- LCl2, LCp1 together. Conditions: on sizes. -/
import Derived.Test.YtnigonhkfpnodaaLCl1
import Derived.Test.YtnigonhkfpnodaaLY12
set_option maxRecDepth 100000
set_option maxHeartbeats 16000000
set_option linter.unusedSimpArgs false
set_option linter.unusedVariables false
namespace Go.Proofs.Ytnigonhkfpnodaa
section
open Go Go.Lx
open Go.Sx (vcIf)

structure Nx where
  w : Vw4
  ok : Bool
  bad : Nat
def nxt (v : Vw4) (what a b : Int) (s : Stt) : Nx :=
  if a < 0 ∨ b < 0 then ⟨v, false, 1⟩ else if what < 2 then ⟨(prm v a b).1, (prm v a b).2, 0⟩ else if s.okB = false then ⟨v, false, 2⟩ else ⟨(tkv v a b s).1, (tkv v a b s).2, 0⟩
abbrev caP (what n a b g e r : Int) (zs : List PV) (t : Int) : PV := .agg [.int .i64 what, .int .i64 n, .int .i64 a, .int .i64 b, .int .i64 g, .int .i64 e, .int .i64 r, .sl zs, .int .u8 t]
theorem next_spec (v : Vw4) {pn pd an ad g e r : Int} {zs : List PV} (hv : IsVw v pn pd an ad g e r zs) (what n a b : Int) (s : Stt) (hs : s.ch.length < 9223372036854775807) {g2 e2 r2 : Int} {ys : List PV} (hst : IsSt s g2 e2 r2 ys) (t : Int) :
    FnL Try.prog 21 [.p (vwP pn pd an ad g e r zs), .p (caP what n a b g2 e2 r2 ys t)] [] fun x own => ∃ (pn' pd' an' ad' g' e' r' : Int) (zs' : List PV) (ok : Bool) (bad : Int), IsVw (nxt v what a b s).w pn' pd' an' ad' g' e' r' zs' ∧ ok = (nxt v what a b s).ok ∧ bad = ((nxt v what a b s).bad : Int) ∧ x = .p (.tup [vwP pn' pd' an' ad' g' e' r' zs', .bool ok, .int .i64 bad]) ∧ own = [] := by
  refine FnL.flat (R := fun x own => ∃ (pn' pd' an' ad' g' e' r' : Int) (zs' : List PV) (ok : Bool) (bad : Int), IsVw (nxt v what a b s).w pn' pd' an' ad' g' e' r' zs' ∧ ok = (nxt v what a b s).ok ∧ bad = ((nxt v what a b s).bad : Int) ∧ x = .p (.tup [vwP pn' pd' an' ad' g' e' r' zs', .bool ok, .int .i64 bad])) ?_
    (by rintro _ _ ⟨pn', pd', an', ad', g', e', r', zs', ok, bad, h1, h2, h3, rfl⟩; exact ⟨_, _, rfl, .refl _, pn', pd', an', ad', g', e', r', zs', ok, bad, h1, h2, h3, rfl, rfl⟩)
  obtain ⟨R, hR⟩ : ∃ R, R = nxt v what a b s := ⟨_, rfl⟩
  rw [← hR]
  unfold nxt at hR
  have hp := rPromise_spec v a b hv
  have ht := rTake_spec v a b s hv hst
  have hfs := rState_spec s hs ys hst.2.2.2
  rw [hst.1, hst.2.1, hst.2.2.1] at hfs
  obtain ⟨O, hO⟩ : ∃ O, O = s.okB := ⟨_, rfl⟩
  rw [← hO] at hfs hR
  obtain ⟨P, hP⟩ : ∃ P, P = prm v a b := ⟨_, rfl⟩
  obtain ⟨T, hT⟩ : ∃ T, T = tkv v a b s := ⟨_, rfl⟩
  rw [← hP] at hp hR
  rw [← hT] at ht hR
  refine fn_of_vc eOk fOk fo21 Try.func21 rfl rfl rfl fun B hB => ?_
  intro add sub mul quo rem band bor bxor bclr shl shr ieq ilt ile seq slt beq bnot orb bcond iwrap iof ssz hA cat sq sl imin imax smin smax len slen u8 hL op hop call hcall code hcode ret hret
  cbv
  by_cases h1 : a < 0
  · rw [if_pos (.inl h1)] at hR
    refine vcIf.yes (by first | (simp [hA.not, hA.eq, hA.lt, hA.le, hA.cond, hA.beq, hA.orb, hL.len, hL.slen, hL.sq, h1]; done) | (simp only [h1]; simp [hA.not, hA.eq, hA.lt, hA.le, hA.cond, hA.beq, hA.orb, hL.len, hL.slen, hL.sq, h1]; done) | (simp [hA.not, hA.eq, hA.lt, hA.le, hA.cond, hA.beq, hA.orb, hL.len, hL.slen, hL.sq, h1]; omega) | (simp only [h1]; simp [hA.not, hA.eq, hA.lt, hA.le, hA.cond, hA.beq, hA.orb, hL.len, hL.slen, hL.sq, h1]; omega)) ?_
    cbv
    repeat (first | (refine vcIf.yes ?_ ?_; (focus (simp [hA.not, hA.eq, hA.lt, hA.le, hA.cond, hA.beq, hA.orb, hL.len, hL.slen, hL.sq, h1]; done)); cbv) | (refine vcIf.no ?_ ?_; (focus (simp [hA.not, hA.eq, hA.lt, hA.le, hA.cond, hA.beq, hA.orb, hL.len, hL.slen, hL.sq, h1]; done)); cbv) | fail)
    refine hret _ (RetEv.ret eOk rfl ⟨pn, pd, an, ad, g, e, r, zs, false, 1, ?_, ?_, ?_, rfl⟩)
    · rw [hR]; exact hv
    · rw [hR]
    · rw [hR]; rfl
  · refine vcIf.no (by first | (simp [hA.not, hA.eq, hA.lt, hA.le, hA.cond, hA.beq, hA.orb, hL.len, hL.slen, hL.sq, h1]; done) | (simp only [h1]; simp [hA.not, hA.eq, hA.lt, hA.le, hA.cond, hA.beq, hA.orb, hL.len, hL.slen, hL.sq, h1]; done) | (simp [hA.not, hA.eq, hA.lt, hA.le, hA.cond, hA.beq, hA.orb, hL.len, hL.slen, hL.sq, h1]; omega) | (simp only [h1]; simp [hA.not, hA.eq, hA.lt, hA.le, hA.cond, hA.beq, hA.orb, hL.len, hL.slen, hL.sq, h1]; omega)) ?_
    cbv
    by_cases h2 : b < 0
    · rw [if_pos (.inr h2)] at hR
      refine vcIf.yes (by first | (simp [hA.not, hA.eq, hA.lt, hA.le, hA.cond, hA.beq, hA.orb, hL.len, hL.slen, hL.sq, h2]; done) | (simp only [h2]; simp [hA.not, hA.eq, hA.lt, hA.le, hA.cond, hA.beq, hA.orb, hL.len, hL.slen, hL.sq, h2]; done) | (simp [hA.not, hA.eq, hA.lt, hA.le, hA.cond, hA.beq, hA.orb, hL.len, hL.slen, hL.sq, h2]; omega) | (simp only [h2]; simp [hA.not, hA.eq, hA.lt, hA.le, hA.cond, hA.beq, hA.orb, hL.len, hL.slen, hL.sq, h2]; omega)) ?_
      cbv
      refine hret _ (RetEv.ret eOk rfl ⟨pn, pd, an, ad, g, e, r, zs, false, 1, ?_, ?_, ?_, rfl⟩)
      · rw [hR]; exact hv
      · rw [hR]
      · rw [hR]; rfl
    · rw [if_neg (by omega)] at hR
      refine vcIf.no (by first | (simp [hA.not, hA.eq, hA.lt, hA.le, hA.cond, hA.beq, hA.orb, hL.len, hL.slen, hL.sq, h2]; done) | (simp only [h2]; simp [hA.not, hA.eq, hA.lt, hA.le, hA.cond, hA.beq, hA.orb, hL.len, hL.slen, hL.sq, h2]; done) | (simp [hA.not, hA.eq, hA.lt, hA.le, hA.cond, hA.beq, hA.orb, hL.len, hL.slen, hL.sq, h2]; omega) | (simp only [h2]; simp [hA.not, hA.eq, hA.lt, hA.le, hA.cond, hA.beq, hA.orb, hL.len, hL.slen, hL.sq, h2]; omega)) ?_
      cbv
      by_cases h3 : what < 2
      · rw [if_pos h3] at hR
        refine vcIf.yes (by first | (simp [hA.not, hA.eq, hA.lt, hA.le, hA.cond, hA.beq, hA.orb, hL.len, hL.slen, hL.sq, h3]; done) | (simp only [h3]; simp [hA.not, hA.eq, hA.lt, hA.le, hA.cond, hA.beq, hA.orb, hL.len, hL.slen, hL.sq, h3]; done) | (simp [hA.not, hA.eq, hA.lt, hA.le, hA.cond, hA.beq, hA.orb, hL.len, hL.slen, hL.sq, h3]; omega) | (simp only [h3]; simp [hA.not, hA.eq, hA.lt, hA.le, hA.cond, hA.beq, hA.orb, hL.len, hL.slen, hL.sq, h3]; omega)) ?_
        cbv
        refine hcall _ _ _ _ _ (CallEv.same hp rfl ?_)
        rintro _ _ ⟨pn', pd', an', ad', g', e', r', zs', ok, hok, hw, rfl, rfl⟩
        cbv
        refine hret _ (RetEv.ret eOk rfl ⟨pn', pd', an', ad', g', e', r', zs', ok, 0, ?_, ?_, ?_, rfl⟩)
        · rw [hR]; exact hw
        · rw [hR]; exact hok
        · rw [hR]; rfl
      · rw [if_neg h3] at hR
        refine vcIf.no (by first | (simp [hA.not, hA.eq, hA.lt, hA.le, hA.cond, hA.beq, hA.orb, hL.len, hL.slen, hL.sq, h3]; done) | (simp only [h3]; simp [hA.not, hA.eq, hA.lt, hA.le, hA.cond, hA.beq, hA.orb, hL.len, hL.slen, hL.sq, h3]; done) | (simp [hA.not, hA.eq, hA.lt, hA.le, hA.cond, hA.beq, hA.orb, hL.len, hL.slen, hL.sq, h3]; omega) | (simp only [h3]; simp [hA.not, hA.eq, hA.lt, hA.le, hA.cond, hA.beq, hA.orb, hL.len, hL.slen, hL.sq, h3]; omega)) ?_
        cbv
        refine hcall _ _ _ _ _ (CallEv.same hfs rfl ?_)
        rintro _ _ ⟨o, ho, rfl, rfl⟩
        cases o with
        | false =>
          rw [if_pos ho.symm] at hR
          cbv
          refine vcIf.yes (by first | (simp [hA.not, hA.eq, hA.lt, hA.le, hA.cond, hA.beq, hA.orb, hL.len, hL.slen, hL.sq]; done) | (simp [hA.not, hA.eq, hA.lt, hA.le, hA.cond, hA.beq, hA.orb, hL.len, hL.slen, hL.sq]; omega)) ?_
          cbv
          refine hret _ (RetEv.ret eOk rfl ⟨pn, pd, an, ad, g, e, r, zs, false, 2, ?_, ?_, ?_, rfl⟩)
          · rw [hR]; exact hv
          · rw [hR]
          · rw [hR]; rfl
        | true =>
          rw [if_neg (by rw [← ho]; decide)] at hR
          cbv
          refine vcIf.no (by first | (simp [hA.not, hA.eq, hA.lt, hA.le, hA.cond, hA.beq, hA.orb, hL.len, hL.slen, hL.sq]; done) | (simp [hA.not, hA.eq, hA.lt, hA.le, hA.cond, hA.beq, hA.orb, hL.len, hL.slen, hL.sq]; omega)) ?_
          cbv
          refine hcall _ _ _ _ _ (CallEv.same ht rfl ?_)
          rintro _ _ ⟨pn', pd', an', ad', g', e', r', zs', ok, hok, hw, rfl, rfl⟩
          cbv
          refine hret _ (RetEv.ret eOk rfl ⟨pn', pd', an', ad', g', e', r', zs', ok, 0, ?_, ?_, ?_, rfl⟩)
          · rw [hR]; exact hw
          · rw [hR]; exact hok
          · rw [hR]; rfl

theorem prm_no {w : Vw4} {a b : Int} (h : (prm w a b).2 = false) : (prm w a b).1 = w := by
  unfold prm at h ⊢
  split at h
  · cases h
  · rename_i hc; rw [if_neg hc]
theorem tkv_no {w : Vw4} {a b : Int} {s : Stt} (h : (tkv w a b s).2 = false) : (tkv w a b s).1 = w := by
  unfold tkv at h ⊢
  split at h
  · rename_i hc; rw [if_pos hc]
  · cases h
/-- What comes of an act. -/
theorem Cl.Ok.act {s : Cl} (h : s.Ok) {what a b : Int} (ha : -9223372036854775808 ≤ a ∧ a ≤ 9223372036854775807) (hb : -9223372036854775808 ≤ b ∧ b ≤ 9223372036854775807) {st : Stt} (hst : st.fit) {R : CnP}
    (hR : (what < 2 ∧ R = cnPrep ⟨s.p.b, s.w⟩ a b) ∨ (¬ what < 2 ∧ R = cnAcc ⟨s.p.b, s.w⟩ a b st)) :
    (s.p.dead = true ∧ R.e = 11 ∧ R.ok = false ∧ R.c = ⟨s.p.b, s.w⟩) ∨
    (s.p.dead = false ∧ (nxt s.wn what a b st).bad ≠ 0 ∧ R.e = (nxt s.wn what a b st).bad ∧ R.ok = false ∧ R.c = ⟨s.p.b, s.w⟩ ∧ (nxt s.wn what a b st).bad ≠ 11) ∨
    (s.p.dead = false ∧ (nxt s.wn what a b st).bad = 0 ∧ R.e = 11 ∧ ∃ cut, (Cl.mk ⟨R.c.b, s.p.now, cut, true⟩ R.c.w s.wn (nxt s.wn what a b st).w).Ok) ∨
    (s.p.dead = false ∧ (nxt s.wn what a b st).bad = 0 ∧ R.e = 0 ∧ R.ok = (nxt s.wn what a b st).ok ∧ (what < 2 → R.v = (nxt s.wn what a b st).w) ∧ ∃ now, (Cl.mk ⟨R.c.b, now, now, false⟩ R.c.w (nxt s.wn what a b st).w (nxt s.wn what a b st).w).Ok) := by
  have hdn := h.p.dn
  cases hd : s.p.dead with
  | true =>
    left
    have e0 : cnReady s.p.b.dn a b = 11 := by unfold cnReady; rw [hdn, hd, if_pos rfl]
    rcases hR with ⟨_, rfl⟩ | ⟨_, rfl⟩
    · unfold cnPrep; rw [e0, if_pos (by decide)]; exact ⟨rfl, rfl, rfl, rfl⟩
    · unfold cnAcc; rw [e0, if_pos (by decide)]; exact ⟨rfl, rfl, rfl, rfl⟩
  | false =>
    right
    obtain ⟨hw, hwc⟩ := h.live hd
    by_cases hab : a < 0 ∨ b < 0
    · left
      have e0 : cnReady s.p.b.dn a b = 1 := by unfold cnReady; rw [hdn, hd, if_neg (by decide), if_pos hab]
      have en : nxt s.wn what a b st = ⟨s.wn, false, 1⟩ := by unfold nxt; rw [if_pos hab]
      rw [en]
      rcases hR with ⟨_, rfl⟩ | ⟨_, rfl⟩
      · unfold cnPrep; rw [e0, if_pos (by decide)]; first | exact ⟨rfl, by simp, rfl, rfl, rfl, by simp⟩ | exact ⟨trivial, by simp, rfl, rfl, rfl, by simp⟩
      · unfold cnAcc; rw [e0, if_pos (by decide)]; first | exact ⟨rfl, by simp, rfl, rfl, rfl, by simp⟩ | exact ⟨trivial, by simp, rfl, rfl, rfl, by simp⟩
    · have e0 : cnReady s.p.b.dn a b = 0 := by unfold cnReady; rw [hdn, hd, if_neg (by decide), if_neg hab]
      have ha0 : 0 ≤ a := by omega
      have hb0 : 0 ≤ b := by omega
      rcases hR with ⟨h2, rfl⟩ | ⟨h2, rfl⟩
      · right
        have en : nxt s.wn what a b st = ⟨(prm s.w a b).1, (prm s.w a b).2, 0⟩ := by unfold nxt; rw [if_neg hab, if_pos h2, hw]
        rw [en]
        unfold cnPrep
        simp only
        rw [e0, if_neg (by simp)]
        cases hq : (prm s.w a b).2 with
        | false =>
          right
          rw [if_neg (by decide)]
          refine ⟨trivial, trivial, rfl, rfl, fun _ => (prm_no hq).symm, s.p.now, ?_⟩
          rw [prm_no hq]
          exact ⟨⟨h.p.room, h.p.fit, h.p.m1, h.p.m1, h.p.m3, h.p.sure, hdn.trans hd, fun _ => ⟨(h.p.live hd).1, (h.p.live hd).2.1, (h.p.live hd).2.2.1, rfl⟩, fun c => by cases c⟩, by rw [hw]; exact h.rn, by rw [hw]; exact h.rn, fun _ => ⟨rfl, rfl⟩, h.w, h.w, h.w⟩
        | true =>
          rw [if_pos rfl]
          rcases h.keep hd (prm_fit h.w.1 ha hb) (prm_ok h.w.2 ha0 hb0) with ⟨g1, g2, g3⟩ | ⟨g1, g2, g3⟩
          · left
            rw [g1, if_pos (by decide)]
            exact ⟨trivial, trivial, rfl, _, by rw [g2]; exact g3⟩
          · right
            rw [g1, if_neg (by decide)]
            exact ⟨trivial, trivial, rfl, rfl, fun _ => g2, _, by rw [g2]; exact g3⟩
      · cases ho : st.okB with
        | false =>
          left
          have en : nxt s.wn what a b st = ⟨s.wn, false, 2⟩ := by unfold nxt; rw [if_neg hab, if_neg h2, ho, if_pos rfl]
          rw [en]
          unfold cnAcc
          simp only
          rw [e0, if_neg (by simp), ho, if_pos rfl]
          first | exact ⟨rfl, by simp, rfl, rfl, rfl, by simp⟩ | exact ⟨trivial, by simp, rfl, rfl, rfl, by simp⟩
        | true =>
          right
          have en : nxt s.wn what a b st = ⟨(tkv s.w a b st).1, (tkv s.w a b st).2, 0⟩ := by unfold nxt; rw [if_neg hab, if_neg h2, ho, if_neg (by decide), hw]
          rw [en]
          unfold cnAcc
          simp only
          rw [e0, if_neg (by simp), ho, if_neg (by decide)]
          cases hq : (tkv s.w a b st).2 with
          | false =>
            right
            rw [if_neg (by decide)]
            refine ⟨trivial, trivial, rfl, rfl, fun c => absurd c h2, s.p.now, ?_⟩
            rw [tkv_no hq]
            exact ⟨⟨h.p.room, h.p.fit, h.p.m1, h.p.m1, h.p.m3, h.p.sure, hdn.trans hd, fun _ => ⟨(h.p.live hd).1, (h.p.live hd).2.1, (h.p.live hd).2.2.1, rfl⟩, fun c => by cases c⟩, by rw [hw]; exact h.rn, by rw [hw]; exact h.rn, fun _ => ⟨rfl, rfl⟩, h.w, h.w, h.w⟩
          | true =>
            rw [if_pos rfl]
            rcases h.keep hd (tkv_fit h.w.1 ha hb hst) (tkv_ok h.w.2 ha0 hb0 ho) with ⟨g1, g2, g3⟩ | ⟨g1, g2, g3⟩
            · left
              rw [g1, if_pos (by decide)]
              exact ⟨trivial, trivial, rfl, _, by rw [g2]; exact g3⟩
            · right
              rw [g1, if_neg (by decide)]
              exact ⟨trivial, trivial, rfl, rfl, fun c => absurd c h2, _, by rw [g2]; exact g3⟩
end
section
open Go Go.Lx
open Go.Sx (vcIf)

structure CA where
  what : Int
  n : Int
  a : Int
  b : Int
  s : Stt
  turn : UInt8
def CA.v (x : CA) : PV := caP x.what x.n x.a x.b x.s.gen x.s.epoch x.s.recv (iP x.s.ch) (x.turn.toNat : Int)
abbrev i64r (x : Int) : Prop := -9223372036854775808 ≤ x ∧ x ≤ 9223372036854775807
def CA.ok (x : CA) : Prop := i64r x.n ∧ i64r x.a ∧ i64r x.b ∧ x.s.fit ∧ x.s.ch.length * 8 ≤ 140737488355328

abbrev vwS (pn pd an ad g e r : Int) (zs : List PV) : Res := .st 29 [.p (.int .i64 pn), .p (.int .i64 pd), .p (.int .i64 an), .p (.int .i64 ad), .p (.int .i64 g), .p (.int .i64 e), .p (.int .i64 r), .p (.sl zs)]
structure VC where
  pn : Int
  pd : Int
  an : Int
  ad : Int
  g : Int
  e : Int
  r : Int
  zs : List PV
abbrev VC.s (q : VC) : Res := vwS q.pn q.pd q.an q.ad q.g q.e q.r q.zs
def VC.of (q : VC) (w : Vw4) : Prop := IsVw w q.pn q.pd q.an q.ad q.g q.e q.r q.zs
structure CX where
  n : Nat
  su : Int
  ro : Int
  af : Int
  d : Bool
  xs : List PV
  m : Nat
  dn : Bool
  rs : List PV
  pn : Int
  pd : Int
  an : Int
  ad : Int
  g : Int
  e : Int
  r : Int
  zs : List PV
abbrev CX.own (q : CX) : List Res := coO q.n q.su q.ro q.af q.d q.xs q.m q.dn q.rs q.pn q.pd q.an q.ad q.g q.e q.r q.zs
def CX.of (q : CX) (c : Cn) : Prop := IsCo c q.n q.su q.ro q.af q.d q.xs q.m q.dn q.rs q.pn q.pd q.an q.ad q.g q.e q.r q.zs
structure CI where
  i : Nat
  s : Cl
  x : CX
  qn : VC
  qc : VC
  dd : Bool
structure CI.Ok (j : CI) (N : Nat) : Prop where
  i : j.i ≤ N
  x : j.x.of ⟨j.s.p.b, j.s.w⟩
  qn : j.qn.of j.s.wn
  qc : j.qc.of j.s.wc
  ok : j.s.Ok
  dd : j.dd = j.s.p.dead
abbrev CI.fr (zs : List PV) (j : CI) : List (Nat × V) := [(0, .p (.sl zs)), (3, .own 0 0), (5, .own 4 0), (7, .own 5 0), (8, .own 6 0), (9, .p (.bool j.dd)), (10, .p (.int .i64 (Int.ofNat j.i)))]
abbrev CI.own (j : CI) : List Res := j.x.own ++ [j.qn.s, j.qc.s]
abbrev caS (what n a b g e r : Int) (ys : List PV) (t : Int) : Res := .st 52 [.p (.int .i64 what), .p (.int .i64 n), .p (.int .i64 a), .p (.int .i64 b), .p (.int .i64 g), .p (.int .i64 e), .p (.int .i64 r), .p (.sl ys), .p (.int .u8 t)]

theorem councilPlays_spec (A : List CA) (hAc : ∀ a ∈ A, a.ok) (hAl : A.length < 4611686018427387904) : FnL Try.prog 5 [.p (.sl (A.map CA.v))] [] fun z own => z = .p (.bool true) := by
  obtain ⟨zs, hzs⟩ : ∃ zs, zs = A.map CA.v := ⟨_, rfl⟩
  obtain ⟨N, hN⟩ : ∃ N, N = A.length := ⟨_, rfl⟩
  have hzl : zs.length = N := by rw [hzs, List.length_map, hN]
  rw [← hzs]
  have hnew := tapeNew_spec 4000 (by decide) (by decide)
  have hop0 := coOpen_spec (isTp0 4000 (by decide))
  rw [cnOpen0] at hop0
  refine fn_of_vc eOk fOk fo5 Try.func5 rfl rfl rfl fun B hB => ?_
  intro add sub mul quo rem band bor bxor bclr shl shr ieq ilt ile seq slt beq bnot orb bcond iwrap iof ssz hA cat sq sl imin imax smin smax len slen u8 hL op hop call hcall code hcode ret hret
  cbv
  refine hcall _ _ _ _ _ (CallEv.same hnew rfl ?_)
  rintro _ _ (⟨h, rfl, rfl⟩ | ⟨h, rfl, rfl⟩)
  · omega
  cbv
  refine hcall _ _ _ _ _ (CallEv.lend [0, 1] hop0 rfl (.cons (.own 0 0 0 rfl) .nil) (tpL rfl rfl rfl rfl) ?_)
  rintro _ _ (⟨n, su, ro, af, d, xs, m, dn, rs, pn, pd, an, ad, g, e, r, zs0, h0, hb, rfl, rfl⟩ | ⟨e, n, su, ro, af, d, xs, h0, _⟩)
  rotate_left
  · exact absurd rfl h0
  cbv
  refine hcall _ _ _ _ _ (CallEv.same awake15_spec rfl ?_)
  rintro _ _ ⟨rfl, rfl⟩
  cbv
  repeat (first | (refine vcIf.yes ?_ ?_; (focus (simp [hA.not, hA.eq, hA.lt, hA.le, hA.cond, hA.beq, hA.orb, hL.len, hL.slen, hL.sq]; done)); cbv) | (refine vcIf.no ?_ ?_; (focus (simp [hA.not, hA.eq, hA.lt, hA.le, hA.cond, hA.beq, hA.orb, hL.len, hL.slen, hL.sq]; done)); cbv) | fail)
  refine hcode _ _ _ (CodeEv.convW (ConvW.cell 5 7 (.p (.sl [])) rfl rfl (.p PW.nils)) (CodeEv.convW (ConvW.cell 6 7 (.p (.sl [])) rfl rfl (.p PW.nils)) (CodeEv.loopP (ι := CI) (CI.fr zs) CI.own (fun j => j.Ok N) (fun j => N - j.i) (fun _ => False) (fun id st => id = 0 ∧ st.n = 184)
    ⟨0, ⟨⟨⟨⟨[], 0, 4000, -1, false⟩, [], false⟩, [], [], false⟩, Vw4.zero, Vw4.zero, Vw4.zero⟩, ⟨n, su, ro, af, d, xs, m, dn, rs, pn, pd, an, ad, g, e, r, zs0⟩, ⟨0, 0, 0, 0, 0, 0, 0, []⟩, ⟨0, 0, 0, 0, 0, 0, 0, []⟩, false⟩ ?_ ?_ ?_ ?_)))
  · refine ⟨(by repeat (first | exact trivial | refine And.intro rfl ?_)), rfl, Nat.zero_le _, hb, IsVw.zero, IsVw.zero, ⟨⟨rfl, (fun r hr => by cases hr), Nat.zero_le _, Nat.zero_le _, Nat.zero_le _, by rw [rbytes_nil]; rfl, rfl, fun _ => ⟨rfl, by rw [rbytes_nil], rfl, rfl⟩, (fun c => by cases c)⟩, .inl ⟨rfl, rfl⟩, .inl ⟨rfl, rfl⟩, fun _ => ⟨rfl, rfl⟩, ⟨zero_fit, zero_ok⟩, ⟨zero_fit, zero_ok⟩, zero_fit, zero_ok⟩, rfl⟩
  · rintro ⟨i, s, ⟨n, su, ro, af, d, xs, m, dn, rs, pn, pd, an, ad, g, e, r, zv⟩, ⟨n1, n2, n3, n4, n5, n6, n7, n8⟩, ⟨c1, c2, c3, c4, c5, c6, c7, c8⟩, dd⟩ ⟨k1, k2, k3, k4, k5, k6⟩
    replace k2 : IsCo ⟨s.p.b, s.w⟩ n su ro af d xs m dn rs pn pd an ad g e r zv := k2
    replace k3 : IsVw s.wn n1 n2 n3 n4 n5 n6 n7 n8 := k3
    replace k4 : IsVw s.wc c1 c2 c3 c4 c5 c6 c7 c8 := k4
    replace k5 : s.Ok := k5
    replace k6 : dd = s.p.dead := k6
    replace k1 : i ≤ N := k1
    refine PcEv.seq (κ := Unit) (fun _ => CI.fr zs ⟨i, s, ⟨n, su, ro, af, d, xs, m, dn, rs, pn, pd, an, ad, g, e, r, zv⟩, ⟨n1, n2, n3, n4, n5, n6, n7, n8⟩, ⟨c1, c2, c3, c4, c5, c6, c7, c8⟩, dd⟩) (fun _ => CI.own ⟨i, s, ⟨n, su, ro, af, d, xs, m, dn, rs, pn, pd, an, ad, g, e, r, zv⟩, ⟨n1, n2, n3, n4, n5, n6, n7, n8⟩, ⟨c1, c2, c3, c4, c5, c6, c7, c8⟩, dd⟩) (fun _ => i < N ∧ i < 60) (VcPiece.ok eOk fOk ?_) ?_
    · intro add1 sub1 mul1 quo1 rem1 band1 bor1 bxor1 bclr1 shl1 shr1 ieq1 ilt1 ile1 seq1 slt1 beq1 bnot1 orb1 bcond1 iwrap1 iof1 ssz1 hA1 cat1 sq1 sl1 imin1 imax1 smin1 smax1 len1 slen1 u81 hL1 op1 hop1 call1 hcall1 code1 hcode1 nx1 hnx1 ret1 hret1 ex1 hex1
      have hlen : len1 zs = Int.ofNat N := by rw [hL1.len, hzl]; rfl
      cbv
      by_cases hi : i < N
      · refine vcIf.yes (by first | (simp [hA1.not, hA1.eq, hA1.lt, hA1.le, hA1.cond, hA1.beq, hA1.orb, hL1.len, hL1.slen, hL1.sq, hlen, hi]; done) | (simp only [hlen, hi]; simp [hA1.not, hA1.eq, hA1.lt, hA1.le, hA1.cond, hA1.beq, hA1.orb, hL1.len, hL1.slen, hL1.sq, hlen, hi]; done) | (simp [hA1.not, hA1.eq, hA1.lt, hA1.le, hA1.cond, hA1.beq, hA1.orb, hL1.len, hL1.slen, hL1.sq, hlen, hi]; omega) | (simp only [hlen, hi]; simp [hA1.not, hA1.eq, hA1.lt, hA1.le, hA1.cond, hA1.beq, hA1.orb, hL1.len, hL1.slen, hL1.sq, hlen, hi]; omega)) ?_
        cbv
        by_cases hi60 : i < 60
        · refine vcIf.yes (by first | (simp [hA1.not, hA1.eq, hA1.lt, hA1.le, hA1.cond, hA1.beq, hA1.orb, hL1.len, hL1.slen, hL1.sq, hi60]; done) | (simp only [hi60]; simp [hA1.not, hA1.eq, hA1.lt, hA1.le, hA1.cond, hA1.beq, hA1.orb, hL1.len, hL1.slen, hL1.sq, hi60]; done) | (simp [hA1.not, hA1.eq, hA1.lt, hA1.le, hA1.cond, hA1.beq, hA1.orb, hL1.len, hL1.slen, hL1.sq, hi60]; omega) | (simp only [hi60]; simp [hA1.not, hA1.eq, hA1.lt, hA1.le, hA1.cond, hA1.beq, hA1.orb, hL1.len, hL1.slen, hL1.sq, hi60]; omega)) ?_
          cbv
          refine hnx1 _ (OutX.w ⟨(), [], ⟨hi, hi60⟩, rfl, (by repeat (first | exact trivial | refine And.intro rfl ?_)), rfl, rfl, rfl, ?_⟩)
          rw [hB]; exact Nat.zero_le _
        · refine vcIf.no (by first | (simp [hA1.not, hA1.eq, hA1.lt, hA1.le, hA1.cond, hA1.beq, hA1.orb, hL1.len, hL1.slen, hL1.sq, hi60]; done) | (simp only [hi60]; simp [hA1.not, hA1.eq, hA1.lt, hA1.le, hA1.cond, hA1.beq, hA1.orb, hL1.len, hL1.slen, hL1.sq, hi60]; done) | (simp [hA1.not, hA1.eq, hA1.lt, hA1.le, hA1.cond, hA1.beq, hA1.orb, hL1.len, hL1.slen, hL1.sq, hi60]; omega) | (simp only [hi60]; simp [hA1.not, hA1.eq, hA1.lt, hA1.le, hA1.cond, hA1.beq, hA1.orb, hL1.len, hL1.slen, hL1.sq, hi60]; omega)) ?_
          cbv
          exact hex1 _ _ ⟨rfl, rfl⟩
      · refine vcIf.no (by first | (simp [hA1.not, hA1.eq, hA1.lt, hA1.le, hA1.cond, hA1.beq, hA1.orb, hL1.len, hL1.slen, hL1.sq, hlen, hi]; done) | (simp only [hlen, hi]; simp [hA1.not, hA1.eq, hA1.lt, hA1.le, hA1.cond, hA1.beq, hA1.orb, hL1.len, hL1.slen, hL1.sq, hlen, hi]; done) | (simp [hA1.not, hA1.eq, hA1.lt, hA1.le, hA1.cond, hA1.beq, hA1.orb, hL1.len, hL1.slen, hL1.sq, hlen, hi]; omega) | (simp only [hlen, hi]; simp [hA1.not, hA1.eq, hA1.lt, hA1.le, hA1.cond, hA1.beq, hA1.orb, hL1.len, hL1.slen, hL1.sq, hlen, hi]; omega)) ?_
        cbv
        repeat (first | (refine vcIf.yes ?_ ?_; (focus (simp [hA1.not, hA1.eq, hA1.lt, hA1.le, hA1.cond, hA1.beq, hA1.orb, hL1.len, hL1.slen, hL1.sq]; done)); cbv) | (refine vcIf.no ?_ ?_; (focus (simp [hA1.not, hA1.eq, hA1.lt, hA1.le, hA1.cond, hA1.beq, hA1.orb, hL1.len, hL1.slen, hL1.sq]; done)); cbv) | fail)
        exact hex1 _ _ ⟨rfl, rfl⟩
    rintro ⟨⟩ ⟨hi, hi60⟩
    obtain ⟨A0, ha⟩ := get_of_lt (show i < A.length by omega)
    have hao := hAc A0 (List.mem_of_getElem? ha)
    have hzi : zs[i]? = some A0.v := by rw [hzs, List.getElem?_map, ha]; rfl
    obtain ⟨what, nn, a, b, st, tn⟩ := A0
    obtain ⟨hn, ha2, hb2, hsf, hs8⟩ := hao
    simp only at hn ha2 hb2 hsf hs8
    obtain ⟨ys, hys⟩ : ∃ ys, ys = iP st.ch := ⟨_, rfl⟩
    obtain ⟨sg, hsg⟩ : ∃ sg, st.gen = sg := ⟨_, rfl⟩
    obtain ⟨se, hse⟩ : ∃ sg, st.epoch = sg := ⟨_, rfl⟩
    obtain ⟨sr, hsr⟩ : ∃ sg, st.recv = sg := ⟨_, rfl⟩
    have hst : IsSt st sg se sr ys := ⟨hsg, hse, hsr, hys⟩
    obtain ⟨tv, htv⟩ : ∃ tv : Int, tv = (tn.toNat : Int) := ⟨_, rfl⟩
    replace hzi : zs[i]? = some (caP what nn a b sg se sr ys tv) := by rw [hzi, htv, ← hsg, ← hse, ← hsr, hys]; rfl
    refine PcEv.seq (κ := CI) (CI.fr zs) CI.own (fun j => j.i = i ∧ j.Ok N) ?_ ?_
    · refine PcEv.block ?_
      -- the act, in a box of its own
      refine PcEv.seq (κ := Unit) (fun _ => (11, .own 7 0) :: CI.fr zs ⟨i, s, ⟨n, su, ro, af, d, xs, m, dn, rs, pn, pd, an, ad, g, e, r, zv⟩, ⟨n1, n2, n3, n4, n5, n6, n7, n8⟩, ⟨c1, c2, c3, c4, c5, c6, c7, c8⟩, dd⟩) (fun _ => CI.own ⟨i, s, ⟨n, su, ro, af, d, xs, m, dn, rs, pn, pd, an, ad, g, e, r, zv⟩, ⟨n1, n2, n3, n4, n5, n6, n7, n8⟩, ⟨c1, c2, c3, c4, c5, c6, c7, c8⟩, dd⟩ ++ [caS what nn a b sg se sr ys tv]) (fun _ => True) (VcPiece.ok eOk fOk ?_) ?_
      · intro add1 sub1 mul1 quo1 rem1 band1 bor1 bxor1 bclr1 shl1 shr1 ieq1 ilt1 ile1 seq1 slt1 beq1 bnot1 orb1 bcond1 iwrap1 iof1 ssz1 hA1 cat1 sq1 sl1 imin1 imax1 smin1 smax1 len1 slen1 u81 hL1 op1 hop1 call1 hcall1 code1 hcode1 nx1 hnx1 ret1 hret1 ex1 hex1
        cbv
        refine ⟨i, _, rfl, hzi, rfl, ?_⟩
        cbv
        refine hnx1 _ (OutX.w ⟨(), [], trivial, rfl, (by repeat (first | exact trivial | refine And.intro rfl ?_)), rfl, rfl, rfl, ?_⟩)
        rw [hB]; exact Nat.zero_le _
      rintro ⟨⟩ _
      refine PcEv.seq (κ := Unit) (fun _ => (11, .own 7 0) :: CI.fr zs ⟨i, s, ⟨n, su, ro, af, d, xs, m, dn, rs, pn, pd, an, ad, g, e, r, zv⟩, ⟨n1, n2, n3, n4, n5, n6, n7, n8⟩, ⟨c1, c2, c3, c4, c5, c6, c7, c8⟩, dd⟩) (fun _ => CI.own ⟨i, s, ⟨n, su, ro, af, d, xs, m, dn, rs, pn, pd, an, ad, g, e, r, zv⟩, ⟨n1, n2, n3, n4, n5, n6, n7, n8⟩, ⟨c1, c2, c3, c4, c5, c6, c7, c8⟩, dd⟩ ++ [caS what nn a b sg se sr ys tv]) (fun _ => ¬ what = 3 ∧ ¬ 3 < what) ?_ ?_
      · have hfail := fail_spec k2.1.1 nn hn.2
        have hcrash := crash_spec k2.1.1 nn hn.1 hn.2 tn
        rw [← htv] at hcrash
        obtain ⟨b', v, hb1, hb3, hb4⟩ := k5.crash nn tn (by have : IsTp s.p.b.t n su ro af d xs := k2.1.1; unfold IsTp at this; omega) (by have : IsTp s.p.b.t n su ro af d xs := k2.1.1; unfold IsTp at this; omega)
        obtain ⟨t', ht'⟩ : ∃ t', t' = tpCrash s.p.b.t nn tn := ⟨_, rfl⟩
        rw [← ht'] at hcrash hb1
        refine PcEv.block (VcPiece.ok eOk fOk ?_)
        intro add1 sub1 mul1 quo1 rem1 band1 bor1 bxor1 bclr1 shl1 shr1 ieq1 ilt1 ile1 seq1 slt1 beq1 bnot1 orb1 bcond1 iwrap1 iof1 ssz1 hA1 cat1 sq1 sl1 imin1 imax1 smin1 smax1 len1 slen1 u81 hL1 op1 hop1 call1 hcall1 code1 hcode1 nx1 hnx1 ret1 hret1 ex1 hex1
        have e3 : ieq1 what 3 = decide (what = 3) := hA1.eq what 3
        cbv
        by_cases h3 : what = 3
        · refine vcIf.yes (by first | (simp [hA1.not, hA1.eq, hA1.lt, hA1.le, hA1.cond, hA1.beq, hA1.orb, hL1.len, hL1.slen, hL1.sq, e3, h3]; done) | (simp only [e3, h3]; simp [hA1.not, hA1.eq, hA1.lt, hA1.le, hA1.cond, hA1.beq, hA1.orb, hL1.len, hL1.slen, hL1.sq, e3, h3]; done) | (simp [hA1.not, hA1.eq, hA1.lt, hA1.le, hA1.cond, hA1.beq, hA1.orb, hL1.len, hL1.slen, hL1.sq, e3, h3]; omega) | (simp only [e3, h3]; simp [hA1.not, hA1.eq, hA1.lt, hA1.le, hA1.cond, hA1.beq, hA1.orb, hL1.len, hL1.slen, hL1.sq, e3, h3]; omega)) ?_
          cbv
          refine hcall1 _ _ _ _ _ (CallEv.lend [0, 1] hfail rfl (.cons (.own 0 0 0 rfl) (.cons (.p _) .nil)) (tpL rfl rfl rfl rfl) ?_)
          rintro _ _ ⟨af1, ht1, rfl⟩
          cbv
          refine hex1 1 _ (OutX.w ⟨⟨i, ⟨⟨⟨tpFail s.p.b.t nn, s.p.b.rs, s.p.b.dn⟩, s.p.now, s.p.cut, s.p.dead⟩, s.w, s.wn, s.wc⟩, ⟨n, su, ro, af1, d, xs, m, dn, rs, pn, pd, an, ad, g, e, r, zv⟩, ⟨n1, n2, n3, n4, n5, n6, n7, n8⟩, ⟨c1, c2, c3, c4, c5, c6, c7, c8⟩, dd⟩, _, ⟨rfl, k1, ⟨⟨ht1, k2.1.2⟩, k2.2⟩, k3, k4, k5.fail nn, k6⟩, rfl, (by repeat (first | exact trivial | refine And.intro rfl ?_)), rfl, rfl, rfl, ?_⟩)
          rw [hB]; exact Nat.zero_le _
        · refine vcIf.no (by first | (simp [hA1.not, hA1.eq, hA1.lt, hA1.le, hA1.cond, hA1.beq, hA1.orb, hL1.len, hL1.slen, hL1.sq, e3, h3]; done) | (simp only [e3, h3]; simp [hA1.not, hA1.eq, hA1.lt, hA1.le, hA1.cond, hA1.beq, hA1.orb, hL1.len, hL1.slen, hL1.sq, e3, h3]; done) | (simp [hA1.not, hA1.eq, hA1.lt, hA1.le, hA1.cond, hA1.beq, hA1.orb, hL1.len, hL1.slen, hL1.sq, e3, h3]; omega) | (simp only [e3, h3]; simp [hA1.not, hA1.eq, hA1.lt, hA1.le, hA1.cond, hA1.beq, hA1.orb, hL1.len, hL1.slen, hL1.sq, e3, h3]; omega)) ?_
          cbv
          by_cases h4 : 3 < what
          · refine vcIf.yes (by first | (simp [hA1.not, hA1.eq, hA1.lt, hA1.le, hA1.cond, hA1.beq, hA1.orb, hL1.len, hL1.slen, hL1.sq, h4]; done) | (simp only [h4]; simp [hA1.not, hA1.eq, hA1.lt, hA1.le, hA1.cond, hA1.beq, hA1.orb, hL1.len, hL1.slen, hL1.sq, h4]; done) | (simp [hA1.not, hA1.eq, hA1.lt, hA1.le, hA1.cond, hA1.beq, hA1.orb, hL1.len, hL1.slen, hL1.sq, h4]; omega) | (simp only [h4]; simp [hA1.not, hA1.eq, hA1.lt, hA1.le, hA1.cond, hA1.beq, hA1.orb, hL1.len, hL1.slen, hL1.sq, h4]; omega)) ?_
            cbv
            refine hcall1 _ _ _ _ _ (CallEv.lend [0, 1] hcrash rfl (.cons (.own 0 0 0 rfl) (.cons (.p _) (.cons (.p _) .nil))) (tpL rfl rfl rfl rfl) ?_)
            rintro _ _ ⟨t1, t2, t3, t4, t5, t6, ht1, rfl⟩
            have hopn := coOpen_spec ht1
            rw [hb1] at hopn
            cbv
            refine hcall1 _ _ _ _ _ (CallEv.lend [0, 1] hopn rfl (.cons (.own 0 0 0 rfl) .nil) (tpL rfl rfl rfl rfl) ?_)
            rintro _ _ (⟨n', su', ro', af', d', xs', m', dn', rs', pn', pd', an', ad', g', e', r', zv', h0, hc, rfl, rfl⟩ | ⟨e, n, su, ro, af, d, xs, h0, _⟩)
            rotate_left
            · exact absurd rfl h0
            replace hc : IsCo ⟨b', v⟩ n' su' ro' af' d' xs' m' dn' rs' pn' pd' an' ad' g' e' r' zv' := hc
            have h16 : v.s.ch.length ≤ 16 := ok_len hb3.w.2
            have hvw := coVow_spec v (by omega) (n := n') (su := su') (ro := ro') (af := af') (d := d') (xs := xs') (m := m') (dn := dn') (rs := rs') hc.2
            have hsm1 := rSameVow_spec v s.wn (by omega) hc.2 k3
            have hsm2 := rSameVow_spec v s.wc (by omega) hc.2 k4
            cbv
            refine hcode1 _ _ _ (CodeEv.drawT eOk fOk (by kernel_rfl) (Xof 7 [0, 1, 2, 3, 4]) (.so 0 (.so 1 (.so 2 (.so 3 (.so 4 (.so 5 (.so 6 (.rd 7 (.rd 9 (.acts (.cons 8 (.acts (.cons 10 (.so 11 (.so 12 (.so 13 (.so 14 (.rd 15 (.rd 17 (.acts (.cons 16 (.acts (.cons 18 (.so 19 (.so 20 (.so 21 (.so 22 (.done))))) (.nil))) (.nil))))))))) (.nil))) (.nil)))))))))))) (by kernel_rfl) (by kernel_rfl) ?_)
            intro add2 sub2 mul2 quo2 rem2 band2 bor2 bxor2 bclr2 shl2 shr2 ieq2 ilt2 ile2 seq2 slt2 beq2 bnot2 orb2 bcond2 iwrap2 iof2 ssz2 hA2 cat2 sq2 sl2 imin2 imax2 smin2 smax2 len2 slen2 u82 hL2 op2 hop2 call2 hcall2 code2 hcode2 q2 hq2
            cbv
            repeat (first | (refine vcIf.yes ?_ ?_; (focus (simp [hA2.not, hA2.eq, hA2.lt, hA2.le, hA2.cond, hA2.beq, hA2.orb, hL2.len, hL2.slen, hL2.sq]; done)); cbv) | (refine vcIf.no ?_ ?_; (focus (simp [hA2.not, hA2.eq, hA2.lt, hA2.le, hA2.cond, hA2.beq, hA2.orb, hL2.len, hL2.slen, hL2.sq]; done)); cbv) | fail)
            refine hcall2 _ _ _ _ _ (CallEv.lend [0, 1, 8, 9, 10] hvw rfl (.cons (.own 4 10 0 rfl) .nil) (coL rfl rfl rfl rfl rfl rfl rfl rfl rfl) ?_)
            rintro _ _ ⟨rfl, rfl⟩
            cbv
            refine hcall2 _ _ _ _ _ (CallEv.same hsm1 rfl ?_)
            rintro _ _ ⟨c, hc2, rfl, rfl⟩
            cbv
            by_cases hvn : v = s.wn
            · obtain rfl : c = true := hc2.2 hvn
              cbv
              repeat (first | (refine vcIf.yes ?_ ?_; (focus (simp [hA2.not, hA2.eq, hA2.lt, hA2.le, hA2.cond, hA2.beq, hA2.orb, hL2.len, hL2.slen, hL2.sq]; done)); cbv) | (refine vcIf.no ?_ ?_; (focus (simp [hA2.not, hA2.eq, hA2.lt, hA2.le, hA2.cond, hA2.beq, hA2.orb, hL2.len, hL2.slen, hL2.sq]; done)); cbv) | fail)
              refine hq2 _ ?_
              cbv
              repeat (first | (refine vcIf.yes ?_ ?_; (focus (simp [hA2.not, hA2.eq, hA2.lt, hA2.le, hA2.cond, hA2.beq, hA2.orb, hL2.len, hL2.slen, hL2.sq]; done)); cbv) | (refine vcIf.no ?_ ?_; (focus (simp [hA2.not, hA2.eq, hA2.lt, hA2.le, hA2.cond, hA2.beq, hA2.orb, hL2.len, hL2.slen, hL2.sq]; done)); cbv) | fail)
              refine hcall1 _ _ _ _ _ (CallEv.lend [0, 1, 8, 9, 10] hvw rfl (.cons (.own 4 10 0 rfl) .nil) (coL rfl rfl rfl rfl rfl rfl rfl rfl rfl) ?_)
              rintro _ _ ⟨rfl, rfl⟩
              cbv
              refine hex1 1 _ (OutX.wC (ConvW.pack [0, 1, 8, 9, 10, 5, 6] hB rfl) ⟨⟨i, ⟨⟨b', b'.rs, b'.rs, false⟩, v, v, v⟩, ⟨n', su', ro', af', d', xs', m', dn', rs', pn', pd', an', ad', g', e', r', zv'⟩, ⟨pn', pd', an', ad', g', e', r', zv'⟩, ⟨pn', pd', an', ad', g', e', r', zv'⟩, false⟩, [], ⟨rfl, k1, hc, hc.2, hc.2, hb3, rfl⟩, rfl, (by repeat (first | exact trivial | refine And.intro rfl ?_)), rfl, rfl, rfl, ?_⟩)
              rw [hB]; exact Nat.zero_le _
            · obtain rfl : c = false := by cases c <;> first | rfl | exact absurd (hc2.1 rfl) hvn
              rcases hb4 with c | ⟨o1, o2⟩
              · exact absurd c hvn
              obtain rfl : dd = true := k6.trans o1
              cbv
              repeat (first | (refine vcIf.yes ?_ ?_; (focus (simp [hA2.not, hA2.eq, hA2.lt, hA2.le, hA2.cond, hA2.beq, hA2.orb, hL2.len, hL2.slen, hL2.sq]; done)); cbv) | (refine vcIf.no ?_ ?_; (focus (simp [hA2.not, hA2.eq, hA2.lt, hA2.le, hA2.cond, hA2.beq, hA2.orb, hL2.len, hL2.slen, hL2.sq]; done)); cbv) | fail)
              refine hcall2 _ _ _ _ _ (CallEv.lend [0, 1, 8, 9, 10] hvw rfl (.cons (.own 4 10 0 rfl) .nil) (coL rfl rfl rfl rfl rfl rfl rfl rfl rfl) ?_)
              rintro _ _ ⟨rfl, rfl⟩
              cbv
              refine hcall2 _ _ _ _ _ (CallEv.same hsm2 rfl ?_)
              rintro _ _ ⟨c, hc3, rfl, rfl⟩
              obtain rfl : c = true := hc3.2 o2
              cbv
              repeat (first | (refine vcIf.yes ?_ ?_; (focus (simp [hA2.not, hA2.eq, hA2.lt, hA2.le, hA2.cond, hA2.beq, hA2.orb, hL2.len, hL2.slen, hL2.sq]; done)); cbv) | (refine vcIf.no ?_ ?_; (focus (simp [hA2.not, hA2.eq, hA2.lt, hA2.le, hA2.cond, hA2.beq, hA2.orb, hL2.len, hL2.slen, hL2.sq]; done)); cbv) | fail)
              refine hq2 _ ?_
              cbv
              repeat (first | (refine vcIf.yes ?_ ?_; (focus (simp [hA2.not, hA2.eq, hA2.lt, hA2.le, hA2.cond, hA2.beq, hA2.orb, hL2.len, hL2.slen, hL2.sq]; done)); cbv) | (refine vcIf.no ?_ ?_; (focus (simp [hA2.not, hA2.eq, hA2.lt, hA2.le, hA2.cond, hA2.beq, hA2.orb, hL2.len, hL2.slen, hL2.sq]; done)); cbv) | fail)
              refine hcall1 _ _ _ _ _ (CallEv.lend [0, 1, 8, 9, 10] hvw rfl (.cons (.own 4 10 0 rfl) .nil) (coL rfl rfl rfl rfl rfl rfl rfl rfl rfl) ?_)
              rintro _ _ ⟨rfl, rfl⟩
              cbv
              refine hex1 1 _ (OutX.wC (ConvW.pack [0, 1, 8, 9, 10, 5, 6] hB rfl) ⟨⟨i, ⟨⟨b', b'.rs, b'.rs, false⟩, v, v, v⟩, ⟨n', su', ro', af', d', xs', m', dn', rs', pn', pd', an', ad', g', e', r', zv'⟩, ⟨pn', pd', an', ad', g', e', r', zv'⟩, ⟨pn', pd', an', ad', g', e', r', zv'⟩, false⟩, [], ⟨rfl, k1, hc, hc.2, hc.2, hb3, rfl⟩, rfl, (by repeat (first | exact trivial | refine And.intro rfl ?_)), rfl, rfl, rfl, ?_⟩)
              rw [hB]; exact Nat.zero_le _
          · refine vcIf.no (by first | (simp [hA1.not, hA1.eq, hA1.lt, hA1.le, hA1.cond, hA1.beq, hA1.orb, hL1.len, hL1.slen, hL1.sq, h4]; done) | (simp only [h4]; simp [hA1.not, hA1.eq, hA1.lt, hA1.le, hA1.cond, hA1.beq, hA1.orb, hL1.len, hL1.slen, hL1.sq, h4]; done) | (simp [hA1.not, hA1.eq, hA1.lt, hA1.le, hA1.cond, hA1.beq, hA1.orb, hL1.len, hL1.slen, hL1.sq, h4]; omega) | (simp only [h4]; simp [hA1.not, hA1.eq, hA1.lt, hA1.le, hA1.cond, hA1.beq, hA1.orb, hL1.len, hL1.slen, hL1.sq, h4]; omega)) ?_
            cbv
            refine hnx1 _ (OutX.w ⟨(), [], ⟨h3, h4⟩, rfl, (by repeat (first | exact trivial | refine And.intro rfl ?_)), rfl, rfl, rfl, ?_⟩)
            rw [hB]; exact Nat.zero_le _
      rintro ⟨⟩ ⟨hw3, hw4⟩
      -- what should come of it
      have hnext := next_spec s.wn k3 what nn a b st hsf.2.2 hst tv
      obtain ⟨W, hW⟩ : ∃ W, W = nxt s.wn what a b st := ⟨_, rfl⟩
      rw [← hW] at hnext
      refine PcEv.seq (κ := VC × Bool × Int) (fun q => (14, .p (.int .i64 q.2.2)) :: (13, .p (.bool q.2.1)) :: (12, .own 8 0) :: (11, .own 7 0) :: CI.fr zs ⟨i, s, ⟨n, su, ro, af, d, xs, m, dn, rs, pn, pd, an, ad, g, e, r, zv⟩, ⟨n1, n2, n3, n4, n5, n6, n7, n8⟩, ⟨c1, c2, c3, c4, c5, c6, c7, c8⟩, dd⟩) (fun q => CI.own ⟨i, s, ⟨n, su, ro, af, d, xs, m, dn, rs, pn, pd, an, ad, g, e, r, zv⟩, ⟨n1, n2, n3, n4, n5, n6, n7, n8⟩, ⟨c1, c2, c3, c4, c5, c6, c7, c8⟩, dd⟩ ++ [caS what nn a b sg se sr ys tv, q.1.s])
        (fun q => q.1.of W.w ∧ q.2.1 = W.ok ∧ q.2.2 = (W.bad : Int)) (VcPiece.ok eOk fOk ?_) ?_
      · intro add1 sub1 mul1 quo1 rem1 band1 bor1 bxor1 bclr1 shl1 shr1 ieq1 ilt1 ile1 seq1 slt1 beq1 bnot1 orb1 bcond1 iwrap1 iof1 ssz1 hA1 cat1 sq1 sl1 imin1 imax1 smin1 smax1 len1 slen1 u81 hL1 op1 hop1 call1 hcall1 code1 hcode1 nx1 hnx1 ret1 hret1 ex1 hex1
        cbv
        refine hcall1 _ _ _ _ _ (CallEv.same hnext rfl ?_)
        rintro _ _ ⟨p1, p2, p3, p4, p5, p6, p7, p8, ok, bad, hv, hok, hbad, rfl, rfl⟩
        cbv
        refine hnx1 _ (OutX.w ⟨(⟨p1, p2, p3, p4, p5, p6, p7, p8⟩, ok, bad), [], ⟨hv, hok, hbad⟩, rfl, (by repeat (first | exact trivial | refine And.intro rfl ?_)), rfl, rfl, rfl, ?_⟩)
        rw [hB]; exact Nat.zero_le _
      rintro ⟨⟨w1, w2, w3, w4, w5, w6, w7, w8⟩, wok, wbad⟩ ⟨hwv, hwok, hwbad⟩
      replace hwv : IsVw W.w w1 w2 w3 w4 w5 w6 w7 w8 := hwv
      simp only at hwok hwbad
      refine PcEv.seq (κ := Unit) (fun _ => (16, .p (.int .i64 0)) :: (15, .p (.bool false)) :: (14, .p (.int .i64 wbad)) :: (13, .p (.bool wok)) :: (12, .own 8 0) :: (11, .own 7 0) :: CI.fr zs ⟨i, s, ⟨n, su, ro, af, d, xs, m, dn, rs, pn, pd, an, ad, g, e, r, zv⟩, ⟨n1, n2, n3, n4, n5, n6, n7, n8⟩, ⟨c1, c2, c3, c4, c5, c6, c7, c8⟩, dd⟩) (fun _ => CI.own ⟨i, s, ⟨n, su, ro, af, d, xs, m, dn, rs, pn, pd, an, ad, g, e, r, zv⟩, ⟨n1, n2, n3, n4, n5, n6, n7, n8⟩, ⟨c1, c2, c3, c4, c5, c6, c7, c8⟩, dd⟩ ++ [caS what nn a b sg se sr ys tv, vwS w1 w2 w3 w4 w5 w6 w7 w8]) (fun _ => True) (VcPiece.ok eOk fOk ?_) ?_
      · intro add1 sub1 mul1 quo1 rem1 band1 bor1 bxor1 bclr1 shl1 shr1 ieq1 ilt1 ile1 seq1 slt1 beq1 bnot1 orb1 bcond1 iwrap1 iof1 ssz1 hA1 cat1 sq1 sl1 imin1 imax1 smin1 smax1 len1 slen1 u81 hL1 op1 hop1 call1 hcall1 code1 hcode1 nx1 hnx1 ret1 hret1 ex1 hex1
        cbv
        refine hnx1 _ (OutX.w ⟨(), [], trivial, rfl, (by repeat (first | exact trivial | refine And.intro rfl ?_)), rfl, rfl, rfl, ?_⟩)
        rw [hB]; exact Nat.zero_le _
      rintro ⟨⟩ _
      refine PcEv.seq (κ := Unit) (fun _ => (17, .own 9 0) :: (16, .p (.int .i64 0)) :: (15, .p (.bool false)) :: (14, .p (.int .i64 wbad)) :: (13, .p (.bool wok)) :: (12, .own 8 0) :: (11, .own 7 0) :: CI.fr zs ⟨i, s, ⟨n, su, ro, af, d, xs, m, dn, rs, pn, pd, an, ad, g, e, r, zv⟩, ⟨n1, n2, n3, n4, n5, n6, n7, n8⟩, ⟨c1, c2, c3, c4, c5, c6, c7, c8⟩, dd⟩) (fun _ => CI.own ⟨i, s, ⟨n, su, ro, af, d, xs, m, dn, rs, pn, pd, an, ad, g, e, r, zv⟩, ⟨n1, n2, n3, n4, n5, n6, n7, n8⟩, ⟨c1, c2, c3, c4, c5, c6, c7, c8⟩, dd⟩ ++ [caS what nn a b sg se sr ys tv, vwS w1 w2 w3 w4 w5 w6 w7 w8, vwS 0 0 0 0 0 0 0 []]) (fun _ => True) (VcPiece.ok eOk fOk ?_) ?_
      · intro add1 sub1 mul1 quo1 rem1 band1 bor1 bxor1 bclr1 shl1 shr1 ieq1 ilt1 ile1 seq1 slt1 beq1 bnot1 orb1 bcond1 iwrap1 iof1 ssz1 hA1 cat1 sq1 sl1 imin1 imax1 smin1 smax1 len1 slen1 u81 hL1 op1 hop1 call1 hcall1 code1 hcode1 nx1 hnx1 ret1 hret1 ex1 hex1
        cbv
        refine hnx1 _ (OutX.wC (ConvW.cell 9 7 (.p (.sl [])) rfl rfl (.p PW.nils)) ⟨(), [], trivial, rfl, (by repeat (first | exact trivial | refine And.intro rfl ?_)), rfl, rfl, rfl, ?_⟩)
        rw [hB]; exact Nat.zero_le _
      rintro ⟨⟩ _
      -- Prepare or Accept
      refine PcEv.seq (κ := CX × VC × Bool × Int) (fun q => (17, .own 9 0) :: (16, .p (.int .i64 q.2.2.2)) :: (15, .p (.bool q.2.2.1)) :: (14, .p (.int .i64 wbad)) :: (13, .p (.bool wok)) :: (12, .own 8 0) :: (11, .own 7 0) :: CI.fr zs ⟨i, s, q.1, ⟨n1, n2, n3, n4, n5, n6, n7, n8⟩, ⟨c1, c2, c3, c4, c5, c6, c7, c8⟩, dd⟩) (fun q => CI.own ⟨i, s, q.1, ⟨n1, n2, n3, n4, n5, n6, n7, n8⟩, ⟨c1, c2, c3, c4, c5, c6, c7, c8⟩, dd⟩ ++ [caS what nn a b sg se sr ys tv, vwS w1 w2 w3 w4 w5 w6 w7 w8, q.2.1.s])
        (fun q => ∃ R : CnP, ((what < 2 ∧ R = cnPrep ⟨s.p.b, s.w⟩ a b) ∨ (¬ what < 2 ∧ R = cnAcc ⟨s.p.b, s.w⟩ a b st)) ∧ q.2.2.2 = (R.e : Int) ∧ q.2.2.1 = R.ok ∧ q.1.of R.c ∧ (what < 2 → q.2.1.of R.v)) (VcPiece.ok eOk fOk ?_) ?_
      · have hs16 : s.w.s.ch.length * 8 ≤ 140737488355328 := by have := ok_len k5.w.2; omega
        have hpr := coPrep_spec k2 k5.w.1 hs16 a b ha2 hb2
        have hac := coAcc_spec k2 k5.w.1 hs16 a b ha2 hb2 st hsf hs8 hst
        obtain ⟨RP, hRP⟩ : ∃ R, R = cnPrep ⟨s.p.b, s.w⟩ a b := ⟨_, rfl⟩
        obtain ⟨RA, hRA⟩ : ∃ R, R = cnAcc ⟨s.p.b, s.w⟩ a b st := ⟨_, rfl⟩
        rw [← hRP] at hpr
        rw [← hRA] at hac
        rw [← hRP, ← hRA]
        intro add1 sub1 mul1 quo1 rem1 band1 bor1 bxor1 bclr1 shl1 shr1 ieq1 ilt1 ile1 seq1 slt1 beq1 bnot1 orb1 bcond1 iwrap1 iof1 ssz1 hA1 cat1 sq1 sl1 imin1 imax1 smin1 smax1 len1 slen1 u81 hL1 op1 hop1 call1 hcall1 code1 hcode1 nx1 hnx1 ret1 hret1 ex1 hex1
        cbv
        by_cases h2 : what < 2
        · refine vcIf.yes (by first | (simp [hA1.not, hA1.eq, hA1.lt, hA1.le, hA1.cond, hA1.beq, hA1.orb, hL1.len, hL1.slen, hL1.sq, h2]; done) | (simp only [h2]; simp [hA1.not, hA1.eq, hA1.lt, hA1.le, hA1.cond, hA1.beq, hA1.orb, hL1.len, hL1.slen, hL1.sq, h2]; done) | (simp [hA1.not, hA1.eq, hA1.lt, hA1.le, hA1.cond, hA1.beq, hA1.orb, hL1.len, hL1.slen, hL1.sq, h2]; omega) | (simp only [h2]; simp [hA1.not, hA1.eq, hA1.lt, hA1.le, hA1.cond, hA1.beq, hA1.orb, hL1.len, hL1.slen, hL1.sq, h2]; omega)) ?_
          cbv
          refine hcall1 _ _ _ _ _ (CallEv.lend [0, 1, 2, 3, 4] hpr rfl (.cons (.own 4 4 0 rfl) (.cons (.p _) .nil)) (coL rfl rfl rfl rfl rfl rfl rfl rfl rfl) ?_)
          rintro _ _ ⟨z, ok, q1, q2, q3, q4, q5, q6, q7, q8, n', su', ro', af', d', xs', m', dn', rs', pn', pd', an', ad', g', e', r', zv', hz, hok, hv, hc, rfl, rfl⟩
          cbv
          refine hnx1 _ (OutX.w ⟨(⟨n', su', ro', af', d', xs', m', dn', rs', pn', pd', an', ad', g', e', r', zv'⟩, ⟨q1, q2, q3, q4, q5, q6, q7, q8⟩, ok, z), [], ⟨RP, .inl ⟨h2, rfl⟩, hz, hok, hc, fun _ => hv⟩, rfl, (by repeat (first | exact trivial | refine And.intro rfl ?_)), rfl, rfl, rfl, ?_⟩)
          rw [hB]; exact Nat.zero_le _
        · refine vcIf.no (by first | (simp [hA1.not, hA1.eq, hA1.lt, hA1.le, hA1.cond, hA1.beq, hA1.orb, hL1.len, hL1.slen, hL1.sq, h2]; done) | (simp only [h2]; simp [hA1.not, hA1.eq, hA1.lt, hA1.le, hA1.cond, hA1.beq, hA1.orb, hL1.len, hL1.slen, hL1.sq, h2]; done) | (simp [hA1.not, hA1.eq, hA1.lt, hA1.le, hA1.cond, hA1.beq, hA1.orb, hL1.len, hL1.slen, hL1.sq, h2]; omega) | (simp only [h2]; simp [hA1.not, hA1.eq, hA1.lt, hA1.le, hA1.cond, hA1.beq, hA1.orb, hL1.len, hL1.slen, hL1.sq, h2]; omega)) ?_
          cbv
          refine hcall1 _ _ _ _ _ (CallEv.lend [0, 1, 2, 3, 4] hac rfl (.cons (.own 4 4 0 rfl) (.cons (.p _) (.cons (.p _) .nil))) (coL rfl rfl rfl rfl rfl rfl rfl rfl rfl) ?_)
          rintro _ _ ⟨z, ok, n', su', ro', af', d', xs', m', dn', rs', pn', pd', an', ad', g', e', r', zv', hz, hok, hc, rfl, rfl⟩
          cbv
          refine hnx1 _ (OutX.w ⟨(⟨n', su', ro', af', d', xs', m', dn', rs', pn', pd', an', ad', g', e', r', zv'⟩, ⟨0, 0, 0, 0, 0, 0, 0, []⟩, ok, z), [], ⟨RA, .inr ⟨h2, rfl⟩, hz, hok, hc, fun c => absurd c h2⟩, rfl, (by repeat (first | exact trivial | refine And.intro rfl ?_)), rfl, rfl, rfl, ?_⟩)
          rw [hB]; exact Nat.zero_le _
      rintro ⟨⟨n', su', ro', af', d', xs', m', dn', rs', pn', pd', an', ad', g', e', r', zv'⟩, ⟨q1, q2, q3, q4, q5, q6, q7, q8⟩, ok, z⟩ ⟨R, hR, hz, hok, hc, hq⟩
      simp only at hz hok
      replace hc : IsCo R.c n' su' ro' af' d' xs' m' dn' rs' pn' pd' an' ad' g' e' r' zv' := hc
      replace hq : what < 2 → IsVw R.v q1 q2 q3 q4 q5 q6 q7 q8 := hq
      have hout := k5.act ha2 hb2 hsf hR
      rw [← hW] at hout
      refine PcEv.seq (κ := CI) (CI.fr zs) CI.own (fun j => j.i = i ∧ j.Ok N) ?_ ?_
      · refine PcEv.block (VcPiece.ok eOk fOk ?_)
        rcases hout with ⟨o1, o2, o3, o4⟩ | ⟨o1, o2, o3, o4, o5, o6⟩ | ⟨o1, o2, o3, cut, o4⟩ | ⟨o1, o2, o3, o4, o5, now, o6⟩
        · have hz11 : z = 11 := by rw [hz, o2]; rfl
          have hokf : ok = false := hok.trans o3
          have hdt : dd = true := k6.trans o1
          subst hz11 hokf hdt
          intro add1 sub1 mul1 quo1 rem1 band1 bor1 bxor1 bclr1 shl1 shr1 ieq1 ilt1 ile1 seq1 slt1 beq1 bnot1 orb1 bcond1 iwrap1 iof1 ssz1 hA1 cat1 sq1 sl1 imin1 imax1 smin1 smax1 len1 slen1 u81 hL1 op1 hop1 call1 hcall1 code1 hcode1 nx1 hnx1 ret1 hret1 ex1 hex1
          cbv
          refine vcIf.no (by first | (simp [hA1.not, hA1.eq, hA1.lt, hA1.le, hA1.cond, hA1.beq, hA1.orb, hL1.len, hL1.slen, hL1.sq]; done) | (simp [hA1.not, hA1.eq, hA1.lt, hA1.le, hA1.cond, hA1.beq, hA1.orb, hL1.len, hL1.slen, hL1.sq]; omega)) ?_
          cbv
          refine vcIf.no (by first | (simp [hA1.not, hA1.eq, hA1.lt, hA1.le, hA1.cond, hA1.beq, hA1.orb, hL1.len, hL1.slen, hL1.sq]; done) | (simp [hA1.not, hA1.eq, hA1.lt, hA1.le, hA1.cond, hA1.beq, hA1.orb, hL1.len, hL1.slen, hL1.sq]; omega)) ?_
          cbv
          refine hnx1 _ (OutX.w ⟨⟨i, s, ⟨n', su', ro', af', d', xs', m', dn', rs', pn', pd', an', ad', g', e', r', zv'⟩, ⟨n1, n2, n3, n4, n5, n6, n7, n8⟩, ⟨c1, c2, c3, c4, c5, c6, c7, c8⟩, true⟩, _, ⟨rfl, k1, by rw [← o4]; exact hc, k3, k4, k5, k6⟩, rfl, (by repeat (first | exact trivial | refine And.intro rfl ?_)), rfl, rfl, rfl, ?_⟩)
          rw [hB]; exact Nat.zero_le _
        · have hzb : z = wbad := by rw [hz, o3, hwbad]
          have hokf : ok = false := hok.trans o4
          have hdt : dd = false := k6.trans o1
          have hb0 : wbad ≠ 0 := by omega
          subst hzb hokf hdt
          intro add1 sub1 mul1 quo1 rem1 band1 bor1 bxor1 bclr1 shl1 shr1 ieq1 ilt1 ile1 seq1 slt1 beq1 bnot1 orb1 bcond1 iwrap1 iof1 ssz1 hA1 cat1 sq1 sl1 imin1 imax1 smin1 smax1 len1 slen1 u81 hL1 op1 hop1 call1 hcall1 code1 hcode1 nx1 hnx1 ret1 hret1 ex1 hex1
          cbv
          refine vcIf.yes (by first | (simp [hA1.not, hA1.eq, hA1.lt, hA1.le, hA1.cond, hA1.beq, hA1.orb, hL1.len, hL1.slen, hL1.sq, hb0]; done) | (simp only [hb0]; simp [hA1.not, hA1.eq, hA1.lt, hA1.le, hA1.cond, hA1.beq, hA1.orb, hL1.len, hL1.slen, hL1.sq, hb0]; done) | (simp [hA1.not, hA1.eq, hA1.lt, hA1.le, hA1.cond, hA1.beq, hA1.orb, hL1.len, hL1.slen, hL1.sq, hb0]; omega) | (simp only [hb0]; simp [hA1.not, hA1.eq, hA1.lt, hA1.le, hA1.cond, hA1.beq, hA1.orb, hL1.len, hL1.slen, hL1.sq, hb0]; omega)) ?_
          cbv
          refine vcIf.no (by first | (simp [hA1.not, hA1.eq, hA1.lt, hA1.le, hA1.cond, hA1.beq, hA1.orb, hL1.len, hL1.slen, hL1.sq]; done) | (simp [hA1.not, hA1.eq, hA1.lt, hA1.le, hA1.cond, hA1.beq, hA1.orb, hL1.len, hL1.slen, hL1.sq]; omega)) ?_
          cbv
          refine vcIf.no (by first | (simp [hA1.not, hA1.eq, hA1.lt, hA1.le, hA1.cond, hA1.beq, hA1.orb, hL1.len, hL1.slen, hL1.sq]; done) | (simp [hA1.not, hA1.eq, hA1.lt, hA1.le, hA1.cond, hA1.beq, hA1.orb, hL1.len, hL1.slen, hL1.sq]; omega)) ?_
          cbv
          refine hnx1 _ (OutX.w ⟨⟨i, s, ⟨n', su', ro', af', d', xs', m', dn', rs', pn', pd', an', ad', g', e', r', zv'⟩, ⟨n1, n2, n3, n4, n5, n6, n7, n8⟩, ⟨c1, c2, c3, c4, c5, c6, c7, c8⟩, false⟩, _, ⟨rfl, k1, by rw [← o5]; exact hc, k3, k4, k5, k6⟩, rfl, (by repeat (first | exact trivial | refine And.intro rfl ?_)), rfl, rfl, rfl, ?_⟩)
          rw [hB]; exact Nat.zero_le _
        · have hz11 : z = 11 := by rw [hz, o3]; rfl
          have hdt : dd = false := k6.trans o1
          have hb0 : wbad = 0 := by omega
          subst hz11 hb0 hdt
          intro add1 sub1 mul1 quo1 rem1 band1 bor1 bxor1 bclr1 shl1 shr1 ieq1 ilt1 ile1 seq1 slt1 beq1 bnot1 orb1 bcond1 iwrap1 iof1 ssz1 hA1 cat1 sq1 sl1 imin1 imax1 smin1 smax1 len1 slen1 u81 hL1 op1 hop1 call1 hcall1 code1 hcode1 nx1 hnx1 ret1 hret1 ex1 hex1
          cbv
          refine vcIf.no (by first | (simp [hA1.not, hA1.eq, hA1.lt, hA1.le, hA1.cond, hA1.beq, hA1.orb, hL1.len, hL1.slen, hL1.sq]; done) | (simp [hA1.not, hA1.eq, hA1.lt, hA1.le, hA1.cond, hA1.beq, hA1.orb, hL1.len, hL1.slen, hL1.sq]; omega)) ?_
          cbv
          refine vcIf.yes (by first | (simp [hA1.not, hA1.eq, hA1.lt, hA1.le, hA1.cond, hA1.beq, hA1.orb, hL1.len, hL1.slen, hL1.sq]; done) | (simp [hA1.not, hA1.eq, hA1.lt, hA1.le, hA1.cond, hA1.beq, hA1.orb, hL1.len, hL1.slen, hL1.sq]; omega)) ?_
          cbv
          refine hnx1 _ (OutX.w ⟨⟨i, ⟨⟨R.c.b, s.p.now, cut, true⟩, R.c.w, s.wn, W.w⟩, ⟨n', su', ro', af', d', xs', m', dn', rs', pn', pd', an', ad', g', e', r', zv'⟩, ⟨n1, n2, n3, n4, n5, n6, n7, n8⟩, ⟨w1, w2, w3, w4, w5, w6, w7, w8⟩, true⟩, _, ⟨rfl, k1, hc, k3, hwv, o4, rfl⟩, rfl, (by repeat (first | exact trivial | refine And.intro rfl ?_)), rfl, rfl, rfl, ?_⟩)
          rw [hB]; exact Nat.zero_le _
        · have hz0 : z = 0 := by rw [hz, o3]; rfl
          have hokw : ok = wok := by rw [hok, o4, hwok]
          have hdt : dd = false := k6.trans o1
          have hb0 : wbad = 0 := by omega
          subst hz0 hb0 hdt hokw
          have hsm : what < 2 → FnL Try.prog 13 [.p (vwP q1 q2 q3 q4 q5 q6 q7 q8), .p (vwP w1 w2 w3 w4 w5 w6 w7 w8)] [] _ := fun h => rSameVow_spec R.v W.w (by rw [o5 h]; have := ok_len o6.wn.2; simp only at this; omega) (hq h) hwv
          intro add1 sub1 mul1 quo1 rem1 band1 bor1 bxor1 bclr1 shl1 shr1 ieq1 ilt1 ile1 seq1 slt1 beq1 bnot1 orb1 bcond1 iwrap1 iof1 ssz1 hA1 cat1 sq1 sl1 imin1 imax1 smin1 smax1 len1 slen1 u81 hL1 op1 hop1 call1 hcall1 code1 hcode1 nx1 hnx1 ret1 hret1 ex1 hex1
          cbv
          refine vcIf.no (by first | (simp [hA1.not, hA1.eq, hA1.lt, hA1.le, hA1.cond, hA1.beq, hA1.orb, hL1.len, hL1.slen, hL1.sq]; done) | (simp [hA1.not, hA1.eq, hA1.lt, hA1.le, hA1.cond, hA1.beq, hA1.orb, hL1.len, hL1.slen, hL1.sq]; omega)) ?_
          cbv
          refine vcIf.no (by first | (simp [hA1.not, hA1.eq, hA1.lt, hA1.le, hA1.cond, hA1.beq, hA1.orb, hL1.len, hL1.slen, hL1.sq]; done) | (simp [hA1.not, hA1.eq, hA1.lt, hA1.le, hA1.cond, hA1.beq, hA1.orb, hL1.len, hL1.slen, hL1.sq]; omega)) ?_
          cbv
          refine vcIf.no (by first | (simp [hA1.not, hA1.eq, hA1.lt, hA1.le, hA1.cond, hA1.beq, hA1.orb, hL1.len, hL1.slen, hL1.sq]; done) | (simp [hA1.not, hA1.eq, hA1.lt, hA1.le, hA1.cond, hA1.beq, hA1.orb, hL1.len, hL1.slen, hL1.sq]; omega)) ?_
          cbv
          refine vcIf.no (by first | (simp [hA1.not, hA1.eq, hA1.lt, hA1.le, hA1.cond, hA1.beq, hA1.orb, hL1.len, hL1.slen, hL1.sq]; done) | (simp [hA1.not, hA1.eq, hA1.lt, hA1.le, hA1.cond, hA1.beq, hA1.orb, hL1.len, hL1.slen, hL1.sq]; omega)) ?_
          cbv
          by_cases h2 : what < 2
          · refine vcIf.yes (by first | (simp [hA1.not, hA1.eq, hA1.lt, hA1.le, hA1.cond, hA1.beq, hA1.orb, hL1.len, hL1.slen, hL1.sq, h2]; done) | (simp only [h2]; simp [hA1.not, hA1.eq, hA1.lt, hA1.le, hA1.cond, hA1.beq, hA1.orb, hL1.len, hL1.slen, hL1.sq, h2]; done) | (simp [hA1.not, hA1.eq, hA1.lt, hA1.le, hA1.cond, hA1.beq, hA1.orb, hL1.len, hL1.slen, hL1.sq, h2]; omega) | (simp only [h2]; simp [hA1.not, hA1.eq, hA1.lt, hA1.le, hA1.cond, hA1.beq, hA1.orb, hL1.len, hL1.slen, hL1.sq, h2]; omega)) ?_
            cbv
            refine hcall1 _ _ _ _ _ (CallEv.same (hsm h2) rfl ?_)
            rintro _ _ ⟨c, hc2, rfl, rfl⟩
            obtain rfl : c = true := hc2.2 (o5 h2)
            cbv
            repeat (first | (refine vcIf.yes ?_ ?_; (focus (simp [hA1.not, hA1.eq, hA1.lt, hA1.le, hA1.cond, hA1.beq, hA1.orb, hL1.len, hL1.slen, hL1.sq, h2]; done)); cbv) | (refine vcIf.no ?_ ?_; (focus (simp [hA1.not, hA1.eq, hA1.lt, hA1.le, hA1.cond, hA1.beq, hA1.orb, hL1.len, hL1.slen, hL1.sq, h2]; done)); cbv) | fail)
            refine hnx1 _ (OutX.w ⟨⟨i, ⟨⟨R.c.b, now, now, false⟩, R.c.w, W.w, W.w⟩, ⟨n', su', ro', af', d', xs', m', dn', rs', pn', pd', an', ad', g', e', r', zv'⟩, ⟨w1, w2, w3, w4, w5, w6, w7, w8⟩, ⟨w1, w2, w3, w4, w5, w6, w7, w8⟩, false⟩, _, ⟨rfl, k1, hc, hwv, hwv, o6, rfl⟩, rfl, (by repeat (first | exact trivial | refine And.intro rfl ?_)), rfl, rfl, rfl, ?_⟩)
            rw [hB]; exact Nat.zero_le _
          · refine vcIf.no (by first | (simp [hA1.not, hA1.eq, hA1.lt, hA1.le, hA1.cond, hA1.beq, hA1.orb, hL1.len, hL1.slen, hL1.sq, h2]; done) | (simp only [h2]; simp [hA1.not, hA1.eq, hA1.lt, hA1.le, hA1.cond, hA1.beq, hA1.orb, hL1.len, hL1.slen, hL1.sq, h2]; done) | (simp [hA1.not, hA1.eq, hA1.lt, hA1.le, hA1.cond, hA1.beq, hA1.orb, hL1.len, hL1.slen, hL1.sq, h2]; omega) | (simp only [h2]; simp [hA1.not, hA1.eq, hA1.lt, hA1.le, hA1.cond, hA1.beq, hA1.orb, hL1.len, hL1.slen, hL1.sq, h2]; omega)) ?_
            cbv
            refine vcIf.no (by first | (simp [hA1.not, hA1.eq, hA1.lt, hA1.le, hA1.cond, hA1.beq, hA1.orb, hL1.len, hL1.slen, hL1.sq]; done) | (simp [hA1.not, hA1.eq, hA1.lt, hA1.le, hA1.cond, hA1.beq, hA1.orb, hL1.len, hL1.slen, hL1.sq]; omega)) ?_
            cbv
            refine hnx1 _ (OutX.w ⟨⟨i, ⟨⟨R.c.b, now, now, false⟩, R.c.w, W.w, W.w⟩, ⟨n', su', ro', af', d', xs', m', dn', rs', pn', pd', an', ad', g', e', r', zv'⟩, ⟨w1, w2, w3, w4, w5, w6, w7, w8⟩, ⟨w1, w2, w3, w4, w5, w6, w7, w8⟩, false⟩, _, ⟨rfl, k1, hc, hwv, hwv, o6, rfl⟩, rfl, (by repeat (first | exact trivial | refine And.intro rfl ?_)), rfl, rfl, rfl, ?_⟩)
            rw [hB]; exact Nat.zero_le _
      -- is it so
      rintro ⟨i, s, ⟨n, su, ro, af, d, xs, m, dn, rs, pn, pd, an, ad, g, e, r, zv⟩, ⟨n1, n2, n3, n4, n5, n6, n7, n8⟩, ⟨c1, c2, c3, c4, c5, c6, c7, c8⟩, dd⟩ ⟨rfl, k1, k2, k3, k4, k5, k6⟩
      replace k2 : IsCo ⟨s.p.b, s.w⟩ n su ro af d xs m dn rs pn pd an ad g e r zv := k2
      replace k3 : IsVw s.wn n1 n2 n3 n4 n5 n6 n7 n8 := k3
      replace k6 : dd = s.p.dead := k6
      replace k5 : s.Ok := k5
      cases hdd : s.p.dead with
      | true =>
        obtain rfl : dd = true := k6.trans hdd
        refine VcPiece.ok eOk fOk ?_
        intro add1 sub1 mul1 quo1 rem1 band1 bor1 bxor1 bclr1 shl1 shr1 ieq1 ilt1 ile1 seq1 slt1 beq1 bnot1 orb1 bcond1 iwrap1 iof1 ssz1 hA1 cat1 sq1 sl1 imin1 imax1 smin1 smax1 len1 slen1 u81 hL1 op1 hop1 call1 hcall1 code1 hcode1 nx1 hnx1 ret1 hret1 ex1 hex1
        cbv
        refine hcode1 _ _ _ (CodeEv.drawT eOk fOk (by kernel_rfl) (Xof 7 [0, 1, 2, 3, 4]) (.so 0 (.so 1 (.so 2 (.rd 3 (.rd 5 (.acts (.cons 4 (.acts (.cons 6 (.so 7 (.so 8 (.done))) (.nil))) (.nil)))))))) (by kernel_rfl) (by kernel_rfl) ?_)
        intro add2 sub2 mul2 quo2 rem2 band2 bor2 bxor2 bclr2 shl2 shr2 ieq2 ilt2 ile2 seq2 slt2 beq2 bnot2 orb2 bcond2 iwrap2 iof2 ssz2 hA2 cat2 sq2 sl2 imin2 imax2 smin2 smax2 len2 slen2 u82 hL2 op2 hop2 call2 hcall2 code2 hcode2 q2 hq2
        cbv
        repeat (first | (refine vcIf.yes ?_ ?_; (focus (simp [hA2.not, hA2.eq, hA2.lt, hA2.le, hA2.cond, hA2.beq, hA2.orb, hL2.len, hL2.slen, hL2.sq]; done)); cbv) | (refine vcIf.no ?_ ?_; (focus (simp [hA2.not, hA2.eq, hA2.lt, hA2.le, hA2.cond, hA2.beq, hA2.orb, hL2.len, hL2.slen, hL2.sq]; done)); cbv) | fail)
        refine hq2 _ ?_
        cbv
        refine hnx1 _ (OutX.w ⟨⟨i, s, ⟨n, su, ro, af, d, xs, m, dn, rs, pn, pd, an, ad, g, e, r, zv⟩, ⟨n1, n2, n3, n4, n5, n6, n7, n8⟩, ⟨c1, c2, c3, c4, c5, c6, c7, c8⟩, true⟩, _, ⟨rfl, k1, k2, k3, k4, k5, k6⟩, rfl, (by repeat (first | exact trivial | refine And.intro rfl ?_)), rfl, rfl, rfl, ?_⟩)
        rw [hB]; exact Nat.zero_le _
      | false =>
        obtain rfl : dd = false := k6.trans hdd
        have hvw := coVow_spec s.w (by have := ok_len k5.w.2; omega) (n := n) (su := su) (ro := ro) (af := af) (d := d) (xs := xs) (m := m) (dn := dn) (rs := rs) k2.2
        have hsm := rSameVow_spec s.w s.wn (by have := ok_len k5.w.2; omega) k2.2 k3
        have hww := (k5.live hdd).1
        refine VcPiece.ok eOk fOk ?_
        intro add1 sub1 mul1 quo1 rem1 band1 bor1 bxor1 bclr1 shl1 shr1 ieq1 ilt1 ile1 seq1 slt1 beq1 bnot1 orb1 bcond1 iwrap1 iof1 ssz1 hA1 cat1 sq1 sl1 imin1 imax1 smin1 smax1 len1 slen1 u81 hL1 op1 hop1 call1 hcall1 code1 hcode1 nx1 hnx1 ret1 hret1 ex1 hex1
        cbv
        refine hcode1 _ _ _ (CodeEv.drawT eOk fOk (by kernel_rfl) (Xof 7 [0, 1, 2, 3, 4]) (.so 0 (.so 1 (.so 2 (.rd 3 (.rd 5 (.acts (.cons 4 (.acts (.cons 6 (.so 7 (.so 8 (.done))) (.nil))) (.nil)))))))) (by kernel_rfl) (by kernel_rfl) ?_)
        intro add2 sub2 mul2 quo2 rem2 band2 bor2 bxor2 bclr2 shl2 shr2 ieq2 ilt2 ile2 seq2 slt2 beq2 bnot2 orb2 bcond2 iwrap2 iof2 ssz2 hA2 cat2 sq2 sl2 imin2 imax2 smin2 smax2 len2 slen2 u82 hL2 op2 hop2 call2 hcall2 code2 hcode2 q2 hq2
        cbv
        repeat (first | (refine vcIf.yes ?_ ?_; (focus (simp [hA2.not, hA2.eq, hA2.lt, hA2.le, hA2.cond, hA2.beq, hA2.orb, hL2.len, hL2.slen, hL2.sq]; done)); cbv) | (refine vcIf.no ?_ ?_; (focus (simp [hA2.not, hA2.eq, hA2.lt, hA2.le, hA2.cond, hA2.beq, hA2.orb, hL2.len, hL2.slen, hL2.sq]; done)); cbv) | fail)
        refine hcall2 _ _ _ _ _ (CallEv.lend [0, 1, 2, 3, 4] hvw rfl (.cons (.own 4 4 0 rfl) .nil) (coL rfl rfl rfl rfl rfl rfl rfl rfl rfl) ?_)
        rintro _ _ ⟨rfl, rfl⟩
        cbv
        refine hcall2 _ _ _ _ _ (CallEv.same hsm rfl ?_)
        rintro _ _ ⟨c, hc2, rfl, rfl⟩
        obtain rfl : c = true := hc2.2 hww
        cbv
        refine hq2 _ ?_
        cbv
        refine vcIf.no (by first | (simp [hA2.not, hA2.eq, hA2.lt, hA2.le, hA2.cond, hA2.beq, hA2.orb, hL2.len, hL2.slen, hL2.sq]; done) | (simp [hA2.not, hA2.eq, hA2.lt, hA2.le, hA2.cond, hA2.beq, hA2.orb, hL2.len, hL2.slen, hL2.sq]; omega)) ?_
        cbv
        refine hnx1 _ (OutX.w ⟨⟨i, s, ⟨n, su, ro, af, d, xs, m, dn, rs, pn, pd, an, ad, g, e, r, zv⟩, ⟨n1, n2, n3, n4, n5, n6, n7, n8⟩, ⟨c1, c2, c3, c4, c5, c6, c7, c8⟩, false⟩, _, ⟨rfl, k1, k2, k3, k4, k5, k6⟩, rfl, (by repeat (first | exact trivial | refine And.intro rfl ?_)), rfl, rfl, rfl, ?_⟩)
        rw [hB]; exact Nat.zero_le _
    · rintro ⟨i', s, x, qn, qc, dd⟩ ⟨rfl, k1, k2, k3, k4, k5, k6⟩
      simp only at k1 hi hi60
      refine VcPiece.ok eOk fOk ?_
      intro add1 sub1 mul1 quo1 rem1 band1 bor1 bxor1 bclr1 shl1 shr1 ieq1 ilt1 ile1 seq1 slt1 beq1 bnot1 orb1 bcond1 iwrap1 iof1 ssz1 hA1 cat1 sq1 sl1 imin1 imax1 smin1 smax1 len1 slen1 u81 hL1 op1 hop1 call1 hcall1 code1 hcode1 nx1 hnx1 ret1 hret1 ex1 hex1
      have hadd1 : add1 .i64 (Int.ofNat i') 1 = Int.ofNat (i' + 1) := by rw [hA1.add, IntWalk.i64_in _ (by simp only [Int.ofNat_eq_natCast]; omega)]; rfl
      cbv
      rw [hadd1]
      refine hnx1 _ (OutX.w ⟨⟨i' + 1, s, x, qn, qc, dd⟩, [], ⟨?_, ?_, k2, k3, k4, k5, k6⟩, rfl, (by repeat (first | exact trivial | refine And.intro rfl ?_)), rfl, rfl, rfl, ?_⟩)
      · simp only; omega
      · simp only; omega
      · rw [hB]; exact Nat.zero_le _
  · exact fun st h => h.elim
  · rintro id st' ⟨rfl, hn⟩
    obtain ⟨n', f', o'⟩ := st'
    obtain rfl : n' = 184 := hn
    cbv
    exact hret _ (RetEv.ret eOk rfl rfl)

theorem has_CA {K : Nat} (hK : K ≤ 140737488355328) {z : PV} (h : Sh.Has K (.st [.int .i64, .int .i64, .st [.int .i64, .int .i64], .st [.int .i64, .int .i64, .int .i64, .sl 8 (.int .i64)], .int .u8]) z) : ∃ x : CA, z = x.v ∧ x.ok := by
  obtain ⟨cs, rfl, h0⟩ := has_st h
  obtain ⟨y0, q0, k0, e0, h1⟩ := has_cons h0
  obtain ⟨y1, q1, k1, e1, h2⟩ := has_cons h1
  obtain ⟨y2, q2, k2, e2, h3⟩ := has_cons h2
  obtain ⟨y3, q3, k3, e3, h4⟩ := has_cons h3
  obtain ⟨y4, q4, k4, e4, h5⟩ := has_cons h4
  obtain rfl := has_nil h5
  subst e4 e3 e2 e1 e0
  obtain ⟨w, rfl, _, _⟩ := has_int k0
  obtain ⟨n, rfl, n1, n2⟩ := has_int k1
  obtain ⟨a, b, rfl, a1, b1⟩ := has_Ba k2
  obtain ⟨s, rfl, s1, s2⟩ := has_St8 (by omega) k3
  obtain ⟨x, rfl, hx⟩ := has_u8 k4
  refine ⟨⟨w, n, a, b, s, UInt8.ofNat x⟩, ?_, ⟨n1, n2⟩, a1, b1, s1, by simp only; omega⟩
  show PV.agg _ = caP w n a b s.gen s.epoch s.recv (iP s.ch) ((UInt8.ofNat x).toNat : Int)
  rw [ofNat_toNat (by omega)]; rfl
end
end Go.Proofs.Ytnigonhkfpnodaa
