/- Messages as bytes. Conditions: on sizes. -/
import Derived.Test.YtmenbognkdeipaaLWr
import Derived.Test.YtmenbognkdeipaaLCas1
set_option maxRecDepth 100000
set_option maxHeartbeats 4000000
set_option linter.unusedSimpArgs false
set_option linter.unusedVariables false
namespace Go.Proofs.Ytmenbognkdeipaa
open Go Go.Lx
open Go.Sx (vcIf)

theorem encs_len : ∀ (l : List Int), (∀ z ∈ l, z ≤ 9223372036854775807) → (encs l).length ≤ 9 * l.length
  | [], _ => by simp [encs]
  | z :: r, h => by
    have h1 := encs_len r fun y hy => h y (by simp [hy])
    have h2 := h z (by simp)
    have h3 := enc_len9 (x := z.toNat) (by omega)
    unfold encs at h1 ⊢
    rw [List.flatMap_cons, List.length_append, List.length_cons]; omega
theorem frIn_spec (z : Int) : FnL Try.prog 37 [.p (.int .i64 z)] [] fun v own => ∃ b, b = decide (0 ≤ z ∧ z ≤ 255) ∧ v = .p (.bool b) ∧ own = [] := by
  refine fn_of_vc eOk fOk fo37 Try.func37 rfl rfl rfl fun B hB => ?_
  intro add sub mul quo rem band bor bxor bclr shl shr ieq ilt ile seq slt beq bnot orb bcond iwrap iof ssz hA cat sq sl imin imax smin smax len slen u8 hL op hop call hcall code hcode ret hret
  cbv
  by_cases h : 0 ≤ z
  · refine vcIf.yes (by first | (simp [hA.not, hA.eq, hA.lt, hA.le, hA.cond, hA.beq, hA.orb, hL.len, hL.slen, hL.sq, h]; done) | (simp only [h]; simp [hA.not, hA.eq, hA.lt, hA.le, hA.cond, hA.beq, hA.orb, hL.len, hL.slen, hL.sq, h]; done) | (simp [hA.not, hA.eq, hA.lt, hA.le, hA.cond, hA.beq, hA.orb, hL.len, hL.slen, hL.sq, h]; omega) | (simp only [h]; simp [hA.not, hA.eq, hA.lt, hA.le, hA.cond, hA.beq, hA.orb, hL.len, hL.slen, hL.sq, h]; omega)) ?_
    cbv
    refine hret _ (RetEv.ret eOk rfl ⟨_, rfl, ?_, rfl⟩)
    show V.p (.bool (bcond true (ile z 255) false)) = _
    rw [hA.cond, hA.le]; simp [h]
  · refine vcIf.no (by first | (simp [hA.not, hA.eq, hA.lt, hA.le, hA.cond, hA.beq, hA.orb, hL.len, hL.slen, hL.sq, h]; done) | (simp only [h]; simp [hA.not, hA.eq, hA.lt, hA.le, hA.cond, hA.beq, hA.orb, hL.len, hL.slen, hL.sq, h]; done) | (simp [hA.not, hA.eq, hA.lt, hA.le, hA.cond, hA.beq, hA.orb, hL.len, hL.slen, hL.sq, h]; omega) | (simp only [h]; simp [hA.not, hA.eq, hA.lt, hA.le, hA.cond, hA.beq, hA.orb, hL.len, hL.slen, hL.sq, h]; omega)) ?_
    cbv
    exact hret _ (RetEv.ret eOk rfl ⟨false, by simp [h], rfl, rfl⟩)

structure Msg where
  kind : Int
  from_ : Int
  to_ : Int
  epoch : Int
  a : Int
  b : Int
  c : Int
  body : List UInt8
def Msg.v (m : Msg) : PV := .agg [.int .i64 m.kind, .int .i64 m.from_, .int .i64 m.to_, .int .i64 m.epoch, .int .i64 m.a, .int .i64 m.b, .int .i64 m.c, .sl (bP m.body)]
def Msg.nums (m : Msg) : List Int := [m.kind, m.from_, m.to_, m.epoch, m.a, m.b, m.c]
def Msg.okB (m : Msg) : Bool := decide (1 ≤ m.kind ∧ m.kind ≤ 20 ∧ 0 ≤ m.from_ ∧ m.from_ ≤ 255 ∧ 0 ≤ m.to_ ∧ m.to_ ≤ 255 ∧ 0 ≤ m.epoch ∧ 0 ≤ m.a ∧ 0 ≤ m.b ∧ 0 ≤ m.c ∧ m.body.length ≤ 65536)
def Msg.fit (m : Msg) : Prop := (∀ z ∈ m.nums, -9223372036854775808 ≤ z ∧ z ≤ 9223372036854775807) ∧ m.body.length < 140737488355328
/-- A message as bytes, and the error. -/
def fEnc (m : Msg) : List UInt8 × Nat := if m.okB = true then (cseal (encs m.nums ++ enct m.body), 0) else ([], 2)

theorem frEncode_spec (m : Msg) (hm : m.fit) (bs : List PV) (hbs : bs = bP m.body) :
    FnL Try.prog 10 [.p (.agg [.int .i64 m.kind, .int .i64 m.from_, .int .i64 m.to_, .int .i64 m.epoch, .int .i64 m.a, .int .i64 m.b, .int .i64 m.c, .sl bs])] []
      fun v own => ∃ (ys : List PV) (l : List UInt8) (e : Nat), (l, e) = fEnc m ∧ ys = bP l ∧ v = .p (.tup [.sl ys, .int .i64 (Int.ofNat e)]) ∧ own = [] := by
  refine FnL.flat (R := fun v own => ∃ (ys : List PV) (l : List UInt8) (e : Nat), (l, e) = fEnc m ∧ ys = bP l ∧ (v = .p (.tup [.sl ys, .int .i64 (Int.ofNat e)]) ∨ ys = [] ∧ v = .p (.tup [.nils, .int .i64 (Int.ofNat e)]))) ?_
    (by
      rintro _ _ ⟨ys, m, e, h1, h2, rfl | ⟨h3, rfl⟩⟩
      · exact ⟨_, _, rfl, .refl _, ys, m, e, h1, h2, rfl, rfl⟩
      · exact ⟨_, .tup [.sl [], .int .i64 (Int.ofNat e)], rfl, PW.tup ⟨PW.nils, .refl _, trivial⟩, ys, m, e, h1, h2, by rw [h3], rfl⟩)
  obtain ⟨R, hR⟩ : ∃ R, R = fEnc m := ⟨_, rfl⟩
  rw [← hR]
  obtain ⟨kd, fr, to, ep, a, b, c, body⟩ := m
  unfold fEnc Msg.okB at hR
  simp only [Msg.nums] at hR hm
  simp only at hbs
  obtain ⟨hm1, hm2⟩ := hm
  simp only [Msg.nums] at hm1 hm2
  have hk1 := hm1 kd (by simp); have hk2 := hm1 fr (by simp); have hk3 := hm1 to (by simp); have hk4 := hm1 ep (by simp); have hk5 := hm1 a (by simp); have hk6 := hm1 b (by simp); have hk7 := hm1 c (by simp)
  have hin1 := frIn_spec fr
  have hin2 := frIn_spec to
  have hnums := wr0_of (wrNums_spec [kd, fr, to, ep, a, b, c] _ rfl (fun z hz => (hm1 z hz).2) 0 0 [] rfl (by simp))
  rw [show iP [kd, fr, to, ep, a, b, c] = [PV.int .i64 kd, PV.int .i64 fr, PV.int .i64 to, PV.int .i64 ep, PV.int .i64 a, PV.int .i64 b, PV.int .i64 c] from rfl] at hnums
  obtain ⟨okA, hokA⟩ : ∃ p : Prop, p = ∀ z ∈ [kd, fr, to, ep, a, b, c], (0 : Int) ≤ z := ⟨_, rfl⟩
  obtain ⟨okB, hokB⟩ : ∃ p : Prop, p = (body.length ≤ 65536) := ⟨_, rfl⟩
  rw [← hokA] at hnums
  have htexts : ∀ (n1 : Nat) (e1 : Int) (ys1 : List PV), ys1.length = n1 → n1 ≤ 0 + 9 * [kd, fr, to, ep, a, b, c].length → _ := fun n1 e1 ys1 w1 w2 => wrTexts_spec [body] [.str body] rfl (fun s hs => by simp at hs; subst hs; omega) n1 e1 ys1 w1 (by simp at w2 ⊢; omega)
  have hend : ∀ (n1 : Nat) (e1 : Int) (ys1 : List PV) (n2 : Nat) (e2 : Int) (ys2 : List PV), (okA → e1 = 0 ∧ ys1 = [] ++ bP (encs [kd, fr, to, ep, a, b, c])) → (¬ okA → e1 = 2) → ((∀ s ∈ [body], s.length ≤ 65536) → e2 = e1 ∧ ys2 = ys1 ++ bP (encts [body])) → (¬ (∀ s ∈ [body], s.length ≤ 65536) → e2 = 2) →
      (e2 = 0 → ys2 = bP (encs [kd, fr, to, ep, a, b, c] ++ enct body) ∧ okA ∧ okB) ∧ (e2 ≠ 0 → e2 = 2 ∧ ¬ (okA ∧ okB)) := by
    intro n1 e1 ys1 n2 e2 ys2 w3 w4 u3 u4
    have hob : (∀ s ∈ [body], s.length ≤ 65536) ↔ okB := by rw [hokB]; simp
    rw [hob] at u3 u4
    have hen : encts [body] = enct body := by simp [encts]
    by_cases hB : okB
    · obtain ⟨u5, u6⟩ := u3 hB
      by_cases hA : okA
      · obtain ⟨w5, w6⟩ := w3 hA
        refine ⟨fun _ => ⟨by rw [u6, w6, hen, bP_append]; rfl, hA, hB⟩, fun c => absurd (u5.trans w5) c⟩
      · have w5 := w4 hA
        refine ⟨fun c => absurd (u5.symm.trans c) (by rw [w5]; decide), fun _ => ⟨u5.trans w5, fun c => hA c.1⟩⟩
    · have u5 := u4 hB
      exact ⟨fun c => absurd c (by rw [u5]; decide), fun _ => ⟨u5, fun c => hB c.2⟩⟩
  simp only
  refine fn_of_vc eOk fOk fo10 Try.func10 rfl rfl rfl fun B hB => ?_
  intro add sub mul quo rem band bor bxor bclr shl shr ieq ilt ile seq slt beq bnot orb bcond iwrap iof ssz hA cat sq sl imin imax smin smax len slen u8 hL op hop call hcall code hcode ret hret
  cbv
  by_cases h1 : kd < 1
  · refine vcIf.yes (by first | (simp [hA.not, hA.eq, hA.lt, hA.le, hA.cond, hA.beq, hA.orb, hL.len, hL.slen, hL.sq, h1]; done) | (simp only [h1]; simp [hA.not, hA.eq, hA.lt, hA.le, hA.cond, hA.beq, hA.orb, hL.len, hL.slen, hL.sq, h1]; done) | (simp [hA.not, hA.eq, hA.lt, hA.le, hA.cond, hA.beq, hA.orb, hL.len, hL.slen, hL.sq, h1]; omega) | (simp only [h1]; simp [hA.not, hA.eq, hA.lt, hA.le, hA.cond, hA.beq, hA.orb, hL.len, hL.slen, hL.sq, h1]; omega)) ?_
    cbv
    repeat (first | (refine vcIf.yes ?_ ?_; (focus (simp [hA.not, hA.eq, hA.lt, hA.le, hA.cond, hA.beq, hA.orb, hL.len, hL.slen, hL.sq]; done)); cbv) | (refine vcIf.no ?_ ?_; (focus (simp [hA.not, hA.eq, hA.lt, hA.le, hA.cond, hA.beq, hA.orb, hL.len, hL.slen, hL.sq]; done)); cbv) | fail)
    refine hret _ (RetEv.ret eOk rfl ⟨[], [], 2, ?_, rfl, .inr ⟨rfl, rfl⟩⟩)
    rw [hR, if_neg]; simp; omega
  refine vcIf.no (by first | (simp [hA.not, hA.eq, hA.lt, hA.le, hA.cond, hA.beq, hA.orb, hL.len, hL.slen, hL.sq, h1]; done) | (simp only [h1]; simp [hA.not, hA.eq, hA.lt, hA.le, hA.cond, hA.beq, hA.orb, hL.len, hL.slen, hL.sq, h1]; done) | (simp [hA.not, hA.eq, hA.lt, hA.le, hA.cond, hA.beq, hA.orb, hL.len, hL.slen, hL.sq, h1]; omega) | (simp only [h1]; simp [hA.not, hA.eq, hA.lt, hA.le, hA.cond, hA.beq, hA.orb, hL.len, hL.slen, hL.sq, h1]; omega)) ?_
  cbv
  by_cases h2 : 20 < kd
  · refine vcIf.yes (by first | (simp [hA.not, hA.eq, hA.lt, hA.le, hA.cond, hA.beq, hA.orb, hL.len, hL.slen, hL.sq, h2]; done) | (simp only [h2]; simp [hA.not, hA.eq, hA.lt, hA.le, hA.cond, hA.beq, hA.orb, hL.len, hL.slen, hL.sq, h2]; done) | (simp [hA.not, hA.eq, hA.lt, hA.le, hA.cond, hA.beq, hA.orb, hL.len, hL.slen, hL.sq, h2]; omega) | (simp only [h2]; simp [hA.not, hA.eq, hA.lt, hA.le, hA.cond, hA.beq, hA.orb, hL.len, hL.slen, hL.sq, h2]; omega)) ?_
    cbv
    repeat (first | (refine vcIf.yes ?_ ?_; (focus (simp [hA.not, hA.eq, hA.lt, hA.le, hA.cond, hA.beq, hA.orb, hL.len, hL.slen, hL.sq]; done)); cbv) | (refine vcIf.no ?_ ?_; (focus (simp [hA.not, hA.eq, hA.lt, hA.le, hA.cond, hA.beq, hA.orb, hL.len, hL.slen, hL.sq]; done)); cbv) | fail)
    refine hret _ (RetEv.ret eOk rfl ⟨[], [], 2, ?_, rfl, .inr ⟨rfl, rfl⟩⟩)
    rw [hR, if_neg]; simp; omega
  refine vcIf.no (by first | (simp [hA.not, hA.eq, hA.lt, hA.le, hA.cond, hA.beq, hA.orb, hL.len, hL.slen, hL.sq, h2]; done) | (simp only [h2]; simp [hA.not, hA.eq, hA.lt, hA.le, hA.cond, hA.beq, hA.orb, hL.len, hL.slen, hL.sq, h2]; done) | (simp [hA.not, hA.eq, hA.lt, hA.le, hA.cond, hA.beq, hA.orb, hL.len, hL.slen, hL.sq, h2]; omega) | (simp only [h2]; simp [hA.not, hA.eq, hA.lt, hA.le, hA.cond, hA.beq, hA.orb, hL.len, hL.slen, hL.sq, h2]; omega)) ?_
  cbv
  refine hcall _ _ _ _ _ (CallEv.same hin1 rfl ?_)
  rintro _ _ ⟨b1, hb1, rfl, rfl⟩
  cbv
  by_cases h3 : 0 ≤ fr ∧ fr ≤ 255
  rotate_left
  · obtain rfl : b1 = false := by rw [hb1]; exact decide_eq_false h3
    repeat (first | (refine vcIf.yes ?_ ?_; (focus (simp [hA.not, hA.eq, hA.lt, hA.le, hA.cond, hA.beq, hA.orb, hL.len, hL.slen, hL.sq]; done)); cbv) | (refine vcIf.no ?_ ?_; (focus (simp [hA.not, hA.eq, hA.lt, hA.le, hA.cond, hA.beq, hA.orb, hL.len, hL.slen, hL.sq]; done)); cbv) | fail)
    refine hret _ (RetEv.ret eOk rfl ⟨[], [], 2, ?_, rfl, .inr ⟨rfl, rfl⟩⟩)
    rw [hR, if_neg]; simp; omega
  obtain rfl : b1 = true := by rw [hb1]; exact decide_eq_true h3
  repeat (first | (refine vcIf.yes ?_ ?_; (focus (simp [hA.not, hA.eq, hA.lt, hA.le, hA.cond, hA.beq, hA.orb, hL.len, hL.slen, hL.sq]; done)); cbv) | (refine vcIf.no ?_ ?_; (focus (simp [hA.not, hA.eq, hA.lt, hA.le, hA.cond, hA.beq, hA.orb, hL.len, hL.slen, hL.sq]; done)); cbv) | fail)
  refine hcall _ _ _ _ _ (CallEv.same hin2 rfl ?_)
  rintro _ _ ⟨b2, hb2, rfl, rfl⟩
  cbv
  by_cases h4 : 0 ≤ to ∧ to ≤ 255
  rotate_left
  · obtain rfl : b2 = false := by rw [hb2]; exact decide_eq_false h4
    repeat (first | (refine vcIf.yes ?_ ?_; (focus (simp [hA.not, hA.eq, hA.lt, hA.le, hA.cond, hA.beq, hA.orb, hL.len, hL.slen, hL.sq]; done)); cbv) | (refine vcIf.no ?_ ?_; (focus (simp [hA.not, hA.eq, hA.lt, hA.le, hA.cond, hA.beq, hA.orb, hL.len, hL.slen, hL.sq]; done)); cbv) | fail)
    refine hret _ (RetEv.ret eOk rfl ⟨[], [], 2, ?_, rfl, .inr ⟨rfl, rfl⟩⟩)
    rw [hR, if_neg]; simp; omega
  obtain rfl : b2 = true := by rw [hb2]; exact decide_eq_true h4
  repeat (first | (refine vcIf.yes ?_ ?_; (focus (simp [hA.not, hA.eq, hA.lt, hA.le, hA.cond, hA.beq, hA.orb, hL.len, hL.slen, hL.sq]; done)); cbv) | (refine vcIf.no ?_ ?_; (focus (simp [hA.not, hA.eq, hA.lt, hA.le, hA.cond, hA.beq, hA.orb, hL.len, hL.slen, hL.sq]; done)); cbv) | fail)
  refine hcode _ _ _ (CodeEv.thru (κ := Option (Nat × List PV)) (fun s => match s with | some (n, ys) => [(5, .p (.sl ys)), (6, .p (.int .i64 0))] | none => [(5, .p .nils), (6, .p (.int .i64 2))])
    (fun s => [])
    (fun s => match s with | some (n, ys) => ys.length = n ∧ ys = bP (encs [kd, fr, to, ep, a, b, c] ++ enct body) ∧ okA ∧ okB | none => ¬ (okA ∧ okB)) ?_ ?_)
  · refine CodeEv.drawT eOk fOk (by kernel_rfl) (Xof 1 []) (.rd 0 (.rd 1 (.rd 2 (.rd 3 (.rd 4 (.rd 5 (.rd 6 (.rd 7 (.rd 8 (.rd 9 (.rd 10 (.rd 11 (.rd 12 (.rd 13 (.rd 14 (.rd 17 (.rd 18 (.rd 19 (.acts (.cons 15 (.acts (.cons 16 (.acts (.cons 20 (.acts (.cons 21 (.acts (.cons 22 (.so 23 (.rd 24 (.rd 25 (.so 26 (.so 27 (.done)))))) (.nil))) (.nil))) (.nil))) (.cons 20 (.acts (.cons 16 (.acts (.cons 21 (.acts (.cons 22 (.so 23 (.rd 24 (.rd 25 (.so 26 (.so 27 (.done)))))) (.nil))) (.nil))) (.nil))) (.nil)))) (.cons 20 (.acts (.cons 15 (.acts (.cons 16 (.acts (.cons 21 (.acts (.cons 22 (.so 23 (.rd 24 (.rd 25 (.so 26 (.so 27 (.done)))))) (.nil))) (.nil))) (.nil))) (.nil))) (.nil)))))))))))))))))))))) (by kernel_rfl) (by kernel_rfl) ?_
    intro add2 sub2 mul2 quo2 rem2 band2 bor2 bxor2 bclr2 shl2 shr2 ieq2 ilt2 ile2 seq2 slt2 beq2 bnot2 orb2 bcond2 iwrap2 iof2 ssz2 hA2 cat2 sq2 sl2 imin2 imax2 smin2 smax2 len2 slen2 u82 hL2 op2 hop2 call2 hcall2 code2 hcode2 q2 hq2
    cbv
    refine ⟨body, hbs, ?_⟩
    cbv
    refine ⟨?_, ?_⟩
    · refine ⟨false, ?_⟩
      cbv
      refine ⟨?_, ?_⟩
      · refine hcall2 _ _ _ _ _ (CallEv.lend [1] hnums rfl (.cons (.own 0 1 0 rfl) (.cons (.p _) .nil)) (wrL0 rfl) ?_)
        rintro _ _ ⟨n1, e1, ys1, ⟨w1, w2, w3, w4⟩, rfl, rfl⟩
        have htx := htexts n1 e1 ys1 w1 w2
        cbv
        refine ⟨false, ?_⟩
        cbv
        refine hcall2 _ _ _ _ _ (CallEv.lend [1, 2] htx rfl (.cons (.own 0 1 0 rfl) (.cons (.p _) .nil)) (wrL rfl rfl rfl rfl) ?_)
        rintro _ _ ⟨n2, e2, ys2, ⟨u1, u2, u3, u4⟩, rfl, rfl⟩
        have hby := wrBytes_spec n2 e2 ys2
        have hfin := hend n1 e1 ys1 n2 e2 ys2 w3 w4 u3 u4
        cbv
        refine hcall2 _ _ _ _ _ (CallEv.lend [1, 2] hby rfl (.cons (.own 0 1 0 rfl) .nil) (wrL rfl rfl rfl rfl) ?_)
        rintro _ _ ⟨⟨he, rfl⟩ | ⟨he, rfl⟩, rfl⟩
        · obtain ⟨g1, g2, g3⟩ := hfin.1 he
          subst he
          cbv
          refine hq2 _ (OutX.thruC (Conv.freezeAt 5 2 rfl (by rw [hB]; exact Nat.zero_le _) rfl u1.symm).weak ⟨some (n2, ys2), _, ⟨u1, g1, g2, g3⟩, rfl, (by repeat (first | exact trivial | refine And.intro rfl ?_)), rfl, rfl, rfl, ?_⟩)
          rw [hB]; exact Nat.zero_le _
        · obtain ⟨g1, g2⟩ := hfin.2 he
          subst g1
          cbv
          refine hq2 _ (OutX.thru ⟨none, _, g2, rfl, (by repeat (first | exact trivial | refine And.intro rfl ?_)), rfl, rfl, rfl, ?_⟩)
          rw [hB]; exact Nat.zero_le _
      · refine ⟨false, ?_⟩
        cbv
        refine hcall2 _ _ _ _ _ (CallEv.lend [1] hnums rfl (.cons (.own 0 1 0 rfl) (.cons (.p _) .nil)) (wrL0 rfl) ?_)
        rintro _ _ ⟨n1, e1, ys1, ⟨w1, w2, w3, w4⟩, rfl, rfl⟩
        have htx := htexts n1 e1 ys1 w1 w2
        cbv
        refine hcall2 _ _ _ _ _ (CallEv.lend [1, 2] htx rfl (.cons (.own 0 1 0 rfl) (.cons (.p _) .nil)) (wrL rfl rfl rfl rfl) ?_)
        rintro _ _ ⟨n2, e2, ys2, ⟨u1, u2, u3, u4⟩, rfl, rfl⟩
        have hby := wrBytes_spec n2 e2 ys2
        have hfin := hend n1 e1 ys1 n2 e2 ys2 w3 w4 u3 u4
        cbv
        refine hcall2 _ _ _ _ _ (CallEv.lend [1, 2] hby rfl (.cons (.own 0 1 0 rfl) .nil) (wrL rfl rfl rfl rfl) ?_)
        rintro _ _ ⟨⟨he, rfl⟩ | ⟨he, rfl⟩, rfl⟩
        · obtain ⟨g1, g2, g3⟩ := hfin.1 he
          subst he
          cbv
          refine hq2 _ (OutX.thruC (Conv.freezeAt 5 2 rfl (by rw [hB]; exact Nat.zero_le _) rfl u1.symm).weak ⟨some (n2, ys2), _, ⟨u1, g1, g2, g3⟩, rfl, (by repeat (first | exact trivial | refine And.intro rfl ?_)), rfl, rfl, rfl, ?_⟩)
          rw [hB]; exact Nat.zero_le _
        · obtain ⟨g1, g2⟩ := hfin.2 he
          subst g1
          cbv
          refine hq2 _ (OutX.thru ⟨none, _, g2, rfl, (by repeat (first | exact trivial | refine And.intro rfl ?_)), rfl, rfl, rfl, ?_⟩)
          rw [hB]; exact Nat.zero_le _
    · refine ⟨false, ?_⟩
      cbv
      refine ⟨false, ?_⟩
      cbv
      refine hcall2 _ _ _ _ _ (CallEv.lend [1] hnums rfl (.cons (.own 0 1 0 rfl) (.cons (.p _) .nil)) (wrL0 rfl) ?_)
      rintro _ _ ⟨n1, e1, ys1, ⟨w1, w2, w3, w4⟩, rfl, rfl⟩
      have htx := htexts n1 e1 ys1 w1 w2
      cbv
      refine hcall2 _ _ _ _ _ (CallEv.lend [1, 2] htx rfl (.cons (.own 0 1 0 rfl) (.cons (.p _) .nil)) (wrL rfl rfl rfl rfl) ?_)
      rintro _ _ ⟨n2, e2, ys2, ⟨u1, u2, u3, u4⟩, rfl, rfl⟩
      have hby := wrBytes_spec n2 e2 ys2
      have hfin := hend n1 e1 ys1 n2 e2 ys2 w3 w4 u3 u4
      cbv
      refine hcall2 _ _ _ _ _ (CallEv.lend [1, 2] hby rfl (.cons (.own 0 1 0 rfl) .nil) (wrL rfl rfl rfl rfl) ?_)
      rintro _ _ ⟨⟨he, rfl⟩ | ⟨he, rfl⟩, rfl⟩
      · obtain ⟨g1, g2, g3⟩ := hfin.1 he
        subst he
        cbv
        refine hq2 _ (OutX.thruC (Conv.freezeAt 5 2 rfl (by rw [hB]; exact Nat.zero_le _) rfl u1.symm).weak ⟨some (n2, ys2), _, ⟨u1, g1, g2, g3⟩, rfl, (by repeat (first | exact trivial | refine And.intro rfl ?_)), rfl, rfl, rfl, ?_⟩)
        rw [hB]; exact Nat.zero_le _
      · obtain ⟨g1, g2⟩ := hfin.2 he
        subst g1
        cbv
        refine hq2 _ (OutX.thru ⟨none, _, g2, rfl, (by repeat (first | exact trivial | refine And.intro rfl ?_)), rfl, rfl, rfl, ?_⟩)
        rw [hB]; exact Nat.zero_le _
  · rintro (_ | ⟨n, ys⟩)
    · intro h
      replace h : ¬ (okA ∧ okB) := h
      cbv
      repeat (first | (refine vcIf.yes ?_ ?_; (focus (simp [hA.not, hA.eq, hA.lt, hA.le, hA.cond, hA.beq, hA.orb, hL.len, hL.slen, hL.sq]; done)); cbv) | (refine vcIf.no ?_ ?_; (focus (simp [hA.not, hA.eq, hA.lt, hA.le, hA.cond, hA.beq, hA.orb, hL.len, hL.slen, hL.sq]; done)); cbv) | fail)
      refine hret _ (RetEv.ret eOk rfl ⟨[], [], 2, ?_, rfl, .inr ⟨rfl, rfl⟩⟩)
      rw [hR, if_neg]
      rw [hokA, hokB] at h
      intro c
      apply h
      simp at c ⊢
      omega
    · rintro ⟨g1, g2, g3, g4⟩
      have hl9 := encs_len [kd, fr, to, ep, a, b, c] (fun z hz => (hm1 z hz).2)
      have hbl : body.length ≤ 65536 := by rw [hokB] at g4; exact g4
      have hse := casSeal_spec (encs [kd, fr, to, ep, a, b, c] ++ enct body) ys g2 (by simp [enct] at hl9 ⊢; have := enc_len9 (show body.length < 9223372036854775808 by omega); omega)
      cbv
      repeat (first | (refine vcIf.yes ?_ ?_; (focus (simp [hA.not, hA.eq, hA.lt, hA.le, hA.cond, hA.beq, hA.orb, hL.len, hL.slen, hL.sq]; done)); cbv) | (refine vcIf.no ?_ ?_; (focus (simp [hA.not, hA.eq, hA.lt, hA.le, hA.cond, hA.beq, hA.orb, hL.len, hL.slen, hL.sq]; done)); cbv) | fail)
      refine hcall _ _ _ _ _ (CallEv.same hse rfl ?_)
      rintro _ _ ⟨zs, hz, rfl, rfl⟩
      cbv
      refine hret _ (RetEv.ret eOk rfl ⟨zs, _, 0, ?_, hz, .inl rfl⟩)
      rw [hR, if_pos]
      rw [hokA] at g3
      simp at g3 ⊢
      omega
end Go.Proofs.Ytmenbognkdeipaa
