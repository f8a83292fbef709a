/- Guest: the game: something was changed. Conditions: on sizes. -/
import Derived.Test.YtegkojnngdlfaaaGreatLGx3
set_option maxRecDepth 100000
set_option maxHeartbeats 64000000
set_option linter.unusedSimpArgs false
set_option linter.unusedVariables false
namespace Go.Proofs.YtegkojnngdlfaaaGreat
open Go Go.Lx
open Go.Sx (vcIf)
theorem changed2 (c : Int) (ws : List PV) (g : Gq) (nt : Nat) (xt : List PV) (key a b : List UInt8) (what n ck : Int) (cy cv : List UInt8) (dv : Int) (sn cs : List PV) :
    FnL Tryz.prog 40 [.own 9 0, .p (stp what n key a b ck cy cv), .p (.int .i64 4), .p (.int .i64 0), .p (ddP 0 0 0 0 0 dv (.sl sn) (.sl cs))] (gmO c g nt xt ws) fun v own => v = .p (.bool true) ∧ own = gmO c g nt xt ws := by
  obtain ⟨c3, fr, hd, qn, wt, tk, dr', dO', dv', n1, n2, bg, n3, lo0, hi0, o4, n4, n5, n6, ep, sv, x1, x2, x3, x4, x5, x6⟩ := g
  have hno := none_spec 0 0 dv sn cs
  rw [show decide ((0 : Int) = 0 ∧ (0 : Int) = 0) = true by decide] at hno
  refine fn_of_vc eOk fOk fo40 Tryz.func40 rfl rfl rfl fun B hB => ?_
  intro _ _ _ _ _ _ _ _ _ _ _ ieq _ _ _ _ _ _ _ _ _ _ _ hA _ _ sl _ _ _ _ _ _ _ hL _ _ _ hcall _ _ ret hret
  cbv
  repeat (first | (refine vcIf.yes ?_ ?_; (focus (simp [smW hA hL]; done)); cbv) | (refine vcIf.no ?_ ?_; (focus (simp [smW hA hL]; done)); cbv))
  refine hcall _ _ _ _ _ (CallEv.same hno rfl ?_)
  rintro _ _ ⟨_, rfl, rfl, rfl⟩
  cbv
  repeat (first | (refine vcIf.yes ?_ ?_; (focus (simp [smW hA hL]; done)); cbv) | (refine vcIf.no ?_ ?_; (focus (simp [smW hA hL]; done)); cbv))
  refine hret _ (RetEv.convW (ConvW.pack [0, 1, 2, 3, 4, 5, 6, 7, 8, 9, 10] hB rfl) (RetEv.ret eOk rfl ⟨?_, rfl⟩))
  show V.p (.bool (ieq 4 4)) = _
  rw [hA.eq]; rfl
def chE (c : Chg) (m : Nat) : Nat := if chk c ≠ 0 then chk c else if 48 ≤ m then 10 else 0
theorem changed3 (c : Int) (ws : List PV) (g : Gq) (nt : Nat) (xt : List PV) (l : List Chg) (hg : Deedy g l) (key a b : List UInt8) (what n : Int) (ch : Chg) (e want dr dO dv : Int) (sn cs : List PV)
    (hcase : want ≠ 0 ∧ e = want ∨ want = 0 ∧ ¬(dr = 0 ∧ dO = 0) ∧ e = Int.ofNat (chE ch cs.length)) (hlen : g.x2.length = if e = 0 then cs.length + 1 else cs.length) (hcs : cs.length ≤ 48) :
    FnL Tryz.prog 40 [.own 9 0, .p (stp what n key a b ch.kind ch.key ch.val), .p (.int .i64 e), .p (.int .i64 want), .p (ddP 0 0 0 dr dO dv (.sl sn) (.sl cs))] (gmO c g nt xt ws) fun v own => v = .p (.bool true) ∧ own = gmO c g nt xt ws := by
  have hno := none_spec dr dO dv sn cs
  have hck := rcheck_spec ch
  have hdd := hg.spec
  clear hg
  obtain ⟨c3, fr, hd, qn, wt, tk, dr', dO', dv', n1, n2, bg, n3, lo0, hi0, o4, n4, n5, n6, ep, sv, x1, x2, x3, x4, x5, x6⟩ := g
  simp only at hdd hlen
  obtain ⟨m, hm⟩ : ∃ m, m = cs.length := ⟨_, rfl⟩
  obtain ⟨C, hC⟩ : ∃ C, C = chk ch := ⟨_, rfl⟩
  unfold chE at hcase
  rw [← hm, ← hC] at hcase
  rw [← hm] at hlen hcs
  rw [← hC] at hck
  obtain ⟨ck, cy, cv⟩ := ch
  simp only at hck ⊢
  clear hC
  refine fn_of_vc eOk fOk fo40 Tryz.func40 rfl rfl rfl fun B hB => ?_
  intro add _ _ _ _ _ _ _ _ _ _ ieq _ ile _ _ _ _ _ bcond _ _ _ hA _ _ sl _ _ _ _ len _ _ hL _ _ _ hcall _ _ ret hret
  have hlc : len cs = Int.ofNat m := by rw [hL.len, ← hm]; rfl
  have hlx : len x2 = Int.ofNat (if e = 0 then m + 1 else m) := by rw [hL.len, hlen]; rfl
  have had : add .i64 (Int.ofNat m) 1 = Int.ofNat (m + 1) := by rw [hA.add, IntWalk.i64_in _ (by simp only [Int.ofNat_eq_natCast]; omega)]; rfl
  cbv
  by_cases hw0 : want = 0
  rotate_left
  · obtain rfl : e = want := by rcases hcase with h | h; exact h.2; exact absurd h.1 hw0
    rw [if_neg hw0] at hlx
    have hq : ieq (len x2) (len cs) = true := by rw [hA.eq, hlx, hlc]; exact decide_eq_true rfl
    repeat (first | (refine vcIf.yes ?_ ?_; (focus (simp [smW hA hL, hw0]; done)); cbv) | (refine vcIf.no ?_ ?_; (focus (simp [smW hA hL, hw0]; done)); cbv))
    refine hcall _ _ _ _ _ (CallEv.lend [0, 1, 2, 3, 4, 5, 6] hdd rfl (.cons (.own 0 0 0 rfl) .nil) (gqT rfl rfl rfl rfl rfl rfl rfl rfl rfl rfl rfl rfl rfl) ?_)
    rintro _ _ ⟨z, hz, rfl, rfl⟩
    cbv
    repeat (first | (refine vcIf.yes ?_ ?_; (focus (simp [smW hA hL, hw0]; done)); cbv) | (refine vcIf.no ?_ ?_; (focus (simp [smW hA hL, hw0]; done)); cbv))
    rw [hq]
    repeat (first | (refine vcIf.yes ?_ ?_; (focus (simp [smW hA hL, hw0]; done)); cbv) | (refine vcIf.no ?_ ?_; (focus (simp [smW hA hL, hw0]; done)); cbv))
    refine hret _ (RetEv.convW (ConvW.pack [0, 1, 2, 3, 4, 5, 6, 7, 8, 9, 10] hB rfl) (RetEv.ret eOk rfl ⟨?_, rfl⟩))
    show V.p (.bool (bcond true true false)) = _
    rw [hA.cond]; rfl
  subst hw0
  obtain ⟨hnn, hE⟩ : ¬(dr = 0 ∧ dO = 0) ∧ e = Int.ofNat (if C ≠ 0 then C else if 48 ≤ m then 10 else 0) := by rcases hcase with h | h; exact absurd rfl h.1; exact h.2
  rw [decide_eq_false hnn] at hno
  clear hcase
  repeat (first | (refine vcIf.yes ?_ ?_; (focus (simp [smW hA hL]; done)); cbv) | (refine vcIf.no ?_ ?_; (focus (simp [smW hA hL]; done)); cbv))
  refine hcall _ _ _ _ _ (CallEv.same hno rfl ?_)
  rintro _ _ ⟨_, rfl, rfl, rfl⟩
  cbv
  repeat (first | (refine vcIf.yes ?_ ?_; (focus (simp [smW hA hL]; done)); cbv) | (refine vcIf.no ?_ ?_; (focus (simp [smW hA hL]; done)); cbv))
  refine hcall _ _ _ _ _ (CallEv.same hck rfl ?_)
  rintro _ _ ⟨C', hC', rfl, rfl⟩
  obtain rfl : C = C' := hC'.symm
  cbv
  by_cases h0 : C = 0
  rotate_left
  · rw [if_pos h0] at hE
    have he0 : ¬ e = 0 := by rw [hE]; simp only [Int.ofNat_eq_natCast]; omega
    subst hE
    rw [if_neg he0] at hlx
    have hq : ieq (len x2) (len cs) = true := by rw [hA.eq, hlx, hlc]; exact decide_eq_true rfl
    repeat (first | (refine vcIf.yes ?_ ?_; (focus (simp [smW hA hL, h0, he0]; done)); cbv) | (refine vcIf.no ?_ ?_; (focus (simp [smW hA hL, h0, he0]; done)); cbv))
    refine hcall _ _ _ _ _ (CallEv.lend [0, 1, 2, 3, 4, 5, 6] hdd rfl (.cons (.own 0 0 0 rfl) .nil) (gqT rfl rfl rfl rfl rfl rfl rfl rfl rfl rfl rfl rfl rfl) ?_)
    rintro _ _ ⟨z, hz, rfl, rfl⟩
    cbv
    repeat (first | (refine vcIf.yes ?_ ?_; (focus (simp [smW hA hL, h0, he0]; done)); cbv) | (refine vcIf.no ?_ ?_; (focus (simp [smW hA hL, h0, he0]; done)); cbv))
    rw [hq]
    repeat (first | (refine vcIf.yes ?_ ?_; (focus (simp [smW hA hL, h0, he0]; done)); cbv) | (refine vcIf.no ?_ ?_; (focus (simp [smW hA hL, h0, he0]; done)); cbv))
    refine hret _ (RetEv.convW (ConvW.pack [0, 1, 2, 3, 4, 5, 6, 7, 8, 9, 10] hB rfl) (RetEv.ret eOk rfl ⟨?_, rfl⟩))
    show V.p (.bool (bcond true true false)) = _
    rw [hA.cond]; rfl
  subst h0
  rw [if_neg (by decide)] at hE
  by_cases h48 : 48 ≤ m
  · rw [if_pos h48] at hE
    have he0 : ¬ e = 0 := by rw [hE]; decide
    subst hE
    rw [if_neg he0] at hlx
    have hq : ieq (len x2) (len cs) = true := by rw [hA.eq, hlx, hlc]; exact decide_eq_true rfl
    have hg48 : ile 48 (len cs) = true := by rw [hA.le, hlc]; exact decide_eq_true (by simp only [Int.ofNat_eq_natCast]; omega)
    repeat (first | (refine vcIf.yes ?_ ?_; (focus (simp [smW hA hL]; done)); cbv) | (refine vcIf.no ?_ ?_; (focus (simp [smW hA hL]; done)); cbv))
    rw [hg48]
    cbv
    repeat (first | (refine vcIf.yes ?_ ?_; (focus (simp [smW hA hL]; done)); cbv) | (refine vcIf.no ?_ ?_; (focus (simp [smW hA hL]; done)); cbv))
    refine hcall _ _ _ _ _ (CallEv.lend [0, 1, 2, 3, 4, 5, 6] hdd rfl (.cons (.own 0 0 0 rfl) .nil) (gqT rfl rfl rfl rfl rfl rfl rfl rfl rfl rfl rfl rfl rfl) ?_)
    rintro _ _ ⟨z, hz, rfl, rfl⟩
    cbv
    repeat (first | (refine vcIf.yes ?_ ?_; (focus (simp [smW hA hL]; done)); cbv) | (refine vcIf.no ?_ ?_; (focus (simp [smW hA hL]; done)); cbv))
    rw [hq]
    repeat (first | (refine vcIf.yes ?_ ?_; (focus (simp [smW hA hL]; done)); cbv) | (refine vcIf.no ?_ ?_; (focus (simp [smW hA hL]; done)); cbv))
    refine hret _ (RetEv.convW (ConvW.pack [0, 1, 2, 3, 4, 5, 6, 7, 8, 9, 10] hB rfl) (RetEv.ret eOk rfl ⟨?_, rfl⟩))
    show V.p (.bool (bcond true true false)) = _
    rw [hA.cond]; rfl
  · rw [if_neg h48] at hE
    obtain rfl : e = 0 := hE
    rw [if_pos rfl] at hlx
    have hq : ieq (len x2) (add .i64 (len cs) 1) = true := by rw [hA.eq, hlx, hlc, had]; exact decide_eq_true rfl
    have hg48 : ile 48 (len cs) = false := by rw [hA.le, hlc]; exact decide_eq_false (by simp only [Int.ofNat_eq_natCast]; omega)
    repeat (first | (refine vcIf.yes ?_ ?_; (focus (simp [smW hA hL]; done)); cbv) | (refine vcIf.no ?_ ?_; (focus (simp [smW hA hL]; done)); cbv))
    rw [hg48]
    cbv
    repeat (first | (refine vcIf.yes ?_ ?_; (focus (simp [smW hA hL]; done)); cbv) | (refine vcIf.no ?_ ?_; (focus (simp [smW hA hL]; done)); cbv))
    refine hcall _ _ _ _ _ (CallEv.lend [0, 1, 2, 3, 4, 5, 6] hdd rfl (.cons (.own 0 0 0 rfl) .nil) (gqT rfl rfl rfl rfl rfl rfl rfl rfl rfl rfl rfl rfl rfl) ?_)
    rintro _ _ ⟨z, hz, rfl, rfl⟩
    cbv
    repeat (first | (refine vcIf.yes ?_ ?_; (focus (simp [smW hA hL]; done)); cbv) | (refine vcIf.no ?_ ?_; (focus (simp [smW hA hL]; done)); cbv))
    rw [hq]
    repeat (first | (refine vcIf.yes ?_ ?_; (focus (simp [smW hA hL]; done)); cbv) | (refine vcIf.no ?_ ?_; (focus (simp [smW hA hL]; done)); cbv))
    refine hret _ (RetEv.convW (ConvW.pack [0, 1, 2, 3, 4, 5, 6, 7, 8, 9, 10] hB rfl) (RetEv.ret eOk rfl ⟨?_, rfl⟩))
    show V.p (.bool (bcond true (bcond false true (bcond true true false)) false)) = _
    simp only [hA.cond]; rfl
end Go.Proofs.YtegkojnngdlfaaaGreat
