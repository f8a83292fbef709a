/- A book that is played with: plain facts of BookPlays. No conditions. -/
import Derived.Test.YtnigonhkfpnodaaLBq1
set_option maxRecDepth 100000
set_option linter.unusedSimpArgs false
set_option linter.unusedVariables false
namespace Go.Proofs.Ytnigonhkfpnodaa
open Go Go.Lx

def fitL (l : List (List UInt8)) : Prop := ∀ r ∈ l, r.length ≤ 65532
theorem fitL.append {a b : List (List UInt8)} (h : fitL a) (k : fitL b) : fitL (a ++ b) := fun r hr => by
  rcases List.mem_append.1 hr with c | c
  · exact h r c
  · exact k r c
structure Pl where
  b : Bk
  now : List (List UInt8)
  cut : List (List UInt8)
  dead : Bool
structure Pl.Ok (s : Pl) (R M : Nat) : Prop where
  room : s.b.t.room = R
  fit : fitL s.now
  m1 : s.now.length ≤ M
  m2 : s.cut.length ≤ M
  m3 : s.b.rs.length ≤ M
  sure : s.b.t.sure = (rbytes s.now).length
  dn : s.b.dn = s.dead
  live : s.dead = false → s.b.t.down = false ∧ s.b.t.all = rbytes s.now ∧ s.b.rs = s.now ∧ s.cut = s.now
  gone : s.dead = true → ∃ l, fitL l ∧ s.b.t.all = rbytes s.now ++ rbytes l ∧ (l = [] ∨ s.cut = s.now ++ l)
theorem Pl.Ok.mono {s : Pl} {R M M' : Nat} (h : s.Ok R M) (hm : M ≤ M') : s.Ok R M' := ⟨h.room, h.fit, by have := h.m1; omega, by have := h.m2; omega, by have := h.m3; omega, h.sure, h.dn, h.live, h.gone⟩
theorem layE_fit {l : List (List UInt8)} (h : fitL l) : layE false l = 0 := by unfold layE; rw [if_neg (by decide), if_pos (show ∀ r ∈ l, r.length ≤ 65532 from h)]
theorem layE_big {l : List (List UInt8)} (h : ¬ fitL l) : layE false l = 6 := by unfold layE; rw [if_neg (by decide), if_neg (show ¬ ∀ r ∈ l, r.length ≤ 65532 from h)]
theorem layE_dead (l : List (List UInt8)) : layE true l = 11 := by unfold layE; rw [if_pos rfl]
/-- A write of a tape that is up. -/
theorem wr_cases {t : Tp} (hd : t.down = false) (s : Nat) : (wr t s = (10, t) ∧ t.room < s) ∨ (wr t s = (11, { t with down := true })) ∨ ∃ a, wr t s = (0, { t with after := a }) := by
  unfold wr
  rw [hd, if_neg (by decide)]
  split
  · left; exact ⟨rfl, by assumption⟩
  · split
    · right; left; rfl
    · split
      · right; right; exact ⟨_, rfl⟩
      · right; right; refine ⟨t.after, ?_⟩; cases t; simp only at hd; subst hd; rfl
theorem rbytes_nil : rbytes [] = [] := by simp [rbytes, encts]

theorem Pl.Ok.add_dead {s : Pl} {R M : Nat} (h : s.Ok R M) (hd : s.dead = true) (l : List (List UInt8)) : bkAdd s.b l = (11, s.b) := by
  have := h.dn
  unfold bkAdd; rw [this, hd, layE_dead, if_pos (by decide)]
theorem Pl.Ok.reset_dead {s : Pl} {R M : Nat} (h : s.Ok R M) (hd : s.dead = true) (l : List (List UInt8)) : bkReset s.b l = (11, s.b) := by
  have := h.dn
  unfold bkReset; rw [this, hd, layE_dead, if_pos (by decide)]
theorem Pl.Ok.add_big {s : Pl} {R M : Nat} (h : s.Ok R M) (hd : s.dead = false) {l : List (List UInt8)} (hl : ¬ fitL l) : bkAdd s.b l = (6, s.b) := by
  have := h.dn
  unfold bkAdd; rw [this, hd, layE_big hl, if_pos (by decide)]
theorem Pl.Ok.reset_big {s : Pl} {R M : Nat} (h : s.Ok R M) (hd : s.dead = false) {l : List (List UInt8)} (hl : ¬ fitL l) : bkReset s.b l = (6, s.b) := by
  have := h.dn
  unfold bkReset; rw [this, hd, layE_big hl, if_pos (by decide)]
theorem Pl.Ok.add {s : Pl} {R M : Nat} (h : s.Ok R M) (hd : s.dead = false) {l : List (List UInt8)} (hl : fitL l) (hn : l.length ≤ 20) :
    ((bkAdd s.b l).1 = 11 ∧ (Pl.mk (bkAdd s.b l).2 s.now (s.now ++ l) true).Ok R (M + 20)) ∨ ((bkAdd s.b l).1 = 0 ∧ (Pl.mk (bkAdd s.b l).2 (s.now ++ l) (s.now ++ l) false).Ok R (M + 20)) ∨ ((bkAdd s.b l).1 = 10 ∧ (bkAdd s.b l).2 = s.b ∧ R < (rbytes (s.now ++ l)).length) := by
  obtain ⟨⟨t, rs, dn⟩, now, cut, dead⟩ := s
  obtain ⟨k1, k2, k3, k4, k5, k6, k7, k8, k9⟩ := h
  simp only at k1 k2 k3 k4 k5 k6 k7 k8 hd
  subst hd
  obtain ⟨j1, j2, j3, j4⟩ := k8 rfl
  subst k7 j3 j4
  have hln : (cut ++ l).length ≤ M + 20 := by rw [List.length_append]; omega
  unfold bkAdd
  simp only
  rw [layE_fit hl, if_neg (by decide)]
  rcases wr_cases j1 (t.all.length + (rbytes l).length) with ⟨w1, w2⟩ | w1 | ⟨a, w1⟩
  · have e : tpAdd t (rbytes l) = (10, t) := by unfold tpAdd; rw [w1, if_neg (by simp)]
    rw [e, if_neg (by simp)]
    right; right
    refine ⟨rfl, rfl, ?_⟩
    rw [rbytes_append, List.length_append, ← j2]; omega
  · have e : tpAdd t (rbytes l) = (11, { t with down := true }) := by unfold tpAdd; rw [w1, if_neg (by simp)]
    rw [e, if_neg (by simp)]
    left
    exact ⟨rfl, k1, k2, by simp only; omega, hln, by simp [bkFin]; omega, k6, rfl, (fun c => by cases c), fun _ => ⟨[], (fun r hr => by cases hr), by simp only [bkFin]; rw [j2, rbytes_nil, List.append_nil], .inl rfl⟩⟩
  · have e : tpAdd t (rbytes l) = (0, { t with after := a, all := t.all ++ rbytes l }) := by unfold tpAdd; rw [w1, if_pos rfl]
    rw [e, if_pos rfl]
    simp only
    rcases wr_cases (t := { t with after := a, all := t.all ++ rbytes l }) j1 0 with ⟨w3, w4⟩ | w3 | ⟨c, w3⟩
    · omega
    · have e2 : tpSync { t with after := a, all := t.all ++ rbytes l } = (11, { t with after := a, all := t.all ++ rbytes l, down := true }) := by unfold tpSync; rw [w3, if_neg (by simp)]
      rw [e2]
      left
      exact ⟨rfl, k1, k2, by simp only; omega, hln, by simp [bkFin]; omega, k6, rfl, (fun c => by cases c), fun _ => ⟨l, hl, by simp only [bkFin]; rw [j2], .inr rfl⟩⟩
    · have e2 : tpSync { t with after := a, all := t.all ++ rbytes l } = (0, { t with after := c, all := t.all ++ rbytes l, sure := (t.all ++ rbytes l).length }) := by unfold tpSync; rw [w3, if_pos rfl]
      rw [e2]
      right; left
      refine ⟨rfl, k1, fitL.append k2 hl, hln, hln, by simp [bkFin] at hln ⊢; omega, ?_, rfl, fun _ => ⟨j1, ?_, by simp [bkFin], rfl⟩, fun c => by cases c⟩
      · simp only [bkFin]; rw [j2, rbytes_append]
      · simp only [bkFin]; rw [j2, rbytes_append]
theorem Pl.Ok.reset {s : Pl} {R M : Nat} (h : s.Ok R M) (hd : s.dead = false) {l : List (List UInt8)} (hl : fitL l) (hn : l.length ≤ 20) :
    ((bkReset s.b l).1 = 11 ∧ (Pl.mk (bkReset s.b l).2 s.now l true).Ok R (M + 20)) ∨ ((bkReset s.b l).1 = 0 ∧ (Pl.mk (bkReset s.b l).2 l l false).Ok R (M + 20)) ∨ ((bkReset s.b l).1 = 10 ∧ (bkReset s.b l).2 = s.b ∧ R < (rbytes l).length) := by
  obtain ⟨⟨t, rs, dn⟩, now, cut, dead⟩ := s
  obtain ⟨k1, k2, k3, k4, k5, k6, k7, k8, k9⟩ := h
  simp only at k1 k2 k3 k4 k5 k6 k7 k8 hd
  subst hd
  obtain ⟨j1, j2, j3, j4⟩ := k8 rfl
  subst k7 j3 j4
  unfold bkReset
  simp only
  rw [layE_fit hl, if_neg (by decide)]
  rcases wr_cases j1 (rbytes l).length with ⟨w1, w2⟩ | w1 | ⟨a, w1⟩
  · have e : tpRep t (rbytes l) = (10, t) := by unfold tpRep; rw [w1, if_neg (by simp)]
    rw [e]
    right; right
    exact ⟨rfl, rfl, by omega⟩
  · have e : tpRep t (rbytes l) = (11, { t with down := true }) := by unfold tpRep; rw [w1, if_neg (by simp)]
    rw [e]
    left
    exact ⟨rfl, k1, k2, by simp only; omega, by simp only; omega, by simp [bkFin]; omega, k6, rfl, (fun c => by cases c), fun _ => ⟨[], (fun r hr => by cases hr), by simp only [bkFin]; rw [j2, rbytes_nil, List.append_nil], .inl rfl⟩⟩
  · have e : tpRep t (rbytes l) = (0, { t with after := a, all := rbytes l, sure := (rbytes l).length }) := by unfold tpRep; rw [w1, if_pos rfl]
    rw [e]
    right; left
    exact ⟨rfl, k1, hl, by simp only; omega, by simp only; omega, by simp [bkFin]; omega, rfl, rfl, fun _ => ⟨j1, rfl, by simp [bkFin], rfl⟩, fun c => by cases c⟩
theorem Pl.Ok.fail {s : Pl} {R M : Nat} (h : s.Ok R M) (k : Int) : (Pl.mk ⟨tpFail s.b.t k, s.b.rs, s.b.dn⟩ s.now s.cut s.dead).Ok R M :=
  ⟨h.room, h.fit, h.m1, h.m2, h.m3, h.sure, h.dn, h.live, h.gone⟩
theorem crash_eq (t : Tp) (k : Int) (x : UInt8) (h : t.sure ≤ t.all.length) : ∃ Y, tpCrash t k x = ⟨Y, Y.length, t.room, -1, false⟩ ∧ Y.length ≤ t.all.length ∧ ∀ A X, t.all = A ++ X → t.sure = A.length → ∃ Y', Y = A ++ Y' ∧ Frag X Y' := by
  obtain ⟨h1, h2⟩ := lasts_le t k h
  have tk : ∀ A X : List UInt8, t.all = A ++ X → t.sure = A.length → t.all.take (lasts t k) = A ++ X.take (lasts t k - A.length) := fun A X e1 e2 => by
    rw [e1, List.take_append, List.take_of_length_le (by omega)]
  unfold tpCrash
  split
  · rename_i hc
    refine ⟨t.all.take (lasts t k) ++ [t.all.getD (lasts t k) 0 ^^^ x], by congr 1; simp; omega, by have := hc.1; simp; omega, fun A X e1 e2 => ?_⟩
    refine ⟨X.take (lasts t k - A.length) ++ [t.all.getD (lasts t k) 0 ^^^ x], by rw [tk A X e1 e2, List.append_assoc], .inr ⟨lasts t k - A.length, t.all.getD (lasts t k) 0, t.all.getD (lasts t k) 0 ^^^ x, ?_, ?_, rfl⟩⟩
    · obtain ⟨z, hz⟩ := get_of_lt hc.1
      rw [List.getD_eq_getElem?_getD, hz]
      rw [e1, List.getElem?_append_right (by omega)] at hz
      exact hz
    · intro e
      apply hc.2
      have := congrArg UInt8.toNat e
      rw [UInt8.toNat_xor] at this
      have h3 : x.toNat = 0 := by
        have h4 := congrArg (fun y => (t.all.getD (lasts t k) 0).toNat ^^^ y) this
        simp only [← Nat.xor_assoc, Nat.xor_self, Nat.zero_xor] at h4
        exact h4
      exact UInt8.toNat_inj.1 h3
  · refine ⟨t.all.take (lasts t k), by congr 1; simp; omega, by simp; omega, fun A X e1 e2 => ⟨X.take (lasts t k - A.length), tk A X e1 e2, .inl ⟨_, rfl⟩⟩⟩
theorem Pl.Ok.crash {s : Pl} {R M : Nat} (h : s.Ok R M) (k : Int) (x : UInt8) (hle : s.b.t.sure ≤ s.b.t.all.length) (hro : s.b.t.all.length ≤ s.b.t.room) : ∃ b', bkOpen (tpCrash s.b.t k x) = (0, b') ∧ (Pl.mk b' b'.rs b'.rs false).Ok R M ∧
    (b'.rs = s.now ∨ (s.dead = true ∧ b'.rs.length ≤ s.cut.length ∧ b'.rs = s.cut.take b'.rs.length ∧ s.now.length ≤ b'.rs.length)) := by
  obtain ⟨Y, hY, hYl, hfr⟩ := crash_eq s.b.t k x hle
  rw [hY]
  have hYr : Y.length ≤ s.b.t.room := by omega
  have hopn := bkOpen_calm Y s.b.t.room hYr
  rw [← rdR_back Y.length Y (Nat.le_refl _)] at hopn
  refine ⟨_, hopn, ?_⟩
  simp only
  obtain ⟨l, hl1, hl2, hl3⟩ : ∃ l, fitL l ∧ s.b.t.all = rbytes s.now ++ rbytes l ∧ (l = [] ∨ (s.dead = true ∧ s.cut = s.now ++ l)) := by
    cases hd : s.dead with
    | false => exact ⟨[], (fun r hr => by cases hr), by rw [(h.live hd).2.1, rbytes_nil, List.append_nil], .inl rfl⟩
    | true =>
      obtain ⟨l, g1, g2, g3⟩ := h.gone hd
      exact ⟨l, g1, g2, g3.imp id fun c => ⟨rfl, c⟩⟩
  obtain ⟨Y', rfl, hF⟩ := hfr _ _ hl2 h.sure
  obtain ⟨j, hj, hj2⟩ := frag_rd l hl1 Y' hF
  have hrd : (rdR (rbytes s.now ++ Y')).1 = s.now ++ l.take j := by rw [rdR_rbytes s.now h.fit, hj2]
  rw [hrd]
  have hlen : (s.now ++ l.take j).length ≤ M := by
    rcases hl3 with rfl | ⟨_, hc⟩
    · simp only [List.take_nil, List.append_nil]; exact h.m1
    · have := h.m2
      rw [hc, List.length_append] at this
      rw [List.length_append, List.length_take]; omega
  refine ⟨⟨h.room, fitL.append h.fit fun r hr => hl1 r (List.mem_of_mem_take hr), hlen, hlen, hlen, rfl, rfl, fun _ => ⟨rfl, rfl, rfl, rfl⟩, (fun c => by cases c)⟩, ?_⟩
  rcases hl3 with rfl | ⟨hd, hc⟩
  · left; simp
  · right
    refine ⟨hd, ?_, ?_, ?_⟩
    · rw [hc, List.length_append, List.length_append, List.length_take]; omega
    · rw [hc, List.length_append, List.take_length_add_append, List.length_take, Nat.min_eq_left hj]
    · rw [List.length_append]; omega
end Go.Proofs.Ytnigonhkfpnodaa
