/- A council that is played with: plain facts. No conditions. -/
import Derived.Test.YtnigonhkfpnodaaLCo5
import Derived.Test.YtnigonhkfpnodaaLBq2
import Derived.Test.YtnigonhkfpnodaaLCe1
set_option maxRecDepth 100000
set_option linter.unusedSimpArgs false
set_option linter.unusedVariables false
namespace Go.Proofs.Ytnigonhkfpnodaa
open Go Go.Lx

theorem gVw_enc' (w : Vw4) (hs : w.fit) (hk : w.okB = true) : gVw (vBytes w) = (w, 0) := gVw_enc0 w hs (vBytes w) (by unfold vEnc; rw [if_pos hk])
def Rec (l : List (List UInt8)) (w : Vw4) : Prop := (l = [] ∧ w = Vw4.zero) ∨ l = [vBytes w]
theorem Rec.len {l : List (List UInt8)} {w : Vw4} (h : Rec l w) : l.length ≤ 1 := by
  rcases h with ⟨rfl, _⟩ | rfl <;> simp
theorem Rec.last {l : List (List UInt8)} {w : Vw4} (h : Rec l w) (hs : w.fit) (hk : w.okB = true) : cnLast l = (w, 0) := by
  rcases h with ⟨rfl, rfl⟩ | rfl
  · rfl
  · show gVw (vBytes w) = _
    exact gVw_enc' w hs hk
theorem blt_iff (a b c d : Int) : blt a b c d = true ↔ (a < c ∨ a = c ∧ b < d) := by unfold blt; rw [decide_eq_true_eq]
theorem zero_ok : Vw4.zero.okB = true := by decide
theorem zero_fit : Vw4.zero.fit := ⟨by decide, by decide, by simp [Vw4.zero, Stt.zero], by decide⟩
theorem prm_ok {w : Vw4} (h : w.okB = true) {a b : Int} (ha : 0 ≤ a) (hb : 0 ≤ b) : (prm w a b).1.okB = true := by
  unfold prm; split
  · rename_i hl
    rw [blt_iff] at hl
    rw [Vw4.ok_iff] at h ⊢
    obtain ⟨h1, h2, h3, h4, h5, h6⟩ := h
    refine ⟨ha, hb, h3, h4, h5, ?_⟩
    rw [Bool.eq_false_iff, ne_eq, blt_iff] at h6 ⊢
    simp only
    omega
  · exact h
theorem tkv_ok {w : Vw4} (h : w.okB = true) {a b : Int} (ha : 0 ≤ a) (hb : 0 ≤ b) {s : Stt} (hs : s.okB = true) : (tkv w a b s).1.okB = true := by
  unfold tkv; split
  · exact h
  · rw [Vw4.ok_iff]
    exact ⟨ha, hb, ha, hb, hs, blt_irrefl a b⟩
theorem ok_len {w : Vw4} (h : w.okB = true) : w.s.ch.length ≤ 16 := by
  rw [Vw4.ok_iff] at h
  have := h.2.2.2.2.1
  rw [Stt.ok_iff] at this
  exact this.2.2.2.1

structure Cl where
  p : Pl
  w : Vw4
  wn : Vw4
  wc : Vw4
structure Cl.Ok (s : Cl) : Prop where
  p : s.p.Ok 4000 1
  rn : Rec s.p.now s.wn
  rc : Rec s.p.cut s.wc
  live : s.p.dead = false → s.w = s.wn ∧ s.wc = s.wn
  w : s.w.fit ∧ s.w.okB = true
  wn : s.wn.fit ∧ s.wn.okB = true
  wc : s.wc.fit ∧ s.wc.okB = true
theorem Pl.Ok.tight {s : Pl} {R M : Nat} (h : s.Ok R M) (h1 : s.now.length ≤ 1) (h2 : s.cut.length ≤ 1) (h3 : s.b.rs.length ≤ 1) : s.Ok R 1 := ⟨h.room, h.fit, h1, h2, h3, h.sure, h.dn, h.live, h.gone⟩
theorem bkReset_rs (b : Bk) (l : List (List UInt8)) : (bkReset b l).2.rs = b.rs ∨ (bkReset b l).2.rs = l := by
  unfold bkReset
  split
  · left; rfl
  · simp only [bkFin]
    split
    · right; rfl
    · left; rfl
/-- Another vow is kept, or the tape goes down. -/
theorem Cl.Ok.keep {s : Cl} (h : s.Ok) (hd : s.p.dead = false) {v : Vw4} (hf : v.fit) (hk : v.okB = true) :
    ((cnKeep ⟨s.p.b, s.w⟩ v).1 = 11 ∧ (cnKeep ⟨s.p.b, s.w⟩ v).2.w = s.w ∧ (Cl.mk ⟨(cnKeep ⟨s.p.b, s.w⟩ v).2.b, s.p.now, [vBytes v], true⟩ s.w s.wn v).Ok) ∨
    ((cnKeep ⟨s.p.b, s.w⟩ v).1 = 0 ∧ (cnKeep ⟨s.p.b, s.w⟩ v).2.w = v ∧ (Cl.mk ⟨(cnKeep ⟨s.p.b, s.w⟩ v).2.b, [vBytes v], [vBytes v], false⟩ v v v).Ok) := by
  have he : vEnc v = (vBytes v, 0) := by unfold vEnc; rw [if_pos hk]
  have hl := vBytes_len v hf hk
  have hfit : fitL [vBytes v] := fun r hr => by rw [List.mem_singleton.1 hr]; omega
  unfold cnKeep
  rw [he, if_neg (by simp)]
  simp only
  have hrs : (bkReset s.p.b [vBytes v]).2.rs.length ≤ 1 := by
    rcases bkReset_rs s.p.b [vBytes v] with e | e
    · rw [e]; exact h.p.m3
    · rw [e]; simp
  rcases h.p.reset hd hfit (by simp) with ⟨g1, g2⟩ | ⟨g1, g2⟩ | ⟨g1, g2, g3⟩
  · left
    rw [g1, if_neg (by decide)]
    exact ⟨rfl, rfl, g2.tight h.rn.len (by simp) hrs, h.rn, .inr rfl, (fun c => by cases c), h.w, h.wn, hf, hk⟩
  · right
    rw [g1, if_pos rfl]
    exact ⟨rfl, rfl, g2.tight (by simp) (by simp) hrs, .inr rfl, .inr rfl, fun _ => ⟨rfl, rfl⟩, ⟨hf, hk⟩, ⟨hf, hk⟩, hf, hk⟩
  · exfalso
    rw [rbytes_one] at g3
    unfold enct at g3
    rw [List.length_append, cseal_length] at g3
    have := enc_len9 (show (vBytes v).length + 4 < 9223372036854775808 by omega)
    omega
theorem Cl.Ok.fail {s : Cl} (h : s.Ok) (k : Int) : (Cl.mk ⟨⟨tpFail s.p.b.t k, s.p.b.rs, s.p.b.dn⟩, s.p.now, s.p.cut, s.p.dead⟩ s.w s.wn s.wc).Ok :=
  ⟨h.p.fail k, h.rn, h.rc, h.live, h.w, h.wn, h.wc⟩
theorem Cl.Ok.crash {s : Cl} (h : s.Ok) (k : Int) (x : UInt8) (hle : s.p.b.t.sure ≤ s.p.b.t.all.length) (hro : s.p.b.t.all.length ≤ s.p.b.t.room) : ∃ b' v, cnOpen (tpCrash s.p.b.t k x) = (0, ⟨b', v⟩) ∧ (Cl.mk ⟨b', b'.rs, b'.rs, false⟩ v v v).Ok ∧
    (v = s.wn ∨ (s.p.dead = true ∧ v = s.wc)) := by
  obtain ⟨b', g1, g2, g3⟩ := h.p.crash k x hle hro
  have key : ∃ v, Rec b'.rs v ∧ v.fit ∧ v.okB = true ∧ (v = s.wn ∨ (s.p.dead = true ∧ v = s.wc)) := by
    rcases g3 with e | ⟨hd, e1, e2, e3⟩
    · exact ⟨s.wn, by rw [e]; exact h.rn, h.wn.1, h.wn.2, .inl rfl⟩
    · have hc1 := h.rc.len
      by_cases h0 : b'.rs.length = 0
      · have e0 : b'.rs = s.p.now := by rw [List.length_eq_zero_iff.1 h0]; exact (List.length_eq_zero_iff.1 (by omega)).symm
        exact ⟨s.wn, by rw [e0]; exact h.rn, h.wn.1, h.wn.2, .inl rfl⟩
      · have e0 : b'.rs = s.p.cut := by rw [e2]; exact List.take_of_length_le (by omega)
        exact ⟨s.wc, by rw [e0]; exact h.rc, h.wc.1, h.wc.2, .inr ⟨hd, rfl⟩⟩
  obtain ⟨v, r1, r2, r3, r4⟩ := key
  refine ⟨b', v, ?_, ⟨g2, r1, r1, fun _ => ⟨rfl, rfl⟩, ⟨r2, r3⟩, ⟨r2, r3⟩, r2, r3⟩, r4⟩
  unfold cnOpen
  rw [g1, if_neg (by simp)]
  simp only
  rw [r1.last r2 r3]
end Go.Proofs.Ytnigonhkfpnodaa
