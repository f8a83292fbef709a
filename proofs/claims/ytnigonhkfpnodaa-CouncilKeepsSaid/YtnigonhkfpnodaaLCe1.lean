/- What was laid of states and vows is read as it was: plain facts. No conditions. -/
import Derived.Test.YtnigonhkfpnodaaLBv3
import Derived.Test.YtnigonhkfpnodaaLFr9
set_option maxRecDepth 100000
set_option linter.unusedSimpArgs false
set_option linter.unusedVariables false
namespace Go.Proofs.Ytnigonhkfpnodaa
open Go Go.Lx

theorem rdI_enc0 (z : Int) (h0 : 0 ≤ z) (h1 : z ≤ 9223372036854775807) (r : List UInt8) : rdN (enc z.toNat ++ r) 0 = (z.toNat, r, 0) ∧ (z.toNat : Int) = z := ⟨rdN_enc _ (by omega) r, by omega⟩

theorem rdC_enc0 (n most : Nat) (h : n ≤ most) (hn : n < 9223372036854775808) (r : List UInt8) : rdC (enc n ++ r) 0 most = (n, r, 0) := by
  unfold rdC; rw [rdN_enc n hn]; exact if_neg (show ¬ most < n by omega)

theorem rdNs_enc0 : ∀ (l : List Int), (∀ z ∈ l, 0 ≤ z ∧ z ≤ 9223372036854775807) → ∀ r, rdNs l.length (encs l ++ r) 0 = (l, r, 0)
  | [], _, r => by simp [rdNs, encs]
  | z :: l, h, r => by
    obtain ⟨g1, f1⟩ := rdI_enc0 z (h z (by simp)).1 (h z (by simp)).2 (encs l ++ r)
    have e : encs (z :: l) ++ r = enc z.toNat ++ (encs l ++ r) := by simp [encs]
    rw [List.length_cons, rdNs, if_neg (by simp), e, g1]
    simp only
    rw [rdNs_enc0 l (fun y hy => h y (by simp [hy])) r, f1]

theorem gSt_enc0 (s : Stt) (hs : s.fit) (l : List UInt8) (h : (l, 0) = sEnc s) : gSt l = (s, 0) := by
  unfold sEnc at h
  split at h
  rotate_left
  · simp at h
  rename_i hok
  obtain rfl : l = sBytes s := by simpa using h
  obtain ⟨k1, k2, k3, k4, k5⟩ := s.ok_iff.1 hok
  obtain ⟨a, b, c, ch⟩ := s
  simp only at k1 k2 k3 k4 k5
  obtain ⟨hs1, hs2, hs3⟩ := hs
  simp only at hs1
  have c1 := rdC_enc0 ch.length 16 k4 (by omega) (encs ch)
  have c2 := rdNs_enc0 ch (fun z hz => by have := k5 z hz; omega) []
  rw [List.append_nil] at c2
  obtain ⟨g1, f1⟩ := rdI_enc0 a k1 (hs1 a (by simp)).2 (enc b.toNat ++ (enc c.toNat ++ (enc ch.length ++ encs ch)))
  obtain ⟨g2, f2⟩ := rdI_enc0 b k2 (hs1 b (by simp)).2 (enc c.toNat ++ (enc ch.length ++ encs ch))
  obtain ⟨g3, f3⟩ := rdI_enc0 c k3 (hs1 c (by simp)).2 (enc ch.length ++ encs ch)
  have e : sBytes ⟨a, b, c, ch⟩ = enc a.toNat ++ (enc b.toNat ++ (enc c.toNat ++ (enc ch.length ++ encs ch))) := by simp [sBytes, encs]
  unfold gSt
  rw [e, g1]; simp only; rw [g2]; simp only; rw [g3]; simp only; rw [c1]; simp only; rw [c2]; simp only
  rw [f1, f2, f3, if_pos ⟨trivial, trivial, hok⟩]


theorem gVw_enc0 (w : Vw4) (hs : w.fit) (l : List UInt8) (h : (l, 0) = vEnc w) : gVw l = (w, 0) := by
  unfold vEnc at h
  split at h
  rotate_left
  · simp at h
  rename_i hok
  obtain rfl : l = vBytes w := by simpa using h
  obtain ⟨k1, k2, k3, k4, k5, k6⟩ := w.ok_iff.1 hok
  obtain ⟨a, b, c, d, s⟩ := w
  obtain ⟨hs1, hs2⟩ := hs
  simp only at k1 k2 k3 k4 k5 k6 hs1 hs2
  have hg := gSt_enc0 s hs2 (sBytes s) (by unfold sEnc; rw [if_pos k5])
  obtain ⟨g1, f1⟩ := rdI_enc0 a k1 (hs1 a (by simp)).2 (enc b.toNat ++ (enc c.toNat ++ (enc d.toNat ++ sBytes s)))
  obtain ⟨g2, f2⟩ := rdI_enc0 b k2 (hs1 b (by simp)).2 (enc c.toNat ++ (enc d.toNat ++ sBytes s))
  obtain ⟨g3, f3⟩ := rdI_enc0 c k3 (hs1 c (by simp)).2 (enc d.toNat ++ sBytes s)
  obtain ⟨g4, f4⟩ := rdI_enc0 d k4 (hs1 d (by simp)).2 (sBytes s)
  have e : vBytes ⟨a, b, c, d, s⟩ = enc a.toNat ++ (enc b.toNat ++ (enc c.toNat ++ (enc d.toNat ++ sBytes s))) := by simp [vBytes, encs]
  have := (gVw_of (l := vBytes ⟨a, b, c, d, s⟩) (by rw [e]; exact g1.symm) g2.symm g3.symm g4.symm).2 rfl s 0 hg.symm
  rw [f1, f2, f3, f4] at this
  rw [this, if_pos ⟨rfl, hok⟩]
end Go.Proofs.Ytnigonhkfpnodaa
