/- What is read of what was laid: batches, transactions, states. No conditions. -/
import Derived.Test.YtmenbognkdeipaaLFv7
set_option maxRecDepth 100000
set_option maxHeartbeats 4000000
set_option linter.unusedSimpArgs false
set_option linter.unusedVariables false
namespace Go.Proofs.Ytmenbognkdeipaa
open Go Go.Lx

theorem rdI_enc (z : Int) (h0 : 0 ≤ z) (h1 : z ≤ 9223372036854775807) (r : List UInt8) : rdN (enc z.toNat ++ r) 0 = (z.toNat, r, 0) ∧ (z.toNat : Int) = z := ⟨rdN_enc _ (by omega) r, by omega⟩
theorem rdC_enc (n most : Nat) (h : n ≤ most) (hn : n < 9223372036854775808) (r : List UInt8) : rdC (enc n ++ r) 0 most = (n, r, 0) := by
  unfold rdC; rw [rdN_enc n hn]; exact if_neg (show ¬ most < n by omega)
theorem rdG_enc (c : Chg) (h : chk c = 0) (r : List UInt8) : rdG (encC c ++ r) 0 = (c, r, 0) := by
  obtain ⟨h1, h2, h3, h4⟩ := chk_ok h
  obtain ⟨k, ky, vl⟩ := c
  simp only at h1 h2 h3 h4
  obtain ⟨g1, g2⟩ := rdI_enc k h1 (by omega) (enct ky ++ (enct vl ++ r))
  have e : encC ⟨k, ky, vl⟩ ++ r = enc k.toNat ++ (enct ky ++ (enct vl ++ r)) := by simp [encC]
  have := rdG_of (l := encC ⟨k, ky, vl⟩ ++ r) (e := 0) (by rw [e]; exact g1.symm) (rdT_enc ky (by omega) (enct vl ++ r)).symm (rdT_enc vl (by omega) r).symm
  rw [this, g2]
theorem rdGsT_enc {l : List Chg} (h : chks l = 0) (r : List UInt8) : ∀ i, i ≤ l.length → rdGsT i (l.flatMap encC ++ r) 0 = (l.take i, (l.drop i).flatMap encC ++ r, 0)
  | 0, _ => by simp [rdGsT]
  | i + 1, hi => by
    rw [rdGsT, rdGsT_enc h r i (by omega)]
    simp only
    obtain ⟨c, hc⟩ := get_of_lt (show i < l.length by omega)
    have hd : l.drop i = c :: l.drop (i + 1) := by
      obtain ⟨hl, rfl⟩ := List.getElem?_eq_some_iff.1 hc
      exact List.drop_eq_getElem_cons hl
    have ht : l.take (i + 1) = l.take i ++ [c] := by rw [List.take_add_one, hc]; rfl
    rw [hd, List.flatMap_cons, List.append_assoc, rdG_enc c (chks_mem h c (List.mem_of_getElem? hc)), ht]
theorem rdCs_enc {l : List Chg} (h : chks l = 0) (most : Nat) (hm : l.length ≤ most) (hm2 : most ≤ 100000) (r : List UInt8) : rdC (encCs l ++ r) 0 most = (l.length, l.flatMap encC ++ r, 0) ∧ rdGsT l.length (l.flatMap encC ++ r) 0 = (l, r, 0) := by
  refine ⟨?_, ?_⟩
  · have e : encCs l ++ r = enc l.length ++ (l.flatMap encC ++ r) := by simp [encCs]
    rw [e]; exact rdC_enc _ _ hm (by omega) _
  · rw [rdGsT_enc h r l.length (Nat.le_refl _)]; simp
theorem rdS_enc (c : Spn) (h1 : c.lo.length ≤ 17) (h2 : c.hi.length ≤ 17) (r : List UInt8) : rdS (encS c ++ r) 0 = (c, r, 0) := by
  obtain ⟨ky, vl⟩ := c
  simp only at h1 h2
  have e : encS ⟨ky, vl⟩ ++ r = enct ky ++ (enct vl ++ r) := by simp [encS]
  exact rdS_of (l := encS ⟨ky, vl⟩ ++ r) (e := 0) (by rw [e]; exact (rdT_enc ky (by omega) (enct vl ++ r)).symm) (rdT_enc vl (by omega) r).symm
theorem rdSsT_enc {l : List Spn} (h : l.any Spn.bad = false) (r : List UInt8) : ∀ i, i ≤ l.length → rdSsT i (l.flatMap encS ++ r) 0 = (l.take i, (l.drop i).flatMap encS ++ r, 0)
  | 0, _ => by simp [rdSsT]
  | i + 1, hi => by
    rw [rdSsT, rdSsT_enc h r i (by omega)]
    simp only
    obtain ⟨c, hc⟩ := get_of_lt (show i < l.length by omega)
    have hd : l.drop i = c :: l.drop (i + 1) := by
      obtain ⟨hl, rfl⟩ := List.getElem?_eq_some_iff.1 hc
      exact List.drop_eq_getElem_cons hl
    have ht : l.take (i + 1) = l.take i ++ [c] := by rw [List.take_add_one, hc]; rfl
    obtain ⟨b1, b2⟩ := spn_ok h (List.mem_of_getElem? hc)
    rw [hd, List.flatMap_cons, List.append_assoc, rdS_enc c b1 b2, ht]

theorem gBat_enc (s : Bat) (hs : s.fit) (l : List UInt8) (h : (l, 0) = bEnc s) : gBat l = (s, 0) := by
  unfold bEnc at h
  split at h
  rotate_left
  · simp at h
  rename_i hok
  obtain rfl : l = bBytes s := by simpa using h
  obtain ⟨k1, k2, k3, k4, k5⟩ := s.ok_iff.1 hok
  obtain ⟨a, b, c, ch⟩ := s
  simp only at k1 k2 k3 k4 k5
  obtain ⟨hs1, hs2, hs3⟩ := hs
  simp only at hs1
  obtain ⟨c1, c2⟩ := rdCs_enc k5 4096 k4 (by omega) []
  rw [List.append_nil] at c1 c2
  obtain ⟨g1, f1⟩ := rdI_enc a k1 (hs1 a (by simp)).2 (enc b.toNat ++ (enc c.toNat ++ encCs ch))
  obtain ⟨g2, f2⟩ := rdI_enc b k2 (hs1 b (by simp)).2 (enc c.toNat ++ encCs ch)
  obtain ⟨g3, f3⟩ := rdI_enc c k3 (hs1 c (by simp)).2 (encCs ch)
  have e : bBytes ⟨a, b, c, ch⟩ = enc a.toNat ++ (enc b.toNat ++ (enc c.toNat ++ encCs ch)) := by simp [bBytes, encs]
  rw [List.append_nil] at c1
  have := gBat_of (l := bBytes ⟨a, b, c, ch⟩) (by rw [e]; exact g1.symm) g2.symm g3.symm c1.symm (Nat.le_refl _) (.inl rfl) c2.symm
  rw [f1, f2, f3] at this
  rw [this, if_pos ⟨rfl, rfl, hok⟩]
theorem gTx_enc (s : Tx) (hs : s.fit) (l : List UInt8) (h : (l, 0) = tEnc s) : gTx l = (s, 0) := by
  unfold tEnc at h
  split at h
  rotate_left
  · simp at h
  rename_i hok
  obtain rfl : l = tBytes s := by simpa using h
  obtain ⟨k1, k2, k3, k4, k5⟩ := s.ok_iff.1 hok
  obtain ⟨a, sp, ch⟩ := s
  simp only at k1 k2 k3 k4 k5
  obtain ⟨hs0, hs1, hs2, hs3⟩ := hs
  simp only at hs0
  obtain ⟨c1, c2⟩ := rdCs_enc k4 24 k3 (by omega) []
  rw [List.append_nil] at c1 c2
  rw [List.append_nil] at c1
  have s1 := rdC_enc sp.length 24 k2 (by omega) (sp.flatMap encS ++ encCs ch)
  have s2 := rdSsT_enc k5 (encCs ch) sp.length (Nat.le_refl _)
  rw [List.take_length, List.drop_length] at s2
  obtain ⟨g1, f1⟩ := rdI_enc a k1 hs0.2 (enc sp.length ++ (sp.flatMap encS ++ encCs ch))
  have e : tBytes ⟨a, sp, ch⟩ = enc a.toNat ++ (enc sp.length ++ (sp.flatMap encS ++ encCs ch)) := by simp [tBytes, encs]
  have := gTx_of (l := tBytes ⟨a, sp, ch⟩) (by rw [e]; exact g1.symm) s1.symm (Nat.le_refl _) (.inl rfl) s2.symm (by rw [List.flatMap_nil, List.nil_append]; exact c1.symm) (Nat.le_refl _) (.inl rfl) c2.symm
  rw [f1] at this
  rw [this, if_pos ⟨rfl, rfl, hok⟩]
theorem rdNs_enc : ∀ (l : List Int), (∀ z ∈ l, 0 ≤ z ∧ z ≤ 9223372036854775807) → ∀ r, rdNs l.length (encs l ++ r) 0 = (l, r, 0)
  | [], _, r => by simp [rdNs, encs]
  | z :: l, h, r => by
    obtain ⟨g1, f1⟩ := rdI_enc z (h z (by simp)).1 (h z (by simp)).2 (encs l ++ r)
    have e : encs (z :: l) ++ r = enc z.toNat ++ (encs l ++ r) := by simp [encs]
    rw [List.length_cons, rdNs, if_neg (by simp), e, g1]
    simp only
    rw [rdNs_enc l (fun y hy => h y (by simp [hy])) r, f1]
theorem gSt_enc (s : Stt) (hs : s.fit) (l : List UInt8) (h : (l, 0) = sEnc s) : gSt l = (s, 0) := by
  unfold sEnc at h
  split at h
  rotate_left
  · simp at h
  rename_i hok
  obtain rfl : l = sBytes s := by simpa using h
  obtain ⟨k1, k2, k3, k4, k5⟩ := s.ok_iff.1 hok
  obtain ⟨a, b, c, ch⟩ := s
  simp only at k1 k2 k3 k4 k5
  obtain ⟨hs1, hs2, hs3⟩ := hs
  simp only at hs1
  have c1 := rdC_enc ch.length 16 k4 (by omega) (encs ch)
  have c2 := rdNs_enc ch (fun z hz => by have := k5 z hz; omega) []
  rw [List.append_nil] at c2
  obtain ⟨g1, f1⟩ := rdI_enc a k1 (hs1 a (by simp)).2 (enc b.toNat ++ (enc c.toNat ++ (enc ch.length ++ encs ch)))
  obtain ⟨g2, f2⟩ := rdI_enc b k2 (hs1 b (by simp)).2 (enc c.toNat ++ (enc ch.length ++ encs ch))
  obtain ⟨g3, f3⟩ := rdI_enc c k3 (hs1 c (by simp)).2 (enc ch.length ++ encs ch)
  have e : sBytes ⟨a, b, c, ch⟩ = enc a.toNat ++ (enc b.toNat ++ (enc c.toNat ++ (enc ch.length ++ encs ch))) := by simp [sBytes, encs]
  unfold gSt
  rw [e, g1]; simp only; rw [g2]; simp only; rw [g3]; simp only; rw [c1]; simp only; rw [c2]; simp only
  rw [f1, f2, f3, if_pos ⟨trivial, trivial, hok⟩]

theorem chgs_len {l : List Chg} (h : chks l = 0) (hn : l.length ≤ 4096) : (encCs l).length ≤ 9 + 200 * l.length + 9 := by
  have hc : ∀ (r : List Chg), (∀ c ∈ r, c ∈ l) → (r.flatMap encC).length ≤ 200 * r.length := by
    intro r
    induction r with
    | nil => intro _; simp
    | cons c r ih =>
      intro hm
      have h0 := ih fun x hx => hm x (by simp [hx])
      obtain ⟨h1, h2, h3, h4⟩ := chk_ok (chks_mem h c (hm c (by simp)))
      have b1 := enc_len9 (x := c.kind.toNat) (by omega)
      have b2 := enc_len9 (x := c.key.length) (by omega)
      have b3 := enc_len9 (x := c.val.length) (by omega)
      have e1 : (enct c.key).length = (enc c.key.length).length + c.key.length := by simp [enct]
      have e2 : (enct c.val).length = (enc c.val.length).length + c.val.length := by simp [enct]
      rw [List.flatMap_cons, List.length_append, List.length_cons]
      simp only [encC, List.length_append]
      omega
  have h1 := hc l fun c hc => hc
  have := enc_len9 (show l.length < 9223372036854775808 by omega)
  unfold encCs; rw [List.length_append]; omega
theorem bEnc_len (s : Bat) (hs : s.fit) {l : List UInt8} {e : Nat} (h : (l, e) = bEnc s) : l.length < 9223372036854775807 := by
  unfold bEnc at h
  split at h
  · rename_i hok
    obtain ⟨k1, k2, k3, k4, k5⟩ := s.ok_iff.1 hok
    rw [(Prod.mk.inj h).1]
    have h1 := encs_len [s.a, s.b, s.c] (fun z hz => (hs.1 z hz).2)
    have h2 := chgs_len k5 k4
    unfold bBytes
    simp only [List.length_append, List.length_cons, List.length_nil] at h1 h2 ⊢
    omega
  · rw [(Prod.mk.inj h).1]; simp
theorem spns_len {l : List Spn} (h : l.any Spn.bad = false) : (l.flatMap encS).length ≤ 52 * l.length := by
  have hc : ∀ (r : List Spn), (∀ c ∈ r, c ∈ l) → (r.flatMap encS).length ≤ 52 * r.length := by
    intro r
    induction r with
    | nil => intro _; simp
    | cons c r ih =>
      intro hm
      have h0 := ih fun x hx => hm x (by simp [hx])
      obtain ⟨h1, h2⟩ := spn_ok h (hm c (by simp))
      have b2 := enc_len9 (x := c.lo.length) (by omega)
      have b3 := enc_len9 (x := c.hi.length) (by omega)
      have e1 : (enct c.lo).length = (enc c.lo.length).length + c.lo.length := by simp [enct]
      have e2 : (enct c.hi).length = (enc c.hi.length).length + c.hi.length := by simp [enct]
      rw [List.flatMap_cons, List.length_append, List.length_cons]
      simp only [encS, List.length_append]
      omega
  exact hc l fun c hc => hc
theorem tEnc_len (s : Tx) (hs : s.fit) {l : List UInt8} {e : Nat} (h : (l, e) = tEnc s) : l.length < 9223372036854775807 := by
  unfold tEnc at h
  split at h
  · rename_i hok
    obtain ⟨k1, k2, k3, k4, k5⟩ := s.ok_iff.1 hok
    rw [(Prod.mk.inj h).1]
    have h1 := encs_len [s.r, (s.sp.length : Int)] (fun z hz => by
      simp only [List.mem_cons, List.not_mem_nil, or_false] at hz
      rcases hz with rfl | rfl
      · exact hs.1.2
      · omega)
    have h2 := chgs_len k4 (by omega)
    have h3 := spns_len k5
    unfold tBytes
    simp only [List.length_append, List.length_cons, List.length_nil] at h1 h2 h3 ⊢
    omega
  · rw [(Prod.mk.inj h).1]; simp
end Go.Proofs.Ytmenbognkdeipaa
