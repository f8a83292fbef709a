/- LHas, LHas4, LHas6, LWb, LHas9 together. Conditions: on sizes. -/
import Derived.Test.YtdeolllpbflemaaLFv1
import Derived.Test.YtdeolllpbflemaaLAp1
import Derived.Test.YtdeolllpbflemaaLEnv
import Derived.Test.YtdeolllpbflemaaBulk
import Derived.Test.YtdeolllpbflemaaLRpm
set_option maxRecDepth 100000
set_option maxHeartbeats 4000000
set_option linter.unusedSimpArgs false
set_option linter.unusedVariables false
namespace Go.Proofs.Ytdeolllpbflemaa
section
open Go Go.Lx

theorem has_Chg {K : Nat} (hK : K < 140737488355328) {z : PV} (h : Sh.Has K (.st [.int .i64, .str, .str]) z) : ∃ s : Chg, z = s.v ∧ s.fit := by
  obtain ⟨cs, rfl, h0⟩ := has_st h
  obtain ⟨y0, c0, k0, e0, h1⟩ := has_cons h0
  obtain ⟨y1, c1, k1, e1, h2⟩ := has_cons h1
  obtain ⟨y2, c2, k2, e2, h3⟩ := has_cons h2
  obtain rfl := has_nil h3
  subst e2 e1 e0
  obtain ⟨a0, rfl, p0, q0⟩ := has_int k0
  obtain ⟨a1, rfl, p1⟩ := has_str k1
  obtain ⟨a2, rfl, p2⟩ := has_str k2
  exact ⟨⟨a0, a1, a2⟩, rfl, Nat.lt_of_le_of_lt p1 hK, Nat.lt_of_le_of_lt p2 hK, p0, q0⟩
theorem has_Spn {K : Nat} {z : PV} (h : Sh.Has K (.st [.str, .str]) z) : ∃ s : Spn, z = s.v ∧ True := by
  obtain ⟨cs, rfl, h0⟩ := has_st h
  obtain ⟨y1, c1, k1, e1, h2⟩ := has_cons h0
  obtain ⟨y2, c2, k2, e2, h3⟩ := has_cons h2
  obtain rfl := has_nil h3
  subst e2 e1
  obtain ⟨a1, rfl, p1⟩ := has_str k1
  obtain ⟨a2, rfl, p2⟩ := has_str k2
  exact ⟨⟨a1, a2⟩, rfl, trivial⟩
theorem has_Tx {K : Nat} (hK : K < 140737488355328) {z : PV} (h : Sh.Has K (.st [.int .i64, .sl 32 (.st [.str, .str]), .sl 40 (.st [.int .i64, .str, .str])]) z) : ∃ s : Tx, z = s.v ∧ s.fit := by
  obtain ⟨cs, rfl, h0⟩ := has_st h
  obtain ⟨y0, c0, k0, e0, h1⟩ := has_cons h0
  obtain ⟨y1, c1, k1, e1, h2⟩ := has_cons h1
  obtain ⟨y2, c2, k2, e2, h3⟩ := has_cons h2
  obtain rfl := has_nil h3
  subst e2 e1 e0
  obtain ⟨a0, rfl, p0, q0⟩ := has_int k0
  obtain ⟨l1, rfl, hl1, hm1⟩ := has_sl k1 fun z hz => has_Spn hz
  obtain ⟨l, rfl, hl, hm⟩ := has_sl k2 fun z hz => has_Chg hK hz
  exact ⟨⟨a0, l1, l⟩, rfl, ⟨p0, q0⟩, hm, by simp only; omega, by simp only; omega⟩
end
section
open Go Go.Lx

theorem has_Pr {K : Nat} (hK : K < 140737488355328) {z : PV} (h : Sh.Has K (.st [.str, .str]) z) : ∃ p : Pr, z = p.v ∧ p.fit := by
  obtain ⟨cs, rfl, h0⟩ := has_st h
  obtain ⟨y1, c1, k1, e1, h2⟩ := has_cons h0
  obtain ⟨y2, c2, k2, e2, h3⟩ := has_cons h2
  obtain rfl := has_nil h3
  subst e2 e1
  obtain ⟨a1, rfl, p1⟩ := has_str k1
  obtain ⟨a2, rfl, p2⟩ := has_str k2
  exact ⟨⟨a1, a2⟩, rfl, by unfold Pr.fit; simp only; omega⟩
end
section
open Go Go.Lx

theorem has_Chgs {K : Nat} (hK : K < 140737488355328) {z : PV} (h : Sh.Has K (.sl 40 (.st [.int .i64, .str, .str])) z) : ∃ l : List Chg, z = .sl (cP l) ∧ l.length * 40 ≤ K ∧ ∀ c ∈ l, c.fit := has_sl h fun z hz => has_Chg hK hz
theorem has_Prs {K : Nat} (hK : K < 140737488355328) {z : PV} (h : Sh.Has K (.sl 32 (.st [.str, .str])) z) : ∃ l : List Pr, z = .sl (prP l) ∧ l.length * 32 ≤ K ∧ ∀ c ∈ l, c.fit := has_sl h fun z hz => has_Pr hK hz
end
section
open Go Go.Lx

/-- a reading at t weighs at most c times its bulk -/
def Wb (P : Program) (c : Nat) (t : TypeId) : Prop := ∀ {H : Type} (d : DataW H), ∀ n ∈ d.weights P t, n ≤ c * Rows.uptoBulk d

theorem wb_all {H : Type} {P : Program} {c : Nat} {e : TypeId} (he : Wb P c e) : ∀ (l : List (DataW H)), ∀ n ∈ DataW.weightsAll P e l, n ≤ c * Rows.uptoBulkAll l
  | [], n, h => by simp [DataW.weightsAll] at h
  | d :: r, n, h => by
    simp only [DataW.weightsAll, List.mem_append] at h
    simp only [Rows.uptoBulkAll, Nat.mul_add]
    rcases h with h | h
    · have := he d n h; omega
    · have := wb_all he r n h; omega

theorem wb_eachL {H : Type} {P : Program} {c : Nat} : ∀ (ts : List TypeId) (l : List (DataW H)), (∀ t ∈ ts, Wb P c t) → ∀ n ∈ DataW.weightsEach P ts l, n ≤ c * Rows.uptoBulkAll l
  | [], l, _, n, h => by simp [DataW.weightsEach] at h
  | t :: ts, [], _, n, h => by simp [DataW.weightsEach] at h
  | t :: ts, d :: r, ht, n, h => by
    simp only [DataW.weightsEach, List.mem_append] at h
    simp only [Rows.uptoBulkAll, Nat.mul_add]
    rcases h with h | h
    · have := ht t (by simp) d n h; omega
    · have := wb_eachL ts r (fun t' h' => ht t' (by simp [h'])) n h; omega

theorem wb_lit {H : Type} {P : Program} {c : Nat} (hc : 1 ≤ c) {t : TypeId} {l : Lit} : ∀ n ∈ (DataW.lit (H := H) l).weights P t, n ≤ c * Rows.uptoBulk (DataW.lit (H := H) l) := by
  intro n h
  cases l <;> simp only [DataW.weights, List.mem_singleton, List.not_mem_nil] at h
  subst h
  simp only [Rows.uptoBulk]
  exact Nat.le_trans (Nat.le_succ _) (Nat.le_trans (by omega) (Nat.mul_le_mul_right _ hc))

theorem wb_leaf {P : Program} {c : Nat} (hc : 1 ≤ c) {t : TypeId} {u : TypeDesc} (hu : P.underlying t = some u)
    (h1 : ∀ e, u ≠ .pointer e) (h2 : ∀ e, u ≠ .slice e) (h3 : ∀ fs, u ≠ .struct fs) (h4 : ∀ n e, u ≠ .array n e) (h5 : ∀ k e, u ≠ .map k e) : Wb P c t := by
  intro H d n h
  cases d with
  | lit l => exact wb_lit hc n h
  | nil => simp [DataW.weights] at h
  | ptr d => simp only [DataW.weights, hu] at h; split at h <;> simp_all
  | slice a b => simp only [DataW.weights, hu] at h; split at h <;> simp_all
  | agg p => simp only [DataW.weights, hu] at h; split at h <;> simp_all
  | iface t d => simp [DataW.weights] at h
  | map e => simp only [DataW.weights, hu] at h; split at h <;> simp_all
  | held x => simp [DataW.weights] at h

theorem wb_struct {P : Program} {c : Nat} (hc : 1 ≤ c) {t : TypeId} {fs : Array Field} (hu : P.underlying t = some (.struct fs)) (hf : ∀ f ∈ fs.toList.map (·.type), Wb P c f) : Wb P c t := by
  intro H d n h
  cases d with
  | lit l => exact wb_lit hc n h
  | nil => simp [DataW.weights] at h
  | ptr d => simp [DataW.weights, hu] at h
  | slice a b => simp [DataW.weights, hu] at h
  | agg p =>
    simp only [DataW.weights, hu] at h
    have := wb_eachL _ _ hf n h
    simp only [Rows.uptoBulk, Nat.mul_add]; omega
  | iface t d => simp [DataW.weights] at h
  | map e => simp [DataW.weights, hu] at h
  | held x => simp [DataW.weights] at h

theorem wb_slice {P : Program} {c : Nat} (hc : 1 ≤ c) {t e : TypeId} (hu : P.underlying t = some (.slice e)) (hb : P.bytesOf e ≤ c) (he : Wb P c e) : Wb P c t := by
  intro H d n h
  cases d with
  | lit l => exact wb_lit hc n h
  | nil => simp [DataW.weights] at h
  | ptr d => simp [DataW.weights, hu] at h
  | slice a b =>
    simp only [DataW.weights, hu, List.mem_cons, List.mem_append] at h
    have h1 := bulks.length_le a
    have h2 := bulks.length_le b
    simp only [Rows.uptoBulk, Nat.mul_add]
    rcases h with rfl | h | h
    · have := Nat.mul_le_mul (show a.length + b.length ≤ Rows.uptoBulkAll a + Rows.uptoBulkAll b by omega) hb
      rw [Nat.mul_comm _ c, Nat.mul_add] at this; omega
    · have := wb_all he a n h; omega
    · have := wb_all he b n h; omega
  | agg p => simp [DataW.weights, hu] at h
  | iface t d => simp [DataW.weights] at h
  | map e => simp [DataW.weights, hu] at h
  | held x => simp [DataW.weights] at h

theorem wb_str : Wb Try.prog 64 9 := wb_leaf (by decide) Try.underlying9 (by simp) (by simp) (by simp) (by simp) (by simp)
theorem wb_int : Wb Try.prog 64 3 := wb_leaf (by decide) Try.underlying3 (by simp) (by simp) (by simp) (by simp) (by simp)
theorem wb_u8 : Wb Try.prog 64 5 := wb_leaf (by decide) Try.underlying5 (by simp) (by simp) (by simp) (by simp) (by simp)
theorem wb_Pr : Wb Try.prog 64 45 := wb_struct (by decide) Try.underlying45 (by intro f hf; simp at hf; rcases hf with rfl | rfl <;> exact wb_str)
theorem wb_Chg : Wb Try.prog 64 66 := wb_struct (by decide) Try.underlying66 (by intro f hf; simp at hf; rcases hf with rfl | rfl | rfl <;> first | exact wb_str | exact wb_int)
theorem wb_Prs : Wb Try.prog 64 28 := wb_slice (by decide) Try.underlying28 (of_decide_eq_true (by kernel_rfl)) wb_Pr
theorem wb_Chgs : Wb Try.prog 64 31 := wb_slice (by decide) Try.underlying31 (of_decide_eq_true (by kernel_rfl)) wb_Chg

theorem Wb.le {P : Program} {c c' : Nat} {t : TypeId} (h : Wb P c t) (hc : c ≤ c') : Wb P c' t := fun {H} d n hn => Nat.le_trans (h d n hn) (Nat.mul_le_mul_right _ hc)
theorem wb_Spn : Wb Try.prog 64 24 := wb_struct (by decide) Try.underlying24 (by intro f hf; simp at hf; rcases hf with rfl | rfl <;> exact wb_str)
theorem wt_bulkC {H : Type} {c K : Nat} (hK : c * 1048576 ≤ K) {t : TypeId} (hw : Wb Try.prog c t) {d : DataW H} {l : List (DataW H)} (hk : Rows.uptoSmall H l = true) (hd : d ∈ l) : Wt Try.prog K t d := by
  intro n hn
  have h1 := hw d n hn
  have h2 := bulks.part_le hd
  have h3 := bulks.bound hk
  exact Nat.le_trans h1 (Nat.le_trans (Nat.mul_le_mul_left c (Nat.le_trans h2 h3)) hK)
theorem wt_bulk {H : Type} {t : TypeId} (hw : Wb Try.prog 64 t) {d : DataW H} {l : List (DataW H)} (hk : Rows.uptoSmall H l = true) (hd : d ∈ l) : Wt Try.prog 67108864 t d := by
  intro n hn
  have h1 := hw d n hn
  have h2 := bulks.part_le hd
  have h3 := bulks.bound hk
  omega
end
section
open Go Go.Lx

theorem has_Ac {K : Nat} (hK : K < 140737488355328) {z : PV} (h : Sh.Has K (.st [.int .i64, .int .i64, .int .i64, .str, .st [.str, .str], .sl 40 (.st [.int .i64, .str, .str])]) z) : ∃ s : Ac, z = s.v ∧ s.ch.length * 40 ≤ K ∧ s.fit := by
  obtain ⟨cs, rfl, h0⟩ := has_st h
  obtain ⟨y0, c0, k0, e0, h1⟩ := has_cons h0
  obtain ⟨y1, c1, k1, e1, h2⟩ := has_cons h1
  obtain ⟨y2, c2, k2, e2, h3⟩ := has_cons h2
  obtain ⟨y3, c3, k3, e3, h4⟩ := has_cons h3
  obtain ⟨y4, c4, k4, e4, h5⟩ := has_cons h4
  obtain ⟨y5, c5, k5, e5, h6⟩ := has_cons h5
  obtain rfl := has_nil h6
  subst e5 e4 e3 e2 e1 e0
  obtain ⟨ds, rfl, g0⟩ := has_st k4
  obtain ⟨z0, d0, m0, f0, g1⟩ := has_cons g0
  obtain ⟨z1, d1, m1, f1, g2⟩ := has_cons g1
  obtain rfl := has_nil g2
  subst f1 f0
  obtain ⟨b0, rfl, _⟩ := has_str m0
  obtain ⟨b1, rfl, _⟩ := has_str m1
  obtain ⟨a0, rfl, p0, q0⟩ := has_int k0
  obtain ⟨a1, rfl, p1, q1⟩ := has_int k1
  obtain ⟨a2, rfl, p2, q2⟩ := has_int k2
  obtain ⟨a3, rfl, _⟩ := has_str k3
  obtain ⟨l, rfl, hl, hm⟩ := has_Chgs hK k5
  exact ⟨⟨a0, a1, a2, a3, b0, b1, l⟩, rfl, hl, by simp only; omega, hm⟩
theorem has_Acs {K : Nat} (hK : K < 140737488355328) {z : PV} (h : Sh.Has K (.sl 96 (.st [.int .i64, .int .i64, .int .i64, .str, .st [.str, .str], .sl 40 (.st [.int .i64, .str, .str])])) z) : ∃ l : List Ac, z = .sl (acP l) ∧ l.length * 96 ≤ K ∧ ∀ s ∈ l, s.ch.length * 40 ≤ K ∧ s.fit := has_sl h fun z hz => has_Ac hK hz
theorem wb_Ac : Wb Try.prog 96 56 := wb_struct (by decide) Try.underlying56 (by intro f hf; simp at hf; rcases hf with rfl | rfl | rfl | rfl | rfl | rfl <;> first | exact wb_int.le (by decide) | exact wb_str.le (by decide) | exact wb_Spn.le (by decide) | exact wb_Chgs.le (by decide))
theorem wb_Acs : Wb Try.prog 96 51 := wb_slice (by decide) Try.underlying51 (of_decide_eq_true (by kernel_rfl)) wb_Ac
end
end Go.Proofs.Ytdeolllpbflemaa
