/- LPr1, LPr2, LPi1, LPr3 together. Conditions: on sizes. -/
import Derived.Test.YtegkojnngdlfaaaGreatLCh1
import Derived.Test.YtegkojnngdlfaaaGreatLOnm
set_option maxRecDepth 100000
set_option maxHeartbeats 16000000
set_option linter.unusedSimpArgs false
set_option linter.unusedVariables false
section
namespace Go.Proofs.YtegkojnngdlfaaaGreat
open Go Go.Lx
open Go.Sx (vcIf)
structure Bt where
  prev : Int
  ver : Int
  known : Int
  ch : List Chg
def Bt.v (b : Bt) : PV := .agg [.int .i64 b.prev, .int .i64 b.ver, .int .i64 b.known, .sl (cP b.ch)]
theorem Bt.wf (b : Bt) : b.v.wf 4 := ⟨rfl, fun u hu => by simp [Bt.v, PV.cells] at hu; rcases hu with rfl | rfl | rfl | rfl <;> rfl⟩
def Bt.fit (b : Bt) : Prop := (∀ c ∈ b.ch, c.fit) ∧ b.ch.length < 9223372036854775807 ∧ -9223372036854775808 ≤ b.ver ∧ b.ver ≤ 9223372036854775807
end Go.Proofs.YtegkojnngdlfaaaGreat
end
section
namespace Go.Proofs.YtegkojnngdlfaaaGreat
open Go Go.Lx
open Go.Sx (vcIf)
def ones (ps : List Pr) (cs : List Chg) : List Pr := cs.foldl one ps
theorem ones_next (ps : List Pr) {cs : List Chg} {k : Nat} {c : Chg} (h : cs[k]? = some c) : ones ps (cs.take (k + 1)) = one (ones ps (cs.take k)) c := by
  unfold ones; rw [List.take_add_one, h, List.foldl_append]; rfl
theorem ones_srt {ps : List Pr} (h : Srt ps) : ∀ cs, Srt (ones ps cs)
  | [] => h
  | c :: r => ones_srt (one_ok c ps h).1 r
theorem ones_len {ps : List Pr} (h : Srt ps) : ∀ cs, (ones ps cs).length ≤ ps.length + cs.length
  | [] => Nat.le_refl _
  | c :: r => by
    have h1 := ones_len (one_ok c ps h).1 r
    have h2 := one_len_le ps h c
    have e : ones ps (c :: r) = ones (one ps c) r := rfl
    rw [e, List.length_cons]; omega
theorem chks_kind : ∀ {cs : List Chg}, chks cs = 0 → ∀ c ∈ cs, c.kind = 1 ∨ c.kind = 2 ∨ c.kind = 3
  | c :: r, h, d, hd => by
    unfold chks at h
    split at h
    · rename_i h1; exact absurd h h1
    · rename_i h1
      rcases List.mem_cons.1 hd with e | e
      · subst e
        have h1 : chk d = 0 := by omega
        unfold chk at h1
        split at h1
        · exact .inr (.inr (by assumption))
        · split at h1
          · exact .inr (.inl (by assumption))
          · split at h1
            · exact .inl (by assumption)
            · cases h1
      · exact chks_kind h d e
theorem RowP.nil : RowP [] 0 0 [] := ⟨rfl, rfl, Nat.le_refl _, (fun x hx => by cases hx), rfl⟩
end Go.Proofs.YtegkojnngdlfaaaGreat
end
section
namespace Go.Proofs.YtegkojnngdlfaaaGreat
open Go Go.Lx
open Go.Sx (vcIf)
end Go.Proofs.YtegkojnngdlfaaaGreat
end
section
namespace Go.Lx
end Go.Lx
namespace Go.Proofs.YtegkojnngdlfaaaGreat
open Go Go.Lx
open Go.Sx (vcIf)
theorem prP_wf (ps : List Pr) : Wf 2 (prP ps) := fun x hx => by
  obtain ⟨p, _, rfl⟩ := List.mem_map.1 hx; exact p.wf
theorem prP_append (a b : List Pr) : prP (a ++ b) = prP a ++ prP b := List.map_append
theorem clonePr_spec (ps : List Pr) (hn : ps.length * 32 ≤ 140737488355328) (zs : List PV) (hzs : zs = prP ps) :
    FnL Tryz.prog 30 [.p (.sl zs)] [] fun v own => ∃ K n xs, v = .vw 0 2 0 n (some K) ∧ own = [.arr 84 2 xs] ∧ RowP xs K n ps := by
  have hzl : zs.length = ps.length := by rw [hzs, prP_length]
  have hw : Wf 2 zs := by rw [hzs]; exact prP_wf ps
  have hps0 : zs = [] → ps = [] := fun h => by rw [h] at hzl; exact List.length_eq_zero_iff.1 hzl.symm
  obtain ⟨N, hN⟩ : ∃ N, N = ps.length := ⟨_, rfl⟩
  rw [← hN] at hzl hn
  refine fn_of_vc eOk fOk fo30 Tryz.func30 rfl rfl rfl fun B hB => ?_
  intro _ _ _ _ _ _ _ _ _ _ _ _ _ _ _ _ _ _ _ _ _ _ _ _ _ _ sl _ _ _ _ _ _ _ _ _ hop _ _ _ _ ret hret
  cbv
  intro b hb
  cbv
  cases b with
  | true =>
    have h0 := hps0 (hb rfl)
    cbv
    refine hret _ (RetEv.convW (Conv.hollowK 2 84 2 (by decide) (.inl rfl)).weak (RetEv.ret eOk rfl ⟨0, 0, [], rfl, rfl, ?_⟩))
    rw [h0]; exact RowP.nil
  | false =>
    cbv
    refine ⟨.room, ?_⟩
    cbv
    by_cases h0 : N = 0
    · refine hop _ _ _ _ (OpEv.appendIn eOk (ys := zs) rfl rfl rfl rfl rfl rfl rfl rfl rfl rfl rfl hw (by show 0 + 0 + zs.length ≤ 0; omega) (Nat.zero_le _) fun m ws hm hws => ?_)
      have hz0 := List.length_eq_zero_iff.1 (show zs.length = 0 by omega)
      have hp0 := hps0 hz0
      cbv
      refine hret _ (RetEv.ret eOk rfl ⟨0, m, ws, rfl, rfl, ?_⟩)
      rw [hp0, hws, hm, hz0]; exact RowP.nil
    · refine hop _ _ _ _ (OpEv.appendFull eOk (ys := zs) rfl rfl rfl rfl rfl rfl rfl rfl rfl rfl rfl rfl rfl (Pr.wf ⟨[], []⟩) (by decide) hw (by omega) (by unfold maxLen; omega) ?_ fun K' m ws hm hK1 hK2 hws => ?_)
      · show (0 + zs.length) * 32 ≤ _
        omega
      have hmN : m = N := by omega
      cbv
      have hws2 : ws = zs ++ List.replicate (K' - m) (Pr.v ⟨[], []⟩) := hws
      refine hret _ (RetEv.convW (ConvW.pack [1] hB rfl) (RetEv.ret eOk rfl ⟨K', m, ws, rfl, rfl, ?_, ?_, hK1, ?_, ?_⟩))
      · rw [hws2]; simp; omega
      · omega
      · rw [hws2]; exact Wf.append hw fun x hx => by rw [List.eq_of_mem_replicate hx]; exact Pr.wf _
      · rw [hws2, List.take_append_of_le_length (by omega), List.take_of_length_le (by omega), hzs]
def DelSt (xs0 xs : List PV) (K : Nat) (ps : List Pr) (p : Pr → Bool) (i j : Nat) : Prop :=
  xs.length = K ∧ Wf 2 xs ∧ i = ((ps.take j).filter fun a => !(p a)).length ∧ xs.take i = prP ((ps.take j).filter fun a => !(p a)) ∧ ∀ q, j ≤ q → xs[q]? = xs0[q]?
theorem filter_take_le (ps : List Pr) (f : Pr → Bool) (j : Nat) : ((ps.take j).filter f).length ≤ j := by
  have h1 := List.length_filter_le f (ps.take j)
  have h2 : (ps.take j).length ≤ j := by rw [List.length_take]; exact Nat.min_le_left _ _
  omega
theorem DelSt.le {xs0 xs : List PV} {K i j : Nat} {ps : List Pr} {p : Pr → Bool} (h : DelSt xs0 xs K ps p i j) : i ≤ j := by rw [h.2.2.1]; exact filter_take_le _ _ _
theorem DelSt.keep {xs0 xs ws : List PV} {K i j : Nat} {ps : List Pr} {p : Pr → Bool} {a : Pr} (h : DelSt xs0 xs K ps p i j) (ha : ps[j]? = some a) (hp : p a = false) (hK : j < K) (hws : ws = xs.set i a.v) : DelSt xs0 ws K ps p (i + 1) (j + 1) := by
  have hle := h.le
  obtain ⟨h1, h2, h3, h4, h5⟩ := h
  have ht : (ps.take (j + 1)).filter (fun a => !(p a)) = (ps.take j).filter (fun a => !(p a)) ++ [a] := by
    rw [List.take_add_one, ha, List.filter_append]; simp [hp]
  refine ⟨by rw [hws, List.length_set, h1], ?_, by rw [ht, List.length_append, ← h3]; rfl, ?_, fun q hq => ?_⟩
  · rw [hws]; intro x hxm
    rcases List.mem_or_eq_of_mem_set hxm with c | c
    · exact h2 x c
    · rw [c]; exact a.wf
  · rw [ht, prP_append, hws, List.take_add_one, List.take_set_of_le (by omega), h4, List.getElem?_set_self (by omega)]; rfl
  · rw [hws, List.getElem?_set_ne (by omega)]; exact h5 q (by omega)
theorem DelSt.first {xs0 : List PV} {K n i : Nat} {ps : List Pr} {p : Pr → Bool} {a : Pr} (hx : RowP xs0 K n ps) (ha : ps[i]? = some a) (hp : p a = true) (hlt : ∀ j, j < i → ∀ b, ps[j]? = some b → p b = false) : DelSt xs0 xs0 K ps p i (i + 1) := by
  have hil := (List.getElem?_eq_some_iff.1 ha).1
  have ht0 : (ps.take i).filter (fun a => !(p a)) = ps.take i := List.filter_eq_self.2 fun b hb => by
    obtain ⟨q, hq⟩ := List.mem_iff_getElem?.1 hb
    rw [List.getElem?_take] at hq
    split at hq
    · rw [hlt q (by assumption) b hq]; rfl
    · cases hq
  have ht : (ps.take (i + 1)).filter (fun a => !(p a)) = ps.take i := by
    rw [List.take_add_one, ha, List.filter_append, ht0]; simp [hp]
  have h2 := hx.2.1
  exact ⟨hx.1, hx.2.2.2.1, by rw [ht, List.length_take]; omega, by rw [ht]; exact hx.tk i (by omega), fun q _ => rfl⟩
end Go.Proofs.YtegkojnngdlfaaaGreat
end
