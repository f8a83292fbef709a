/- Its awake, ProofAt and ProofReads. Conditions: on sizes. -/
import Derived.Test.YtdoikpagilmplaaLPr7
set_option maxRecDepth 100000
set_option maxHeartbeats 16000000
set_option linter.unusedSimpArgs false
set_option linter.unusedVariables false
namespace Go.Lx
open Go
theorem PW.sl1 {cs ds : List PV} (h : PWL cs ds) (hd : ∀ u ∈ ds, u.one = true) : PW (.sl [.agg cs]) (.sl [.agg ds]) := fun H v hh => by
  obtain ⟨hl, hg⟩ := h.get
  have e1 : flat [PV.agg cs] = cs := by simp [flat, PV.cells]
  have e2 : flat [PV.agg ds] = ds := by simp [flat, PV.cells]
  cases hh with
  | sl _ b off sz c val hw hc hs hd2 =>
    rw [e1] at hd2
    obtain ⟨s1, s2, c', T, fz, s3, s4⟩ := hs
    rw [e1] at s4
    refine PV.Den.sl [.agg ds] b off sz c val (fun x hx => ?_) hc ⟨s1, s2, c', T, fz, s3, fun j u hu => ?_⟩ fun j u hu => ?_
    · obtain rfl := List.mem_singleton.1 hx
      exact ⟨by have := (hw _ (List.mem_singleton.2 rfl)).1; show ds.length = sz; rw [← hl]; exact this, hd⟩
    · rw [e2] at hu
      obtain ⟨x, hx, _⟩ := hg j u hu
      exact s4 j x hx
    · rw [e2] at hu
      obtain ⟨x, hx, hw2⟩ := hg j u hu
      exact hw2 _ _ (hd2 j x hx)
end Go.Lx
namespace Go.Proofs.Ytdoikpagilmplaa
open Go Go.Lx
open Go.Sx (vcIf)

theorem fnW2 {f : FuncId} {a x y : PV} {own : List Res} {R : V → List Res → Prop} (h : FnL Try.prog f [.p a, .p y] own R) (hw : PW x y) : FnL Try.prog f [.p a, .p x] own R :=
  ⟨h.1, fun H E Fs vals h1 h2 h3 h4 => h.2 H E Fs vals h1 h2 h3 ⟨h4.1, fun i c v hc hv => by
    cases i with
    | zero => exact h4.2 0 c v hc hv
    | succ i => cases i with
      | zero =>
        simp at hc; subst hc
        have := h4.2 1 (.p x) v rfl hv
        cases this with
        | p _ _ hd => exact .p _ _ (hw _ _ hd)
      | succ i => simp at hc⟩⟩
def aL : List Bt := [⟨0, 5, 0, [⟨1, [97], [49]⟩]⟩]
def aD : List Dd := [⟨0, 0, 0, 5, 0, 0, [⟨[], [98], 0, []⟩], []⟩]
theorem aL_snd : lsnd aL := fun j hj b hb => by
  have : j = 0 := by have : aL.length = 1 := rfl; omega
  subst this
  obtain rfl := Option.some.inj hb
  exact ⟨by decide, by decide, fun a h => absurd h (Nat.lt_irrefl 0)⟩
theorem aL_at : atP aL 5 = [⟨[97], [49]⟩] := by rfl
theorem aL_fit : ∀ b ∈ aL, b.fit := fun b hb => by
  obtain rfl := List.mem_singleton.1 hb
  refine ⟨fun c hc => ?_, by decide, by decide, by decide⟩
  obtain rfl := List.mem_singleton.1 hc
  exact ⟨by decide, by decide, by decide, by decide⟩
theorem aD_fit : ∀ d ∈ aD, d.fit := fun b hb => by
  obtain rfl := List.mem_singleton.1 hb
  refine ⟨by decide, fun c hc => ?_, by decide, fun c hc => (by cases hc)⟩
  obtain rfl := List.mem_singleton.1 hc
  exact ⟨by decide, by decide, by decide⟩
theorem aD_bad : rbad aL aD 0 := by
  refine (rbad_iff (l := aL) (ds := aD) (i := 0) rfl).2 fun h => ?_
  have := (h 0 ⟨[], [98], 0, []⟩ rfl).2.2.2
  revert this
  show ¬ List.filter _ (ones (atP aL 5) []) = []
  rw [aL_at]; decide
theorem awake22_spec : FnL Try.prog 13 [] [] fun z own => z = .p (.bool true) ∧ own = [] := by
  have h1 := at_spec aL 5 1 (fun b hb => by obtain rfl := List.mem_singleton.1 hb; decide) (by decide) (by decide) aL_fit (btP aL) rfl
  have h2 := reads_spec aL 1 0 (fun b hb => by obtain rfl := List.mem_singleton.1 hb; decide) (by decide) aL_fit aD (fun d hd => by obtain rfl := List.mem_singleton.1 hd; decide) (by decide) (by decide) aD_fit (btP aL) (ddP aD) rfl rfl
  have h3 : ∀ n e : Int, ((lsnd aL ∧ e = 0 ∧ isFst (rbad aL aD) aD.length n) ∨ (¬ lsnd aL ∧ e = 2 ∧ n = 0)) → n = 0 ∧ e = 0 := fun n e h => by
    rcases h with c | c
    · exact ⟨c.2.2.uniq (isFst.at (i := 0) (by decide) aD_bad fun j hj => absurd hj (Nat.not_lt_zero j)), c.2.1⟩
    · exact absurd aL_snd c.1
  rw [aL_at] at h1
  have h2 := fnW2 (x := .sl [.agg [.int .i64 0, .int .i64 0, .int .i64 0, .int .i64 5, .int .i64 0, .int .i64 0, .sl [.agg [.str [], .str [98], .int .i64 0, .nils]], .nils]]) h2 (PW.sl1 ⟨.refl _, .refl _, .refl _, .refl _, .refl _, .refl _, PW.sl1 ⟨.refl _, .refl _, .refl _, .nils, trivial⟩ (by intro u hu; simp at hu; rcases hu with rfl | rfl | rfl | rfl <;> rfl), .nils, trivial⟩ (by intro u hu; simp at hu; rcases hu with rfl | rfl | rfl | rfl | rfl | rfl | rfl | rfl <;> rfl))
  refine FnL.flat (R := fun z own => z = .p (.bool true)) ?_ (fun v own' h => ⟨_, _, h, .refl _, rfl, rfl⟩)
  refine fn_of_vc eOk fOk fo13 Try.func13 rfl rfl rfl fun B hB => ?_
  intro add sub mul quo rem band bor bxor bclr shl shr ieq ilt ile seq slt beq bnot orb bcond iwrap iof ssz hA cat sq sl imin imax smin smax len slen u8 hL op hop call hcall code hcode ret hret
  cbv
  refine ⟨false, ?_⟩
  cbv
  refine ⟨false, ?_⟩
  cbv
  refine hcall _ _ _ _ _ (CallEv.same h1 rfl ?_)
  refine fun v own' hv => ?_
  obtain ⟨hv, rfl⟩ := hv
  obtain rfl : v = .p (.tup [.sl [.agg [.str [97], .str [49]]], .int .i64 0]) := by
    rcases hv with c | c
    · exact c.2
    · exact absurd aL_snd c.1
  cbv
  refine ⟨false, ?_⟩
  cbv
  refine ⟨false, ?_⟩
  cbv
  refine hcall _ _ _ _ _ (CallEv.same h2 rfl ?_)
  rintro _ _ ⟨n, e, hne, rfl, rfl⟩
  obtain ⟨rfl, rfl⟩ := h3 n e hne
  cbv
  repeat (first | (refine vcIf.yes ?_ ?_; (focus (simp [hA.not, hA.eq, hA.lt, hA.le, hA.cond, hA.beq, hA.orb, hL.len, hL.slen, hL.sq]; done)); cbv) | (refine vcIf.no ?_ ?_; (focus (simp [hA.not, hA.eq, hA.lt, hA.le, hA.cond, hA.beq, hA.orb, hL.len, hL.slen, hL.sq]; done)); cbv) | fail)
  exact hret _ (RetEv.ret eOk rfl (by simp [hA.not, hA.eq, hA.lt, hA.le, hA.cond, hA.beq, hA.orb, hL.len, hL.slen, hL.sq, oneOf]))

theorem proofAt (l : List Bt) (M : Nat) (hM : ∀ b ∈ l, b.ch.length ≤ M) (hsz : (l.length * M + 1) * 32 ≤ 140737488355328) (hl : l.length < 281474976710656) (hf : ∀ b ∈ l, b.fit) (v : Int) :
    FnL Try.prog 3 [.p (.sl (btP l)), .p (.int .i64 v)] [] fun z own => z = .p (.bool true) ∧ own = [] := by
  refine FnL.flat (R := fun z own => z = .p (.bool true)) ?_ (fun v own' h => ⟨_, _, h, .refl _, rfl, rfl⟩)
  obtain ⟨zs, hzs⟩ : ∃ zs, zs = btP l := ⟨_, rfl⟩
  have h1 := at_spec l v M hM hsz hl hf zs hzs
  have h2 := rsnd22_spec l hl hf zs hzs
  have hlen : (atP l v).length < 281474976710656 := by
    have h1 := atP_len hM v
    have h2 : l.length * M + 1 ≤ 4398046511104 := by
      generalize l.length * M = q at *
      omega
    exact Nat.lt_of_le_of_lt h1 (Nat.lt_of_lt_of_le (Nat.lt_succ_self _) (Nat.le_trans h2 (by decide)))
  obtain ⟨ps, hps⟩ : ∃ ps, ps = prP (atP l v) := ⟨_, rfl⟩
  have h3 := fun hs => rAt_spec l hs v M hM hsz hl hf zs hzs
  have h4 := rPairs_spec (atP l v) (atP l v) hlen hlen true ⟨fun _ => rfl, fun _ => rfl⟩ ps ps hps hps
  rw [← hps] at h1 h3
  rw [← hzs]
  by_cases hs : lsnd l
  · have h3 := h3 hs
    refine fn_of_vc eOk fOk fo3 Try.func3 rfl rfl rfl fun B hB => ?_
    intro add sub mul quo rem band bor bxor bclr shl shr ieq ilt ile seq slt beq bnot orb bcond iwrap iof ssz hA cat sq sl imin imax smin smax len slen u8 hL op hop call hcall code hcode ret hret
    cbv
    refine hcall _ _ _ _ _ (CallEv.same h1 rfl ?_)
    refine fun u own' hv => ?_
    obtain ⟨hv, rfl⟩ := hv
    obtain rfl : u = .p (.tup [.sl ps, .int .i64 0]) := by
      rcases hv with c | c
      · exact c.2
      · exact absurd hs c.1
    cbv
    refine hcall _ _ _ _ _ (CallEv.same h2 rfl ?_)
    rintro _ _ ⟨R, hR, rfl, rfl⟩
    obtain rfl : R = true := hR.2 hs
    cbv
    refine vcIf.no (by first | (simp [hA.not, hA.eq, hA.lt, hA.le, hA.cond, hA.beq, hA.orb, hL.len, hL.slen, hL.sq]; done) | (simp [hA.not, hA.eq, hA.lt, hA.le, hA.cond, hA.beq, hA.orb, hL.len, hL.slen, hL.sq]; omega)) ?_
    cbv
    refine hcall _ _ _ _ _ (CallEv.same awake22_spec rfl ?_)
    rintro _ _ ⟨rfl, rfl⟩
    cbv
    repeat (first | (refine vcIf.yes ?_ ?_; (focus (simp [hA.not, hA.eq, hA.lt, hA.le, hA.cond, hA.beq, hA.orb, hL.len, hL.slen, hL.sq]; done)); cbv) | (refine vcIf.no ?_ ?_; (focus (simp [hA.not, hA.eq, hA.lt, hA.le, hA.cond, hA.beq, hA.orb, hL.len, hL.slen, hL.sq]; done)); cbv) | fail)
    refine hcall _ _ _ _ _ (CallEv.same h3 rfl ?_)
    rintro _ _ ⟨rfl, rfl⟩
    cbv
    refine hcall _ _ _ _ _ (CallEv.same h4 rfl ?_)
    rintro _ _ ⟨rfl, rfl⟩
    cbv
    exact hret _ (RetEv.ret eOk rfl (by simp [hA.not, hA.eq, hA.lt, hA.le, hA.cond, hA.beq, hA.orb, hL.len, hL.slen, hL.sq, oneOf]))
  · refine fn_of_vc eOk fOk fo3 Try.func3 rfl rfl rfl fun B hB => ?_
    intro add sub mul quo rem band bor bxor bclr shl shr ieq ilt ile seq slt beq bnot orb bcond iwrap iof ssz hA cat sq sl imin imax smin smax len slen u8 hL op hop call hcall code hcode ret hret
    cbv
    refine hcall _ _ _ _ _ (CallEv.same h1 rfl ?_)
    refine fun u own' hv => ?_
    obtain ⟨hv, rfl⟩ := hv
    obtain rfl : u = .p (.tup [.nils, .int .i64 2]) := by
      rcases hv with c | c
      · exact absurd c.1 hs
      · exact c.2
    cbv
    refine hcall _ _ _ _ _ (CallEv.same h2 rfl ?_)
    rintro _ _ ⟨R, hR, rfl, rfl⟩
    obtain rfl : R = false := Bool.eq_false_iff.2 fun c => hs (hR.1 c)
    cbv
    refine vcIf.yes (by first | (simp [hA.not, hA.eq, hA.lt, hA.le, hA.cond, hA.beq, hA.orb, hL.len, hL.slen, hL.sq]; done) | (simp [hA.not, hA.eq, hA.lt, hA.le, hA.cond, hA.beq, hA.orb, hL.len, hL.slen, hL.sq]; omega)) ?_
    cbv
    refine hcall _ _ _ _ _ (CallEv.same awake22_spec rfl ?_)
    rintro _ _ ⟨rfl, rfl⟩
    cbv
    repeat (first | (refine vcIf.yes ?_ ?_; (focus (simp [hA.not, hA.eq, hA.lt, hA.le, hA.cond, hA.beq, hA.orb, hL.len, hL.slen, hL.sq]; done)); cbv) | (refine vcIf.no ?_ ?_; (focus (simp [hA.not, hA.eq, hA.lt, hA.le, hA.cond, hA.beq, hA.orb, hL.len, hL.slen, hL.sq]; done)); cbv) | fail)
    exact hret _ (RetEv.ret eOk rfl (by simp [hA.not, hA.eq, hA.lt, hA.le, hA.cond, hA.beq, hA.orb, hL.len, hL.slen, hL.sq, oneOf]))

theorem proofReads (l : List Bt) (M D : Nat) (hM : ∀ b ∈ l, b.ch.length ≤ M) (hl : l.length < 281474976710656) (hf : ∀ b ∈ l, b.fit) (ds : List Dd) (hD : ∀ d ∈ ds, d.ch.length ≤ D) (hsz : (l.length * M + D + 1) * 32 ≤ 140737488355328) (hdl : ds.length < 281474976710656) (hdf : ∀ d ∈ ds, d.fit) :
    FnL Try.prog 4 [.p (.sl (btP l)), .p (.sl (ddP ds))] [] fun z own => z = .p (.bool true) ∧ own = [] := by
  refine FnL.flat (R := fun z own => z = .p (.bool true)) ?_ (fun v own' h => ⟨_, _, h, .refl _, rfl, rfl⟩)
  obtain ⟨zs, hzs⟩ : ∃ zs, zs = btP l := ⟨_, rfl⟩
  obtain ⟨ys, hys⟩ : ∃ ys, ys = ddP ds := ⟨_, rfl⟩
  have h1 := reads_spec l M D hM hl hf ds hD hsz hdl hdf zs ys hzs hys
  have h2 := rsnd22_spec l hl hf zs hzs
  have h3 := fun hs => rreads_spec l hs M D hM hl hf ds hD hsz hdl hdf zs ys hzs hys
  rw [← hzs, ← hys]
  by_cases hs : lsnd l
  · have h3 := h3 hs
    refine fn_of_vc eOk fOk fo4 Try.func4 rfl rfl rfl fun B hB => ?_
    intro add sub mul quo rem band bor bxor bclr shl shr ieq ilt ile seq slt beq bnot orb bcond iwrap iof ssz hA cat sq sl imin imax smin smax len slen u8 hL op hop call hcall code hcode ret hret
    cbv
    refine hcall _ _ _ _ _ (CallEv.same h1 rfl ?_)
    rintro _ _ ⟨n, e, hne, rfl, rfl⟩
    obtain ⟨he, hn⟩ : e = 0 ∧ isFst (rbad l ds) ds.length n := by
      rcases hne with c | c
      · exact c.2
      · exact absurd hs c.1
    subst he
    cbv
    refine hcall _ _ _ _ _ (CallEv.same h2 rfl ?_)
    rintro _ _ ⟨R, hR, rfl, rfl⟩
    obtain rfl : R = true := hR.2 hs
    cbv
    refine vcIf.no (by first | (simp [hA.not, hA.eq, hA.lt, hA.le, hA.cond, hA.beq, hA.orb, hL.len, hL.slen, hL.sq]; done) | (simp [hA.not, hA.eq, hA.lt, hA.le, hA.cond, hA.beq, hA.orb, hL.len, hL.slen, hL.sq]; omega)) ?_
    cbv
    refine hcall _ _ _ _ _ (CallEv.same awake22_spec rfl ?_)
    rintro _ _ ⟨rfl, rfl⟩
    cbv
    repeat (first | (refine vcIf.yes ?_ ?_; (focus (simp [hA.not, hA.eq, hA.lt, hA.le, hA.cond, hA.beq, hA.orb, hL.len, hL.slen, hL.sq]; done)); cbv) | (refine vcIf.no ?_ ?_; (focus (simp [hA.not, hA.eq, hA.lt, hA.le, hA.cond, hA.beq, hA.orb, hL.len, hL.slen, hL.sq]; done)); cbv) | fail)
    refine hcall _ _ _ _ _ (CallEv.same h3 rfl ?_)
    rintro _ _ ⟨m, hm, rfl, rfl⟩
    obtain rfl := hn.uniq hm
    cbv
    exact hret _ (RetEv.ret eOk rfl (by simp [hA.not, hA.eq, hA.lt, hA.le, hA.cond, hA.beq, hA.orb, hL.len, hL.slen, hL.sq, oneOf]))
  · refine fn_of_vc eOk fOk fo4 Try.func4 rfl rfl rfl fun B hB => ?_
    intro add sub mul quo rem band bor bxor bclr shl shr ieq ilt ile seq slt beq bnot orb bcond iwrap iof ssz hA cat sq sl imin imax smin smax len slen u8 hL op hop call hcall code hcode ret hret
    cbv
    refine hcall _ _ _ _ _ (CallEv.same h1 rfl ?_)
    rintro _ _ ⟨n, e, hne, rfl, rfl⟩
    obtain ⟨he, hn⟩ : e = 2 ∧ n = 0 := by
      rcases hne with c | c
      · exact absurd c.1 hs
      · exact c.2
    subst he hn
    cbv
    refine hcall _ _ _ _ _ (CallEv.same h2 rfl ?_)
    rintro _ _ ⟨R, hR, rfl, rfl⟩
    obtain rfl : R = false := Bool.eq_false_iff.2 fun c => hs (hR.1 c)
    cbv
    refine vcIf.yes (by first | (simp [hA.not, hA.eq, hA.lt, hA.le, hA.cond, hA.beq, hA.orb, hL.len, hL.slen, hL.sq]; done) | (simp [hA.not, hA.eq, hA.lt, hA.le, hA.cond, hA.beq, hA.orb, hL.len, hL.slen, hL.sq]; omega)) ?_
    cbv
    refine hcall _ _ _ _ _ (CallEv.same awake22_spec rfl ?_)
    rintro _ _ ⟨rfl, rfl⟩
    cbv
    repeat (first | (refine vcIf.yes ?_ ?_; (focus (simp [hA.not, hA.eq, hA.lt, hA.le, hA.cond, hA.beq, hA.orb, hL.len, hL.slen, hL.sq]; done)); cbv) | (refine vcIf.no ?_ ?_; (focus (simp [hA.not, hA.eq, hA.lt, hA.le, hA.cond, hA.beq, hA.orb, hL.len, hL.slen, hL.sq]; done)); cbv) | fail)
    exact hret _ (RetEv.ret eOk rfl (by simp [hA.not, hA.eq, hA.lt, hA.le, hA.cond, hA.beq, hA.orb, hL.len, hL.slen, hL.sq, oneOf]))
end Go.Proofs.Ytdoikpagilmplaa
