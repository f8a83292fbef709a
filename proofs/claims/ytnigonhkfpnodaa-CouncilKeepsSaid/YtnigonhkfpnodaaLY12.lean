/- A calculus of logical values, code in pieces, what stands between them told by hand. No conditions. -/
import Derived.Test.YtnigonhkfpnodaaLEnv
set_option linter.unusedSimpArgs false
set_option linter.unusedVariables false
namespace Go.Lx
open Go
open Go.Sx (NP Keeps Hp Keep0 TI TEnv TOk FOk FnOk ArEq)

/-- How a piece may end: it goes on, the call returns, a block is left. -/
def pieceQ (nx ret : St → Prop) (ex : Nat → St → Prop) (e : Exit) (st : St) : Prop :=
  match e with
  | .normal => nx st
  | .ret => ret st
  | .exit id => ex id st
  | _ => False
def VcPiece (B : Base) (P : Program) (E : TEnv) (c : Code) (st : St) (Nx Rt : St → Prop) (Ex : Nat → St → Prop) : Prop :=
  ∀ add sub mul quo rem band bor bxor bclr shl shr ieq ilt ile seq slt beq bnot orb bcond iwrap iof ssz,
    ArEq add sub mul quo rem band bor bxor bclr shl shr ieq ilt ile seq slt beq bnot orb bcond iwrap iof ssz →
    ∀ cat sq sl imin imax smin smax len slen u8, LrEq cat sq sl imin imax smin smax len slen u8 →
    ∀ op, (∀ o X st k, OpEv B P o X st k → op o X st k) → ∀ call, (∀ f l X st k, CallEv B P f l X st k → call f l X st k) → ∀ code, (∀ c st Q, CodeEv B P c st Q → code c st Q) →
    ∀ nx : St → Prop, (∀ st, Nx st → nx st) → ∀ ret : St → Prop, (∀ st, Rt st → ret st) → ∀ ex : Nat → St → Prop, (∀ id st, Ex id st → ex id st) →
    vcC ⟨⟨⟨add, sub, mul, quo, rem, band, bor, bxor, bclr, shl, shr, ieq, ilt, ile, seq, slt, beq, bnot, orb, bcond, iwrap, iof, ssz⟩, cat, sq, sl, imin, imax, smin, smax, len, slen, u8⟩, op, call, code⟩ E c st (pieceQ nx ret ex)
abbrev PcEv (B : Base) (P : Program) (c : Code) (st : St) (Nx Rt : St → Prop) (Ex : Nat → St → Prop) : Prop := CodeEv B P c st (pieceQ Nx Rt Ex)
theorem VcPiece.ok {B : Base} {P : Program} {E : TEnv} (hE : TOk P E) (hF : FOk P E) {c : Code} {st : St} {Nx Rt : St → Prop} {Ex : Nat → St → Prop} (h : VcPiece B P E c st Nx Rt Ex) : PcEv B P c st Nx Rt Ex :=
  vc_ok hE hF _ _ _ (h _ _ _ _ _ _ _ _ _ _ _ _ _ _ _ _ _ _ _ _ _ _ _ ArEq.std _ _ _ _ _ _ _ _ _ _ LrEq.std _ (fun _ _ _ _ h => h) _ (fun _ _ _ _ _ h => h) _ (fun _ _ _ h => h) _ (fun _ h => h) _ (fun _ h => h) _ (fun _ _ h => h))
theorem PcEv.mono {B : Base} {P : Program} {c : Code} {st : St} {Nx Rt Nx' Rt' : St → Prop} {Ex Ex' : Nat → St → Prop} (h : PcEv B P c st Nx Rt Ex) (h1 : ∀ st, Nx st → Nx' st) (h2 : ∀ st, Rt st → Rt' st) (h3 : ∀ id st, Ex id st → Ex' id st) : PcEv B P c st Nx' Rt' Ex' := by
  intro E F a w hI
  refine wpA_mono (h E F a w hI) ?_
  rintro e a' w' ⟨st', E', F', hI', hq⟩
  refine ⟨st', E', F', hI', ?_⟩
  cases e with
  | normal => exact h1 _ hq
  | ret => exact h2 _ hq
  | exit id => exact h3 _ _ hq
  | goto l => exact hq
  | panic ch => exact hq
  | outgrown => exact hq
theorem OutX.cut {B : Base} {κ : Type} {n : Nat} {fr : κ → List (Nat × V)} {own : κ → List Res} {Iv : κ → Prop} {st : St} {E : Ev} {F : Nat → NP} {a : Act} {w : World} (hI : Inv B st E F a w) (h : OutX n B.own0.length fr own Iv st) : ∃ j, Iv j ∧ ∃ E' F', Inv B ⟨n, fr j, own j⟩ E' F' a w := by
  obtain ⟨j, exs, hjv, hn, hfr, hown, hf1, hf2, hpn⟩ := h
  have := hI.weaken (fr j) hfr.look
  obtain ⟨n2, f2, o2⟩ := st
  simp only at hown hn
  subst hown hn
  exact ⟨j, hjv, _, _, Inv.trim this hf1 hf2 hpn⟩
/-- What one way out hands on, seen otherwise. -/
def OutW (B : Base) {κ : Type} (n : Nat) (fr : κ → List (Nat × V)) (own : κ → List Res) (Iv : κ → Prop) (st : St) : Prop := ∃ st', ConvW B st st' ∧ OutX n B.own0.length fr own Iv st'
theorem ConvW.rfl' {B : Base} {st : St} : ConvW B st st := ⟨rfl, fun E F a w h => ⟨E, F, h⟩⟩
theorem OutX.w {B : Base} {κ : Type} {n : Nat} {fr : κ → List (Nat × V)} {own : κ → List Res} {Iv : κ → Prop} {st : St} (h : OutX n B.own0.length fr own Iv st) : OutW B n fr own Iv st := ⟨st, ConvW.rfl', h⟩
theorem OutX.wC {B : Base} {κ : Type} {n : Nat} {fr : κ → List (Nat × V)} {own : κ → List Res} {Iv : κ → Prop} {st st' : St} (hc : ConvW B st st') (h : OutX n B.own0.length fr own Iv st') : OutW B n fr own Iv st := ⟨st', hc, h⟩
theorem OutW.cut {B : Base} {κ : Type} {n : Nat} {fr : κ → List (Nat × V)} {own : κ → List Res} {Iv : κ → Prop} {st : St} {E : Ev} {F : Nat → NP} {a : Act} {w : World} (hI : Inv B st E F a w) (h : OutW B n fr own Iv st) : ∃ j, Iv j ∧ ∃ E' F', Inv B ⟨n, fr j, own j⟩ E' F' a w := by
  obtain ⟨st', hc, h⟩ := h
  obtain ⟨E', F', hI'⟩ := hc.2 E F a w hI
  exact OutX.cut hI' h
theorem PcEv.seq {B : Base} {P : Program} {x y : Code} {st : St} {Nx Rt : St → Prop} {Ex : Nat → St → Prop} {κ : Type} (fr : κ → List (Nat × V)) (own : κ → List Res) (Iv : κ → Prop)
    (hx : PcEv B P x st (OutW B st.n fr own Iv) Rt Ex) (hy : ∀ j, Iv j → PcEv B P y ⟨st.n, fr j, own j⟩ Nx Rt Ex) : PcEv B P (.seq x y) st Nx Rt Ex := by
  intro E F a w hI
  refine wpA_seq ?_
  refine wpA_mono (hx E F a w hI) ?_
  rintro e a' w' ⟨st', E', F', hI', hq⟩
  cases e with
  | normal =>
    obtain ⟨j, hj, E2, F2, hI2⟩ := OutW.cut hI' hq
    exact hy j hj E2 F2 a' w' hI2
  | exit id => exact ⟨st', E', F', hI', hq⟩
  | goto l => exact hq.elim
  | ret => exact ⟨st', E', F', hI', hq⟩
  | panic ch => exact hq.elim
  | outgrown => exact hq.elim
/-- Where a block is left, the code behind it goes on. -/
def exIn (id : Nat) (Nx : St → Prop) (Ex : Nat → St → Prop) (i : Nat) (st : St) : Prop :=
  match Nat.beq i id with
  | true => Nx st
  | false => Ex i st
theorem PcEv.block {B : Base} {P : Program} {id : Nat} {c : Code} {st : St} {Nx Rt : St → Prop} {Ex : Nat → St → Prop} (h : PcEv B P c st Nx Rt (exIn id Nx Ex)) : PcEv B P (.block id c) st Nx Rt Ex := by
  intro E F a w hI
  refine wpA_block ?_
  refine wpA_mono (h E F a w hI) ?_
  rintro e a' w' ⟨st', E', F', hI', hq⟩
  cases e with
  | normal => exact ⟨st', E', F', hI', hq⟩
  | exit i =>
    simp only [pieceQ, exIn] at hq
    show if i = id then _ else _
    split at hq
    · rename_i hb
      rw [if_pos (Nat.eq_of_beq_eq_true hb)]; exact ⟨st', E', F', hI', hq⟩
    · rename_i hb
      rw [if_neg (fun e => by simp [e] at hb)]; exact ⟨st', E', F', hI', hq⟩
  | goto l => exact hq.elim
  | ret => exact ⟨st', E', F', hI', hq⟩
  | panic ch => exact hq.elim
  | outgrown => exact hq.elim
theorem PcEv.cond {B : Base} {P : Program} {x : Operand} {t f : Code} {st : St} {Nx Rt : St → Prop} {Ex : Nat → St → Prop} {b : Bool} (hx : ev st.fr x = some (.p (.bool b))) (ht : b = true → PcEv B P t st Nx Rt Ex) (hf : b = false → PcEv B P f st Nx Rt Ex) : PcEv B P (.cond x t f) st Nx Rt Ex := by
  intro E F a w hI
  have hv := hI.ev hx
  generalize hc : a.eval x = v at hv
  cases hv with
  | p _ _ hd =>
    cases hd
    exact wpA_cond_split hc (fun h => ht h E F a w hI) (fun h => hf h E F a w hI)
/-- A round that goes on, seen otherwise. -/
def RoundW (B : Base) {ι : Type} (n : Nat) (fr : ι → List (Nat × V)) (own : ι → List Res) (Iv : ι → Prop) (μ : ι → Nat) (i : ι) (st : St) : Prop := OutW B n fr own (fun j => μ j < μ i ∧ Iv j) st
theorem CodeEv.loopP {B : Base} {P : Program} {st : St} {body : Code} {Q : Exit → St → Prop} {ι : Type} (fr : ι → List (Nat × V)) (own : ι → List Res) (Iv : ι → Prop) (μ : ι → Nat) (Rt : St → Prop) (Ex : Nat → St → Prop)
    (i0 : ι) (h0 : FrLe st.fr (fr i0) ∧ st.own = own i0 ∧ Iv i0) (round : ∀ i, Iv i → PcEv B P body ⟨st.n, fr i, own i⟩ (RoundW B st.n fr own Iv μ i) Rt Ex)
    (hr : ∀ st', Rt st' → Q .ret st') (he : ∀ id st', Ex id st' → Q (.exit id) st') : CodeEv B P (.loop body) st Q := by
  intro E0 F a w hI
  refine wpA_loop_ghost (fun n a' w' => ∃ i E' F', μ i = n ∧ Iv i ∧ Inv B ⟨st.n, fr i, own i⟩ E' F' a' w') (μ i0) ?_ ?_
  · refine ⟨i0, E0, F, rfl, h0.2.2, ?_⟩
    have := hI.weaken (fr i0) h0.1.look
    obtain ⟨n, f, o⟩ := st
    have ho : o = own i0 := h0.2.1
    rw [← ho]; exact this
  · rintro n a' w' ⟨i, E', F', rfl, hiv, hI'⟩
    refine wpA_mono (round i hiv E' F' a' w' hI') ?_
    rintro e a2 w2 ⟨st2, E2, F2, hI2, hq⟩
    cases e with
    | normal =>
      obtain ⟨j, ⟨hlt, hj⟩, E3, F3, hI3⟩ := OutW.cut hI2 hq
      exact ⟨μ j, hlt, j, E3, F3, rfl, hj, hI3⟩
    | exit id => exact ⟨st2, E2, F2, hI2, he _ _ hq⟩
    | goto l => exact hq.elim
    | ret => exact ⟨st2, E2, F2, hI2, hr _ hq⟩
    | panic ch => exact hq.elim
    | outgrown => exact hq.elim
/-- A function's contract out of its pieces. -/
theorem fn_of_pieces {P : Program} {f : FuncId} {fn : Func} {c : Code} (hfn : FnOk P f) (hf : P.funcs[f]? = some fn) (hb : fn.body = some c) {n : Nat} (hn : fn.ntmps = n)
    {args : List V} (hl : Nat.ble args.length n = true) {own : List Res} {R : V → List Res → Prop}
    (h : ∀ B : Base, B.own0 = own → PcEv B P c ⟨n, zipArgs 0 args, own⟩ (fun st => RetEv B P fn st R) (fun st => RetEv B P fn st R) (fun _ _ => False)) : FnL P f args own R := by
  refine ⟨hfn, fun H E0 Fs vals hM hO hFM hargs => ?_⟩
  subst hn
  have hI := Inv.start false hM hO hFM hargs (Nat.le_of_ble_eq_true hl)
  refine (callsIn_wide (n := 9)).1 (callsIn_of_wp_marks hf hb trivial (wpIn_mono (h (baseL false H own E0 Fs) rfl E0 Fs _ H.w hI) ?_))
  rintro e a' w' ⟨st1, E1, F1, hI1, hq⟩
  have fin : RetEv (baseL false H own E0 Fs) P fn st1 R → LeavesInM Fence.wide 9 P fn a'.tmps (FnEnd H own E0 Fs R) a'.defers .returning w' := by
    intro hr
    obtain ⟨ms, h1, h0, h2, h3⟩ := hI1.defers
    have h4 : a'.defers = [] := by rw [h1, h0 rfl]; rfl
    obtain ⟨t1, d1⟩ := a'
    simp only at h4
    subst h4
    obtain ⟨x, g1, st2, E2, F2, v, hI3, g2, g3⟩ := hr E1 F1 _ w' hI1
    exact ⟨x, g1, hI3.fnEnd g2 g3⟩
  cases e with
  | normal => exact fin hq
  | ret => exact fin hq
  | exit id => exact hq.elim
  | goto l => exact hq.elim
  | panic ch => exact hq.elim
  | outgrown => exact hq.elim
end Go.Lx
