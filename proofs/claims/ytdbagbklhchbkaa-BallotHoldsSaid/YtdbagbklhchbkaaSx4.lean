/- A calculus for walks, part 4: code read with symbolic frames; what it says of the code's own run. No conditions. -/
import Derived.Test.YtdbagbklhchbkaaSx3
set_option linter.unusedSimpArgs false
set_option linter.unusedVariables false
namespace Go.Sx
open Go

/-! ### What an operation yields -/
def resUpon (P : Program) (R : Value → World → Prop) : Result Next → Prop
  | .ok (.value v) w' => R v w'
  | .ok .skip w' => R undef w'
  | .ok (.enter f args) w' => Calls P f args w' fun e w'' => ∃ v, e = .returned v ∧ R v w''
  | _ => False
def resOf (P : Program) (o : Oper) (a : Act) (w : World) (R : Value → World → Prop) : Prop := resUpon P R ((execOp a.eval o).run P w)

theorem resOf.wp {P : Program} {o : Oper} {a : Act} {w : World} {R : Value → World → Prop} {K : Act → World → Prop} {Q : Exit → Act → World → Prop}
    (h : resOf P o a w R) (hk : ∀ v w', R v w' → K (a.put o.dst v) w') : o.wp P a w K Q := by
  unfold resOf at h
  unfold Oper.wp
  generalize (execOp a.eval o).run P w = r at *
  cases r with
  | ok n w' =>
    cases n <;> simp only [resUpon] at h <;> simp only [Oper.upon]
    case value v => exact hk _ _ h
    case skip => exact hk _ _ h
    case enter f args => exact h.mono fun e w'' ⟨v, he, hr⟩ => by subst he; exact hk _ _ hr
  | halt x w' => simp only [resUpon] at h

theorem resOf.mono {P : Program} {o : Oper} {a : Act} {w : World} {R R' : Value → World → Prop} (h : resOf P o a w R) (hr : ∀ v w', R v w' → R' v w') : resOf P o a w R' := by
  unfold resOf at *
  generalize (execOp a.eval o).run P w = r at *
  cases r with
  | ok n w' =>
    cases n <;> simp only [resUpon] at h ⊢
    case value v => exact hr _ _ h
    case skip => exact hr _ _ h
    case enter f args => exact h.mono fun e w'' ⟨v, he, hv⟩ => ⟨v, he, hr _ _ hv⟩
  | halt x w' => simp only [resUpon] at h

abbrev Pr := List Res → List Res → Prop
abbrev anyPr : Pr := fun _ _ => True

/-- An operation that the prover has a word on. -/
def OpEv (B : Base) (P : Program) (pr : Pr) (o : Oper) (st : St) (k : V → List Res → Hp → Prop) : Prop :=
  ∀ ρ F a w, Inv B st ρ F a w → resOf P o a w fun x w' => ∃ v own' H' ρ' F', x = v.den ρ' ∧ VOk H' own'.length v ∧ Inv B { st with own := own', H := H' } ρ' F' a w' ∧ pr st.own own' ∧ k v own' H'

/-- A word on an operation, and on code, left open. -/
structure Wd where
  ar : Ar
  op : Oper → St → (V → List Res → Hp → Prop) → Prop
  code : Code → St → (Exit → St → Prop) → Prop

def vcOp (W : Wd) (E : TEnv) (o : Oper) (st : St) (k : V → List Res → Hp → Prop) : Prop :=
  match silent W.ar E o.op st with
  | some (v, own') => k v own' st.H
  | none => W.op o st k

def vcIf (b : Bool) (T F : Unit → Prop) : Prop :=
  (match b with
  | true => T
  | false => F) ()
theorem vcIf.split {b : Bool} {T F : Unit → Prop} (ht : b = true → T ()) (hf : b = false → F ()) : vcIf b T F := by
  cases b
  · exact hf rfl
  · exact ht rfl
theorem vcIf.yes {b : Bool} {T F : Unit → Prop} (hb : b = true) (ht : T ()) : vcIf b T F := by subst hb; exact ht
theorem vcIf.no {b : Bool} {T F : Unit → Prop} (hb : b = false) (hf : F ()) : vcIf b T F := by subst hb; exact hf

def St.upd (st : St) (dst : Option Tmp) (v : V) (own : List Res) (H : Hp) : St :=
  ⟨st.n, match dst with | none => st.fr | some d => (d, v) :: st.fr, own, H⟩
def dstOk (n : Nat) : Option Tmp → Bool
  | none => true
  | some d => Nat.blt d n

def gslot (ops : List Oper) (j : Nat) : Option Tmp :=
  match ops[j]? with
  | some o => o.dst
  | none => none

def vcOne (W : Wd) (E : TEnv) (ops : List Oper) (o : Oper) (st : St) (k : St → Prop) : Prop :=
  match dstOk st.n o.dst with
  | false => False
  | true => match o.guard with
    | none => vcOp W E o st fun v own H => k (st.upd o.dst v own H)
    | some (j, want) => match gslot ops j with
      | none => False
      | some d => match look st.fr d with
        | some (.v (.bool b)) => vcIf b
            (fun _ => match want with
              | true => vcOp W E o { st with fr := (d, .v (.bool true)) :: st.fr } fun v own H => k (St.upd { st with fr := (d, .v (.bool true)) :: st.fr } o.dst v own H)
              | false => k (St.upd { st with fr := (d, .v (.bool true)) :: st.fr } o.dst (.v undef) st.own st.H))
            (fun _ => match want with
              | true => k (St.upd { st with fr := (d, .v (.bool false)) :: st.fr } o.dst (.v undef) st.own st.H)
              | false => vcOp W E o { st with fr := (d, .v (.bool false)) :: st.fr } fun v own H => k (St.upd { st with fr := (d, .v (.bool false)) :: st.fr } o.dst v own H))
        | some (.v (.tuple _)) => k (St.upd st o.dst (.v undef) st.own st.H)
        | _ => False

def vcOps (W : Wd) (E : TEnv) (ops : List Oper) (Q : St → Prop) : List Oper → St → Prop
  | [], st => Q st
  | o :: rest, st => vcOne W E ops o st (vcOps W E ops Q rest)

def QI (B : Base) (Q : Exit → St → Prop) (e : Exit) (a : Act) (w : World) : Prop := ∃ st ρ F, Inv B st ρ F a w ∧ Q e st

/-- Code that the prover has a word on. -/
def CodeEv (B : Base) (P : Program) (c : Code) (st : St) (Q : Exit → St → Prop) : Prop :=
  ∀ ρ F a w, Inv B st ρ F a w → c.wp P (QI B Q) a w

def vcC (W : Wd) (E : TEnv) (c : Code) (st : St) (Q : Exit → St → Prop) : Prop :=
  match c with
  | .skip => Q .normal st
  | .ret => Q .ret st
  | .exit id => Q (.exit id) st
  | .seq x y => vcC W E x st fun e st' => match e with
    | .normal => vcC W E y st' Q
    | .exit id => Q (.exit id) st'
    | .goto l => Q (.goto l) st'
    | .ret => Q .ret st'
    | .panic ch => Q (.panic ch) st'
    | .outgrown => Q .outgrown st'
  | .cond x t f => match ev st.fr x with
    | some (.v (.bool b)) => vcIf b (fun _ => vcC W E t st Q) (fun _ => vcC W E f st Q)
    | _ => False
  | .block id b => vcC W E b st fun e st' => match e with
    | .exit id' => match Nat.beq id' id with
      | true => Q .normal st'
      | false => Q (.exit id') st'
    | .normal => Q .normal st'
    | .goto l => Q (.goto l) st'
    | .ret => Q .ret st'
    | .panic ch => Q (.panic ch) st'
    | .outgrown => Q .outgrown st'
  | .region id ops d => match d with
    | false => vcOps W E ops.toList (Q .normal) ops.toList st
    | true => W.code (.region id ops true) st Q
  | .loop b => W.code (.loop b) st Q
  | .rangeFunc f ps x b => W.code (.rangeFunc f ps x b) st Q
  | .scope b => W.code (.scope b) st Q
  | .label _ => Q .normal st
  | .goto l => Q (.goto l) st
  | .refuse why => W.code (.refuse why) st Q

def Wd.std (B : Base) (P : Program) : Wd := ⟨Ar.std, OpEv B P anyPr, CodeEv B P⟩
/-- Arithmetic, said. -/
structure ArEq (add sub mul quo : IntKind → Int → Int → Int) (rem : Int → Int → Int) (band bor bxor bclr : IntKind → Int → Int → Int) (shl shr : IntKind → Int → Nat → Int)
    (ieq ilt ile : Int → Int → Bool) (seq slt : ByteArray → ByteArray → Bool) (beq : Bool → Bool → Bool) (bnot : Bool → Bool) (orb : Bool → Bool → Bool) (bcond : Bool → Bool → Bool → Bool)
    (iwrap : IntKind → Int → Int) (iof : Nat → Int) (ssz : ByteArray → Nat) : Prop where
  add : ∀ k a b, add k a b = k.wrap (a + b)
  sub : ∀ k a b, sub k a b = k.wrap (a - b)
  mul : ∀ k a b, mul k a b = k.wrap (a * b)
  quo : ∀ k a b, quo k a b = k.wrap (a.tdiv b)
  rem : ∀ a b, rem a b = a.tmod b
  and : ∀ k a b, band k a b = bits .and k a b
  or : ∀ k a b, bor k a b = bits .or k a b
  xor : ∀ k a b, bxor k a b = bits .xor k a b
  clr : ∀ k a b, bclr k a b = bits .andNot k a b
  shl : ∀ k a n, shl k a n = k.wrap (a * 2 ^ (min n k.bits))
  shr : ∀ (k : IntKind) (a : Int) (n : Nat), shr k a n = a.fdiv (2 ^ (min n k.bits))
  eq : ∀ a b, ieq a b = (a == b)
  lt : ∀ a b, ilt a b = decide (a < b)
  le : ∀ a b, ile a b = decide (a ≤ b)
  seq : ∀ a b, seq a b = (a.toList == b.toList)
  slt : ∀ a b, slt a b = Op.bytesLess a.toList b.toList
  beq : ∀ a b, beq a b = (a == b)
  not : ∀ a, bnot a = !a
  orb : ∀ a b, orb a b = (a || b)
  cond : ∀ c a b, bcond c a b = cond c a b
  wrap : ∀ (k : IntKind) (a : Int), iwrap k a = k.wrap a
  ofNat : ∀ n, iof n = n
  ssize : ∀ s, ssz s = s.size
theorem ArEq.std : ArEq Ar.std.add Ar.std.sub Ar.std.mul Ar.std.quo Ar.std.rem Ar.std.and Ar.std.or Ar.std.xor Ar.std.andNot Ar.std.shl Ar.std.shr Ar.std.eq Ar.std.lt Ar.std.le Ar.std.seq Ar.std.slt
    Ar.std.beq Ar.std.not Ar.std.orb Ar.std.cond Ar.std.wrap Ar.std.ofNat Ar.std.ssize := by
  constructor <;> intros <;> rfl

theorem Inv.upd {B : Base} {st : St} {ρ : Nat → Nat} {F : Nat → NP} {a : Act} {w : World} {own : List Res} {H : Hp} {v : V} {dst : Option Tmp}
    (h : Inv B { st with own := own, H := H } ρ F a w) (hv : VOk H own.length v) (hd : dstOk st.n dst = true) : Inv B (st.upd dst v own H) ρ F (a.put dst (v.den ρ)) w := by
  cases dst with
  | none => exact h
  | some d => exact h.put hv (Nat.lt_of_succ_le (Nat.le_of_ble_eq_true hd))

theorem vcOp.ev {B : Base} {P : Program} {E : TEnv} {o : Oper} {st : St} {k : V → List Res → Hp → Prop} (hE : TOk P E) (hF : FOk P E) (h : vcOp (.std B P) E o st k) : OpEv B P anyPr o st k := by
  unfold vcOp at h
  split at h
  · rename_i v own' hs
    intro ρ F a w hI
    obtain ⟨ρ', F', w', nx, hr, hnx, hI', hv⟩ := silent_ok hE hF hs hI
    unfold resOf
    rw [hr]
    rcases hnx with rfl | ⟨rfl, rfl⟩
    · exact ⟨v, own', st.H, ρ', F', rfl, hv, hI', trivial, h⟩
    · exact ⟨.v undef, own', st.H, ρ', F', rfl, hv, hI', trivial, h⟩
  · exact h

theorem OpEv.mono {B : Base} {P : Program} {pr : Pr} {o : Oper} {st : St} {k k' : V → List Res → Hp → Prop} (h : OpEv B P pr o st k) (hk : ∀ v own H, k v own H → k' v own H) : OpEv B P pr o st k' := by
  intro ρ F a w hI
  exact (h ρ F a w hI).mono fun x w' ⟨v, own', H', ρ', F', h1, h2, h3, hp, h4⟩ => ⟨v, own', H', ρ', F', h1, h2, h3, hp, hk _ _ _ h4⟩

theorem look_yielded {B : Base} {st : St} {ρ : Nat → Nat} {F : Nat → NP} {a : Act} {w : World} (hI : Inv B st ρ F a w) {ops : Array Oper} {j d : Nat} {b : Bool} (hg : gslot ops.toList j = some d)
    (hl : look st.fr d = some (.v (.bool b))) : yielded ops a.tmps j = some b := by
  have h1 : (ops[j]?).bind (·.dst) = some d := by
    unfold gslot at hg
    simp only [Array.getElem?_toList] at hg
    split at hg
    · rename_i o ho; rw [ho]; exact hg
    · cases hg
  have h2 := (hI.slot d _ hl).1
  unfold yielded
  rw [h1]
  simp only [Option.bind_some]
  have h3 : a.tmps[d]? = some (.bool b) := by
    cases hd : a.tmps[d]? with
    | none => simp [Array.getD_eq_getD_getElem?, hd, V.den, undef] at h2
    | some x => simp [Array.getD_eq_getD_getElem?, hd, V.den] at h2; rw [h2]
  rw [h3]

theorem look_tuple {B : Base} {st : St} {ρ : Nat → Nat} {F : Nat → NP} {a : Act} {w : World} (hI : Inv B st ρ F a w) {ops : Array Oper} {j d : Nat} {b : Array Value} (hg : gslot ops.toList j = some d)
    (hl : look st.fr d = some (.v (.tuple b))) : yielded ops a.tmps j = none := by
  have h1 : (ops[j]?).bind (·.dst) = some d := by
    unfold gslot at hg
    simp only [Array.getElem?_toList] at hg
    split at hg
    · rename_i o ho; rw [ho]; exact hg
    · cases hg
  have h2 := (hI.slot d _ hl).1
  unfold yielded
  rw [h1]
  simp only [Option.bind_some]
  cases hd : a.tmps[d]? with
  | none => rfl
  | some x =>
    have h3 : x = .tuple b := by simpa [Array.getD_eq_getD_getElem?, hd, V.den] using h2
    rw [h3]
theorem Inv.lit {B : Base} {st : St} {ρ : Nat → Nat} {F : Nat → NP} {a : Act} {w : World} (hI : Inv B st ρ F a w) {d : Nat} {b : Bool} (hl : look st.fr d = some (.v (.bool b))) :
    Inv B { st with fr := (d, .v (.bool b)) :: st.fr } ρ F a w := by
  refine ⟨hI.n, fun t v hv => ?_, hI.defers, hI.held, hI.okc, hI.apart, hI.low, hI.hp, hI.keep, hI.fresh, hI.pin, hI.bd⟩
  rw [look_cons] at hv
  split at hv
  · rename_i e; subst e; cases hv; exact hI.slot t _ hl
  · exact hI.slot t v hv

/-- One operation of a region, guard and all, in the kit's words. -/
def OneOk (B : Base) (P : Program) (ops : Array Oper) (o : Oper) (st : St) (k : St → Prop) : Prop :=
  ∀ ρ F a w, Inv B st ρ F a w → ∀ (K : Act → World → Prop) (Q : Exit → Act → World → Prop), (∀ st' ρ' F' a' w', Inv B st' ρ' F' a' w' → k st' → K a' w') →
    if Region.wanted o (yielded ops a.tmps) then o.wp P a w K Q else K (a.put o.dst undef) w

theorem vcOne.ok {B : Base} {P : Program} {E : TEnv} {ops : Array Oper} {o : Oper} {st : St} {k : St → Prop} (hE : TOk P E) (hF : FOk P E) (h : vcOne (.std B P) E ops.toList o st k) : OneOk B P ops o st k := by
  intro ρ F a w hI K Q hK
  unfold vcOne at h
  split at h
  · exact h.elim
  · rename_i hd
    split at h
    · rename_i hg
      simp only [Region.wanted, hg, if_true]
      exact (vcOp.ev hE hF h ρ F a w hI).wp fun x w' ⟨v, own', H', ρ', F', hx, hv, hI', _, hk⟩ => by
        subst hx; exact hK _ _ _ _ _ (hI'.upd hv hd) hk
    · rename_i j want hg
      split at h
      · exact h.elim
      · rename_i d hgs
        split at h
        · rename_i b hl
          have hy := look_yielded hI hgs hl
          have hw : Region.wanted o (yielded ops a.tmps) = (b == want) := by
            simp [Region.wanted, hg, hy]
          rw [hw]
          unfold vcIf at h
          cases b <;> cases want <;> simp only at h
          · simp only [BEq.rfl, if_true]
            exact (vcOp.ev hE hF h ρ F a w (hI.lit hl)).wp fun x w' ⟨v, own', H', ρ', F', hx, hv, hI', _, hk⟩ => by
              subst hx; exact hK _ _ _ _ _ (hI'.upd (st := { st with fr := (d, .v (.bool false)) :: st.fr }) hv hd) hk
          · exact hK _ _ _ _ _ ((hI.lit hl).upd (st := { st with fr := (d, .v (.bool false)) :: st.fr }) (v := .v undef) trivial hd) h
          · exact hK _ _ _ _ _ ((hI.lit hl).upd (st := { st with fr := (d, .v (.bool true)) :: st.fr }) (v := .v undef) trivial hd) h
          · simp only [BEq.rfl, if_true]
            exact (vcOp.ev hE hF h ρ F a w (hI.lit hl)).wp fun x w' ⟨v, own', H', ρ', F', hx, hv, hI', _, hk⟩ => by
              subst hx; exact hK _ _ _ _ _ (hI'.upd (st := { st with fr := (d, .v (.bool true)) :: st.fr }) hv hd) hk
        · rename_i tt hl
          have hy := look_tuple hI hgs hl
          have hw : Region.wanted o (yielded ops a.tmps) = false := by
            simp [Region.wanted, hg, hy]
          rw [hw]
          exact hK _ _ _ _ _ (hI.upd (v := .v undef) trivial hd) h
        · exact h.elim

theorem vcOps.ok {B : Base} {P : Program} {E : TEnv} {ops : Array Oper} {Q : Exit → St → Prop} (hE : TOk P E) (hF : FOk P E) : ∀ (l : List Oper) (st : St), vcOps (.std B P) E ops.toList (Q .normal) l st →
    ∀ ρ F a w, Inv B st ρ F a w → wpList P ops (QI B Q) l a w
  | [], st, h, ρ, F, a, w, hI => ⟨st, ρ, F, hI, h⟩
  | o :: rest, st, h, ρ, F, a, w, hI => by
    refine wpList_step fun K hK => ?_
    exact vcOne.ok hE hF h ρ F a w hI K _ fun st' ρ' F' a' w' hI' hk => hK _ _ (vcOps.ok hE hF rest st' hk ρ' F' a' w' hI')

theorem vc_ok {B : Base} {P : Program} {E : TEnv} (hE : TOk P E) (hF : FOk P E) : ∀ (c : Code) (st : St) (Q : Exit → St → Prop), vcC (.std B P) E c st Q → CodeEv B P c st Q := by
  intro c
  induction c with
  | skip => intro st Q h ρ F a w hI; exact wp_skip ⟨st, ρ, F, hI, h⟩
  | ret => intro st Q h ρ F a w hI; exact wp_ret ⟨st, ρ, F, hI, h⟩
  | exit id => intro st Q h ρ F a w hI; exact wp_exit ⟨st, ρ, F, hI, h⟩
  | label l => intro st Q h ρ F a w hI; exact wp_label ⟨st, ρ, F, hI, h⟩
  | goto l => intro st Q h ρ F a w hI; exact wp_goto ⟨st, ρ, F, hI, h⟩
  | seq x y ihx ihy =>
    intro st Q h ρ F a w hI
    refine wp_seq (wp_mono (ihx _ _ h ρ F a w hI) ?_)
    rintro e a' w' ⟨st', ρ', F', hI', hq⟩
    cases e with
    | normal => exact ihy _ _ hq ρ' F' a' w' hI'
    | exit id => exact ⟨st', ρ', F', hI', hq⟩
    | goto l => exact ⟨st', ρ', F', hI', hq⟩
    | ret => exact ⟨st', ρ', F', hI', hq⟩
    | panic ch => exact ⟨st', ρ', F', hI', hq⟩
    | outgrown => exact ⟨st', ρ', F', hI', hq⟩
  | cond x t f iht ihf =>
    intro st Q h ρ F a w hI
    unfold vcC at h
    split at h
    · rename_i b hb
      have hx : a.eval x = .bool b := (hI.ev hb).1
      refine wp_cond_split hx (fun hb => ?_) (fun hb => ?_)
      · subst hb; exact iht _ _ h ρ F a w hI
      · subst hb; exact ihf _ _ h ρ F a w hI
    · exact h.elim
  | block id b ih =>
    intro st Q h ρ F a w hI
    refine wp_block (wp_mono (ih _ _ h ρ F a w hI) ?_)
    rintro e a' w' ⟨st', ρ', F', hI', hq⟩
    cases e with
    | exit id' =>
      simp only at hq
      show if id' = id then _ else _
      split at hq
      · rename_i he
        rw [if_pos (Nat.eq_of_beq_eq_true he)]
        exact ⟨st', ρ', F', hI', hq⟩
      · rename_i he
        rw [if_neg (by rintro rfl; simp at he)]
        exact ⟨st', ρ', F', hI', hq⟩
    | normal => exact ⟨st', ρ', F', hI', hq⟩
    | goto l => exact ⟨st', ρ', F', hI', hq⟩
    | ret => exact ⟨st', ρ', F', hI', hq⟩
    | panic ch => exact ⟨st', ρ', F', hI', hq⟩
    | outgrown => exact ⟨st', ρ', F', hI', hq⟩
  | region id ops draw =>
    intro st Q h ρ F a w hI
    cases draw with
    | false => exact wp_region_list (vcOps.ok hE hF ops.toList st h ρ F a w hI)
    | true => exact h ρ F a w hI
  | loop b _ => intro st Q h; exact h
  | rangeFunc f ps x b _ _ => intro st Q h; exact h
  | scope b _ => intro st Q h; exact h
  | refuse why => intro st Q h; exact h

/-! ### A whole call -/
/-- What is handed back. -/
def RetEv (B : Base) (P : Program) (fn : Func) (st : St) (R : Ending → World → Prop) : Prop :=
  ∀ ρ F a w, Inv B st ρ F a w → ∃ v, (results fn a.tmps).run P w = .ok v w ∧ R (.returned v) w

def fnPost (ret : St → Prop) (e : Exit) (st : St) : Prop :=
  match e with
  | .normal => ret st
  | .ret => ret st
  | _ => False

def zipArgs : Nat → List V → List (Nat × V)
  | _, [] => []
  | i, x :: r => (i, x) :: zipArgs (i + 1) r
theorem look_zipArgs : ∀ (l : List V) (i t : Nat), look (zipArgs i l) t = if i ≤ t then l[t - i]? else none
  | [], i, t => by simp [zipArgs, look]
  | x :: r, i, t => by
    simp only [zipArgs, look_cons, look_zipArgs r (i + 1) t]
    by_cases h : t = i
    · subst h; simp
    · rw [if_neg h]
      by_cases h2 : i ≤ t
      · rw [if_pos (show i + 1 ≤ t by omega), if_pos h2]
        rw [show t - i = (t - (i + 1)) + 1 by omega]
        simp
      · rw [if_neg (show ¬ i + 1 ≤ t by omega), if_neg h2]

/-- The frame at a call's beginning, of plain arguments. -/
theorem enter_inv {M : NP} {w : World} {args : List Value} {n : Nat} (hn : args.length ≤ n) (hM : ∀ k, M k → k < w.heap.size) :
    Inv (⟨M, none', w, []⟩ : Base) ⟨n, zipArgs 0 (args.map .v), [], ⟨M, w⟩⟩ (fun _ => 0) (fun _ => none') { tmps := args.toArray ++ Array.replicate (n - args.toArray.size) undef, defers := [] } w := by
  refine ⟨by simp; omega, ?_, rfl, fun i r h => by simp at h, fun i T c h => by simp at h, fun _ _ _ _ h => h.elim, fun _ _ _ h => h, ?_, Keeps.refl _ _, fun _ _ h => h.elim, fun i b h => by simp at h, hM⟩
  · intro t v ht
    rw [look_zipArgs] at ht
    simp only [Nat.zero_le, if_true, Nat.sub_zero, List.getElem?_map] at ht
    cases hx : args[t]? with
    | none => simp [hx] at ht
    | some x =>
      simp [hx] at ht
      subst ht
      have hlt : t < args.length := by
        rcases Nat.lt_or_ge t args.length with h | h
        · exact h
        · rw [List.getElem?_eq_none h] at hx; cases hx
      refine ⟨?_, trivial⟩
      rw [Array.getD_eq_getD_getElem?, Array.getElem?_append_left (by simpa using hlt)]
      simp [hx, V.den]
  · exact ⟨rfl, rfl, rfl, Nat.le_refl _, fun k hk hm => ⟨rfl, fun c => by rcases c with c | ⟨_, c⟩; exact hm c; exact c⟩⟩

theorem calls_of_ev {P : Program} {f : FuncId} {fn : Func} {c : Code} {args : Array Value} {w : World} {R : Ending → World → Prop} {B : Base} {st : St} {ρ : Nat → Nat} {F : Nat → NP}
    (hf : P.funcs[f]? = some fn) (hb : fn.body = some c) (hI : Inv B st ρ F { tmps := args ++ Array.replicate (fn.ntmps - args.size) undef, defers := [] } w)
    (h : CodeEv B P c st (fnPost fun st => RetEv B P fn st R)) : Calls P f args w R := by
  refine calls_of_wp hf hb (wp_mono (h ρ F _ w hI) ?_)
  rintro e a' w' ⟨st', ρ', F', hI', hq⟩
  cases e with
  | normal => exact ⟨hI'.defers, hq ρ' F' a' w' hI'⟩
  | ret => exact ⟨hI'.defers, hq ρ' F' a' w' hI'⟩
  | exit id => exact hq.elim
  | goto l => exact hq.elim
  | panic ch => exact hq.elim
  | outgrown => exact hq.elim

/-- The code read, whatever the words are. -/
def VcAll (B : Base) (P : Program) (E : TEnv) (c : Code) (st : St) (Ret : St → Prop) : Prop :=
  ∀ add sub mul quo rem band bor bxor bclr shl shr ieq ilt ile seq slt beq bnot orb bcond iwrap iof ssz,
    ArEq add sub mul quo rem band bor bxor bclr shl shr ieq ilt ile seq slt beq bnot orb bcond iwrap iof ssz →
    ∀ op, (∀ o st k, OpEv B P anyPr o st k → op o st k) → ∀ code, (∀ c st Q, CodeEv B P c st Q → code c st Q) → ∀ ret : St → Prop, (∀ st, Ret st → ret st) →
    vcC ⟨⟨add, sub, mul, quo, rem, band, bor, bxor, bclr, shl, shr, ieq, ilt, ile, seq, slt, beq, bnot, orb, bcond, iwrap, iof, ssz⟩, op, code⟩ E c st (fnPost ret)
theorem VcAll.ok {B : Base} {P : Program} {E : TEnv} (hE : TOk P E) (hF : FOk P E) {c : Code} {st : St} {Ret : St → Prop} (h : VcAll B P E c st Ret) : CodeEv B P c st (fnPost Ret) :=
  vc_ok hE hF _ _ _ (h _ _ _ _ _ _ _ _ _ _ _ _ _ _ _ _ _ _ _ _ _ _ _ ArEq.std _ (fun _ _ _ h => h) _ (fun _ _ _ h => h) _ (fun _ h => h))

/-- A call of plain arguments. -/
theorem calls_of_vc {P : Program} {E : TEnv} (hE : TOk P E) (hF : FOk P E) {f : FuncId} {fn : Func} {c : Code} (hf : P.funcs[f]? = some fn) (hb : fn.body = some c) {n : Nat} (hn : fn.ntmps = n)
    {args : List Value} (hl : Nat.ble args.length n = true) (H : Hp) (hM : H.Bd) {R : Ending → World → Prop}
    (h : VcAll (⟨H.M, none', H.w, []⟩ : Base) P E c ⟨n, zipArgs 0 (args.map .v), [], H⟩ (fun st => RetEv (⟨H.M, none', H.w, []⟩ : Base) P fn st R)) : Calls P f args.toArray H.w R := by
  subst hn
  exact calls_of_ev hf hb (enter_inv (Nat.le_of_ble_eq_true hl) hM) (h.ok hE hF)

def resV1 (E : TEnv) (st : St) : ResultVar → Option Value
  | .tmp t => match look st.fr t with
    | some (.v x) => some x
    | _ => none
  | .cell t T => match E.get T with
    | some ti => match look st.fr t with
      | some (.own i off) => match st.own[i]? with
        | some (.st _ cells) => match loadC ti.agg ti.size cells off with
          | some (.v x) => some x
          | _ => none
        | _ => none
      | _ => none
    | none => none
def resVs (E : TEnv) (st : St) : List ResultVar → Option (List Value)
  | [] => some []
  | r :: rs => match resV1 E st r with
    | some x => match resVs E st rs with
      | some l => some (x :: l)
      | none => none
    | none => none
def oneOf : List Value → Value
  | [x] => x
  | l => .tuple l.toArray

def resSem (tmps : Array Value) : ResultVar → Sem Value
  | .tmp t => pure (tmps.getD t undef)
  | .cell c t => do loadVar t (← asAddr (tmps.getD c undef))
theorem resV1_ok {P : Program} {E : TEnv} (hE : TOk P E) {B : Base} {st : St} {ρ : Nat → Nat} {F : Nat → NP} {a : Act} {w : World} (hI : Inv B st ρ F a w) {r : ResultVar} {x : Value} (h : resV1 E st r = some x) :
    (resSem a.tmps r).run P w = .ok x w := by
  cases r with
  | tmp t =>
    simp only [resV1] at h
    split at h
    · rename_i y hy
      cases h
      have := (hI.slot t _ hy).1
      simp only [resSem, this]; rfl
    · cases h
  | cell t T =>
    simp only [resV1] at h
    split at h
    · rename_i ti hti
      obtain ⟨inf, d, his⟩ := hE.get hti
      split at h
      · rename_i i off hl
        split at h
        · rename_i T' cells hi
          split at h
          · rename_i y hy
            cases h
            have h1 := (hI.slot t _ hl).1
            obtain ⟨h2, _⟩ := loadC_run his (hI.held i _ hi).2 hy
            have h1' : a.tmps.getD t undef = .pointer (some ⟨ρ i, off, none⟩) := h1
            simp only [resSem, h1', asAddr, Sem.run_bind, Sem.run_pure, Result.andThen_ok]
            exact h2
          · cases h
        · cases h
      · cases h
    · cases h

theorem resVs_ok {P : Program} {E : TEnv} (hE : TOk P E) {B : Base} {st : St} {ρ : Nat → Nat} {F : Nat → NP} {a : Act} {w : World} (hI : Inv B st ρ F a w) : ∀ {rs : List ResultVar} {xs : List Value}, resVs E st rs = some xs →
    (rs.mapM (resSem a.tmps)).run P w = .ok xs w
  | [], xs, h => by simp [resVs] at h; subst h; rfl
  | r :: rs, xs, h => by
    simp only [resVs] at h
    split at h
    · rename_i x hx
      split at h
      · rename_i l hl
        cases h
        have h1 := resV1_ok hE hI hx
        have h2 := resVs_ok hE hI hl
        rw [List.mapM_cons, Sem.run_bind, h1]
        simp only [Result.andThen_ok]
        rw [Sem.run_bind, h2]
        rfl
      · cases h
    · cases h

theorem results_ok {P : Program} {E : TEnv} (hE : TOk P E) {B : Base} {st : St} {ρ : Nat → Nat} {F : Nat → NP} {a : Act} {w : World} (hI : Inv B st ρ F a w) {fn : Func} {xs : List Value} (h : resVs E st fn.results.toList = some xs) :
    (results fn a.tmps).run P w = .ok (oneOf xs) w := by
  have h1 := resVs_ok hE hI h
  unfold results
  rw [Sem.run_bind, Array.mapM_eq_mapM_toList]
  simp only [Sem.run_map]
  have h2 : ∀ (f g : ResultVar → Sem Value), (∀ r, f r = g r) → fn.results.toList.mapM f = fn.results.toList.mapM g := fun f g hfg => by rw [show f = g from funext hfg]
  rw [h2 _ (resSem a.tmps) (fun r => by cases r <;> rfl), h1]
  simp only [Result.andThen_ok]
  cases xs with
  | nil => rfl
  | cons x l =>
    cases l with
    | nil => rfl
    | cons y l => rfl

/-- The plain end: the results are plain values. -/
theorem RetEv.plain {P : Program} {E : TEnv} (hE : TOk P E) {B : Base} {st : St} {fn : Func} {R : Ending → World → Prop} {xs : List Value} (h : resVs E st fn.results.toList = some xs)
    (hR : ∀ w, st.H.Le ⟨B.M0, w⟩ → Keeps B.S0 B.w0 w → (∀ k, B.M0 k → k < w.heap.size) → R (.returned (oneOf xs)) w) : RetEv B P fn st R := by
  intro ρ F a w hI
  refine ⟨_, results_ok hE hI h, hR w ?_ hI.keep fun k hk => Nat.lt_of_lt_of_le (hI.bd k hk) hI.keep.size⟩
  exact ⟨hI.hp.os, hI.hp.tape, hI.hp.output, hI.hp.size, fun k hk hm => have := hI.hp.block k hk hm; ⟨this.1, fun c => this.2 (.inl c)⟩⟩

/-! ### Rules -/
/-- A function with a body. -/
def FnOk (P : Program) (f : FuncId) : Prop := ∃ fn, P.funcs[f]? = some fn ∧ (fn.body.isSome && !(fn.name == "runtime.NumGoroutine")) = true
theorem FnOk.run {P : Program} {f : FuncId} (h : FnOk P f) (xs : Array Value) (w : World) : (callFunc f xs).run P w = .ok (.enter f xs) w := by
  obtain ⟨fn, h1, h2⟩ := h
  simp only [Bool.and_eq_true, Bool.not_eq_true'] at h2
  have hn : ¬ fn.name = "runtime.NumGoroutine" := by simpa using h2.2
  simp [callFunc, h1, hn, Option.isSome_iff_ne_none.1 h2.1]
theorem OpEv.call {B : Base} {P : Program} {pr : Pr} {o : Oper} {st : St} {k : V → List Res → Hp → Prop} {f : FuncId} {args : Array Operand} {ts : Array TypeId} {xs : List Value}
    (hfn : FnOk P f) (ho : o.op = .call { callee := .value (.func f), args := args, argTypes := ts })
    (hx : evs st.fr args.toList = some xs) (hpr : pr st.own st.own)
    (h : ∀ H : Hp, st.H.Le H → H.Bd → Calls P f xs.toArray H.w fun e w' => ∃ v H', e = .returned v ∧ H'.w = w' ∧ H.Nx H' ∧ k (.v v) st.own H') : OpEv B P pr o st k := by
  intro ρ F a w hI
  have hargs : args.map a.eval = xs.toArray := by
    apply Array.ext'
    rw [Array.toList_map]
    exact evs_ok hI hx
  unfold resOf
  have hrun : (execOp a.eval o).run P w = .ok (.enter f xs.toArray) w := by
    simp only [execOp, ho, resolve, hargs, Deferred.ofValue, Act.eval, Sem.run_bind, Sem.run_pure, Result.andThen_ok]
    simp only [invoke, Array.append_empty, hfn.run]
    first | rfl | simp
  rw [hrun]
  refine (h ⟨fun k => B.M0 k ∨ ∃ i, F i k, w⟩ hI.hp ?_).mono ?_
  · rintro k (hk | ⟨i, hk⟩)
    · exact Nat.lt_of_lt_of_le (hI.bd k hk) hI.keep.size
    · by_cases hi : i < st.own.length
      · exact (hI.held i _ (List.getElem?_eq_getElem hi)).lt k hk
      · exact (hI.low i (by omega) k hk).elim
  rintro e w' ⟨v, H', rfl, rfl, hnx, hk⟩
  obtain ⟨M', w'⟩ := H'
  obtain ⟨rfl, hk0⟩ := hnx
  refine ⟨v, rfl, .v v, st.own, _, ρ, F, rfl, trivial, ?_, hpr, hk⟩
  have hlt : ∀ i k, F i k → k < w.heap.size := by
    intro i k hk
    by_cases hi : i < st.own.length
    · exact (hI.held i _ (List.getElem?_eq_getElem hi)).lt k hk
    · exact (hI.low i (by omega) k hk).elim
  have hle : st.H.Le ⟨fun k => B.M0 k ∨ ∃ i, F i k, w'⟩ := hI.hp.trans (Hp.Le.keep0 hk0)
  refine ⟨hI.n, fun t v ht => ?_, hI.defers, fun i r hr => ?_, fun i T c hr v hv => (hI.okc i T c hr v hv).mono hle (Nat.le_refl _), hI.apart, hI.low, Hp.Le.refl _, hI.keep.step hk0 (fun _ _ c => c.elim), hI.fresh, hI.pin, hI.bd⟩
  · have := hI.slot t v ht
    exact ⟨this.1, this.2.mono hle (Nat.le_refl _)⟩
  · exact (hI.held i r hr).congr rfl (fun _ => Iff.rfl) (fun _ _ _ _ _ => rfl) fun k hk => hk0.block k (hlt i k hk) (fun c => c)
end Go.Sx
