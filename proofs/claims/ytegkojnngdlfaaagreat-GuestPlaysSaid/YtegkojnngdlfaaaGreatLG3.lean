/-
  A calculus of logical values for walks through a program, part 3 of 3: calls, loops, readings and plain facts. No conditions.
-/
import Derived.Test.YtegkojnngdlfaaaGreatLG2
import Derived.Deep.LoopGhost
import Derived.Below
import Derived.ChangeOld
import Derived.OpenShut
import Derived.ProofKit
import Derived.WalkKit
import Derived.SizedLaws
import Derived.JoinedCond
import Derived.IntWalk
import Derived.Lib.SlBytesConst
import Derived.Laws.StructEq
import Derived.Laws.CopyRow
import Derived.RangeFuncNested
set_option linter.unusedSimpArgs false
set_option linter.unusedVariables false
namespace Go.Lx
open Go
open Go.Sx (NP Keeps Hp Keep0 TI TEnv TOk Kd Ar ArEq kdInt vcIf FOk kdOf FnOk)
/-! Numbers of resources on both sides -/
def renI (js : List Nat) (N i : Nat) : Nat := match js[i]? with | some j => j | none => N + (i - js.length)
mutual
def V.ren (f : Nat → Nat) : V → V
  | .own i off => .own (f i) off
  | .ap i sz k o => .ap (f i) sz k o
  | .vw i sz off n cap => .vw (f i) sz off n cap
  | .agg cs => .agg (V.rens f cs)
  | .fn g cs => .fn g (V.rens f cs)
  | .tup cs => .tup (V.rens f cs)
  | .p x => .p x
  | .any => .any
  | .raw v => .raw v
  | .imm sz y o => .imm sz y o
def V.rens (f : Nat → Nat) : List V → List V
  | [] => []
  | c :: r => V.ren f c :: V.rens f r
end
theorem V.rens_eq (f : Nat → Nat) : ∀ cs : List V, V.rens f cs = cs.map (V.ren f)
  | [] => rfl
  | c :: r => by rw [V.rens, V.rens_eq f r]; rfl
inductive PV.Flat : PV → Prop
  | int (k : IntKind) (n : Int) : PV.Flat (.int k n)
  | bool (b : Bool) : PV.Flat (.bool b)
  | str (s : List UInt8) : PV.Flat (.str s)
  | nils : PV.Flat .nils
  | e0 : PV.Flat .e0
  | nilp : PV.Flat .nilp
  | sl0 : PV.Flat (.sl [])
  | fn (f : FuncId) : PV.Flat (.fn f)
  | agg (cs : List PV) (h : ∀ c ∈ cs, PV.Flat c) : PV.Flat (.agg cs)
  | tup (cs : List PV) (h : ∀ c ∈ cs, PV.Flat c) : PV.Flat (.tup cs)
theorem PV.Flat.den {x : PV} (hf : PV.Flat x) {H H' : Hp} : ∀ {v : Value}, PV.Den H x v → PV.Den H' x v := by
  induction hf with
  | int k n => intro v h; cases h; exact .int _ _
  | bool b => intro v h; cases h; exact .bool _
  | str s => intro v h; cases h; exact .str _
  | nils => intro v h; cases h; exact .nils
  | e0 => intro v h; cases h; exact .e0 _
  | nilp => intro v h; cases h; exact .nilp
  | sl0 =>
    intro v h
    cases h with
    | sle a c h => exact .sle a c h
    | sl _ b off sz c val hw hc hs hd => exact .sle _ _ fun h => by cases h
  | fn f => intro v h; cases h; exact .fn _
  | agg cs _ ih =>
    intro v h
    cases h with
    | agg _ xs hl hh => exact .agg _ _ hl fun i c v hc hv => ih c (List.mem_of_getElem? hc) (hh i c v hc hv)
  | tup cs _ ih =>
    intro v h
    cases h with
    | tup _ xs hl hh => exact .tup _ _ hl fun i c v hc hv => ih c (List.mem_of_getElem? hc) (hh i c v hc hv)
inductive V.Flat : V → Prop
  | p (x : PV) (h : x.Flat) : V.Flat (.p x)
  | any : V.Flat .any
  | own (i off : Nat) : V.Flat (.own i off)
  | ap (i sz k o : Nat) : V.Flat (.ap i sz k o)
  | vw (i sz off n : Nat) (cap : Option Nat) : V.Flat (.vw i sz off n cap)
  | agg (cs : List V) (h : ∀ c ∈ cs, V.Flat c) : V.Flat (.agg cs)
  | fn (f : FuncId) (cs : List V) (h : ∀ c ∈ cs, V.Flat c) : V.Flat (.fn f cs)
  | tup (cs : List V) (h : ∀ c ∈ cs, V.Flat c) : V.Flat (.tup cs)
def Res.Flat : Res → Prop
  | .st _ cells => ∀ c ∈ cells, V.Flat c
  | .arr _ _ xs => ∀ x ∈ xs, PV.Flat x
  | .dead => True
theorem V.Den.ren {H H' : Hp} {E E' : Ev} {f : Nat → Nat} (hH : H.Le H' ∨ True) (he : ∀ i, i < E.n → f i < E'.n ∧ E'.ρ (f i) = E.ρ i ∧ E'.κ (f i) = E.κ i ∧ E'.nl (f i) = E.nl i ∧ E'.len (f i) = E.len i ∧ E'.sz (f i) = E.sz i) {x : V} {v : Value} (h : V.Den H E x v) (hf : H.Le H' ∨ V.Flat x) : V.Den H' E' (x.ren f) v := by
  induction h with
  | p x v h =>
    refine .p x v ?_
    rcases hf with hf | hf
    · exact h.mono hf
    · cases hf with | p _ hf => exact hf.den h
  | any v => exact .any v
  | raw v => exact .raw v
  | own i off h => obtain ⟨h1, h2, _⟩ := he i h; rw [V.ren, ← h2]; exact .own _ off h1
  | ap i sz k o h hn hz => obtain ⟨h1, h2, h3, h4, h5, h6⟩ := he i h; rw [V.ren, ← h2]; exact .ap _ sz k o h1 (h4.trans hn) (h6.trans hz)
  | imm sz y o b off val hw hs hd =>
    rcases hf with hf | hf
    · exact .imm sz y o b off val hw (hs.mono hf) fun j u hj => (hd j u hj).mono hf
    · cases hf
  | vwn i sz cap a h hn hz hc => obtain ⟨h1, h2, h3, h4, h5, h6⟩ := he i h; exact .vwn _ sz cap a h1 (h4.trans hn) (h6.trans hz) hc
  | vw i sz off n cap a c h hn hc hk hl hx hz ha =>
    obtain ⟨h1, h2, h3, h4, h5, h6⟩ := he i h
    exact .vw _ sz off n cap a c h1 (h4.trans hn) (by rw [h3]; exact hc) (by rw [h3]; exact hk) hl (by rw [h5]; exact hx) (h6.trans hz) (by rw [h2]; exact ha)
  | agg cs xs h1 _ ih =>
    rw [V.ren, V.rens_eq]
    refine .agg _ xs (by simp [h1]) fun i c v hc hv => ?_
    rw [List.getElem?_map] at hc
    cases hcs : cs[i]? with
    | none => rw [hcs] at hc; cases hc
    | some c0 =>
      rw [hcs] at hc; cases hc
      refine ih i c0 v hcs hv ?_
      rcases hf with hf | hf
      · exact .inl hf
      · cases hf with | agg _ hf => exact .inr (hf c0 (List.mem_of_getElem? hcs))
  | fn f' cs xs h1 _ ih =>
    rw [V.ren, V.rens_eq]
    refine .fn _ _ xs (by simp [h1]) fun i c v hc hv => ?_
    rw [List.getElem?_map] at hc
    cases hcs : cs[i]? with
    | none => rw [hcs] at hc; cases hc
    | some c0 =>
      rw [hcs] at hc; cases hc
      refine ih i c0 v hcs hv ?_
      rcases hf with hf | hf
      · exact .inl hf
      · cases hf with | fn _ _ hf => exact .inr (hf c0 (List.mem_of_getElem? hcs))
  | tup cs xs h1 _ ih =>
    rw [V.ren, V.rens_eq]
    refine .tup _ xs (by simp [h1]) fun i c v hc hv => ?_
    rw [List.getElem?_map] at hc
    cases hcs : cs[i]? with
    | none => rw [hcs] at hc; cases hc
    | some c0 =>
      rw [hcs] at hc; cases hc
      refine ih i c0 v hcs hv ?_
      rcases hf with hf | hf
      · exact .inl hf
      · cases hf with | tup _ hf => exact .inr (hf c0 (List.mem_of_getElem? hcs))
theorem Holds.ren {H H' : Hp} {E E' : Ev} {F F' : Nat → NP} {f : Nat → Nat} {q : Nat} {r : Res} (h : Holds H E F q r) (he : ∀ i, i < E.n → f i < E'.n ∧ E'.ρ (f i) = E.ρ i ∧ E'.κ (f i) = E.κ i ∧ E'.nl (f i) = E.nl i ∧ E'.len (f i) = E.len i ∧ E'.sz (f i) = E.sz i)
    (hq : q < E.n) (hF : F' (f q) = F q) (hw : H'.w = H.w) (hf : H.Le H' ∨ r.Flat) : Holds H' E' F' (f q) (r.map (V.ren f)) := by
  obtain ⟨_, h2, h3, h4, h5, h6⟩ := he q hq
  cases r with
  | st T cells =>
    obtain ⟨g0, g1, vals, g2, g3⟩ := h
    refine ⟨h4.trans g0, fun k => by rw [hF, h2]; exact g1 k, vals, by rw [h2, hw]; exact g2, by simpa using g3.1, fun i c v hc hv => ?_⟩
    rw [List.getElem?_map] at hc
    cases hcs : cells[i]? with
    | none => rw [hcs] at hc; cases hc
    | some c0 =>
      rw [hcs] at hc; cases hc
      refine (g3.2 i c0 v hcs hv).ren (.inr trivial) he ?_
      rcases hf with hf | hf
      · exact .inl hf
      · exact .inr (hf c0 (List.mem_of_getElem? hcs))
  | arr T sz xs =>
    obtain ⟨g0, g1, g2, g3, g⟩ := h
    refine ⟨g0, g1, h5.trans g2, h6.trans g3, ?_⟩
    rcases g with ⟨a1, a2, a3⟩ | ⟨a1, a2, a3, a4, c, a5, a6, val, a7⟩
    · exact .inl ⟨h4.trans a1, a2, fun k => by rw [hF]; exact a3 k⟩
    · refine .inr ⟨h4.trans a1, fun k => by rw [hF, h2]; exact a2 k, by rw [h3]; exact a3, by rw [h3]; exact a4, c, by rw [h2, hw]; exact a5, by rw [h3]; exact a6, val, fun j u hj => ⟨(a7 j u hj).1, ?_⟩⟩
      rcases hf with hf | hf
      · exact (a7 j u hj).2.mono hf
      · have hj' := hj
        rw [flat_eq] at hj'
        obtain ⟨x, hx, hu⟩ := List.mem_flatMap.1 (List.mem_of_getElem? hj')
        have hxf := hf x hx
        have : u.Flat := by
          cases hxf with
          | agg cs hcs => exact hcs u hu
          | _ => simp [PV.cells] at hu; subst hu; constructor <;> assumption
        exact this.den (a7 j u hj).2
  | dead => intro k; rw [hF]; exact h k
/-! What the callee sees -/
def memN (n : Nat) : List Nat → Bool
  | [] => false
  | i :: r => match Nat.beq i n with
    | true => true
    | false => memN n r
theorem memN_iff {n : Nat} : ∀ {l : List Nat}, memN n l = true ↔ n ∈ l
  | [] => by simp [memN]
  | i :: r => by
    simp only [memN]
    split
    · rename_i h; have := Nat.eq_of_beq_eq_true h; subst this; simp
    · rename_i h
      have : n ≠ i := by rintro rfl; simp at h
      rw [memN_iff]; simp [this]
mutual
/-- What hung on what was lent is not known any more; pointers to lent structs are. -/
def V.killL (js as : List Nat) : V → V
  | .own i off => match memN i as with | true => .any | false => .own i off
  | .ap i sz k o => match memN i js with | true => .any | false => .ap i sz k o
  | .vw i sz off n cap => match memN i js with | true => .any | false => .vw i sz off n cap
  | .agg cs => .agg (V.killLs js as cs)
  | .fn f cs => .fn f (V.killLs js as cs)
  | .tup cs => .tup (V.killLs js as cs)
  | .p x => .p x
  | .any => .any
  | .raw v => .raw v
  | .imm sz y o => .imm sz y o
def V.killLs (js as : List Nat) : List V → List V
  | [] => []
  | c :: r => V.killL js as c :: V.killLs js as r
end
theorem V.killLs_eq (js as : List Nat) : ∀ cs : List V, V.killLs js as cs = cs.map (V.killL js as)
  | [] => rfl
  | c :: r => by rw [V.killLs, V.killLs_eq js as r]; rfl
theorem V.Den.killL {H H' : Hp} {E E' : Ev} {js as : List Nat} (hl : H.Le H') (hn : E.n ≤ E'.n) (he : ∀ i, i < E.n → ¬ i ∈ js → E.At E' i) (hr : ∀ i, i ∈ js → ¬ i ∈ as → E'.ρ i = E.ρ i) {x : V} {v : Value} (h : V.Den H E x v) : V.Den H' E' (x.killL js as) v := by
  have nm : ∀ {i : Nat} {l : List Nat}, memN i l = false → ¬ i ∈ l := fun h c => by rw [memN_iff.2 c] at h; cases h
  induction h with
  | p x v h => exact .p x v (h.mono hl)
  | any v => exact .any v
  | raw v => exact .raw v
  | own i off h =>
    simp only [V.killL]; split
    · exact .any _
    · rename_i hb
      have hρ : E'.ρ i = E.ρ i := by
        by_cases hj : i ∈ js
        · exact hr i hj (nm hb)
        · exact (he i h hj).ρ
      rw [← hρ]; exact .own i off (Nat.lt_of_lt_of_le h hn)
  | ap i sz k o h h0 hz =>
    simp only [V.killL]; split
    · exact .any _
    · rename_i hb; have e := he i h (nm hb); rw [← e.ρ]; exact .ap i sz k o (Nat.lt_of_lt_of_le h hn) (e.nl.trans h0) (e.sz.trans hz)
  | imm sz y o b off val hw hs hd => exact .imm sz y o b off val hw (hs.mono hl) fun j u hj => (hd j u hj).mono hl
  | vwn i sz cap a h h0 hz hc =>
    simp only [V.killL]; split
    · exact .any _
    · rename_i hb; have e := he i h (nm hb); exact .vwn i sz cap a (Nat.lt_of_lt_of_le h hn) (e.nl.trans h0) (e.sz.trans hz) hc
  | vw i sz off n cap a c h h0 hc hk hln hx hz ha =>
    simp only [V.killL]; split
    · exact .any _
    · rename_i hb
      have e := he i h (nm hb)
      exact .vw i sz off n cap a c (Nat.lt_of_lt_of_le h hn) (e.nl.trans h0) (by rw [e.κ]; exact hc) (by rw [e.κ]; exact hk) hln (by rw [e.len]; exact hx) (e.sz.trans hz) (by rw [e.ρ]; exact ha)
  | agg cs xs h1 _ ih =>
    rw [V.killL, V.killLs_eq]
    refine .agg _ xs (by simp [h1]) fun i c v hc hv => ?_
    rw [List.getElem?_map] at hc
    cases hcs : cs[i]? with
    | none => rw [hcs] at hc; cases hc
    | some c0 => rw [hcs] at hc; cases hc; exact ih i c0 v hcs hv
  | fn f cs xs h1 _ ih =>
    rw [V.killL, V.killLs_eq]
    refine .fn f _ xs (by simp [h1]) fun i c v hc hv => ?_
    rw [List.getElem?_map] at hc
    cases hcs : cs[i]? with
    | none => rw [hcs] at hc; cases hc
    | some c0 => rw [hcs] at hc; cases hc; exact ih i c0 v hcs hv
  | tup cs xs h1 _ ih =>
    rw [V.killL, V.killLs_eq]
    refine .tup _ xs (by simp [h1]) fun i c v hc hv => ?_
    rw [List.getElem?_map] at hc
    cases hcs : cs[i]? with
    | none => rw [hcs] at hc; cases hc
    | some c0 => rw [hcs] at hc; cases hc; exact ih i c0 v hcs hv
inductive Tr (own : List Res) (js bs : List Nat) : V → V → Prop
  | p (x : PV) : Tr own js bs (.p x) (.p x)
  | any (v : V) : Tr own js bs v .any
  | nils : Tr own js bs (.p .nils) (.p (.sl []))
  | e0 : Tr own js bs (.p .e0) (.p (.sl []))
  | imm (sz : Nat) (y : PV) (o : Nat) : Tr own js bs (.imm sz y o) (.imm sz y o)
  | own (p i off : Nat) (h : js[p]? = some i) : Tr own js bs (.own i off) (.own p off)
  | vw (p i sz off n : Nat) (cap : Option Nat) (h : js[p]? = some i) : Tr own js bs (.vw i sz off n cap) (.vw p sz off n cap)
  | bvw (i sz off n : Nat) (cap : Option Nat) (T : TypeId) (sz' : Nat) (xs zs : List PV) (hb : i ∈ bs) (ho : own[i]? = some (.arr T sz' xs)) (hz : zs = (xs.drop off).take n) : Tr own js bs (.vw i sz off n cap) (.p (.sl zs))
  | bown (i off : Nat) (T : TypeId) (cells ps : List V) (qs : List PV) (hb : i ∈ bs) (ho : own[i]? = some (.st T cells)) (hq : ps = qs.map .p) (h1 : ∀ q ∈ qs, q.one = true) (hl : ps.length = cells.length) (h : ∀ (k : Nat) (c p : V), cells[k]? = some c → ps[k]? = some p → Tr own js bs c p) :
      Tr own js bs (.own i off) (.imm qs.length (.agg qs) off)
  | bown1 (i off : Nat) (T : TypeId) (q : PV) (hb : i ∈ bs) (ho : own[i]? = some (.st T [.p q])) (h1 : q.one = true) : Tr own js bs (.own i off) (.imm 1 q off)
  | agg (cs ds : List V) (hl : ds.length = cs.length) (h : ∀ (k : Nat) (c d : V), cs[k]? = some c → ds[k]? = some d → Tr own js bs c d) : Tr own js bs (.agg cs) (.agg ds)
  | fn (f : FuncId) (cs ds : List V) (hl : ds.length = cs.length) (h : ∀ (k : Nat) (c d : V), cs[k]? = some c → ds[k]? = some d → Tr own js bs c d) : Tr own js bs (.fn f cs) (.fn f ds)
def TrL (own : List Res) (js bs : List Nat) (cs ds : List V) : Prop := ds.length = cs.length ∧ ∀ (k : Nat) (c d : V), cs[k]? = some c → ds[k]? = some d → Tr own js bs c d
theorem TrL.nil {own : List Res} {js bs : List Nat} : TrL own js bs [] [] := ⟨rfl, fun k c d h => by simp at h⟩
theorem TrL.cons {own : List Res} {js bs : List Nat} {c d : V} {cs ds : List V} (h : Tr own js bs c d) (k : TrL own js bs cs ds) : TrL own js bs (c :: cs) (d :: ds) := by
  refine ⟨by simp [k.1], fun i c' d' h1 h2 => ?_⟩
  cases i with
  | zero => simp at h1 h2; subst h1 h2; exact h
  | succ i => exact k.2 i c' d' (by simpa using h1) (by simpa using h2)
inductive TrR (own : List Res) (js bs : List Nat) : Res → Res → Prop
  | st (T : TypeId) (cs ds : List V) (h : TrL own js bs cs ds) : TrR own js bs (.st T cs) (.st T ds)
  | arr (T : TypeId) (sz : Nat) (xs : List PV) : TrR own js bs (.arr T sz xs) (.arr T sz xs)
def evJ (E : Ev) (js : List Nat) : Ev := ⟨js.length, fun p => E.ρ (js.getD p 0), fun p => E.κ (js.getD p 0), fun p => E.nl (js.getD p 0), fun p => E.len (js.getD p 0), fun p => E.sz (js.getD p 0)⟩
def ftJ (F : Nat → NP) (js : List Nat) : Nat → NP := fun p k => p < js.length ∧ F (js.getD p 0) k
theorem getD_of {js : List Nat} {p i : Nat} (h : js[p]? = some i) : js.getD p 0 = i := by rw [List.getD_eq_getElem?_getD, h]; rfl
def bsM (B : Base) (F : Nat → NP) (bs : List Nat) : NP := fun k => nowM B F k ∧ ¬ ∃ i, i ∈ bs ∧ F i k
theorem Tr.den {B : Base} {st : St} {E : Ev} {F : Nat → NP} {a : Act} {w : World} (hI : Inv B st E F a w) {js bs : List Nat} {x y : V} (ht : Tr st.own js bs x y) : ∀ {v : Value}, V.Den ⟨nowM B F, w⟩ E x v → V.Den ⟨bsM B F bs, w⟩ (evJ E js) y v := by
  have hle : Hp.Le ⟨nowM B F, w⟩ ⟨bsM B F bs, w⟩ := ⟨rfl, rfl, rfl, Nat.le_refl _, fun k _ hm => ⟨rfl, fun c => hm c.1⟩⟩
  induction ht with
  | p x => intro v h; cases h with | p _ _ h => exact .p _ _ (h.mono hle)
  | any v => intro u h; exact .any _
  | nils => intro v h; rw [h.nils_inv]; exact .p _ _ (.sle none 0 fun _ => rfl)
  | e0 =>
    intro v h
    cases h with
    | p _ _ h => cases h with | e0 a => exact .p _ _ (.sle a 0 fun _ => rfl)
  | imm sz y o => intro v h; cases h with | imm _ _ _ b off val hw hs hd => exact .imm _ _ _ b off val hw (hs.mono hle) fun j u hj => (hd j u hj).mono hle
  | own p i off hp =>
    intro v h
    cases h with
    | own _ _ hi =>
      have := V.Den.own (H := ⟨bsM B F bs, w⟩) (E := evJ E js) p off (lt_of_some hp)
      simp only [evJ, getD_of hp] at this
      exact this
  | vw p i sz off n cap hp =>
    intro v h
    cases h with
    | vwn _ _ _ a hi hn hz hc => exact .vwn _ _ _ a (lt_of_some hp) (by simp only [evJ, getD_of hp]; exact hn) (by simp only [evJ, getD_of hp]; exact hz) hc
    | vw _ _ _ _ _ a c hi hn hc hk hl hx hz ha => exact .vw _ _ _ _ _ a c (lt_of_some hp) (by simp only [evJ, getD_of hp]; exact hn) (by simp only [evJ, getD_of hp]; exact hc) (by simp only [evJ, getD_of hp]; exact hk) hl (by simp only [evJ, getD_of hp]; exact hx) (by simp only [evJ, getD_of hp]; exact hz) (by simp only [evJ, getD_of hp]; exact ha)
  | bvw i sz off n cap T sz' xs zs hb ho hz =>
    intro v h
    subst hz
    have := h.frz hI ho hle rfl fun k hk c => c.2 ⟨i, hb, hk⟩
    simp only [V.frz] at this
    rw [show Nat.beq i i = true from by simp] at this
    cases this with | p _ _ h => exact .p _ _ h
  | bown i off T cells ps qs hb ho hq h1 hl _ ih =>
    intro v h
    subst hq
    cases h with
    | own _ _ hi =>
      obtain ⟨hnl, hF, vals, hg, hd⟩ := hI.held i _ ho
      have hFb : F i (E.ρ i) := (hF _).2 rfl
      have hlen : vals.length = qs.length := by rw [hd.1]; simpa using hl.symm
      have key := V.Den.imm (H := ⟨bsM B F bs, w⟩) (E := evJ E js) qs.length (.agg qs) off (E.ρ i) 0 (fun j => vals.getD j undef) ⟨rfl, h1⟩ ⟨fun c => c.2 ⟨i, hb, hFb⟩, hI.foot_lt i _ hFb, vals.toArray, T, (0, 0), hg, fun j u hj => by
        have hlt : j < vals.length := by rw [hlen]; exact lt_of_some hj
        simp [List.getD_eq_getElem?_getD, hlt]⟩ (fun j u hj => by
        have hlt : j < vals.length := by rw [hlen]; exact lt_of_some hj
        have hcl : j < cells.length := by rw [← hd.1]; exact hlt
        have hv : vals[j]? = some (vals.getD j undef) := by rw [List.getD_eq_getElem?_getD, List.getElem?_eq_getElem hlt]; rfl
        have hqj : (qs.map V.p)[j]? = some (.p u) := by
          have : qs[j]? = some u := hj
          simp [this]
        have := ih j cells[j] (.p u) (List.getElem?_eq_getElem hcl) hqj (hd.2 j _ _ (List.getElem?_eq_getElem hcl) hv)
        cases this; assumption)
      rw [Nat.zero_add] at key
      exact key
  | bown1 i off T q hb ho h1 =>
    intro v h
    cases h with
    | own _ _ hi =>
      obtain ⟨hnl, hF, vals, hg, hd⟩ := hI.held i _ ho
      have hFb : F i (E.ρ i) := (hF _).2 rfl
      obtain ⟨x, hx, hxd⟩ := hd.get (i := 0) (c := .p q) rfl
      have hxd : PV.Den ⟨nowM B F, w⟩ q x := by cases hxd; assumption
      have hc : q.cells = [q] := by cases q <;> first | rfl | cases h1
      have key := V.Den.imm (H := ⟨bsM B F bs, w⟩) (E := evJ E js) 1 q off (E.ρ i) 0 (fun _ => x) ⟨by rw [hc]; rfl, fun u hu => by rw [hc] at hu; simp at hu; rw [hu]; exact h1⟩ ⟨fun c => c.2 ⟨i, hb, hFb⟩, hI.foot_lt i _ hFb, vals.toArray, T, (0, 0), hg, fun j u hj => by
        rw [hc] at hj
        cases j with
        | zero => simpa using hx
        | succ j => simp at hj⟩ (fun j u hj => by
        rw [hc] at hj
        cases j with
        | zero => simp at hj; subst hj; exact hxd.mono hle
        | succ j => simp at hj)
      rw [Nat.zero_add] at key
      exact key
  | agg cs ds hl _ ih =>
    intro v h
    cases h with
    | agg _ xs h1 hh =>
        refine .agg _ xs (by rw [h1, hl]) fun i c v hc hv => ?_
        have hlt : i < cs.length := by rw [← hl]; exact lt_of_some hc
        exact ih i cs[i] c (List.getElem?_eq_getElem hlt) hc (hh i _ v (List.getElem?_eq_getElem hlt) hv)
  | fn f cs ds hl _ ih =>
    intro v h
    cases h with
    | fn _ _ xs h1 hh =>
        refine .fn _ _ xs (by rw [h1, hl]) fun i c v hc hv => ?_
        have hlt : i < cs.length := by rw [← hl]; exact lt_of_some hc
        exact ih i cs[i] c (List.getElem?_eq_getElem hlt) hc (hh i _ v (List.getElem?_eq_getElem hlt) hv)
theorem TrL.den {B : Base} {st : St} {E : Ev} {F : Nat → NP} {a : Act} {w : World} (hI : Inv B st E F a w) {js bs : List Nat} {cs ds : List V} (ht : TrL st.own js bs cs ds) {vs : List Value} (h : DenL ⟨nowM B F, w⟩ E cs vs) : DenL ⟨bsM B F bs, w⟩ (evJ E js) ds vs := by
  refine ⟨by rw [h.1, ht.1], fun i d v hd hv => ?_⟩
  have hlt : i < cs.length := by rw [← ht.1]; exact lt_of_some hd
  exact Tr.den hI (ht.2 i cs[i] d (List.getElem?_eq_getElem hlt) hd) (h.2 i _ v (List.getElem?_eq_getElem hlt) hv)
end Go.Lx
set_option linter.unusedSimpArgs false
set_option linter.unusedVariables false
namespace Go.Lx
open Go
open Go.Sx (NP Keeps Hp Keep0 TI TEnv TOk Kd Ar ArEq kdInt vcIf FOk kdOf FnOk)
def posN (n : Nat) : List Nat → Option Nat
  | [] => none
  | i :: r => match Nat.beq i n with
    | true => some 0
    | false => match posN n r with
      | some p => some (p + 1)
      | none => none
theorem posN_some {n : Nat} : ∀ {js : List Nat} {p : Nat}, posN n js = some p → js[p]? = some n
  | [], p, h => by simp [posN] at h
  | i :: r, p, h => by
    simp only [posN] at h
    split at h
    · rename_i hb; cases h; have := Nat.eq_of_beq_eq_true hb; subst this; rfl
    · split at h
      · rename_i q hq; cases h; simpa using posN_some hq
      · cases h
theorem posN_none {n : Nat} : ∀ {js : List Nat}, posN n js = none → ¬ n ∈ js
  | [], _ => by simp
  | i :: r, h => by
    simp only [posN] at h
    split at h
    · cases h
    · rename_i hb
      split at h
      · cases h
      · rename_i hq
        have : n ≠ i := by rintro rfl; simp at hb
        simp [this, posN_none hq]
theorem posN_nodup {n : Nat} : ∀ {js : List Nat} {p : Nat}, js.Nodup → js[p]? = some n → posN n js = some p
  | i :: r, 0, hn, h => by simp at h; subst h; simp [posN]
  | i :: r, p + 1, hn, h => by
    simp only [List.getElem?_cons_succ] at h
    have hne : ¬ i = n := fun e => (List.nodup_cons.1 hn).1 (e ▸ List.mem_of_getElem? h)
    have hb : Nat.beq i n = false := by
      cases hh : Nat.beq i n with
      | false => rfl
      | true => exact (hne (Nat.eq_of_beq_eq_true hh)).elim
    simp only [posN, hb, posN_nodup (List.nodup_cons.1 hn).2 h]
def arrL (own : List Res) : List Nat → List Nat
  | [] => []
  | j :: r => match own[j]? with
    | some (.st _ _) => arrL own r
    | _ => j :: arrL own r
theorem arrL_mem {own : List Res} {j : Nat} : ∀ {js : List Nat}, j ∈ js → ¬ j ∈ arrL own js → ∃ T c, own[j]? = some (.st T c)
  | i :: r, h, hn => by
    simp only [arrL] at hn
    split at hn
    · rename_i T c hi
      rcases List.mem_cons.1 h with e | e
      · subst e; exact ⟨T, c, hi⟩
      · exact arrL_mem e hn
    · rcases List.mem_cons.1 h with e | e
      · exact (hn (by simp [e])).elim
      · exact arrL_mem e fun c => hn (by simp [c])
def backAt (js : List Nat) (g : V → V) (f : Nat → Nat) (own' : List Res) : Nat → List Res → List Res
  | _, [] => []
  | k, r :: rest => (match posN k js with
    | some p => match own'[p]? with
      | some r' => r'.map (V.ren f)
      | none => .dead
    | none => r.map g) :: backAt js g f own' (k + 1) rest
theorem backAt_length (js : List Nat) (g : V → V) (f : Nat → Nat) (own' : List Res) : ∀ (l : List Res) (k : Nat), (backAt js g f own' k l).length = l.length
  | [], _ => rfl
  | r :: rest, k => by simp [backAt, backAt_length js g f own' rest (k + 1)]
theorem backAt_get (js : List Nat) (g : V → V) (f : Nat → Nat) (own' : List Res) : ∀ (l : List Res) (k i : Nat) (r : Res), l[i]? = some r → (backAt js g f own' k l)[i]? = some (match posN (k + i) js with
    | some p => match own'[p]? with
      | some r' => r'.map (V.ren f)
      | none => .dead
    | none => r.map g)
  | x :: rest, k, 0, r, h => by simp at h; subst h; simp [backAt]
  | x :: rest, k, i + 1, r, h => by
    have := backAt_get js g f own' rest (k + 1) i r (by simpa using h)
    simp only [backAt, List.getElem?_cons_succ]
    rw [this, show k + 1 + i = k + (i + 1) by omega]
def mapR (f : V → V) : List Res → List Res
  | [] => []
  | r :: l => r.map f :: mapR f l
theorem mapR_eq (f : V → V) (l : List Res) : mapR f l = l.map (Res.map f) := by
  induction l with
  | nil => rfl
  | cons r l ih => simp [mapR, ih]
def giveBack (js : List Nat) (own own' : List Res) : List Res :=
  backAt js (V.killL js (arrL own js)) (renI js own.length) own' 0 own ++ mapR (V.ren (renI js own.length)) (own'.drop js.length)
def evN (js : List Nat) (E E' : Ev) (m : Nat) : Ev :=
  ⟨E.n + (m - js.length), fun i => match posN i js with | some p => E'.ρ p | none => if i < E.n then E.ρ i else E'.ρ (js.length + (i - E.n)),
    fun i => match posN i js with | some p => E'.κ p | none => if i < E.n then E.κ i else E'.κ (js.length + (i - E.n)),
    fun i => match posN i js with | some p => E'.nl p | none => if i < E.n then E.nl i else E'.nl (js.length + (i - E.n)),
    fun i => match posN i js with | some p => E'.len p | none => if i < E.n then E.len i else E'.len (js.length + (i - E.n)),
    fun i => match posN i js with | some p => E'.sz p | none => if i < E.n then E.sz i else E'.sz (js.length + (i - E.n))⟩
def ftN (js : List Nat) (N : Nat) (F Fs' : Nat → NP) : Nat → NP := fun i => match posN i js with | some p => Fs' p | none => if i < N then F i else Fs' (js.length + (i - N))
theorem evN_ren {js : List Nat} {E E' : Ev} {m : Nat} (hn : js.Nodup) (hlt : ∀ j ∈ js, j < E.n) (hm : js.length ≤ m) (hEm : E'.n = m) : ∀ i, i < E'.n → renI js E.n i < (evN js E E' m).n ∧ (evN js E E' m).ρ (renI js E.n i) = E'.ρ i ∧ (evN js E E' m).κ (renI js E.n i) = E'.κ i ∧
    (evN js E E' m).nl (renI js E.n i) = E'.nl i ∧ (evN js E E' m).len (renI js E.n i) = E'.len i ∧ (evN js E E' m).sz (renI js E.n i) = E'.sz i := by
  intro i hi
  unfold renI
  cases h : js[i]? with
  | some j =>
    have h1 := hlt j (List.mem_of_getElem? h)
    have h2 := posN_nodup hn h
    simp only [evN, h2, and_true]
    omega
  | none =>
    have hge : js.length ≤ i := List.getElem?_eq_none_iff.1 h
    have h2 : posN (E.n + (i - js.length)) js = none := by
      cases hp : posN (E.n + (i - js.length)) js with
      | none => rfl
      | some p => have := hlt _ (List.mem_of_getElem? (posN_some hp)); omega
    have h3 : ¬ E.n + (i - js.length) < E.n := by omega
    have h4 : js.length + (E.n + (i - js.length) - E.n) = i := by omega
    simp only [evN, h2, h3, if_false, h4, and_true]
    omega
theorem ftN_ren {js : List Nat} {N : Nat} {F Fs' : Nat → NP} (hn : js.Nodup) (hlt : ∀ j ∈ js, j < N) (i : Nat) : ftN js N F Fs' (renI js N i) = Fs' i := by
  unfold renI
  cases h : js[i]? with
  | some j => simp only [ftN, posN_nodup hn h]
  | none =>
    have hge : js.length ≤ i := List.getElem?_eq_none_iff.1 h
    have h2 : posN (N + (i - js.length)) js = none := by
      cases hp : posN (N + (i - js.length)) js with
      | none => rfl
      | some p => have := hlt _ (List.mem_of_getElem? (posN_some hp)); omega
    simp only [ftN, h2]
    rw [if_neg (by omega)]
    congr 1; omega
theorem lend_core {B : Base} {args : List V} {X : Nat → Bool} {st : St} {k : V → St → Prop} (T : Array Value → World → (Ending → World → Prop) → Prop) (hT : ∀ {xs : Array Value} {w : World} {R R' : Ending → World → Prop}, T xs w R → (∀ e w', R e w' → R' e w') → T xs w R')
    (js bs : List Nat) {args0 : List V} {own0 : List Res} {R : V → List Res → Prop} (hc : ∀ H E Fs (vals : List Value), H.Bd → OwnAt H E Fs own0 → (∀ i k, Fs i k → H.M k) → DenL H E args0 vals → T vals.toArray H.w (FnEnd H own0 E Fs R))
    (hn : js.Nodup) (hlt : ∀ j ∈ js, j < st.own.length) (hX : ∀ j ∈ js, X j = true) (hdis : ∀ j ∈ js, ¬ j ∈ bs) (hargs : TrL st.own js bs args args0)
    (hown : own0.length = js.length ∧ ∀ (p : Nat) (r0 : Res), own0[p]? = some r0 → ∃ j r, js[p]? = some j ∧ st.own[j]? = some r ∧ TrR st.own js bs r r0)
    (hk : ∀ v own', R v own' → (bs = [] ∨ (V.Flat v ∧ ∀ r ∈ own', Res.Flat r)) ∧ k (v.ren (renI js st.own.length)) ⟨st.n, frMap (V.killL js (arrL st.own js)) st.fr, giveBack js st.own own'⟩) {E : Ev} {F : Nat → NP} {a : Act} {w : World} {vals : List Value} (hI : Inv B st E F a w) (hvals : DenL ⟨nowM B F, w⟩ E args vals) : T vals.toArray w fun e w' => ∃ x, e = .returned x ∧ PostS B st F a w X k x w' := by
  have hltE : ∀ j ∈ js, j < E.n := fun j hj => by rw [hI.en]; exact hlt j hj
  have hdisF : ∀ j ∈ js, ∀ k, F j k → ¬ ∃ i, i ∈ bs ∧ F i k := by
    rintro j hj k hjk ⟨i, hi, hik⟩
    by_cases e : j = i
    · subst e; exact hdis j hj hi
    · exact hI.apart j i e k hjk hik
  have hle0 : Hp.Le ⟨nowM B F, w⟩ ⟨bsM B F bs, w⟩ := ⟨rfl, rfl, rfl, Nat.le_refl _, fun k _ hm => ⟨rfl, fun c => hm c.1⟩⟩
  have hO : OwnAt ⟨bsM B F bs, w⟩ (evJ E js) (ftJ F js) own0 := by
    refine ⟨hown.1.symm, fun p r0 hr0 => ?_, fun p q hpq k hp hq => ?_, fun p hp k hk => ?_⟩
    · obtain ⟨j, r, hj, hr, ht⟩ := hown.2 p r0 hr0
      have hpl := lt_of_some hj
      have hF : ftJ F js p = F j := funext fun k => propext (by simp only [ftJ, getD_of hj]; exact ⟨fun h => h.2, fun h => ⟨hpl, h⟩⟩)
      have hh := hI.held j r hr
      cases ht with
      | st T cs ds htl =>
        obtain ⟨h0, h1, vals, h2, h3⟩ := hh
        refine ⟨by simp only [evJ, getD_of hj]; exact h0, fun k => by rw [hF]; simp only [evJ, getD_of hj]; exact h1 k, vals, by simp only [evJ, getD_of hj]; exact h2, htl.den hI h3⟩
      | arr T sz xs =>
        obtain ⟨g0, g1, g2, g3, g⟩ := hh
        refine ⟨g0, g1, by simp only [evJ, getD_of hj]; exact g2, by simp only [evJ, getD_of hj]; exact g3, ?_⟩
        rcases g with ⟨a1, a2, a3⟩ | ⟨a1, a2, a3, a4, c, a5, a6, val, a7⟩
        · exact .inl ⟨by simp only [evJ, getD_of hj]; exact a1, a2, fun k => by rw [hF]; exact a3 k⟩
        · exact .inr ⟨by simp only [evJ, getD_of hj]; exact a1, fun k => by rw [hF]; simp only [evJ, getD_of hj]; exact a2 k, by simp only [evJ, getD_of hj]; exact a3, by simp only [evJ, getD_of hj]; exact a4, c, by simp only [evJ, getD_of hj]; exact a5,
            by simp only [evJ, getD_of hj]; exact a6, val, fun j u hj => ⟨(a7 j u hj).1, (a7 j u hj).2.mono hle0⟩⟩
    · obtain ⟨hp1, hp2⟩ := hp
      obtain ⟨hq1, hq2⟩ := hq
      refine hI.apart _ _ ?_ k hp2 hq2
      intro e
      have e1 : js[p]? = some (js.getD p 0) := by rw [List.getD_eq_getElem?_getD, List.getElem?_eq_getElem hp1]; rfl
      have e2 : js[q]? = some (js.getD q 0) := by rw [List.getD_eq_getElem?_getD, List.getElem?_eq_getElem hq1]; rfl
      rw [← e] at e2
      have := posN_nodup hn e1
      rw [posN_nodup hn e2] at this
      exact hpq (Option.some.inj this).symm
    · have := hk.1; rw [hown.1] at hp; omega
  have hFsF : ∀ p k, ftJ F js p k → ∃ j, j ∈ js ∧ F j k := fun p k h => ⟨js.getD p 0, by rw [List.getD_eq_getElem?_getD, List.getElem?_eq_getElem h.1]; exact List.getElem_mem h.1, h.2⟩
  have hFM : ∀ p k, ftJ F js p k → bsM B F bs k := fun p k h => by
    obtain ⟨j, hj, hjk⟩ := hFsF p k h
    exact ⟨.inr ⟨j, hjk⟩, hdisF j hj k hjk⟩
  refine hT (hc ⟨bsM B F bs, w⟩ (evJ E js) (ftJ F js) vals (fun k hk => hI.nowBd k hk.1) hO hFM (hargs.den hI hvals)) ?_
  rintro e w' ⟨x, v, own', E', Fs', rfl, hkp, hlen, hfr, hpin, hR, hM⟩
  refine ⟨x, rfl, ?_⟩
  obtain ⟨hflat, hkk⟩ := hk v own' hR
  have hlen' : js.length ≤ own'.length := by rw [← hown.1]; exact hlen
  -- footprints
  have hkeep : Keeps (fun k => ∃ i, F i k) w w' := hkp.mono fun k _ ⟨p, c⟩ => by obtain ⟨j, _, hj⟩ := hFsF p k c; exact ⟨j, hj⟩
  have hkeepX : Keeps (fun k => ∃ i, X i = true ∧ F i k) w w' := hkp.mono fun k _ ⟨p, c⟩ => by obtain ⟨j, hj1, hj⟩ := hFsF p k c; exact ⟨j, hX j hj1, hj⟩
  have hfresh : ∀ i k, ftN js st.own.length F Fs' i k → F i k ∨ w.heap.size ≤ k := by
    intro i k h
    unfold ftN at h
    cases hp : posN i js with
    | some p =>
      rw [hp] at h
      rcases hfr p k h with c | c
      · have := c.2; rw [getD_of (posN_some hp)] at this; exact .inl this
      · exact .inr c
    | none =>
      rw [hp] at h
      simp only at h
      by_cases hi : i < st.own.length
      · rw [if_pos hi] at h; exact .inl h
      · rw [if_neg hi] at h
        rcases hfr _ k h with c | c
        · have := c.1; omega
        · exact .inr c
  have hle := hI.le (F' := ftN js st.own.length F Fs') hkeep hfresh
  have hsub : ∀ q, (nowM B (ftN js st.own.length F Fs') q ∧ ¬ ∃ i, i ∈ bs ∧ F i q) → bsM B F bs q ∨ ∃ i, Fs' i q := by
    rintro q ⟨c | ⟨i, c⟩, hnb⟩
    · exact .inl ⟨.inl c, hnb⟩
    · unfold ftN at c
      cases hp : posN i js with
      | some p => rw [hp] at c; exact .inr ⟨p, c⟩
      | none =>
        rw [hp] at c
        simp only at c
        by_cases hi : i < st.own.length
        · rw [if_pos hi] at c; exact .inl ⟨.inr ⟨i, c⟩, hnb⟩
        · rw [if_neg hi] at c; exact .inr ⟨_, c⟩
  obtain ⟨hO', hd'⟩ := hM (fun q => nowM B (ftN js st.own.length F Fs') q ∧ ¬ ∃ i, i ∈ bs ∧ F i q) hsub
  have hleM : bs = [] → Hp.Le ⟨fun q => nowM B (ftN js st.own.length F Fs') q ∧ ¬ ∃ i, i ∈ bs ∧ F i q, w'⟩ ⟨nowM B (ftN js st.own.length F Fs'), w'⟩ := by
    rintro rfl
    exact ⟨rfl, rfl, rfl, Nat.le_refl _, fun q _ hm => ⟨rfl, fun c => hm ⟨c, by simp⟩⟩⟩
  have hren := evN_ren (E' := E') hn hltE hlen' hO'.n
  rw [hI.en] at hren
  have hEn : (evN js E E' own'.length).n = st.own.length + (own'.length - js.length) := by show E.n + _ = _; rw [hI.en]
  have hρst : ∀ i, i ∈ js → ¬ i ∈ arrL st.own js → (evN js E E' own'.length).ρ i = E.ρ i ∧ ∃ (p : Nat) (T : TypeId) (c c' : List V), posN i js = some p ∧ st.own[i]? = some (.st T c) ∧ own'[p]? = some (.st T c') := by
    intro i hi hna
    obtain ⟨p, hp⟩ : ∃ p, posN i js = some p := by
      cases h : posN i js with
      | some p => exact ⟨p, rfl⟩
      | none => exact (posN_none h hi).elim
    obtain ⟨T, c, hst⟩ := arrL_mem hi hna
    have hjp := posN_some hp
    have hpl : p < own0.length := by rw [hown.1]; exact lt_of_some hjp
    obtain ⟨j, r, hj, hr, ht⟩ := hown.2 p own0[p] (List.getElem?_eq_getElem hpl)
    rw [hjp] at hj; cases hj
    rw [hst] at hr; cases hr
    generalize hr0 : own0[p] = r0 at ht
    cases ht with
    | st _ _ ds _ =>
      obtain ⟨h1, c', h2⟩ := hpin p T ds (by rw [List.getElem?_eq_getElem hpl, hr0])
      refine ⟨?_, p, T, c, c', hp, hst, h2⟩
      simp only [evN, hp]
      rw [h1]; simp only [evJ, getD_of hjp]
  have hAt : ∀ i, i < E.n → ¬ i ∈ js → E.At (evN js E E' own'.length) i := by
    intro i hi hni
    have hp : posN i js = none := by
      cases h : posN i js with
      | none => rfl
      | some p => exact (hni (List.mem_of_getElem? (posN_some h))).elim
    exact ⟨by simp only [evN, hp, if_pos hi], by simp only [evN, hp, if_pos hi], by simp only [evN, hp, if_pos hi], by simp only [evN, hp, if_pos hi], by simp only [evN, hp, if_pos hi]⟩
  have hkill : ∀ c v, V.Den ⟨nowM B F, w⟩ E c v → V.Den ⟨nowM B (ftN js st.own.length F Fs'), w'⟩ (evN js E E' own'.length) (c.killL js (arrL st.own js)) v := fun c v h =>
    V.Den.killL hle (show E.n ≤ E.n + _ from Nat.le_add_right _ _) hAt (fun i h1 h2 => (hρst i h1 h2).1) h
  have hget : ∀ p r', own'[p]? = some r' → Holds ⟨nowM B (ftN js st.own.length F Fs'), w'⟩ (evN js E E' own'.length) (ftN js st.own.length F Fs') (renI js st.own.length p) (r'.map (V.ren (renI js st.own.length))) := fun p r' hr' => by
    refine Holds.ren (hO'.held p r' hr') hren (by rw [hO'.n]; exact lt_of_some hr') (ftN_ren hn hlt p) rfl ?_
    rcases hflat with h | ⟨_, h⟩
    · exact .inl (hleM h)
    · exact .inr (h r' (List.mem_of_getElem? hr'))
  have hI' : Inv B ⟨st.n, frMap (V.killL js (arrL st.own js)) st.fr, giveBack js st.own own'⟩ (evN js E E' own'.length) (ftN js st.own.length F Fs') a w' := by
    have hgl : (giveBack js st.own own').length = st.own.length + (own'.length - js.length) := by simp [giveBack, backAt_length, mapR_eq]
    refine hI.step hkeep hfresh hkill (by rw [hEn, hgl]) (by rw [hgl]; have := hI.olen; omega) (fun i r hr => ?_) (fun i i' hii q h1 h2 => ?_) (fun i hi q h => ?_) (fun i T c hi hi0 => ?_)
    · by_cases hil : i < st.own.length
      · unfold giveBack at hr
        rw [List.getElem?_append_left (by rw [backAt_length]; exact hil), backAt_get _ _ _ _ _ 0 i _ (List.getElem?_eq_getElem hil), Nat.zero_add] at hr
        cases hp : posN i js with
        | some p =>
          rw [hp] at hr
          have hpl : p < own'.length := Nat.lt_of_lt_of_le (lt_of_some (posN_some hp)) hlen'
          simp only [List.getElem?_eq_getElem hpl] at hr
          cases hr
          have := hget p _ (List.getElem?_eq_getElem hpl)
          have e : renI js st.own.length p = i := by unfold renI; rw [posN_some hp]
          rwa [e] at this
        | none =>
          rw [hp] at hr
          cases hr
          have hni := posN_none hp
          refine (hI.held i _ (List.getElem?_eq_getElem hil)).stay hle (hAt i (by rw [hI.en]; exact hil) hni) hkill ?_ (fun q hq => hkp.block q (hI.foot_lt i q hq) ?_)
          · simp only [ftN, hp, if_pos hil]
          · rintro ⟨p, c⟩
            obtain ⟨j, hj1, hj2⟩ := hFsF p q c
            exact hI.apart i j (by rintro rfl; exact hni hj1) q hq hj2
      · unfold giveBack at hr
        rw [List.getElem?_append_right (by rw [backAt_length]; omega), backAt_length, mapR_eq, List.getElem?_map, List.getElem?_drop] at hr
        cases hr' : own'[js.length + (i - st.own.length)]? with
        | none => rw [hr'] at hr; cases hr
        | some r' =>
          rw [hr'] at hr; cases hr
          have := hget _ r' hr'
          have e : renI js st.own.length (js.length + (i - st.own.length)) = i := by
            unfold renI
            rw [List.getElem?_eq_none (by omega)]
            simp only; omega
          rwa [e] at this
    · -- apart
      have cls : ∀ i q, ftN js st.own.length F Fs' i q → (∃ p, renI js st.own.length p = i ∧ Fs' p q) ∨ (posN i js = none ∧ i < st.own.length ∧ F i q) := by
        intro i q h
        unfold ftN at h
        cases hp : posN i js with
        | some p => rw [hp] at h; exact .inl ⟨p, by unfold renI; rw [posN_some hp], h⟩
        | none =>
          rw [hp] at h
          simp only at h
          by_cases hi : i < st.own.length
          · rw [if_pos hi] at h; exact .inr ⟨rfl, hi, h⟩
          · rw [if_neg hi] at h
            refine .inl ⟨_, ?_, h⟩
            unfold renI
            rw [List.getElem?_eq_none (by omega)]
            simp only; omega
      have mix : ∀ {i i' p q}, renI js st.own.length p = i → Fs' p q → posN i' js = none → i' < st.own.length → F i' q → False := by
        intro i i' p q _ h1 h2 h3 h4
        rcases hfr p q h1 with c | c
        · obtain ⟨j, hj1, hj2⟩ := hFsF p q c
          exact hI.apart i' j (by rintro rfl; exact posN_none h2 hj1) q h4 hj2
        · have := hI.foot_lt i' q h4
          have : w.heap.size ≤ q := c
          omega
      rcases cls i q h1 with ⟨p, e1, c1⟩ | ⟨e1, f1, c1⟩ <;> rcases cls i' q h2 with ⟨p', e2, c2⟩ | ⟨e2, f2, c2⟩
      · by_cases hpp : p = p'
        · subst hpp; exact hii (e1.symm.trans e2)
        · exact hO'.apart p p' hpp q c1 c2
      · exact mix e1 c1 e2 f2 c2
      · exact mix e2 c2 e1 f1 c1
      · exact hI.apart i i' hii q c1 c2
    · rw [hgl] at hi
      have hp : posN i js = none := by
        cases h : posN i js with
        | none => rfl
        | some p => have := hlt i (List.mem_of_getElem? (posN_some h)); omega
      simp only [ftN, hp] at h
      rw [if_neg (by omega)] at h
      exact hO'.low _ (by omega) q h
    · have hil := lt_of_some hi
      by_cases hj : i ∈ js
      · have hna : ¬ i ∈ arrL st.own js := by
          intro c
          have : ∀ js : List Nat, i ∈ arrL st.own js → False := by
            intro js
            induction js with
            | nil => intro h; cases h
            | cons j r ih =>
              intro h
              simp only [arrL] at h
              split at h
              · exact ih h
              · rename_i hne
                rcases List.mem_cons.1 h with e | e
                · subst e; exact hne _ _ hi
                · exact ih e
          exact this js c
        obtain ⟨h1, p, T', c1, c', h2, h3, h4⟩ := hρst i hj hna
        rw [hi] at h3; cases h3
        refine ⟨h1, c'.map (V.ren (renI js st.own.length)), ?_⟩
        unfold giveBack
        rw [List.getElem?_append_left (by rw [backAt_length]; exact hil), backAt_get _ _ _ _ _ 0 i _ (List.getElem?_eq_getElem hil), Nat.zero_add]
        simp only [h2, h4, Res.map]
      · refine ⟨(hAt i (by rw [hI.en]; exact hil) hj).ρ, c.map (V.killL js (arrL st.own js)), ?_⟩
        have hp : posN i js = none := by
          cases h : posN i js with
          | none => rfl
          | some p => exact (hj (List.mem_of_getElem? (posN_some h))).elim
        unfold giveBack
        rw [List.getElem?_append_left (by rw [backAt_length]; exact hil), backAt_get _ _ _ _ _ 0 i _ hi, Nat.zero_add]
        simp only [hp, Res.map]
  refine Post.s (Post.of hI hI' hkeepX hfresh (fun i q h0 h => ?_) ?_ hkk)
  · have hni : ¬ i ∈ js := fun c => by rw [hX i c] at h0; cases h0
    have hp : posN i js = none := by
      cases h : posN i js with
      | none => rfl
      | some p => exact (hni (List.mem_of_getElem? (posN_some h))).elim
    have hil : i < st.own.length := by
      rcases Nat.lt_or_ge i st.own.length with h' | h'
      · exact h'
      · exact (hI.low i h' q h).elim
    simp only [ftN, hp, if_pos hil]; exact h
  · refine V.Den.ren (.inr trivial) hren hd' ?_
    rcases hflat with h | ⟨h, _⟩
    · exact .inl (hleM h)
    · exact .inr h
theorem CallEv.call {B : Base} {P : Program} {f : FuncId} {args : List V} {X : Nat → Bool} {st : St} {k : V → St → Prop} (js bs : List Nat) {args0 : List V} {own0 : List Res} {R : V → List Res → Prop} (hc : FnL P f args0 own0 R)
    (hn : js.Nodup) (hlt : ∀ j ∈ js, j < st.own.length) (hX : ∀ j ∈ js, X j = true) (hdis : ∀ j ∈ js, ¬ j ∈ bs) (hargs : TrL st.own js bs args args0)
    (hown : own0.length = js.length ∧ ∀ (p : Nat) (r0 : Res), own0[p]? = some r0 → ∃ j r, js[p]? = some j ∧ st.own[j]? = some r ∧ TrR st.own js bs r r0)
    (hk : ∀ v own', R v own' → (bs = [] ∨ (V.Flat v ∧ ∀ r ∈ own', Res.Flat r)) ∧ k (v.ren (renI js st.own.length)) ⟨st.n, frMap (V.killL js (arrL st.own js)) st.fr, giveBack js st.own own'⟩) : CallEv B P f args X st k := by
  intro E F a w vals hI hvals
  obtain ⟨hfn, hc⟩ := hc
  exact .inl ⟨hfn.run _ w, lend_core (Calls P f) (fun h hr => Calls.mono h hr) js bs hc hn hlt hX hdis hargs hown hk hI hvals⟩
theorem CallEv.pure {B : Base} {P : Program} {f : FuncId} {X : Nat → Bool} {st : St} {k : V → St → Prop} {args args0 : List V} {R : V → List Res → Prop} (hc : FnL P f args0 [] R) (ha : TrL st.own [] [] args args0)
    (hk : ∀ v own', R v own' → k (v.ren (renI [] st.own.length)) ⟨st.n, frMap (V.killL [] []) st.fr, giveBack [] st.own own'⟩) : CallEv B P f args X st k :=
  CallEv.call [] [] hc List.nodup_nil (by simp) (by simp) (by simp) ha ⟨rfl, fun p r0 h => by simp at h⟩ fun v own' hR => ⟨.inl rfl, hk v own' hR⟩
def isP : List V → Bool
  | [] => true
  | .p _ :: r => isP r
  | .imm _ _ _ :: r => isP r
  | _ :: _ => false
theorem TrL.same {own : List Res} {js bs : List Nat} : ∀ {args : List V}, isP args = true → TrL own js bs args args
  | [], _ => TrL.nil
  | .p x :: r, h => TrL.cons (.p x) (TrL.same (args := r) h)
  | .imm _ _ _ :: r, h => TrL.cons (.imm _ _ _) (TrL.same (args := r) h)
theorem CallEv.same {B : Base} {P : Program} {f : FuncId} {X : Nat → Bool} {st : St} {k : V → St → Prop} {args : List V} {R : V → List Res → Prop} (hc : FnL P f args [] R) (ha : isP args = true)
    (hk : ∀ v own', R v own' → k (v.ren (renI [] st.own.length)) ⟨st.n, frMap (V.killL [] []) st.fr, giveBack [] st.own own'⟩) : CallEv B P f args X st k := CallEv.pure hc (TrL.same ha) hk
def TrO (own : List Res) (js bs : List Nat) : List Nat → List Res → Prop
  | [], [] => True
  | j :: ks, r0 :: rs => (∃ r, own[j]? = some r ∧ TrR own js bs r r0) ∧ TrO own js bs ks rs
  | _, _ => False
theorem TrO.ok {own : List Res} {js bs : List Nat} : ∀ {ks : List Nat} {own0 : List Res}, TrO own js bs ks own0 → own0.length = ks.length ∧ ∀ (p : Nat) (r0 : Res), own0[p]? = some r0 → ∃ j r, ks[p]? = some j ∧ own[j]? = some r ∧ TrR own js bs r r0
  | [], [], _ => ⟨rfl, fun p r0 h => by simp at h⟩
  | j :: ks, r0 :: rs, h => by
    obtain ⟨⟨r, h1, h2⟩, h3⟩ := h
    obtain ⟨h4, h5⟩ := TrO.ok h3
    refine ⟨by simp [h4], fun p q hq => ?_⟩
    cases p with
    | zero => simp at hq; subst hq; exact ⟨j, r, rfl, h1, h2⟩
    | succ p => exact h5 p q (by simpa using hq)
  | [], _ :: _, h => h.elim
  | _ :: _, [], h => h.elim
def lendOk (X : Nat → Bool) (n : Nat) (bs : List Nat) : List Nat → Bool
  | [] => true
  | j :: r => match memN j r, memN j bs, Nat.blt j n, X j with
    | false, false, true, true => lendOk X n bs r
    | _, _, _, _ => false
theorem lendOk.ok {X : Nat → Bool} {n : Nat} {bs : List Nat} : ∀ {js : List Nat}, lendOk X n bs js = true → js.Nodup ∧ (∀ j ∈ js, j < n) ∧ (∀ j ∈ js, X j = true) ∧ ∀ j ∈ js, ¬ j ∈ bs
  | [], _ => by simp
  | j :: r, h => by
    simp only [lendOk] at h
    split at h
    · rename_i h1 h2 h3 h4
      obtain ⟨g1, g2, g3, g4⟩ := lendOk.ok h
      have n1 : ¬ j ∈ r := fun c => by rw [memN_iff.2 c] at h1; cases h1
      have n2 : ¬ j ∈ bs := fun c => by rw [memN_iff.2 c] at h2; cases h2
      have n3 : j < n := Nat.lt_of_succ_le (Nat.le_of_ble_eq_true h3)
      refine ⟨List.nodup_cons.2 ⟨n1, g1⟩, ?_, ?_, ?_⟩ <;> intro i hi <;> rcases List.mem_cons.1 hi with e | e
      · rw [e]; exact n3
      · exact g2 i e
      · rw [e]; exact h4
      · exact g3 i e
      · rw [e]; exact n2
      · exact g4 i e
    · cases h
theorem CallEv.lend {B : Base} {P : Program} {f : FuncId} {args : List V} {X : Nat → Bool} {st : St} {k : V → St → Prop} (js : List Nat) {args0 : List V} {own0 : List Res} {R : V → List Res → Prop} (hc : FnL P f args0 own0 R)
    (hok : lendOk X st.own.length [] js = true) (hargs : TrL st.own js [] args args0) (hown : TrO st.own js [] js own0)
    (hk : ∀ v own', R v own' → k (v.ren (renI js st.own.length)) ⟨st.n, frMap (V.killL js (arrL st.own js)) st.fr, giveBack js st.own own'⟩) : CallEv B P f args X st k := by
  obtain ⟨g1, g2, g3, g4⟩ := lendOk.ok hok
  exact CallEv.call js [] hc g1 g2 g3 g4 hargs hown.ok fun v own' hR => ⟨.inl rfl, hk v own' hR⟩
theorem CallEv.shown {B : Base} {P : Program} {f : FuncId} {args : List V} {X : Nat → Bool} {st : St} {k : V → St → Prop} (js bs : List Nat) {args0 : List V} {own0 : List Res} {R : V → List Res → Prop} (hc : FnL P f args0 own0 R)
    (hok : lendOk X st.own.length bs js = true) (hargs : TrL st.own js bs args args0) (hown : TrO st.own js bs js own0)
    (hk : ∀ v own', R v own' → V.Flat v ∧ (∀ r ∈ own', Res.Flat r) ∧ k (v.ren (renI js st.own.length)) ⟨st.n, frMap (V.killL js (arrL st.own js)) st.fr, giveBack js st.own own'⟩) : CallEv B P f args X st k := by
  obtain ⟨g1, g2, g3, g4⟩ := lendOk.ok hok
  exact CallEv.call js bs hc g1 g2 g3 g4 hargs hown.ok fun v own' hR => by
    obtain ⟨h1, h2, h3⟩ := hk v own' hR
    exact ⟨.inr ⟨h1, h2⟩, h3⟩
end Go.Lx
set_option linter.unusedSimpArgs false
set_option linter.unusedVariables false
namespace Go.Lx
open Go
open Go.Sx (NP Keeps Hp Keep0 TI TEnv TOk Kd Ar ArEq kdInt vcIf FOk kdOf FnOk resOf gslot dstOk)
/-! ### Turns of what is known -/
def Conv (B : Base) (st st' : St) : Prop := st'.n = st.n ∧ ∀ E F a w, Inv B st E F a w → ∃ E' F', Inv B st' E' F' a w ∧ ∀ X b, DD B F X b → DD B F' X b
theorem Conv.refl (B : Base) (st : St) : Conv B st st := ⟨rfl, fun E F a w h => ⟨E, F, h, fun _ _ h => h⟩⟩
theorem Conv.trans {B : Base} {a b c : St} (h : Conv B a b) (k : Conv B b c) : Conv B a c := ⟨k.1.trans h.1, fun E F ac w hI => by
  obtain ⟨E1, F1, h1, h2⟩ := h.2 E F ac w hI
  obtain ⟨E2, F2, h3, h4⟩ := k.2 E1 F1 ac w h1
  exact ⟨E2, F2, h3, fun X b hb => h4 X b (h2 X b hb)⟩⟩
theorem OpEv.conv {B : Base} {P : Program} {o : Oper} {X : Nat → Bool} {st st' : St} {k : V → St → Prop} (hc : Conv B st st') (h : OpEv B P o X st' k) : OpEv B P o X st k := by
  intro E F a w hI
  obtain ⟨E1, F1, h1, h2⟩ := hc.2 E F a w hI
  exact (h E1 F1 a w h1).mono fun x w' ⟨v, st2, E2, F2, g1, g2, g3, g4, g5, g6⟩ => ⟨v, st2, E2, F2, g1.trans hc.1, g2, g3, ⟨g4.os, g4.tape, g4.output, g4.size, fun b hb hd => g4.block b hb (h2 X b hd)⟩, fun b hb hd => g5 b hb (h2 X b hd), g6⟩
theorem CodeEv.conv {B : Base} {P : Program} {c : Code} {st st' : St} {Q : Exit → St → Prop} (hc : Conv B st st') (h : CodeEv B P c st' Q) : CodeEv B P c st Q := by
  intro E F a w hI
  obtain ⟨E1, F1, h1, _⟩ := hc.2 E F a w hI
  exact h E1 F1 a w h1
theorem RetEv.convC {B : Base} {P : Program} {fn : Func} {st st' : St} {R : V → List Res → Prop} (hc : Conv B st st') (h : RetEv B P fn st' R) : RetEv B P fn st R :=
  RetEv.conv (fun E F a w hI => by obtain ⟨E1, F1, h1, _⟩ := hc.2 E F a w hI; exact ⟨E1, F1, h1⟩) h
theorem Conv.freeze {B : Base} {st : St} (j : Nat) {T : TypeId} {sz : Nat} {xs : List PV} (hj : st.own[j]? = some (.arr T sz xs)) (hn : B.own0.length ≤ j) : Conv B st ⟨st.n, frMap (V.frz j xs) st.fr, (st.own.map (Res.map (V.frz j xs))).set j .dead⟩ := by
  refine ⟨rfl, fun E F a w hI => ⟨E, _, hI.freeze hj hn, fun X b hb => ?_⟩⟩
  rcases hb with hb | ⟨i, hi, hF⟩
  · refine .inl ?_
    rintro (c | ⟨i, c⟩)
    · exact hb (.inl c)
    · by_cases e : i = j
      · subst e; rw [pushF_self] at c; exact c
      · rw [pushF_ne i e] at c; exact hb (.inr ⟨i, c⟩)
  · by_cases e : i = j
    · subst e
      refine .inl ?_
      rintro (c | ⟨i', c⟩)
      · have h1 := hI.bd b c
        rcases hI.fresh i b hF with h2 | h2
        · exact hI.low0 i hn b h2
        · omega
      · by_cases e' : i' = i
        · subst e'; rw [pushF_self] at c; exact c
        · rw [pushF_ne i' e'] at c; exact hI.apart i' i e' b c hF
    · exact .inr ⟨i, hi, by rw [pushF_ne i e]; exact hF⟩
theorem Conv.hollow {B : Base} {st : St} (t : Nat) (T : TypeId) (sz : Nat) (hsz : 0 < sz) (ht : look st.fr t = some (.p .nils)) : Conv B st ⟨st.n, (t, .vw st.own.length sz 0 0 none) :: st.fr, st.own ++ [.arr T sz []]⟩ := by
  refine ⟨rfl, fun E F a w hI => ?_⟩
  have h1 := hI.newHollow (Keeps.refl _ w) T hsz
  refine ⟨_, _, ⟨h1.n, h1.en, fun t' v hv => ?_, h1.defers, h1.held, h1.apart, h1.low, h1.keep, h1.fresh, h1.olen, h1.pin, h1.bd, h1.low0, h1.rc⟩, fun _ _ h => h⟩
  rw [look_cons] at hv
  split at hv
  · rename_i e
    subst e
    cases hv
    have := (hI.slot _ _ ht).nils_inv
    rw [this]
    exact .vwn _ _ none _ (by simp [Ev.push, hI.en]) (by simp [Ev.push, hI.en]) (by simp [Ev.push, hI.en]) rfl
  · exact h1.slot t' v hv
theorem Conv.hollowC {B : Base} {st : St} (i p : Nat) (T : TypeId) (sz : Nat) (hsz : 0 < sz) {T' : TypeId} {cells : List V} (hi : st.own[i]? = some (.st T' cells)) (hp : cells[p]? = some (.p .nils)) :
    Conv B st ⟨st.n, st.fr, st.own.set i (.st T' (cells.set p (.vw st.own.length sz 0 0 none))) ++ [.arr T sz []]⟩ := by
  refine ⟨rfl, fun E F a w hI => ?_⟩
  have h1 := hI.newHollow (Keeps.refl _ w) T hsz
  have hil := lt_of_some hi
  have hset : st.own.set i (.st T' (cells.set p (.vw st.own.length sz 0 0 none))) ++ [Res.arr T sz []] = (st.own ++ [Res.arr T sz []]).set i (.st T' (cells.set p (.vw st.own.length sz 0 0 none))) := by
    rw [List.set_append_left _ _ hil]
  rw [hset]
  refine ⟨_, _, h1.set1 (j := i) (by simp; omega) (Keeps.refl _ w) ?_ (fun T2 c h => ?_), fun _ _ h => h⟩
  · have hh := h1.held i (.st T' cells) (by rw [List.getElem?_append_left hil]; exact hi)
    obtain ⟨g0, g1, vals, g2, g3⟩ := hh
    refine ⟨g0, g1, vals, g2, ?_⟩
    obtain ⟨x, hx, hd⟩ := g3.get hp
    have := hd.nils_inv; subst this
    have hset2 : vals.set p (.slice none 0 0) = vals := by
      obtain ⟨hlt, he⟩ := List.getElem?_eq_some_iff.1 hx
      rw [← he]; exact List.set_getElem_self hlt
    have := g3.set (c := .vw st.own.length sz 0 0 none) (v := .slice none 0 0) (.vwn _ _ none _ (by simp [Ev.push, hI.en]) (by simp [Ev.push, hI.en]) (by simp [Ev.push, hI.en]) rfl) p
    rwa [hset2] at this
  · rw [List.getElem?_append_left hil, hi] at h; cases h; exact ⟨_, rfl⟩
inductive Ref : V → V → Prop
  | refl (v : V) : Ref v v
  | any (v : V) : Ref v .any
  | nils : Ref (.p .nils) (.p (.sl []))
  | e0 : Ref (.p .e0) (.p (.sl []))
theorem Ref.den {v u : V} (h : Ref v u) {H : Hp} {E : Ev} {x : Value} (hd : V.Den H E v x) : V.Den H E u x := by
  cases h with
  | refl => exact hd
  | any => exact .any _
  | nils => rw [hd.nils_inv]; exact .p _ _ (.sle none 0 fun _ => rfl)
  | e0 =>
    cases hd with
    | p _ _ h => cases h with | e0 a => exact .p _ _ (.sle a 0 fun _ => rfl)
theorem Conv.slot {B : Base} {st : St} (t : Nat) {v u : V} (ht : look st.fr t = some v) (h : Ref v u) : Conv B st { st with fr := (t, u) :: st.fr } := by
  refine ⟨rfl, fun E F a w h1 => ⟨E, F, ⟨h1.n, h1.en, fun t' v' hv => ?_, h1.defers, h1.held, h1.apart, h1.low, h1.keep, h1.fresh, h1.olen, h1.pin, h1.bd, h1.low0, h1.rc⟩, fun _ _ h => h⟩⟩
  rw [look_cons] at hv
  split at hv
  · rename_i e; subst e; cases hv; exact h.den (h1.slot _ _ ht)
  · exact h1.slot t' v' hv
/-! ### Loops -/
mutual
def V.fit (n : Nat) : V → Bool
  | .own i _ => Nat.blt i n
  | .ap i _ _ _ => Nat.blt i n
  | .vw i _ _ _ _ => Nat.blt i n
  | .agg cs => V.fits n cs
  | .fn _ cs => V.fits n cs
  | .tup cs => V.fits n cs
  | .p _ => true
  | .any => true
  | .raw _ => true
  | .imm _ _ _ => true
def V.fits (n : Nat) : List V → Bool
  | [] => true
  | c :: r => match V.fit n c with
    | true => V.fits n r
    | false => false
end
theorem fits_mem {n : Nat} : ∀ {l : List V}, V.fits n l = true → ∀ v ∈ l, V.fit n v = true
  | [], _, v, hv => by cases hv
  | c :: r, h, v, hv => by
    simp only [V.fits] at h
    split at h
    · rename_i hc
      rcases List.mem_cons.1 hv with e | e
      · rw [e]; exact hc
      · exact fits_mem h v e
    · cases h
theorem blt_lt {a b : Nat} (h : Nat.blt a b = true) : a < b := Nat.lt_of_succ_le (Nat.le_of_ble_eq_true h)
theorem V.Den.fit {H : Hp} {E : Ev} {n : Nat} {x : V} {v : Value} (h : V.Den H E x v) (hf : V.fit n x = true) : V.Den H { E with n := n } x v := by
  induction h with
  | p x v h => exact .p x v h
  | any v => exact .any v
  | raw v => exact .raw v
  | own i off h => exact .own i off (blt_lt hf)
  | ap i sz k o h hn hz => exact .ap i sz k o (blt_lt hf) hn hz
  | imm sz y o b off val hw hs hd => exact .imm sz y o b off val hw hs hd
  | vwn i sz cap a h hn hz hc => exact .vwn i sz cap a (blt_lt hf) hn hz hc
  | vw i sz off n cap a c h hn hc hk hl hx hz ha => exact .vw i sz off n cap a c (blt_lt hf) hn hc hk hl hx hz ha
  | agg cs xs h1 _ ih => exact .agg cs xs h1 fun i c v hc hv => ih i c v hc hv (fits_mem hf c (List.mem_of_getElem? hc))
  | fn f cs xs h1 _ ih => exact .fn f cs xs h1 fun i c v hc hv => ih i c v hc hv (fits_mem hf c (List.mem_of_getElem? hc))
  | tup cs xs h1 _ ih => exact .tup cs xs h1 fun i c v hc hv => ih i c v hc hv (fits_mem hf c (List.mem_of_getElem? hc))
def frFit (n : Nat) : List (Nat × V) → Bool
  | [] => true
  | (_, v) :: r => match V.fit n v with
    | true => frFit n r
    | false => false
theorem frFit_look {n : Nat} : ∀ {fr : List (Nat × V)}, frFit n fr = true → ∀ t v, look fr t = some v → V.fit n v = true
  | [], _, t, v, h => by cases h
  | (k, u) :: r, hf, t, v, h => by
    simp only [frFit] at hf
    split at hf
    · rename_i hu
      rw [look_cons] at h
      split at h
      · cases h; exact hu
      · exact frFit_look hf t v h
    · cases hf
def ownFit (n : Nat) : List Res → Bool
  | [] => true
  | .st _ cs :: r => match V.fits n cs with
    | true => ownFit n r
    | false => false
  | _ :: r => ownFit n r
theorem ownFit_get {n : Nat} : ∀ {own : List Res}, ownFit n own = true → ∀ (i : Nat) (T : TypeId) (cs : List V), own[i]? = some (.st T cs) → V.fits n cs = true
  | r :: rest, hf, i, T, cs, h => by
    cases i with
    | zero =>
      simp at h; subst h
      simp only [ownFit] at hf
      split at hf
      · assumption
      · cases hf
    | succ i =>
      refine ownFit_get (own := rest) ?_ i T cs (by simpa using h)
      cases r with
      | st T' cs' =>
        simp only [ownFit] at hf
        split at hf
        · exact hf
        · cases hf
      | arr _ _ _ => exact hf
      | dead => exact hf
theorem Inv.trim {B : Base} {n : Nat} {fr : List (Nat × V)} {own ex : List Res} {E : Ev} {F : Nat → NP} {a : Act} {w : World} (hI : Inv B ⟨n, fr, own ++ ex⟩ E F a w)
    (h1 : frFit own.length fr = true) (h2 : ownFit own.length own = true) (hp : B.own0.length ≤ own.length) : Inv B ⟨n, fr, own⟩ { E with n := own.length } (fun i k => i < own.length ∧ F i k) a w := by
  have hle : Hp.Le ⟨nowM B F, w⟩ ⟨nowM B (fun i k => i < own.length ∧ F i k), w⟩ := ⟨rfl, rfl, rfl, Nat.le_refl _, fun k _ hm => ⟨rfl, fun c => hm (by
    rcases c with c | ⟨i, _, c⟩
    · exact .inl c
    · exact .inr ⟨i, c⟩)⟩⟩
  have hget : ∀ (i : Nat) (r : Res), own[i]? = some r → (own ++ ex)[i]? = some r := fun i r hr => by
    rw [List.getElem?_append_left (lt_of_some hr)]; exact hr
  refine ⟨hI.n, rfl, fun t v ht => ?_, hI.defers.sub fun i k c => ⟨i, c.2⟩, fun i r hr => ?_, fun i j hij k c d => hI.apart i j hij k c.2 d.2, fun i hi k c => absurd c.1 (by simp only at hi; omega), hI.keep, fun i k c => hI.fresh i k c.2, hp, fun i T c hb => ?_, hI.bd, hI.low0, hI.rc⟩
  · exact ((hI.slot t v ht).mono hle (.refl E)).fit (frFit_look h1 t v ht)
  · have hil := lt_of_some hr
    have hF : (fun i k => i < own.length ∧ F i k) i = F i := funext fun k => propext ⟨fun c => c.2, fun c => ⟨hil, c⟩⟩
    have hh := hI.held i r (hget i r hr)
    cases r with
    | st T cells =>
      obtain ⟨g0, g1, vals, g2, g3⟩ := hh
      have hfc := ownFit_get h2 i T cells hr
      exact ⟨g0, fun k => by rw [hF]; exact g1 k, vals, g2, g3.1, fun j c v hc hv => ((g3.2 j c v hc hv).mono hle (.refl E)).fit (fits_mem hfc c (List.mem_of_getElem? hc))⟩
    | arr T sz xs =>
      obtain ⟨g0, g1, g2, g3, g⟩ := hh
      refine ⟨g0, g1, g2, g3, ?_⟩
      rcases g with ⟨a1, a2, a3⟩ | ⟨a1, a2, a3, a4, c, a5, a6, val, a7⟩
      · exact .inl ⟨a1, a2, fun k => by rw [hF]; exact a3 k⟩
      · exact .inr ⟨a1, fun k => by rw [hF]; exact a2 k, a3, a4, c, a5, a6, val, fun j u hj => ⟨(a7 j u hj).1, (a7 j u hj).2.mono hle⟩⟩
    | dead => intro k; rw [hF]; exact hh k
  · obtain ⟨h3, c', h4⟩ := hI.pin i T c hb
    have hil : i < own.length := Nat.lt_of_lt_of_le (lt_of_some hb) hp
    rw [List.getElem?_append_left hil] at h4
    exact ⟨h3, c', h4⟩
def FrLe (fr : List (Nat × V)) : List (Nat × V) → Prop
  | [] => True
  | (t, v) :: r => look fr t = some v ∧ FrLe fr r
theorem FrLe.look {fr : List (Nat × V)} : ∀ {l : List (Nat × V)}, FrLe fr l → ∀ t v, look l t = some v → look fr t = some v
  | [], _, t, v, h => by simp [Lx.look] at h
  | (s, u) :: r, hl, t, v, h => by
    rw [look_cons] at h
    split at h
    · rename_i e; subst e; cases h; exact hl.1
    · exact FrLe.look hl.2 t v h
def VcAny (B : Base) (P : Program) (E : TEnv) (c : Code) (st : St) (Q : Exit → St → Prop) : Prop :=
  ∀ add sub mul quo rem band bor bxor bclr shl shr ieq ilt ile seq slt beq bnot orb bcond iwrap iof ssz,
    ArEq add sub mul quo rem band bor bxor bclr shl shr ieq ilt ile seq slt beq bnot orb bcond iwrap iof ssz →
    ∀ cat sq sl imin imax smin smax len slen u8, LrEq cat sq sl imin imax smin smax len slen u8 →
    ∀ op, (∀ o X st k, OpEv B P o X st k → op o X st k) → ∀ call, (∀ f l X st k, CallEv B P f l X st k → call f l X st k) → ∀ code, (∀ c st Q, CodeEv B P c st Q → code c st Q) →
    vcC ⟨⟨⟨add, sub, mul, quo, rem, band, bor, bxor, bclr, shl, shr, ieq, ilt, ile, seq, slt, beq, bnot, orb, bcond, iwrap, iof, ssz⟩, cat, sq, sl, imin, imax, smin, smax, len, slen, u8⟩, op, call, code⟩ E c st Q
theorem VcAny.ok {B : Base} {P : Program} {E : TEnv} (hE : TOk P E) (hF : FOk P E) {c : Code} {st : St} {Q : Exit → St → Prop} (h : VcAny B P E c st Q) : CodeEv B P c st Q :=
  vc_ok hE hF _ _ _ (h _ _ _ _ _ _ _ _ _ _ _ _ _ _ _ _ _ _ _ _ _ _ _ ArEq.std _ _ _ _ _ _ _ _ _ _ LrEq.std _ (fun _ _ _ _ h => h) _ (fun _ _ _ _ _ h => h) _ (fun _ _ _ h => h))
def Round {ι : Type} (n pn : Nat) (fr : ι → List (Nat × V)) (own : ι → List Res) (Iv : ι → Prop) (μ : ι → Nat) (i : ι) (st : St) : Prop :=
  ∃ j ex, μ j < μ i ∧ Iv j ∧ st.n = n ∧ FrLe st.fr (fr j) ∧ st.own = own j ++ ex ∧ frFit (own j).length (fr j) = true ∧ ownFit (own j).length (own j) = true ∧ pn ≤ (own j).length
def loopQ (rd : St → Prop) (Q : Exit → St → Prop) (e : Exit) (st : St) : Prop :=
  match e with
  | .normal => rd st
  | .exit id => Q (.exit id) st
  | .goto l => Q (.goto l) st
  | .ret => Q .ret st
  | .panic ch => Q (.panic ch) st
  | .outgrown => Q .outgrown st
theorem CodeEv.loop {B : Base} {P : Program} {E : TEnv} (hE : TOk P E) (hF : FOk P E) {st : St} {body : Code} {Q : Exit → St → Prop} {ι : Type} (fr : ι → List (Nat × V)) (own : ι → List Res) (Iv : ι → Prop) (μ : ι → Nat)
    (i0 : ι) (h0 : FrLe st.fr (fr i0) ∧ st.own = own i0 ∧ Iv i0)
    (round : ∀ i, Iv i → ∀ rd : St → Prop, (∀ st', Round st.n B.own0.length fr own Iv μ i st' → rd st') → VcAny B P E body ⟨st.n, fr i, own i⟩ (loopQ rd Q)) :
    CodeEv B P (.loop body) st Q := by
  intro E0 F a w hI
  refine wpA_loop_ghost (fun n a' w' => ∃ i E' F', μ i = n ∧ Iv i ∧ Inv B ⟨st.n, fr i, own i⟩ E' F' a' w') (μ i0) ?_ ?_
  · refine ⟨i0, E0, F, rfl, h0.2.2, ?_⟩
    have := hI.weaken (fr i0) h0.1.look
    obtain ⟨n, f, o⟩ := st
    have ho : o = own i0 := h0.2.1
    rw [← ho]; exact this
  · rintro n a' w' ⟨i, E', F', rfl, hiv, hI'⟩
    refine wpA_mono ((round i hiv _ (fun _ h => h)).ok hE hF E' F' a' w' hI') ?_
    rintro e a2 w2 ⟨st2, E2, F2, hI2, hq⟩
    cases e with
    | normal =>
      obtain ⟨j, ex, hlt, hjv, hn, hfr, hown, hf1, hf2, hpn⟩ := hq
      have := hI2.weaken (fr j) hfr.look
      obtain ⟨n2, f2, o2⟩ := st2
      simp only at hown hn
      subst hown hn
      exact ⟨μ j, hlt, j, _, _, rfl, hjv, Inv.trim this hf1 hf2 hpn⟩
    | exit id => exact ⟨st2, E2, F2, hI2, hq⟩
    | goto l => exact ⟨st2, E2, F2, hI2, hq⟩
    | ret => exact ⟨st2, E2, F2, hI2, hq⟩
    | panic ch => exact ⟨st2, E2, F2, hI2, hq⟩
    | outgrown => exact ⟨st2, E2, F2, hI2, hq⟩
/-! ### Regions that draw their order -/
def stepD (P : Program) (ops : Array Oper) (o : Oper) (a : Act) (w : World) (K : Value → World → Prop) : Prop :=
  if Region.wanted o (yielded ops a.tmps) = true then resOf P o a w K else K undef w
theorem stepD.mono {P : Program} {ops : Array Oper} {o : Oper} {a : Act} {w : World} {K K' : Value → World → Prop} (h : stepD P ops o a w K) (hk : ∀ v w', K v w' → K' v w') : stepD P ops o a w K' := by
  unfold stepD at *
  split
  · rename_i hw; rw [if_pos hw] at h; exact h.mono hk
  · rename_i hw; rw [if_neg hw] at h; exact hk _ _ h
theorem stepD.put {P : Program} {ops : Array Oper} {oi oj : Oper} {a : Act} {w : World} {v : Value} {K : Value → World → Prop} (hsj : ∀ cs b, oj.op ≠ .select cs b) (h1 : ∀ d, oi.dst = some d → d ∉ oj.looksAt ops)
    (h : stepD P ops oj (a.put oi.dst v) w K) : stepD P ops oj a w K := by
  unfold stepD resOf at *
  rw [wanted_put oj a oi.dst v h1, execOp_put oj hsj a oi.dst v h1] at h
  exact h
def DA (P : Program) (ops : Array Oper) (Q : Act → World → Prop) (A : Nat → Prop) : Nat → NP → Array Bool → Act → World → Prop
  | 0, _, listed, a, w => Region.ready .any ops listed = [] ∧ Q a w
  | fuel + 1, D, listed, a, w => (Region.ready .any ops listed = [] → Q a w) ∧
    ∀ i ∈ Region.ready .any ops listed, ∃ o, ops[i]? = some o ∧ stepD P ops o a w fun v w' => ∃ D', Prot D w w' ∧ (∀ k, k < w.heap.size → D k → D' k) ∧ (A i ∨ w' = w) ∧ DA P ops Q A fuel D' (listed.setIfInBounds i true) (a.put o.dst v) w'
theorem DA.more {P : Program} {ops : Array Oper} {Q : Act → World → Prop} {A A' : Nat → Prop} (hA : ∀ i, A i → A' i) : ∀ (fuel : Nat) (D : NP) (listed : Array Bool) (a : Act) (w : World), DA P ops Q A fuel D listed a w → DA P ops Q A' fuel D listed a w
  | 0, _, _, _, _, h => h
  | fuel + 1, D, listed, a, w, h => ⟨h.1, fun i hi => by
    obtain ⟨o, ho, hs⟩ := h.2 i hi
    exact ⟨o, ho, hs.mono fun v w' ⟨D', h1, h2, h3, h4⟩ => ⟨D', h1, h2, h3.imp (hA i) fun h => h, DA.more hA fuel D' _ _ _ h4⟩⟩⟩
theorem DA.any {r : Option Nat} {P : Program} {ops : Array Oper} {A : Nat → Prop} {Q : Act → World → Prop} {Q' : Exit → Act → World → Prop} (hQ : ∀ a w, Q a w → Q' .normal a w) : ∀ (fuel : Nat) (D : NP) (listed : Array Bool) (a : Act) (w : World),
    DA P ops Q A fuel D listed a w → wpAnyIn (WF r) 9 P .any ops Q' fuel listed a w
  | 0, _, _, _, _, h => ⟨h.1, hQ _ _ h.2⟩
  | fuel + 1, D, listed, a, w, h => ⟨fun h0 => hQ _ _ (h.1 h0), fun i hi => by
    obtain ⟨o, ho, hs⟩ := h.2 i hi
    unfold wpOpIn
    simp only [ho]
    unfold stepD at hs
    split
    · rename_i hw
      rw [if_pos hw] at hs
      exact (resOf_wpA hs fun v w' ⟨D', _, _, _, hd⟩ => DA.any hQ fuel D' _ _ _ hd)
    · rename_i hw
      rw [if_neg hw] at hs
      obtain ⟨D', _, _, _, hd⟩ := hs
      exact ⟨fun _ _ => trivial, DA.any hQ fuel D' _ _ _ hd⟩⟩
def YieldsD (P : Program) (ops : Array Oper) (D : NP) (o : Oper) (v : Value) (a : Act) (w : World) : Prop :=
  (Region.wanted o (yielded ops a.tmps) = true ∧ ∀ w', Prot D w w' → (execOp a.eval o).run P w' = .ok (.value v) w') ∨ (Region.wanted o (yielded ops a.tmps) = false ∧ v = undef)
theorem YieldsD.step {P : Program} {ops : Array Oper} {D : NP} {o : Oper} {v : Value} {a : Act} {w : World} (h : YieldsD P ops D o v a w) {K : Value → World → Prop} (hk : K v w) : stepD P ops o a w K := by
  unfold stepD resOf
  rcases h with ⟨hw, hr⟩ | ⟨hw, rfl⟩
  · rw [if_pos hw, hr w (Prot.refl _ _)]; exact hk
  · rw [if_neg (by rw [hw]; simp)]; exact hk
theorem DA.first {P : Program} {ops : Array Oper} {A : Nat → Prop} {Q : Act → World → Prop} {i : Nat} {oi : Oper} {v : Value} (hi : ops[i]? = some oi) (hsel : ∀ (j : Nat) (o : Oper) cs b, ops[j]? = some o → o.op ≠ .select cs b) :
    ∀ (fuel : Nat) (D : NP) (listed : Array Bool) (a : Act) (w : World),
      (∀ j oj, ops[j]? = some oj → j ≠ i → listed.getD j true = false → (∀ e ∈ oj.after, Region.binds .any e = true → e.on ≠ i) → oi.apart ops oj = true) →
      i ∈ Region.ready .any ops listed → YieldsD P ops D oi v a w →
      DA P ops Q A fuel D (listed.setIfInBounds i true) (a.put oi.dst v) w → DA P ops Q A (fuel + 1) D listed a w := by
  intro fuel
  induction fuel with
  | zero =>
    intro D listed a w _ hr hy H
    refine ⟨fun h => (by rw [h] at hr; cases hr), fun j hj => ?_⟩
    by_cases hji : j = i
    · subst hji; exact ⟨oi, hi, hy.step ⟨D, Prot.refl _ _, fun _ _ h => h, .inr rfl, H⟩⟩
    · have := ready_mono hj hji
      rw [H.1] at this
      cases this
  | succ fuel ih =>
    intro D listed a w hfree hr hy H
    refine ⟨fun h => (by rw [h] at hr; cases hr), fun j hj => ?_⟩
    by_cases hji : j = i
    · subst hji; exact ⟨oi, hi, hy.step ⟨D, Prot.refl _ _, fun _ _ h => h, .inr rfl, H⟩⟩
    · obtain ⟨oj, hoj, h1⟩ := H.2 j (ready_mono hj hji)
      obtain ⟨hjun, oj', hoj', hall⟩ := mem_ready.1 hj
      rw [hoj] at hoj'; cases hoj'
      have hnot : ∀ e ∈ oj.after, Region.binds .any e = true → e.on ≠ i := fun e he hb heq => by
        have h1 := hall e he hb
        have h0 := (mem_ready.1 hr).1
        rw [heq] at h1
        rcases Nat.lt_or_ge i listed.size with h' | h'
        · simp [h'] at h0 h1; rw [h0] at h1; cases h1
        · simp [Array.getElem?_eq_none h'] at h1
      have hap := hfree j oj hoj hji hjun hnot
      obtain ⟨a1, a2, a3⟩ := Oper.apart_spec hap
      have hfree' : ∀ k ok, ops[k]? = some ok → k ≠ i → (listed.setIfInBounds j true).getD k true = false →
          (∀ e ∈ ok.after, Region.binds .any e = true → e.on ≠ i) → oi.apart ops ok = true := fun k ok hk hki hun hno => by
        refine hfree k ok hk hki ?_ hno
        by_cases hjk : j = k
        · subst hjk; exact hjun
        · rw [getD_set_ne true hjk] at hun; exact hun
      refine ⟨oj, hoj, (h1.put (fun cs b => hsel j oj cs b hoj) a1).mono ?_⟩
      rintro u w' ⟨D', hp, hd, hpu, h3⟩
      refine ⟨D', hp, hd, hpu, ih D' _ _ w' hfree' (ready_mono hr (Ne.symm hji)) ?_ ?_⟩
      · rcases hy with ⟨hw, hrun⟩ | ⟨hw, hv⟩
        · refine .inl ⟨by rw [wanted_put oi a oj.dst u a3]; exact hw, fun w2 hw2 => ?_⟩
          rw [execOp_put oi (fun cs b => hsel i oi cs b hi) a oj.dst u a3]
          exact hrun w2 (hp.trans hw2 hd)
        · exact .inr ⟨by rw [wanted_put oi a oj.dst u a3]; exact hw, hv⟩
      · rw [Array.setIfInBounds_comm _ _ hji, ← Act.put_comm a v u a2]
        exact h3
/-! What is read ahead of every act that may turn it. -/
def Closed (ops : Array Oper) (listed : Array Bool) : Prop := ∀ (k : Nat) (ok : Oper), ops[k]? = some ok → listed.getD k false = true → ∀ e ∈ ok.after, Region.binds .any e = true → listed.getD e.on false = true
inductive Dep (ops : Array Oper) : Nat → Nat → Prop
  | one {j i : Nat} {oj : Oper} {e : _} (h : ops[j]? = some oj) (he : e ∈ oj.after) (hb : Region.binds .any e = true) (hi : e.on = i) : Dep ops j i
  | more {j i : Nat} {oj : Oper} {e : _} (h : ops[j]? = some oj) (he : e ∈ oj.after) (hb : Region.binds .any e = true) (hi : Dep ops e.on i) : Dep ops j i
theorem Dep.listed {ops : Array Oper} {listed : Array Bool} (hc : Closed ops listed) {j i : Nat} (h : Dep ops j i) : ∀ {oj : Oper}, ops[j]? = some oj → (∀ e ∈ oj.after, Region.binds .any e = true → listed.getD e.on false = true) → listed.getD i false = true := by
  induction h with
  | one h he hb hi => intro oj hoj hall; rw [h] at hoj; cases hoj; rw [← hi]; exact hall _ he hb
  | @more j i oj' e h he hb hd ih =>
    intro oj hoj hall
    rw [h] at hoj; cases hoj
    have hl := hall _ he hb
    have : ∃ oe, ops[e.on]? = some oe := by cases hd with | one h' _ _ _ => exact ⟨_, h'⟩ | more h' _ _ _ => exact ⟨_, h'⟩
    obtain ⟨oe, hoe⟩ := this
    exact ih hoe fun e' he' hb' => hc _ oe hoe hl e' he' hb'
def afterIn (i : Nat) (S : List Nat) : List Edge → Bool
  | [] => false
  | e :: r => match Region.binds .any e && (Nat.beq e.on i || memN e.on S) with
    | true => true
    | false => afterIn i S r
def depsL (i : Nat) : List Oper → Nat → List Nat → List Nat
  | [], _, S => S
  | o :: r, j, S => match afterIn i S o.after.toList with
    | true => depsL i r (j + 1) (j :: S)
    | false => depsL i r (j + 1) S
theorem afterIn_ok {i : Nat} {S : List Nat} : ∀ {l : List Edge}, afterIn i S l = true → ∃ e ∈ l, Region.binds .any e = true ∧ (e.on = i ∨ e.on ∈ S)
  | e :: r, h => by
    unfold afterIn at h
    split at h
    · rename_i hb
      simp only [Bool.and_eq_true, Bool.or_eq_true, Nat.beq_eq] at hb
      exact ⟨e, by simp, hb.1, hb.2.imp (fun h => h) fun h => memN_iff.1 h⟩
    · obtain ⟨e', h1, h2⟩ := afterIn_ok (l := r) h
      exact ⟨e', by simp [h1], h2⟩
theorem depsL_ok {ops : Array Oper} {i : Nat} : ∀ (l : List Oper) (j : Nat) (S : List Nat), (∀ k o, l[k]? = some o → ops[j + k]? = some o) → (∀ x ∈ S, Dep ops x i) → ∀ x ∈ depsL i l j S, Dep ops x i
  | [], j, S, _, hS, x, hx => hS x hx
  | o :: r, j, S, hl, hS, x, hx => by
    have hr : ∀ k o', r[k]? = some o' → ops[j + 1 + k]? = some o' := fun k o' h => by
      have := hl (k + 1) o' (by simpa using h)
      rwa [show j + (k + 1) = j + 1 + k by omega] at this
    unfold depsL at hx
    split at hx
    · rename_i hb
      obtain ⟨e, he, hb2, hor⟩ := afterIn_ok hb
      refine depsL_ok r (j + 1) (j :: S) hr (fun y hy => ?_) x hx
      rcases List.mem_cons.1 hy with rfl | c
      · have ho : ops[y]? = some o := by simpa using hl 0 o rfl
        have he' : e ∈ o.after := by simpa using he
        rcases hor with h1 | h1
        · exact .one ho he' hb2 h1
        · exact .more ho he' hb2 (hS _ h1)
      · exact hS y c
    · exact depsL_ok r (j + 1) S hr hS x hx
theorem Closed.step {ops : Array Oper} {listed : Array Bool} (hc : Closed ops listed) {j : Nat} (hj : j ∈ Region.ready .any ops listed) : Closed ops (listed.setIfInBounds j true) := by
  obtain ⟨h0, oj, hoj, hall⟩ := mem_ready.1 hj
  intro k ok hk hl e he hb
  by_cases hjk : k = j
  · subst hjk
    rw [hoj] at hk; cases hk
    exact getD_set_true (hall e he hb)
  · have hl' : listed.getD k false = true := by rwa [getD_set_ne false (Ne.symm hjk)] at hl
    exact getD_set_true (hc k ok hk hl' e he hb)
theorem DA.firstS {P : Program} {ops : Array Oper} {A : Nat → Prop} {Q : Act → World → Prop} {i : Nat} {oi : Oper} {v : Value} (hi : ops[i]? = some oi) (hsel : ∀ (j : Nat) (o : Oper) cs b, ops[j]? = some o → o.op ≠ .select cs b)
    (hdep : ∀ j, A j → Dep ops j i) :
    ∀ (fuel : Nat) (D : NP) (listed : Array Bool) (a : Act) (w : World), Closed ops listed →
      (∀ j oj, ops[j]? = some oj → j ≠ i → listed.getD j true = false → (∀ e ∈ oj.after, Region.binds .any e = true → e.on ≠ i) → oi.apart ops oj = true) →
      i ∈ Region.ready .any ops listed → ((Region.wanted oi (yielded ops a.tmps) = true ∧ (execOp a.eval oi).run P w = .ok (.value v) w) ∨ (Region.wanted oi (yielded ops a.tmps) = false ∧ v = undef)) →
      DA P ops Q A fuel D (listed.setIfInBounds i true) (a.put oi.dst v) w → DA P ops Q A (fuel + 1) D listed a w := by
  intro fuel
  have yst : ∀ {a : Act} {w : World}, ((Region.wanted oi (yielded ops a.tmps) = true ∧ (execOp a.eval oi).run P w = .ok (.value v) w) ∨ (Region.wanted oi (yielded ops a.tmps) = false ∧ v = undef)) → ∀ {K : Value → World → Prop}, K v w → stepD P ops oi a w K := by
    intro a w h K hk
    unfold stepD resOf
    rcases h with ⟨hw, hr⟩ | ⟨hw, rfl⟩
    · rw [if_pos hw, hr]; exact hk
    · rw [if_neg (by rw [hw]; simp)]; exact hk
  induction fuel with
  | zero =>
    intro D listed a w hcl _ hr hy H
    refine ⟨fun h => (by rw [h] at hr; cases hr), fun j hj => ?_⟩
    by_cases hji : j = i
    · subst hji; exact ⟨oi, hi, yst hy ⟨D, Prot.refl _ _, fun _ _ h => h, .inr rfl, H⟩⟩
    · have := ready_mono hj hji
      rw [H.1] at this
      cases this
  | succ fuel ih =>
    intro D listed a w hcl hfree hr hy H
    refine ⟨fun h => (by rw [h] at hr; cases hr), fun j hj => ?_⟩
    by_cases hji : j = i
    · subst hji; exact ⟨oi, hi, yst hy ⟨D, Prot.refl _ _, fun _ _ h => h, .inr rfl, H⟩⟩
    · obtain ⟨oj, hoj, h1⟩ := H.2 j (ready_mono hj hji)
      obtain ⟨hjun, oj', hoj', hall⟩ := mem_ready.1 hj
      rw [hoj] at hoj'; cases hoj'
      have hiun : listed.getD i false = true → False := fun h => by
        have h0 := (mem_ready.1 hr).1
        rcases Nat.lt_or_ge i listed.size with h' | h'
        · simp [h'] at h0 h; rw [h0] at h; cases h
        · simp [Array.getElem?_eq_none h'] at h
      have hnA : ¬ A j := fun hA => by
        exact hiun ((hdep j hA).listed hcl hoj hall)
      have hnot : ∀ e ∈ oj.after, Region.binds .any e = true → e.on ≠ i := fun e he hb heq => hiun (heq ▸ hall e he hb)
      have hap := hfree j oj hoj hji hjun hnot
      obtain ⟨a1, a2, a3⟩ := Oper.apart_spec hap
      have hfree' : ∀ k ok, ops[k]? = some ok → k ≠ i → (listed.setIfInBounds j true).getD k true = false →
          (∀ e ∈ ok.after, Region.binds .any e = true → e.on ≠ i) → oi.apart ops ok = true := fun k ok hk hki hun hno => by
        refine hfree k ok hk hki ?_ hno
        by_cases hjk : j = k
        · subst hjk; exact hjun
        · rw [getD_set_ne true hjk] at hun; exact hun
      refine ⟨oj, hoj, (h1.put (fun cs b => hsel j oj cs b hoj) a1).mono ?_⟩
      rintro u w' ⟨D', hp, hd, hpu, h3⟩
      obtain rfl : w' = w := hpu.resolve_left hnA
      refine ⟨D', hp, hd, .inr rfl, ih D' _ _ w' (hcl.step hj) hfree' (ready_mono hr (Ne.symm hji)) ?_ ?_⟩
      · rcases hy with ⟨hw, hrun⟩ | ⟨hw, hv⟩
        · refine .inl ⟨by rw [wanted_put oi a oj.dst u a3]; exact hw, ?_⟩
          rw [execOp_put oi (fun cs b => hsel i oi cs b hi) a oj.dst u a3]
          exact hrun
        · exact .inr ⟨by rw [wanted_put oi a oj.dst u a3]; exact hw, hv⟩
      · rw [Array.setIfInBounds_comm _ _ hji, ← Act.put_comm a v u a2]
        exact h3
inductive Md where | rd | sole | act
def anyAct : List (Nat × Md) → Bool
  | [] => false
  | (_, .act) :: _ => true
  | (_, .rd) :: r => anyAct r
  | (_, .sole) :: r => anyAct r
def actsIn (S : List Nat) : List (Nat × Md) → Bool
  | [] => true
  | (_, .rd) :: r => actsIn S r
  | (_, .sole) :: r => actsIn S r
  | (j, .act) :: r => memN j S && actsIn S r
def aheadB (ops : List Oper) (i : Nat) (rest : List (Nat × Md)) : Bool := match anyAct rest with
  | false => true
  | true => actsIn (depsL i ops 0 []) rest
theorem anyAct_no : ∀ {l : List (Nat × Md)}, anyAct l = false → ∀ j, ¬ (j, Md.act) ∈ l
  | [], _, j, hj => by cases hj
  | (k, .rd) :: r, h, j, hj => by
    rcases List.mem_cons.1 hj with c | c
    · cases c
    · exact anyAct_no (l := r) h j c
  | (k, .sole) :: r, h, j, hj => by
    rcases List.mem_cons.1 hj with c | c
    · cases c
    · exact anyAct_no (l := r) h j c
theorem actsIn_ok {S : List Nat} : ∀ {l : List (Nat × Md)}, actsIn S l = true → ∀ j, (j, Md.act) ∈ l → j ∈ S
  | (k, .rd) :: r, h, j, hj => by
    rcases List.mem_cons.1 hj with c | c
    · cases c
    · exact actsIn_ok (l := r) h j c
  | (k, .sole) :: r, h, j, hj => by
    rcases List.mem_cons.1 hj with c | c
    · cases c
    · exact actsIn_ok (l := r) h j c
  | (k, .act) :: r, h, j, hj => by
    simp only [actsIn, Bool.and_eq_true] at h
    rcases List.mem_cons.1 hj with c | c
    · cases c; exact memN_iff.1 h.1
    · exact actsIn_ok h.2 j c
theorem aheadB_ok {ops : Array Oper} {i : Nat} {l : List (Nat × Md)} (h : aheadB ops.toList i l = true) (j : Nat) (hj : (j, Md.act) ∈ l) : Dep ops j i := by
  unfold aheadB at h
  split at h
  · rename_i h0; exact (anyAct_no h0 j hj).elim
  · exact depsL_ok ops.toList 0 [] (fun k o hk => by simpa using hk) (fun x hx => by cases hx) j (actsIn_ok h j hj)
def vcDs (W : Wd) (E : TEnv) (X : Nat → Bool) (ops : List Oper) (Q : St → Prop) : List (Nat × Md) → St → Prop
  | [], st => Q st
  | (i, e) :: rest, st => match ops[i]? with
    | none => False
    | some o => match dstOk st.n o.dst with
      | false => False
      | true => vcGuard ops o st
        (fun st1 => match e with
          | .sole => match rd W.L E noX o.op st1 (fun v => vcDs W E X ops Q rest (st1.upd o.dst v)) with
            | some φ => φ
            | none => False
          | .rd => match rd W.L E (match aheadB ops i rest with | true => noX | false => X) o.op st1 (fun v => vcDs W E X ops Q rest (st1.upd o.dst v)) with
            | some φ => φ
            | none => False
          | .act => vcOp W E o X st1 fun v st2 => vcDs W E X ops Q rest (st2.upd o.dst v))
        (fun st1 => vcDs W E X ops Q rest (st1.upd o.dst unitV))
def schedOk (ops : Array Oper) : Array Bool → List (Nat × Md) → Bool
  | listed, [] => (Region.ready .any ops listed).isEmpty
  | listed, (i, e) :: r => (Region.ready .any ops listed).contains i && (match e with
    | .act => (Region.ready .any ops listed).all fun j => Nat.beq j i
    | .sole => (Region.ready .any ops listed).all fun j => Nat.beq j i
    | .rd => Region.free .any ops listed i) && schedOk ops (listed.setIfInBounds i true) r
theorem vcDs.ok {B : Base} {P : Program} {E : TEnv} (hE : TOk P E) (hF : FOk P E) {X : Nat → Bool} {ops : Array Oper} {Q : St → Prop} (hsel : Region.noSelect ops = true) : ∀ (l : List (Nat × Md)) (listed : Array Bool) (st : St),
    Closed ops listed → schedOk ops listed l = true → vcDs (.std B P) E X ops.toList Q l st → ∀ E0 F a w, Inv B st E0 F a w → DA P ops (fun a w => ∃ st E F, Inv B st E F a w ∧ Q st) (fun j => (j, Md.act) ∈ l) l.length (DD B F X) listed a w
  | [], listed, st, hcl, hs, h, E0, F, a, w, hI => ⟨by simpa [schedOk] using hs, st, E0, F, hI, h⟩
  | (i, e) :: rest, listed, st, hcl, hs, h, E0, F, a, w, hI => by
    simp only [schedOk, Bool.and_eq_true] at hs
    obtain ⟨⟨hri, hse⟩, hsr⟩ := hs
    have hri : i ∈ Region.ready .any ops listed := by simpa using hri
    have hcl' := hcl.step hri
    have hmore : ∀ j, (j, Md.act) ∈ rest → (j, Md.act) ∈ (i, e) :: rest := fun j hj => List.mem_cons_of_mem _ hj
    unfold vcDs at h
    split at h
    · exact h.elim
    · rename_i o ho
      have ho : ops[i]? = some o := by simpa using ho
      split at h
      · exact h.elim
      · rename_i hd
        obtain ⟨fr', hI1, hg⟩ := vcGuard.ok h hI
        cases e with
        | rd =>
          simp only at hse
          rcases hg with ⟨hw, hrun⟩ | ⟨hw, hskip⟩
          · simp only at hrun
            split at hrun
            · rename_i φ hφ
              obtain ⟨v, x, hv1, hv2, hk⟩ := rd_ok hE hF hφ hrun hI1
              refine DA.more hmore _ _ _ _ _ ?_
              cases hah : aheadB ops.toList i rest with
              | true =>
                simp only [hah] at hv1
                refine DA.firstS ho (Region.noSelect_spec hsel) (aheadB_ok hah) _ _ listed a w hcl (Region.free_spec ho hse) hri (.inl ⟨hw, hv1 w (Prot.refl _ _)⟩) (v := x) ?_
                exact vcDs.ok hE hF hsel rest _ _ hcl' hsr hk E0 F _ w (hI1.updV hv2 hd)
              | false =>
                simp only [hah] at hv1
                refine DA.first ho (Region.noSelect_spec hsel) _ _ listed a w (Region.free_spec ho hse) hri (.inl ⟨hw, fun w' hp => hv1 w' hp⟩) (v := x) ?_
                exact vcDs.ok hE hF hsel rest _ _ hcl' hsr hk E0 F _ w (hI1.updV hv2 hd)
            · exact hrun.elim
          · refine DA.more hmore _ _ _ _ _ ?_
            refine DA.first ho (Region.noSelect_spec hsel) _ _ listed a w (Region.free_spec ho hse) hri (.inr ⟨hw, rfl⟩) ?_
            exact vcDs.ok hE hF hsel rest _ _ hcl' hsr hskip E0 F _ w (hI1.updV unit_den hd)
        | sole =>
          simp only [List.all_eq_true] at hse
          refine ⟨(fun h0 => by rw [h0] at hri; cases hri), fun j hj => ?_⟩
          have hji : j = i := Nat.eq_of_beq_eq_true (hse j hj)
          subst hji
          refine ⟨o, ho, ?_⟩
          unfold stepD resOf
          rcases hg with ⟨hw, hrun⟩ | ⟨hw, hskip⟩
          · rw [if_pos hw]
            simp only at hrun
            split at hrun
            · rename_i φ hφ
              obtain ⟨v, x, hv1, hv2, hk⟩ := rd_ok hE hF hφ hrun hI1
              rw [hv1 w (Prot.refl _ _)]
              exact ⟨DD B F X, Prot.refl _ _, fun _ _ h => h, .inr rfl, DA.more hmore _ _ _ _ _ <| vcDs.ok hE hF hsel rest _ _ hcl' hsr hk E0 F _ w (hI1.updV hv2 hd)⟩
            · exact hrun.elim
          · rw [if_neg (by rw [hw]; simp)]
            exact ⟨DD B F X, Prot.refl _ _, fun _ _ h => h, .inr rfl, DA.more hmore _ _ _ _ _ <| vcDs.ok hE hF hsel rest _ _ hcl' hsr hskip E0 F _ w (hI1.updV unit_den hd)⟩
        | act =>
          simp only [List.all_eq_true] at hse
          refine ⟨(fun h0 => by rw [h0] at hri; cases hri), fun j hj => ?_⟩
          have hji : j = i := Nat.eq_of_beq_eq_true (hse j hj)
          subst hji
          refine ⟨o, ho, ?_⟩
          unfold stepD
          rcases hg with ⟨hw, hrun⟩ | ⟨hw, hskip⟩
          · rw [if_pos hw]
            refine (vcOp.ev hE hF hrun E0 F a w hI1).mono ?_
            rintro x w' ⟨v, st2, E', F', hn, hv, hI', hp, hdd, hk⟩
            exact ⟨DD B F' X, hp, hdd, .inl (by simp), DA.more hmore _ _ _ _ _ <| vcDs.ok hE hF hsel rest _ _ hcl' hsr hk E' F' _ w' (hI'.updV hv (by rw [hn]; exact hd))⟩
          · rw [if_neg (by rw [hw]; simp)]
            exact ⟨DD B F X, Prot.refl _ _, fun _ _ h => h, .inr rfl, DA.more hmore _ _ _ _ _ <| vcDs.ok hE hF hsel rest _ _ hcl' hsr hskip E0 F _ w (hI1.updV unit_den hd)⟩
def VcDraw (B : Base) (P : Program) (E : TEnv) (X : Nat → Bool) (ops : List Oper) (l : List (Nat × Md)) (st : St) (Q : St → Prop) : Prop :=
  ∀ add sub mul quo rem band bor bxor bclr shl shr ieq ilt ile seq slt beq bnot orb bcond iwrap iof ssz,
    ArEq add sub mul quo rem band bor bxor bclr shl shr ieq ilt ile seq slt beq bnot orb bcond iwrap iof ssz →
    ∀ cat sq sl imin imax smin smax len slen u8, LrEq cat sq sl imin imax smin smax len slen u8 →
    ∀ op, (∀ o X st k, OpEv B P o X st k → op o X st k) → ∀ call, (∀ f l X st k, CallEv B P f l X st k → call f l X st k) → ∀ code, (∀ c st Q, CodeEv B P c st Q → code c st Q) → ∀ q : St → Prop, (∀ st, Q st → q st) →
    vcDs ⟨⟨⟨add, sub, mul, quo, rem, band, bor, bxor, bclr, shl, shr, ieq, ilt, ile, seq, slt, beq, bnot, orb, bcond, iwrap, iof, ssz⟩, cat, sq, sl, imin, imax, smin, smax, len, slen, u8⟩, op, call, code⟩ E X ops q l st
def Xof (n0 : Nat) (l : List Nat) (i : Nat) : Bool := match memN i l with
  | true => true
  | false => Nat.ble n0 i
def isRd : Op → Bool
  | .load .. | .fieldAddr .. | .field .. | .build .. | .convert .. | .indexAddr .. | .index .. | .slice .. | .move _ | .assign _ | .pick .. | .extract .. | .binOp .. | .unOp .. | .nilCheck _ | .makeFunc .. => true
  | .call { callee := .builtin .len, .. } | .call { callee := .builtin .max, .. } | .call { callee := .builtin .min, .. } => true
  | _ => false
def pickRd (ops : Array Oper) (listed : Array Bool) : List Nat → Option Nat
  | [] => none
  | i :: r => match ops[i]? with
    | some o => match isRd o.op && Region.free .any ops listed i with
      | true => some i
      | false => pickRd ops listed r
    | none => none
def autoS (ops : Array Oper) : Nat → Array Bool → List (Nat × Md)
  | 0, _ => []
  | n + 1, listed => match Region.ready .any ops listed with
    | [] => []
    | [i] => (i, (match ops[i]? with
      | some o => (match isRd o.op with
        | true => Md.sole
        | false => Md.act)
      | none => Md.act)) :: autoS ops n (listed.setIfInBounds i true)
    | rs => match pickRd ops listed rs with
      | some i => (i, Md.rd) :: autoS ops n (listed.setIfInBounds i true)
      | none => []
theorem CodeEv.draw {B : Base} {P : Program} {E : TEnv} (hE : TOk P E) (hF : FOk P E) {id : Nat} {ops : Array Oper} {st : St} {Q : Exit → St → Prop} (hm : P.follows .mixedOrders = true) (X : Nat → Bool) (l : List (Nat × Md))
    (hl : l.length = ops.size) (hsel : Region.noSelect ops = true) (hs : schedOk ops (Array.replicate ops.size false) l = true) (h : VcDraw B P E X ops.toList l st (Q .normal)) : CodeEv B P (.region id ops true) st Q := by
  intro E0 F a w hI
  refine wpIn_region_any hm ?_
  have hI2 : Inv B st E0 F a { w with drawn := w.drawn + 1 } := hI.world ⟨rfl, rfl, rfl, Nat.le_refl _, fun _ _ _ => rfl⟩
  refine DA.any (A := fun j => (j, Md.act) ∈ l) (Q := fun a w => ∃ st E F, Inv B st E F a w ∧ Q .normal st) (fun a w h => h) _ (DD B F X) _ _ _ ?_
  have hcl : Closed ops (Array.replicate ops.size false) := fun k ok hk hl => by
    have hlt := (Array.getElem?_eq_some_iff.1 hk).1
    simp [hlt] at hl
  have hfin := vcDs.ok hE hF hsel l _ st hcl hs (h _ _ _ _ _ _ _ _ _ _ _ _ _ _ _ _ _ _ _ _ _ _ _ ArEq.std _ _ _ _ _ _ _ _ _ _ LrEq.std _ (fun _ _ _ _ h => h) _ (fun _ _ _ _ _ h => h) _ (fun _ _ _ h => h) _ (fun _ h => h)) E0 F a _ hI2
  rw [hl] at hfin
  exact hfin
theorem CodeEv.drawA {B : Base} {P : Program} {E : TEnv} (hE : TOk P E) (hF : FOk P E) {id : Nat} {ops : Array Oper} {st : St} {Q : Exit → St → Prop} (hm : P.follows .mixedOrders = true) (X : Nat → Bool)
    (hl : (autoS ops ops.size (Array.replicate ops.size false)).length = ops.size) (hsel : Region.noSelect ops = true) (hs : schedOk ops (Array.replicate ops.size false) (autoS ops ops.size (Array.replicate ops.size false)) = true)
    (h : VcDraw B P E X ops.toList (autoS ops ops.size (Array.replicate ops.size false)) st (Q .normal)) : CodeEv B P (.region id ops true) st Q := CodeEv.draw hE hF hm X _ hl hsel hs h
end Go.Lx
set_option linter.unusedSimpArgs false
set_option linter.unusedVariables false
namespace Go.Lx
open Go Go.RowKit
open Go.Sx (NP Keeps Hp none')
def PW (x y : PV) : Prop := ∀ H v, PV.Den H x v → PV.Den H y v
theorem PW.refl (x : PV) : PW x x := fun _ _ h => h
theorem PW.nils : PW .nils (.sl []) := fun _ _ h => by cases h; exact .sle none 0 fun _ => rfl
theorem PW.e0 : PW .e0 (.sl []) := fun _ _ h => by cases h with | e0 a => exact .sle a 0 fun _ => rfl
def PWL : List PV → List PV → Prop
  | [], [] => True
  | x :: r, y :: s => PW x y ∧ PWL r s
  | _, _ => False
theorem PWL.get : ∀ {xs ys : List PV}, PWL xs ys → xs.length = ys.length ∧ ∀ (i : Nat) (y : PV), ys[i]? = some y → ∃ x, xs[i]? = some x ∧ PW x y
  | [], [], _ => ⟨rfl, fun i y h => by simp at h⟩
  | x :: r, y :: s, h => by
    obtain ⟨h1, h2⟩ := PWL.get (xs := r) (ys := s) h.2
    refine ⟨by simp [h1], fun i z hz => ?_⟩
    cases i with
    | zero => simp at hz; subst hz; exact ⟨x, rfl, h.1⟩
    | succ i => exact h2 i z (by simpa using hz)
  | [], _ :: _, h => h.elim
  | _ :: _, [], h => h.elim
theorem PW.tup {xs ys : List PV} (h : PWL xs ys) : PW (.tup xs) (.tup ys) := fun H v hd => by
  obtain ⟨hl, hg⟩ := h.get
  cases hd with
  | tup _ vs h1 h2 =>
    refine .tup ys vs (by rw [h1, hl]) fun i c v hc hv => ?_
    obtain ⟨x, hx, hw⟩ := hg i c hc
    exact hw _ _ (h2 i x v hx hv)
theorem PW.agg {xs ys : List PV} (h : PWL xs ys) : PW (.agg xs) (.agg ys) := fun H v hd => by
  obtain ⟨hl, hg⟩ := h.get
  cases hd with
  | agg _ vs h1 h2 =>
    refine .agg ys vs (by rw [h1, hl]) fun i c v hc hv => ?_
    obtain ⟨x, hx, hw⟩ := hg i c hc
    exact hw _ _ (h2 i x v hx hv)
theorem FnL.flat {P : Program} {f : FuncId} {args : List V} {R R' : V → List Res → Prop} (h : FnL P f args [] R) (hr : ∀ v own', R v own' → ∃ x y, v = .p x ∧ PW x y ∧ R' (.p y) []) : FnL P f args [] R' := by
  refine ⟨h.1, fun H E Fs vals h1 h2 h3 h4 => Calls.mono (h.2 H E Fs vals h1 h2 h3 h4) ?_⟩
  rintro e w' ⟨x, v, own', E', Fs', rfl, g2, g3, g4, g5, g6, g7⟩
  obtain ⟨a, b, rfl, hw, hR⟩ := hr _ _ g6
  refine ⟨x, .p b, [], { E' with n := 0 }, fun _ _ => False, rfl, g2, Nat.le_refl _, fun i k h => h.elim, fun i T c hc => by simp at hc, hR, fun M' hM => ?_⟩
  have hM2 : ∀ k, M' k → H.M k ∨ ∃ i, Fs' i k := fun k hk => by
    rcases hM k hk with c | ⟨i, c⟩
    · exact .inl c
    · exact c.elim
  obtain ⟨k1, k2⟩ := g7 M' hM2
  refine ⟨⟨rfl, fun i r hi => by simp at hi, fun i j _ k hk => hk.elim, fun i _ k hk => hk⟩, ?_⟩
  cases k2 with
  | p _ _ hd => exact .p _ _ (hw _ _ hd)
theorem below_of {P : Program} {f : FuncId} {args : List V} {vals : List Value} {w : World} (h : FnL P f args [] fun z own => z = .p (.bool true)) (E : Ev) (hE : E.n = 0) (hd : DenL ⟨none', w⟩ E args vals) :
    Calls P f vals.toArray w fun e w' => e = .returned (.bool true) ∧ Below w.heap.size w w' := by
  refine Calls.mono (h.2 ⟨none', w⟩ E (fun _ _ => False) vals (fun _ h => h.elim) ⟨hE, fun i r hi => by simp at hi, fun i j _ k hk => hk.elim, fun i _ k hk => hk⟩ (fun i k hk => hk.elim) hd) ?_
  rintro e w' ⟨x, v, own', E', Fs', rfl, g2, g3, g4, g5, rfl, g7⟩
  have hx := (g7 none' fun k hk => hk.elim).2
  have : x = .bool true := by
    cases hx with
    | p _ _ h => cases h; rfl
  exact ⟨by rw [this], g2.os, g2.tape, g2.output, g2.size, fun k hk => g2.block k hk fun ⟨i, h⟩ => h⟩
end Go.Lx
set_option linter.unusedSimpArgs false
set_option linter.unusedVariables false
namespace Go.Lx
open Go
open Go.Sx (NP Keeps Hp none')
open Go.ChangeShapes Go.WideShapes Go.ChangeAt Go.RowKit
inductive Sh where
  | int (k : IntKind)
  | bool
  | str
  | sl (b : Nat) (e : Sh)
  | st (fs : List Sh)
mutual
def Sh.n : Sh → Nat
  | .st fs => Sh.nL fs
  | _ => 1
def Sh.nL : List Sh → Nat
  | [] => 0
  | s :: r => s.n + Sh.nL r
end
mutual
/-- What a value of that shape is; K bounds the weights. -/
def Sh.Has (K : Nat) : Sh → PV → Prop
  | .int k, x => ∃ n, x = .int k n ∧ (Lit.int k n).wf = true
  | .bool, x => ∃ b, x = .bool b
  | .str, x => ∃ s : List UInt8, x = .str s ∧ s.length ≤ K
  | .sl b e, x => ∃ xs, x = .sl xs ∧ xs.length * b ≤ K ∧ ∀ y ∈ xs, e.Has K y
  | .st fs, x => ∃ cs, x = .agg cs ∧ Sh.HasL K fs cs
def Sh.HasL (K : Nat) : List Sh → List PV → Prop
  | [], cs => cs = []
  | s :: r, cs => ∃ y cs', s.Has K y ∧ cs = y.cells ++ cs' ∧ Sh.HasL K r cs'
end
mutual
def Sh.okB (P : Program) : Sh → TypeId → Bool
  | .int k, t => match P.underlying t with | some (.int k') => decide (k = k') | _ => false
  | .bool, t => match P.underlying t with | some .bool => true | _ => false
  | .str, t => match P.underlying t with | some .string => true | _ => false
  | .sl b e, t => match P.underlying t with | some (.slice u) => Nat.beq (P.bytesOf u) b && Nat.beq (P.cellsOf u) e.n && Nat.ble 1 e.n && e.okB P u | _ => false
  | .st fs, t => match P.underlying t with | some (.struct gs) => Nat.beq (P.cellsOf t) (Sh.nL fs) && Sh.okL P fs gs.toList 0 | _ => false
def Sh.okL (P : Program) : List Sh → List Field → Nat → Bool
  | [], [], _ => true
  | s :: r, f :: g, o => Nat.beq f.offset o && Nat.beq (P.cellsOf f.type) s.n && s.okB P f.type && Sh.okL P r g (o + s.n)
  | _, _, _ => false
end
def DenC (H : Hp) (ys : List PV) (cs : List Value) : Prop := ys.length = cs.length ∧ (∀ u ∈ ys, u.one = true) ∧ ∀ (j : Nat) (u : PV) (v : Value), ys[j]? = some u → cs[j]? = some v → PV.Den H u v
variable {H : Type} {enc : TypeId × Value → H} {P : Program} {W : World} {held : Bool} {K : Nat}
def Wt (P : Program) (K : Nat) (t : TypeId) (d : DataW H) : Prop := ∀ n ∈ d.weights P t, n ≤ K
theorem wt_all {e : TypeId} : ∀ {ds : List (DataW H)} {i : Nat} {d : DataW H}, ds[i]? = some d → ∀ n ∈ d.weights P e, n ∈ DataW.weightsAll P e ds
  | [], i, d, h, n, hn => by simp at h
  | d0 :: ds, 0, d, h, n, hn => by
    simp only [List.getElem?_cons_zero, Option.some.injEq] at h
    subst h
    simp only [DataW.weightsAll, List.mem_append]; exact .inl hn
  | d0 :: ds, i + 1, d, h, n, hn => by
    simp only [List.getElem?_cons_succ] at h
    simp only [DataW.weightsAll, List.mem_append]; exact .inr (wt_all h n hn)
theorem wt_each {ts : List TypeId} {ds : List (DataW H)} {j t : Nat} {d : DataW H} (h : (DataW.weightsEach P ts ds).all (· ≤ reachBytes) = true) (ht : ts[j]? = some t) (hd : ds[j]? = some d) : Wt P reachBytes t d := by
  intro n hn
  simpa using List.all_eq_true.1 h _ (DataW.weights_mem_each ht hd n hn)
theorem list_choose {α : Type} {Q : Nat → α → Prop} : ∀ (n : Nat), (∀ i, i < n → ∃ v, Q i v) → ∃ vs : List α, vs.length = n ∧ ∀ (i : Nat) (v : α), vs[i]? = some v → Q i v
  | 0, _ => ⟨[], rfl, fun i v h => by simp at h⟩
  | n + 1, h => by
    obtain ⟨vs, h1, h2⟩ := list_choose n fun i hi => h i (by omega)
    obtain ⟨v, hv⟩ := h n (by omega)
    refine ⟨vs ++ [v], by simp [h1], fun i u hu => ?_⟩
    by_cases hi : i < n
    · rw [List.getElem?_append_left (by omega)] at hu; exact h2 i u hu
    · have hlt := (List.getElem?_eq_some_iff.1 hu).1
      simp only [List.length_append, List.length_cons, List.length_nil] at hlt
      have hin : i = n := by omega
      subst hin
      rw [List.getElem?_append_right (by omega), h1, Nat.sub_self] at hu
      simp at hu; subst hu; exact hv
theorem cells_get {w : World} {a : Addr} {n : Nat} {l : List Value} (h : w.cells? 0 a n = some l) : l.length = n ∧ ∀ j x, l[j]? = some x → w.cell? (a.add j) = some x := by
  unfold World.cells? at h
  rw [if_pos (Nat.zero_le _)] at h
  have h1 := mapM_some_length h
  rw [List.length_range] at h1
  refine ⟨h1, fun j x hx => ?_⟩
  have hj : j < n := by have := (List.getElem?_eq_some_iff.1 hx).1; omega
  rw [mapM_some_get h j j (by simp [hj]), hx]
theorem addr_add (b off k : Nat) : (⟨b, off, none⟩ : Addr).add k = ⟨b, off + k, none⟩ := by
  unfold Addr.add; split
  · rename_i h; subst h; rfl
  · rfl
theorem val_of {Hp0 : Hp} {ys : List PV} {cs : List Value} (h : DenC Hp0 ys cs) : ∀ (j : Nat) (u : PV), ys[j]? = some u → ∃ v, cs[j]? = some v ∧ PV.Den Hp0 u v := fun j u hu => by
  have hlt := lt_of_some hu
  have hlt' : j < cs.length := by rw [← h.1]; exact hlt
  exact ⟨cs[j], List.getElem?_eq_getElem hlt', h.2.2 j u _ hu (List.getElem?_eq_getElem hlt')⟩
mutual
theorem read_sh : ∀ (s : Sh) (t : TypeId) (m : Nat) (cs : List Value) (x : DataW H × List MemPlace), Sh.okB P s t = true → DataW.trod enc P W 0 (fun _ => true) held m t cs = some x → Wt P K t x.1 →
    ∃ y, Sh.Has K s y ∧ y.cells.length = s.n ∧ DenC ⟨none', W⟩ y.cells cs
  | .int k, t, m, cs, x, hok, h, hw => by
    unfold Sh.okB at hok
    split at hok
    · rename_i k' hu
      obtain rfl := of_decide_eq_true hok
      obtain ⟨n, rfl, _, hwf⟩ := DataW.trod_int hu h
      exact ⟨.int k n, ⟨n, rfl, hwf⟩, rfl, rfl, by simp [PV.cells, PV.one], fun j u v h1 h2 => by
        cases j with
        | zero => simp [PV.cells] at h1 h2; subst h1 h2; exact .int k n
        | succ j => simp [PV.cells] at h1⟩
    · cases hok
  | .bool, t, m, cs, x, hok, h, hw => by
    unfold Sh.okB at hok
    split at hok
    · rename_i hu
      obtain ⟨b, rfl, _⟩ := DataW.trod_bool hu h
      exact ⟨.bool b, ⟨b, rfl⟩, rfl, rfl, by simp [PV.cells, PV.one], fun j u v h1 h2 => by
        cases j with
        | zero => simp [PV.cells] at h1 h2; subst h1 h2; exact .bool b
        | succ j => simp [PV.cells] at h1⟩
    · cases hok
  | .str, t, m, cs, x, hok, h, hw => by
    unfold Sh.okB at hok
    split at hok
    · rename_i hu
      obtain ⟨s, rfl, hx, hs⟩ := DataW.trod_string hu h
      refine ⟨.str s.data.toList, ⟨_, rfl, ?_⟩, rfl, rfl, by simp [PV.cells, PV.one], fun j u v h1 h2 => ?_⟩
      · rw [hx] at hw
        exact hw _ (by simp [DataW.weights])
      · cases j with
        | zero => simp [PV.cells] at h1 h2; subst h1 h2; exact .str s.data.toList
        | succ j => simp [PV.cells] at h1
    · cases hok
  | .sl b e, t, m, cs, x, hok, h, hw => by
    unfold Sh.okB at hok
    split at hok
    · rename_i u hu
      simp only [Bool.and_eq_true, Nat.beq_eq, Nat.ble_eq] at hok
      obtain ⟨⟨⟨hb, hn⟩, hn1⟩, hoe⟩ := hok
      rcases DataW.trod_slice hu h with ⟨rfl, rfl⟩ | ⟨a, len, cap, elems, rest, m', _, rfl, rfl, _, hl, hm, hlen, hel, hsp, _⟩
      · exact ⟨.sl [], ⟨[], rfl, by simp, by simp⟩, rfl, rfl, by simp [PV.cells, PV.one], fun j u v h1 h2 => by
          cases j with
          | zero => simp [PV.cells] at h1 h2; subst h1 h2; exact .sle none 0 fun _ => rfl
          | succ j => simp [PV.cells] at h1⟩
      · obtain ⟨hrl, _⟩ := hsp rfl
        have hsz : len * b ≤ K := by
          have := hw ((elems.length + rest.length) * P.bytesOf u) (by simp [DataW.weights, hu])
          rw [hlen, hrl, hb] at this
          exact Nat.le_trans (Nat.mul_le_mul_right _ (by omega)) this
        obtain ⟨vs, hvl, hvs⟩ := list_choose (α := PV) (Q := fun i y => Sh.Has K e y ∧ y.cells.length = e.n ∧ ∃ l, W.cells? 0 (a.add (i * e.n)) e.n = some l ∧ DenC ⟨none', W⟩ y.cells l) len fun i hi => by
          have he := hel i hi
          have hi2 : i < elems.length := by omega
          rw [List.getElem?_eq_getElem hi2, hn] at he
          cases hc : W.cells? 0 (a.add (i * e.n)) e.n with
          | none => rw [hc] at he; cases he
          | some l =>
            rw [hc] at he
            obtain ⟨y, h1, h2, h3⟩ := read_sh e u m' l _ hoe he fun q hq => hw q (by
              unfold DataW.weights
              rw [hu]
              refine List.mem_cons_of_mem _ (List.mem_append_left _ ?_)
              exact wt_all (i := i) (d := elems[i].1) (by rw [List.getElem?_map, List.getElem?_eq_getElem hi2]; rfl) q hq)
            exact ⟨y, h1, h2, l, rfl, h3⟩
        have hWf : Wf e.n vs := fun y hy => by
          obtain ⟨i, hi⟩ := List.mem_iff_getElem?.1 hy
          obtain ⟨_, h2, l, _, h3⟩ := hvs i y hi
          exact ⟨h2, h3.2.1⟩
        refine ⟨.sl vs, ⟨vs, rfl, by rw [hvl]; exact hsz, fun y hy => ?_⟩, rfl, rfl, by simp [PV.cells, PV.one], fun j u' v h1 h2 => ?_⟩
        · obtain ⟨i, hi⟩ := List.mem_iff_getElem?.1 hy
          exact (hvs i y hi).1
        cases j with
        | succ j => simp [PV.cells] at h1
        | zero =>
          simp only [PV.cells, List.getElem?_cons_zero, Option.some.injEq] at h1 h2
          subst h1 h2
          by_cases hl0 : len = 0
          · have : vs = [] := List.eq_nil_of_length_eq_zero (by omega)
            subst this
            subst hl0
            exact .sle (some a) cap fun h => by cases h
          · obtain ⟨blk, off, sp⟩ := a
            have hcell : ∀ (j : Nat) (u' : PV), (flat vs)[j]? = some u' → ∃ v, W.cell? ((⟨blk, off, sp⟩ : Addr).add (j / e.n * e.n) |>.add (j % e.n)) = some v ∧ PV.Den ⟨none', W⟩ u' v := fun j u' hj => by
              have hlt := lt_of_some hj
              rw [flat_length hWf] at hlt
              have hpos : 0 < e.n := by omega
              have hq : j / e.n < vs.length := (Nat.div_lt_iff_lt_mul hpos).2 hlt
              obtain ⟨y, hy⟩ : ∃ y, vs[j / e.n]? = some y := ⟨_, List.getElem?_eq_getElem hq⟩
              obtain ⟨_, h2, l, h3, h4⟩ := hvs _ _ hy
              have hr : j % e.n < y.cells.length := by rw [h2]; exact Nat.mod_lt _ hpos
              have hg := flat_get hWf hy (List.getElem?_eq_getElem hr)
              rw [show j / e.n * e.n + j % e.n = j by rw [Nat.mul_comm]; exact Nat.div_add_mod j e.n, hj] at hg
              obtain ⟨v, hv, hd⟩ := val_of h4 (j % e.n) u' (by rw [List.getElem?_eq_getElem hr]; exact hg.symm)
              exact ⟨v, (cells_get h3).2 _ _ hv, hd⟩
            have hfl : 0 < (flat vs).length := by
              rw [flat_length hWf, hvl]; exact Nat.mul_pos (by omega) (by omega)
            obtain ⟨v0, hv0, _⟩ := hcell 0 _ (List.getElem?_eq_getElem hfl)
            have hsp2 : sp = none := by
              simp only [Nat.zero_div, Nat.zero_mul, Nat.zero_mod, Addr.add, if_true, World.cell?] at hv0
              split at hv0
              · cases sp with
                | none => rfl
                | some s => simp at hv0
              · cases hv0
            subst hsp2
            have hcell2 : ∀ (j : Nat) (u' : PV), (flat vs)[j]? = some u' → ∃ v, W.cell? ⟨blk, off + j, none⟩ = some v ∧ PV.Den ⟨none', W⟩ u' v := fun j u' hj => by
              have := hcell j u' hj
              rw [addr_add, addr_add, Nat.add_assoc, show j / e.n * e.n + j % e.n = j by rw [Nat.mul_comm]; exact Nat.div_add_mod j e.n] at this
              exact this
            rw [← hvl]
            refine .sl vs blk off e.n cap (fun j => (W.cell? ⟨blk, off + j, none⟩).getD .nilIface) hWf ⟨by omega, hm⟩ ?_ fun j u' hj => ?_
            · obtain ⟨v0, hv0, _⟩ := hcell2 0 _ (List.getElem?_eq_getElem hfl)
              unfold World.cell? at hv0
              split at hv0
              · rename_i c0 T fz hh
                refine ⟨fun h => h, (Array.getElem?_eq_some_iff.1 hh).1, c0, T, fz, hh, fun j u' hj => ?_⟩
                obtain ⟨v, hv, _⟩ := hcell2 j u' hj
                simp only
                rw [hv, Option.getD_some]
                unfold World.cell? at hv
                rw [hh] at hv
                simpa using hv
              · cases hv0
            · obtain ⟨v, hv, hd⟩ := hcell2 j u' hj
              rw [hv, Option.getD_some]; exact hd
    · cases hok
  | .st fs, t, m, cs, x, hok, h, hw => by
    unfold Sh.okB at hok
    split at hok
    · rename_i gs hu
      simp only [Bool.and_eq_true, Nat.beq_eq] at hok
      obtain ⟨hn, hl⟩ := hok
      obtain ⟨xs, m', _, rfl, hcl, hxl, hfs⟩ := DataW.trod_struct hu h
      obtain ⟨ys, h1, h2, h3⟩ := read_shL fs gs.toList 0 m' cs (xs.map (·.1)) hl (by rw [hcl, hn]; omega) (fun i f hf => by
        rw [Array.getElem?_toList] at hf
        have := hfs i f hf
        have hi := (Array.getElem?_eq_some_iff.1 hf).1
        rw [List.getElem?_eq_getElem (show i < xs.length by omega)] at this
        exact ⟨xs[i], this, by rw [List.getElem?_map, List.getElem?_eq_getElem (show i < xs.length by omega)]; rfl⟩) (fun i f d hf hd q hq => hw q (by
        unfold DataW.weights
        rw [hu]
        exact DataW.weights_mem_each (j := i) (by rw [List.getElem?_map, hf]; rfl) hd q hq))
      rw [List.drop_zero] at h3
      exact ⟨.agg ys, ⟨ys, rfl, h1⟩, h2, h3⟩
    · cases hok
theorem read_shL : ∀ (fs : List Sh) (gs : List Field) (o m : Nat) (cs : List Value) (ds : List (DataW H)), Sh.okL P fs gs o = true → o + Sh.nL fs = cs.length →
    (∀ (i : Nat) (f : Field), gs[i]? = some f → ∃ x, DataW.trod enc P W 0 (fun _ => true) held m f.type ((cs.drop f.offset).take (P.cellsOf f.type)) = some x ∧ ds[i]? = some x.1) → (∀ (i : Nat) (f : Field) (d : DataW H), gs[i]? = some f → ds[i]? = some d → Wt P K f.type d) →
    ∃ ys, Sh.HasL K fs ys ∧ ys.length = Sh.nL fs ∧ DenC ⟨none', W⟩ ys (cs.drop o)
  | [], [], o, m, cs, ds, _, hl, _, _ => ⟨[], rfl, rfl, by simp [Sh.nL] at hl ⊢; omega, by simp, fun j u v h => by simp at h⟩
  | [], _ :: _, o, m, cs, ds, hok, _, _, _ => by simp [Sh.okL] at hok
  | _ :: _, [], o, m, cs, ds, hok, _, _, _ => by simp [Sh.okL] at hok
  | s :: r, f :: g, o, m, cs, ds, hok, hl, hx, hw => by
    unfold Sh.okL at hok
    simp only [Bool.and_eq_true, Nat.beq_eq] at hok
    obtain ⟨⟨⟨ho, hn⟩, hs⟩, hr⟩ := hok
    simp only [Sh.nL] at hl
    obtain ⟨x, h1, h2⟩ := hx 0 f rfl
    obtain ⟨y, hy1, hy2, hy3⟩ := read_sh s f.type m _ x hs h1 (hw 0 f x.1 rfl h2)
    rw [ho, hn] at hy3
    obtain ⟨ys, hys1, hys2, hys3⟩ := read_shL r g (o + s.n) m cs ds.tail hr (by omega) (fun i f' hf => by
      obtain ⟨x', k1, k2⟩ := hx (i + 1) f' (by simpa using hf)
      exact ⟨x', k1, by rw [← k2]; simp⟩) (fun i f' d hf hd => hw (i + 1) f' d (by simpa using hf) (by rw [← hd]; simp))
    refine ⟨y.cells ++ ys, ⟨y, ys, hy1, rfl, hys1⟩, by simp [hy2, hys2, Sh.nL], by simp [hy2, hys2]; omega, fun u hu => ?_, fun j u v hu hv => ?_⟩
    · rcases List.mem_append.1 hu with c | c
      · exact hy3.2.1 u c
      · exact hys3.2.1 u c
    · rw [List.getElem?_drop] at hv
      by_cases hj : j < s.n
      · rw [List.getElem?_append_left (by omega)] at hu
        refine hy3.2.2 j u v hu ?_
        rw [List.getElem?_take, if_pos hj, List.getElem?_drop]; exact hv
      · rw [List.getElem?_append_right (by omega), hy2] at hu
        refine hys3.2.2 (j - s.n) u v hu ?_
        rw [List.getElem?_drop, show o + s.n + (j - s.n) = o + j by omega]; exact hv
end
theorem open_sh {s : Sh} {t : TypeId} {r : Reach} {b0 : Nat} {v : Value} {d : DataW H} {p : List MemPlace} (hok : Sh.okB P s t = true) (hv : Value.okWide P W r b0 t v) (h : DataW.Trod enc P W 0 (fun _ => true) held t v d p) (hw : Wt P K t d) :
    ∃ y, Sh.Has K s y ∧ PV.Den ⟨none', W⟩ y v := by
  obtain ⟨m, h⟩ := h
  obtain ⟨y, h1, h2, h3⟩ := read_sh s t m _ _ hok h hw
  refine ⟨y, h1, ?_⟩
  have one : ∀ z : PV, y = z → z.cells = [z] → v.cells = #[v] → PV.Den ⟨none', W⟩ y v := fun z hz hc hvc => by
    subst hz
    rw [hc, hvc] at h3
    exact h3.2.2 0 y v rfl rfl
  cases s with
  | int k =>
    unfold Sh.okB at hok; split at hok
    · rename_i k' hu
      obtain ⟨n, rfl⟩ := okWide_int hu hv
      unfold Sh.Has at h1; obtain ⟨n', rfl, _⟩ := h1
      exact one _ rfl rfl rfl
    · cases hok
  | bool =>
    unfold Sh.okB at hok; split at hok
    · rename_i hu
      obtain ⟨n, rfl⟩ := okWide_bool hu hv
      unfold Sh.Has at h1; obtain ⟨n', rfl⟩ := h1
      exact one _ rfl rfl rfl
    · cases hok
  | str =>
    unfold Sh.okB at hok; split at hok
    · rename_i hu
      obtain ⟨n, rfl⟩ := okWide_string hu hv
      unfold Sh.Has at h1; obtain ⟨n', rfl, _⟩ := h1
      exact one _ rfl rfl rfl
    · cases hok
  | sl b e =>
    unfold Sh.okB at hok; split at hok
    · rename_i u hu
      obtain ⟨a, n, c, rfl⟩ := okWide_slice hu hv
      unfold Sh.Has at h1; obtain ⟨n', rfl, _⟩ := h1
      exact one _ rfl rfl rfl
    · cases hok
  | st fs =>
    unfold Sh.okB at hok; split at hok
    · rename_i gs hu
      obtain ⟨cs, rfl, _⟩ := okWide_struct hu hv
      unfold Sh.Has at h1; obtain ⟨ys, rfl, _⟩ := h1
      simp only [PV.cells, Value.cells] at h3
      exact .agg ys cs (by rw [← Array.length_toList]; exact h3.1.symm) fun i c v hc hv => h3.2.2 i c v hc (by rw [Array.getElem?_toList]; exact hv)
    · cases hok
end Go.Lx
set_option linter.unusedSimpArgs false
set_option linter.unusedVariables false
namespace Go.Lx
open Go
def enc (x : Nat) : List UInt8 := if x < 128 then [UInt8.ofNat x] else UInt8.ofNat (x % 128 + 128) :: enc (x / 128)
theorem enc_len : ∀ (k x : Nat), x < 128 ^ (k + 1) → (enc x).length ≤ k + 1 := by
  intro k
  induction k with
  | zero => intro x hx; unfold enc; rw [if_pos (by simpa using hx)]; simp
  | succ k ih =>
    intro x hx
    unfold enc
    split
    · simp
    · have := ih (x / 128) (by rw [Nat.div_lt_iff_lt_mul (by omega)]; rwa [Nat.pow_succ] at hx)
      simp only [List.length_cons]; omega
theorem enc_lo {x : Nat} (h : x < 128) : enc x = [UInt8.ofNat x] := by rw [enc, if_pos h]
theorem enc_hi {x : Nat} (h : ¬ x < 128) : enc x = UInt8.ofNat (x % 128 + 128) :: enc (x / 128) := by rw [enc, if_neg h]
theorem enc_pos (x : Nat) : 1 ≤ (enc x).length := by unfold enc; split <;> simp
theorem enc_len9 {x : Nat} (h : x < 9223372036854775808) : (enc x).length ≤ 9 := enc_len 8 x (by omega)
theorem or128 : ∀ a, a < 256 → bits .or .u8 (a : Nat) 128 = ((a % 128 + 128 : Nat) : Int) := by decide +kernel
theorem wrap_u8 (y : Nat) : IntKind.u8.wrap (Int.ofNat y) = ((y % 256 : Nat) : Int) := by
  rw [IntKind.wrap_u8]; simp only [Int.ofNat_eq_natCast]; omega
theorem shr7 (y : Nat) : (Int.ofNat y).fdiv (2 ^ (min 7 IntKind.i64.bits)) = ((y / 128 : Nat) : Int) := by
  show (Int.ofNat y).fdiv 128 = _
  rw [Int.fdiv_eq_ediv_of_nonneg _ (by omega)]; rfl
theorem ofNat_toNat {n : Nat} (h : n < 256) : (UInt8.ofNat n).toNat = n := by simp; omega
def dec (i acc : Nat) : List UInt8 → Nat × Nat × Nat
  | [] => (0, 0, if 9 ≤ i then 2 else 3)
  | x :: r => if i = 9 then (0, 0, 2) else if 128 ≤ x.toNat then dec (i + 1) (acc + (x.toNat - 128) * 128 ^ i) r else if x.toNat = 0 ∧ 0 < i then (0, 0, 2) else (acc + x.toNat * 128 ^ i, i + 1, 0)
theorem dec_nil (i acc : Nat) : dec i acc [] = (0, 0, if 9 ≤ i then 2 else 3) := rfl
theorem dec_cons (i acc : Nat) (x : UInt8) (r : List UInt8) : dec i acc (x :: r) = if i = 9 then (0, 0, 2) else if 128 ≤ x.toNat then dec (i + 1) (acc + (x.toNat - 128) * 128 ^ i) r else if x.toNat = 0 ∧ 0 < i then (0, 0, 2) else (acc + x.toNat * 128 ^ i, i + 1, 0) := rfl
theorem i64_nat {n : Nat} {z : Int} (h : z = (n : Int)) (hn : n < 9223372036854775808) : IntKind.i64.wrap z = (n : Int) := by
  subst h; exact IntWalk.i64_in _ (by omega)
theorem or_add (a b k : Nat) (h : a < 2 ^ k) : a ||| b * 2 ^ k = a + b * 2 ^ k := by
  rw [Nat.or_comm, Nat.mul_comm, ← Nat.two_pow_add_eq_or_of_lt h b, Nat.add_comm]
theorem bits_or (a b : Nat) (ha : a < 9223372036854775808) (hb : b < 9223372036854775808) : bits .or .i64 (a : Int) (b : Int) = ((a ||| b : Nat) : Int) := by
  have h1 : BitVec.ofInt 64 (a : Int) = BitVec.ofNat 64 a := BitVec.ofInt_natCast 64 a
  have h2 : BitVec.ofInt 64 (b : Int) = BitVec.ofNat 64 b := BitVec.ofInt_natCast 64 b
  have h3 : a ||| b < 2 ^ 63 := Nat.or_lt_two_pow (by simpa using ha) (by simpa using hb)
  show IntKind.i64.wrap (((BitVec.ofInt 64 (a : Int)) ||| (BitVec.ofInt 64 (b : Int))).toNat : Int) = _
  rw [h1, h2, BitVec.toNat_or, BitVec.toNat_ofNat, BitVec.toNat_ofNat, Nat.mod_eq_of_lt (by omega), Nat.mod_eq_of_lt (by omega)]
  exact IntWalk.i64_in _ (by omega)
theorem and127 : ∀ a, a < 256 → bits .and .u8 (a : Nat) 127 = ((a % 128 : Nat) : Int) := by decide +kernel
theorem pow128 (i : Nat) : 128 ^ i = 2 ^ (7 * i) := by rw [Nat.pow_mul]
theorem pow_le9 {i : Nat} (h : i ≤ 9) : 128 ^ i ≤ 9223372036854775808 := Nat.pow_le_pow_right (by omega) h
theorem dec_step {i x : Nat} (acc : Nat) (hi : i < 9) (ha : acc < 128 ^ i) (hx : x < 128) : acc + x * 128 ^ i < 128 ^ (i + 1) := by
  rw [Nat.pow_succ]
  have : x * 128 ^ i ≤ 127 * 128 ^ i := Nat.mul_le_mul_right _ (by omega)
  omega
theorem shl_val {x i : Nat} (hx : x < 128) (hi : i < 9) : IntKind.i64.wrap ((x : Int) * 2 ^ (min (7 * i) 64)) = ((x * 128 ^ i : Nat) : Int) := by
  have h1 : min (7 * i) 64 = 7 * i := by omega
  have h2 : x * 128 ^ i < 128 ^ (i + 1) := by have := dec_step 0 hi (Nat.pow_pos (by omega)) hx; simpa using this
  have h3 := pow_le9 (show i + 1 ≤ 9 by omega)
  rw [h1, pow128]
  have h4 : ((x : Int) * 2 ^ (7 * i)) = ((x * 2 ^ (7 * i) : Nat) : Int) := by simp
  rw [h4]
  rw [pow128] at h2
  exact IntWalk.i64_in _ (by omega)
theorem or_val {acc x i : Nat} (hi : i < 9) (ha : acc < 128 ^ i) (hx : x < 128) : bits .or .i64 (acc : Int) ((x * 128 ^ i : Nat) : Int) = ((acc + x * 128 ^ i : Nat) : Int) := by
  have h2 := dec_step acc hi ha hx
  have h3 := pow_le9 (show i + 1 ≤ 9 by omega)
  rw [bits_or acc (x * 128 ^ i) (by omega) (by omega), pow128, or_add _ _ _ (by rw [← pow128]; exact ha)]
theorem dec_lt : ∀ (l : List UInt8) (i acc : Nat), i ≤ 9 → acc < 128 ^ i → (dec i acc l).1 < 9223372036854775808
  | [], i, acc, _, _ => by simp [dec]
  | x :: r, i, acc, hi, ha => by
    unfold dec
    split
    · simp
    · split
      · exact dec_lt r (i + 1) _ (by omega) (dec_step acc (by omega) ha (by have := x.toNat_lt; omega))
      · split
        · simp
        · have h2 := dec_step acc (i := i) (x := x.toNat) (by omega) ha (by omega)
          have h3 := pow_le9 (show i + 1 ≤ 9 by omega)
          simp only; omega
theorem dec_used : ∀ (l : List UInt8) (i acc : Nat), (dec i acc l).2.2 = 0 → (dec i acc l).2.1 ≤ i + l.length ∧ i < (dec i acc l).2.1
  | [], i, acc, h => by simp [dec] at h; split at h <;> simp at h
  | x :: r, i, acc, h => by
    unfold dec at h ⊢
    split at h
    · simp at h
    · rename_i h9
      rw [if_neg h9]
      split at h
      · rename_i hx
        rw [if_pos hx]
        have := dec_used r (i + 1) _ h
        simp only [List.length_cons]; omega
      · rename_i hx
        rw [if_neg hx]
        split at h
        · simp at h
        · rename_i h0
          rw [if_neg h0]
          simp only [List.length_cons]; omega
theorem dec_err : ∀ (l : List UInt8) (i acc : Nat), (dec i acc l).2.2 ≠ 0 → (dec i acc l).1 = 0 ∧ (dec i acc l).2.1 = 0
  | [], i, acc, _ => by simp [dec]
  | x :: r, i, acc, h => by
    unfold dec at h ⊢
    split
    · simp
    · rename_i h9
      rw [if_neg h9] at h
      split
      · rename_i hx
        rw [if_pos hx] at h
        exact dec_err r _ _ h
      · rename_i hx
        rw [if_neg hx] at h
        split
        · simp
        · rename_i h0
          rw [if_neg h0] at h
          simp at h
/-! Lists of numbers and bytes as values -/
def iP : List Int → List PV
  | [] => []
  | z :: r => .int .i64 z :: iP r
theorem iP_eq (l : List Int) : iP l = l.map fun z => .int .i64 z := by
  induction l with
  | nil => rfl
  | cons z r ih => simp [iP, ih]
theorem iP_length (l : List Int) : (iP l).length = l.length := by simp [iP_eq]
theorem iP_get {l : List Int} {i : Nat} {z : Int} (h : l[i]? = some z) : (iP l)[i]? = some (.int .i64 z) := by simp [iP_eq, h]
theorem iP_append (a b : List Int) : iP (a ++ b) = iP a ++ iP b := by simp [iP_eq]
theorem bP_get {l : List UInt8} {i : Nat} {b : UInt8} (h : l[i]? = some b) : (bP l)[i]? = some (.int .u8 b.toNat) := by simp [bP_eq, h]
theorem bP_append (a b : List UInt8) : bP (a ++ b) = bP a ++ bP b := by simp [bP_eq]
theorem bP_take (l : List UInt8) (n : Nat) : (bP l).take n = bP (l.take n) := by simp [bP_eq, List.map_take]
theorem bP_drop (l : List UInt8) (n : Nat) : (bP l).drop n = bP (l.drop n) := by simp [bP_eq, List.map_drop]
theorem get_of_lt {α : Type} {l : List α} {i : Nat} (h : i < l.length) : ∃ x, l[i]? = some x := ⟨_, List.getElem?_eq_getElem h⟩
theorem PV.wf1 {x : PV} (h : x.one = true) : x.wf 1 := by
  have : x.cells = [x] := by cases x <;> first | rfl | cases h
  exact ⟨by rw [this]; rfl, fun u hu => by rw [this] at hu; simp at hu; rw [hu]; exact h⟩
theorem Wf.one {x : PV} {sz : Nat} (h : x.wf sz) : Wf sz [x] := fun y hy => by simp at hy; rw [hy]; exact h
theorem frz_full {α : Type} {ys : List α} {m : Nat} (h : ys.length = m) : (ys.drop 0).take m = ys := by subst h; simp
theorem dle {a b : Nat} (h : a ≤ b) : decide ((a : Int) ≤ (b : Int)) = true := decide_eq_true (Int.ofNat_le.2 h)
theorem dle' {a b : Nat} (h : ¬ a ≤ b) : decide ((a : Int) ≤ (b : Int)) = false := decide_eq_false fun c => h (Int.ofNat_le.1 c)
theorem dlt {a b : Nat} (h : a < b) : decide ((a : Int) < (b : Int)) = true := decide_eq_true (Int.ofNat_lt.2 h)
theorem dlt' {a b : Nat} (h : ¬ a < b) : decide ((a : Int) < (b : Int)) = false := decide_eq_false fun c => h (Int.ofNat_lt.1 c)
end Go.Lx
set_option linter.unusedSimpArgs false
set_option linter.unusedVariables false
namespace Go.Lx
open Go
theorem dec_enc : ∀ (k m i acc : Nat) (r : List UInt8), m < k → (m = 0 → i = 0) → i + (enc m).length ≤ 9 → dec i acc (enc m ++ r) = (acc + m * 128 ^ i, i + (enc m).length, 0)
  | 0, m, i, acc, r, h, _, _ => by omega
  | k + 1, m, i, acc, r, h, h0, hl => by
    by_cases hm : m < 128
    · rw [enc_lo hm] at hl ⊢
      simp only [List.length_cons, List.length_nil, List.singleton_append] at hl ⊢
      rw [dec_cons, if_neg (by omega), ofNat_toNat (by omega), if_neg (by omega), if_neg (by omega)]
    · rw [enc_hi hm] at hl ⊢
      simp only [List.length_cons, List.cons_append] at hl ⊢
      have hp := enc_pos (m / 128)
      rw [dec_cons, if_neg (by omega), ofNat_toNat (by omega), if_pos (by omega)]
      rw [dec_enc k (m / 128) (i + 1) _ r (by omega) (by omega) (by omega)]
      have e1 : m % 128 + 128 - 128 = m % 128 := by omega
      rw [e1, Nat.pow_succ]
      have e2 : m % 128 * 128 ^ i + m / 128 * (128 ^ i * 128) = m * 128 ^ i := by
        rw [Nat.mul_comm (128 ^ i) 128, ← Nat.mul_assoc, ← Nat.add_mul, Nat.mul_comm (m / 128) 128, Nat.mod_add_div]
      rw [Nat.add_assoc, e2, Nat.add_assoc, Nat.add_comm 1]
theorem dec_enc0 (m : Nat) (r : List UInt8) (hm : m < 9223372036854775808) : dec 0 0 (enc m ++ r) = (m, (enc m).length, 0) := by
  rw [dec_enc (m + 1) m 0 0 r (by omega) (fun _ => rfl) (by have := enc_len9 hm; omega)]; simp
end Go.Lx
set_option linter.unusedSimpArgs false
set_option linter.unusedVariables false
namespace Go.Lx
open Go
def ev0 : Ev := ⟨0, fun _ => 0, fun _ => 0, fun _ => false, fun _ => 0, fun _ => 0⟩
variable {K : Nat}
theorem has_int {y : PV} (h : Sh.Has K (.int .i64) y) : ∃ n : Int, y = .int .i64 n ∧ -9223372036854775808 ≤ n ∧ n ≤ 9223372036854775807 := by
  unfold Sh.Has at h
  obtain ⟨n, rfl, hw⟩ := h
  refine ⟨n, rfl, ?_⟩
  simpa [Lit.wf, IntKind.min, IntKind.max, IntKind.bits, IntKind.signed] using hw
theorem has_u8 {y : PV} (h : Sh.Has K (.int .u8) y) : ∃ n : Nat, y = .int .u8 (n : Int) ∧ n ≤ 255 := by
  unfold Sh.Has at h
  obtain ⟨n, rfl, hw⟩ := h
  have : 0 ≤ n ∧ n ≤ 255 := by simpa [Lit.wf, IntKind.min, IntKind.max, IntKind.bits, IntKind.signed] using hw
  exact ⟨n.toNat, by rw [Int.toNat_of_nonneg this.1], by omega⟩
theorem has_str {y : PV} (h : Sh.Has K .str y) : ∃ s : List UInt8, y = .str s ∧ s.length ≤ K := by unfold Sh.Has at h; exact h
theorem has_sl {α : Type} {b : Nat} {e : Sh} {y : PV} {f : α → PV} {ok : α → Prop} (h : Sh.Has K (.sl b e) y) (he : ∀ z, Sh.Has K e z → ∃ a, z = f a ∧ ok a) : ∃ l : List α, y = .sl (l.map f) ∧ l.length * b ≤ K ∧ ∀ a ∈ l, ok a := by
  unfold Sh.Has at h
  obtain ⟨xs, rfl, hl, hx⟩ := h
  have : ∀ xs : List PV, (∀ z ∈ xs, Sh.Has K e z) → ∃ l : List α, xs = l.map f ∧ ∀ a ∈ l, ok a := by
    intro xs
    induction xs with
    | nil => exact fun _ => ⟨[], rfl, by simp⟩
    | cons z r ih =>
      intro hz
      obtain ⟨l, h1, h2⟩ := ih fun y hy => hz y (by simp [hy])
      obtain ⟨a, h3, h4⟩ := he z (hz z (by simp))
      exact ⟨a :: l, by rw [h1, h3]; rfl, fun c hc => by
        rcases List.mem_cons.1 hc with rfl | hc
        · exact h4
        · exact h2 c hc⟩
  obtain ⟨l, rfl, h2⟩ := this xs hx
  exact ⟨l, rfl, by simpa using hl, h2⟩
theorem has_st {fs : List Sh} {y : PV} (h : Sh.Has K (.st fs) y) : ∃ cs, y = .agg cs ∧ Sh.HasL K fs cs := by unfold Sh.Has at h; exact h
theorem has_cons {s : Sh} {r : List Sh} {cs : List PV} (h : Sh.HasL K (s :: r) cs) : ∃ y cs', Sh.Has K s y ∧ cs = y.cells ++ cs' ∧ Sh.HasL K r cs' := by unfold Sh.HasL at h; exact h
theorem has_nil {cs : List PV} (h : Sh.HasL K [] cs) : cs = [] := by unfold Sh.HasL at h; exact h
end Go.Lx
set_option linter.unusedSimpArgs false
set_option linter.unusedVariables false
namespace Go.Lx
open Go
open Go.Sx (NP Keeps Hp)
mutual
def V.pack (js : List Nat) : V → V
  | .own i off => match posN i js with | some q => .own q off | none => .any
  | .ap i sz k o => match posN i js with | some q => .ap q sz k o | none => .any
  | .vw i sz off n cap => match posN i js with | some q => .vw q sz off n cap | none => .any
  | .agg cs => .agg (V.packs js cs)
  | .fn f cs => .fn f (V.packs js cs)
  | .tup cs => .tup (V.packs js cs)
  | .p x => .p x
  | .any => .any
  | .raw v => .raw v
  | .imm sz y o => .imm sz y o
def V.packs (js : List Nat) : List V → List V
  | [] => []
  | c :: r => V.pack js c :: V.packs js r
end
theorem V.packs_eq (js : List Nat) : ∀ cs : List V, V.packs js cs = cs.map (V.pack js)
  | [] => rfl
  | c :: r => by rw [V.packs, V.packs_eq js r]; rfl
def evP (js : List Nat) (E : Ev) : Ev :=
  ⟨js.length, fun p => E.ρ (js.getD p 0), fun p => E.κ (js.getD p 0), fun p => E.nl (js.getD p 0), fun p => E.len (js.getD p 0), fun p => E.sz (js.getD p 0)⟩
theorem evP_at {js : List Nat} {p i : Nat} (h : js[p]? = some i) : js.getD p 0 = i := by rw [List.getD_eq_getElem?_getD, h]; rfl
theorem V.Den.pack {H H' : Hp} {E : Ev} {js : List Nat} (hl : H.Le H') {x : V} {v : Value} (h : V.Den H E x v) : V.Den H' (evP js E) (x.pack js) v := by
  induction h with
  | p x v h => exact .p x v (h.mono hl)
  | any v => exact .any v
  | raw v => exact .raw v
  | own i off h =>
    simp only [V.pack]; split
    · rename_i p hp
      have hq := posN_some hp
      have := V.Den.own (H := H') (E := evP js E) p off (lt_of_some hq)
      simp only [evP, evP_at hq] at this
      exact this
    · exact .any _
  | ap i sz k o h h0 hz =>
    simp only [V.pack]; split
    · rename_i p hp
      have hq := posN_some hp
      have := V.Den.ap (H := H') (E := evP js E) p sz k o (lt_of_some hq) (by simp only [evP, evP_at hq]; exact h0) (by simp only [evP, evP_at hq]; exact hz)
      simp only [evP, evP_at hq] at this
      exact this
    · exact .any _
  | imm sz y o b off val hw hs hd => exact .imm sz y o b off val hw (hs.mono hl) fun j u hj => (hd j u hj).mono hl
  | vwn i sz cap a h h0 hz hc =>
    simp only [V.pack]; split
    · rename_i p hp
      have hq := posN_some hp
      exact .vwn p sz cap a (lt_of_some hq) (by simp only [evP, evP_at hq]; exact h0) (by simp only [evP, evP_at hq]; exact hz) hc
    · exact .any _
  | vw i sz off n cap a c h h0 hc hk hln hx hz ha =>
    simp only [V.pack]; split
    · rename_i p hp
      have hq := posN_some hp
      exact .vw p sz off n cap a c (lt_of_some hq) (by simp only [evP, evP_at hq]; exact h0) (by simp only [evP, evP_at hq]; exact hc) (by simp only [evP, evP_at hq]; exact hk) hln (by simp only [evP, evP_at hq]; exact hx) (by simp only [evP, evP_at hq]; exact hz) (by simp only [evP, evP_at hq]; exact ha)
    · exact .any _
  | agg cs xs h1 _ ih =>
    rw [V.pack, V.packs_eq]
    refine .agg _ xs (by simp [h1]) fun i c v hc hv => ?_
    rw [List.getElem?_map] at hc
    cases hcs : cs[i]? with
    | none => rw [hcs] at hc; cases hc
    | some c0 => rw [hcs] at hc; cases hc; exact ih i c0 v hcs hv
  | fn f cs xs h1 _ ih =>
    rw [V.pack, V.packs_eq]
    refine .fn f _ xs (by simp [h1]) fun i c v hc hv => ?_
    rw [List.getElem?_map] at hc
    cases hcs : cs[i]? with
    | none => rw [hcs] at hc; cases hc
    | some c0 => rw [hcs] at hc; cases hc; exact ih i c0 v hcs hv
  | tup cs xs h1 _ ih =>
    rw [V.pack, V.packs_eq]
    refine .tup _ xs (by simp [h1]) fun i c v hc hv => ?_
    rw [List.getElem?_map] at hc
    cases hcs : cs[i]? with
    | none => rw [hcs] at hc; cases hc
    | some c0 => rw [hcs] at hc; cases hc; exact ih i c0 v hcs hv
def packR (js : List Nat) (own : List Res) : List Nat → List Res
  | [] => []
  | j :: r => (match own[j]? with | some (.st T c) => .st T (V.packs js c) | some (.arr T sz xs) => .arr T sz xs | _ => .dead) :: packR js own r
theorem packR_len (js : List Nat) (own : List Res) : ∀ l : List Nat, (packR js own l).length = l.length
  | [] => rfl
  | j :: r => by simp [packR, packR_len js own r]
theorem packR_get (js : List Nat) (own : List Res) : ∀ (l : List Nat) (p : Nat) (r : Res), (packR js own l)[p]? = some r → ∃ j, l[p]? = some j ∧ r = (match own[j]? with | some (.st T c) => .st T (V.packs js c) | some (.arr T sz xs) => .arr T sz xs | _ => .dead)
  | [], p, r, h => by simp [packR] at h
  | j :: l, 0, r, h => by simp [packR] at h; exact ⟨j, rfl, h.symm⟩
  | j :: l, p + 1, r, h => packR_get js own l p r (by simpa [packR] using h)
def packOk1 (own0 own : List Res) : Nat → List Nat → Bool
  | _, [] => true
  | p, j :: r => (Nat.beq j p || (Nat.ble own0.length j && (match own0[p]? with | some (.st _ _) => false | _ => true))) && Nat.blt j own.length && packOk1 own0 own (p + 1) r
def nodupN : List Nat → Bool
  | [] => true
  | j :: r => !memN j r && nodupN r
def packOk (own0 own : List Res) (js : List Nat) : Bool := nodupN js && Nat.ble own0.length js.length && packOk1 own0 own 0 js
theorem nodupN_ok : ∀ {js : List Nat}, nodupN js = true → js.Nodup
  | [], _ => List.nodup_nil
  | j :: r, h => by
    simp only [nodupN, Bool.and_eq_true, Bool.not_eq_true'] at h
    exact List.nodup_cons.2 ⟨fun c => by rw [memN_iff.2 c] at h; exact absurd h.1 (by decide), nodupN_ok h.2⟩
theorem packOk1_ok {own0 own : List Res} : ∀ {l : List Nat} {q : Nat}, packOk1 own0 own q l = true → ∀ (p j : Nat), l[p]? = some j → (j = q + p ∨ own0.length ≤ j) ∧ j < own.length ∧ ∀ (T : TypeId) (c : List V), own0[q + p]? = some (.st T c) → j = q + p
  | [], q, h, p, j, hp => by simp at hp
  | j0 :: r, q, h, p, j, hp => by
    simp only [packOk1, Bool.and_eq_true, Bool.or_eq_true, Nat.beq_eq, Nat.ble_eq, Nat.blt_eq] at h
    obtain ⟨⟨h1, h2⟩, h3⟩ := h
    cases p with
    | zero =>
      simp at hp; subst hp
      refine ⟨h1.imp (fun h => h) (fun h => h.1), h2, fun T c hc => ?_⟩
      rcases h1 with h1 | ⟨_, h1⟩
      · exact h1
      · rw [show q + 0 = q from rfl] at hc; rw [hc] at h1; cases h1
    | succ p =>
      have := packOk1_ok h3 p j (by simpa using hp)
      rw [show q + 1 + p = q + (p + 1) by omega] at this
      exact this
def ConvW (B : Base) (st st' : St) : Prop := st'.n = st.n ∧ ∀ E F a w, Inv B st E F a w → ∃ E' F', Inv B st' E' F' a w
theorem Conv.weak {B : Base} {st st' : St} (h : Conv B st st') : ConvW B st st' := ⟨h.1, fun E F a w hI => by obtain ⟨E', F', h1, _⟩ := h.2 E F a w hI; exact ⟨E', F', h1⟩⟩
theorem ConvW.trans {B : Base} {a b c : St} (h : ConvW B a b) (k : ConvW B b c) : ConvW B a c := ⟨k.1.trans h.1, fun E F ac w hI => by
  obtain ⟨E1, F1, h1⟩ := h.2 E F ac w hI
  exact k.2 E1 F1 ac w h1⟩
theorem RetEv.convW {B : Base} {P : Program} {fn : Func} {st st' : St} {R : V → List Res → Prop} (hc : ConvW B st st') (h : RetEv B P fn st' R) : RetEv B P fn st R := RetEv.conv hc.2 h
theorem ConvW.pack {B : Base} {st : St} (js : List Nat) {own0 : List Res} (hB : B.own0 = own0) (hok : packOk own0 st.own js = true) : ConvW B st ⟨st.n, frMap (V.pack js) st.fr, packR js st.own js⟩ := by
  subst hB
  simp only [packOk, Bool.and_eq_true, Nat.ble_eq] at hok
  obtain ⟨⟨hnd, hle0⟩, h1⟩ := hok
  have hnd := nodupN_ok hnd
  have h1 := packOk1_ok h1
  simp only [Nat.zero_add] at h1
  refine ⟨rfl, fun E F a w hI => ?_⟩
  let F' : Nat → NP := fun p => match js[p]? with | some i => F i | none => fun _ => False
  have hF : ∀ {p i : Nat}, js[p]? = some i → F' p = F i := fun {p i} h => by simp only [F', h]
  have hsub : ∀ k, nowM B F' k → nowM B F k := by
    rintro k (c | ⟨p, c⟩)
    · exact .inl c
    · cases hp : js[p]? with
      | none => simp only [F', hp] at c
      | some i => rw [hF hp] at c; exact .inr ⟨i, c⟩
  have hle : Hp.Le ⟨nowM B F, w⟩ ⟨nowM B F', w⟩ := ⟨rfl, rfl, rfl, Nat.le_refl _, fun k hk hm => ⟨rfl, fun c => hm (hsub k c)⟩⟩
  refine ⟨evP js E, F', ⟨hI.n, (packR_len js st.own js).symm, fun t v hv => ?_, hI.defers.sub (fun p k hk => by
    cases hp : js[p]? with
    | none => simp only [F', hp] at hk
    | some i => rw [hF hp] at hk; exact ⟨i, hk⟩), fun p r hp => ?_, fun p q hpq k hk hk2 => ?_, fun p hp k hk => ?_, hI.keep, fun p k hk => ?_, ?_, fun p T c hc => ?_, hI.bd, hI.low0, hI.rc⟩⟩
  · rw [look_frMap] at hv
    cases hl : look st.fr t with
    | none => rw [hl] at hv; cases hv
    | some u => rw [hl] at hv; cases hv; exact (hI.slot t u hl).pack hle
  · obtain ⟨j, hj, rfl⟩ := packR_get js st.own js p r hp
    obtain ⟨_, hjl, _⟩ := h1 p j hj
    have hg := evP_at hj
    cases ho : st.own[j]? with
    | none => have := List.getElem?_eq_none_iff.1 ho; omega
    | some r =>
      have hh := hI.held j r ho
      cases r with
      | st T c =>
        obtain ⟨g0, g1, vals, g2, g3⟩ := hh
        refine ⟨by simp only [evP, hg]; exact g0, fun k => by rw [hF hj]; simp only [evP, hg]; exact g1 k, vals, by simp only [evP, hg]; exact g2, ?_⟩
        rw [V.packs_eq]
        exact g3.map fun c v h => h.pack hle
      | arr T sz xs =>
        obtain ⟨g0, g1, g2, g3, g4⟩ := hh
        refine ⟨g0, g1, by simp only [evP, hg]; exact g2, by simp only [evP, hg]; exact g3, ?_⟩
        rcases g4 with ⟨k1, k2, k3⟩ | ⟨k1, k2, k3, k4, c, k5, k6, val, k7⟩
        · exact .inl ⟨by simp only [evP, hg]; exact k1, k2, fun k => by rw [hF hj]; exact k3 k⟩
        · exact .inr ⟨by simp only [evP, hg]; exact k1, fun k => by rw [hF hj]; simp only [evP, hg]; exact k2 k, by simp only [evP, hg]; exact k3, by simp only [evP, hg]; exact k4, c, by simp only [evP, hg]; exact k5, by simp only [evP, hg]; exact k6, val, fun j u hu => ⟨(k7 j u hu).1, (k7 j u hu).2.mono hle⟩⟩
      | dead => intro k; rw [hF hj]; exact hh k
  · cases hp : js[p]? with
    | none => simp only [F', hp] at hk
    | some i =>
      cases hq : js[q]? with
      | none => simp only [F', hq] at hk2
      | some i' =>
        rw [hF hp] at hk; rw [hF hq] at hk2
        refine hI.apart i i' (fun e => hpq ?_) k hk hk2
        subst e
        have a1 := posN_nodup hnd hp
        have a2 := posN_nodup hnd hq
        rw [a1] at a2; exact Option.some.inj a2
  · rw [packR_len] at hp
    have : js[p]? = none := List.getElem?_eq_none_iff.2 hp
    simp only [F', this] at hk
  · cases hp : js[p]? with
    | none => simp only [F', hp] at hk
    | some i =>
      rw [hF hp] at hk
      obtain ⟨a1, _, _⟩ := h1 p i hp
      rcases hI.fresh i k hk with c | c
      · rcases a1 with rfl | a1
        · exact .inl c
        · exact (hI.low0 i a1 k c).elim
      · exact .inr c
  · rw [packR_len]; exact hle0
  · have hlt := lt_of_some hc
    obtain ⟨j, hj⟩ : ∃ j, js[p]? = some j := ⟨_, List.getElem?_eq_getElem (Nat.lt_of_lt_of_le hlt hle0)⟩
    obtain rfl := (h1 p j hj).2.2 T c hc
    obtain ⟨b1, c', b2⟩ := hI.pin j T c hc
    refine ⟨by simp only [evP, evP_at hj]; exact b1, V.packs js c', ?_⟩
    have hlt2 : j < (packR js st.own js).length := by rw [packR_len]; exact lt_of_some hj
    have hg := List.getElem?_eq_getElem hlt2
    obtain ⟨j', hj', e⟩ := packR_get js st.own js j _ hg
    rw [hj] at hj'; cases hj'
    rw [hg, e, b2]
theorem bP_Flat (l : List UInt8) : ∀ x ∈ bP l, PV.Flat x := by
  intro x hx
  rw [bP_eq] at hx
  obtain ⟨b, _, rfl⟩ := List.mem_map.1 hx
  exact .int _ _
end Go.Lx
set_option linter.unusedSimpArgs false
set_option linter.unusedVariables false
namespace Go.Lx
open Go
open Go.Sx (NP Keeps Hp Keep0 TI TEnv TOk Kd Ar ArEq kdInt vcIf FOk kdOf FnOk resOf gslot dstOk)
def DB (P : Program) (ops : Array Oper) (Q : Act → World → Prop) (A : Nat → Prop) : Nat → NP → Array Bool → Act → World → Prop
  | 0, _, listed, a, w => Region.ready .any ops listed = [] ∧ Q a w
  | fuel + 1, D, listed, a, w => (Region.ready .any ops listed = [] → Q a w) ∧
    ∀ i ∈ Region.ready .any ops listed, ∃ o, ops[i]? = some o ∧ stepD P ops o a w fun v w' => ∃ D', (A i ∨ (Prot D w w' ∧ ∀ k, k < w.heap.size → D k → D' k)) ∧ DB P ops Q A fuel D' (listed.setIfInBounds i true) (a.put o.dst v) w'
theorem DB.more {P : Program} {ops : Array Oper} {Q : Act → World → Prop} {A A' : Nat → Prop} (hA : ∀ i, A i → A' i) : ∀ (fuel : Nat) (D : NP) (listed : Array Bool) (a : Act) (w : World), DB P ops Q A fuel D listed a w → DB P ops Q A' fuel D listed a w
  | 0, _, _, _, _, h => h
  | fuel + 1, D, listed, a, w, h => ⟨h.1, fun i hi => by
    obtain ⟨o, ho, hs⟩ := h.2 i hi
    exact ⟨o, ho, hs.mono fun v w' ⟨D', h3, h4⟩ => ⟨D', h3.imp (hA i) fun h => h, DB.more hA fuel D' _ _ _ h4⟩⟩⟩
theorem DB.any {r : Option Nat} {P : Program} {ops : Array Oper} {A : Nat → Prop} {Q : Act → World → Prop} {Q' : Exit → Act → World → Prop} (hQ : ∀ a w, Q a w → Q' .normal a w) : ∀ (fuel : Nat) (D : NP) (listed : Array Bool) (a : Act) (w : World),
    DB P ops Q A fuel D listed a w → wpAnyIn (WF r) 9 P .any ops Q' fuel listed a w
  | 0, _, _, _, _, h => ⟨h.1, hQ _ _ h.2⟩
  | fuel + 1, D, listed, a, w, h => ⟨fun h0 => hQ _ _ (h.1 h0), fun i hi => by
    obtain ⟨o, ho, hs⟩ := h.2 i hi
    unfold wpOpIn
    simp only [ho]
    unfold stepD at hs
    split
    · rename_i hw
      rw [if_pos hw] at hs
      exact (resOf_wpA hs fun v w' ⟨D', _, hd⟩ => DB.any hQ fuel D' _ _ _ hd)
    · rename_i hw
      rw [if_neg hw] at hs
      obtain ⟨D', _, hd⟩ := hs
      exact ⟨fun _ _ => trivial, DB.any hQ fuel D' _ _ _ hd⟩⟩
theorem DB.first {P : Program} {ops : Array Oper} {A : Nat → Prop} {Q : Act → World → Prop} {i : Nat} {oi : Oper} {v : Value} (hi : ops[i]? = some oi) (hsel : ∀ (j : Nat) (o : Oper) cs b, ops[j]? = some o → o.op ≠ .select cs b)
    (hdep : ∀ j, A j → Dep ops j i) :
    ∀ (fuel : Nat) (D : NP) (listed : Array Bool) (a : Act) (w : World), Closed ops listed →
      (∀ j oj, ops[j]? = some oj → j ≠ i → listed.getD j true = false → (∀ e ∈ oj.after, Region.binds .any e = true → e.on ≠ i) → oi.apart ops oj = true) →
      i ∈ Region.ready .any ops listed → YieldsD P ops D oi v a w →
      DB P ops Q A fuel D (listed.setIfInBounds i true) (a.put oi.dst v) w → DB P ops Q A (fuel + 1) D listed a w := by
  intro fuel
  induction fuel with
  | zero =>
    intro D listed a w hcl _ hr hy H
    refine ⟨fun h => (by rw [h] at hr; cases hr), fun j hj => ?_⟩
    by_cases hji : j = i
    · subst hji; exact ⟨oi, hi, hy.step ⟨D, .inr ⟨Prot.refl _ _, fun _ _ h => h⟩, H⟩⟩
    · have := ready_mono hj hji
      rw [H.1] at this
      cases this
  | succ fuel ih =>
    intro D listed a w hcl hfree hr hy H
    refine ⟨fun h => (by rw [h] at hr; cases hr), fun j hj => ?_⟩
    by_cases hji : j = i
    · subst hji; exact ⟨oi, hi, hy.step ⟨D, .inr ⟨Prot.refl _ _, fun _ _ h => h⟩, H⟩⟩
    · obtain ⟨oj, hoj, h1⟩ := H.2 j (ready_mono hj hji)
      obtain ⟨hjun, oj', hoj', hall⟩ := mem_ready.1 hj
      rw [hoj] at hoj'; cases hoj'
      have hiun : listed.getD i false = true → False := fun h => by
        have h0 := (mem_ready.1 hr).1
        rcases Nat.lt_or_ge i listed.size with h' | h'
        · simp [h'] at h0 h; rw [h0] at h; cases h
        · simp [Array.getElem?_eq_none h'] at h
      have hnA : ¬ A j := fun hA => by
        exact hiun ((hdep j hA).listed hcl hoj hall)
      have hnot : ∀ e ∈ oj.after, Region.binds .any e = true → e.on ≠ i := fun e he hb heq => hiun (heq ▸ hall e he hb)
      have hap := hfree j oj hoj hji hjun hnot
      obtain ⟨a1, a2, a3⟩ := Oper.apart_spec hap
      have hfree' : ∀ k ok, ops[k]? = some ok → k ≠ i → (listed.setIfInBounds j true).getD k true = false →
          (∀ e ∈ ok.after, Region.binds .any e = true → e.on ≠ i) → oi.apart ops ok = true := fun k ok hk hki hun hno => by
        refine hfree k ok hk hki ?_ hno
        by_cases hjk : j = k
        · subst hjk; exact hjun
        · rw [getD_set_ne true hjk] at hun; exact hun
      refine ⟨oj, hoj, (h1.put (fun cs b => hsel j oj cs b hoj) a1).mono ?_⟩
      rintro u w' ⟨D', hpd, h3⟩
      obtain ⟨hp, hd⟩ := hpd.resolve_left hnA
      refine ⟨D', .inr ⟨hp, hd⟩, ih D' _ _ w' (hcl.step hj) hfree' (ready_mono hr (Ne.symm hji)) ?_ ?_⟩
      · rcases hy with ⟨hw, hrun⟩ | ⟨hw, hv⟩
        · refine .inl ⟨by rw [wanted_put oi a oj.dst u a3]; exact hw, fun w2 hw2 => ?_⟩
          rw [execOp_put oi (fun cs b => hsel i oi cs b hi) a oj.dst u a3]
          exact hrun w2 (hp.trans hw2 hd)
        · exact .inr ⟨by rw [wanted_put oi a oj.dst u a3]; exact hw, hv⟩
      · rw [Array.setIfInBounds_comm _ _ hji, ← Act.put_comm a v u a2]
        exact h3
inductive Mb where | rd | sole | fresh | act
def anyActB : List (Nat × Mb) → Bool
  | [] => false
  | (_, .act) :: _ => true
  | (_, .rd) :: r => anyActB r
  | (_, .sole) :: r => anyActB r
  | (_, .fresh) :: r => anyActB r
def actsInB (S : List Nat) : List (Nat × Mb) → Bool
  | [] => true
  | (_, .rd) :: r => actsInB S r
  | (_, .sole) :: r => actsInB S r
  | (_, .fresh) :: r => actsInB S r
  | (j, .act) :: r => memN j S && actsInB S r
def aheadC (ops : List Oper) (i : Nat) (rest : List (Nat × Mb)) : Bool := match anyActB rest with
  | false => true
  | true => actsInB (depsL i ops 0 []) rest
theorem anyActB_no : ∀ {l : List (Nat × Mb)}, anyActB l = false → ∀ j, ¬ (j, Mb.act) ∈ l
  | [], _, j, hj => by cases hj
  | (k, .rd) :: r, h, j, hj => by
    rcases List.mem_cons.1 hj with c | c
    · cases c
    · exact anyActB_no (l := r) h j c
  | (k, .sole) :: r, h, j, hj => by
    rcases List.mem_cons.1 hj with c | c
    · cases c
    · exact anyActB_no (l := r) h j c
  | (k, .fresh) :: r, h, j, hj => by
    rcases List.mem_cons.1 hj with c | c
    · cases c
    · exact anyActB_no (l := r) h j c
theorem actsInB_ok {S : List Nat} : ∀ {l : List (Nat × Mb)}, actsInB S l = true → ∀ j, (j, Mb.act) ∈ l → j ∈ S
  | (k, .rd) :: r, h, j, hj => by
    rcases List.mem_cons.1 hj with c | c
    · cases c
    · exact actsInB_ok (l := r) h j c
  | (k, .sole) :: r, h, j, hj => by
    rcases List.mem_cons.1 hj with c | c
    · cases c
    · exact actsInB_ok (l := r) h j c
  | (k, .fresh) :: r, h, j, hj => by
    rcases List.mem_cons.1 hj with c | c
    · cases c
    · exact actsInB_ok (l := r) h j c
  | (k, .act) :: r, h, j, hj => by
    simp only [actsInB, Bool.and_eq_true] at h
    rcases List.mem_cons.1 hj with c | c
    · cases c; exact memN_iff.1 h.1
    · exact actsInB_ok h.2 j c
theorem aheadC_ok {ops : Array Oper} {i : Nat} {l : List (Nat × Mb)} (h : aheadC ops.toList i l = true) (j : Nat) (hj : (j, Mb.act) ∈ l) : Dep ops j i := by
  unfold aheadC at h
  split at h
  · rename_i h0; exact (anyActB_no h0 j hj).elim
  · exact depsL_ok ops.toList 0 [] (fun k o hk => by simpa using hk) (fun x hx => by cases hx) j (actsInB_ok h j hj)
def vcDb (W : Wd) (E : TEnv) (X : Nat → Bool) (ops : List Oper) (Q : St → Prop) : List (Nat × Mb) → St → Prop
  | [], st => Q st
  | (i, e) :: rest, st => match ops[i]? with
    | none => False
    | some o => match dstOk st.n o.dst with
      | false => False
      | true => vcGuard ops o st
        (fun st1 => match e with
          | .sole => match rd W.L E noX o.op st1 (fun v => vcDb W E X ops Q rest (st1.upd o.dst v)) with
            | some φ => φ
            | none => False
          | .rd => match rd W.L E noX o.op st1 (fun v => vcDb W E X ops Q rest (st1.upd o.dst v)) with
            | some φ => φ
            | none => False
          | .fresh => vcOp W E o noX st1 fun v st2 => vcDb W E X ops Q rest (st2.upd o.dst v)
          | .act => vcOp W E o X st1 fun v st2 => vcDb W E X ops Q rest (st2.upd o.dst v))
        (fun st1 => vcDb W E X ops Q rest (st1.upd o.dst unitV))
def schedOkB (ops : Array Oper) : Array Bool → List (Nat × Mb) → Bool
  | listed, [] => (Region.ready .any ops listed).isEmpty
  | listed, (i, e) :: r => (Region.ready .any ops listed).contains i && (match e with
    | .act => (Region.ready .any ops listed).all fun j => Nat.beq j i
    | .fresh => (Region.ready .any ops listed).all fun j => Nat.beq j i
    | .sole => (Region.ready .any ops listed).all fun j => Nat.beq j i
    | .rd => Region.free .any ops listed i && aheadC ops.toList i r) && schedOkB ops (listed.setIfInBounds i true) r
theorem vcDb.ok {B : Base} {P : Program} {E : TEnv} (hE : TOk P E) (hF : FOk P E) {X : Nat → Bool} {ops : Array Oper} {Q : St → Prop} (hsel : Region.noSelect ops = true) : ∀ (l : List (Nat × Mb)) (listed : Array Bool) (st : St),
    Closed ops listed → schedOkB ops listed l = true → vcDb (.std B P) E X ops.toList Q l st → ∀ E0 F a w, Inv B st E0 F a w → DB P ops (fun a w => ∃ st E F, Inv B st E F a w ∧ Q st) (fun j => (j, Mb.act) ∈ l) l.length (DD B F noX) listed a w
  | [], listed, st, hcl, hs, h, E0, F, a, w, hI => ⟨by simpa [schedOkB] using hs, st, E0, F, hI, h⟩
  | (i, e) :: rest, listed, st, hcl, hs, h, E0, F, a, w, hI => by
    simp only [schedOkB, Bool.and_eq_true] at hs
    obtain ⟨⟨hri, hse⟩, hsr⟩ := hs
    have hri : i ∈ Region.ready .any ops listed := by simpa using hri
    have hcl' := hcl.step hri
    have hmore : ∀ j, (j, Mb.act) ∈ rest → (j, Mb.act) ∈ (i, e) :: rest := fun j hj => List.mem_cons_of_mem _ hj
    unfold vcDb at h
    split at h
    · exact h.elim
    · rename_i o ho
      have ho : ops[i]? = some o := by simpa using ho
      split at h
      · exact h.elim
      · rename_i hd
        obtain ⟨fr', hI1, hg⟩ := vcGuard.ok h hI
        cases e with
        | rd =>
          simp only [Bool.and_eq_true] at hse
          obtain ⟨hse, hah⟩ := hse
          rcases hg with ⟨hw, hrun⟩ | ⟨hw, hskip⟩
          · simp only at hrun
            split at hrun
            · rename_i φ hφ
              obtain ⟨v, x, hv1, hv2, hk⟩ := rd_ok hE hF hφ hrun hI1
              refine DB.more hmore _ _ _ _ _ ?_
              refine DB.first ho (Region.noSelect_spec hsel) (aheadC_ok hah) _ _ listed a w hcl (Region.free_spec ho hse) hri (.inl ⟨hw, fun w' hp => hv1 w' hp⟩) (v := x) ?_
              exact vcDb.ok hE hF hsel rest _ _ hcl' hsr hk E0 F _ w (hI1.updV hv2 hd)
            · exact hrun.elim
          · refine DB.more hmore _ _ _ _ _ ?_
            refine DB.first ho (Region.noSelect_spec hsel) (aheadC_ok hah) _ _ listed a w hcl (Region.free_spec ho hse) hri (.inr ⟨hw, rfl⟩) ?_
            exact vcDb.ok hE hF hsel rest _ _ hcl' hsr hskip E0 F _ w (hI1.updV unit_den hd)
        | sole =>
          simp only [List.all_eq_true] at hse
          refine ⟨(fun h0 => by rw [h0] at hri; cases hri), fun j hj => ?_⟩
          have hji : j = i := Nat.eq_of_beq_eq_true (hse j hj)
          subst hji
          refine ⟨o, ho, ?_⟩
          unfold stepD resOf
          rcases hg with ⟨hw, hrun⟩ | ⟨hw, hskip⟩
          · rw [if_pos hw]
            simp only at hrun
            split at hrun
            · rename_i φ hφ
              obtain ⟨v, x, hv1, hv2, hk⟩ := rd_ok hE hF hφ hrun hI1
              rw [hv1 w (Prot.refl _ _)]
              exact ⟨DD B F noX, .inr ⟨Prot.refl _ _, fun _ _ h => h⟩, DB.more hmore _ _ _ _ _ <| vcDb.ok hE hF hsel rest _ _ hcl' hsr hk E0 F _ w (hI1.updV hv2 hd)⟩
            · exact hrun.elim
          · rw [if_neg (by rw [hw]; simp)]
            exact ⟨DD B F noX, .inr ⟨Prot.refl _ _, fun _ _ h => h⟩, DB.more hmore _ _ _ _ _ <| vcDb.ok hE hF hsel rest _ _ hcl' hsr hskip E0 F _ w (hI1.updV unit_den hd)⟩
        | fresh =>
          simp only [List.all_eq_true] at hse
          refine ⟨(fun h0 => by rw [h0] at hri; cases hri), fun j hj => ?_⟩
          have hji : j = i := Nat.eq_of_beq_eq_true (hse j hj)
          subst hji
          refine ⟨o, ho, ?_⟩
          unfold stepD
          rcases hg with ⟨hw, hrun⟩ | ⟨hw, hskip⟩
          · rw [if_pos hw]
            refine (vcOp.ev hE hF hrun E0 F a w hI1).mono ?_
            rintro x w' ⟨v, st2, E', F', hn, hv, hI', hp, hdd, hk⟩
            exact ⟨DD B F' noX, .inr ⟨hp, hdd⟩, DB.more hmore _ _ _ _ _ <| vcDb.ok hE hF hsel rest _ _ hcl' hsr hk E' F' _ w' (hI'.updV hv (by rw [hn]; exact hd))⟩
          · rw [if_neg (by rw [hw]; simp)]
            exact ⟨DD B F noX, .inr ⟨Prot.refl _ _, fun _ _ h => h⟩, DB.more hmore _ _ _ _ _ <| vcDb.ok hE hF hsel rest _ _ hcl' hsr hskip E0 F _ w (hI1.updV unit_den hd)⟩
        | act =>
          simp only [List.all_eq_true] at hse
          refine ⟨(fun h0 => by rw [h0] at hri; cases hri), fun j hj => ?_⟩
          have hji : j = i := Nat.eq_of_beq_eq_true (hse j hj)
          subst hji
          refine ⟨o, ho, ?_⟩
          unfold stepD
          rcases hg with ⟨hw, hrun⟩ | ⟨hw, hskip⟩
          · rw [if_pos hw]
            refine (vcOp.ev hE hF hrun E0 F a w hI1).mono ?_
            rintro x w' ⟨v, st2, E', F', hn, hv, hI', hp, hdd, hk⟩
            exact ⟨DD B F' noX, .inl (by simp), DB.more hmore _ _ _ _ _ <| vcDb.ok hE hF hsel rest _ _ hcl' hsr hk E' F' _ w' (hI'.updV hv (by rw [hn]; exact hd))⟩
          · rw [if_neg (by rw [hw]; simp)]
            exact ⟨DD B F noX, .inr ⟨Prot.refl _ _, fun _ _ h => h⟩, DB.more hmore _ _ _ _ _ <| vcDb.ok hE hF hsel rest _ _ hcl' hsr hskip E0 F _ w (hI1.updV unit_den hd)⟩
def VcDrawB (B : Base) (P : Program) (E : TEnv) (X : Nat → Bool) (ops : List Oper) (l : List (Nat × Mb)) (st : St) (Q : St → Prop) : Prop :=
  ∀ add sub mul quo rem band bor bxor bclr shl shr ieq ilt ile seq slt beq bnot orb bcond iwrap iof ssz,
    ArEq add sub mul quo rem band bor bxor bclr shl shr ieq ilt ile seq slt beq bnot orb bcond iwrap iof ssz →
    ∀ cat sq sl imin imax smin smax len slen u8, LrEq cat sq sl imin imax smin smax len slen u8 →
    ∀ op, (∀ o X st k, OpEv B P o X st k → op o X st k) → ∀ call, (∀ f l X st k, CallEv B P f l X st k → call f l X st k) → ∀ code, (∀ c st Q, CodeEv B P c st Q → code c st Q) → ∀ q : St → Prop, (∀ st, Q st → q st) →
    vcDb ⟨⟨⟨add, sub, mul, quo, rem, band, bor, bxor, bclr, shl, shr, ieq, ilt, ile, seq, slt, beq, bnot, orb, bcond, iwrap, iof, ssz⟩, cat, sq, sl, imin, imax, smin, smax, len, slen, u8⟩, op, call, code⟩ E X ops q l st
def isFresh : Op → Bool
  | .buildSlice .. | .box .. => true
  | _ => false
end Go.Lx
set_option linter.unusedSimpArgs false
set_option linter.unusedVariables false
namespace Go.Lx
open Go
open Go.Sx (NP Keeps Hp Keep0 TI TEnv TOk Kd Ar ArEq kdInt vcIf FOk kdOf FnOk resOf gslot dstOk)
end Go.Lx
set_option linter.unusedSimpArgs false
set_option linter.unusedVariables false
namespace Go.Lx
open Go
/-! Bursts -/
end Go.Lx
set_option linter.unusedSimpArgs false
set_option linter.unusedVariables false
namespace Go.Lx
open Go
open Go.Sx (NP Keeps Hp TEnv TOk FOk)
inductive VW : V → V → Prop
  | refl (v : V) : VW v v
  | any (v : V) : VW v .any
  | p {x y : PV} (h : PW x y) : VW (.p x) (.p y)
  | tup {xs ys : List V} (hl : ys.length = xs.length) (h : ∀ (i : Nat) (x y : V), xs[i]? = some x → ys[i]? = some y → VW x y) : VW (.tup xs) (.tup ys)
theorem VW.den {x y : V} (h : VW x y) {H : Hp} {E : Ev} : ∀ {v : Value}, V.Den H E x v → V.Den H E y v := by
  induction h with
  | refl v => exact fun hd => hd
  | any v => exact fun hd => .any _
  | p h => exact fun hd => by cases hd with | p _ _ hd => exact .p _ _ (h _ _ hd)
  | tup hl _ ih =>
    intro v hd
    cases hd with
    | tup _ vs h1 h2 =>
      refine .tup _ vs (by rw [h1, hl]) fun i c v hc hv => ?_
      have hlt := lt_of_some hc
      rw [hl] at hlt
      exact ih i _ c (List.getElem?_eq_getElem hlt) hc (h2 i _ v (List.getElem?_eq_getElem hlt) hv)
def VWL : List V → List V → Prop
  | [], [] => True
  | x :: r, y :: s => VW x y ∧ VWL r s
  | _, _ => False
theorem VWL.get : ∀ {xs ys : List V}, VWL xs ys → ys.length = xs.length ∧ ∀ (i : Nat) (x y : V), xs[i]? = some x → ys[i]? = some y → VW x y
  | [], [], _ => ⟨rfl, fun i x y h => by simp at h⟩
  | a :: r, b :: s, h => by
    obtain ⟨h1, h2⟩ := VWL.get (xs := r) (ys := s) h.2
    refine ⟨by simp [h1], fun i x y hx hy => ?_⟩
    cases i with
    | zero => simp at hx hy; subst hx hy; exact h.1
    | succ i => exact h2 i x y (by simpa using hx) (by simpa using hy)
  | [], _ :: _, h => h.elim
  | _ :: _, [], h => h.elim
theorem Holds.cut {H : Hp} {E : Ev} {F : Nat → NP} {n i : Nat} {r : Res} (h : Holds H E F i r) (hi : i < n) (hf : ∀ (T : TypeId) (cs : List V), r = .st T cs → V.fits n cs = true) : Holds H { E with n := n } (fun i k => i < n ∧ F i k) i r := by
  have hF : (fun i k => i < n ∧ F i k) i = F i := funext fun k => propext ⟨fun c => c.2, fun c => ⟨hi, c⟩⟩
  cases r with
  | st T cells =>
    obtain ⟨g0, g1, vals, g2, g3⟩ := h
    exact ⟨g0, fun k => by rw [hF]; exact g1 k, vals, g2, g3.1, fun j c v hc hv => (g3.2 j c v hc hv).fit (fits_mem (hf _ _ rfl) c (List.mem_of_getElem? hc))⟩
  | arr T sz xs =>
    obtain ⟨g0, g1, g2, g3, g⟩ := h
    refine ⟨g0, g1, g2, g3, ?_⟩
    rcases g with ⟨a1, a2, a3⟩ | ⟨a1, a2, a3⟩
    · exact .inl ⟨a1, a2, fun k => by rw [hF]; exact a3 k⟩
    · exact .inr ⟨a1, fun k => by rw [hF]; exact a2 k, a3⟩
  | dead => intro k; rw [hF]; exact h k
theorem FnL.less {P : Program} {f : FuncId} {args : List V} {own : List Res} {R R' : V → List Res → Prop} (h : FnL P f args own R)
    (hr : ∀ v own', R v own' → ∃ y pre ex, own' = pre ++ ex ∧ VW v y ∧ V.fit pre.length y = true ∧ ownFit pre.length pre = true ∧ own.length ≤ pre.length ∧ R' y pre) : FnL P f args own R' := by
  refine ⟨h.1, fun H E Fs vals h1 h2 h3 h4 => Calls.mono (h.2 H E Fs vals h1 h2 h3 h4) ?_⟩
  rintro e w' ⟨x, v, own', E', Fs', rfl, g2, g3, g4, g5, g6, g7⟩
  obtain ⟨y, pre, ex, rfl, hv, f1, f2, hl, hR⟩ := hr _ _ g6
  refine ⟨x, y, pre, { E' with n := pre.length }, fun i k => i < pre.length ∧ Fs' i k, rfl, g2, hl, fun i k hk => g4 i k hk.2, fun i T c hc => ?_, hR, fun M' hM => ?_⟩
  · obtain ⟨k1, c', k2⟩ := g5 i T c hc
    have : i < pre.length := Nat.lt_of_lt_of_le (lt_of_some hc) hl
    rw [List.getElem?_append_left this] at k2
    exact ⟨k1, c', k2⟩
  · have hM2 : ∀ k, M' k → H.M k ∨ ∃ i, Fs' i k := fun k hk => (hM k hk).imp id fun ⟨i, _, c⟩ => ⟨i, c⟩
    obtain ⟨k1, k2⟩ := g7 M' hM2
    refine ⟨⟨rfl, fun i r hi => ?_, fun i j hij k hk hk' => k1.apart i j hij k hk.2 hk'.2, fun i hi k hk => absurd hk.1 (by omega)⟩, (hv.den k2).fit f1⟩
    have hil := lt_of_some hi
    refine (k1.held i r (by rw [List.getElem?_append_left hil]; exact hi)).cut hil fun T cs hT => ?_
    subst hT
    exact ownFit_get f2 i T cs hi
/-! ### Where ways meet -/
theorem meet {B : Base} {P : Program} {ι : Type} (n : Nat) (fr : ι → List (Nat × V)) (own : ι → List Res) (Iv : ι → Prop) {E : TEnv} (hE : TOk P E) (hF : FOk P E) {c : Code} {Q : Exit → St → Prop} {G : Prop}
    (main : (∀ i, Iv i → CodeEv B P c ⟨n, fr i, own i⟩ Q) → G) (cut : ∀ i, Iv i → VcAny B P E c ⟨n, fr i, own i⟩ Q) : G :=
  main fun i hi => (cut i hi).ok hE hF
/-! ### Loops with a told end -/
def OutX {κ : Type} (n pn : Nat) (fr : κ → List (Nat × V)) (own : κ → List Res) (Iv : κ → Prop) (st : St) : Prop :=
  ∃ j ex, Iv j ∧ st.n = n ∧ FrLe st.fr (fr j) ∧ st.own = own j ++ ex ∧ frFit (own j).length (fr j) = true ∧ ownFit (own j).length (own j) = true ∧ pn ≤ (own j).length
def loopQX (id : Nat) (rd out : St → Prop) (Q : Exit → St → Prop) (e : Exit) (st : St) : Prop :=
  match e with
  | .normal => rd st
  | .exit id' => match Nat.beq id' id with
    | true => out st
    | false => Q (.exit id') st
  | .goto l => Q (.goto l) st
  | .ret => Q .ret st
  | .panic ch => Q (.panic ch) st
  | .outgrown => Q .outgrown st
theorem CodeEv.loopX {B : Base} {P : Program} {E : TEnv} (hE : TOk P E) (hF : FOk P E) {st : St} {body : Code} {Q : Exit → St → Prop} {ι κ : Type} (fr : ι → List (Nat × V)) (own : ι → List Res) (Iv : ι → Prop) (μ : ι → Nat)
    (i0 : ι) (id : Nat) (frX : κ → List (Nat × V)) (ownX : κ → List Res) (IvX : κ → Prop) (h0 : FrLe st.fr (fr i0) ∧ st.own = own i0 ∧ Iv i0)
    (round : ∀ i, Iv i → ∀ rd : St → Prop, (∀ st', Round st.n B.own0.length fr own Iv μ i st' → rd st') → ∀ out : St → Prop, (∀ st', OutX st.n B.own0.length frX ownX IvX st' → out st') → VcAny B P E body ⟨st.n, fr i, own i⟩ (loopQX id rd out Q))
    (after : ∀ k, IvX k → Q (.exit id) ⟨st.n, frX k, ownX k⟩) :
    CodeEv B P (.loop body) st Q := by
  intro E0 F a w hI
  refine wpA_loop_ghost (fun n a' w' => ∃ i E' F', μ i = n ∧ Iv i ∧ Inv B ⟨st.n, fr i, own i⟩ E' F' a' w') (μ i0) ?_ ?_
  · refine ⟨i0, E0, F, rfl, h0.2.2, ?_⟩
    have := hI.weaken (fr i0) h0.1.look
    obtain ⟨n, f, o⟩ := st
    have ho : o = own i0 := h0.2.1
    rw [← ho]; exact this
  · rintro n a' w' ⟨i, E', F', rfl, hiv, hI'⟩
    refine wpA_mono ((round i hiv _ (fun _ h => h) _ (fun _ h => h)).ok hE hF E' F' a' w' hI') ?_
    rintro e a2 w2 ⟨st2, E2, F2, hI2, hq⟩
    cases e with
    | normal =>
      obtain ⟨j, ex, hlt, hjv, hn, hfr, hown, hf1, hf2, hpn⟩ := hq
      have := hI2.weaken (fr j) hfr.look
      obtain ⟨n2, f2, o2⟩ := st2
      simp only at hown hn
      subst hown hn
      exact ⟨μ j, hlt, j, _, _, rfl, hjv, Inv.trim this hf1 hf2 hpn⟩
    | exit id' =>
      simp only [loopQX] at hq
      split at hq
      · rename_i hb
        have hb := Nat.eq_of_beq_eq_true hb
        subst hb
        obtain ⟨j, ex, hjv, hn, hfr, hown, hf1, hf2, hpn⟩ := hq
        have := hI2.weaken (frX j) hfr.look
        obtain ⟨n2, f2, o2⟩ := st2
        simp only at hown hn
        subst hown hn
        exact ⟨_, _, _, Inv.trim this hf1 hf2 hpn, after j hjv⟩
      · exact ⟨st2, E2, F2, hI2, hq⟩
    | goto l => exact ⟨st2, E2, F2, hI2, hq⟩
    | ret => exact ⟨st2, E2, F2, hI2, hq⟩
    | panic ch => exact ⟨st2, E2, F2, hI2, hq⟩
    | outgrown => exact ⟨st2, E2, F2, hI2, hq⟩
end Go.Lx
set_option linter.unusedSimpArgs false
set_option linter.unusedVariables false
namespace Go.Lx
open Go
open Go.Sx (NP Keeps Hp)
theorem Hp.le_refl' (H : Hp) : H.Le H := ⟨rfl, rfl, rfl, Nat.le_refl _, fun _ _ h => ⟨rfl, h⟩⟩
theorem FnL.hollow {P : Program} {f : FuncId} {args : List V} {own : List Res} {R : V → List Res → Prop} (i p : Nat) (T : TypeId) (sz : Nat) (hsz : 0 < sz) {T' : TypeId} {cells : List V} (hi : own[i]? = some (.st T' cells)) (hp : cells[p]? = some (.p .nils))
    (h : FnL P f args (own.set i (.st T' (cells.set p (.vw own.length sz 0 0 none))) ++ [.arr T sz []]) R) : FnL P f args own R := by
  refine ⟨h.1, fun H E Fs vals h1 h2 h3 h4 => ?_⟩
  have hil := lt_of_some hi
  have hn := h2.n
  have hle := Ev.push_le E 0 0 0 sz true
  have hown : OwnAt H (E.push 0 0 0 sz true) Fs (own.set i (.st T' (cells.set p (.vw own.length sz 0 0 none))) ++ [.arr T sz []]) := by
    refine ⟨by simp [Ev.push, hn], fun j r hj => ?_, h2.apart, fun j hj k hk => h2.low j (by simp at hj; omega) k hk⟩
    by_cases hjl : j < own.length
    · rw [List.getElem?_append_left (by simpa using hjl), List.getElem?_set] at hj
      have stay : ∀ r0, own[j]? = some r0 → Holds H (E.push 0 0 0 sz true) Fs j r0 := fun r0 hr0 => by
        have := (h2.held j r0 hr0).stay (E' := E.push 0 0 0 sz true) (F' := Fs) (f := fun v => v) (Hp.le_refl' H) (hle.at' j (by rw [hn]; exact hjl)) (fun c v hd => hd.mono (Hp.le_refl' H) hle) rfl (fun k _ => rfl)
        have e : r0.map (fun v => v) = r0 := by cases r0 <;> simp [Res.map]
        rwa [e] at this
      split at hj
      · rename_i e
        subst e
        cases hj
        obtain ⟨g0, g1, vs, g2, g3⟩ := stay _ hi
        refine ⟨g0, g1, vs, g2, ?_⟩
        obtain ⟨x, hx, hd⟩ := g3.get hp
        have := hd.nils_inv; subst this
        have hset2 : vs.set p (.slice none 0 0) = vs := by
          obtain ⟨hlt, he⟩ := List.getElem?_eq_some_iff.1 hx
          rw [← he]; exact List.set_getElem_self hlt
        have := g3.set (c := .vw own.length sz 0 0 none) (v := .slice none 0 0) (.vwn _ _ none _ (by simp [Ev.push, hn]) (by simp [Ev.push, hn]) (by simp [Ev.push, hn]) rfl) p
        rwa [hset2] at this
      · exact stay r hj
    · have hje : j = own.length := by
        have := lt_of_some hj
        simp at this; omega
      subst hje
      rw [List.getElem?_append_right (by simp)] at hj
      simp at hj
      subst hj
      exact ⟨hsz, Wf.nil, by simp [Ev.push, hn], by simp [Ev.push, hn], .inl ⟨by simp [Ev.push, hn], rfl, h2.low _ (Nat.le_refl _)⟩⟩
  refine Calls.mono (h.2 H _ Fs vals h1 hown h3 (h4.mono (Hp.le_refl' H) hle)) ?_
  rintro e w' ⟨x, v, own', E', Fs', g1, g2, g3, g4, g5, g6, g7⟩
  refine ⟨x, v, own', E', Fs', g1, g2, by simp at g3; omega, g4, fun j T2 c hj => ?_, g6, g7⟩
  have hjl := lt_of_some hj
  have hρ : (E.push 0 0 0 sz true).ρ j = E.ρ j := (hle.at' j (by rw [hn]; exact hjl)).ρ
  by_cases hji : i = j
  · subst hji
    rw [hi] at hj; cases hj
    obtain ⟨k1, k2⟩ := g5 i _ _ (by rw [List.getElem?_append_left (by simpa using hil), List.getElem?_set, if_pos rfl, if_pos hil])
    exact ⟨k1.trans hρ, k2⟩
  · obtain ⟨k1, k2⟩ := g5 j _ _ (by rw [List.getElem?_append_left (by simpa using hjl), List.getElem?_set, if_neg hji]; exact hj)
    exact ⟨k1.trans hρ, k2⟩
end Go.Lx
set_option linter.unusedSimpArgs false
set_option linter.unusedVariables false
namespace Go.Lx
open Go
open Go.Sx (NP Keeps Hp Keep0 TI TEnv TOk Kd Ar ArEq kdInt vcIf FOk kdOf FnOk resOf gslot dstOk)
mutual
/-- How a region's operations are taken: a reading that is free, the only one that is ready, or any of these acts. -/
inductive Sch where
  | done
  | rd (i : Nat) (t : Sch)
  | so (i : Nat) (t : Sch)
  | acts (l : SchL)
inductive SchL where
  | nil
  | cons (i : Nat) (t : Sch) (l : SchL)
end
def SchL.has (j : Nat) : SchL → Bool
  | .nil => false
  | .cons i _ l => match Nat.beq i j with
    | true => true
    | false => SchL.has j l
mutual
def vcDt (W : Wd) (E : TEnv) (X : Nat → Bool) (ops : List Oper) (Q : St → Prop) : Sch → St → Prop
  | .done, st => Q st
  | .rd i t, st => match ops[i]? with
    | none => False
    | some o => match dstOk st.n o.dst with
      | false => False
      | true => vcGuard ops o st
        (fun st1 => match rd W.L E X o.op st1 (fun v => vcDt W E X ops Q t (st1.upd o.dst v)) with
          | some φ => φ
          | none => False)
        (fun st1 => vcDt W E X ops Q t (st1.upd o.dst unitV))
  | .so i t, st => match ops[i]? with
    | none => False
    | some o => match dstOk st.n o.dst with
      | false => False
      | true => vcGuard ops o st
        (fun st1 => match rd W.L E noX o.op st1 (fun v => vcDt W E X ops Q t (st1.upd o.dst v)) with
          | some φ => φ
          | none => False)
        (fun st1 => vcDt W E X ops Q t (st1.upd o.dst unitV))
  | .acts l, st => vcDtL W E X ops Q l st
def vcDtL (W : Wd) (E : TEnv) (X : Nat → Bool) (ops : List Oper) (Q : St → Prop) : SchL → St → Prop
  | .nil, _ => True
  | .cons i t .nil, st => match ops[i]? with
    | none => False
    | some o => match dstOk st.n o.dst with
      | false => False
      | true => vcGuard ops o st (fun st1 => vcOp W E o X st1 fun v st2 => vcDt W E X ops Q t (st2.upd o.dst v)) (fun st1 => vcDt W E X ops Q t (st1.upd o.dst unitV))
  | .cons i t (.cons j u l), st => (match ops[i]? with
    | none => False
    | some o => match dstOk st.n o.dst with
      | false => False
      | true => vcGuard ops o st (fun st1 => vcOp W E o X st1 fun v st2 => vcDt W E X ops Q t (st2.upd o.dst v)) (fun st1 => vcDt W E X ops Q t (st1.upd o.dst unitV))) ∧
    vcDtL W E X ops Q (.cons j u l) st
end
mutual
def okT (ops : Array Oper) : Nat → Array Bool → Sch → Bool
  | 0, listed, .done => (Region.ready .any ops listed).isEmpty
  | n + 1, listed, .rd i t => (Region.ready .any ops listed).contains i && Region.free .any ops listed i && okT ops n (listed.setIfInBounds i true) t
  | n + 1, listed, .so i t => (Region.ready .any ops listed).contains i && ((Region.ready .any ops listed).all fun j => Nat.beq j i) && okT ops n (listed.setIfInBounds i true) t
  | n + 1, listed, .acts l => ((Region.ready .any ops listed).all fun j => SchL.has j l) && !(Region.ready .any ops listed).isEmpty && okTL ops n listed l
  | _, _, _ => false
def okTL (ops : Array Oper) : Nat → Array Bool → SchL → Bool
  | _, _, .nil => true
  | n, listed, .cons i t l => okT ops n (listed.setIfInBounds i true) t && okTL ops n listed l
end
def ActAt (B : Base) (P : Program) (E : TEnv) (X : Nat → Bool) (ops : List Oper) (Q : St → Prop) (t : Sch) (i : Nat) (st : St) : Prop :=
  match ops[i]? with
  | none => False
  | some o => match dstOk st.n o.dst with
    | false => False
    | true => vcGuard ops o st (fun st1 => vcOp (.std B P) E o X st1 fun v st2 => vcDt (.std B P) E X ops Q t (st2.upd o.dst v)) (fun st1 => vcDt (.std B P) E X ops Q t (st1.upd o.dst unitV))
theorem vcDtL.pick {B : Base} {P : Program} {E : TEnv} {X : Nat → Bool} {ops : List Oper} {Q : St → Prop} {aops : Array Oper} {n : Nat} {listed : Array Bool} {st : St} {j : Nat} : ∀ {l : SchL}, vcDtL (.std B P) E X ops Q l st → okTL aops n listed l = true → SchL.has j l = true →
    ∃ t, ActAt B P E X ops Q t j st ∧ okT aops n (listed.setIfInBounds j true) t = true
  | .cons i t .nil, h, hk, hj => by
    simp only [okTL, Bool.and_eq_true] at hk
    simp only [SchL.has] at hj
    split at hj
    · rename_i e
      obtain rfl := Nat.eq_of_beq_eq_true e
      unfold vcDtL at h
      exact ⟨t, h, hk.1⟩
    · cases hj
  | .cons i t (.cons i2 u l), h, hk, hj => by
    rw [okTL, Bool.and_eq_true] at hk
    rw [SchL.has] at hj
    unfold vcDtL at h
    split at hj
    · rename_i e
      obtain rfl := Nat.eq_of_beq_eq_true e
      exact ⟨t, h.1, hk.1⟩
    · exact vcDtL.pick (l := .cons i2 u l) h.2 hk.2 hj
theorem vcDt.ok {B : Base} {P : Program} {E : TEnv} (hE : TOk P E) (hF : FOk P E) {X : Nat → Bool} {ops : Array Oper} {Q : St → Prop} (hsel : Region.noSelect ops = true) : ∀ (n : Nat) (t : Sch) (listed : Array Bool) (st : St),
    okT ops n listed t = true → vcDt (.std B P) E X ops.toList Q t st → ∀ E0 F a w, Inv B st E0 F a w → DA P ops (fun a w => ∃ st E F, Inv B st E F a w ∧ Q st) (fun _ => True) n (DD B F X) listed a w
  | 0, t, listed, st, hs, h, E0, F, a, w, hI => by
    cases t with
    | done => simp only [vcDt] at h; exact ⟨by simpa [okT] using hs, st, E0, F, hI, h⟩
    | rd i t => simp [okT] at hs
    | so i t => simp [okT] at hs
    | acts l => simp [okT] at hs
  | n + 1, t, listed, st, hs, h, E0, F, a, w, hI => by
    cases t with
    | done => simp [okT] at hs
    | rd i t =>
      simp only [okT, Bool.and_eq_true] at hs
      obtain ⟨⟨hri, hse⟩, hsr⟩ := hs
      have hri : i ∈ Region.ready .any ops listed := by simpa using hri
      simp only [vcDt] at h
      split at h
      · exact h.elim
      rename_i o ho
      have ho : ops[i]? = some o := by simpa using ho
      split at h
      · exact h.elim
      rename_i hd
      obtain ⟨fr', hI1, hg⟩ := vcGuard.ok h hI
      rcases hg with ⟨hw, hrun⟩ | ⟨hw, hskip⟩
      · split at hrun
        · rename_i φ hφ
          obtain ⟨v, x, hv1, hv2, hk⟩ := rd_ok hE hF hφ hrun hI1
          refine DA.first ho (Region.noSelect_spec hsel) _ _ listed a w (Region.free_spec ho hse) hri (.inl ⟨hw, fun w' hp => hv1 w' hp⟩) (v := x) ?_
          exact vcDt.ok hE hF hsel n t _ _ hsr hk E0 F _ w (hI1.updV hv2 hd)
        · exact hrun.elim
      · refine DA.first ho (Region.noSelect_spec hsel) _ _ listed a w (Region.free_spec ho hse) hri (.inr ⟨hw, rfl⟩) ?_
        exact vcDt.ok hE hF hsel n t _ _ hsr hskip E0 F _ w (hI1.updV unit_den hd)
    | so i t =>
      simp only [okT, Bool.and_eq_true] at hs
      obtain ⟨⟨hri, hse⟩, hsr⟩ := hs
      have hri : i ∈ Region.ready .any ops listed := by simpa using hri
      simp only [vcDt] at h
      split at h
      · exact h.elim
      rename_i o ho
      have ho : ops[i]? = some o := by simpa using ho
      split at h
      · exact h.elim
      rename_i hd
      obtain ⟨fr', hI1, hg⟩ := vcGuard.ok h hI
      have hse := List.all_eq_true.1 hse
      refine ⟨(fun h0 => by rw [h0] at hri; cases hri), fun j hj => ?_⟩
      have hji : j = i := Nat.eq_of_beq_eq_true (hse j hj)
      subst hji
      refine ⟨o, ho, ?_⟩
      unfold stepD resOf
      rcases hg with ⟨hw, hrun⟩ | ⟨hw, hskip⟩
      · rw [if_pos hw]
        split at hrun
        · rename_i φ hφ
          obtain ⟨v, x, hv1, hv2, hk⟩ := rd_ok hE hF hφ hrun hI1
          rw [hv1 w (Prot.refl _ _)]
          exact ⟨DD B F X, Prot.refl _ _, fun _ _ h => h, .inr rfl, vcDt.ok hE hF hsel n t _ _ hsr hk E0 F _ w (hI1.updV hv2 hd)⟩
        · exact hrun.elim
      · rw [if_neg (by rw [hw]; simp)]
        exact ⟨DD B F X, Prot.refl _ _, fun _ _ h => h, .inr rfl, vcDt.ok hE hF hsel n t _ _ hsr hskip E0 F _ w (hI1.updV unit_den hd)⟩
    | acts l =>
      simp only [okT, Bool.and_eq_true] at hs
      obtain ⟨⟨hse, hne⟩, hsr⟩ := hs
      simp only [vcDt] at h
      have hse := List.all_eq_true.1 hse
      refine ⟨(fun h0 => by rw [h0] at hne; simp at hne), fun j hj => ?_⟩
      obtain ⟨t, hact, hok⟩ := vcDtL.pick h hsr (hse j hj)
      unfold ActAt at hact
      split at hact
      · exact hact.elim
      rename_i o ho
      have ho : ops[j]? = some o := by simpa using ho
      split at hact
      · exact hact.elim
      rename_i hd
      obtain ⟨fr', hI1, hg⟩ := vcGuard.ok hact hI
      refine ⟨o, ho, ?_⟩
      unfold stepD
      rcases hg with ⟨hw, hrun⟩ | ⟨hw, hskip⟩
      · rw [if_pos hw]
        refine (vcOp.ev hE hF hrun E0 F a w hI1).mono ?_
        rintro x w' ⟨v, st2, E', F', hn, hv, hI', hp, hdd, hk⟩
        exact ⟨DD B F' X, hp, hdd, .inl trivial, vcDt.ok hE hF hsel n t _ _ hok hk E' F' _ w' (hI'.updV hv (by rw [hn]; exact hd))⟩
      · rw [if_neg (by rw [hw]; simp)]
        exact ⟨DD B F X, Prot.refl _ _, fun _ _ h => h, .inr rfl, vcDt.ok hE hF hsel n t _ _ hok hskip E0 F _ w (hI1.updV unit_den hd)⟩
def VcDrawT (B : Base) (P : Program) (E : TEnv) (X : Nat → Bool) (ops : List Oper) (t : Sch) (st : St) (Q : St → Prop) : Prop :=
  ∀ add sub mul quo rem band bor bxor bclr shl shr ieq ilt ile seq slt beq bnot orb bcond iwrap iof ssz,
    ArEq add sub mul quo rem band bor bxor bclr shl shr ieq ilt ile seq slt beq bnot orb bcond iwrap iof ssz →
    ∀ cat sq sl imin imax smin smax len slen u8, LrEq cat sq sl imin imax smin smax len slen u8 →
    ∀ op, (∀ o X st k, OpEv B P o X st k → op o X st k) → ∀ call, (∀ f l X st k, CallEv B P f l X st k → call f l X st k) → ∀ code, (∀ c st Q, CodeEv B P c st Q → code c st Q) → ∀ q : St → Prop, (∀ st, Q st → q st) →
    vcDt ⟨⟨⟨add, sub, mul, quo, rem, band, bor, bxor, bclr, shl, shr, ieq, ilt, ile, seq, slt, beq, bnot, orb, bcond, iwrap, iof, ssz⟩, cat, sq, sl, imin, imax, smin, smax, len, slen, u8⟩, op, call, code⟩ E X ops q t st
theorem CodeEv.drawT {B : Base} {P : Program} {E : TEnv} (hE : TOk P E) (hF : FOk P E) {id : Nat} {ops : Array Oper} {st : St} {Q : Exit → St → Prop} (hm : P.follows .mixedOrders = true) (X : Nat → Bool) (t : Sch)
    (hsel : Region.noSelect ops = true) (hs : okT ops ops.size (Array.replicate ops.size false) t = true) (h : VcDrawT B P E X ops.toList t st (Q .normal)) : CodeEv B P (.region id ops true) st Q := by
  intro E0 F a w hI
  refine wpIn_region_any hm ?_
  have hI2 : Inv B st E0 F a { w with drawn := w.drawn + 1 } := hI.world ⟨rfl, rfl, rfl, Nat.le_refl _, fun _ _ _ => rfl⟩
  refine DA.any (A := fun _ => True) (Q := fun a w => ∃ st E F, Inv B st E F a w ∧ Q .normal st) (fun a w h => h) _ (DD B F X) _ _ _ ?_
  exact vcDt.ok hE hF hsel _ t _ st hs (h _ _ _ _ _ _ _ _ _ _ _ _ _ _ _ _ _ _ _ _ _ _ _ ArEq.std _ _ _ _ _ _ _ _ _ _ LrEq.std _ (fun _ _ _ _ h => h) _ (fun _ _ _ _ _ h => h) _ (fun _ _ _ h => h) _ (fun _ h => h)) E0 F a _ hI2
def ThruQ {κ : Type} (B : Base) (n : Nat) (fr : κ → List (Nat × V)) (own : κ → List Res) (Iv : κ → Prop) (e : Exit) (st : St) : Prop :=
  match e with
  | .normal => ∃ st', ConvW B st st' ∧ OutX n B.own0.length fr own Iv st'
  | _ => False
theorem OutX.thru {κ : Type} {B : Base} {n : Nat} {fr : κ → List (Nat × V)} {own : κ → List Res} {Iv : κ → Prop} {st : St} (h : OutX n B.own0.length fr own Iv st) : ThruQ B n fr own Iv .normal st := ⟨st, (Conv.refl B st).weak, h⟩
theorem CodeEv.thru {B : Base} {P : Program} {c : Code} {st : St} {Q : Exit → St → Prop} {κ : Type} (fr : κ → List (Nat × V)) (own : κ → List Res) (Iv : κ → Prop)
    (h : CodeEv B P c st (ThruQ B st.n fr own Iv)) (after : ∀ k, Iv k → Q .normal ⟨st.n, fr k, own k⟩) : CodeEv B P c st Q := by
  intro E0 F a w hI
  refine wpA_mono (h E0 F a w hI) ?_
  rintro e a2 w2 ⟨st2, E2, F2, hI2, hq⟩
  cases e with
  | normal =>
    obtain ⟨st3, hc, j, ex, hjv, hn, hfr, hown, hf1, hf2, hpn⟩ := hq
    obtain ⟨E3, F3, hI3⟩ := hc.2 _ _ _ _ hI2
    have := hI3.weaken (fr j) hfr.look
    obtain ⟨n3, f3, o3⟩ := st3
    simp only at hown hn
    subst hown hn
    exact ⟨_, _, _, Inv.trim this hf1 hf2 hpn, after j hjv⟩
  | exit id => exact hq.elim
  | goto l => exact hq.elim
  | ret => exact hq.elim
  | panic ch => exact hq.elim
  | outgrown => exact hq.elim
/-! A schedule, found by program -/
mutual
def autoT (ops : Array Oper) : Nat → Array Bool → Sch
  | 0, _ => .done
  | n + 1, listed => match Region.ready .any ops listed with
    | [] => .done
    | [i] => match ops[i]? with
      | some o => (match isRd o.op with
        | true => .so i (autoT ops n (listed.setIfInBounds i true))
        | false => .acts (.cons i (autoT ops n (listed.setIfInBounds i true)) .nil))
      | none => .done
    | rs => match pickRd ops listed rs with
      | some i => .rd i (autoT ops n (listed.setIfInBounds i true))
      | none => .acts (autoTL ops n listed rs)
def autoTL (ops : Array Oper) : Nat → Array Bool → List Nat → SchL
  | _, _, [] => .nil
  | n, listed, i :: r => .cons i (autoT ops n (listed.setIfInBounds i true)) (autoTL ops n listed r)
end
end Go.Lx
set_option linter.unusedSimpArgs false
set_option linter.unusedVariables false
namespace Go.Lx
open Go
open Go.Sx (NP Keeps Hp)
theorem CallEv.freeze {B : Base} {P : Program} {f : FuncId} {args : List V} {X : Nat → Bool} {st : St} {k : V → St → Prop} (j : Nat) {T : TypeId} {sz : Nat} {xs : List PV} (hj : st.own[j]? = some (.arr T sz xs)) (hnl : B.own0.length ≤ j)
    (h : CallEv B P f (V.frzs j xs args) X ⟨st.n, frMap (V.frz j xs) st.fr, (st.own.map (Res.map (V.frz j xs))).set j .dead⟩ k) : CallEv B P f args X st k := by
  intro E F a w vals hI hd
  have hM : ∀ q, F j q → ¬ nowM B (pushF F j fun _ => False) q := fun q hq => by
    rintro (c | ⟨i, c⟩)
    · have h1 := hI.bd q c
      rcases hI.fresh j q hq with h2 | h2
      · exact hI.low0 j hnl q h2
      · omega
    · by_cases hi : i = j
      · subst hi; rw [pushF_self] at c; exact c
      · rw [pushF_ne i hi] at c; exact hI.apart i j hi q c hq
  have hf : ∀ i q, pushF F j (fun _ => False) i q → F i q ∨ w.heap.size ≤ q := fun i q h => by
    by_cases hi : i = j
    · subst hi; rw [pushF_self] at h; exact h.elim
    · rw [pushF_ne i hi] at h; exact .inl h
  have hle := hI.le (F' := pushF F j fun _ => False) (keepsNone (Keeps.refl _ w)) hf
  have hd' : DenL ⟨nowM B (pushF F j fun _ => False), w⟩ E (V.frzs j xs args) vals := by
    rw [V.frzs_eq]; exact hd.map fun c v hc => hc.frz hI hj hle rfl hM
  have hdd : ∀ X b, DD B F X b → DD B (pushF F j fun _ => False) X b := fun X b hb => by
    rcases hb with hb | ⟨i, hi, hF⟩
    · refine .inl ?_
      rintro (c | ⟨i, c⟩)
      · exact hb (.inl c)
      · rcases hf i b c with c' | c'
        · exact hb (.inr ⟨i, c'⟩)
        · by_cases e : i = j
          · subst e; rw [pushF_self] at c; exact c
          · rw [pushF_ne i e] at c; exact hb (.inr ⟨i, c⟩)
    · by_cases e : i = j
      · subst e; exact .inl (hM b hF)
      · exact .inr ⟨i, hi, by rw [pushF_ne i e]; exact hF⟩
  rcases h E _ a w vals (hI.freeze hj hnl) hd' with ⟨g1, g2⟩ | ⟨x, w', g1, v, st2, E2, F2, k1, k2, k3, k4, k5, k6⟩
  · exact .inl ⟨g1, Calls.mono g2 fun e w' ⟨x, hx, v, st2, E2, F2, k1, k2, k3, k4, k5, k6⟩ => ⟨x, hx, v, st2, E2, F2, k1, k2, k3, ⟨k4.os, k4.tape, k4.output, k4.size, fun b hb hd => k4.block b hb (hdd X b hd)⟩, fun b hb hd => k5 b hb (hdd X b hd), k6⟩⟩
  · exact .inr ⟨x, w', g1, v, st2, E2, F2, k1, k2, k3, ⟨k4.os, k4.tape, k4.output, k4.size, fun b hb hd => k4.block b hb (hdd X b hd)⟩, fun b hb hd => k5 b hb (hdd X b hd), k6⟩
mutual
/-- As V.frz; what is seen of the row is told by g. -/
def V.frzG (j : Nat) (g : Nat → Nat → List PV) : V → V
  | .own i off => match Nat.beq i j with | true => .any | false => .own i off
  | .ap i sz k o => match Nat.beq i j with | true => .any | false => .ap i sz k o
  | .vw i sz off n cap => match Nat.beq i j with | true => .p (.sl (g off n)) | false => .vw i sz off n cap
  | .agg cs => mkAgg (V.frzGs j g cs)
  | .fn f cs => .fn f (V.frzGs j g cs)
  | .tup cs => mkTup (V.frzGs j g cs)
  | .p x => .p x
  | .any => .any
  | .raw v => .raw v
  | .imm sz y o => .imm sz y o
def V.frzGs (j : Nat) (g : Nat → Nat → List PV) : List V → List V
  | [] => []
  | c :: r => V.frzG j g c :: V.frzGs j g r
end
mutual
theorem frzG_eq (j : Nat) (xs : List PV) : ∀ v : V, V.frzG j (fun off n => (xs.drop off).take n) v = V.frz j xs v
  | .own i off => by rw [V.frzG, V.frz]; rfl
  | .ap i sz k o => by rw [V.frzG, V.frz]; rfl
  | .vw i sz off n cap => by rw [V.frzG, V.frz]; rfl
  | .agg cs => by rw [V.frzG, V.frz, frzGs_eq j xs cs]
  | .fn f cs => by rw [V.frzG, V.frz, frzGs_eq j xs cs]
  | .tup cs => by rw [V.frzG, V.frz, frzGs_eq j xs cs]
  | .p x => by rw [V.frzG, V.frz]
  | .any => by rw [V.frzG, V.frz]
  | .raw _ => by rw [V.frzG, V.frz]
  | .imm sz y o => by rw [V.frzG, V.frz]
theorem frzGs_eq (j : Nat) (xs : List PV) : ∀ l : List V, V.frzGs j (fun off n => (xs.drop off).take n) l = V.frzs j xs l
  | [] => by rw [V.frzGs, V.frzs]
  | c :: r => by rw [V.frzGs, V.frzs, frzG_eq j xs c, frzGs_eq j xs r]
end
theorem CallEv.freezeG {B : Base} {P : Program} {f : FuncId} {args : List V} {X : Nat → Bool} {st : St} {k : V → St → Prop} (j : Nat) {T : TypeId} {sz : Nat} {xs : List PV} (hj : st.own[j]? = some (.arr T sz xs)) (hnl : B.own0.length ≤ j)
    (h : ∀ g : Nat → Nat → List PV, (∀ off n, g off n = (xs.drop off).take n) → CallEv B P f (V.frzGs j g args) X ⟨st.n, frMap (V.frzG j g) st.fr, (mapR (V.frzG j g) st.own).set j .dead⟩ k) : CallEv B P f args X st k := by
  have h1 := h (fun off n => (xs.drop off).take n) (fun _ _ => rfl)
  rw [frzGs_eq, show V.frzG j (fun off n => (xs.drop off).take n) = V.frz j xs from funext (frzG_eq j xs), mapR_eq] at h1
  exact CallEv.freeze j hj hnl h1
theorem FnL.hollowA {P : Program} {f : FuncId} {args : List V} {own : List Res} {R : V → List Res → Prop} (i : Nat) (T : TypeId) (sz : Nat) (hsz : 0 < sz) (hi : args[i]? = some (.p .nils))
    (h : FnL P f (args.set i (.vw own.length sz 0 0 none)) (own ++ [.arr T sz []]) R) : FnL P f args own R := by
  refine ⟨h.1, fun H E Fs vals h1 h2 h3 h4 => ?_⟩
  have hn := h2.n
  have hle := Ev.push_le E 0 0 0 sz true
  have hown : OwnAt H (E.push 0 0 0 sz true) Fs (own ++ [.arr T sz []]) := by
    refine ⟨by simp [Ev.push, hn], fun j r hj => ?_, h2.apart, fun j hj k hk => h2.low j (by simp at hj; omega) k hk⟩
    by_cases hjl : j < own.length
    · rw [List.getElem?_append_left hjl] at hj
      have := (h2.held j r hj).stay (E' := E.push 0 0 0 sz true) (F' := Fs) (f := fun v => v) (Hp.le_refl' H) (hle.at' j (by rw [hn]; exact hjl)) (fun c v hd => hd.mono (Hp.le_refl' H) hle) rfl (fun k _ => rfl)
      have e : r.map (fun v => v) = r := by cases r <;> simp [Res.map]
      rwa [e] at this
    · have hje : j = own.length := by
        have := lt_of_some hj
        simp at this; omega
      subst hje
      rw [List.getElem?_append_right (Nat.le_refl _)] at hj
      simp at hj
      subst hj
      exact ⟨hsz, Wf.nil, by simp [Ev.push, hn], by simp [Ev.push, hn], .inl ⟨by simp [Ev.push, hn], rfl, h2.low _ (Nat.le_refl _)⟩⟩
  have h4' := h4.mono (Hp.le_refl' H) hle
  obtain ⟨x, hx, hd⟩ := h4'.get hi
  have := hd.nils_inv; subst this
  have hset : vals.set i (.slice none 0 0) = vals := by
    obtain ⟨hlt, he⟩ := List.getElem?_eq_some_iff.1 hx
    rw [← he]; exact List.set_getElem_self hlt
  have h5 := h4'.set (c := .vw own.length sz 0 0 none) (v := .slice none 0 0) (.vwn _ _ none _ (by simp [Ev.push, hn]) (by simp [Ev.push, hn]) (by simp [Ev.push, hn]) rfl) i
  rw [hset] at h5
  refine Calls.mono (h.2 H _ Fs vals h1 hown h3 h5) ?_
  rintro e w' ⟨x, v, own', E', Fs', g1, g2, g3, g4, g5, g6, g7⟩
  refine ⟨x, v, own', E', Fs', g1, g2, by simp at g3; omega, g4, fun j T2 c hj => ?_, g6, g7⟩
  have hjl := lt_of_some hj
  have hρ : (E.push 0 0 0 sz true).ρ j = E.ρ j := (hle.at' j (by rw [hn]; exact hjl)).ρ
  obtain ⟨k1, k2⟩ := g5 j _ _ (by rw [List.getElem?_append_left hjl]; exact hj)
  exact ⟨k1.trans hρ, k2⟩
end Go.Lx
set_option linter.unusedSimpArgs false
set_option linter.unusedVariables false
namespace Go.Lx
open Go
open Go.Sx (NP Keeps Hp TI TEnv TOk Kd)
def eqF (P : Program) (cs ds : List PV) : List Field → Option Bool
  | [] => some true
  | f :: fs => match f.name == "_" with
    | true => none
    | false => match P.underlying f.type, cs[f.offset]?, ds[f.offset]?, eqF P cs ds fs with
      | some (.int _), some (.int k a), some (.int k' b), some r => match decide (k = k') with
        | true => some (decide (a = b) && r)
        | false => none
      | some .string, some (.str a), some (.str b), some r => some (decide (a = b) && r)
      | _, _, _, _ => none
theorem run_part1 {P : Program} {t : TypeId} {d : TypeDesc} (h : P.underlying t = some d) (hd : Sx.isAggD d = false) {xs : Array Value} {o : Nat} {v : Value} (hv : xs[o]? = some v) (w : World) : (part t xs o).run P w = .ok v w := by
  have hagg : (isAgg t).run P w = .ok false w := by
    unfold isAgg; rw [Sem.run_bind, run_underlying h w]; cases d <;> first | rfl | cases hd
  unfold part
  rw [Sem.run_bind, hagg]
  simp [hv]
theorem run_feq {P : Program} {d : Nat} {xs ys : Array Value} {f : Field} {fs : List Field} {a b : Value} {q r : Bool} (hn : (f.name == "_") = false) (w : World) (ha : (part f.type xs f.offset).run P w = .ok a w) (hb : (part f.type ys f.offset).run P w = .ok b w)
    (he : (Op.equalIn d f.type a b).run P w = .ok q w) (hr : (Op.eqFields d xs ys fs).run P w = .ok r w) : (Op.eqFields d xs ys (f :: fs)).run P w = .ok (q && r) w := by
  have hn' : f.name ≠ "_" := by simpa using hn
  simp only [Op.eqFields, if_pos hn', Sem.run_bind, ha, hb, he, Result.andThen_ok]
  cases q with
  | true => simpa using hr
  | false => rfl
theorem eqF_run {P : Program} {H : Hp} {d : Nat} {cs ds : List PV} {xs ys : Array Value} (hx : PV.Den H (.agg cs) (.agg xs)) (hy : PV.Den H (.agg ds) (.agg ys)) : ∀ {fs : List Field} {b : Bool}, eqF P cs ds fs = some b → ∀ w, (Op.eqFields (d + 1) xs ys fs).run P w = .ok b w
  | [], b, h, w => by cases h; rfl
  | f :: fs, b, h, w => by
    rw [eqF] at h
    have gx : ∀ {c : PV}, cs[f.offset]? = some c → ∃ v, xs[f.offset]? = some v ∧ PV.Den H c v := fun {c} hc => by
      cases hx with
      | agg _ _ hl hh =>
        have hlt : f.offset < xs.size := by rw [hl]; exact lt_of_some hc
        exact ⟨xs[f.offset], by simp [hlt], hh _ c _ hc (by simp [hlt])⟩
    have gy : ∀ {c : PV}, ds[f.offset]? = some c → ∃ v, ys[f.offset]? = some v ∧ PV.Den H c v := fun {c} hc => by
      cases hy with
      | agg _ _ hl hh =>
        have hlt : f.offset < ys.size := by rw [hl]; exact lt_of_some hc
        exact ⟨ys[f.offset], by simp [hlt], hh _ c _ hc (by simp [hlt])⟩
    split at h
    · cases h
    rename_i hn
    split at h
    · rename_i kk k a k' b' r hu h1 h2 hr
      split at h
      · rename_i hk
        have hk := of_decide_eq_true hk
        subst hk
        cases h
        obtain ⟨v, q1, q2⟩ := gx h1
        obtain ⟨u, q3, q4⟩ := gy h2
        cases q2; cases q4
        refine run_feq hn w (run_part1 hu rfl q1 w) (run_part1 hu rfl q3 w) ?_ (eqF_run hx hy hr w)
        rw [run_equalIn_int w d f.type k kk a b' hu]
        congr 1
      · cases h
    · rename_i a b' r hu h1 h2 hr
      cases h
      obtain ⟨v, q1, q2⟩ := gx h1
      obtain ⟨u, q3, q4⟩ := gy h2
      cases q2; cases q4
      refine run_feq hn w (run_part1 hu rfl q1 w) (run_part1 hu rfl q3 w) ?_ (eqF_run hx hy hr w)
      rw [run_equalIn_string w d f.type _ _ hu]
      congr 1
      rw [ByteArray.toList_eq, ByteArray.toList_eq, Bool.eq_iff_iff]; simp
    · cases h
theorem agg_inv {H : Hp} {E : Ev} {cs : List PV} {v : Value} (h : V.Den H E (.p (.agg cs)) v) : ∃ xs, v = .agg xs ∧ PV.Den H (.agg cs) (.agg xs) := by
  cases h with
  | p _ _ h => cases h with
    | agg _ xs hl hh => exact ⟨xs, rfl, .agg _ _ hl hh⟩
theorem OpEv.aggEq {B : Base} {P : Program} {o : Oper} {t yt : TypeId} {x y : Operand} (ho : o.op = .binOp .eql t x y yt) {X : Nat → Bool} {st : St} {k : V → St → Prop} {cs ds : List PV} (hx : ev st.fr x = some (.p (.agg cs))) (hy : ev st.fr y = some (.p (.agg ds)))
    (hm : P.eqGuardType P.depth t = false) (ht : P.underlying t = some (.struct (P.fieldsOf t))) (hp : P.stoodInHeld t = false) {b : Bool} (hb : eqF P cs ds (P.fieldsOf t).toList = some b) (hk : k (.p (.bool b)) st) : OpEv B P o X st k := by
  intro E F a w hI
  obtain ⟨xs, h1, h2⟩ := agg_inv (hI.ev hx)
  obtain ⟨ys, h3, h4⟩ := agg_inv (hI.ev hy)
  refine RdOk.res (X' := X) hI (RdOk.op (do eqGuard .eql t x y (a.eval x) (a.eval y); binOp .eql t (a.eval x) (a.eval y)) (by simp only [execOp, ho]) (fun w' _ => ?_) V.Den.bool hk)
  rw [h1, h3, Sem.run_bind, run_eqGuard_agg w' .eql t x y xs ys hm]
  show (binOp .eql t (.agg xs) (.agg ys)).run P w' = _
  rw [run_eql_struct, show (10000 : Nat) = 9998 + 1 + 1 from rfl, run_equalIn_agg w' _ t xs ys ht hp, eqF_run h2 h4 hb w']
  rfl
theorem OpEv.aggNe {B : Base} {P : Program} {o : Oper} {t yt : TypeId} {x y : Operand} (ho : o.op = .binOp .neq t x y yt) {X : Nat → Bool} {st : St} {k : V → St → Prop} {cs ds : List PV} (hx : ev st.fr x = some (.p (.agg cs))) (hy : ev st.fr y = some (.p (.agg ds)))
    (hm : P.eqGuardType P.depth t = false) (ht : P.underlying t = some (.struct (P.fieldsOf t))) (hp : P.stoodInHeld t = false) {b : Bool} (hb : eqF P cs ds (P.fieldsOf t).toList = some b) (hk : k (.p (.bool !b)) st) : OpEv B P o X st k := by
  intro E F a w hI
  obtain ⟨xs, h1, h2⟩ := agg_inv (hI.ev hx)
  obtain ⟨ys, h3, h4⟩ := agg_inv (hI.ev hy)
  refine RdOk.res (X' := X) hI (RdOk.op (do eqGuard .neq t x y (a.eval x) (a.eval y); binOp .neq t (a.eval x) (a.eval y)) (by simp only [execOp, ho]) (fun w' _ => ?_) V.Den.bool hk)
  rw [h1, h3, Sem.run_bind, run_eqGuard_agg w' .neq t x y xs ys hm]
  show (binOp .neq t (.agg xs) (.agg ys)).run P w' = _
  rw [run_neq_struct, show (10000 : Nat) = 9998 + 1 + 1 from rfl, run_equalIn_agg w' _ t xs ys ht hp, eqF_run h2 h4 hb w']
  rfl
end Go.Lx
set_option linter.unusedSimpArgs false
set_option linter.unusedVariables false
namespace Go.Lx
open Go
abbrev bl (a b : List UInt8) : Bool := Op.bytesLess a b
theorem bl_irrefl : ∀ a : List UInt8, bl a a = false
  | [] => rfl
  | x :: r => by
    show (decide (x < x) || (x == x && Op.bytesLess r r)) = false
    rw [show Op.bytesLess r r = false from bl_irrefl r]; simp
theorem bl_nil (a : List UInt8) : bl a [] = false := by cases a <;> rfl
theorem bl_gt : ∀ a b : List UInt8, (!(bl a b || decide (a = b))) = bl b a
  | [], [] => rfl
  | [], y :: s => rfl
  | x :: r, [] => rfl
  | x :: r, y :: s => by
    have ih := bl_gt r s
    have e1 : bl (x :: r) (y :: s) = (decide (x < y) || (x == y && bl r s)) := rfl
    have e2 : bl (y :: s) (x :: r) = (decide (y < x) || (y == x && bl s r)) := rfl
    rw [e1, e2]
    by_cases h : x = y
    · subst h
      simp only [UInt8.lt_irrefl, decide_false, Bool.false_or, BEq.rfl, Bool.true_and, List.cons.injEq, true_and]
      exact ih
    · have h' : ¬ y = x := fun c => h c.symm
      have : (x == y) = false := by simpa using h
      have h2 : (y == x) = false := by simpa using h'
      rw [this, h2]
      simp only [Bool.false_and, Bool.or_false, List.cons.injEq, h, false_and, decide_false]
      by_cases hxy : x < y
      · have : ¬ y < x := fun c => UInt8.lt_irrefl _ (UInt8.lt_trans hxy c)
        simp [hxy, this]
      · have : y < x := by
          rcases Nat.lt_trichotomy x.toNat y.toNat with c | c | c
          · exact absurd (UInt8.lt_iff_toNat_lt.2 c) hxy
          · exact absurd (UInt8.toNat_inj.1 c) h
          · exact UInt8.lt_iff_toNat_lt.2 c
        simp [hxy, this]
theorem bl_trans : ∀ {a b c : List UInt8}, bl a b = true → bl b c = true → bl a c = true
  | _, [], _, h, _ => by rw [bl_nil] at h; cases h
  | _, _ :: _, [], _, h => by rw [bl_nil] at h; cases h
  | [], _ :: _, _ :: _, _, _ => rfl
  | x :: r, y :: s, z :: t, h, k => by
    have e : ∀ (p q : UInt8) (u v : List UInt8), bl (p :: u) (q :: v) = (decide (p < q) || (p == q && bl u v)) := fun _ _ _ _ => rfl
    rw [e] at h k ⊢
    simp only [Bool.or_eq_true, decide_eq_true_eq, Bool.and_eq_true, beq_iff_eq] at h k ⊢
    rcases h with h | ⟨rfl, h⟩ <;> rcases k with k | ⟨rfl, k⟩
    · exact .inl (UInt8.lt_trans h k)
    · exact .inl h
    · exact .inl k
    · exact .inr ⟨rfl, bl_trans h k⟩
theorem bl_tri (a b : List UInt8) : bl a b = true ∨ a = b ∨ bl b a = true := by
  have := bl_gt a b
  by_cases h1 : bl a b = true
  · exact .inl h1
  by_cases h2 : a = b
  · exact .inr (.inl h2)
  · refine .inr (.inr ?_)
    rw [← this]; simp only [Bool.not_eq_true] at h1; rw [h1]; simpa using h2
theorem bl_asymm {a b : List UInt8} (h : bl a b = true) : bl b a = false := by
  rw [← bl_gt a b, h]; rfl
theorem bl_ne {a b : List UInt8} (h : bl a b = true) : a ≠ b := fun c => by rw [c, bl_irrefl] at h; cases h
theorem bl_le_trans {a b c : List UInt8} (h : bl b a = false) (k : bl b c = true) : bl a c = true := by
  rcases bl_tri a b with c1 | c1 | c1
  · exact bl_trans c1 k
  · rw [c1]; exact k
  · rw [h] at c1; cases c1
theorem bl_lt_le {a b c : List UInt8} (h : bl a b = true) (k : bl c b = false) : bl a c = true := by
  rcases bl_tri b c with c1 | c1 | c1
  · exact bl_trans h c1
  · rw [← c1]; exact h
  · rw [k] at c1; cases c1
end Go.Lx
set_option linter.unusedSimpArgs false
set_option linter.unusedVariables false
namespace Go.Lx
open Go
open Go.Sx (NP Keeps Hp Keep0 TI TEnv TOk Kd resOf)
theorem run_copyG {P : Program} (w : World) (dT sT ty elem : TypeId) {i : TypeInfo} (ad : Option Addr) (dLen dCap : Nat) (sa : Option Addr) (sLen sCap m : Nat) (cs : List Value) {w' : World}
    (hu : P.underlying dT = some (.slice elem)) (hi : P.info? elem = some i) (hm : Nat.min sLen dLen = m)
    (hc : (Builtin.firstCells i.size m (.slice sa sLen sCap)).run P w = .ok cs.toArray w) (hs : ∀ a, ad = some a → (storeCells a cs).run P w = .ok () w') (hn : ad = none → w' = w) :
    (Builtin.copy_ #[dT, sT] ty #[.slice ad dLen dCap, .slice sa sLen sCap]).run P w = .ok (goInt m) w' := by
  cases ad with
  | none =>
    have := hn rfl; subst this
    simp [Builtin.copy_, run_underlying hu, Builtin.lenOf, sizeOf, typeInfo, hi, hm, hc]
  | some a => simp [Builtin.copy_, run_underlying hu, Builtin.lenOf, sizeOf, typeInfo, hi, hm, hc, hs a rfl]
theorem OpEv.copy {B : Base} {P : Program} {TE : TEnv} (hE : TOk P TE) {o : Oper} {dT sT e : TypeId} {d s : Operand} {td te : TI} (ho : o.op = .call { callee := .builtin .copy, args := #[d, s], argTypes := #[dT, sT] })
    (htd : TE.get dT = some td) (hkd : td.kd = .slice e) (hte : TE.get e = some te) {X : Nat → Bool} {st : St} {k : V → St → Prop} {j off n : Nat} {cap : Option Nat} {T : TypeId} {xs : List PV}
    (hd : ev st.fr d = some (.vw j te.size off n cap)) (hj : st.own[j]? = some (.arr T te.size xs)) (hX : X j = true) {sv : V} {q : Sq} {ys : List PV} (hs : ev st.fr s = some sv) (hq : seen noX st.own sv = some q) (hy : q.get = ys) (hw : Wf te.size ys)
    (hk : ∀ m zs, m = Nat.min ys.length n → zs = xs.take off ++ (ys.take m ++ xs.drop (off + m)) → k (.p (.int .i64 (Int.ofNat m))) ⟨st.n, st.fr, st.own.set j (.arr T te.size zs)⟩) : OpEv B P o X st k := by
  intro E F a w hI
  obtain ⟨i1, d1, h1⟩ := hE.get htd
  obtain ⟨i2, d2, h2⟩ := hE.get hte
  have hd1 := kd_slice h1 hkd
  subst hd1
  have hjl := lt_of_some hj
  obtain ⟨g0, g1, g2, g3, g4⟩ := hI.held j _ hj
  obtain ⟨ad, c, hsv, hnone, hsl, hcap, _⟩ := seen_ok hI (hI.ev hs) hq hy
  obtain ⟨m, hm⟩ : ∃ m, m = Nat.min ys.length n := ⟨_, rfl⟩
  obtain ⟨zs, hzs⟩ : ∃ zs, zs = xs.take off ++ (ys.take m ++ xs.drop (off + m)) := ⟨_, rfl⟩
  replace hk := hk m zs hm hzs
  have hmy : m ≤ ys.length := by rw [hm]; exact Nat.min_le_left _ _
  have hmn : m ≤ n := by rw [hm]; exact Nat.min_le_right _ _
  have run : ∀ {vs : Value} {w' : World}, a.eval d = vs → (Builtin.copy_ #[dT, sT] o.type #[vs, .slice ad ys.length c]).run P w = .ok (goInt m) w' → (execOp a.eval o).run P w = .ok (.value (goInt m)) w' := by
    intro vs w' hvs hr
    rw [← hvs] at hr
    simp only [execOp, ho, resolve, invoke, Go.builtin, Sem.run_bind, Sem.run_pure, Result.andThen_ok, List.map_toArray, List.map_cons, List.map_nil, hsv, hr]
  have hv := hI.ev hd
  generalize hvv : a.eval d = vv at hv
  have zero : m = 0 → ∀ {da : Option Addr} {dl dc : Nat}, vv = .slice da dl dc → dl = n → resOf P o a w (PostS B st F a w X k) := by
    intro hm0 da dl dc hvd hdl
    subst hdl
    have hxs : zs = xs := by rw [hzs, hm0]; simp
    have hset : st.own.set j (.arr T te.size zs) = st.own := by
      rw [hxs]
      obtain ⟨hlt, hee⟩ := List.getElem?_eq_some_iff.1 hj
      rw [← hee]; exact List.set_getElem_self hlt
    rw [hset] at hk
    refine resOf_value (x := goInt m) (w' := w) (run hvv ?_) ?_
    · rw [hvd]
      refine run_copyG w dT sT o.type e da dl dc ad ys.length c m [] h1.und h2.info hm.symm ?_ (fun a _ => by simp [storeCells]) (fun _ => rfl)
      rw [hm0]
      cases ad with
      | none => simp [Builtin.firstCells]
      | some a => exact run_firstCells_some w _ 0 a _ _ [] (by simp) (fun j v h => by simp at h)
    · exact (Post.of (k := fun v own f => k v ⟨st.n, frMap f st.fr, own⟩) (f := fun v => v) hI (by rw [frMap_id]; exact hI) (keepsNone (Keeps.refl _ w)) (fun i q h => .inl h) (fun i q _ h => h) V.Den.int (by rw [frMap_id]; exact hk)).s
  cases hv with
  | vwn _ _ _ da h h0 hz hc => exact zero (by omega) rfl rfl
  | vw _ _ _ _ _ da dc h h0 hc hkk hln hxx hz ha =>
    by_cases hm0 : m = 0
    · exact zero hm0 rfl rfl
    have hda : da = ⟨E.ρ j, off * te.size, none⟩ := ha.resolve_right (by omega)
    subst hda
    rcases g4 with ⟨k1, _, _⟩ | ⟨_, hF, hl1, hl2, cc, hcc, hcs, val, hval⟩
    · rw [h0] at k1; cases k1
    obtain ⟨sa, rfl⟩ : ∃ sa, ad = some sa := by
      cases ad with
      | none => have := (hnone rfl).1; subst this; simp at hmy; omega
      | some sa => exact ⟨sa, rfl⟩
    obtain ⟨vs, hvl, hvc, hvd⟩ := hsl.cells
    have hfm : flat (ys.take m) = (flat ys).take (m * te.size) := flat_take hw m
    have hwm : Wf te.size (ys.take m) := hw.take
    have hlm : (flat (ys.take m)).length = m * te.size := by rw [flat_length hwm]; simp; rw [Nat.min_eq_left hmy]
    have hly : (flat ys).length = ys.length * te.size := flat_length hw
    have hms : m * te.size ≤ ys.length * te.size := Nat.mul_le_mul_right _ hmy
    obtain ⟨cs, hcse⟩ : ∃ cs, cs = vs.take (m * te.size) := ⟨_, rfl⟩
    have hcl : cs.length = m * te.size := by rw [hcse]; simp; omega
    have hcd : ∀ (q : Nat) (u : PV) (v : Value), (flat (ys.take m))[q]? = some u → cs[q]? = some v → PV.Den ⟨nowM B F, w⟩ u v := by
      intro q u v hu hv
      have hq : q < m * te.size := by have := lt_of_some hu; omega
      rw [hfm, List.getElem?_take, if_pos hq] at hu
      rw [hcse, List.getElem?_take, if_pos hq] at hv
      exact hvd q u v hu hv
    have hone : ∀ v ∈ cs, v.oneCell' = true := by
      intro v hv
      obtain ⟨q, hq, he⟩ := List.getElem_of_mem hv
      have hq2 : q < (flat (ys.take m)).length := by rw [hlm, ← hcl]; exact hq
      exact ((hcd q _ v (List.getElem?_eq_getElem hq2) (by rw [List.getElem?_eq_getElem hq, he])).one (flat_one hwm _ (List.getElem_mem hq2))).1
    have hfl : (flat xs).length = xs.length * te.size := flat_length g1
    have hb1 : (off + m) * te.size ≤ xs.length * te.size := Nat.mul_le_mul_right _ (by omega)
    have hb2 : xs.length * te.size ≤ E.κ j * te.size := Nat.mul_le_mul_right _ hl1
    rw [Nat.add_mul] at hb1
    have hst := run_storeCells_at P (E.ρ j) (off * te.size) T cs 0 cc w hcc (by omega) hone
    rw [Nat.add_zero] at hst
    refine resOf_value (x := goInt m) (w' := w.setRow (E.ρ j) (cc.toList.take (off * te.size) ++ cs ++ cc.toList.drop (off * te.size + cs.length)).toArray) (run hvv ?_) ?_
    · refine run_copyG w dT sT o.type e _ n dc (some sa) ys.length c m cs h1.und h2.info hm.symm ?_ (fun a ha => by cases ha; exact hst) (fun h => by cases h)
      refine run_firstCells_some w _ m sa _ _ cs (by rw [hcl, h2.size]) fun q v hq => ?_
      have hq2 : q < m * te.size := by have := lt_of_some hq; omega
      rw [hcse, List.getElem?_take, if_pos hq2] at hq
      exact hvc w ⟨rfl, rfl, rfl, Nat.le_refl _, fun _ _ _ => rfl⟩ q v hq
    have hkeep : Keeps (F j) w (w.setRow (E.ρ j) (cc.toList.take (off * te.size) ++ cs ++ cc.toList.drop (off * te.size + cs.length)).toArray) :=
      ⟨by simp, by simp, by simp, by simp, fun b hb hn => setRow_other w _ b _ fun e => hn ((hF b).2 e)⟩
    have hset := setRow_heap w (E.ρ j) cc (cc.toList.take (off * te.size) ++ cs ++ cc.toList.drop (off * te.size + cs.length)).toArray T (0, 0) hcc
    have hle := hI.le (F' := F) (touch hkeep) (fun i k h => .inl h)
    have hzl : zs.length = xs.length := by rw [hzs]; simp; omega
    have hzf : flat zs = (flat xs).take (off * te.size) ++ flat (ys.take m) ++ (flat xs).drop (off * te.size + (flat (ys.take m)).length) := by
      rw [hzs, flat_append, flat_append, flat_take g1, flat_drop g1, hlm, Nat.add_mul, List.append_assoc]
    have harr : ArrAt ⟨nowM B F, w.setRow (E.ρ j) (cc.toList.take (off * te.size) ++ cs ++ cc.toList.drop (off * te.size + cs.length)).toArray⟩ (E.ρ j) (E.κ j) T te.size zs :=
      ArrAt.write hcs hval (p := off * te.size) (us := flat (ys.take m)) (vs := cs) (by rw [hcl, hlm]) hcd (by omega) (by omega) hzf (by omega) hl2 hle hset
    have hwz : Wf te.size zs := by rw [hzs]; exact Wf.append g1.take (Wf.append hwm g1.drop)
    have hI' := hI.set1 hjl hkeep (r := .arr T te.size zs) ⟨g0, hwz, by omega, g3, .inr ⟨h0, hF, harr⟩⟩ (fun T c h => by rw [hj] at h; cases h)
    exact (Post.of (k := fun v own f => k v ⟨st.n, frMap f st.fr, own⟩) (f := fun v => v) hI (by rw [frMap_id]; exact hI') (hkeep.mono fun b _ c => ⟨j, hX, c⟩) (fun i k h => .inl h) (fun i k _ h => h) V.Den.int (by rw [frMap_id]; exact hk)).s
end Go.Lx
set_option linter.unusedSimpArgs false
set_option linter.unusedVariables false
namespace Go.Lx
open Go
open Go.Sx (NP Keeps Hp Keep0 TI TEnv TOk FOk FnOk CellAt)
/-! ### The base taken anew -/
def Base.at' (B : Base) (w : World) (E : Ev) (F : Nat → NP) (own : List Res) (X0 : NP) (rc : Option (Nat × Loop)) (ds : List Deferred) : Base := ⟨B.M0, w, E, F, own, ds, false, X0, rc⟩
/-! ### Values that stay where they are -/
def V.stab (own : List Res) : V → Bool
  | .p _ => true
  | .any => true
  | .raw _ => true
  | .imm _ _ _ => true
  | .own i _ => match own[i]? with
    | some (.st _ _) => true
    | _ => false
  | _ => false
theorem V.Den.stab {H H' : Hp} {E E' : Ev} {own : List Res} {v : V} {x : Value} (h : V.Den H E v x) (hs : V.stab own v = true) (hl : H.Le H') (hn : own.length ≤ E'.n) (hp : ∀ (i : Nat) (T : TypeId) (c : List V), own[i]? = some (.st T c) → E'.ρ i = E.ρ i) : V.Den H' E' v x := by
  cases h with
  | p y _ h => exact .p y _ (h.mono hl)
  | any _ => exact .any _
  | raw _ => exact .raw _
  | imm sz y o b off val hw hs' hd => exact .imm sz y o b off val hw (hs'.mono hl) fun j u hj => (hd j u hj).mono hl
  | own i off h =>
    simp only [V.stab] at hs
    split at hs
    · rename_i T c ho
      rw [← hp i T c ho]
      exact .own i off (Nat.lt_of_lt_of_le (lt_of_some ho) hn)
    · cases hs
  | ap i sz k o h h0 hz => cases hs
  | vwn i sz cap a h h0 hz hc => cases hs
  | vw i sz off n cap a c h h0 hc hk hl hx hz ha => cases hs
  | agg cs xs h1 hh => cases hs
  | fn f cs xs h1 hh => cases hs
  | tup cs xs h1 hh => cases hs
/-! ### The iterator -/
def evNone : Ev := ⟨0, fun _ => 0, fun _ => 0, fun _ => false, fun _ => 0, fun _ => 0⟩
end Go.Lx
set_option linter.unusedSimpArgs false
set_option linter.unusedVariables false
namespace Go.Lx
open Go
open Go.Sx (NP Keeps Hp Keep0 TI TEnv TOk FOk FnOk CellAt)
def Laid (Ds : List Nat) (L : Nat) (r : Loop) (W : World) : Prop := W.heap[L]? = some (.loop r) ∧ ∀ D ∈ Ds, W.heap[D]? = some (.deferred (some []))
theorem Laid.put {Ds : List Nat} {L : Nat} {r r' : Loop} {W : World} (h : Laid Ds L r W) : Laid Ds L r' (W.putObj L (.loop r')) :=
  ⟨World.putObj_heap_same (Array.getElem?_eq_some_iff.1 h.1).1, fun D hD => (World.putObj_heap_other fun e => by have := h.2 D hD; rw [e, h.1] at this; cases this).trans (h.2 D hD)⟩
theorem Laid.keep {Ds : List Nat} {L : Nat} {r r' : Loop} {S : NP} {W W' : World} (h : Laid Ds L r W) (hk : Keeps S W W') (hS : ∀ k, S k → CellAt W k ∨ k = L) (hL : W'.heap[L]? = some (.loop r')) : Laid Ds L r' W' :=
  ⟨hL, fun D hD => by
    have h1 := h.2 D hD
    refine (hk.block D (Array.getElem?_eq_some_iff.1 h1).1 fun c => ?_).trans h1
    rcases hS D c with ⟨cs, T, fz, h2⟩ | rfl
    · rw [h1] at h2; cases h2
    · rw [h.1] at h1; cases h1⟩
end Go.Lx
set_option linter.unusedSimpArgs false
set_option linter.unusedVariables false
namespace Go.Lx
open Go
open Go.Sx (NP Keeps Hp Keep0 TI TEnv TOk FOk FnOk CellAt ArEq resOf)
structure Fr (M : NP) (n : Nat) (fr : List (Nat × V)) (a : Act) (w : World) : Prop where
  bd : Hp.Bd ⟨M, w⟩
  n : a.tmps.size = n
  dfr : a.defers = []
  slot : ∀ t v, look fr t = some v → V.Den ⟨M, w⟩ evNone v (a.tmps.getD t undef)
theorem Fr.set {M : NP} {n : Nat} {fr : List (Nat × V)} {a : Act} {w : World} (h : Fr M n fr a w) {d : Nat} {v : V} {x : Value} (hv : V.Den ⟨M, w⟩ evNone v x) (hd : d < n) : Fr M n ((d, v) :: fr) (a.put (some d) x) w := by
  refine ⟨h.bd, by simp [Act.put, h.n], h.dfr, fun t u hu => ?_⟩
  have hd' : d < a.tmps.size := by rw [h.n]; exact hd
  rw [look_cons] at hu
  split at hu
  · rename_i e; subst e; cases hu
    simpa [Act.put, hd'] using hv
  · rename_i e
    have e2 : (a.put (some d) x).tmps.getD t undef = a.tmps.getD t undef := by simp [Act.put, Ne.symm e]
    rw [e2]; exact h.slot t u hu
theorem Fr.raw {M : NP} {n : Nat} {fr : List (Nat × V)} {a : Act} {w : World} (h : Fr M n fr a w) {t : Nat} {v : Value} (hl : look fr t = some (.raw v)) : a.eval (.tmp t) = v := by
  have := h.slot t _ hl
  show a.tmps.getD t undef = v
  generalize a.tmps.getD t undef = y at this
  cases this; rfl
theorem Fr.world {M : NP} {n : Nat} {fr : List (Nat × V)} {a : Act} {w w' : World} (h : Fr M n fr a w) (hk : Keep0 w w') : Fr M n fr a w' :=
  ⟨fun k c => Nat.lt_of_lt_of_le (h.bd k c) hk.size, h.n, h.dfr, fun t v hv => (h.slot t v hv).mono (Hp.Le.keep0 hk) (.refl _)⟩
theorem RoundIn.depth {P : Program} {l : Nat} {f : FuncId} {tmps : Array Value} {assign body : Code} {w : World} {R : Ending → World → Prop} {n m : Nat} (h : RoundIn Fence.wide n P l f tmps assign body w R) : RoundIn Fence.wide m P l f tmps assign body w R :=
  ⟨h.1, fun c cs _ => h.2 c cs (room_wide _)⟩
end Go.Lx
set_option linter.unusedSimpArgs false
set_option linter.unusedVariables false
namespace Go.Lx
open Go
open Go.Sx (NP Keeps Hp Keep0 TI TEnv TOk FOk FnOk CellAt ArEq resOf)
/-! ### Code, one piece behind the other -/
/-! ### Contracts of deferred calls -/
def CallsZ (P : Program) (g : FuncId) (xs : Array Value) (w : World) (R : Ending → World → Prop) : Prop :=
  CallsDIn Fence.wide 8 P g xs .returning w fun e u w' => u = .returning ∧ R e w'
theorem CallsZ.mono {P : Program} {g : FuncId} {xs : Array Value} {w : World} {R R' : Ending → World → Prop} (h : CallsZ P g xs w R) (hr : ∀ e w', R e w' → R' e w') : CallsZ P g xs w R' :=
  CallsDIn.mono h fun e u w' ⟨h1, h2⟩ => ⟨h1, hr e w' h2⟩
def allStab (own : List Res) : List V → Bool
  | [] => true
  | c :: r => match V.stab own c with
    | true => allStab own r
    | false => false
theorem allStab.get {own : List Res} : ∀ {l : List V}, allStab own l = true → ∀ c ∈ l, V.stab own c = true
  | [], _, c, h => by cases h
  | x :: r, hs, c, h => by
    simp only [allStab] at hs
    split at hs
    · rename_i hx
      rcases List.mem_cons.1 h with e | h
      · rw [e]; exact hx
      · exact allStab.get hs c h
    · cases hs
end Go.Lx
namespace Go.Lx
theorem smW {add sub mul quo rem band bor bxor bclr shl shr ieq ilt ile seq slt beq bnot orb bcond iwrap iof ssz} (hA : Sx.ArEq add sub mul quo rem band bor bxor bclr shl shr ieq ilt ile seq slt beq bnot orb bcond iwrap iof ssz) {cat sq sl imin imax smin smax len slen u8} (hL : LrEq cat sq sl imin imax smin smax len slen u8) :
    (∀ a : Bool, bnot a = !a) ∧ (∀ a b : Int, ieq a b = (a == b)) ∧ (∀ a b : Int, ilt a b = decide (a < b)) ∧ (∀ a b : Int, ile a b = decide (a ≤ b)) ∧ (∀ c a b : Bool, bcond c a b = bif c then a else b) ∧ (∀ a b : Bool, beq a b = (a == b)) ∧
      (∀ a b : Bool, orb a b = (a || b)) ∧ (∀ xs : List PV, len xs = (xs.length : Int)) ∧ (∀ xs : List UInt8, slen xs = (xs.length : Int)) ∧ ∀ a b : List UInt8, sq a b = decide (a = b) :=
  And.intro hA.not (And.intro hA.eq (And.intro hA.lt (And.intro hA.le (And.intro hA.cond (And.intro hA.beq (And.intro hA.orb (And.intro hL.len (And.intro hL.slen hL.sq))))))))
end Go.Lx
