/-
  A calculus of logical values for walks through a program, part 2 of 3: operations and code. No conditions.
-/
import Derived.Test.YtegkojnngdlfaaaGreatLG1
import Derived.Laws.IdiomStrings
import Derived.Laws.MakeOwn
import Derived.Laws.AppendOwn
import Derived.OrdersIn
import Derived.TacticsIn
import Derived.LoopIn
import Derived.Deep.LoopGhost
import Derived.RangeFuncLeaves
import Derived.RangeFuncRecord
set_option linter.unusedSimpArgs false
set_option linter.unusedVariables false
namespace Go.Lx
open Go
open Go.Sx (NP Keeps Hp Keep0 TI TEnv TOk Kd Ar ArEq kdInt vcIf FOk kdOf kdInt)
def rd (L : Lr) (E : TEnv) (X : Nat → Bool) (op : Op) (st : St) (k : V → Prop) : Option Prop :=
  match op with
  | .load T x => rdLoad E X T x st k
  | .fieldAddr T x f => rdFA E T x f st k
  | .field T x f => rdField E T x f st k
  | .build T parts => rdBuild E T parts st k
  | .convert src dst x => rdConv L E X src dst x st k
  | .call c => rdLen L E c st k
  | .indexAddr t x ix => rdIdxA E t x ix st k
  | .index t x ix => rdIdx L E t x ix st k
  | .slice t x lo hi mx => rdSlice E t x lo hi mx st k
  | .move x => rdSmall L E (.move x) st k
  | .assign x => rdSmall L E (.assign x) st k
  | .pick c a b => rdSmall L E (.pick c a b) st k
  | .extract x i => rdSmall L E (.extract x i) st k
  | .binOp op t x y u => rdSmall L E (.binOp op t x y u) st k
  | .unOp op t x => rdSmall L E (.unOp op t x) st k
  | .nilCheck x => rdSmall L E (.nilCheck x) st k
  | .makeFunc f a b => rdSmall L E (.makeFunc f a b) st k
  | _ => none
theorem rd_ok {P : Program} {TE : TEnv} (hE : TOk P TE) (hFO : FOk P TE) {X : Nat → Bool} {st : St} {k : V → Prop} {φ : Prop} {o : Oper} (h : rd .std TE X o.op st k = some φ) (hφ : φ)
    {B : Base} {E : Ev} {F : Nat → NP} {a : Act} {w : World} (hI : Inv B st E F a w) : RdOk P B st E F a w X o k := by
  have small : ∀ {op : Op}, o.op = op → rdSmall .std TE op st k = some φ → RdOk P B st E F a w X o k := by
    rintro op rfl h; exact rdSmall_ok hE h hφ hI
  unfold rd at h
  split at h
  · exact rdLoad_ok hE h hφ hI (by assumption)
  · exact rdFA_ok hE hFO h hφ hI (by assumption)
  · exact rdField_ok hE hFO h hφ hI (by assumption)
  · exact rdBuild_ok hE hFO h hφ hI (by assumption)
  · exact rdConv_ok hE h hφ hI (by assumption)
  · exact rdLen_ok hE h hφ hI (by assumption)
  · exact rdIdxA_ok hE h hφ hI (by assumption)
  · exact rdIdx_ok hE h hφ hI (by assumption)
  · exact rdSlice_ok hE h hφ hI (by assumption)
  · exact small (by assumption) h
  · exact small (by assumption) h
  · exact small (by assumption) h
  · exact small (by assumption) h
  · exact small (by assumption) h
  · exact small (by assumption) h
  · exact small (by assumption) h
  · exact small (by assumption) h
  · cases h
/-! ### Rows written -/
theorem ArrAt.write {H H' : Hp} {b κ : Nat} {T : TypeId} {sz : Nat} {xs xs' : List PV} {c : Array Value} {val : Nat → Value} (hcs : κ * sz ≤ c.size) (hval : ∀ j u, (flat xs)[j]? = some u → c[j]? = some (val j) ∧ PV.Den H u (val j))
    {p : Nat} {us : List PV} {vs : List Value} (hl : vs.length = us.length) (hd : ∀ (j : Nat) (u : PV) (v : Value), us[j]? = some u → vs[j]? = some v → PV.Den H u v) (hp : p ≤ (flat xs).length) (hfit : p + us.length ≤ κ * sz)
    (hf : flat xs' = (flat xs).take p ++ us ++ (flat xs).drop (p + us.length)) (hl' : xs'.length ≤ κ) (hκ : κ ≤ maxLen) (hle : H.Le H')
    (hw : H'.w.heap[b]? = some (.cells (c.toList.take p ++ vs ++ c.toList.drop (p + vs.length)).toArray T (0, 0))) : ArrAt H' b κ T sz xs' := by
  have htl : ((flat xs).take p).length = p := by simp; omega
  have hcl : (c.toList.take p).length = p := by simp; omega
  refine ⟨hl', hκ, _, hw, by simp; omega, fun j => if j < p then val j else if j < p + us.length then vs.getD (j - p) undef else val j, fun j u hu => ?_⟩
  rw [hf, List.append_assoc] at hu
  simp only [List.getElem?_toArray, List.append_assoc]
  by_cases h1 : j < p
  · rw [List.getElem?_append_left (by omega), List.getElem?_take, if_pos h1] at hu
    rw [List.getElem?_append_left (by omega), List.getElem?_take, if_pos h1, if_pos h1]
    have := hval j u hu
    exact ⟨by simpa using this.1, this.2.mono hle⟩
  · rw [List.getElem?_append_right (by omega), htl] at hu
    rw [List.getElem?_append_right (by omega), hcl, if_neg h1]
    by_cases h2 : j < p + us.length
    · rw [List.getElem?_append_left (by omega)] at hu
      rw [List.getElem?_append_left (by omega), if_pos h2]
      have hlt : j - p < vs.length := by omega
      have e : vs[j - p]? = some (vs.getD (j - p) undef) := by rw [List.getD_eq_getElem?_getD, List.getElem?_eq_getElem hlt]; rfl
      exact ⟨e, (hd _ _ _ hu e).mono hle⟩
    · rw [List.getElem?_append_right (by omega), List.getElem?_drop] at hu
      rw [List.getElem?_append_right (by omega), List.getElem?_drop, if_neg h2]
      have e1 : p + us.length + (j - p - us.length) = j := by omega
      have e2 : p + vs.length + (j - p - vs.length) = j := by omega
      rw [e1] at hu
      rw [e2]
      have := hval j u hu
      exact ⟨by simpa using this.1, this.2.mono hle⟩
theorem flat_set {sz : Nat} {xs : List PV} (h : Wf sz xs) {q : Nat} (hq : q < xs.length) (y : PV) (hy : y.cells.length = sz) : flat (xs.set q y) = (flat xs).take (q * sz) ++ y.cells ++ (flat xs).drop (q * sz + y.cells.length) := by
  rw [List.set_eq_take_append_cons_drop, if_pos hq, flat_append, flat, flat_take h, flat_drop h, hy, Nat.succ_mul, List.append_assoc]
theorem take_take_drop {α : Type} (l : List α) (p o : Nat) : l.take p ++ ((l.drop p).take o) = l.take (p + o) := by rw [List.take_add]
def storeC (size : Nat) (cells : List V) (off : Nat) (x : V) : Option (List V) :=
  match Nat.beq x.cells.length size, Nat.ble (off + size) cells.length, allOne x.cells with
  | true, true, true => some (cells.take off ++ (x.cells ++ cells.drop (off + size)))
  | _, _, _ => none
def unitV : V := .p (.tup [])
def acStore (E : TEnv) (X : Nat → Bool) (T : TypeId) (x y : Operand) (st : St) (k : V → List Res → (V → V) → Prop) : Option Prop :=
  match E.get T, ev st.fr x, ev st.fr y with
  | some ti, some (.own i off), some v => match X i, st.own[i]? with
    | true, some (.st T' cells) => match storeC ti.size cells off v with
      | some cells' => some (k unitV (st.own.set i (.st T' cells')) fun v => v)
      | none => none
    | _, _ => none
  | some ti, some (.ap i sz q o), some (.p y) => match X i, st.own[i]? with
    | true, some (.arr T' _ xs) => match Nat.beq o 0, Nat.beq ti.size sz with
      | true, true => some (∃ z, xs[q]? = some z ∧ y.wf sz ∧ ∀ ys, ys = xs.set q y → k unitV (st.own.set i (.arr T' sz ys)) fun v => v)
      | _, _ => some (∃ z, xs[q]? = some z ∧ y.wf ti.size ∧ o + ti.size ≤ z.cells.length ∧ ∀ ys, ys = xs.set q (.agg (z.cells.take o ++ (y.cells ++ z.cells.drop (o + ti.size)))) → k unitV (st.own.set i (.arr T' sz ys)) fun v => v)
    | _, _ => none
  | _, _, _ => none
theorem PV.wf.cells {sz : Nat} {y : PV} (h : y.wf sz) {H : Hp} {v : Value} (hd : PV.Den H y v) : v.cells.size = sz ∧ (∀ u ∈ v.cells.toList, u.oneCell' = true) ∧ ∀ (j : Nat) (u : PV) (x : Value), y.cells[j]? = some u → v.cells.toList[j]? = some x → PV.Den H u x := by
  have hall : ∀ {l : List PV} {xs : Array Value}, xs.size = l.length → (∀ (i : Nat) (c : PV) (v : Value), l[i]? = some c → xs[i]? = some v → PV.Den H c v) → (∀ u ∈ l, u.one = true) → ∀ u ∈ xs.toList, u.oneCell' = true := by
    intro l xs hl hh ho u hu
    obtain ⟨i, hi, rfl⟩ := List.mem_iff_getElem.1 hu
    have hi' : i < xs.size := by simpa using hi
    have hil : i < l.length := by omega
    exact ((hh i l[i] xs[i] (List.getElem?_eq_getElem hil) (by simp [hi'])).one (ho _ (List.getElem_mem hil))).1
  have sing : y.one = true → y.cells = [y] → v.cells.size = sz ∧ (∀ u ∈ v.cells.toList, u.oneCell' = true) ∧ ∀ (j : Nat) (u : PV) (x : Value), y.cells[j]? = some u → v.cells.toList[j]? = some x → PV.Den H u x := by
    intro h1 h2
    obtain ⟨g1, g2⟩ := hd.one h1
    have := h.1
    rw [h2] at this
    refine ⟨by rw [g2, ← this]; rfl, fun u hu => by rw [g2] at hu; simp at hu; rw [hu]; exact g1, fun j u x hu hx => ?_⟩
    rw [h2] at hu; rw [g2] at hx
    cases j with
    | zero => simp at hu hx; subst hu hx; exact hd
    | succ j => simp at hu
  cases y with
  | agg cs =>
    cases hd with
    | agg _ xs hl hh =>
      refine ⟨by show xs.size = sz; rw [hl]; exact h.1, hall hl hh h.2, fun j u x hu hx => hh j u x hu (by have : xs.toList[j]? = some x := hx; simpa using this)⟩
  | tup vs => have := h.2 (.tup vs) (by simp [PV.cells]); cases this
  | _ => exact sing rfl rfl
theorem acStore_ok {P : Program} {TE : TEnv} (hE : TOk P TE) {X : Nat → Bool} {T : TypeId} {x y : Operand} {st : St} {k : V → List Res → (V → V) → Prop} {φ : Prop} (h : acStore TE X T x y st k = some φ) (hφ : φ)
    {B : Base} {E : Ev} {F : Nat → NP} {a : Act} {w : World} (hI : Inv B st E F a w) {o : Oper} (ho : o.op = .store T x y) : ∃ w', (execOp a.eval o).run P w = .ok .skip w' ∧ Post B st F a w X k undef w' := by
  have he : execOp a.eval o = (do Instr.storeAt T (a.eval x) (a.eval y); pure .skip) := by simp only [execOp, ho]
  have run : ∀ {w' : World}, (Instr.storeAt T (a.eval x) (a.eval y)).run P w = .ok () w' → (execOp a.eval o).run P w = .ok .skip w' := by
    intro w' hr; rw [he, Sem.run_bind, hr]; rfl
  have unit : ∀ {H : Hp} {E : Ev}, V.Den H E unitV undef := .p _ _ (.tup [] #[] rfl fun i c v h => by simp at h)
  unfold acStore at h
  split at h
  · rename_i ti i off v hti hx hy
    obtain ⟨inf, d, his⟩ := hE.get hti
    split at h
    · rename_i T' cells hX hi
      split at h
      · rename_i cells' hc
        cases h
        obtain ⟨hnl, hF, vals, hg, hd⟩ := hI.held i _ hi
        unfold storeC at hc
        split at hc
        · rename_i h1 h2 h3
          cases hc
          have h1 := Nat.eq_of_beq_eq_true h1
          have h2 := Nat.le_of_ble_eq_true h2
          obtain ⟨hvc, hv1⟩ := (hI.ev hy).cells h3
          have hax := hI.ev hx
          generalize hgx : a.eval x = ax at hax
          cases hax with
          | own _ _ hin =>
            have hr := Sx.run_storeVar (P := P) his hg (a.eval y) (o := off) (by rw [hvc.1, h1]) (by simp [hd.1]; omega) hv1
            refine ⟨_, run (by rw [hgx]; simp only [Instr.storeAt, Instr.sureAddr, Sem.run_bind, Sem.run_pure, Result.andThen_ok]; exact hr), ?_⟩
            have hkeep : Keeps (F i) w (w.setRow (E.ρ i) (vals.toArray.toList.take off ++ ((a.eval y).cells.toList ++ vals.toArray.toList.drop (off + ti.size))).toArray) :=
              ⟨by simp, by simp, by simp, by simp, fun b hb hn => setRow_other w _ b _ fun e => hn ((hF b).2 e)⟩
            have hset := setRow_heap w (E.ρ i) vals.toArray (vals.toArray.toList.take off ++ ((a.eval y).cells.toList ++ vals.toArray.toList.drop (off + ti.size))).toArray T' (0, 0) hg
            have hle := hI.le (F' := F) (touch hkeep) (fun i k h => .inl h)
            have hI' := hI.set1 (lt_of_some hi) hkeep (r := .st T' (cells.take off ++ (v.cells ++ cells.drop (off + ti.size)))) ⟨hnl, hF, _, hset, (((hd.take off).append (hvc.append (hd.drop _))).mono hle (.refl E))⟩ (fun T c h => by rw [hi] at h; cases h; exact ⟨_, rfl⟩)
            refine Post.of (f := fun v => v) hI (by rw [frMap_id]; exact hI') (hkeep.mono fun b _ c => ⟨i, hX, c⟩) (fun i k h => .inl h) (fun i k _ h => h) unit hφ
        · cases hc
      · cases h
    · cases h
  · rename_i ti i sz q o' z hti hx hy
    obtain ⟨inf, d, his⟩ := hE.get hti
    split at h
    · rename_i T' sz' xs hX hi
      obtain ⟨hs0, hwf, hlen, hez, hrow⟩ := hI.held i _ hi
      have hax := hI.ev hx
      have hay : PV.Den ⟨nowM B F, w⟩ z (a.eval y) := by cases hI.ev hy; assumption
      generalize hgx : a.eval x = ax at hax
      cases hax with
      | ap _ _ _ _ hin hnl hz =>
        have : sz' = sz := hez.symm.trans hz
        subst this
        rcases hrow with ⟨h1, _, _⟩ | ⟨_, hF, hl1, hl2, cc, hcc, hcs, val, hval⟩
        · rw [hnl] at h1; cases h1
        have main : ∀ {old new : PV}, xs[q]? = some old → z.wf ti.size → o' + ti.size ≤ sz' → new.wf sz' → new.cells = old.cells.take o' ++ (z.cells ++ old.cells.drop (o' + ti.size)) →
            (∀ ys, ys = xs.set q new → k unitV (st.own.set i (.arr T' sz' ys)) fun v => v) → ∃ w', (execOp a.eval o).run P w = .ok .skip w' ∧ Post B st F a w X k undef w' := by
          intro old new hq hzw hfit hnw hnc hk
          have hqlt := lt_of_some hq
          have how := hwf old (List.mem_of_getElem? hq)
          obtain ⟨c1, c2, c3⟩ := hzw.cells hay
          have hflen : (flat xs).length = xs.length * sz' := flat_length hwf
          have hmul : (q + 1) * sz' ≤ xs.length * sz' := Nat.mul_le_mul_right _ hqlt
          have hmul2 : xs.length * sz' ≤ E.κ i * sz' := Nat.mul_le_mul_right _ hl1
          rw [Nat.succ_mul] at hmul
          have hr := Sx.run_storeVar (P := P) his hcc (a.eval y) (o := q * sz' + o') (by simpa using c1) (by omega) c2
          refine ⟨_, run (by rw [hgx]; simp only [Instr.storeAt, Instr.sureAddr, Sem.run_bind, Sem.run_pure, Result.andThen_ok]; exact hr), ?_⟩
          have hkeep : Keeps (F i) w (w.setRow (E.ρ i) (cc.toList.take (q * sz' + o') ++ ((a.eval y).cells.toList ++ cc.toList.drop (q * sz' + o' + ti.size))).toArray) :=
            ⟨by simp, by simp, by simp, by simp, fun b hb hn => setRow_other w _ b _ fun e => hn ((hF b).2 e)⟩
          have hset := setRow_heap w (E.ρ i) cc (cc.toList.take (q * sz' + o') ++ ((a.eval y).cells.toList ++ cc.toList.drop (q * sz' + o' + ti.size))).toArray T' (0, 0) hcc
          have hle := hI.le (F' := F) (touch hkeep) (fun i k h => .inl h)
          have hcl : (a.eval y).cells.toList.length = ti.size := by simpa using c1
          have hzl := hzw.1
          have hfd : (flat xs).drop (q * sz') = old.cells ++ flat (xs.drop (q + 1)) := by
            rw [← flat_drop hwf]
            obtain ⟨hlt, hee⟩ := List.getElem?_eq_some_iff.1 hq
            rw [List.drop_eq_getElem_cons hlt, hee]; rfl
          have hfl : flat (xs.set q new) = (flat xs).take (q * sz' + o') ++ z.cells ++ (flat xs).drop (q * sz' + o' + z.cells.length) := by
            rw [flat_set hwf hqlt new hnw.1, hnw.1, hnc, ← take_take_drop (flat xs) (q * sz') o', hfd, List.take_append_of_le_length (by rw [how.1]; omega), hzl]
            have e1 : (flat xs).drop (q * sz' + o' + ti.size) = old.cells.drop (o' + ti.size) ++ (flat xs).drop (q * sz' + sz') := by
              rw [Nat.add_assoc, ← List.drop_drop, hfd, List.drop_append_of_le_length (by rw [how.1]; omega)]
              have e3 : (flat xs).drop (q * sz' + sz') = flat (xs.drop (q + 1)) := by rw [flat_drop hwf, Nat.succ_mul]
              rw [e3]
            rw [e1]; simp only [List.append_assoc]
          have harr : ArrAt ⟨nowM B F, w.setRow (E.ρ i) (cc.toList.take (q * sz' + o') ++ ((a.eval y).cells.toList ++ cc.toList.drop (q * sz' + o' + ti.size))).toArray⟩ (E.ρ i) (E.κ i) T' sz' (xs.set q new) :=
            ArrAt.write hcs hval (p := q * sz' + o') (us := z.cells) (vs := (a.eval y).cells.toList) (by rw [hcl, hzl]) c3 (by omega) (by omega) hfl (by simpa using hl1) hl2 hle (by rw [hcl, List.append_assoc]; exact hset)
          have hI' := hI.set1 (lt_of_some hi) hkeep (r := .arr T' sz' (xs.set q new)) ⟨hs0, hwf.set hnw, by simpa using hlen, hez, .inr ⟨hnl, hF, harr⟩⟩ (fun T c h => by rw [hi] at h; cases h)
          exact Post.of (f := fun v => v) hI (by rw [frMap_id]; exact hI') (hkeep.mono fun b _ c => ⟨i, hX, c⟩) (fun i k h => .inl h) (fun i k _ h => h) unit (hk _ rfl)
        split at h
        · rename_i h1 h2
          have h1 := Nat.eq_of_beq_eq_true h1
          have h2 := Nat.eq_of_beq_eq_true h2
          cases h
          obtain ⟨old, hq, hzw, hk⟩ := hφ
          have how := hwf old (List.mem_of_getElem? hq)
          refine main hq (by rw [h2]; exact hzw) (by omega) hzw ?_ hk
          rw [h1, List.take_zero, List.nil_append, List.drop_eq_nil_of_le (by rw [how.1, h2]; omega), List.append_nil]
        · cases h
          obtain ⟨old, hq, hzw, hb, hk⟩ := hφ
          have how := hwf old (List.mem_of_getElem? hq)
          have hnew : (PV.agg (old.cells.take o' ++ (z.cells ++ old.cells.drop (o' + ti.size)))).wf sz' := by
            refine ⟨?_, fun u hu => ?_⟩
            · show (old.cells.take o' ++ (z.cells ++ old.cells.drop (o' + ti.size))).length = sz'
              rw [List.length_append, List.length_append, List.length_take, List.length_drop, hzw.1, how.1]; rw [how.1] at hb; omega
            replace hu : u ∈ old.cells.take o' ++ (z.cells ++ old.cells.drop (o' + ti.size)) := hu
            simp only [List.mem_append] at hu
            rcases hu with hu | hu | hu
            · exact how.2 u (List.mem_of_mem_take hu)
            · exact hzw.2 u hu
            · exact how.2 u (List.mem_of_mem_drop hu)
          exact main hq hzw (by rw [← how.1]; exact hb) hnew rfl hk
    · cases h
  · cases h
end Go.Lx
set_option linter.unusedSimpArgs false
set_option linter.unusedVariables false
namespace Go.Lx
open Go
open Go.Sx (NP Keeps Hp Keep0 TI TEnv TOk Kd Ar ArEq kdInt vcIf FOk kdOf kdInt)
section
variable {P : Program} (w : World)
theorem run_append_roomG (t u ty e : TypeId) (i : TypeInfo) (du : TypeDesc) (ht : P.underlying t = some (.slice e)) (hu : P.underlying u = some du) (hdu : du = .string ∨ ∃ e', du = .slice e') (hi : P.info? e = some i)
    (ad : Addr) (sLen sCap m : Nat) (x : Value) (news : List Value) {w' : World} (hlen : (Builtin.lenOf x).run P w = .ok m w) (hnew : (Builtin.firstCells i.size m x).run P w = .ok news.toArray w) (hroom : sLen + m ≤ sCap)
    (hst : (storeCells (ad.add (sLen * i.size)) news).run P w = .ok () w') :
    (Builtin.append_ #[t, u] ty #[.slice (some ad) sLen sCap, x]).run P w = .ok (.slice (some ad) (sLen + m) sCap) w' := by
  rcases hdu with rfl | ⟨e', rfl⟩ <;> simp [Builtin.append_, run_underlying ht, run_underlying hu, sizeOf, typeInfo, hi, hlen, hroom, hnew, hst]
theorem run_append_none (t u ty e : TypeId) (i : TypeInfo) (du : TypeDesc) (ht : P.underlying t = some (.slice e)) (hu : P.underlying u = some du) (hdu : du = .string ∨ ∃ e', du = .slice e') (hi : P.info? e = some i)
    (b : Option Addr) (x : Value) (hlen : (Builtin.lenOf x).run P w = .ok 0 w) (hnew : (Builtin.firstCells i.size 0 x).run P w = .ok #[] w) :
    (Builtin.append_ #[t, u] ty #[.slice b 0 0, x]).run P w = .ok (.slice b 0 0) w := by
  rcases hdu with rfl | ⟨e', rfl⟩ <;> cases b <;> simp [Builtin.append_, run_underlying ht, run_underlying hu, sizeOf, typeInfo, hi, hlen, hnew, storeCells]
theorem run_append_growG (t u ty e : TypeId) (i : TypeInfo) (z : Value) (du : TypeDesc) (ht : P.underlying t = some (.slice e)) (hu : P.underlying u = some du) (hdu : du = .string ∨ ∃ e', du = .slice e') (hi : P.info? e = some i) (hz : i.zero = some z)
    (b : Option Addr) (sLen sCap m : Nat) (x : Value) (olds news : List Value) (hlen : (Builtin.lenOf x).run P w = .ok m w) (hold : (Builtin.firstCells i.size sLen (.slice b sLen sCap)).run P w.drew = .ok olds.toArray w.drew)
    (hnew : (Builtin.firstCells i.size m x).run P w.drew = .ok news.toArray w.drew)
    (hg : sCap < sLen + m) (h63 : ((sLen + m : Nat) : Int) ≤ 9223372036854775807) (hfit : Builtin.nextslicecap (sLen + m) sCap * i.bytes ≤ 281474976710656) :
    (Builtin.append_ #[t, u] ty #[.slice b sLen sCap, x]).run P w =
      .ok (.slice (some ⟨w.heap.size, 0, none⟩) (sLen + m) (grownCap w (sLen + m) sCap e))
        (w.drew.alloc (.cells (olds ++ news ++ (Builtin.zeroCells z.cells (grownCap w (sLen + m) sCap e - (sLen + m))).toList).toArray e)) := by
  have hn : ¬ (sLen + m ≤ sCap) := by omega
  have h63' : ¬ (9223372036854775807 < ((sLen : Int) + (m : Int))) := by omega
  have h48' : ¬ (281474976710656 < Builtin.nextslicecap (sLen + m) sCap * i.bytes) := by omega
  rcases hdu with rfl | ⟨e', rfl⟩ <;> simp [Builtin.append_, run_underlying ht, run_underlying hu, sizeOf, typeInfo, zeroValue, hi, hz, hlen, hn, h63', h48', Question.forced, hold, hnew, newRow, grownCap]
  all_goals (congr 2; apply Array.ext'; simp)
end
def apSrc (kd : Kd) (own : List Res) (v : V) : Option Sq :=
  match v, kd with
  | .p (.str s), .str => some (.t s)
  | .p (.str _), _ => none
  | v, .slice _ => seen (fun _ => false) own v
  | _, _ => none
theorem apSrc_ok {P : Program} {TE : TEnv} (hE : TOk P TE) {u : TypeId} {ui : TI} (hu : TE.get u = some ui) {B : Base} {st : St} {E : Ev} {F : Nat → NP} {a : Act} {w : World} (hI : Inv B st E F a w) {x : V} {v : Value} (hd : V.Den ⟨nowM B F, w⟩ E x v) {q : Sq} (h : apSrc ui.kd st.own x = some q) {ys : List PV} (hq : q.get = ys) {sz : Nat} (hw : Wf sz ys) :
    (∃ du, P.underlying u = some du ∧ (du = .string ∨ ∃ e', du = .slice e')) ∧ (∀ w', (Builtin.lenOf v).run P w' = .ok ys.length w') ∧
    ∃ news : List Value, news.length = (flat ys).length ∧ (∀ w', w'.heap = w.heap → (Builtin.firstCells sz ys.length v).run P w' = .ok news.toArray w') ∧ ∀ (j : Nat) (q : PV) (z : Value), (flat ys)[j]? = some q → news[j]? = some z → PV.Den ⟨nowM B F, w⟩ q z := by
  obtain ⟨inf, d, his⟩ := hE.get hu
  unfold apSrc at h
  split at h
  · rename_i s hkd
    cases h
    have hq : bP s = ys := hq
    subst hq
    have := kd_str his hkd; subst this
    rw [hd.str_inv]
    have h1 : sz = 1 ∨ s = [] := by
      cases s with
      | nil => exact .inr rfl
      | cons b r => exact .inl ((hw (.int .u8 b.toNat) (by simp [bP])).1.symm.trans rfl)
    refine ⟨⟨_, his.und, .inl rfl⟩, fun w' => by simp [Builtin.lenOf, str_size, bP_length], s.map fun b => .int .u8 b.toNat, by simp [bP_flat, bP_length], fun w' _ => ?_, fun j q z hq hz => ?_⟩
    · have hx : (⟨s.toArray⟩ : ByteArray).extract 0 (bP s).length = ⟨s.toArray⟩ := by
        apply ByteArray.ext
        rw [ByteArray.data_extract]
        apply Array.ext'
        simp [bP_length]
      simp only [Builtin.firstCells, hx, Sem.run_pure]
      congr 1
      apply Array.ext'
      simp
    · rw [bP_flat, bP_eq, List.getElem?_map] at hq
      rw [List.getElem?_map] at hz
      cases hs : s[j]? with
      | none => rw [hs] at hq; cases hq
      | some b => rw [hs] at hq hz; cases hq; cases hz; exact .int _ _
  · cases h
  · rename_i e _ hkd
    have := kd_slice his hkd; subst this
    obtain ⟨ad, c, rfl, hnil, hat, hlc, _⟩ := seen_ok hI hd h hq
    refine ⟨⟨_, his.und, .inr ⟨_, rfl⟩⟩, fun w' => rfl, ?_⟩
    cases ad with
    | none =>
      obtain ⟨rfl, rfl⟩ := hnil rfl
      exact ⟨[], by simp [flat], fun w' _ => by simp [Builtin.firstCells], fun j q z hq _ => by simp [flat] at hq⟩
    | some ad =>
      obtain ⟨vs, g1, g2, g3⟩ := hat.cells
      refine ⟨vs, g1, fun w' hw' => ?_, g3⟩
      refine run_firstCells_some w' sz ys.length ad _ c vs (by rw [g1, flat_length hw]) fun j z hz => ?_
      have := g2 w (Prot.refl _ _) j z hz
      unfold World.cell? at this ⊢
      rw [hw']; exact this
  · cases h
theorem ArrAt.ofNew {M : NP} {w' : World} {b κ : Nat} {T : TypeId} {sz : Nat} {zs : List PV} {cells : List Value} {rest : List Value} (hb : w'.heap[b]? = some (.cells (cells ++ rest).toArray T (0, 0))) (hl : zs.length ≤ κ) (hk : κ ≤ maxLen) (hs : κ * sz ≤ (cells ++ rest).length)
    (hcl : cells.length = (flat zs).length) (hd : ∀ (j : Nat) (q : PV) (z : Value), (flat zs)[j]? = some q → cells[j]? = some z → PV.Den ⟨M, w'⟩ q z) : ArrAt ⟨M, w'⟩ b κ T sz zs := by
  refine ⟨hl, hk, _, hb, by simpa using hs, fun j => cells.getD j undef, fun j u hu => ?_⟩
  have hlt : j < cells.length := by rw [hcl]; exact lt_of_some hu
  have e : cells[j]? = some (cells.getD j undef) := by rw [List.getD_eq_getElem?_getD, List.getElem?_eq_getElem hlt]; rfl
  refine ⟨?_, hd j u _ hu e⟩
  simp only [List.getElem?_toArray]
  rw [List.getElem?_append_left hlt]; exact e
theorem zero_size {P : Program} {te : TI} {T : TypeId} {inf : TypeInfo} {d : TypeDesc} (his : TI.Is P T te inf d) {cs : List V} (hz : zeroV te = some cs) : ∃ zv, inf.zero = some zv ∧ te.zero = some zv.cells.toList ∧ cs.length = zv.cells.size := by
  obtain ⟨z, h1, h2⟩ := zeroV_den (H := ⟨fun _ => False, default⟩) (E := ⟨0, fun _ => 0, fun _ => 0, fun _ => false, fun _ => 0, fun _ => 0⟩) hz
  have := his.zero; rw [h1] at this
  cases hh : inf.zero <;> simp [hh] at this
  rename_i zv
  exact ⟨zv, rfl, by rw [h1, this], by rw [← h2.1, this]; simp⟩
end Go.Lx
set_option linter.unusedSimpArgs false
set_option linter.unusedVariables false
namespace Go.Lx
open Go
open Go.Sx (NP Keeps Hp Keep0 TI TEnv TOk Kd Ar ArEq kdInt vcIf FOk kdOf kdInt)
def zeroOk (te : TI) : Bool :=
  match zeroV te with
  | some z => Nat.beq z.length te.size
  | none => false
def acAppend (E : TEnv) (X : Nat → Bool) (t u : TypeId) (s x : Operand) (st : St) (k : V → List Res → (V → V) → Prop) : Option Prop :=
  match E.get t, E.get u, ev st.fr s, ev st.fr x with
  | some ti, some ui, some base, some v => match ti.kd with
    | .slice e => match E.get e, apSrc ui.kd st.own v with
      | some te, some q => match zeroOk te, Nat.blt 0 te.size with
        | true, true => match base with
          | .p .nils => some (∃ _ : Unit, Wf te.size q.get ∧ q.get.length ≤ maxLen ∧ q.get.length * te.bytes ≤ 281474976710656 ∧ ∀ zs n, zs = q.get → n = q.get.length → k (.vw st.own.length te.size 0 n none) (st.own ++ [.arr e te.size zs]) fun v => v)
          | .p .e0 => some (∃ _ : Unit, Wf te.size q.get ∧ q.get.length ≤ maxLen ∧ q.get.length * te.bytes ≤ 281474976710656 ∧ ∀ zs n, zs = q.get → n = q.get.length → k (.vw st.own.length te.size 0 n none) (st.own ++ [.arr e te.size zs]) fun v => v)
          | .vw r sz off n cap => match X r, st.own[r]?, Nat.beq sz te.size with
            | true, some (.arr T' _ xs), true => match Nat.beq T' e, cap with
              | false, _ => none
              | true, none => some ((∃ _ : Unit, off = 0 ∧ n = xs.length ∧ Wf te.size q.get ∧ n + q.get.length ≤ maxLen ∧ (n + q.get.length) * te.bytes ≤ 140737488355328 ∧ ∀ zs n', zs = xs ++ q.get → n' = n + q.get.length → k (.vw r sz 0 n' none) ((st.own.map (Res.map (V.kill r))).set r (.arr e sz zs)) (V.kill r)) ∨
                  (∃ _ : Unit, off + n + q.get.length ≤ xs.length ∧ Wf te.size q.get ∧ ∀ zs n', zs = xs.take (off + n) ++ q.get ++ xs.drop (off + n + q.get.length) → n' = n + q.get.length → k (.vw r sz off n' none) (st.own.set r (.arr e sz zs)) fun v => v))
              | true, some _ => none
            | _, _, _ => none
          | _ => none
        | _, _ => none
      | _, _ => none
    | _ => none
  | _, _, _, _ => none
theorem V.Den.vw_inv {H : Hp} {E : Ev} {i sz off n : Nat} {cap : Option Nat} {v : Value} (h : V.Den H E (.vw i sz off n cap) v) :
    i < E.n ∧ E.sz i = sz ∧ ((E.nl i = true ∧ off = 0 ∧ n = 0 ∧ cap.getD 0 = 0 ∧ ∃ a, v = .slice a 0 0) ∨
      (E.nl i = false ∧ ∃ a c, v = .slice (some a) n c ∧ off + c = cap.getD (E.κ i) ∧ off + c ≤ E.κ i ∧ n ≤ c ∧ off + n ≤ E.len i ∧ (a = ⟨E.ρ i, off * sz, none⟩ ∨ c = 0))) := by
  cases h with
  | vwn _ _ _ a h hn hz hc => exact ⟨h, hz, .inl ⟨hn, rfl, rfl, hc, a, rfl⟩⟩
  | vw _ _ _ _ _ a c h hn hc hk hl hx hz ha => exact ⟨h, hz, .inr ⟨hn, a, c, rfl, hc, hk, hl, hx, ha⟩⟩
theorem acAppend_ok {P : Program} {TE : TEnv} (hE : TOk P TE) {X : Nat → Bool} {t u : TypeId} {s x : Operand} {st : St} {k : V → List Res → (V → V) → Prop} {φ : Prop} (h : acAppend TE X t u s x st k = some φ) (hφ : φ)
    {B : Base} {E : Ev} {F : Nat → NP} {a : Act} {w : World} (hI : Inv B st E F a w) (ty : TypeId) :
    ∃ r w', (Builtin.append_ #[t, u] ty #[a.eval s, a.eval x]).run P w = .ok r w' ∧ Post B st F a w X k r w' := by
  unfold acAppend at h
  split at h
  · rename_i ti ui base v hti hui hs hx
    obtain ⟨inf, d, his⟩ := hE.get hti
    split at h
    · rename_i e hkd
      have := kd_slice his hkd; subst this
      split at h
      · rename_i te q hte hys
        obtain ⟨ys, hqg⟩ : ∃ ys, q.get = ys := ⟨_, rfl⟩
        rw [hqg] at h
        obtain ⟨inf', d', his'⟩ := hE.get hte
        split at h
        · rename_i hzv hsz
          have hsz : 0 < te.size := Nat.lt_of_succ_le (Nat.le_of_ble_eq_true hsz)
          have hzv' : ∃ zv, inf'.zero = some zv ∧ zv.cells.size = te.size := by
            unfold zeroOk at hzv
            split at hzv
            · rename_i z hz
              obtain ⟨zv, g1, _, g3⟩ := zero_size his' hz
              exact ⟨zv, g1, by rw [← g3]; exact Nat.eq_of_beq_eq_true hzv⟩
            · cases hzv
          obtain ⟨zv, hz1, hcs⟩ := hzv'
          -- a new row
          have fresh : ∀ {b : Option Addr} {sLen sCap : Nat} {olds : List Value} {xs zs : List PV}, a.eval s = .slice b sLen sCap → (∀ w', w'.heap = w.heap → (Builtin.firstCells te.size sLen (.slice b sLen sCap)).run P w' = .ok olds.toArray w') → olds.length = (flat xs).length → xs.length = sLen → Wf te.size xs →
              (∀ (j : Nat) (q : PV) (z : Value), (flat xs)[j]? = some q → olds[j]? = some z → PV.Den ⟨nowM B F, w⟩ q z) → Wf te.size ys → sCap < sLen + ys.length → sLen + ys.length ≤ maxLen → Builtin.nextslicecap (sLen + ys.length) sCap * te.bytes ≤ 281474976710656 → zs = xs ++ ys →
              ∃ κ w', (Builtin.append_ #[t, u] ty #[a.eval s, a.eval x]).run P w = .ok (.slice (some ⟨w.heap.size, 0, none⟩) (sLen + ys.length) κ) w' ∧ Keep0 w w' ∧ sLen + ys.length ≤ κ ∧ w'.heap.size = w.heap.size + 1 ∧
                ∀ M, Hp.Le ⟨nowM B F, w⟩ ⟨M, w'⟩ → ArrAt ⟨M, w'⟩ w.heap.size κ e te.size zs := by
            intro b sLen sCap olds xs zs hb hold hol hxl hxw hxd hyw hg h63 hfit hzs
            obtain ⟨⟨du, hdu1, hdu2⟩, hl, news, hn1, hn2, hn3⟩ := apSrc_ok (P := P) hE hui hI (hI.ev hx) hys hqg hyw
            have h63' : ((sLen + ys.length : Nat) : Int) ≤ 9223372036854775807 := by unfold maxLen at h63; omega
            have hr := run_append_growG (P := P) w t u ty e inf' zv du his.und hdu1 hdu2 his'.info hz1 b sLen sCap ys.length (a.eval x) olds news (hl w) (by rw [← his'.size]; exact hold _ rfl) (by rw [← his'.size]; exact hn2 _ rfl) hg h63' (by rw [← his'.bytes]; exact hfit)
            refine ⟨_, _, by rw [hb]; exact hr, Keep0.drewAlloc _ _, grownCap_ge _ _ _ _, by show (w.heap.push _).size = w.heap.size + 1; simp, fun M hle => ?_⟩
            subst hzs
            have hge := grownCap_ge w (sLen + ys.length) sCap e
            refine ArrAt.ofNew (cells := olds ++ news) (heap_alloc_new w.drew _) (by simp [hxl]; exact hge) (grownCap_le_maxLen _ _ _ _ h63) ?_ (by rw [flat_append]; simp [hol, hn1]) fun j q z hq hz => ?_
            · simp only [List.length_append, hol, hn1, flat_length hxw, flat_length hyw, hxl, Array.length_toList, size_zeroCells, hcs, ← Nat.add_mul]
              exact Nat.mul_le_mul_right _ (by omega)
            · rw [flat_append] at hq
              by_cases hj : j < (flat xs).length
              · rw [List.getElem?_append_left hj] at hq
                rw [List.getElem?_append_left (by omega)] at hz
                exact (hxd j q z hq hz).mono hle
              · rw [List.getElem?_append_right (by omega)] at hq
                rw [List.getElem?_append_right (by omega), hol] at hz
                exact (hn3 _ q z hq hz).mono hle
          have base0 : ∀ {b : Option Addr}, a.eval s = .slice b 0 0 → Wf te.size ys → ys.length ≤ maxLen → ys.length * te.bytes ≤ 281474976710656 → (∀ zs n, zs = ys → n = ys.length → k (.vw st.own.length te.size 0 n none) (st.own ++ [.arr e te.size zs]) fun v => v) →
              ∃ r w', (Builtin.append_ #[t, u] ty #[a.eval s, a.eval x]).run P w = .ok r w' ∧ Post B st F a w X k r w' := by
            intro b hb hyw h63 h48 hk
            have hk := hk _ _ rfl rfl
            by_cases h0 : ys = []
            · subst h0
              obtain ⟨⟨du, hdu1, hdu2⟩, hl, news, hn1, hn2, hn3⟩ := apSrc_ok (P := P) hE hui hI (hI.ev hx) hys hqg hyw
              have hn0 : news = [] := List.eq_nil_of_length_eq_zero (by rw [hn1]; rfl)
              subst hn0
              have hr := run_append_none (P := P) w t u ty e inf' du his.und hdu1 hdu2 his'.info b (a.eval x) (hl w) (by rw [← his'.size]; exact hn2 w rfl)
              refine ⟨_, _, by rw [hb]; exact hr, ?_⟩
              have hI' := hI.newHollow (Keeps.refl _ w) e hsz
              refine Post.of (f := fun v => v) hI (by rw [frMap_id]; exact hI') (Keeps.refl _ w) (fun i k h => .inl h) (fun i k _ h => h) ?_ hk
              exact .vwn _ _ none b (by simp [Ev.push, hI.en]) (by simp [Ev.push, hI.en]) (by simp [Ev.push, hI.en]) rfl
            · have hpos : 0 < ys.length := List.length_pos_iff.2 h0
              obtain ⟨κ, w', hr, hk0, hκ, hws, harr⟩ := fresh (zs := ys) (xs := []) (olds := []) hb (fun w' _ => by cases b <;> simp [Builtin.firstCells, loadCells, loadCellsFrom]) rfl rfl Wf.nil (fun j q z h => by simp [flat] at h) hyw (by omega) (by omega)
                (by rw [Nat.zero_add, nextslicecap_zero hpos]; exact h48) rfl
              refine ⟨_, _, hr, ?_⟩
              have hI' := hI.newArr (T := e) (xs := ys) hk0 (Nat.le_refl _) hsz hyw (fun M hM => harr M ⟨hk0.os, hk0.tape, hk0.output, hk0.size, fun b hb hm => ⟨hk0.block b hb.lt fun c => c, fun c => by
                rcases hM b c with c | c
                · exact hm c
                · have : b < w.heap.size := hb.lt
                  omega⟩⟩)
              refine Post.of (f := fun v => v) hI (by rw [frMap_id]; exact hI') (keepsNone hk0) (fun i q h => ?_) (fun i q _ h => ?_) ?_ hk
              · by_cases hi : i = st.own.length
                · subst hi; rw [pushF_self] at h; exact .inr (Nat.le_of_eq h.symm)
                · rw [pushF_ne i hi] at h; exact .inl h
              · rw [pushF_ne i (by rintro rfl; exact hI.low _ (Nat.le_refl _) q h)]; exact h
              · rw [Nat.zero_add]
                refine .vw _ _ 0 _ none _ _ (by simp [Ev.push, hI.en]) (by simp [Ev.push, hI.en]) ?_ ?_ (by omega) (by simp [Ev.push, hI.en]) (by simp [Ev.push, hI.en]) (.inl ?_)
                · simp [Ev.push, hI.en]
                · simp [Ev.push, hI.en]
                · simp [Ev.push, hI.en]
          split at h
          · cases h
            obtain ⟨_, h1, h2, h3, hk⟩ := hφ
            exact base0 (hI.ev hs).nils_inv h1 h2 h3 hk
          · cases h
            obtain ⟨_, h1, h2, h3, hk⟩ := hφ
            have : ∃ b, a.eval s = .slice b 0 0 := by
              have := hI.ev hs
              generalize a.eval s = as at this
              cases this with
              | p _ _ h => cases h; exact ⟨_, rfl⟩
            obtain ⟨b, hb⟩ := this
            exact base0 hb h1 h2 h3 hk
          · rename_i r sz off n cap
            split at h
            · rename_i T' sz' xs hX hr hszz
              have hszz := Nat.eq_of_beq_eq_true hszz
              subst hszz
              have has := hI.ev hs
              have hez' : E.sz r = te.size := has.vw_inv.2.1
              have hszq : sz' = te.size := by
                obtain ⟨_, _, _, hez, _⟩ := hI.held r _ hr
                exact hez.symm.trans hez'
              subst hszq
              obtain ⟨hs0, hwf, hlen, hez, hrow⟩ := hI.held r _ hr
              have hrl := lt_of_some hr
              have hnpr : ∀ T c, st.own[r]? ≠ some (.st T c) := fun T c h => by rw [hr] at h; cases h
              obtain ⟨as, hgs⟩ : ∃ as, a.eval s = as := ⟨_, rfl⟩
              rw [hgs] at has
              split at h
              · cases h
              · rename_i hTe
                have hTe := Nat.eq_of_beq_eq_true hTe
                subst hTe
                cases h
                -- what the view holds
                have hview : ∃ (ad : Option Addr) (c : Nat) (olds : List Value), as = .slice ad n c ∧ n ≤ c ∧ (∀ w', w'.heap = w.heap → (Builtin.firstCells te.size n (.slice ad n c)).run P w' = .ok olds.toArray w') ∧ (off + n ≤ xs.length → olds.length = (flat ((xs.drop off).take n)).length) ∧
                    (∀ (j : Nat) (q : PV) (z : Value), (flat ((xs.drop off).take n))[j]? = some q → olds[j]? = some z → PV.Den ⟨nowM B F, w⟩ q z) := by
                  have hsn : seen (fun _ => false) st.own (.vw r te.size off n none) = some (.c xs off n) := by simp [seen, hr]
                  obtain ⟨ad, c, e1, e2, e3, e4, _⟩ := seen_ok hI has hsn (xs := (xs.drop off).take n) rfl
                  have hln : ((xs.drop off).take n).length = n := by
                    have : ∃ ad c, as = .slice ad n c := by
                      obtain ⟨_, _, ⟨_, _, h0, _, a, h⟩ | ⟨_, a, c, h, _⟩⟩ := has.vw_inv
                      · exact ⟨a, 0, by rw [h, h0]⟩
                      · exact ⟨_, _, h⟩
                    obtain ⟨_, _, e5⟩ := this
                    rw [e5] at e1; injection e1 with _ e6 _; exact e6.symm
                  rw [hln] at e1 e4
                  cases ad with
                  | none =>
                    obtain ⟨e5, e6⟩ := e2 rfl
                    exact ⟨none, c, [], e1, e4, fun w' _ => by simp [Builtin.firstCells], fun _ => by rw [e5]; rfl, fun j q z h => by rw [e5] at h; simp [flat] at h⟩
                  | some ad =>
                    obtain ⟨vs, g1, g2, g3⟩ := e3.cells
                    refine ⟨some ad, c, vs, e1, e4, fun w' hw' => run_firstCells_some w' te.size n ad n c vs (by rw [g1, flat_length hwf.drop.take, hln]) fun j z hz => ?_, fun _ => g1, g3⟩
                    have := g2 w (Prot.refl _ _) j z hz
                    unfold World.cell? at this ⊢
                    rw [hw']; exact this
                obtain ⟨ad, c, olds, rfl, hnc, hold, hol, hod⟩ := hview
                obtain ⟨⟨du, hdu1, hdu2⟩, hl, news, hn1, hn2, hn3⟩ := apSrc_ok (P := P) hE hui hI (hI.ev hx) hys hqg (sz := te.size) (by rcases hφ with ⟨_, _, _, h, _⟩ | ⟨_, _, h, _⟩ <;> exact h)
                have hyw : Wf te.size ys := by rcases hφ with ⟨_, _, _, h, _⟩ | ⟨_, _, h, _⟩ <;> exact h
                -- in its place
                have inplace : E.nl r = false → n + ys.length ≤ c → off + n ≤ xs.length → off + n + ys.length ≤ E.κ r → (∃ g, ad = some g ∧ (g = ⟨E.ρ r, off * te.size, none⟩ ∨ c = 0)) →
                    ∃ w', (Builtin.append_ #[t, u] ty #[a.eval s, a.eval x]).run P w = .ok (.slice ad (n + ys.length) c) w' ∧ Keeps (F r) w w' ∧
                      ∀ M, Hp.Le ⟨nowM B F, w⟩ ⟨M, w'⟩ → ArrAt ⟨M, w'⟩ (E.ρ r) (E.κ r) T' te.size (xs.take (off + n) ++ ys ++ xs.drop (off + n + ys.length)) := by
                  rintro hnl hroom hxl hκ ⟨g, rfl, hg⟩
                  rcases hrow with ⟨h1, _, _⟩ | ⟨_, hF, hl1, hl2, cc, hcc, hcs', val, hval⟩
                  · rw [hnl] at h1; cases h1
                  have hpm : (off + n) * te.size + news.length ≤ E.κ r * te.size := by
                    rw [hn1, flat_length hyw, ← Nat.add_mul]; exact Nat.mul_le_mul_right _ hκ
                  have hone : ∀ z ∈ news, z.oneCell' = true := by
                    intro z hz
                    obtain ⟨j, hj, rfl⟩ := List.mem_iff_getElem.1 hz
                    have hjl : j < (flat ys).length := by rw [← hn1]; exact hj
                    exact ((hn3 j _ _ (List.getElem?_eq_getElem hjl) (List.getElem?_eq_getElem hj)).one (flat_one hyw _ (List.getElem_mem hjl))).1
                  have hst := run_storeCells_at P (E.ρ r) ((off + n) * te.size) T' news 0 cc w hcc (by rw [Nat.add_zero]; omega) hone
                  rw [Nat.add_zero] at hst
                  have hst' : (storeCells (g.add (n * inf'.size)) news).run P w = .ok () (w.setRow (E.ρ r) (cc.toList.take ((off + n) * te.size) ++ news ++ cc.toList.drop ((off + n) * te.size + news.length)).toArray) := by
                    rcases hg with rfl | rfl
                    · rw [Sx.addr_add, ← his'.size, ← Nat.add_mul]; exact hst
                    · have hys0 : ys = [] := List.eq_nil_of_length_eq_zero (by omega)
                      subst hys0
                      have hn0 : news = [] := List.eq_nil_of_length_eq_zero (by rw [hn1]; rfl)
                      subst hn0
                      simp only [storeCells, List.append_nil, List.length_nil, Nat.add_zero, List.take_append_drop, Array.toArray_toList]
                      rw [setRow_self w (E.ρ r) cc T' (0, 0) hcc]; rfl
                  have hr2 := run_append_roomG (P := P) w t u ty T' inf' du his.und hdu1 hdu2 his'.info g n c ys.length (a.eval x) news (hl w) (by rw [← his'.size]; exact hn2 w rfl) hroom hst'
                  refine ⟨_, by rw [hgs]; exact hr2, ⟨by simp, by simp, by simp, by simp, fun b hb hn => setRow_other w _ b _ fun e => hn ((hF b).2 e)⟩, fun M hle => ?_⟩
                  refine ArrAt.write hcs' hval (p := (off + n) * te.size) (us := flat ys) (vs := news) hn1 hn3 (by rw [flat_length hwf]; exact Nat.mul_le_mul_right _ hxl) (by rw [← hn1]; exact hpm) ?_ (by simp; omega) hl2 hle (setRow_heap w _ cc _ T' (0, 0) hcc)
                  rw [flat_append, flat_append, flat_take hwf, flat_drop hwf, flat_length hyw, ← Nat.add_mul]
                rcases hφ with ⟨_, rfl, hn, _, h63, hbt, hk⟩ | ⟨_, hfit, _, hk⟩
                · have hk := hk _ _ rfl rfl
                  subst hn
                  have hxs : (xs.drop 0).take xs.length = xs := by simp
                  rw [hxs] at hol hod
                  have hEn : r < E.n := by rw [hI.en]; exact hrl
                  have moved : ∀ {w' : World} {b κ : Nat} {ad' : Addr} {c' : Nat}, Keeps (F r) w w' → (F r b ∨ w.heap.size ≤ b) → (∀ M, Hp.Le ⟨nowM B F, w⟩ ⟨M, w'⟩ → ArrAt ⟨M, w'⟩ b κ T' te.size (xs ++ ys)) → c' = κ → xs.length + ys.length ≤ c' → (ad' = ⟨b, 0, none⟩ ∨ c' = 0) →
                      Post B st F a w X k (.slice (some ad') (xs.length + ys.length) c') w' := by
                    intro w' b κ ad' c' hkp hb harr hcκ hle' had
                    subst hcκ
                    have hI' := hI.moveArr hrl hnpr hkp hb hs0 (hwf.append hyw) harr
                    refine Post.of hI hI' (hkp.mono fun q _ h => ⟨r, hX, h⟩) (fun i q h => ?_) (fun i q h0 h => ?_) ?_ hk
                    · by_cases hi : i = r
                      · subst hi; rw [pushF_self] at h; rw [h]; exact hb
                      · rw [pushF_ne i hi] at h; exact .inl h
                    · rw [pushF_ne i (by rintro rfl; rw [hX] at h0; cases h0)]; exact h
                    · refine .vw _ _ 0 _ none _ _ hEn (by simp [Ev.put]) (by simp [Ev.put]) (by simp [Ev.put]) hle' (by simp [Ev.put]) (by simp [Ev.put]) ?_
                      rcases had with had | had
                      · left; rw [had]; simp [Ev.put]
                      · exact .inr had
                  by_cases hroom : xs.length + ys.length ≤ c
                  · obtain ⟨_, _, ⟨hnl, _, hn0', _, ad', had'⟩ | ⟨hnl, g, c', had', hc', hk', hl', hx', ha⟩⟩ := has.vw_inv
                    · injection had' with _ _ hc0
                      subst hc0
                      have hys0 : ys = [] := List.eq_nil_of_length_eq_zero (by omega)
                      have hxs0 : xs = [] := List.eq_nil_of_length_eq_zero (by omega)
                      subst hys0
                      have hn0 : news = [] := List.eq_nil_of_length_eq_zero (by rw [hn1]; rfl)
                      subst hn0
                      have hr0 := run_append_none (P := P) w t u ty T' inf' du his.und hdu1 hdu2 his'.info ad (a.eval x) (hl w) (by rw [← his'.size]; exact hn2 w rfl)
                      subst hxs0
                      refine ⟨_, _, by rw [hgs]; exact hr0, ?_⟩
                      have hI' := hI.set (E' := E) (F' := F) (f := V.kill r) hrl (Keeps.refl _ w) rfl (fun i _ _ => .refl E i) (fun T c h _ => (hnpr T c h).elim) (fun _ _ => rfl) (fun q h => .inl h) (fun c v hc => V.Den.kill (E := E) (E' := E) (Hp.Le.refl _) (Nat.le_refl _) (fun i _ _ => .refl E i) hc) (r := .arr T' te.size ([] ++ [])) (hI.held r _ hr)
                      exact Post.of hI hI' (Keeps.refl _ w) (fun i q h => .inl h) (fun i q _ h => h) (.vwn _ _ none _ hEn hnl hez' rfl) hk
                    · injection had' with hg _ hcc'
                      subst hg hcc'
                      have hcκ : c = E.κ r := by have : 0 + c = E.κ r := hc'; omega
                      obtain ⟨w', h1, h2, h3⟩ := inplace hnl hroom (by omega) (by omega) ⟨g, rfl, by simpa using ha⟩
                      refine ⟨_, _, h1, moved (b := E.ρ r) h2 ?_ (fun M hle => ?_) hcκ hroom ?_⟩
                      · rcases hrow with ⟨h1, _, _⟩ | ⟨_, hF, _⟩
                        · rw [hnl] at h1; cases h1
                        · exact .inl ((hF _).2 rfl)
                      · have := h3 M hle
                        rw [List.drop_eq_nil_of_le (by omega)] at this
                        simpa using this
                      · rcases ha with ha | ha
                        · left; simpa using ha
                        · exact .inr ha
                  · obtain ⟨κ, w', h1, h2, h3, h4, h5⟩ := fresh (zs := xs ++ ys) (xs := xs) hgs hold (hol (by omega)) rfl hwf hod hyw (by omega) h63 (growslice_fits (by omega) hbt) rfl
                    exact ⟨_, _, h1, moved (keepsNone h2) (.inr (Nat.le_refl _)) h5 rfl h3 (.inl rfl)⟩
                · have hk := hk _ _ rfl rfl
                  obtain ⟨hin, _, ⟨hnl, ho0, hn0', _, ad', had'⟩ | ⟨hnl, g, c', had', hc', hk', hl', hx', ha⟩⟩ := has.vw_inv
                  · injection had' with _ _ hc0
                    subst hc0 ho0 hn0'
                    have hxs0 : xs = [] := by
                      rcases hrow with ⟨_, h, _⟩ | ⟨h, _⟩
                      · exact h
                      · rw [hnl] at h; cases h
                    subst hxs0
                    simp at hfit
                    subst hfit
                    have hn0 : news = [] := List.eq_nil_of_length_eq_zero (by rw [hn1]; rfl)
                    subst hn0
                    have hr0 := run_append_none (P := P) w t u ty T' inf' du his.und hdu1 hdu2 his'.info ad (a.eval x) (hl w) (by rw [← his'.size]; exact hn2 w rfl)
                    refine ⟨_, _, by rw [hgs]; exact hr0, ?_⟩
                    have hI' := hI.set1 hrl (Keeps.refl _ w) (r := .arr T' te.size (List.take (0 + 0) [] ++ [] ++ List.drop (0 + 0 + ([] : List PV).length) [])) (by simpa using hI.held r _ hr) (fun T c h => (hnpr T c h).elim)
                    exact Post.of (f := fun v => v) hI (by rw [frMap_id]; exact hI') (Keeps.refl _ w) (fun i q h => .inl h) (fun i q _ h => h) (.vwn _ _ none _ (by rw [hI.en]; exact hrl) hnl hez' rfl) hk
                  · injection had' with hg _ hcc'
                    subst hg hcc'
                    have hxκ : xs.length ≤ E.κ r := by
                      rcases hrow with ⟨h1, _, _⟩ | ⟨_, _, h2, _⟩
                      · rw [hnl] at h1; cases h1
                      · exact h2
                    have hck : off + c = E.κ r := hc'
                    obtain ⟨w', h1, h2, h3⟩ := inplace hnl (by omega) (by omega) (by omega) ⟨g, rfl, ha⟩
                    refine ⟨_, _, h1, ?_⟩
                    have hF : ∀ q, F r q ↔ q = E.ρ r := by
                      rcases hrow with ⟨h1, _, _⟩ | ⟨_, hF, _⟩
                      · rw [hnl] at h1; cases h1
                      · exact hF
                    have hle := hI.le (F' := F) (touch h2) (fun i q h => .inl h)
                    have hlen' : (xs.take (off + n) ++ ys ++ xs.drop (off + n + ys.length)).length = xs.length := by simp; omega
                    have hI' := hI.set1 hrl h2 (r := .arr T' te.size (xs.take (off + n) ++ ys ++ xs.drop (off + n + ys.length))) ⟨hs0, (hwf.take.append hyw).append hwf.drop, by rw [hlen']; exact hlen, hez, .inr ⟨hnl, hF, h3 _ hle⟩⟩ (fun T c h => (hnpr T c h).elim)
                    refine Post.of (f := fun v => v) hI (by rw [frMap_id]; exact hI') (h2.mono fun q _ h => ⟨r, hX, h⟩) (fun i q h => .inl h) (fun i q _ h => h) ?_ hk
                    exact .vw _ _ off _ none g c hin hnl hc' hk' (by omega) (by omega) hez' ha
              · cases h
            · cases h
          · cases h
        · cases h
      · cases h
    · cases h
  · cases h
end Go.Lx
set_option linter.unusedSimpArgs false
set_option linter.unusedVariables false
namespace Go.Lx
open Go
open Go.Sx (NP Keeps Hp Keep0 TI TEnv TOk Kd Ar ArEq kdInt vcIf FOk kdOf kdInt fillC)
def acAlloc (E : TEnv) (T : TypeId) (st : St) (k : V → List Res → (V → V) → Prop) : Option Prop :=
  match E.get T with
  | some ti => match zeroV ti with
    | some z => some (k (.own st.own.length 0) (st.own ++ [.st T z]) fun v => v)
    | none => none
  | none => none
def acBox (T : TypeId) (x : Operand) (st : St) (k : V → List Res → (V → V) → Prop) : Option Prop :=
  match ev st.fr x with
  | some v => match allOne v.cells with
    | true => some (k (.own st.own.length 0) (st.own ++ [.st T v.cells]) fun v => v)
    | false => none
  | none => none
theorem Post.newSt {B : Base} {st : St} {E : Ev} {F : Nat → NP} {a : Act} {w : World} {X : Nat → Bool} (hI : Inv B st E F a w) (T : TypeId) {cells : List V} {vals : List Value} (h : DenL ⟨nowM B F, w⟩ E cells vals) {k : V → List Res → (V → V) → Prop}
    (hk : k (.own st.own.length 0) (st.own ++ [.st T cells]) fun v => v) : Post B st F a w X k (.pointer (some ⟨w.heap.size, 0, none⟩)) (w.alloc (.cells vals.toArray T)) := by
  have hI' := hI.newSt T h
  refine Post.of (f := fun v => v) hI (by rw [frMap_id]; exact hI') (keepsNone (Keep0.alloc w _)) (fun i q h => ?_) (fun i q _ h => ?_) ?_ hk
  · by_cases hi : i = st.own.length
    · subst hi; rw [pushF_self] at h; exact .inr (Nat.le_of_eq h.symm)
    · rw [pushF_ne i hi] at h; exact .inl h
  · rw [pushF_ne i (by rintro rfl; exact hI.low _ (Nat.le_refl _) q h)]; exact h
  · have : (E.push w.heap.size 0 0 0 false).ρ st.own.length = w.heap.size := by simp [Ev.push, hI.en]
    have h2 := V.Den.own (H := ⟨nowM B (pushF F st.own.length fun k => k = w.heap.size), w.alloc (.cells vals.toArray T)⟩) (E := E.push w.heap.size 0 0 0 false) st.own.length 0 (by simp [Ev.push, hI.en])
    rw [this] at h2; exact h2
theorem acAlloc_ok {P : Program} {TE : TEnv} (hE : TOk P TE) {X : Nat → Bool} {T : TypeId} {st : St} {k : V → List Res → (V → V) → Prop} {φ : Prop} (h : acAlloc TE T st k = some φ) (hφ : φ)
    {B : Base} {E : Ev} {F : Nat → NP} {a : Act} {w : World} (hI : Inv B st E F a w) {o : Oper} (ho : o.op = .alloc T) : ∃ x w', (execOp a.eval o).run P w = .ok (.value x) w' ∧ Post B st F a w X k x w' := by
  unfold acAlloc at h
  split at h
  · rename_i ti hti
    obtain ⟨inf, d, his⟩ := hE.get hti
    split at h
    · rename_i z hz
      cases h
      obtain ⟨zv, hz1, hz2, hz3⟩ := zero_size his hz
      obtain ⟨zl, hz4, hz5⟩ := zeroV_den (H := ⟨nowM B F, w⟩) (E := E) hz
      rw [hz2] at hz4; cases hz4
      refine ⟨_, _, ?_, Post.newSt hI T hz5 hφ⟩
      simp only [execOp, ho]
      refine Sx.run_v ?_
      simp [Instr.alloc, zeroValue, Sem.run_bind, Sx.Is.run_info his, hz1, newVar, newRow, run_newObj]
    · cases h
  · cases h
theorem acBox_ok {P : Program} {X : Nat → Bool} {T : TypeId} {x : Operand} {st : St} {k : V → List Res → (V → V) → Prop} {φ : Prop} (h : acBox T x st k = some φ) (hφ : φ)
    {B : Base} {E : Ev} {F : Nat → NP} {a : Act} {w : World} (hI : Inv B st E F a w) {o : Oper} (ho : o.op = .box T x) : ∃ x w', (execOp a.eval o).run P w = .ok (.value x) w' ∧ Post B st F a w X k x w' := by
  unfold acBox at h
  split at h
  · rename_i v hv
    split at h
    · rename_i ho1
      cases h
      obtain ⟨hd, _⟩ := (hI.ev hv).cells ho1
      refine ⟨_, _, ?_, Post.newSt hI T hd hφ⟩
      simp only [execOp, ho]
      refine Sx.run_v ?_
      simp [Instr.box, Sem.run_bind, newVar, newRow, run_newObj]
    · cases h
  · cases h
/-! Literals -/
def chunk (agg : Bool) (sz : Nat) : Nat → List PV → Option (List PV)
  | 0, _ => some []
  | n + 1, l => match agg with
    | true => match chunk agg sz n (l.drop sz) with
      | some r => some (.agg (l.take sz) :: r)
      | none => none
    | false => match l with
      | x :: l' => match chunk agg sz n l' with
        | some r => some (x :: r)
        | none => none
      | [] => none
def onesP : List PV → Bool
  | [] => true
  | x :: r => match x.one with
    | true => onesP r
    | false => false
theorem onesP_mem : ∀ {l : List PV}, onesP l = true → ∀ u ∈ l, u.one = true
  | [], _, u, hu => by cases hu
  | x :: r, h, u, hu => by
    simp only [onesP] at h
    split at h
    · rename_i hx
      rcases List.mem_cons.1 hu with c | c
      · rw [c]; exact hx
      · exact onesP_mem h u c
    · cases h
theorem chunk_ok {agg : Bool} {sz : Nat} (hs : agg = false → sz = 1) : ∀ {n : Nat} {l zs : List PV}, chunk agg sz n l = some zs → l.length = n * sz → (∀ u ∈ l, u.one = true) → flat zs = l ∧ Wf sz zs ∧ zs.length = n
  | 0, l, zs, h, hl, ho => by
    simp [chunk] at h; subst h
    exact ⟨by simp at hl; simp [flat, hl], Wf.nil, rfl⟩
  | n + 1, l, zs, h, hl, ho => by
    rw [Nat.succ_mul] at hl
    simp only [chunk] at h
    split at h
    · split at h
      · rename_i r hr
        cases h
        obtain ⟨h1, h2, h3⟩ := chunk_ok hs hr (by simp; omega) fun u hu => ho u (List.mem_of_mem_drop hu)
        refine ⟨by rw [flat, h1]; show l.take sz ++ l.drop sz = l; exact List.take_append_drop _ _, fun x hx => ?_, by simp [h3]⟩
        rcases List.mem_cons.1 hx with c | c
        · subst c; exact ⟨by show (l.take sz).length = sz; simp; omega, fun u hu => ho u (List.mem_of_mem_take (show u ∈ l.take sz from hu))⟩
        · exact h2 x c
      · cases h
    · have hs1 := hs rfl
      subst hs1
      split at h
      · rename_i x l'
        split at h
        · rename_i r hr
          cases h
          obtain ⟨h1, h2, h3⟩ := chunk_ok hs hr (by simp at hl; omega) fun u hu => ho u (by simp [hu])
          have hx1 := ho x (by simp)
          have hxc : x.cells = [x] := by cases x <;> first | rfl | cases hx1
          refine ⟨by rw [flat, h1, hxc]; rfl, fun y hy => ?_, by simp [h3]⟩
          rcases List.mem_cons.1 hy with c | c
          · subst c; exact ⟨by rw [hxc]; rfl, fun u hu => by rw [hxc] at hu; simp at hu; rw [hu]; exact hx1⟩
          · exact h2 y c
        · cases h
      · cases h
def repV (z : List V) : Nat → List V
  | 0 => []
  | n + 1 => z ++ repV z n
def litFlds (size : Nat) : Nat → Nat → List (Nat × Nat × Nat × Bool)
  | _, 0 => []
  | i, n + 1 => (i * size, 0, size, false) :: litFlds size (i + 1) n
theorem litFlds_get (size : Nat) : ∀ (n i j : Nat), (litFlds size i n)[j]? = if j < n then some ((i + j) * size, 0, size, false) else none
  | 0, i, j => by simp [litFlds]
  | n + 1, i, 0 => by simp [litFlds]
  | n + 1, i, j + 1 => by
    simp only [litFlds, List.getElem?_cons_succ, litFlds_get size n (i + 1) j, Nat.succ_lt_succ_iff]
    split
    · congr 2; rw [show i + 1 + j = i + (j + 1) by omega]
    · rfl
inductive LitAs where
  | b (x : Bool)
  | room
instance : Coe Bool LitAs := ⟨LitAs.b⟩
def acLit (E : TEnv) (t : TypeId) (len : Nat) (parts : Array (Nat × Operand)) (st : St) (k : V → List Res → (V → V) → Prop) : Option Prop :=
  match E.get t with
  | some ti => match ti.kd with
    | .slice e => match E.get e with
      | some te => match zeroV te, evParts st.fr parts.toList, Nat.blt 0 te.size, Nat.ble (len * te.size) 16777216 with
        | some z, some l, true, true => match Nat.beq z.length te.size, fillV (litFlds te.size 0 len) (repV z len) l with
          | true, some cs => match plains cs with
            | some fs => match onesP fs, chunk te.agg te.size len fs, te.agg || Nat.beq te.size 1 with
              | true, some zs, true => some (∃ b : LitAs, match b with
                | .b true => k (.vw st.own.length te.size 0 len none) (st.own ++ [.arr e te.size zs]) fun v => v
                | .b false => k (.p (.sl zs)) st.own fun v => v
                | .room => k (.vw st.own.length te.size 0 len (some len)) (st.own ++ [.arr e te.size zs]) fun v => v)
              | _, _, _ => none
            | none => none
          | _, _ => none
        | _, _, _, _ => none
      | none => none
    | _ => none
  | none => none
theorem repV_den {H : Hp} {E : Ev} {z : List V} {zl : List Value} (h : DenL H E z zl) : ∀ n, DenL H E (repV z n) ((List.range n).flatMap fun _ => zl)
  | 0 => by simp [repV]; exact DenL.nil
  | n + 1 => by
    have e : (List.range (n + 1)).flatMap (fun _ => zl) = zl ++ (List.range n).flatMap fun _ => zl := by
      rw [List.range_succ_eq_map]; simp [List.flatMap_cons, List.flatMap_map]
    rw [e]; exact h.append (repV_den h n)
theorem acLit_ok {P : Program} {TE : TEnv} (hE : TOk P TE) {X : Nat → Bool} {t : TypeId} {len : Nat} {parts : Array (Nat × Operand)} {st : St} {k : V → List Res → (V → V) → Prop} {φ : Prop} (h : acLit TE t len parts st k = some φ) (hφ : φ)
    {B : Base} {E : Ev} {F : Nat → NP} {a : Act} {w : World} (hI : Inv B st E F a w) {o : Oper} (ho : o.op = .buildSlice t len parts) : ∃ x w', (execOp a.eval o).run P w = .ok (.value x) w' ∧ Post B st F a w X k x w' := by
  unfold acLit at h
  split at h
  · rename_i ti hti
    obtain ⟨inf, d, his⟩ := hE.get hti
    split at h
    · rename_i e hkd
      have := kd_slice his hkd; subst this
      split at h
      · rename_i te hte
        obtain ⟨inf', d', his'⟩ := hE.get hte
        split at h
        · rename_i z l hz hl hs0 hcap
          have hs0 : 0 < te.size := Nat.lt_of_succ_le (Nat.le_of_ble_eq_true hs0)
          have hcap := Nat.le_of_ble_eq_true hcap
          split at h
          · rename_i cs hzl hcs
            have hzl := Nat.eq_of_beq_eq_true hzl
            split at h
            · rename_i fs hfs
              split at h
              · rename_i zs ho1 hch hag
                cases h
                obtain ⟨zv, hz1, hz2, hz3⟩ := zero_size his' hz
                obtain ⟨zl', hz4, hz5⟩ := zeroV_den (H := ⟨nowM B F, w⟩) (E := E) hz
                rw [hz2] at hz4; cases hz4
                have hparts : DenP ⟨nowM B F, w⟩ E l (parts.map fun (i, x) => (i, a.eval x)).toList := by
                  rw [Array.toList_map]; exact evParts_ok hI hl
                obtain ⟨vals, hv1, hv2⟩ := fillV_ok hparts (repV_den hz5 len) hcs
                rw [plains_eq hfs] at hv2
                obtain ⟨hv3, hv4⟩ := hv2.plain
                have hzvl : zv.cells.toList.length = te.size := by rw [← hzl, hz3]; simp
                have hcsl : ∀ {ps : List (Nat × V)} {c c' : List V}, fillV (litFlds te.size 0 len) c ps = some c' → c'.length = c.length := by
                  intro ps
                  induction ps with
                  | nil => intro c c' h; simp [fillV] at h; rw [h]
                  | cons p ps ih =>
                    intro c c' h
                    obtain ⟨i, x⟩ := p
                    simp only [fillV] at h
                    split at h
                    · split at h
                      · rename_i h1 h2 h3
                        have h1 := Nat.eq_of_beq_eq_true h1
                        have h2 := Nat.le_of_ble_eq_true h2
                        rw [ih h]; simp [h1]; omega
                      · cases h
                    · cases h
                have hfl : fs.length = len * te.size := by
                  have h1 := hcsl hcs
                  rw [plains_eq hfs] at h1
                  have h2 := (repV_den hz5 len).1
                  have h3 : ((List.range len).flatMap fun _ => zv.cells.toList).length = len * te.size := by
                    have : ∀ m, ((List.range m).flatMap fun _ => zv.cells.toList).length = m * te.size := by
                      intro m; induction m with
                      | zero => simp
                      | succ m ih => rw [List.range_succ, List.flatMap_append, List.length_append, ih, Nat.succ_mul]; simp [hzvl]
                    exact this len
                  rw [h3] at h2
                  simp at h1; omega
                obtain ⟨c1, c2, c3⟩ := chunk_ok (fun h => by rw [h] at hag; simpa using hag) hch hfl (onesP_mem ho1)
                have hfill := Sx.fill_fillC (place := fun i => if i < len then some (i * te.size, te.size) else none) (flds := litFlds te.size 0 len) (by
                  intro i; rw [litFlds_get]; by_cases hi : i < len <;> simp [hi]) _ _ vals hv1
                have hpl : ∀ (ps : List (Nat × Value)) (cs : Array Value) (out : Array Value), Instr.fill (fun i => if i < len then some (i * te.size, te.size) else none) cs ps = some out → Instr.fill (fun i => some (i * te.size, te.size)) cs ps = some out := by
                  intro ps
                  induction ps with
                  | nil => intro cs out h; exact h
                  | cons p ps ih =>
                    intro cs out h
                    obtain ⟨i, x⟩ := p
                    simp only [Instr.fill] at h ⊢
                    by_cases hi : i < len
                    · simp only [hi, if_true] at h
                      split at h
                      · cases h
                      · rename_i hh
                        rw [if_neg hh]
                        exact ih _ _ h
                    · simp [hi] at h
                have hfill' := hpl _ _ _ hfill
                have hzc : (Array.map (fun x => zv.cells[x % zv.cells.size]!) (Array.range (len * te.size))) = ((List.range len).flatMap fun _ => zv.cells.toList).toArray := by
                  have key : ∀ n, (List.range (n * te.size)).map (fun i => zv.cells[i % zv.cells.size]!) = (List.range n).flatMap fun _ => zv.cells.toList := by
                    have hzs : zv.cells.size = te.size := by simpa using hzvl
                    intro n
                    induction n with
                    | zero => simp
                    | succ n ih =>
                      rw [Nat.succ_mul, List.range_add, List.map_append, ih, List.range_succ, List.flatMap_append]
                      congr 1
                      simp only [List.map_map, List.flatMap_cons, List.flatMap_nil, List.append_nil]
                      apply List.ext_getElem?
                      intro i
                      by_cases hi : i < te.size
                      · simp only [List.getElem?_map, List.getElem?_range hi, Option.map_some, Function.comp]
                        rw [hzs, Nat.add_comm, Nat.add_mul_mod_self_right, Nat.mod_eq_of_lt hi]
                        have : i < zv.cells.size := by omega
                        simp [this]
                      · rw [List.getElem?_eq_none (by simp; omega), List.getElem?_eq_none (by rw [hzvl]; omega)]
                  apply Array.ext'
                  rw [Array.toList_map, Array.toList_range, key]
                have hrun : (execOp a.eval o).run P w = .ok (.value (.slice (some ⟨w.heap.size, 0, none⟩) len len)) (w.alloc (.cells vals.toArray e)) := by
                  simp only [execOp, ho]
                  refine Sx.run_v ?_
                  have hcond : ¬ (len * te.size > 2 ^ 24) := by omega
                  simp only [Instr.buildSlice, Sem.run_bind, run_underlying his.und, Result.andThen_ok, Sx.Is.run_sizeOf his', hcond, if_false, Sem.run_pure]
                  by_cases hl0 : len * te.size = 0
                  · have hlen0 : len = 0 := by
                      rcases Nat.mul_eq_zero.1 hl0 with h | h
                      · exact h
                      · omega
                    subst hlen0
                    have hf0 : Instr.fill (fun i => some (i * te.size, te.size)) #[] (parts.map fun (i, x) => (i, a.eval x)).toList = some vals.toArray := by simpa using hfill'
                    simp only [Nat.zero_mul, if_true, Sem.run_bind, Sem.run_pure, Result.andThen_ok]
                    have er : (Array.range 0 : Array Nat) = #[] := rfl
                    have em : (Array.map (fun x => (#[] : Array Value)[x % (#[] : Array Value).size]!) (Array.range 0)) = #[] := by rw [er]; simp
                    rw [em, hf0]
                    simp [newRow]
                  · simp only [hl0, if_false, Sem.run_bind, zeroValue, Sx.Is.run_info his', Result.andThen_ok, hz1, Sem.run_pure]
                    rw [hzc, hfill']
                    simp [newRow]
                refine ⟨_, _, hrun, ?_⟩
                have hvl : vals.length = len * te.size := by rw [hv3, hfl]
                have hlm : len ≤ maxLen := by
                  have := Nat.le_mul_of_pos_right len hs0
                  unfold maxLen; omega
                obtain ⟨b, hb⟩ := hφ
                rcases b with b | _
                · cases b with
                  | true =>
                    have hI' := hI.newArr (T := e) (xs := zs) (κ := len) (Keep0.alloc w (.cells vals.toArray e)) (Nat.le_refl _) hs0 c2 (fun M hM => by
                      have hb := heap_alloc_new w (.cells vals.toArray e)
                      refine ArrAt.ofNew (cells := vals) (rest := []) (by rw [List.append_nil]; exact hb) (by omega) hlm (by rw [List.append_nil, hvl]; exact Nat.le_refl _) (by rw [c1, hv3]) fun j q v hq hv => ?_
                      rw [c1] at hq
                      exact (hv4 j q v hq hv).mono ⟨rfl, rfl, rfl, by simp, fun k hk hm => ⟨heap_alloc_old w _ hk.lt, fun c => by
                        rcases hM k c with c | c
                        · exact hm c
                        · have : k < w.heap.size := hk.lt
                          omega⟩⟩)
                    refine Post.of (f := fun v => v) hI (by rw [frMap_id]; exact hI') (keepsNone (Keep0.alloc w _)) (fun i q h => ?_) (fun i q _ h => ?_) ?_ hb
                    · by_cases hi : i = st.own.length
                      · subst hi; rw [pushF_self] at h; exact .inr (Nat.le_of_eq h.symm)
                      · rw [pushF_ne i hi] at h; exact .inl h
                    · rw [pushF_ne i (by rintro rfl; exact hI.low _ (Nat.le_refl _) q h)]; exact h
                    · refine .vw _ _ 0 _ none _ _ (by simp [Ev.push, hI.en]) (by simp [Ev.push, hI.en]) ?_ ?_ (Nat.le_refl _) (by simp [Ev.push, hI.en, c3]) (by simp [Ev.push, hI.en]) (.inl ?_)
                      · simp [Ev.push, hI.en]
                      · simp [Ev.push, hI.en]
                      · simp [Ev.push, hI.en]
                  | false =>
                    have hI' := hI.world (Keep0.alloc w (.cells vals.toArray e))
                    have hle := hI.le (F' := F) (keepsNone (Keep0.alloc w (.cells vals.toArray e))) (fun i q h => .inl h)
                    refine Post.of (f := fun v => v) hI (by rw [frMap_id]; exact hI') (keepsNone (Keep0.alloc w _)) (fun i q h => .inl h) (fun i q _ h => h) (.p _ _ ?_) hb
                    have key := PV.Den.sl (H := ⟨nowM B F, w.alloc (.cells vals.toArray e)⟩) zs w.heap.size 0 te.size len (fun j => vals.getD j undef) c2 ⟨by omega, hlm⟩
                      ⟨fun c => Nat.lt_irrefl _ (hI.nowBd _ c), by simp, _, e, (0, 0), heap_alloc_new w _, fun j u hu => by
                        rw [c1] at hu
                        have hlt : j < vals.length := by rw [hv3]; exact lt_of_some hu
                        simp [List.getD_eq_getElem?_getD, hlt]⟩ (fun j u hu => by
                        rw [c1] at hu
                        have hlt : j < vals.length := by rw [hv3]; exact lt_of_some hu
                        exact (hv4 j u _ hu (by rw [List.getD_eq_getElem?_getD, List.getElem?_eq_getElem hlt]; rfl)).mono hle)
                    rw [c3] at key; exact key
                · have hI' := hI.newArr (T := e) (xs := zs) (κ := len) (Keep0.alloc w (.cells vals.toArray e)) (Nat.le_refl _) hs0 c2 (fun M hM => by
                    have hb := heap_alloc_new w (.cells vals.toArray e)
                    refine ArrAt.ofNew (cells := vals) (rest := []) (by rw [List.append_nil]; exact hb) (by omega) hlm (by rw [List.append_nil, hvl]; exact Nat.le_refl _) (by rw [c1, hv3]) fun j q v hq hv => ?_
                    rw [c1] at hq
                    exact (hv4 j q v hq hv).mono ⟨rfl, rfl, rfl, by simp, fun k hk hm => ⟨heap_alloc_old w _ hk.lt, fun c => by
                      rcases hM k c with c | c
                      · exact hm c
                      · have : k < w.heap.size := hk.lt
                        omega⟩⟩)
                  refine Post.of (f := fun v => v) hI (by rw [frMap_id]; exact hI') (keepsNone (Keep0.alloc w _)) (fun i q h => ?_) (fun i q _ h => ?_) ?_ hb
                  · by_cases hi : i = st.own.length
                    · subst hi; rw [pushF_self] at h; exact .inr (Nat.le_of_eq h.symm)
                    · rw [pushF_ne i hi] at h; exact .inl h
                  · rw [pushF_ne i (by rintro rfl; exact hI.low _ (Nat.le_refl _) q h)]; exact h
                  · refine .vw _ _ 0 _ (some len) _ _ (by simp [Ev.push, hI.en]) (by simp [Ev.push, hI.en]) ?_ ?_ (Nat.le_refl _) (by simp [Ev.push, hI.en, c3]) (by simp [Ev.push, hI.en]) (.inl ?_)
                    · simp [Ev.push, hI.en]
                    · simp [Ev.push, hI.en]
                    · simp [Ev.push, hI.en]
              · cases h
            · cases h
          · cases h
        · cases h
      · cases h
    · cases h
  · cases h
end Go.Lx
set_option linter.unusedSimpArgs false
set_option linter.unusedVariables false
namespace Go.Lx
open Go
open Go.Sx (NP Keeps Hp Keep0 TI TEnv TOk Kd Ar ArEq kdInt vcIf FOk kdOf kdInt fillC)
theorem Post.newArr {B : Base} {st : St} {E : Ev} {F : Nat → NP} {a : Act} {w w' : World} {X : Nat → Bool} (hI : Inv B st E F a w) (hk : Keep0 w w') {T : TypeId} {sz : Nat} {xs : List PV} {κ n : Nat} (hsz : 0 < sz) (hw : Wf sz xs) (hn : n ≤ xs.length)
    (h : ∀ M, Hp.Le ⟨nowM B F, w⟩ ⟨M, w'⟩ → ArrAt ⟨M, w'⟩ w.heap.size κ T sz xs) {k : V → List Res → (V → V) → Prop} (hkk : k (.vw st.own.length sz 0 n none) (st.own ++ [.arr T sz xs]) fun v => v) :
    Post B st F a w X k (.slice (some ⟨w.heap.size, 0, none⟩) n κ) w' := by
  have hle : ∀ M, (∀ k, M k → nowM B F k ∨ w.heap.size ≤ k) → Hp.Le ⟨nowM B F, w⟩ ⟨M, w'⟩ := fun M hM =>
    ⟨hk.os, hk.tape, hk.output, hk.size, fun b hb hm => ⟨hk.block b hb.lt fun c => c, fun c => by
      rcases hM b c with c | c
      · exact hm c
      · have : b < w.heap.size := hb.lt
        omega⟩⟩
  have hI' := hI.newArr (T := T) (xs := xs) hk (Nat.le_refl _) hsz hw fun M hM => h M (hle M hM)
  have hxκ : xs.length ≤ κ := (h (nowM B F) (hle _ fun k h => .inl h)).1
  refine Post.of (f := fun v => v) hI (by rw [frMap_id]; exact hI') (keepsNone hk) (fun i q h => ?_) (fun i q _ h => ?_) ?_ hkk
  · by_cases hi : i = st.own.length
    · subst hi; rw [pushF_self] at h; exact .inr (Nat.le_of_eq h.symm)
    · rw [pushF_ne i hi] at h; exact .inl h
  · rw [pushF_ne i (by rintro rfl; exact hI.low _ (Nat.le_refl _) q h)]; exact h
  · refine .vw _ _ 0 _ none _ _ (by simp [Ev.push, hI.en]) (by simp [Ev.push, hI.en]) ?_ ?_ (by omega) (by simp [Ev.push, hI.en]; omega) (by simp [Ev.push, hI.en]) (.inl ?_)
    · simp [Ev.push, hI.en]
    · simp [Ev.push, hI.en]
    · simp [Ev.push, hI.en]
def acStrB (E : TEnv) (src dst : TypeId) (x : Operand) (st : St) (k : V → List Res → (V → V) → Prop) : Option Prop :=
  match E.get src, E.get dst, ev st.fr x with
  | some ts, some td, some (.p (.str s)) => match ts.kd, td.kd with
    | .str, .slice e => match E.get e with
      | some te => match te.kd with
        | .int .u8 => some (∃ _ : Unit, s.length ≤ maxLen ∧ ∀ bs, bs = bP s → k (.p (.sl bs)) st.own fun v => v)
        | _ => none
      | none => none
    | _, _ => none
  | _, _, _ => none
theorem acStrB_ok {P : Program} {TE : TEnv} (hE : TOk P TE) {X : Nat → Bool} {src dst : TypeId} {x : Operand} {st : St} {k : V → List Res → (V → V) → Prop} {φ : Prop} (h : acStrB TE src dst x st k = some φ) (hφ : φ)
    {B : Base} {E : Ev} {F : Nat → NP} {a : Act} {w : World} (hI : Inv B st E F a w) {o : Oper} (ho : o.op = .convert src dst x) : ∃ x w', (execOp a.eval o).run P w = .ok (.value x) w' ∧ Post B st F a w X k x w' := by
  unfold acStrB at h
  split at h
  · rename_i ts td s hs hd hx
    obtain ⟨i1, d1, h1⟩ := hE.get hs
    obtain ⟨i3, d3, h3⟩ := hE.get hd
    split at h
    · rename_i e hks hkd
      split at h
      · rename_i te hte
        obtain ⟨i2, d2, h2⟩ := hE.get hte
        split at h
        · rename_i hke
          cases h
          have := kd_str h1 hks; subst this
          have := kd_slice h3 hkd; subst this
          have := kd_int h2 hke; subst this
          obtain ⟨_, hl, hφ⟩ := hφ
          have hφ := hφ _ rfl
          have hk := Keep0.drewAlloc w (.cells (bytesRow ⟨s.toArray⟩ (grownCap w (⟨s.toArray⟩ : ByteArray).size 0 e)) e ((bytesRow ⟨s.toArray⟩ (grownCap w (⟨s.toArray⟩ : ByteArray).size 0 e)).size, (bytesRow ⟨s.toArray⟩ (grownCap w (⟨s.toArray⟩ : ByteArray).size 0 e)).size + 1))
          have hr := run_bytes_of_string (P := P) w src dst e ⟨s.toArray⟩ h1.und h3.und h2.und
          refine ⟨_, _, by simp only [execOp, ho]; exact Sx.run_v (by rw [(hI.ev hx).str_inv]; exact hr), ?_⟩
          have hI' := hI.world hk
          refine Post.of (f := fun v => v) hI (by rw [frMap_id]; exact hI') (keepsNone hk) (fun i q h => .inl h) (fun i q _ h => h) (.p _ _ ?_) hφ
          have hge := grownCap_ge w (⟨s.toArray⟩ : ByteArray).size 0 e
          have hm := grownCap_le_maxLen w (⟨s.toArray⟩ : ByteArray).size 0 e (by rw [str_size]; exact hl)
          rw [str_size] at hge hm ⊢
          have key := PV.Den.sl (H := ⟨nowM B F, _⟩) (bP s) w.heap.size 0 1 (grownCap w s.length 0 e) (fun j => .int .u8 ((s.getD j 0).toNat : Int)) (bP_wf s) ⟨by rw [bP_length]; exact hge, hm⟩
            ⟨fun c => Nat.lt_irrefl _ (hI.nowBd _ c), by show w.heap.size < (w.heap.push _).size; simp, _, e, _, heap_alloc_new w.drew (.cells (bytesRow ⟨s.toArray⟩ (grownCap w s.length 0 e)) e ((bytesRow ⟨s.toArray⟩ (grownCap w s.length 0 e)).size, (bytesRow ⟨s.toArray⟩ (grownCap w s.length 0 e)).size + 1)), fun j u hu => by
              rw [bP_flat] at hu
              have hlt : j < s.length := by have := lt_of_some hu; rwa [bP_length] at this
              rw [Nat.zero_add, bytesRow_at _ _ j (by simpa using hlt)]
              simp [List.getD_eq_getElem?_getD, hlt]⟩ (fun j u hu => by
              rw [bP_flat] at hu
              have hlt : j < s.length := by have := lt_of_some hu; rwa [bP_length] at this
              rw [bP_eq, List.getElem?_map, List.getElem?_eq_getElem hlt] at hu
              cases hu
              have : s.getD j 0 = s[j] := by simp [List.getD_eq_getElem?_getD, hlt]
              rw [this]; exact .int _ _)
          rw [bP_length] at key
          exact key
        · cases h
      · cases h
    · cases h
  · cases h
def elemV (agg : Bool) (z : List V) : Option PV :=
  match plains z with
  | some l => match agg, l with
    | true, l => some (.agg l)
    | false, [x] => some x
    | false, _ => none
  | none => none
def acMake (E : TEnv) (t : TypeId) (l c : Operand) (st : St) (k : V → List Res → (V → V) → Prop) : Option Prop :=
  match E.get t with
  | some ti => match ti.kd with
    | .slice e => match E.get e with
      | some te => match zeroV te, Nat.blt 0 te.size, ev st.fr l, ev st.fr c with
        | some z, true, some (.p (.int _ li)), some (.p (.int _ ci)) => match elemV te.agg z, Nat.beq z.length te.size with
          | some y, true => some (∃ l c : Nat, li = l ∧ ci = c ∧ y.wf te.size ∧ l ≤ c ∧ te.bytes * c ≤ 281474976710656 ∧ c ≤ maxLen ∧ ∀ zs, zs = List.replicate c y → k (.vw st.own.length te.size 0 l none) (st.own ++ [.arr e te.size zs]) fun v => v)
          | _, _ => none
        | _, _, _, _ => none
      | none => none
    | _ => none
  | none => none
theorem flat_rep {y : PV} {sz : Nat} (hy : y.cells.length = sz) (hs : 0 < sz) : ∀ (c j : Nat) (u : PV), (flat (List.replicate c y))[j]? = some u → y.cells[j % sz]? = some u
  | 0, j, u, h => by simp [flat] at h
  | c + 1, j, u, h => by
    rw [List.replicate_succ, flat] at h
    by_cases hj : j < sz
    · rw [List.getElem?_append_left (by omega)] at h
      rw [Nat.mod_eq_of_lt hj]; exact h
    · rw [List.getElem?_append_right (by omega), hy] at h
      have := flat_rep hy hs c (j - sz) u h
      rw [Nat.mod_eq_sub_mod (by omega)]; exact this
theorem acMake_ok {P : Program} {TE : TEnv} (hE : TOk P TE) {X : Nat → Bool} {t : TypeId} {lo co : Operand} {st : St} {k : V → List Res → (V → V) → Prop} {φ : Prop} (h : acMake TE t lo co st k = some φ) (hφ : φ)
    {B : Base} {E : Ev} {F : Nat → NP} {a : Act} {w : World} (hI : Inv B st E F a w) {o : Oper} (ho : o.op = .makeSlice t lo co) : ∃ x w', (execOp a.eval o).run P w = .ok (.value x) w' ∧ Post B st F a w X k x w' := by
  unfold acMake at h
  split at h
  · rename_i ti hti
    obtain ⟨inf, d, his⟩ := hE.get hti
    split at h
    · rename_i e hkd
      have := kd_slice his hkd; subst this
      split at h
      · rename_i te hte
        obtain ⟨inf', d', his'⟩ := hE.get hte
        split at h
        · rename_i z kl li kc ci hz hs0 hlo hco
          have hs0 : 0 < te.size := Nat.lt_of_succ_le (Nat.le_of_ble_eq_true hs0)
          split at h
          · rename_i y hy hzl
            have hzl := Nat.eq_of_beq_eq_true hzl
            cases h
            obtain ⟨l, c, rfl, rfl, hyw, hlc, hb, hm, hk⟩ := hφ
            have hk := hk _ rfl
            obtain ⟨zv, hz1, hz2, hz3⟩ := zero_size his' hz
            obtain ⟨zl', hz4, hz5⟩ := zeroV_den (H := ⟨nowM B F, w⟩) (E := E) hz
            rw [hz2] at hz4; cases hz4
            have hyc : ∀ (j : Nat) (u : PV) (v : Value), y.cells[j]? = some u → zv.cells.toList[j]? = some v → PV.Den ⟨nowM B F, w⟩ u v := by
              unfold elemV at hy
              split at hy
              · rename_i pl hpl
                rw [plains_eq hpl] at hz5
                obtain ⟨_, g2⟩ := hz5.plain
                split at hy
                · cases hy; exact g2
                · rename_i x _
                  cases hy
                  intro j u v hu hv
                  have hx1 : y.cells = [y] := by
                    have := hyw.1
                    cases y with
                    | agg cs =>
                      have h1 := plains_eq hpl
                      have : zv.cells.toList.length = 1 := by rw [hz5.1]; rfl
                      have hd := g2 0 (.agg cs) zv.cells.toList[0] rfl (by simp [List.getElem?_eq_getElem, this])
                      exfalso
                      unfold zeroV at hz
                      rw [hz2] at hz
                      split at hz
                      · rename_i zz hzz
                        cases hzz
                        split at hz
                        · rename_i l' hl'
                          cases hz
                          rw [mapP_eq] at h1
                          have h2 : l' = [.agg cs] := by
                            have := congrArg (List.map fun v => match v with | V.p x => x | _ => PV.nils) h1
                            simpa [Function.comp_def] using this
                          have := pvs_one hl' (.agg cs) (by rw [h2]; simp)
                          cases this
                        · cases hz
                      · cases hz
                    | _ => rfl
                  rw [hx1] at hu
                  exact g2 j u v hu hv
                · cases hy
              · cases hy
            have hms : maxLen = 9223372036854775807 := rfl
            have hb2 : (inf'.bytes : Int) * (c : Int) ≤ 281474976710656 := by
              have h : ((te.bytes * c : Nat) : Int) ≤ 281474976710656 := by omega
              rw [Int.natCast_mul, his'.bytes] at h; exact h
            have hr := run_make (P := P) w t e inf' zv his.und his'.info hz1 kl kc l c (by omega) (by omega) hb2 (by omega)
            refine ⟨_, _, by simp only [execOp, ho]; exact Sx.run_v (by rw [(hI.ev hlo).int_inv, (hI.ev hco).int_inv]; exact hr), ?_⟩
            simp only [Int.toNat_natCast]
            have hzs : zv.cells.size = te.size := by rw [← hz3, hzl]
            refine Post.newArr hI (Keep0.alloc w _) hs0 (fun x hx => by rw [List.eq_of_mem_replicate hx]; exact hyw) (by simpa using hlc) (fun M hle => ?_) hk
            have hwr : Wf te.size (List.replicate c y) := fun x hx => by rw [List.eq_of_mem_replicate hx]; exact hyw
            have hfl : (flat (List.replicate c y)).length = c * te.size := by rw [flat_length hwr]; simp
            refine ArrAt.ofNew (cells := (madeCells zv.cells (c * inf'.size)).toList) (rest := []) (by rw [List.append_nil, Array.toArray_toList]; exact heap_alloc_new w _) (by rw [List.length_replicate]; exact Nat.le_refl _) hm (by rw [List.append_nil, Array.length_toList, size_madeCells, ← his'.size]; exact Nat.le_refl _) (by rw [Array.length_toList, size_madeCells, hfl, ← his'.size]) fun j q v hq hv => ?_
            have hj : j < c * te.size := by rw [← hfl]; exact lt_of_some hq
            have hq' := flat_rep hyw.1 hs0 c j q hq
            have hjm : j % te.size < te.size := Nat.mod_lt _ hs0
            have hv' : zv.cells.toList[j % te.size]? = some v := by
              have e1 : (madeCells zv.cells (c * inf'.size)).toList[j]? = some zv.cells[j % zv.cells.size]! := by
                rw [← his'.size]; simp [madeCells, hj]
              rw [e1] at hv
              cases hv
              rw [hzs]
              have : j % te.size < zv.cells.size := by omega
              simp [this]
            exact (hyc _ q v hq' hv').mono hle
          · cases h
        · cases h
      · cases h
    · cases h
  · cases h
def ac (L : Lr) (E : TEnv) (X : Nat → Bool) (op : Op) (st : St) (k : V → List Res → (V → V) → Prop) : Option Prop :=
  match op with
  | .alloc T => acAlloc E T st k
  | .box T x => acBox T x st k
  | .store T x y => acStore E X T x y st k
  | .buildSlice t len parts => acLit E t len parts st k
  | .makeSlice t l c => acMake E t l c st k
  | .convert src dst x => acStrB E src dst x st k
  | .call { callee := .builtin .append, args := args, argTypes := ts } => match args.toList, ts.toList with
    | [s, x], [t, u] => acAppend E X t u s x st k
    | _, _ => none
  | _ => none
end Go.Lx
set_option linter.unusedSimpArgs false
set_option linter.unusedVariables false
namespace Go.Lx
open Go
open Go.Sx (NP Keeps Hp Keep0 TI TEnv TOk Kd Ar ArEq kdInt vcIf FOk kdOf resOf resUpon gslot dstOk)
theorem resOf_value {P : Program} {o : Oper} {a : Act} {w w' : World} {R : Value → World → Prop} {x : Value} (h : (execOp a.eval o).run P w = .ok (.value x) w') (hr : R x w') : resOf P o a w R := by
  unfold resOf; rw [h]; exact hr
theorem resOf_skip {P : Program} {o : Oper} {a : Act} {w w' : World} {R : Value → World → Prop} (h : (execOp a.eval o).run P w = .ok .skip w') (hr : R undef w') : resOf P o a w R := by
  unfold resOf; rw [h]; exact hr
theorem ac_ok {P : Program} {TE : TEnv} (hE : TOk P TE) {X : Nat → Bool} {st : St} {k : V → List Res → (V → V) → Prop} {φ : Prop} {o : Oper} (h : ac .std TE X o.op st k = some φ) (hφ : φ)
    {B : Base} {E : Ev} {F : Nat → NP} {a : Act} {w : World} (hI : Inv B st E F a w) : resOf P o a w (Post B st F a w X k) := by
  have val : (∃ x w', (execOp a.eval o).run P w = .ok (.value x) w' ∧ Post B st F a w X k x w') → resOf P o a w (Post B st F a w X k) := fun ⟨x, w', h1, h2⟩ => resOf_value h1 h2
  unfold ac at h
  split at h
  · exact val (acAlloc_ok hE h hφ hI (by assumption))
  · exact val (acBox_ok h hφ hI (by assumption))
  · obtain ⟨w', h1, h2⟩ := acStore_ok hE h hφ hI (by assumption)
    exact resOf_skip h1 h2
  · exact val (acLit_ok hE h hφ hI (by assumption))
  · exact val (acMake_ok hE h hφ hI (by assumption))
  · exact val (acStrB_ok hE h hφ hI (by assumption))
  · rename_i args ts hop
    split at h
    · rename_i s x t u ha ht
      have ha' : args = #[s, x] := Array.toList_inj.1 ha
      have ht' : ts = #[t, u] := Array.toList_inj.1 ht
      subst ha' ht'
      obtain ⟨r, w', h1, h2⟩ := acAppend_ok (P := P) hE h hφ hI o.type
      refine resOf_value (x := r) (w' := w') ?_ h2
      simp only [execOp, hop, resolve, invoke, Go.builtin, Sem.run_bind, Sem.run_pure, Result.andThen_ok, List.map_toArray, List.map_cons, List.map_nil, h1]
    · cases h
  · cases h
def PostS (B : Base) (st : St) (F : Nat → NP) (a : Act) (w : World) (X : Nat → Bool) (k : V → St → Prop) (x : Value) (w' : World) : Prop :=
  ∃ v st' E' F', st'.n = st.n ∧ V.Den ⟨nowM B F', w'⟩ E' v x ∧ Inv B st' E' F' a w' ∧ Prot (DD B F X) w w' ∧ (∀ b, b < w.heap.size → DD B F X b → DD B F' X b) ∧ k v st'
theorem Post.s {B : Base} {st : St} {F : Nat → NP} {a : Act} {w w' : World} {X : Nat → Bool} {k : V → St → Prop} {x : Value} (h : Post B st F a w X (fun v own f => k v ⟨st.n, frMap f st.fr, own⟩) x w') : PostS B st F a w X k x w' := by
  obtain ⟨v, own', f, E', F', h1, h2, h3, h4, h5⟩ := h
  exact ⟨v, ⟨st.n, frMap f st.fr, own'⟩, E', F', rfl, h1, h2, h3, h4, h5⟩
def OpEv (B : Base) (P : Program) (o : Oper) (X : Nat → Bool) (st : St) (k : V → St → Prop) : Prop :=
  ∀ E F a w, Inv B st E F a w → resOf P o a w (PostS B st F a w X k)
def CallEv (B : Base) (P : Program) (f : FuncId) (args : List V) (X : Nat → Bool) (st : St) (k : V → St → Prop) : Prop :=
  ∀ E F a w (vals : List Value), Inv B st E F a w → DenL ⟨nowM B F, w⟩ E args vals → ((callFunc f vals.toArray).run P w = .ok (.enter f vals.toArray) w ∧ Calls P f vals.toArray w fun e w' => ∃ x, e = .returned x ∧ PostS B st F a w X k x w') ∨
    ∃ x w', (callFunc f vals.toArray).run P w = .ok (.value x) w' ∧ PostS B st F a w X k x w'
structure Wd where
  L : Lr
  op : Oper → (Nat → Bool) → St → (V → St → Prop) → Prop
  call : FuncId → List V → (Nat → Bool) → St → (V → St → Prop) → Prop
  code : Code → St → (Exit → St → Prop) → Prop
def callOf (fr : List (Nat × V)) : Op → Option (FuncId × List V)
  | .call { callee := .value f, args := args, argTypes := _ } => match ev fr f, evs fr args.toList with
    | some (.p (.fn g)), some l => some (g, l)
    | some (.fn g cs), some l => some (g, l ++ cs)
    | _, _ => none
  | _ => none
def vcAct (W : Wd) (E : TEnv) (o : Oper) (X : Nat → Bool) (st : St) (k : V → St → Prop) : Prop :=
  match ac W.L E X o.op st (fun v own f => k v ⟨st.n, frMap f st.fr, own⟩) with
  | some φ => φ
  | none => match callOf st.fr o.op with
    | some (f, args) => W.call f args X st k
    | none => W.op o X st k
def vcOp (W : Wd) (E : TEnv) (o : Oper) (X : Nat → Bool) (st : St) (k : V → St → Prop) : Prop :=
  match rd W.L E (fun _ => false) o.op st (fun v => k v st) with
  | some φ => φ
  | none => vcAct W E o X st k
def St.upd (st : St) (dst : Option Tmp) (v : V) : St :=
  ⟨st.n, match dst with | none => st.fr | some d => (d, v) :: st.fr, st.own⟩
def vcGuard (ops : List Oper) (o : Oper) (st : St) (run skip : St → Prop) : Prop :=
  match o.guard with
  | none => run st
  | some (j, want) => match gslot ops j with
    | none => False
    | some d => match look st.fr d with
      | some (.p (.bool b)) => vcIf b
          (fun _ => match want with
            | true => run { st with fr := (d, .p (.bool true)) :: st.fr }
            | false => skip { st with fr := (d, .p (.bool true)) :: st.fr })
          (fun _ => match want with
            | true => skip { st with fr := (d, .p (.bool false)) :: st.fr }
            | false => run { st with fr := (d, .p (.bool false)) :: st.fr })
      | some (.p (.tup _)) => skip st
      | _ => False
def allX : Nat → Bool := fun _ => true
def noX : Nat → Bool := fun _ => false
def vcOne (W : Wd) (E : TEnv) (ops : List Oper) (o : Oper) (st : St) (k : St → Prop) : Prop :=
  match dstOk st.n o.dst with
  | false => False
  | true => vcGuard ops o st (fun st1 => vcOp W E o allX st1 fun v st2 => k (st2.upd o.dst v)) (fun st1 => k (st1.upd o.dst unitV))
def vcOps (W : Wd) (E : TEnv) (ops : List Oper) (Q : St → Prop) : List Oper → St → Prop
  | [], st => Q st
  | o :: rest, st => vcOne W E ops o st (vcOps W E ops Q rest)
def QI (B : Base) (Q : Exit → St → Prop) (e : Exit) (a : Act) (w : World) : Prop := ∃ st E F, Inv B st E F a w ∧ Q e st
def WF (r : Option Nat) : Fence := { Fence.wide with round := r }
theorem WF.none : WF none = Fence.wide := rfl
abbrev wpA (r : Option Nat) (P : Program) (c : Code) (Q : Exit → Act → World → Prop) (a : Act) (w : World) : Prop := c.wpIn (WF r) 9 P Q a w
section rules
variable {r : Option Nat} {P : Program} {Q : Exit → Act → World → Prop} {a : Act} {w : World}
theorem wpA_mono {c : Code} {Q' : Exit → Act → World → Prop} (h : wpA r P c Q a w) (hq : ∀ e a w, Q e a w → Q' e a w) : wpA r P c Q' a w := wpIn_mono h hq
theorem wpA_skip (h : Q .normal a w) : wpA r P .skip Q a w := wpIn_skip h
theorem wpA_ret (h : Q .ret a w) : wpA r P .ret Q a w := wpIn_ret h
theorem wpA_exit {id : Nat} (h : Q (.exit id) a w) : wpA r P (.exit id) Q a w := wpIn_exit h
theorem wpA_label {l : Nat} (h : Q .normal a w) : wpA r P (.label l) Q a w := wpIn_label h
theorem wpA_goto {l : Nat} (h : Q (.goto l) a w) : wpA r P (.goto l) Q a w := wpIn_goto h
theorem wpA_seq {x y : Code} (h : wpA r P x (Exit.then (wpA r P y Q) Q) a w) : wpA r P (.seq x y) Q a w := wpIn_seq h
theorem wpA_cond_split {c : Operand} {x y : Code} {t : Bool} (hc : a.eval c = .bool t) (ht : t = true → wpA r P x Q a w) (hf : t = false → wpA r P y Q a w) : wpA r P (.cond c x y) Q a w :=
  wpIn_cond_split hc ht hf
theorem wpA_block {id : Nat} {c : Code} (h : wpA r P c (Exit.inBlock id Q) a w) : wpA r P (.block id c) Q a w := wpIn_block h
theorem wpA_loop_ghost {c : Code} (I : Nat → Act → World → Prop) (n₀ : Nat) (h₀ : I n₀ a w)
    (round : ∀ n a w, I n a w → wpA r P c (Exit.then (fun a' w' => ∃ n', n' < n ∧ I n' a' w') Q) a w) : wpA r P (.loop c) Q a w := by
  refine wpIn_loop (fun a w => ∃ n, I n a w) (fun a w => leastOf (fun n => I n a w)) ⟨n₀, h₀⟩ ?_
  intro a w hI
  refine wpIn_mono (round _ a w (leastOf_spec hI).1) ?_
  intro e a' w' hq
  cases e with
  | normal =>
    obtain ⟨n', hlt, hI'⟩ := hq
    exact show (∃ n, I n a' w') ∧ leastOf (fun n => I n a' w') < leastOf (fun n => I n a w) from ⟨⟨n', hI'⟩, Nat.lt_of_le_of_lt ((leastOf_spec ⟨n', hI'⟩).2 n' hI') hlt⟩
  | exit id => exact hq
  | goto l => exact hq
  | ret => exact hq
  | panic ch => exact hq
  | outgrown => exact hq
theorem resOf_wpA {o : Oper} {R : Value → World → Prop} {K : Act → World → Prop} (h : resOf P o a w R) (hk : ∀ v w', R v w' → K (a.put o.dst v) w') : o.wpIn (WF r) 9 P a w K Q := by
  have hnd : ∀ c, o.op ≠ .defer c := by
    intro c hc
    unfold resOf at h
    have e : execOp a.eval o = (do let d ← resolve a.eval c o.type; pure (.defer d)) := by simp only [execOp, hc]
    rw [e, Sem.run_bind] at h
    cases hr : (resolve a.eval c o.type).run P w with
    | ok d w' => rw [hr] at h; simp only [Result.andThen_ok, Sem.run_pure, resUpon] at h
    | halt x w' => rw [hr] at h; simp only [Result.andThen, resUpon] at h
  refine ⟨fun f _ => trivial, ?_⟩
  rw [Oper.semAt_eq _ _ _ hnd]
  unfold resOf at h
  generalize (execOp a.eval o).run P w = q at *
  cases q with
  | ok n w' =>
    cases n <;> simp only [resUpon] at h <;> simp only [Oper.uponIn]
    case value v => exact hk _ _ h
    case skip => exact hk _ _ h
    case enter f args =>
      refine ⟨fun _ => by decide, ?_⟩
      exact (callsIn_wide (n := 9 - 1)).2 (h.mono (fun e w'' ⟨v, he, hr⟩ => by subst he; exact hk _ _ hr))
  | halt x w' => simp only [resUpon] at h
abbrev wpListA (r : Option Nat) (P : Program) (ops : Array Oper) (Q : Exit → Act → World → Prop) (l : List Oper) (a : Act) (w : World) : Prop := wpListIn (WF r) 9 P ops Q l a w
theorem wpA_region_list {ops : Array Oper} {id : Nat} (h : wpListA r P ops Q ops.toList a w) : wpA r P (.region id ops false) Q a w := wpIn_region_list h
theorem wpListA_step {ops : Array Oper} {o : Oper} {rest : List Oper}
    (h : ∀ K : Act → World → Prop, (∀ a w, wpListA r P ops Q rest a w → K a w) → if Region.wanted o (yielded ops a.tmps) then o.wpIn (WF r) 9 P a w K Q else K (a.put o.dst undef) w) : wpListA r P ops Q (o :: rest) a w := by
  refine wpListIn_step fun K hK => ?_
  have := h K hK
  split
  · rename_i hw; rw [if_pos hw] at this; exact this
  · rename_i hw; rw [if_neg hw] at this; exact ⟨fun f _ => trivial, this⟩
end rules
def CodeEv (B : Base) (P : Program) (c : Code) (st : St) (Q : Exit → St → Prop) : Prop :=
  ∀ E F a w, Inv B st E F a w → wpA B.rn P c (QI B Q) a w
def vcC (W : Wd) (E : TEnv) (c : Code) (st : St) (Q : Exit → St → Prop) : Prop :=
  match c with
  | .skip => Q .normal st
  | .ret => Q .ret st
  | .exit id => Q (.exit id) st
  | .seq x y => vcC W E x st fun e st' => match e with
    | .normal => vcC W E y st' Q
    | .exit id => Q (.exit id) st'
    | .goto l => Q (.goto l) st'
    | .ret => Q .ret st'
    | .panic ch => Q (.panic ch) st'
    | .outgrown => Q .outgrown st'
  | .cond x t f => match ev st.fr x with
    | some (.p (.bool b)) => vcIf b (fun _ => vcC W E t st Q) (fun _ => vcC W E f st Q)
    | _ => False
  | .block id b => vcC W E b st fun e st' => match e with
    | .exit id' => match Nat.beq id' id with
      | true => Q .normal st'
      | false => Q (.exit id') st'
    | .normal => Q .normal st'
    | .goto l => Q (.goto l) st'
    | .ret => Q .ret st'
    | .panic ch => Q (.panic ch) st'
    | .outgrown => Q .outgrown st'
  | .region id ops d => match d with
    | false => vcOps W E ops.toList (Q .normal) ops.toList st
    | true => W.code (.region id ops true) st Q
  | .loop b => W.code (.loop b) st Q
  | .rangeFunc f ps x b => W.code (.rangeFunc f ps x b) st Q
  | .scope b => W.code (.scope b) st Q
  | .label _ => Q .normal st
  | .goto l => Q (.goto l) st
  | .refuse why => W.code (.refuse why) st Q
def Wd.std (B : Base) (P : Program) : Wd := ⟨Lr.std, OpEv B P, CallEv B P, CodeEv B P⟩
theorem callOf_ok {P : Program} {B : Base} {st : St} {E : Ev} {F : Nat → NP} {a : Act} {w : World} (hI : Inv B st E F a w) {o : Oper} {f : FuncId} {args : List V} (h : callOf st.fr o.op = some (f, args)) {X : Nat → Bool} {k : V → St → Prop}
    (hc : CallEv B P f args X st k) : resOf P o a w (PostS B st F a w X k) := by
  unfold callOf at h
  split at h
  · rename_i fo ao ts hop
    have fin : ∀ {caps : List Value} {l cs : List V}, a.eval fo = .func (.func f) #[] caps.toArray → evs st.fr ao.toList = some l → DenL ⟨nowM B F, w⟩ E cs caps → args = l ++ cs → resOf P o a w (PostS B st F a w X k) := by
      rintro caps l cs hf hl hcs rfl
      have hd := (evs_ok hI hl).append hcs
      have hrun : ∀ {n : Next} {w' : World}, (callFunc f (ao.toList.map a.eval ++ caps).toArray).run P w = .ok n w' → (execOp a.eval o).run P w = .ok n w' := by
        intro n w' h1
        have e1 : ao.map a.eval ++ caps.toArray = (ao.toList.map a.eval ++ caps).toArray := by
          apply Array.ext'; simp
        simp only [execOp, hop, resolve, hf, Deferred.ofValue, Sem.run_bind, Sem.run_pure, Result.andThen_ok, invoke, Array.empty_append, e1]
        exact h1
      rcases hc E F a w _ hI hd with ⟨h1, h2⟩ | ⟨x, w', h1, h2⟩
      · unfold resOf
        rw [hrun h1]
        exact h2
      · exact resOf_value (hrun h1) h2
    split at h
    · rename_i g l hg hl
      cases h
      have := hI.ev hg
      refine fin (caps := []) (cs := []) ?_ hl DenL.nil (by simp)
      generalize a.eval fo = x at this
      cases this with
      | p _ _ h => cases h <;> rfl
    · rename_i g cs l hg hl
      cases h
      have := hI.ev hg
      generalize hx : a.eval fo = x at this
      cases this with
      | fn _ _ xs hxl hh => exact fin (caps := xs.toList) (by rw [hx]) hl ⟨by simpa using hxl, fun i c v hc hv => hh i c v hc (by simpa using hv)⟩ rfl
    · cases h
  · cases h
theorem vcAct.ev {B : Base} {P : Program} {E : TEnv} {o : Oper} {X : Nat → Bool} {st : St} {k : V → St → Prop} (hE : TOk P E) (h : vcAct (.std B P) E o X st k) : OpEv B P o X st k := by
  intro Ev F a w hI
  unfold vcAct at h
  split at h
  · rename_i φ hφ
    exact (ac_ok hE hφ h hI).mono fun x w' hp => hp.s
  · split at h
    · rename_i f args hc
      exact callOf_ok hI hc h
    · exact h Ev F a w hI
theorem RdOk.res {P : Program} {B : Base} {st : St} {E : Ev} {F : Nat → NP} {a : Act} {w : World} {X X' : Nat → Bool} {o : Oper} {k : V → St → Prop} (hI : Inv B st E F a w) (h : RdOk P B st E F a w X' o fun v => k v st) : resOf P o a w (PostS B st F a w X k) := by
  obtain ⟨v, x, h1, h2, h3⟩ := h
  refine resOf_value (h1 w (Prot.refl _ _)) ?_
  exact ⟨v, st, E, F, rfl, h2, hI, Prot.refl _ _, fun _ _ h => h, h3⟩
theorem vcOp.ev {B : Base} {P : Program} {E : TEnv} {o : Oper} {X : Nat → Bool} {st : St} {k : V → St → Prop} (hE : TOk P E) (hF : FOk P E) (h : vcOp (.std B P) E o X st k) : OpEv B P o X st k := by
  unfold vcOp at h
  split at h
  · rename_i φ hφ
    intro Ev F a w hI
    exact RdOk.res hI (rd_ok hE hF hφ h hI)
  · exact vcAct.ev hE h
theorem Inv.updV {B : Base} {st : St} {E : Ev} {F : Nat → NP} {a : Act} {w : World} {v : V} {x : Value} {dst : Option Tmp} (h : Inv B st E F a w) (hv : V.Den ⟨nowM B F, w⟩ E v x) (hd : dstOk st.n dst = true) :
    Inv B (st.upd dst v) E F (a.put dst x) w := by
  cases dst with
  | none => exact h
  | some d => exact h.put hv (Nat.lt_of_succ_le (Nat.le_of_ble_eq_true hd))
theorem gslot_dst {ops : Array Oper} {j d : Nat} (hg : gslot ops.toList j = some d) : (ops[j]?).bind (·.dst) = some d := by
  unfold gslot at hg
  simp only [Array.getElem?_toList] at hg
  split at hg
  · rename_i o ho; rw [ho]; exact hg
  · cases hg
theorem look_yielded {B : Base} {st : St} {E : Ev} {F : Nat → NP} {a : Act} {w : World} (hI : Inv B st E F a w) {ops : Array Oper} {j d : Nat} {b : Bool} (hg : gslot ops.toList j = some d) (hl : look st.fr d = some (.p (.bool b))) : yielded ops a.tmps j = some b := by
  have h2 := (hI.slot d _ hl).bool_inv
  unfold yielded
  rw [gslot_dst hg]
  simp only [Option.bind_some]
  have h3 : a.tmps[d]? = some (.bool b) := by
    cases hd : a.tmps[d]? with
    | none => simp [Array.getD_eq_getD_getElem?, hd, undef] at h2
    | some x => simp [Array.getD_eq_getD_getElem?, hd] at h2; rw [h2]
  rw [h3]
theorem look_tuple {B : Base} {st : St} {E : Ev} {F : Nat → NP} {a : Act} {w : World} (hI : Inv B st E F a w) {ops : Array Oper} {j d : Nat} {b : List PV} (hg : gslot ops.toList j = some d) (hl : look st.fr d = some (.p (.tup b))) : yielded ops a.tmps j = none := by
  have h2 : ∃ xs, a.tmps.getD d undef = .tuple xs := by
    have := hI.slot d _ hl
    generalize a.tmps.getD d undef = y at this
    cases this with
    | p _ _ h => cases h; exact ⟨_, rfl⟩
  obtain ⟨xs, h2⟩ := h2
  unfold yielded
  rw [gslot_dst hg]
  simp only [Option.bind_some]
  cases hd : a.tmps[d]? with
  | none => rfl
  | some x =>
    have h3 : x = .tuple xs := by simpa [Array.getD_eq_getD_getElem?, hd] using h2
    rw [h3]
theorem Inv.lit {B : Base} {st : St} {E : Ev} {F : Nat → NP} {a : Act} {w : World} (hI : Inv B st E F a w) {d : Nat} {b : Bool} (hl : look st.fr d = some (.p (.bool b))) : Inv B { st with fr := (d, .p (.bool b)) :: st.fr } E F a w := by
  refine hI.weaken _ fun t v hv => ?_
  rw [look_cons] at hv
  split at hv
  · rename_i e; subst e; cases hv; exact hl
  · exact hv
theorem vcGuard.ok {B : Base} {ops : Array Oper} {o : Oper} {st : St} {run skip : St → Prop} (h : vcGuard ops.toList o st run skip) {E : Ev} {F : Nat → NP} {a : Act} {w : World} (hI : Inv B st E F a w) :
    ∃ fr', Inv B { st with fr := fr' } E F a w ∧ ((Region.wanted o (yielded ops a.tmps) = true ∧ run { st with fr := fr' }) ∨ (Region.wanted o (yielded ops a.tmps) = false ∧ skip { st with fr := fr' })) := by
  unfold vcGuard at h
  split at h
  · rename_i hg
    exact ⟨st.fr, hI, .inl ⟨by simp [Region.wanted, hg], h⟩⟩
  · rename_i j want hg
    split at h
    · exact h.elim
    · rename_i d hgs
      split at h
      · rename_i b hl
        have hy := look_yielded hI hgs hl
        have hw : Region.wanted o (yielded ops a.tmps) = (b == want) := by
          simp [Region.wanted, hg, hy]
        unfold vcIf at h
        refine ⟨_, hI.lit hl, ?_⟩
        rw [hw]
        cases b <;> cases want <;> simp only at h
        · exact .inl ⟨rfl, h⟩
        · exact .inr ⟨rfl, h⟩
        · exact .inr ⟨rfl, h⟩
        · exact .inl ⟨rfl, h⟩
      · rename_i tt hl
        have hy := look_tuple hI hgs hl
        exact ⟨st.fr, hI, .inr ⟨by simp [Region.wanted, hg, hy], h⟩⟩
      · exact h.elim
theorem unit_den {H : Hp} {E : Ev} : V.Den H E unitV undef := .p _ _ (.tup [] #[] rfl fun i c v h => by simp at h)
theorem vcOps.ok {B : Base} {P : Program} {E : TEnv} {ops : Array Oper} {Q : Exit → St → Prop} (hE : TOk P E) (hF : FOk P E) : ∀ (l : List Oper) (st : St), vcOps (.std B P) E ops.toList (Q .normal) l st →
    ∀ Ev F a w, Inv B st Ev F a w → wpListA B.rn P ops (QI B Q) l a w
  | [], st, h, Ev, F, a, w, hI => ⟨st, Ev, F, hI, h⟩
  | o :: rest, st, h, Ev, F, a, w, hI => by
    refine wpListA_step fun K hK => ?_
    rw [vcOps] at h
    unfold vcOne at h
    split at h
    · exact h.elim
    · rename_i hd
      obtain ⟨fr', hI1, hg⟩ := vcGuard.ok h hI
      rcases hg with ⟨hw, hrun⟩ | ⟨hw, hskip⟩
      · rw [if_pos hw]
        refine resOf_wpA (vcOp.ev hE hF hrun Ev F a w hI1) ?_
        rintro x w' ⟨v, st2, E', F', hn, hv, hI', _, _, hk⟩
        exact hK _ _ (vcOps.ok hE hF rest _ hk E' F' _ w' (hI'.updV hv (by rw [hn]; exact hd)))
      · rw [if_neg (by rw [hw]; simp)]
        exact hK _ _ (vcOps.ok hE hF rest _ hskip Ev F _ w (hI1.updV unit_den hd))
theorem vc_ok {B : Base} {P : Program} {E : TEnv} (hE : TOk P E) (hF : FOk P E) : ∀ (c : Code) (st : St) (Q : Exit → St → Prop), vcC (.std B P) E c st Q → CodeEv B P c st Q := by
  intro c
  induction c with
  | skip => intro st Q h Ev F a w hI; exact wpA_skip ⟨st, Ev, F, hI, h⟩
  | ret => intro st Q h Ev F a w hI; exact wpA_ret ⟨st, Ev, F, hI, h⟩
  | exit id => intro st Q h Ev F a w hI; exact wpA_exit ⟨st, Ev, F, hI, h⟩
  | label l => intro st Q h Ev F a w hI; exact wpA_label ⟨st, Ev, F, hI, h⟩
  | goto l => intro st Q h Ev F a w hI; exact wpA_goto ⟨st, Ev, F, hI, h⟩
  | seq x y ihx ihy =>
    intro st Q h Ev F a w hI
    refine wpA_seq (wpA_mono (ihx _ _ h Ev F a w hI) ?_)
    rintro e a' w' ⟨st', E', F', hI', hq⟩
    cases e with
    | normal => exact ihy _ _ hq E' F' a' w' hI'
    | exit id => exact ⟨st', E', F', hI', hq⟩
    | goto l => exact ⟨st', E', F', hI', hq⟩
    | ret => exact ⟨st', E', F', hI', hq⟩
    | panic ch => exact ⟨st', E', F', hI', hq⟩
    | outgrown => exact ⟨st', E', F', hI', hq⟩
  | cond x t f iht ihf =>
    intro st Q h Ev F a w hI
    unfold vcC at h
    split at h
    · rename_i b hb
      have hx : a.eval x = .bool b := (hI.ev hb).bool_inv
      refine wpA_cond_split hx (fun hb => ?_) (fun hb => ?_)
      · subst hb; exact iht _ _ h Ev F a w hI
      · subst hb; exact ihf _ _ h Ev F a w hI
    · exact h.elim
  | block id b ih =>
    intro st Q h Ev F a w hI
    refine wpA_block (wpA_mono (ih _ _ h Ev F a w hI) ?_)
    rintro e a' w' ⟨st', E', F', hI', hq⟩
    cases e with
    | exit id' =>
      simp only at hq
      show if id' = id then _ else _
      split at hq
      · rename_i he
        rw [if_pos (Nat.eq_of_beq_eq_true he)]
        exact ⟨st', E', F', hI', hq⟩
      · rename_i he
        rw [if_neg (by rintro rfl; simp at he)]
        exact ⟨st', E', F', hI', hq⟩
    | normal => exact ⟨st', E', F', hI', hq⟩
    | goto l => exact ⟨st', E', F', hI', hq⟩
    | ret => exact ⟨st', E', F', hI', hq⟩
    | panic ch => exact ⟨st', E', F', hI', hq⟩
    | outgrown => exact ⟨st', E', F', hI', hq⟩
  | region id ops draw =>
    intro st Q h Ev F a w hI
    cases draw with
    | false => exact wpA_region_list (vcOps.ok hE hF ops.toList st h Ev F a w hI)
    | true => exact h Ev F a w hI
  | loop b _ => intro st Q h; exact h
  | rangeFunc f ps x b _ _ => intro st Q h; exact h
  | scope b _ => intro st Q h; exact h
  | refuse why => intro st Q h; exact h
end Go.Lx
set_option linter.unusedSimpArgs false
set_option linter.unusedVariables false
namespace Go.Lx
open Go
open Go.Sx (NP Keeps Hp Keep0 TI TEnv TOk Kd Ar ArEq kdInt vcIf FOk kdOf FnOk)
structure OwnAt (H : Hp) (E : Ev) (Fs : Nat → NP) (own : List Res) : Prop where
  n : E.n = own.length
  held : ∀ (i : Nat) (r : Res), own[i]? = some r → Holds H E Fs i r
  apart : ∀ i j, i ≠ j → ∀ k, Fs i k → ¬ Fs j k
  low : ∀ i, own.length ≤ i → ∀ k, ¬ Fs i k
def FnEnd (H : Hp) (own : List Res) (E : Ev) (Fs : Nat → NP) (R : V → List Res → Prop) (e : Ending) (w' : World) : Prop :=
  ∃ x v own' E' Fs', e = .returned x ∧ Keeps (fun k => ∃ i, Fs i k) H.w w' ∧ own.length ≤ own'.length ∧ (∀ i k, Fs' i k → Fs i k ∨ H.w.heap.size ≤ k) ∧
    (∀ (i : Nat) (T : TypeId) (c : List V), own[i]? = some (.st T c) → E'.ρ i = E.ρ i ∧ ∃ c', own'[i]? = some (.st T c')) ∧ R v own' ∧
    ∀ M' : NP, (∀ k, M' k → H.M k ∨ ∃ i, Fs' i k) → OwnAt ⟨M', w'⟩ E' Fs' own' ∧ V.Den ⟨M', w'⟩ E' v x
def FnL (P : Program) (f : FuncId) (args : List V) (own : List Res) (R : V → List Res → Prop) : Prop :=
  FnOk P f ∧ ∀ H E Fs (vals : List Value), H.Bd → OwnAt H E Fs own → (∀ i k, Fs i k → H.M k) → DenL H E args vals → Calls P f vals.toArray H.w (FnEnd H own E Fs R)
theorem FnL.mono {P : Program} {f : FuncId} {args : List V} {own : List Res} {R R' : V → List Res → Prop} (h : FnL P f args own R) (hr : ∀ v own', R v own' → R' v own') : FnL P f args own R' :=
  ⟨h.1, fun H E Fs vals h1 h2 h3 h4 => Calls.mono (h.2 H E Fs vals h1 h2 h3 h4) fun e w' ⟨x, v, own', E', Fs', g1, g2, g3, g4, g5, g6, g7⟩ => ⟨x, v, own', E', Fs', g1, g2, g3, g4, g5, hr _ _ g6, g7⟩⟩
def baseL (mk : Bool) (H : Hp) (own : List Res) (E : Ev) (Fs : Nat → NP) : Base := ⟨H.M, H.w, E, Fs, own, [], mk, fun _ => False, none⟩
def fnPost (ret : St → Prop) (e : Exit) (st : St) : Prop :=
  match e with
  | .normal => ret st
  | .ret => ret st
  | _ => False
def RetEv (B : Base) (P : Program) (fn : Func) (st : St) (R : V → List Res → Prop) : Prop :=
  ∀ E F a w, Inv B st E F a w → ∃ x, (results fn a.tmps).run P w = .ok x w ∧ ∃ st' E' F' v, Inv B st' E' F' a w ∧ V.Den ⟨nowM B F', w⟩ E' v x ∧ R v st'.own
def VcAll (B : Base) (P : Program) (E : TEnv) (c : Code) (st : St) (Ret : St → Prop) : Prop :=
  ∀ add sub mul quo rem band bor bxor bclr shl shr ieq ilt ile seq slt beq bnot orb bcond iwrap iof ssz,
    ArEq add sub mul quo rem band bor bxor bclr shl shr ieq ilt ile seq slt beq bnot orb bcond iwrap iof ssz →
    ∀ cat sq sl imin imax smin smax len slen u8, LrEq cat sq sl imin imax smin smax len slen u8 →
    ∀ op, (∀ o X st k, OpEv B P o X st k → op o X st k) → ∀ call, (∀ f l X st k, CallEv B P f l X st k → call f l X st k) → ∀ code, (∀ c st Q, CodeEv B P c st Q → code c st Q) → ∀ ret : St → Prop, (∀ st, Ret st → ret st) →
    vcC ⟨⟨⟨add, sub, mul, quo, rem, band, bor, bxor, bclr, shl, shr, ieq, ilt, ile, seq, slt, beq, bnot, orb, bcond, iwrap, iof, ssz⟩, cat, sq, sl, imin, imax, smin, smax, len, slen, u8⟩, op, call, code⟩ E c st (fnPost ret)
theorem VcAll.ok {B : Base} {P : Program} {E : TEnv} (hE : TOk P E) (hF : FOk P E) {c : Code} {st : St} {Ret : St → Prop} (h : VcAll B P E c st Ret) : CodeEv B P c st (fnPost Ret) :=
  vc_ok hE hF _ _ _ (h _ _ _ _ _ _ _ _ _ _ _ _ _ _ _ _ _ _ _ _ _ _ _ ArEq.std _ _ _ _ _ _ _ _ _ _ LrEq.std _ (fun _ _ _ _ h => h) _ (fun _ _ _ _ _ h => h) _ (fun _ _ _ h => h) _ (fun _ h => h))
def zipArgs : Nat → List V → List (Nat × V)
  | _, [] => []
  | i, x :: r => (i, x) :: zipArgs (i + 1) r
theorem look_zipArgs : ∀ (l : List V) (i t : Nat), look (zipArgs i l) t = if i ≤ t then l[t - i]? else none
  | [], i, t => by simp [zipArgs, look]
  | x :: r, i, t => by
    simp only [zipArgs, look_cons, look_zipArgs r (i + 1) t]
    by_cases h : t = i
    · subst h; simp
    · rw [if_neg h]
      by_cases h2 : i ≤ t
      · rw [if_pos (show i + 1 ≤ t by omega), if_pos h2]
        rw [show t - i = (t - (i + 1)) + 1 by omega]
        simp
      · rw [if_neg (show ¬ i + 1 ≤ t by omega), if_neg h2]
theorem Inv.start {H : Hp} {E0 : Ev} {Fs : Nat → NP} {own : List Res} {args : List V} {vals : List Value} (mk : Bool) {n : Nat} (hM : H.Bd) (hO : OwnAt H E0 Fs own) (hFM : ∀ i k, Fs i k → H.M k) (hargs : DenL H E0 args vals) (hle : args.length ≤ n) :
    Inv (baseL mk H own E0 Fs) ⟨n, zipArgs 0 args, own⟩ E0 Fs { tmps := vals.toArray ++ Array.replicate (n - vals.toArray.size) undef, defers := [] } H.w := by
  have hB : H.Le ⟨nowM (baseL mk H own E0 Fs) Fs, H.w⟩ := ⟨rfl, rfl, rfl, Nat.le_refl _, fun k hk hm => ⟨rfl, fun c => by
    rcases c with c | ⟨i, c⟩
    · exact hm c
    · exact hm (hFM i k c)⟩⟩
  refine ⟨by simp [hargs.1]; omega, hO.n, fun t v ht => ?_, ⟨[], rfl, fun _ => rfl, List.nodup_nil, fun D hD => by cases hD⟩, fun i r hr => ?_, hO.apart, hO.low, Keeps.refl _ _, fun i k hk => .inl hk, Nat.le_refl _, fun i T c hi => ⟨rfl, c, hi⟩, hM, fun i hi k => hO.low i hi k, fun l r h => by cases h⟩
  · rw [look_zipArgs] at ht
    simp only [Nat.zero_le, if_true, Nat.sub_zero] at ht
    obtain ⟨x, hx, hd⟩ := hargs.get ht
    have hlt : t < vals.length := lt_of_some hx
    have e : (vals.toArray ++ Array.replicate (n - vals.toArray.size) undef).getD t undef = x := by
      rw [Array.getD_eq_getD_getElem?, Array.getElem?_append_left (by simpa using hlt)]
      simp [hx]
    rw [e]; exact hd.mono hB (.refl E0)
  · have := (hO.held i r hr).stay (f := fun v => v) hB (.refl E0 i) (fun c v h => h.mono hB (.refl E0)) rfl fun _ _ => rfl
    rwa [Res.map_id] at this
theorem Inv.fnEnd {H : Hp} {E0 : Ev} {Fs : Nat → NP} {own : List Res} {mk : Bool} {st : St} {E : Ev} {F : Nat → NP} {a : Act} {w : World} {R : V → List Res → Prop} {v : V} {x : Value}
    (hI : Inv (baseL mk H own E0 Fs) st E F a w) (hd : V.Den ⟨nowM (baseL mk H own E0 Fs) F, w⟩ E v x) (hR : R v st.own) : FnEnd H own E0 Fs R (.returned x) w := by
  refine ⟨x, v, st.own, E, F, rfl, hI.keep.mono (fun k _ h => h.elim id False.elim), hI.olen, hI.fresh, hI.pin, hR, fun M' hM' => ?_⟩
  have hle2 : Hp.Le ⟨nowM (baseL mk H own E0 Fs) F, w⟩ ⟨M', w⟩ := ⟨rfl, rfl, rfl, Nat.le_refl _, fun k hk hm => ⟨rfl, fun c => hm (hM' k c)⟩⟩
  refine ⟨⟨hI.en, fun i r hr => ?_, hI.apart, hI.low⟩, hd.mono hle2 (.refl E)⟩
  have := (hI.held i r hr).stay (f := fun v => v) hle2 (.refl E i) (fun c v h => h.mono hle2 (.refl E)) rfl fun _ _ => rfl
  rwa [Res.map_id] at this
theorem leave_marks {P : Program} {fn : Func} {R : Ending → World → Prop} {B : Base} {st : St} {E : Ev} {F : Nat → NP} {tmps : Array Value} (fin : ∀ w, Inv B st E F ⟨tmps, B.dfr⟩ w → LeavesInM Fence.wide 9 P fn tmps R B.dfr .returning w) :
    ∀ (ms : List Nat) (w : World), Inv B st E F ⟨tmps, ms.map mark ++ B.dfr⟩ w → ms.Nodup → (B.marks = false → ms = []) → (∀ D ∈ ms, B.w0.heap.size ≤ D ∧ (∀ i, ¬ F i D) ∧ w.heap[D]? = some (.deferred (some []))) →
      LeavesInM Fence.wide 9 P fn tmps R (ms.map mark ++ B.dfr) .returning w
  | [], w, hI, _, _, _ => fin w hI
  | D :: ms, w, hI, hn, h0, hD => by
    obtain ⟨g1, g2, g3⟩ := hD D (by simp)
    have hne : ∀ D' ∈ ms, D' ≠ D := fun D' h e => (List.nodup_cons.1 hn).1 (e ▸ h)
    have hh : ∀ D' ∈ ms, B.w0.heap.size ≤ D' ∧ (∀ i, ¬ F i D') ∧ (w.putObj D (.deferred none)).heap[D']? = some (.deferred (some [])) := fun D' h => by
      obtain ⟨k1, k2, k3⟩ := hD D' (by simp [h])
      exact ⟨k1, k2, (World.putObj_heap_other (hne D' h)).trans k3⟩
    refine ⟨by simp, .inl ⟨D, _, rfl, run_takeDeferred g3, ?_⟩⟩
    refine leave_marks fin ms _ ?_ (List.nodup_cons.1 hn).2 (fun h => absurd (h0 h) (by simp)) hh
    refine hI.book rfl rfl rfl (by simp) (fun k hk => World.putObj_heap_other ?_) (fun k hk _ => World.putObj_heap_other (by omega)) (fun l r hl => (World.putObj_heap_other (fun e => by have := hI.rc l r hl; rw [e, g3] at this; cases this)).trans (hI.rc l r hl)) rfl ⟨ms, rfl, fun h => absurd (h0 h) (by simp), (List.nodup_cons.1 hn).2, hh⟩
    rintro rfl
    obtain ⟨c, T, fz, hk⟩ := hk
    rw [g3] at hk; cases hk
theorem fnM_of_vc {P : Program} {E : TEnv} (hE : TOk P E) (hF : FOk P E) {f : FuncId} {fn : Func} {c : Code} (hfn : FnOk P f) (hf : P.funcs[f]? = some fn) (hb : fn.body = some c) {n : Nat} (hn : fn.ntmps = n)
    {args : List V} (hl : Nat.ble args.length n = true) {own : List Res} {R : V → List Res → Prop}
    (h : ∀ B : Base, B.own0 = own → B.dfr = [] → B.marks = true → VcAll B P E c ⟨n, zipArgs 0 args, own⟩ (fun st => RetEv B P fn st R)) : FnL P f args own R := by
  refine ⟨hfn, fun H E0 Fs vals hM hO hFM hargs => ?_⟩
  subst hn
  have hI := Inv.start true hM hO hFM hargs (Nat.le_of_ble_eq_true hl)
  refine (callsIn_wide (n := 9)).1 (callsIn_of_wp_marks hf hb trivial (wpIn_mono ((h (baseL true H own E0 Fs) rfl rfl rfl).ok hE hF E0 Fs _ H.w hI) ?_))
  rintro e a' w' ⟨st1, E1, F1, hI1, hq⟩
  have fin : RetEv (baseL true H own E0 Fs) P fn st1 R → LeavesInM Fence.wide 9 P fn a'.tmps (FnEnd H own E0 Fs R) a'.defers .returning w' := by
    intro hr
    obtain ⟨ms, h1, h0, h2, h3⟩ := hI1.defers
    rw [h1]
    refine leave_marks (fun w hI2 => ?_) ms w' (by rw [← h1]; exact hI1) h2 h0 h3
    obtain ⟨x, h1, st2, E2, F2, v, hI3, h2, h3⟩ := hr E1 F1 _ w hI2
    exact ⟨x, h1, hI3.fnEnd h2 h3⟩
  cases e with
  | normal => exact fin hq
  | ret => exact fin hq
  | exit id => exact hq.elim
  | goto l => exact hq.elim
  | panic ch => exact hq.elim
  | outgrown => exact hq.elim
theorem fn_of_vc {P : Program} {E : TEnv} (hE : TOk P E) (hF : FOk P E) {f : FuncId} {fn : Func} {c : Code} (hfn : FnOk P f) (hf : P.funcs[f]? = some fn) (hb : fn.body = some c) {n : Nat} (hn : fn.ntmps = n)
    {args : List V} (hl : Nat.ble args.length n = true) {own : List Res} {R : V → List Res → Prop}
    (h : ∀ B : Base, B.own0 = own → VcAll B P E c ⟨n, zipArgs 0 args, own⟩ (fun st => RetEv B P fn st R)) : FnL P f args own R := fnM_of_vc hE hF hfn hf hb hn hl fun B hB _ _ => h B hB
/-! ### The end -/
def resV1 (E : TEnv) (st : St) : ResultVar → Option V
  | .tmp t => look st.fr t
  | .cell t T => match E.get T, look st.fr t with
    | some ti, some (.own i off) => match st.own[i]? with
      | some (.st _ cells) => loadC ti.agg ti.size cells off
      | _ => none
    | _, _ => none
def resVs (E : TEnv) (st : St) : List ResultVar → Option (List V)
  | [] => some []
  | r :: rs => match resV1 E st r, resVs E st rs with
    | some x, some l => some (x :: l)
    | _, _ => none
def oneOf : List V → V
  | [x] => x
  | l => mkTup l
theorem resV1_ok {P : Program} {E : TEnv} (hE : TOk P E) {B : Base} {st : St} {Ev : Ev} {F : Nat → NP} {a : Act} {w : World} (hI : Inv B st Ev F a w) {r : ResultVar} {v : V} (h : resV1 E st r = some v) :
    ∃ x, (Sx.resSem a.tmps r).run P w = .ok x w ∧ V.Den ⟨nowM B F, w⟩ Ev v x := by
  cases r with
  | tmp t => exact ⟨a.tmps.getD t undef, rfl, hI.slot t v h⟩
  | cell t T =>
    simp only [resV1] at h
    split at h
    · rename_i ti i off hti hl
      obtain ⟨inf, d, his⟩ := hE.get hti
      split at h
      · rename_i T' cells hi
        obtain ⟨_, hF, vals, hg, hd⟩ := hI.held i _ hi
        obtain ⟨y, hy, hden⟩ := loadC_run (P := P) his hg hd h
        refine ⟨y, ?_, hden⟩
        have h1 := hI.slot t _ hl
        generalize hx : a.tmps.getD t undef = x at h1
        cases h1 with
        | own _ _ hin =>
          simp only [Sx.resSem, hx, asAddr, Sem.run_bind, Sem.run_pure, Result.andThen_ok]
          exact hy w rfl
      · cases h
    · cases h
theorem resVs_ok {P : Program} {E : TEnv} (hE : TOk P E) {B : Base} {st : St} {Ev : Ev} {F : Nat → NP} {a : Act} {w : World} (hI : Inv B st Ev F a w) : ∀ {rs : List ResultVar} {vs : List V}, resVs E st rs = some vs →
    ∃ xs, (rs.mapM (Sx.resSem a.tmps)).run P w = .ok xs w ∧ DenL ⟨nowM B F, w⟩ Ev vs xs
  | [], vs, h => by simp [resVs] at h; subst h; exact ⟨[], rfl, DenL.nil⟩
  | r :: rs, vs, h => by
    simp only [resVs] at h
    split at h
    · rename_i v l h1 h2
      cases h
      obtain ⟨x, g1, g2⟩ := resV1_ok hE hI h1
      obtain ⟨xs, g3, g4⟩ := resVs_ok hE hI h2
      refine ⟨x :: xs, ?_, DenL.cons g2 g4⟩
      rw [List.mapM_cons, Sem.run_bind, g1]
      simp only [Result.andThen_ok]
      rw [Sem.run_bind, g3]
      rfl
    · cases h
theorem results_ok {P : Program} {E : TEnv} (hE : TOk P E) {B : Base} {st : St} {Ev : Ev} {F : Nat → NP} {a : Act} {w : World} (hI : Inv B st Ev F a w) {fn : Func} {vs : List V} (h : resVs E st fn.results.toList = some vs) :
    ∃ x, (results fn a.tmps).run P w = .ok x w ∧ V.Den ⟨nowM B F, w⟩ Ev (oneOf vs) x := by
  obtain ⟨xs, h1, hd⟩ := resVs_ok hE hI h
  have tupd : ∀ {l : List V} {xs : List Value}, DenL ⟨nowM B F, w⟩ Ev l xs → V.Den ⟨nowM B F, w⟩ Ev (mkTup l) (.tuple xs.toArray) := fun hd => mkTup_den hd
  unfold results
  rw [Sem.run_bind, Array.mapM_eq_mapM_toList]
  simp only [Sem.run_map]
  have h2 : ∀ (f g : ResultVar → Sem Value), (∀ r, f r = g r) → fn.results.toList.mapM f = fn.results.toList.mapM g := fun f g hfg => by rw [show f = g from funext hfg]
  rw [h2 _ (Sx.resSem a.tmps) (fun r => by cases r <;> rfl), h1]
  simp only [Result.andThen_ok]
  match vs, xs, hd with
  | [], [], hd => exact ⟨_, rfl, tupd hd⟩
  | [v], [x], hd => exact ⟨x, rfl, hd.2 0 v x rfl rfl⟩
  | v :: u :: r, x :: y :: s, hd => exact ⟨_, rfl, tupd hd⟩
  | [], _ :: _, hd => have := hd.1; simp at this
  | _ :: _, [], hd => have := hd.1; simp at this
  | [_], _ :: _ :: _, hd => have := hd.1; simp at this
  | _ :: _ :: _, [_], hd => have := hd.1; simp at this
theorem RetEv.ret {P : Program} {E : TEnv} (hE : TOk P E) {B : Base} {st : St} {fn : Func} {R : V → List Res → Prop} {vs : List V} (h : resVs E st fn.results.toList = some vs) (hR : R (oneOf vs) st.own) : RetEv B P fn st R := by
  intro Ev F a w hI
  obtain ⟨x, h1, h2⟩ := results_ok hE hI h
  exact ⟨x, h1, st, Ev, F, oneOf vs, hI, h2, hR⟩
theorem RetEv.retF {P : Program} {E : TEnv} (hE : TOk P E) {B : Base} {st : St} {fn : Func} {R : V → List Res → Prop} {vs : List V} (h : resVs E st fn.results.toList = some vs) (j : Nat) {T : TypeId} {sz : Nat} {xs : List PV} (hj : st.own[j]? = some (.arr T sz xs)) (hn : B.own0.length ≤ j)
    (hR : R ((oneOf vs).frz j xs) ((st.own.map (Res.map (V.frz j xs))).set j .dead)) : RetEv B P fn st R := by
  intro Ev F a w hI
  obtain ⟨x, h1, h2⟩ := results_ok hE hI h
  have hI2 := hI.freeze hj hn
  refine ⟨x, h1, _, Ev, _, _, hI2, ?_, hR⟩
  have hle := hI.le (F' := pushF F j fun _ => False) (keepsNone (Keeps.refl _ w)) (fun i k h => by
    by_cases hi : i = j
    · subst hi; rw [pushF_self] at h; exact h.elim
    · rw [pushF_ne i hi] at h; exact .inl h)
  refine h2.frz hI hj hle rfl fun k hk => ?_
  rintro (c | ⟨i, c⟩)
  · have h1 := hI.bd k c
    rcases hI.fresh j k hk with h2 | h2
    · exact hI.low0 j hn k h2
    · omega
  · by_cases hi : i = j
    · subst hi; rw [pushF_self] at c; exact c
    · rw [pushF_ne i hi] at c; exact hI.apart i j hi k c hk
theorem RetEv.conv {P : Program} {B : Base} {st st' : St} {fn : Func} {R : V → List Res → Prop} (hc : ∀ E F a w, Inv B st E F a w → ∃ E' F', Inv B st' E' F' a w) (h : RetEv B P fn st' R) : RetEv B P fn st R := by
  intro E F a w hI
  obtain ⟨E', F', hI'⟩ := hc E F a w hI
  exact h E' F' a w hI'
end Go.Lx
